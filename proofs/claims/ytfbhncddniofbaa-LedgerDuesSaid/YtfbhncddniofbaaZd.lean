/- What the proof of the law needs: the abstract machine, the functions as it reads them, their contracts, part 4. -/
import Derived.Test.YtfbhncddniofbaaZc
import Derived.Test.YtfbhncddniofbaaProg
import Derived.KernelRfl
namespace Go.Proofs.Ytfbhncddniofbaa
open Go Go.Am Go.Proofs
def c5r0 : List AOper := [
  ⟨(some 3), none, .box (.t 1)⟩,
  ⟨(some 4), none, .mv (.c (.b false))⟩]
def c5r1 : List AOper := [
  ⟨(some 10), none, .mv (.t 0)⟩,
  ⟨(some 11), none, .call (.c (.fn 31 [] [])) [(.t 10)]⟩,
  ⟨(some 9), none, .mv (.t 11)⟩,
  ⟨(some 12), none, .ext (.t 9) 0⟩,
  ⟨(some 13), none, .ext (.t 9) 1⟩,
  ⟨(some 5), none, .mv (.t 12)⟩,
  ⟨(some 6), none, .mv (.t 13)⟩]
def c5r2 : List AOper := [
  ⟨(some 15), none, .mv (.t 0)⟩,
  ⟨(some 16), none, .call (.c (.fn 32 [] [])) [(.t 15)]⟩,
  ⟨(some 14), none, .mv (.t 16)⟩,
  ⟨(some 17), none, .ext (.t 14) 0⟩,
  ⟨(some 18), none, .ext (.t 14) 1⟩,
  ⟨(some 7), none, .mv (.t 17)⟩,
  ⟨(some 8), none, .mv (.t 18)⟩]
def c5r3 : List AOper := [
  ⟨(some 19), none, .mv (.t 0)⟩,
  ⟨(some 20), none, .call (.c (.fn 33 [] [])) [(.t 19)]⟩,
  ⟨(some 21), none, .mv (.t 0)⟩,
  ⟨(some 22), none, .call (.c (.fn 34 [] [])) [(.t 21)]⟩,
  ⟨(some 23), none, .bin true .neq (.t 20) (.t 22)⟩,
  ⟨(some 24), none, .mv (.t 23)⟩,
  ⟨(some 25), (some (24, false)), .mv (.t 5)⟩,
  ⟨(some 26), (some (24, false)), .mv (.t 7)⟩,
  ⟨(some 27), (some (24, false)), .call (.c (.fn 35 [] [])) [(.t 25), (.t 26)]⟩,
  ⟨(some 28), (some (24, false)), .not (.t 27)⟩,
  ⟨(some 29), none, .pick (.t 24) (.c (.b true)) (.t 28)⟩,
  ⟨(some 30), none, .mv (.t 29)⟩,
  ⟨(some 31), (some (30, false)), .mv (.t 6)⟩,
  ⟨(some 32), (some (30, false)), .mv (.t 8)⟩,
  ⟨(some 33), (some (30, false)), .bin false .neq (.t 31) (.t 32)⟩,
  ⟨(some 34), none, .pick (.t 30) (.c (.b true)) (.t 33)⟩]
def c5r4 : List AOper := [
  ⟨(some 4), none, .mv (.c (.b false))⟩]
def c5r5 : List AOper := [
  ⟨(some 36), none, .mv (.t 0)⟩,
  ⟨(some 37), none, .ld (some 4) (.t 3)⟩,
  ⟨(some 38), none, .call (.c (.fn 25 [] [])) [(.t 36), (.t 37)]⟩,
  ⟨(some 35), none, .mv (.t 38)⟩,
  ⟨(some 39), none, .ext (.t 35) 0⟩,
  ⟨(some 40), none, .ext (.t 35) 1⟩,
  ⟨(some 5), none, .mv (.t 39)⟩,
  ⟨(some 6), none, .mv (.t 40)⟩]
def c5r6 : List AOper := [
  ⟨(some 42), none, .mv (.t 0)⟩,
  ⟨(some 43), none, .ld (some 4) (.t 3)⟩,
  ⟨(some 44), none, .call (.c (.fn 36 [] [])) [(.t 42), (.t 43)]⟩,
  ⟨(some 41), none, .mv (.t 44)⟩,
  ⟨(some 45), none, .ext (.t 41) 0⟩,
  ⟨(some 46), none, .ext (.t 41) 1⟩,
  ⟨(some 7), none, .mv (.t 45)⟩,
  ⟨(some 8), none, .mv (.t 46)⟩]
def c5r7 : List AOper := [
  ⟨(some 47), none, .mv (.t 5)⟩,
  ⟨(some 48), none, .mv (.t 7)⟩,
  ⟨(some 49), none, .call (.c (.fn 35 [] [])) [(.t 47), (.t 48)]⟩,
  ⟨(some 50), none, .mv (.t 49)⟩,
  ⟨(some 51), (some (50, true)), .mv (.t 6)⟩,
  ⟨(some 52), (some (50, true)), .mv (.t 8)⟩,
  ⟨(some 53), (some (50, true)), .bin false .eql (.t 51) (.t 52)⟩,
  ⟨(some 54), none, .pick (.t 50) (.t 53) (.c (.b false))⟩,
  ⟨(some 55), none, .mv (.t 54)⟩,
  ⟨(some 56), (some (55, true)), .call (.c (.fn 37 [] [])) []⟩,
  ⟨(some 57), none, .pick (.t 55) (.t 56) (.c (.b false))⟩,
  ⟨(some 4), none, .mv (.t 57)⟩]
abbrev c5 : AC := (.seq (.reg c5r0) (.seq (.reg c5r1) (.seq (.reg c5r2) (.seq (.seq (.reg c5r3) (.cond (.t 34) (.seq (.reg c5r4) .ret) .skip)) (.seq (.reg c5r5) (.seq (.reg c5r6) (.seq (.reg c5r7) .ret)))))))
def q5 : List ARes := [.t 4]
def c6r0 : List AOper := [
  ⟨(some 8), none, .mv (.c (.b false))⟩]
def c6r1 : List AOper := [
  ⟨(some 17), none, .mv (.t 0)⟩,
  ⟨(some 18), none, .mv (.t 1)⟩,
  ⟨(some 19), none, .mv (.t 2)⟩,
  ⟨(some 20), none, .call (.c (.fn 38 [] [])) [(.t 17), (.t 18), (.t 19)]⟩,
  ⟨(some 16), none, .mv (.t 20)⟩,
  ⟨(some 21), none, .ext (.t 16) 0⟩,
  ⟨(some 22), none, .ext (.t 16) 1⟩,
  ⟨(some 9), none, .mv (.t 21)⟩,
  ⟨(some 10), none, .mv (.t 22)⟩]
def c6r2 : List AOper := [
  ⟨(some 24), none, .mv (.t 0)⟩,
  ⟨(some 25), none, .mv (.t 1)⟩,
  ⟨(some 26), none, .mv (.t 2)⟩,
  ⟨(some 27), none, .call (.c (.fn 39 [] [])) [(.t 24), (.t 25), (.t 26)]⟩,
  ⟨(some 23), none, .mv (.t 27)⟩,
  ⟨(some 28), none, .ext (.t 23) 0⟩,
  ⟨(some 29), none, .ext (.t 23) 1⟩,
  ⟨(some 11), none, .mv (.t 28)⟩,
  ⟨(some 12), none, .mv (.t 29)⟩]
def c6r3 : List AOper := [
  ⟨(some 30), none, .mv (.t 9)⟩,
  ⟨(some 31), none, .mv (.t 11)⟩,
  ⟨(some 32), none, .bin true .neq (.t 30) (.t 31)⟩,
  ⟨(some 33), none, .mv (.t 32)⟩,
  ⟨(some 34), (some (33, false)), .mv (.t 10)⟩,
  ⟨(some 35), (some (33, false)), .mv (.t 12)⟩,
  ⟨(some 36), (some (33, false)), .bin false .neq (.t 34) (.t 35)⟩,
  ⟨(some 37), none, .pick (.t 33) (.c (.b true)) (.t 36)⟩]
def c6r4 : List AOper := [
  ⟨(some 8), none, .mv (.c (.b false))⟩]
def c6r5 : List AOper := [
  ⟨(some 39), none, .mv (.t 0)⟩,
  ⟨(some 40), none, .mv (.t 2)⟩,
  ⟨(some 41), none, .mv (.t 3)⟩,
  ⟨(some 42), none, .call (.c (.fn 40 [] [])) [(.t 39), (.t 40), (.t 41)]⟩,
  ⟨(some 38), none, .mv (.t 42)⟩,
  ⟨(some 43), none, .ext (.t 38) 0⟩,
  ⟨(some 44), none, .ext (.t 38) 1⟩,
  ⟨(some 13), none, .mv (.t 43)⟩,
  ⟨(some 10), none, .mv (.t 44)⟩]
def c6r6 : List AOper := [
  ⟨(some 46), none, .mv (.t 0)⟩,
  ⟨(some 47), none, .mv (.t 2)⟩,
  ⟨(some 48), none, .mv (.t 3)⟩,
  ⟨(some 49), none, .call (.c (.fn 41 [] [])) [(.t 46), (.t 47), (.t 48)]⟩,
  ⟨(some 45), none, .mv (.t 49)⟩,
  ⟨(some 50), none, .ext (.t 45) 0⟩,
  ⟨(some 51), none, .ext (.t 45) 1⟩,
  ⟨(some 14), none, .mv (.t 50)⟩,
  ⟨(some 12), none, .mv (.t 51)⟩]
def c6r7 : List AOper := [
  ⟨(some 52), none, .mv (.t 10)⟩,
  ⟨(some 53), none, .mv (.t 12)⟩,
  ⟨(some 54), none, .bin false .neq (.t 52) (.t 53)⟩,
  ⟨(some 55), none, .mv (.t 54)⟩,
  ⟨(some 56), (some (55, false)), .mv (.t 13)⟩,
  ⟨(some 57), (some (55, false)), .len (.t 56)⟩,
  ⟨(some 58), (some (55, false)), .mv (.t 14)⟩,
  ⟨(some 59), (some (55, false)), .len (.t 58)⟩,
  ⟨(some 60), (some (55, false)), .bin false .neq (.t 57) (.t 59)⟩,
  ⟨(some 61), none, .pick (.t 55) (.c (.b true)) (.t 60)⟩]
def c6r8 : List AOper := [
  ⟨(some 8), none, .mv (.c (.b false))⟩]
def c6r9 : List AOper := [
  ⟨(some 62), none, .mv (.t 13)⟩,
  ⟨(some 63), none, .len (.t 62)⟩,
  ⟨(some 64), none, .mv (.c (.i .i64 0))⟩]
def c6r10 : List AOper := [
  ⟨(some 65), none, .bin false .lss (.t 64) (.t 63)⟩]
def c6r11 : List AOper := [
  ⟨(some 66), none, .mv (.t 64)⟩,
  ⟨(some 15), none, .mv (.t 66)⟩]
def c6r12 : List AOper := [
  ⟨(some 67), none, .mv (.t 13)⟩,
  ⟨(some 68), none, .mv (.t 15)⟩,
  ⟨(some 69), none, .ia 1 (.t 67) (.t 68)⟩,
  ⟨(some 70), none, .ld none (.t 69)⟩,
  ⟨(some 71), none, .mv (.t 14)⟩,
  ⟨(some 72), none, .mv (.t 15)⟩,
  ⟨(some 73), none, .ia 1 (.t 71) (.t 72)⟩,
  ⟨(some 74), none, .ld none (.t 73)⟩,
  ⟨(some 75), none, .bin false .neq (.t 70) (.t 74)⟩]
def c6r13 : List AOper := [
  ⟨(some 8), none, .mv (.c (.b false))⟩]
def c6r14 : List AOper := [
  ⟨(some 76), none, .bin false .add (.t 64) (.c (.i .i64 1))⟩,
  ⟨(some 64), none, .mv (.t 76)⟩]
abbrev c6b15 : AC := (.seq (.reg c6r10) (.seq (.cond (.t 65) .skip (.exit 0)) (.seq (.blk 1 (.seq (.reg c6r11) (.seq (.head 8 c6r12) (.cond (.t 75) (.seq (.reg c6r13) .ret) .skip)))) (.reg c6r14))))
def c6r16 : List AOper := [
  ⟨(some 77), none, .call (.c (.fn 37 [] [])) []⟩,
  ⟨(some 8), none, .mv (.t 77)⟩]
abbrev c6 : AC := (.seq (.reg c6r0) (.seq (.reg c6r1) (.seq (.reg c6r2) (.seq (.seq (.reg c6r3) (.cond (.t 37) (.seq (.reg c6r4) .ret) .skip)) (.seq (.reg c6r5) (.seq (.reg c6r6) (.seq (.seq (.reg c6r7) (.cond (.t 61) (.seq (.reg c6r8) .ret) .skip)) (.seq (.seq (.reg c6r9) (.blk 0 (.loop c6b15))) (.seq (.reg c6r16) .ret)))))))))
def q6 : List ARes := [.t 8]
theorem fn6 : fnOf Try.prog 6 = some (c6, q6, 78) := by kernel_rfl
def c23r0 : List AOper := [
  ⟨(some 0), none, .mv (.c (.nilp))⟩]
def c23r1 : List AOper := [
  ⟨(some 1), none, .bld [.sl 0 0 0 0, .sl 0 0 0 0, .i .i64 0, .i .i64 0, .b false, .b false, .i .i64 0] [(5, 1, (.c (.b true)))]⟩,
  ⟨(some 2), none, .box (.t 1)⟩,
  ⟨(some 0), none, .mv (.t 2)⟩]
abbrev c23 : AC := (.seq (.reg c23r0) (.seq (.reg c23r1) .ret))
def q23 : List ARes := [.t 0]
theorem fn23 : fnOf Try.prog 23 = some (c23, q23, 3) := by kernel_rfl
def c24r0 : List AOper := [
  ⟨(some 2), none, .mv (.c (.nilp))⟩,
  ⟨(some 3), none, .mv (.c (.i .i64 0))⟩]
def c24r1 : List AOper := [
  ⟨(some 11), none, .mv (.t 0)⟩,
  ⟨(some 12), none, .call (.c (.fn 61 [] [])) [(.t 11)]⟩]
def c24r2 : List AOper := [
  ⟨(some 2), none, .mv (.c (.nilp))⟩,
  ⟨(some 3), none, .mv (.c (.i .i64 91))⟩]
def c24r3 : List AOper := [
  ⟨(some 13), none, .mv (.t 0)⟩,
  ⟨(some 14), none, .mv (.t 0)⟩,
  ⟨(some 15), none, .nck (.t 14)⟩,
  ⟨(some 16), none, .fa (.t 15) 6⟩,
  ⟨(some 17), none, .ld none (.t 16)⟩,
  ⟨(some 18), none, .bld [.nilp, .i .i64 0, .b false, .i .i64 0, .sl 0 0 0 0] [(0, 1, (.t 13)), (1, 1, (.t 17))]⟩,
  ⟨(some 19), none, .box (.t 18)⟩,
  ⟨(some 4), none, .mv (.t 19)⟩]
def c24r4 : List AOper := [
  ⟨(some 20), none, .mv (.c (.i .i64 0))⟩]
def c24r5 : List AOper := [
  ⟨(some 21), none, .bin false .lss (.t 20) (.c (.i .i64 2))⟩]
def c24r6 : List AOper := [
  ⟨(some 22), none, .mv (.t 20)⟩,
  ⟨(some 5), none, .mv (.t 22)⟩]
def c24r7 : List AOper := [
  ⟨(some 24), none, .mv (.t 0)⟩,
  ⟨(some 25), none, .mv (.t 5)⟩,
  ⟨(some 26), none, .call (.c (.fn 62 [] [])) [(.t 24), (.t 25)]⟩,
  ⟨(some 23), none, .mv (.t 26)⟩,
  ⟨(some 27), none, .ext (.t 23) 0⟩,
  ⟨(some 28), none, .ext (.t 23) 1⟩,
  ⟨(some 6), none, .mv (.t 27)⟩,
  ⟨(some 7), none, .mv (.t 28)⟩]
def c24r8 : List AOper := [
  ⟨(some 30), none, .mv (.t 5)⟩,
  ⟨(some 31), none, .mv (.t 6)⟩,
  ⟨(some 32), none, .call (.c (.fn 63 [] [])) [(.t 30), (.t 31)]⟩,
  ⟨(some 29), none, .mv (.t 32)⟩,
  ⟨(some 33), none, .ext (.t 29) 0⟩,
  ⟨(some 34), none, .ext (.t 29) 1⟩,
  ⟨(some 35), none, .ext (.t 29) 2⟩,
  ⟨(some 8), none, .mv (.t 33)⟩,
  ⟨(some 9), none, .mv (.t 34)⟩,
  ⟨(some 10), none, .mv (.t 35)⟩]
def c24r9 : List AOper := [
  ⟨(some 36), none, .mv (.t 10)⟩,
  ⟨(some 37), none, .mv (.t 36)⟩,
  ⟨(some 38), (some (37, true)), .mv (.t 8)⟩,
  ⟨(some 39), (some (37, true)), .mv (.t 4)⟩,
  ⟨(some 40), (some (37, true)), .nck (.t 39)⟩,
  ⟨(some 41), (some (37, true)), .fa (.t 40) 3⟩,
  ⟨(some 42), (some (37, true)), .ld none (.t 41)⟩,
  ⟨(some 43), (some (37, true)), .bin false .gtr (.t 38) (.t 42)⟩,
  ⟨(some 44), none, .pick (.t 37) (.t 43) (.c (.b false))⟩]
def c24r10 : List AOper := [
  ⟨(some 45), none, .mv (.t 4)⟩,
  ⟨(some 46), none, .mv (.t 4)⟩,
  ⟨(some 47), none, .mv (.t 8)⟩,
  ⟨(some 48), none, .mv (.t 9)⟩,
  ⟨(some 49), none, .nck (.t 45)⟩,
  ⟨(some 50), none, .fa (.t 49) 3⟩,
  ⟨none, none, .sto none (.t 50) (.t 47)⟩,
  ⟨(some 51), none, .nck (.t 46)⟩,
  ⟨(some 52), none, .fa (.t 51) 4⟩,
  ⟨none, none, .sto none (.t 52) (.t 48)⟩]
def c24r11 : List AOper := [
  ⟨(some 53), none, .bin false .add (.t 20) (.c (.i .i64 1))⟩,
  ⟨(some 20), none, .mv (.t 53)⟩]
abbrev c24b12 : AC := (.seq (.reg c24r5) (.seq (.cond (.t 21) .skip (.exit 0)) (.seq (.blk 1 (.seq (.reg c24r6) (.seq (.reg c24r7) (.seq (.reg c24r8) (.seq (.reg c24r9) (.cond (.t 44) (.reg c24r10) .skip)))))) (.reg c24r11))))
def c24r13 : List AOper := [
  ⟨(some 54), none, .mv (.t 4)⟩,
  ⟨(some 2), none, .mv (.t 54)⟩,
  ⟨(some 3), none, .mv (.c (.i .i64 0))⟩]
abbrev c24 : AC := (.seq (.reg c24r0) (.seq (.seq (.reg c24r1) (.cond (.t 12) (.seq (.reg c24r2) .ret) .skip)) (.seq (.reg c24r3) (.seq (.seq (.reg c24r4) (.blk 0 (.loop c24b12))) (.seq (.reg c24r13) .ret)))))
def q24 : List ARes := [.t 2, .t 3]
theorem fn24 : fnOf Try.prog 24 = some (c24, q24, 55) := by kernel_rfl
def c26r0 : List AOper := [
  ⟨(some 6), none, .mv (.t 0)⟩,
  ⟨(some 7), none, .eqn true (.t 6) (.c (.nilp))⟩,
  ⟨(some 8), none, .mv (.t 7)⟩,
  ⟨(some 9), (some (8, true)), .mv (.t 0)⟩,
  ⟨(some 10), (some (8, true)), .nck (.t 9)⟩,
  ⟨(some 11), (some (8, true)), .fa (.t 10) 5⟩,
  ⟨(some 12), (some (8, true)), .ld none (.t 11)⟩,
  ⟨(some 13), none, .pick (.t 8) (.t 12) (.c (.b false))⟩]
def c26r1 : List AOper := [
  ⟨(some 14), none, .mv (.t 0)⟩,
  ⟨(some 15), none, .mv (.t 0)⟩,
  ⟨(some 16), none, .mv (.t 1)⟩,
  ⟨(some 17), none, .mm true (.c (.i .i64 0)) [(.t 16)]⟩,
  ⟨(some 18), none, .mv (.t 2)⟩,
  ⟨(some 19), none, .nck (.t 14)⟩,
  ⟨(some 20), none, .fa (.t 19) 2⟩,
  ⟨none, none, .sto none (.t 20) (.t 17)⟩,
  ⟨(some 21), none, .nck (.t 15)⟩,
  ⟨(some 22), none, .fa (.t 21) 3⟩,
  ⟨none, none, .sto none (.t 22) (.t 18)⟩]
abbrev c26 : AC := (.seq (.reg c26r0) (.cond (.t 13) (.reg c26r1) .skip))
def q26 : List ARes := []
theorem fn26 : fnOf Try.prog 26 = some (c26, q26, 23) := by kernel_rfl
def c27r0 : List AOper := [
  ⟨(some 4), none, .mv (.c (.i .i64 0))⟩]
def c27r1 : List AOper := [
  ⟨(some 9), none, .mv (.t 0)⟩,
  ⟨(some 10), none, .call (.c (.fn 67 [] [])) [(.t 9)]⟩,
  ⟨(some 8), none, .mv (.t 10)⟩]
def c27r2 : List AOper := [
  ⟨(some 4), none, .mv (.c (.i .i64 91))⟩]
def c27r3 : List AOper := [
  ⟨(some 12), none, .mv (.t 0)⟩,
  ⟨(some 13), none, .call (.c (.fn 68 [] [])) [(.t 12)]⟩,
  ⟨(some 11), none, .mv (.t 13)⟩]
def c27r4 : List AOper := [
  ⟨(some 4), none, .mv (.c (.i .i64 92))⟩]
def c27r5 : List AOper := [
  ⟨(some 15), none, .mv (.t 1)⟩,
  ⟨(some 16), none, .len (.t 15)⟩,
  ⟨(some 17), none, .bin false .gtr (.t 16) (.c (.i .i64 65536))⟩,
  ⟨(some 18), none, .mv (.t 17)⟩,
  ⟨(some 19), (some (18, false)), .mv (.t 0)⟩,
  ⟨(some 20), (some (18, false)), .nck (.t 19)⟩,
  ⟨(some 21), (some (18, false)), .fa (.t 20) 3⟩,
  ⟨(some 22), (some (18, false)), .ld none (.t 21)⟩,
  ⟨(some 23), (some (18, false)), .bin false .eql (.t 22) (.c (.i .i64 2147483647))⟩,
  ⟨(some 24), none, .pick (.t 18) (.c (.b true)) (.t 23)⟩,
  ⟨(some 14), none, .mv (.t 24)⟩]
def c27r6 : List AOper := [
  ⟨(some 4), none, .mv (.c (.i .i64 4))⟩]
def c27r7 : List AOper := [
  ⟨(some 25), none, .mv (.t 0)⟩,
  ⟨(some 26), none, .nck (.t 25)⟩,
  ⟨(some 27), none, .fa (.t 26) 3⟩,
  ⟨(some 28), none, .ld none (.t 27)⟩,
  ⟨(some 29), none, .bin false .add (.t 28) (.c (.i .i64 1))⟩,
  ⟨(some 5), none, .mv (.t 29)⟩]
def c27r8 : List AOper := [
  ⟨(some 30), none, .mv (.t 1)⟩,
  ⟨(some 31), none, .len (.t 30)⟩,
  ⟨(some 32), none, .call (.c (.fn 59 [] [])) [(.c (.sl 0 0 0 0)), (.t 31)]⟩,
  ⟨(some 33), none, .mv (.t 1)⟩,
  ⟨(some 34), none, .app 1 1 (.t 32) (.t 33)⟩,
  ⟨(some 6), none, .mv (.t 34)⟩]
def c27r9 : List AOper := [
  ⟨(some 35), none, .mv (.t 0)⟩,
  ⟨(some 36), none, .nck (.t 35)⟩,
  ⟨(some 37), none, .fa (.t 36) 0⟩,
  ⟨(some 38), none, .ld none (.t 37)⟩,
  ⟨(some 39), none, .mv (.t 5)⟩,
  ⟨(some 40), none, .bin false .rem (.t 39) (.c (.i .i64 2))⟩,
  ⟨(some 41), none, .mv (.t 6)⟩,
  ⟨(some 42), none, .mv (.t 5)⟩,
  ⟨(some 43), none, .call (.c (.fn 59 [] [])) [(.t 41), (.t 42)]⟩,
  ⟨(some 44), none, .call (.c (.fn 69 [] [])) [(.t 38), (.t 40), (.t 43)]⟩,
  ⟨(some 7), none, .mv (.t 44)⟩]
def c27r10 : List AOper := [
  ⟨(some 45), none, .mv (.t 7)⟩,
  ⟨(some 46), none, .bin false .neq (.t 45) (.c (.i .i64 0))⟩]
def c27r11 : List AOper := [
  ⟨(some 47), none, .mv (.t 0)⟩,
  ⟨(some 48), none, .nck (.t 47)⟩,
  ⟨(some 49), none, .fa (.t 48) 2⟩,
  ⟨none, none, .sto none (.t 49) (.c (.b true))⟩]
def c27r12 : List AOper := [
  ⟨(some 50), none, .mv (.t 7)⟩,
  ⟨(some 4), none, .mv (.t 50)⟩]
def c27r13 : List AOper := [
  ⟨(some 51), none, .mv (.t 0)⟩,
  ⟨(some 52), none, .mv (.t 0)⟩,
  ⟨(some 53), none, .mv (.t 5)⟩,
  ⟨(some 54), none, .mv (.t 1)⟩,
  ⟨(some 55), none, .call (.c (.fn 70 [] [])) [(.t 54)]⟩,
  ⟨(some 56), none, .nck (.t 51)⟩,
  ⟨(some 57), none, .fa (.t 56) 3⟩,
  ⟨none, none, .sto none (.t 57) (.t 53)⟩,
  ⟨(some 58), none, .nck (.t 52)⟩,
  ⟨(some 59), none, .fa (.t 58) 4⟩,
  ⟨none, none, .sto none (.t 59) (.t 55)⟩]
def c27r14 : List AOper := [
  ⟨(some 4), none, .mv (.c (.i .i64 0))⟩]
abbrev c27 : AC := (.seq (.reg c27r0) (.seq (.blk 0 (.seq (.reg c27r1) (.cond (.t 8) (.seq (.reg c27r2) .ret) (.seq (.reg c27r3) (.cond (.t 11) (.seq (.reg c27r4) .ret) (.seq (.reg c27r5) (.cond (.t 14) (.seq (.reg c27r6) .ret) .skip))))))) (.seq (.reg c27r7) (.seq (.reg c27r8) (.seq (.seq (.head 9 c27r9) (.seq (.reg c27r10) (.cond (.t 46) (.seq (.reg c27r11) (.seq (.reg c27r12) .ret)) .skip))) (.seq (.reg c27r13) (.seq (.reg c27r14) .ret)))))))
def q27 : List ARes := [.t 4]
theorem fn27 : fnOf Try.prog 27 = some (c27, q27, 60) := by kernel_rfl
def c28r0 : List AOper := [
  ⟨(some 2), none, .mv (.t 0)⟩,
  ⟨(some 3), none, .eqn true (.t 2) (.c (.nilp))⟩,
  ⟨(some 4), none, .mv (.t 3)⟩,
  ⟨(some 5), (some (4, true)), .mv (.t 0)⟩,
  ⟨(some 6), (some (4, true)), .nck (.t 5)⟩,
  ⟨(some 7), (some (4, true)), .fa (.t 6) 5⟩,
  ⟨(some 8), (some (4, true)), .ld none (.t 7)⟩,
  ⟨(some 9), none, .pick (.t 4) (.t 8) (.c (.b false))⟩]
def c28r1 : List AOper := [
  ⟨(some 10), none, .mv (.t 0)⟩,
  ⟨(some 11), none, .mv (.t 0)⟩,
  ⟨(some 12), none, .nck (.t 10)⟩,
  ⟨(some 13), none, .fa (.t 12) 4⟩,
  ⟨none, none, .sto none (.t 13) (.c (.b false))⟩,
  ⟨(some 14), none, .nck (.t 11)⟩,
  ⟨(some 15), none, .fa (.t 14) 2⟩,
  ⟨none, none, .sto none (.t 15) (.c (.i .i64 0))⟩]
def c28r2 : List AOper := [
  ⟨(some 16), none, .mv (.t 0)⟩,
  ⟨(some 17), none, .nck (.t 16)⟩,
  ⟨(some 18), none, .fa (.t 17) 6⟩,
  ⟨(some 19), none, .ld none (.t 18)⟩,
  ⟨(some 20), none, .bin false .add (.t 19) (.c (.i .i64 1))⟩,
  ⟨(some 21), none, .nck (.t 16)⟩,
  ⟨(some 22), none, .fa (.t 21) 6⟩,
  ⟨none, none, .sto none (.t 22) (.t 20)⟩]
abbrev c28 : AC := (.seq (.reg c28r0) (.cond (.t 9) (.seq (.reg c28r1) (.reg c28r2)) .skip))
def q28 : List ARes := []
theorem fn28 : fnOf Try.prog 28 = some (c28, q28, 23) := by kernel_rfl
def c30r0 : List AOper := [
  ⟨(some 2), none, .mv (.c (.sl 0 0 0 0))⟩]
def c30r1 : List AOper := [
  ⟨(some 3), none, .mv (.t 0)⟩,
  ⟨(some 4), none, .call (.c (.fn 67 [] [])) [(.t 3)]⟩]
def c30r2 : List AOper := [
  ⟨(some 2), none, .mv (.c (.sl 0 0 0 0))⟩]
def c30r3 : List AOper := [
  ⟨(some 5), none, .mv (.t 0)⟩,
  ⟨(some 6), none, .nck (.t 5)⟩,
  ⟨(some 7), none, .fa (.t 6) 4⟩,
  ⟨(some 8), none, .ld none (.t 7)⟩,
  ⟨(some 9), none, .call (.c (.fn 70 [] [])) [(.t 8)]⟩,
  ⟨(some 2), none, .mv (.t 9)⟩]
abbrev c30 : AC := (.seq (.reg c30r0) (.seq (.seq (.reg c30r1) (.cond (.t 4) (.seq (.reg c30r2) .ret) .skip)) (.seq (.reg c30r3) .ret)))
def q30 : List ARes := [.t 2]
theorem fn30 : fnOf Try.prog 30 = some (c30, q30, 10) := by kernel_rfl
def q31 : List ARes := [.t 2, .t 3]
def q32 : List ARes := [.t 2, .t 3]
def q33 : List ARes := [.t 2]
def c34r0 : List AOper := [
  ⟨(some 2), none, .mv (.c (.b false))⟩]
def c34r1 : List AOper := [
  ⟨(some 7), none, .mv (.t 0)⟩,
  ⟨(some 8), none, .len (.t 7)⟩,
  ⟨(some 9), none, .mv (.c (.i .i64 0))⟩]
def c34r2 : List AOper := [
  ⟨(some 10), none, .bin false .lss (.t 9) (.t 8)⟩]
def c34r3 : List AOper := [
  ⟨(some 11), none, .mv (.t 9)⟩,
  ⟨(some 12), none, .ia 4 (.t 7) (.t 9)⟩,
  ⟨(some 13), none, .ld (some 4) (.t 12)⟩,
  ⟨(some 4), none, .alloc [.i .i64 0, .i .i64 0, .i .i64 0, .i .i64 0]⟩,
  ⟨(some 3), none, .mv (.t 11)⟩,
  ⟨none, none, .sto (some 4) (.t 4) (.t 13)⟩]
def c34r4 : List AOper := [
  ⟨(some 14), none, .ld (some 4) (.t 4)⟩,
  ⟨(some 15), none, .call (.c (.fn 75 [] [])) [(.t 14)]⟩,
  ⟨(some 16), none, .not (.t 15)⟩]
def c34r5 : List AOper := [
  ⟨(some 2), none, .mv (.c (.b false))⟩]
def c34r6 : List AOper := [
  ⟨(some 18), none, .mv (.t 0)⟩,
  ⟨(some 19), none, .mv (.t 3)⟩,
  ⟨(some 20), none, .sli 4 (.t 18) none (some (.t 19))⟩,
  ⟨(some 21), none, .ld (some 4) (.t 4)⟩,
  ⟨(some 22), none, .call (.c (.fn 76 [] [])) [(.t 20), (.t 21)]⟩,
  ⟨(some 17), none, .mv (.t 22)⟩,
  ⟨(some 23), none, .ext (.t 17) 0⟩,
  ⟨(some 24), none, .ext (.t 17) 1⟩,
  ⟨(some 5), none, .alloc [.i .i64 0, .i .i64 0, .i .i64 0, .i .i64 0]⟩,
  ⟨none, none, .sto (some 4) (.t 5) (.t 23)⟩,
  ⟨(some 6), none, .mv (.t 24)⟩]
def c34r7 : List AOper := [
  ⟨(some 25), none, .mv (.t 6)⟩]
def c34r8 : List AOper := [
  ⟨(some 2), none, .mv (.c (.b false))⟩]
def c34r9 : List AOper := [
  ⟨(some 26), none, .bin false .add (.t 9) (.c (.i .i64 1))⟩,
  ⟨(some 9), none, .mv (.t 26)⟩]
abbrev c34b10 : AC := (.seq (.reg c34r2) (.seq (.cond (.t 10) .skip (.exit 0)) (.seq (.blk 1 (.seq (.reg c34r3) (.seq (.seq (.reg c34r4) (.cond (.t 16) (.seq (.reg c34r5) .ret) .skip)) (.seq (.head 10 c34r6) (.seq (.reg c34r7) (.cond (.t 25) (.seq (.reg c34r8) .ret) .skip)))))) (.reg c34r9))))
def c34r11 : List AOper := [
  ⟨(some 27), none, .mv (.t 0)⟩,
  ⟨(some 28), none, .len (.t 27)⟩,
  ⟨(some 29), none, .bin false .leq (.t 28) (.c (.i .i64 200))⟩,
  ⟨(some 2), none, .mv (.t 29)⟩]
abbrev c34 : AC := (.seq (.reg c34r0) (.seq (.seq (.reg c34r1) (.blk 0 (.loop c34b10))) (.seq (.reg c34r11) .ret)))
def q34 : List ARes := [.t 2]
theorem fn34 : fnOf Try.prog 34 = some (c34, q34, 30) := by kernel_rfl
def q35 : List ARes := [.t 4]
def c37r0 : List AOper := [
  ⟨(some 0), none, .mv (.c (.b false))⟩]
def c37r1 : List AOper := [
  ⟨(some 5), none, .call (.c (.fn 23 [] [])) []⟩,
  ⟨(some 1), none, .mv (.t 5)⟩]
def c37r2 : List AOper := [
  ⟨(some 7), none, .mv (.t 1)⟩,
  ⟨(some 8), none, .call (.c (.fn 24 [] [])) [(.t 7)]⟩,
  ⟨(some 6), none, .mv (.t 8)⟩,
  ⟨(some 9), none, .ext (.t 6) 0⟩,
  ⟨(some 10), none, .ext (.t 6) 1⟩,
  ⟨(some 2), none, .mv (.t 9)⟩,
  ⟨(some 3), none, .mv (.t 10)⟩]
def c37r3 : List AOper := [
  ⟨(some 11), none, .mv (.t 3)⟩,
  ⟨(some 12), none, .bin false .neq (.t 11) (.c (.i .i64 0))⟩,
  ⟨(some 13), none, .mv (.t 12)⟩,
  ⟨(some 14), (some (13, false)), .mv (.t 2)⟩,
  ⟨(some 15), (some (13, false)), .bsl 1 [.i .u8 0] [(0, 1, (.c (.i .u8 97)))]⟩,
  ⟨(some 16), (some (13, false)), .cvt (.t 15)⟩,
  ⟨(some 17), (some (13, false)), .call (.c (.fn 27 [] [])) [(.t 14), (.t 16)]⟩,
  ⟨(some 18), (some (13, false)), .bin false .neq (.t 17) (.c (.i .i64 0))⟩,
  ⟨(some 19), none, .pick (.t 13) (.c (.b true)) (.t 18)⟩]
def c37r4 : List AOper := [
  ⟨(some 0), none, .mv (.c (.b false))⟩]
def c37r5 : List AOper := [
  ⟨(some 21), none, .mv (.t 1)⟩,
  ⟨(some 22), none, .call (.c (.fn 24 [] [])) [(.t 21)]⟩,
  ⟨(some 20), none, .mv (.t 22)⟩,
  ⟨(some 23), none, .ext (.t 20) 0⟩,
  ⟨(some 24), none, .ext (.t 20) 1⟩,
  ⟨(some 4), none, .mv (.t 23)⟩,
  ⟨(some 3), none, .mv (.t 24)⟩]
def c37r6 : List AOper := [
  ⟨(some 25), none, .mv (.t 3)⟩,
  ⟨(some 26), none, .bin false .eql (.t 25) (.c (.i .i64 0))⟩,
  ⟨(some 27), none, .mv (.t 26)⟩,
  ⟨(some 28), (some (27, true)), .mv (.t 4)⟩,
  ⟨(some 29), (some (27, true)), .call (.c (.fn 78 [] [])) [(.t 28)]⟩,
  ⟨(some 30), (some (27, true)), .bin false .eql (.t 29) (.c (.i .i64 1))⟩,
  ⟨(some 31), none, .pick (.t 27) (.t 30) (.c (.b false))⟩,
  ⟨(some 32), none, .mv (.t 31)⟩,
  ⟨(some 33), (some (32, true)), .mv (.t 4)⟩,
  ⟨(some 34), (some (32, true)), .call (.c (.fn 30 [] [])) [(.t 33)]⟩,
  ⟨(some 35), (some (32, true)), .str (.t 34)⟩,
  ⟨(some 36), (some (32, true)), .eqs false (.t 35) (.c (.s (ByteArray.mk #[97])))⟩,
  ⟨(some 37), none, .pick (.t 32) (.t 36) (.c (.b false))⟩,
  ⟨(some 0), none, .mv (.t 37)⟩]
abbrev c37 : AC := (.seq (.reg c37r0) (.seq (.reg c37r1) (.seq (.reg c37r2) (.seq (.seq (.reg c37r3) (.cond (.t 19) (.seq (.reg c37r4) .ret) .skip)) (.seq (.reg c37r5) (.seq (.reg c37r6) .ret))))))
def q37 : List ARes := [.t 0]
theorem fn37 : fnOf Try.prog 37 = some (c37, q37, 38) := by kernel_rfl
def c38r0 : List AOper := [
  ⟨(some 6), none, .mv (.c (.b false))⟩,
  ⟨(some 7), none, .mv (.c (.i .i64 0))⟩]
def c38r1 : List AOper := [
  ⟨(some 13), none, .mv (.t 0)⟩,
  ⟨(some 14), none, .call (.c (.fn 64 [] [])) [(.t 13)]⟩,
  ⟨(some 12), none, .mv (.t 14)⟩,
  ⟨(some 15), none, .ext (.t 12) 0⟩,
  ⟨(some 16), none, .ext (.t 12) 1⟩,
  ⟨(some 8), none, .mv (.t 15)⟩,
  ⟨(some 9), none, .mv (.t 16)⟩]
def c38r2 : List AOper := [
  ⟨(some 18), none, .mv (.t 9)⟩,
  ⟨(some 19), none, .not (.t 18)⟩,
  ⟨(some 17), none, .mv (.t 19)⟩]
def c38r3 : List AOper := [
  ⟨(some 6), none, .mv (.c (.b false))⟩,
  ⟨(some 7), none, .mv (.c (.i .i64 90))⟩]
def c38r4 : List AOper := [
  ⟨(some 21), none, .mv (.t 2)⟩,
  ⟨(some 22), none, .bin false .lss (.t 21) (.c (.i .i64 0))⟩,
  ⟨(some 23), none, .mv (.t 22)⟩,
  ⟨(some 24), (some (23, false)), .mv (.t 2)⟩,
  ⟨(some 25), (some (23, false)), .bin false .gtr (.t 24) (.c (.i .i64 100000))⟩,
  ⟨(some 26), none, .pick (.t 23) (.c (.b true)) (.t 25)⟩,
  ⟨(some 20), none, .mv (.t 26)⟩]
def c38r5 : List AOper := [
  ⟨(some 6), none, .mv (.c (.b false))⟩,
  ⟨(some 7), none, .mv (.c (.i .i64 2))⟩]
def c38r6 : List AOper := [
  ⟨(some 28), none, .mv (.t 8)⟩,
  ⟨(some 29), none, .mv (.t 1)⟩,
  ⟨(some 30), none, .bld [.i .i64 0, .i .i64 0] [(0, 1, (.c (.i .i64 1))), (1, 1, (.t 29))]⟩,
  ⟨(some 31), none, .mlk (some [0, 0]) (.ag [.i .i64 0, .i .i64 0, .i .i64 0, .i .i64 0]) true (.t 28) (.t 30)⟩,
  ⟨(some 27), none, .mv (.t 31)⟩,
  ⟨(some 32), none, .ext (.t 27) 0⟩,
  ⟨(some 33), none, .ext (.t 27) 1⟩,
  ⟨(some 10), none, .alloc [.i .i64 0, .i .i64 0, .i .i64 0, .i .i64 0]⟩,
  ⟨none, none, .sto (some 4) (.t 10) (.t 32)⟩,
  ⟨(some 11), none, .mv (.t 33)⟩]
def c38r7 : List AOper := [
  ⟨(some 34), none, .mv (.t 11)⟩,
  ⟨(some 35), none, .not (.t 34)⟩]
def c38r8 : List AOper := [
  ⟨(some 6), none, .mv (.c (.b false))⟩,
  ⟨(some 7), none, .mv (.c (.i .i64 5))⟩]
def c38r9 : List AOper := [
  ⟨(some 36), none, .mv (.t 8)⟩,
  ⟨(some 37), none, .mv (.t 1)⟩,
  ⟨(some 38), none, .mv (.t 2)⟩,
  ⟨(some 39), none, .call (.c (.fn 79 [] [])) [(.t 36), (.t 37), (.t 38)]⟩,
  ⟨(some 6), none, .mv (.t 39)⟩,
  ⟨(some 7), none, .mv (.c (.i .i64 0))⟩]
abbrev c38 : AC := (.seq (.reg c38r0) (.seq (.reg c38r1) (.seq (.blk 0 (.seq (.reg c38r2) (.cond (.t 17) (.seq (.reg c38r3) .ret) (.seq (.reg c38r4) (.cond (.t 20) (.seq (.reg c38r5) .ret) .skip))))) (.seq (.seq (.reg c38r6) (.seq (.reg c38r7) (.cond (.t 35) (.seq (.reg c38r8) .ret) .skip))) (.seq (.reg c38r9) .ret)))))
def q38 : List ARes := [.t 6, .t 7]
theorem fn38 : fnOf Try.prog 38 = some (c38, q38, 40) := by kernel_rfl
def c39r0 : List AOper := [
  ⟨(some 6), none, .mv (.c (.b false))⟩,
  ⟨(some 7), none, .mv (.c (.i .i64 0))⟩]
def c39r1 : List AOper := [
  ⟨(some 10), none, .mv (.t 0)⟩,
  ⟨(some 11), none, .call (.c (.fn 34 [] [])) [(.t 10)]⟩,
  ⟨(some 12), none, .not (.t 11)⟩]
def c39r2 : List AOper := [
  ⟨(some 6), none, .mv (.c (.b false))⟩,
  ⟨(some 7), none, .mv (.c (.i .i64 90))⟩]
def c39r3 : List AOper := [
  ⟨(some 13), none, .mv (.t 2)⟩,
  ⟨(some 14), none, .bin false .lss (.t 13) (.c (.i .i64 0))⟩,
  ⟨(some 15), none, .mv (.t 14)⟩,
  ⟨(some 16), (some (15, false)), .mv (.t 2)⟩,
  ⟨(some 17), (some (15, false)), .bin false .gtr (.t 16) (.c (.i .i64 100000))⟩,
  ⟨(some 18), none, .pick (.t 15) (.c (.b true)) (.t 17)⟩]
def c39r4 : List AOper := [
  ⟨(some 6), none, .mv (.c (.b false))⟩,
  ⟨(some 7), none, .mv (.c (.i .i64 2))⟩]
def c39r5 : List AOper := [
  ⟨(some 20), none, .mv (.t 0)⟩,
  ⟨(some 21), none, .mv (.t 1)⟩,
  ⟨(some 22), none, .bld [.i .i64 0, .i .i64 0, .i .i64 0, .i .i64 0] [(0, 1, (.c (.i .i64 1))), (1, 1, (.t 21))]⟩,
  ⟨(some 23), none, .call (.c (.fn 76 [] [])) [(.t 20), (.t 22)]⟩,
  ⟨(some 19), none, .mv (.t 23)⟩,
  ⟨(some 24), none, .ext (.t 19) 0⟩,
  ⟨(some 25), none, .ext (.t 19) 1⟩,
  ⟨(some 8), none, .alloc [.i .i64 0, .i .i64 0, .i .i64 0, .i .i64 0]⟩,
  ⟨none, none, .sto (some 4) (.t 8) (.t 24)⟩,
  ⟨(some 9), none, .mv (.t 25)⟩]
def c39r6 : List AOper := [
  ⟨(some 26), none, .mv (.t 9)⟩,
  ⟨(some 27), none, .not (.t 26)⟩]
def c39r7 : List AOper := [
  ⟨(some 6), none, .mv (.c (.b false))⟩,
  ⟨(some 7), none, .mv (.c (.i .i64 5))⟩]
def c39r8 : List AOper := [
  ⟨(some 28), none, .mv (.t 0)⟩,
  ⟨(some 29), none, .ld (some 4) (.t 8)⟩,
  ⟨(some 30), none, .mv (.t 2)⟩,
  ⟨(some 31), none, .call (.c (.fn 80 [] [])) [(.t 28), (.t 29), (.t 30)]⟩,
  ⟨(some 6), none, .mv (.t 31)⟩,
  ⟨(some 7), none, .mv (.c (.i .i64 0))⟩]
abbrev c39 : AC := (.seq (.reg c39r0) (.seq (.seq (.reg c39r1) (.cond (.t 12) (.seq (.reg c39r2) .ret) .skip)) (.seq (.seq (.reg c39r3) (.cond (.t 18) (.seq (.reg c39r4) .ret) .skip)) (.seq (.reg c39r5) (.seq (.seq (.reg c39r6) (.cond (.t 27) (.seq (.reg c39r7) .ret) .skip)) (.seq (.reg c39r8) .ret))))))
def q39 : List ARes := [.t 6, .t 7]
theorem fn39 : fnOf Try.prog 39 = some (c39, q39, 32) := by kernel_rfl
def c40r0 : List AOper := [
  ⟨(some 6), none, .mv (.c (.sl 0 0 0 0))⟩,
  ⟨(some 7), none, .mv (.c (.i .i64 0))⟩]
def c40r1 : List AOper := [
  ⟨(some 14), none, .mv (.t 0)⟩,
  ⟨(some 15), none, .call (.c (.fn 64 [] [])) [(.t 14)]⟩,
  ⟨(some 13), none, .mv (.t 15)⟩,
  ⟨(some 16), none, .ext (.t 13) 0⟩,
  ⟨(some 17), none, .ext (.t 13) 1⟩,
  ⟨(some 8), none, .mv (.t 16)⟩,
  ⟨(some 9), none, .mv (.t 17)⟩]
def c40r2 : List AOper := [
  ⟨(some 19), none, .mv (.t 9)⟩,
  ⟨(some 20), none, .not (.t 19)⟩,
  ⟨(some 18), none, .mv (.t 20)⟩]
def c40r3 : List AOper := [
  ⟨(some 6), none, .mv (.c (.sl 0 0 0 0))⟩,
  ⟨(some 7), none, .mv (.c (.i .i64 90))⟩]
def c40r4 : List AOper := [
  ⟨(some 22), none, .mv (.t 1)⟩,
  ⟨(some 23), none, .bin false .lss (.t 22) (.c (.i .i64 0))⟩,
  ⟨(some 24), none, .mv (.t 23)⟩,
  ⟨(some 25), (some (24, false)), .mv (.t 1)⟩,
  ⟨(some 26), (some (24, false)), .bin false .gtr (.t 25) (.c (.i .i64 100000))⟩,
  ⟨(some 27), none, .pick (.t 24) (.c (.b true)) (.t 26)⟩,
  ⟨(some 28), none, .mv (.t 27)⟩,
  ⟨(some 29), (some (28, false)), .mv (.t 2)⟩,
  ⟨(some 30), (some (28, false)), .bin false .lss (.t 29) (.c (.i .i64 0))⟩,
  ⟨(some 31), none, .pick (.t 28) (.c (.b true)) (.t 30)⟩,
  ⟨(some 32), none, .mv (.t 31)⟩,
  ⟨(some 33), (some (32, false)), .mv (.t 2)⟩,
  ⟨(some 34), (some (32, false)), .bin false .gtr (.t 33) (.c (.i .i64 1000))⟩,
  ⟨(some 35), none, .pick (.t 32) (.c (.b true)) (.t 34)⟩,
  ⟨(some 21), none, .mv (.t 35)⟩]
def c40r5 : List AOper := [
  ⟨(some 6), none, .mv (.c (.sl 0 0 0 0))⟩,
  ⟨(some 7), none, .mv (.c (.i .i64 2))⟩]
def c40r6 : List AOper := [
  ⟨(some 10), none, .mv (.c (.sl 0 0 0 0))⟩]
def c40r7 : List AOper := [
  ⟨(some 36), none, .mv (.t 0)⟩,
  ⟨(some 37), none, .call (.c (.fn 55 [] [])) [(.t 36)]⟩,
  ⟨(some 38), none, .len (.t 37)⟩,
  ⟨(some 39), none, .mv (.c (.i .i64 0))⟩]
def c40r8 : List AOper := [
  ⟨(some 40), none, .bin false .lss (.t 39) (.t 38)⟩]
def c40r9 : List AOper := [
  ⟨(some 41), none, .ia 4 (.t 37) (.t 39)⟩,
  ⟨(some 42), none, .ld (some 4) (.t 41)⟩,
  ⟨(some 12), none, .alloc [.i .i64 0, .i .i64 0, .i .i64 0, .i .i64 0]⟩,
  ⟨none, none, .sto (some 4) (.t 12) (.t 42)⟩]
def c40r10 : List AOper := [
  ⟨(some 43), none, .fa (.t 12) 0⟩,
  ⟨(some 44), none, .ld none (.t 43)⟩,
  ⟨(some 45), none, .bin false .eql (.t 44) (.c (.i .i64 1))⟩,
  ⟨(some 46), none, .mv (.t 45)⟩,
  ⟨(some 47), (some (46, true)), .fa (.t 12) 2⟩,
  ⟨(some 48), (some (46, true)), .ld none (.t 47)⟩,
  ⟨(some 49), (some (46, true)), .mv (.t 1)⟩,
  ⟨(some 50), (some (46, true)), .mv (.t 2)⟩,
  ⟨(some 51), (some (46, true)), .bin false .sub (.t 49) (.t 50)⟩,
  ⟨(some 52), (some (46, true)), .bin false .leq (.t 48) (.t 51)⟩,
  ⟨(some 53), none, .pick (.t 46) (.t 52) (.c (.b false))⟩,
  ⟨(some 54), none, .mv (.t 53)⟩,
  ⟨(some 55), (some (54, true)), .mv (.t 8)⟩,
  ⟨(some 56), (some (54, true)), .fa (.t 12) 1⟩,
  ⟨(some 57), (some (54, true)), .ld none (.t 56)⟩,
  ⟨(some 58), (some (54, true)), .mv (.t 1)⟩,
  ⟨(some 59), (some (54, true)), .call (.c (.fn 79 [] [])) [(.t 55), (.t 57), (.t 58)]⟩,
  ⟨(some 60), (some (54, true)), .not (.t 59)⟩,
  ⟨(some 61), none, .pick (.t 54) (.t 60) (.c (.b false))⟩]
def c40r11 : List AOper := [
  ⟨(some 62), none, .mv (.t 10)⟩,
  ⟨(some 63), none, .fa (.t 12) 1⟩,
  ⟨(some 64), none, .ld none (.t 63)⟩,
  ⟨(some 65), none, .bsl 1 [.i .i64 0] [(0, 1, (.t 64))]⟩,
  ⟨(some 66), none, .app 1 8 (.t 62) (.t 65)⟩,
  ⟨(some 10), none, .mv (.t 66)⟩]
def c40r12 : List AOper := [
  ⟨(some 67), none, .bin false .add (.t 39) (.c (.i .i64 1))⟩,
  ⟨(some 39), none, .mv (.t 67)⟩]
abbrev c40b13 : AC := (.seq (.reg c40r8) (.seq (.cond (.t 40) .skip (.exit 1)) (.seq (.blk 2 (.seq (.reg c40r9) (.seq (.reg c40r10) (.cond (.t 61) (.reg c40r11) .skip)))) (.reg c40r12))))
def c40r14 : List AOper := [
  ⟨(some 68), none, .mv (.t 10)⟩,
  ⟨(some 6), none, .mv (.t 68)⟩,
  ⟨(some 7), none, .mv (.c (.i .i64 0))⟩]
abbrev c40 : AC := (.seq (.reg c40r0) (.seq (.reg c40r1) (.seq (.blk 0 (.seq (.reg c40r2) (.cond (.t 18) (.seq (.reg c40r3) .ret) (.seq (.reg c40r4) (.cond (.t 21) (.seq (.reg c40r5) .ret) .skip))))) (.seq (.reg c40r6) (.seq (.seq (.reg c40r7) (.blk 1 (.loop c40b13))) (.seq (.reg c40r14) .ret))))))
def q40 : List ARes := [.t 6, .t 7]
theorem fn40 : fnOf Try.prog 40 = some (c40, q40, 69) := by kernel_rfl
def c41r0 : List AOper := [
  ⟨(some 6), none, .mv (.c (.sl 0 0 0 0))⟩,
  ⟨(some 7), none, .mv (.c (.i .i64 0))⟩]
def c41r1 : List AOper := [
  ⟨(some 11), none, .mv (.t 0)⟩,
  ⟨(some 12), none, .call (.c (.fn 34 [] [])) [(.t 11)]⟩,
  ⟨(some 13), none, .not (.t 12)⟩]
def c41r2 : List AOper := [
  ⟨(some 6), none, .mv (.c (.sl 0 0 0 0))⟩,
  ⟨(some 7), none, .mv (.c (.i .i64 90))⟩]
def c41r3 : List AOper := [
  ⟨(some 14), none, .mv (.t 1)⟩,
  ⟨(some 15), none, .bin false .lss (.t 14) (.c (.i .i64 0))⟩,
  ⟨(some 16), none, .mv (.t 15)⟩,
  ⟨(some 17), (some (16, false)), .mv (.t 1)⟩,
  ⟨(some 18), (some (16, false)), .bin false .gtr (.t 17) (.c (.i .i64 100000))⟩,
  ⟨(some 19), none, .pick (.t 16) (.c (.b true)) (.t 18)⟩,
  ⟨(some 20), none, .mv (.t 19)⟩,
  ⟨(some 21), (some (20, false)), .mv (.t 2)⟩,
  ⟨(some 22), (some (20, false)), .bin false .lss (.t 21) (.c (.i .i64 0))⟩,
  ⟨(some 23), none, .pick (.t 20) (.c (.b true)) (.t 22)⟩,
  ⟨(some 24), none, .mv (.t 23)⟩,
  ⟨(some 25), (some (24, false)), .mv (.t 2)⟩,
  ⟨(some 26), (some (24, false)), .bin false .gtr (.t 25) (.c (.i .i64 1000))⟩,
  ⟨(some 27), none, .pick (.t 24) (.c (.b true)) (.t 26)⟩]
def c41r4 : List AOper := [
  ⟨(some 6), none, .mv (.c (.sl 0 0 0 0))⟩,
  ⟨(some 7), none, .mv (.c (.i .i64 2))⟩]
def c41r5 : List AOper := [
  ⟨(some 8), none, .mv (.c (.sl 0 0 0 0))⟩]
def c41r6 : List AOper := [
  ⟨(some 28), none, .mv (.t 0)⟩,
  ⟨(some 29), none, .call (.c (.fn 74 [] [])) [(.t 28)]⟩,
  ⟨(some 30), none, .len (.t 29)⟩,
  ⟨(some 31), none, .mv (.c (.i .i64 0))⟩]
def c41r7 : List AOper := [
  ⟨(some 32), none, .bin false .lss (.t 31) (.t 30)⟩]
def c41r8 : List AOper := [
  ⟨(some 33), none, .ia 4 (.t 29) (.t 31)⟩,
  ⟨(some 34), none, .ld (some 4) (.t 33)⟩,
  ⟨(some 10), none, .alloc [.i .i64 0, .i .i64 0, .i .i64 0, .i .i64 0]⟩,
  ⟨none, none, .sto (some 4) (.t 10) (.t 34)⟩]
def c41r9 : List AOper := [
  ⟨(some 35), none, .fa (.t 10) 0⟩,
  ⟨(some 36), none, .ld none (.t 35)⟩,
  ⟨(some 37), none, .bin false .eql (.t 36) (.c (.i .i64 1))⟩,
  ⟨(some 38), none, .mv (.t 37)⟩,
  ⟨(some 39), (some (38, true)), .fa (.t 10) 2⟩,
  ⟨(some 40), (some (38, true)), .ld none (.t 39)⟩,
  ⟨(some 41), (some (38, true)), .mv (.t 1)⟩,
  ⟨(some 42), (some (38, true)), .mv (.t 2)⟩,
  ⟨(some 43), (some (38, true)), .bin false .sub (.t 41) (.t 42)⟩,
  ⟨(some 44), (some (38, true)), .bin false .leq (.t 40) (.t 43)⟩,
  ⟨(some 45), none, .pick (.t 38) (.t 44) (.c (.b false))⟩,
  ⟨(some 46), none, .mv (.t 45)⟩,
  ⟨(some 47), (some (46, true)), .mv (.t 0)⟩,
  ⟨(some 48), (some (46, true)), .ld (some 4) (.t 10)⟩,
  ⟨(some 49), (some (46, true)), .mv (.t 1)⟩,
  ⟨(some 50), (some (46, true)), .call (.c (.fn 80 [] [])) [(.t 47), (.t 48), (.t 49)]⟩,
  ⟨(some 51), (some (46, true)), .not (.t 50)⟩,
  ⟨(some 52), none, .pick (.t 46) (.t 51) (.c (.b false))⟩]
def c41r10 : List AOper := [
  ⟨(some 53), none, .mv (.t 8)⟩,
  ⟨(some 54), none, .fa (.t 10) 1⟩,
  ⟨(some 55), none, .ld none (.t 54)⟩,
  ⟨(some 56), none, .bsl 1 [.i .i64 0] [(0, 1, (.t 55))]⟩,
  ⟨(some 57), none, .app 1 8 (.t 53) (.t 56)⟩,
  ⟨(some 8), none, .mv (.t 57)⟩]
def c41r11 : List AOper := [
  ⟨(some 58), none, .bin false .add (.t 31) (.c (.i .i64 1))⟩,
  ⟨(some 31), none, .mv (.t 58)⟩]
abbrev c41b12 : AC := (.seq (.reg c41r7) (.seq (.cond (.t 32) .skip (.exit 0)) (.seq (.blk 1 (.seq (.reg c41r8) (.seq (.reg c41r9) (.cond (.t 52) (.reg c41r10) .skip)))) (.reg c41r11))))
def c41r13 : List AOper := [
  ⟨(some 59), none, .mv (.t 8)⟩,
  ⟨(some 6), none, .mv (.t 59)⟩,
  ⟨(some 7), none, .mv (.c (.i .i64 0))⟩]
abbrev c41 : AC := (.seq (.reg c41r0) (.seq (.seq (.reg c41r1) (.cond (.t 13) (.seq (.reg c41r2) .ret) .skip)) (.seq (.seq (.reg c41r3) (.cond (.t 27) (.seq (.reg c41r4) .ret) .skip)) (.seq (.reg c41r5) (.seq (.seq (.reg c41r6) (.blk 0 (.loop c41b12))) (.seq (.reg c41r13) .ret))))))
def q41 : List ARes := [.t 6, .t 7]
theorem fn41 : fnOf Try.prog 41 = some (c41, q41, 60) := by kernel_rfl
def c55r0 : List AOper := [
  ⟨(some 2), none, .mv (.c (.sl 0 0 0 0))⟩]
def c55r1 : List AOper := [
  ⟨(some 4), none, .mv (.t 0)⟩,
  ⟨(some 5), none, .call (.c (.fn 66 [] [])) [(.t 4)]⟩,
  ⟨(some 3), none, .mv (.t 5)⟩]
def c55r2 : List AOper := [
  ⟨(some 6), none, .mv (.t 3)⟩,
  ⟨(some 7), none, .call (.c (.fn 93 [] [])) [(.t 6), (.c (.fn 94 [] []))]⟩]
def c55r3 : List AOper := [
  ⟨(some 8), none, .mv (.t 3)⟩,
  ⟨(some 2), none, .mv (.t 8)⟩]
abbrev c55 : AC := (.seq (.reg c55r0) (.seq (.reg c55r1) (.seq (.reg c55r2) (.seq (.reg c55r3) .ret))))
def q55 : List ARes := [.t 2]
theorem fn55 : fnOf Try.prog 55 = some (c55, q55, 9) := by kernel_rfl
def c58r0 : List AOper := [
  ⟨(some 1), none, .box (.t 0)⟩,
  ⟨(some 2), none, .alloc [.i .i64 0, .i .i64 0]⟩]
def c58r1 : List AOper := [
  ⟨(some 3), none, .fa (.t 1) 0⟩,
  ⟨(some 4), none, .ld none (.t 3)⟩,
  ⟨(some 5), none, .fa (.t 1) 1⟩,
  ⟨(some 6), none, .ld none (.t 5)⟩,
  ⟨(some 7), none, .bld [.i .i64 0, .i .i64 0] [(0, 1, (.t 4)), (1, 1, (.t 6))]⟩,
  ⟨none, none, .sto (some 2) (.t 2) (.t 7)⟩]
abbrev c58 : AC := (.seq (.reg c58r0) (.seq (.reg c58r1) .ret))
def q58 : List ARes := [.c 2 (some 2)]
theorem fn58 : fnOf Try.prog 58 = some (c58, q58, 8) := by kernel_rfl
def c59r0 : List AOper := [
  ⟨(some 4), none, .mv (.c (.sl 0 0 0 0))⟩]
def c59r1 : List AOper := [
  ⟨(some 5), none, .mv (.t 0)⟩,
  ⟨(some 6), none, .mv (.t 1)⟩,
  ⟨(some 7), none, .bin false .shr (.t 6) (.c (.i .u64 24))⟩,
  ⟨(some 8), none, .conv .u8 (.t 7)⟩,
  ⟨(some 9), none, .mv (.t 1)⟩,
  ⟨(some 10), none, .bin false .shr (.t 9) (.c (.i .u64 16))⟩,
  ⟨(some 11), none, .conv .u8 (.t 10)⟩,
  ⟨(some 12), none, .mv (.t 1)⟩,
  ⟨(some 13), none, .bin false .shr (.t 12) (.c (.i .u64 8))⟩,
  ⟨(some 14), none, .conv .u8 (.t 13)⟩,
  ⟨(some 15), none, .mv (.t 1)⟩,
  ⟨(some 16), none, .conv .u8 (.t 15)⟩,
  ⟨(some 17), none, .bsl 1 [.i .u8 0, .i .u8 0, .i .u8 0, .i .u8 0] [(0, 1, (.t 8)), (1, 1, (.t 11)), (2, 1, (.t 14)), (3, 1, (.t 16))]⟩,
  ⟨(some 18), none, .app 1 1 (.t 5) (.t 17)⟩,
  ⟨(some 4), none, .mv (.t 18)⟩]
abbrev c59 : AC := (.seq (.reg c59r0) (.seq (.reg c59r1) .ret))
def q59 : List ARes := [.t 4]
theorem fn59 : fnOf Try.prog 59 = some (c59, q59, 19) := by kernel_rfl
def c61r0 : List AOper := [
  ⟨(some 2), none, .mv (.c (.b false))⟩]
def c61r1 : List AOper := [
  ⟨(some 3), none, .mv (.t 0)⟩,
  ⟨(some 4), none, .eqn false (.t 3) (.c (.nilp))⟩,
  ⟨(some 5), none, .mv (.t 4)⟩,
  ⟨(some 6), (some (5, false)), .mv (.t 0)⟩,
  ⟨(some 7), (some (5, false)), .nck (.t 6)⟩,
  ⟨(some 8), (some (5, false)), .fa (.t 7) 5⟩,
  ⟨(some 9), (some (5, false)), .ld none (.t 8)⟩,
  ⟨(some 10), (some (5, false)), .not (.t 9)⟩,
  ⟨(some 11), none, .pick (.t 5) (.c (.b true)) (.t 10)⟩,
  ⟨(some 12), none, .mv (.t 11)⟩,
  ⟨(some 13), (some (12, false)), .mv (.t 0)⟩,
  ⟨(some 14), (some (12, false)), .nck (.t 13)⟩,
  ⟨(some 15), (some (12, false)), .fa (.t 14) 4⟩,
  ⟨(some 16), (some (12, false)), .ld none (.t 15)⟩,
  ⟨(some 17), none, .pick (.t 12) (.c (.b true)) (.t 16)⟩,
  ⟨(some 2), none, .mv (.t 17)⟩]
abbrev c61 : AC := (.seq (.reg c61r0) (.seq (.reg c61r1) .ret))
def q61 : List ARes := [.t 2]
theorem fn61 : fnOf Try.prog 61 = some (c61, q61, 18) := by kernel_rfl
def c62r0 : List AOper := [
  ⟨(some 4), none, .mv (.c (.sl 0 0 0 0))⟩,
  ⟨(some 5), none, .mv (.c (.i .i64 0))⟩]
def c62r1 : List AOper := [
  ⟨(some 7), none, .mv (.t 0)⟩,
  ⟨(some 8), none, .call (.c (.fn 61 [] [])) [(.t 7)]⟩,
  ⟨(some 6), none, .mv (.t 8)⟩]
def c62r2 : List AOper := [
  ⟨(some 4), none, .mv (.c (.sl 0 0 0 0))⟩,
  ⟨(some 5), none, .mv (.c (.i .i64 91))⟩]
def c62r3 : List AOper := [
  ⟨(some 10), none, .mv (.t 1)⟩,
  ⟨(some 11), none, .bin false .neq (.t 10) (.c (.i .i64 0))⟩,
  ⟨(some 12), none, .mv (.t 11)⟩,
  ⟨(some 13), (some (12, true)), .mv (.t 1)⟩,
  ⟨(some 14), (some (12, true)), .bin false .neq (.t 13) (.c (.i .i64 1))⟩,
  ⟨(some 15), none, .pick (.t 12) (.t 14) (.c (.b false))⟩,
  ⟨(some 9), none, .mv (.t 15)⟩]
def c62r4 : List AOper := [
  ⟨(some 4), none, .mv (.c (.sl 0 0 0 0))⟩,
  ⟨(some 5), none, .mv (.c (.i .i64 2))⟩]
def c62r5 : List AOper := [
  ⟨(some 16), none, .mv (.t 0)⟩,
  ⟨(some 17), none, .mv (.t 1)⟩,
  ⟨(some 18), none, .nck (.t 16)⟩,
  ⟨(some 19), none, .fa (.t 18) 0⟩,
  ⟨(some 20), none, .iap 2 1 (.t 19) (.t 17)⟩,
  ⟨(some 21), none, .ld none (.t 20)⟩,
  ⟨(some 22), none, .call (.c (.fn 70 [] [])) [(.t 21)]⟩,
  ⟨(some 4), none, .mv (.t 22)⟩,
  ⟨(some 5), none, .mv (.c (.i .i64 0))⟩]
abbrev c62 : AC := (.seq (.reg c62r0) (.seq (.blk 0 (.seq (.reg c62r1) (.cond (.t 6) (.seq (.reg c62r2) .ret) (.seq (.reg c62r3) (.cond (.t 9) (.seq (.reg c62r4) .ret) .skip))))) (.seq (.reg c62r5) .ret)))
def q62 : List ARes := [.t 4, .t 5]
theorem fn62 : fnOf Try.prog 62 = some (c62, q62, 23) := by kernel_rfl
def c63r0 : List AOper := [
  ⟨(some 4), none, .mv (.c (.i .i64 0))⟩,
  ⟨(some 5), none, .mv (.c (.sl 0 0 0 0))⟩,
  ⟨(some 6), none, .mv (.c (.b false))⟩]
def c63r1 : List AOper := [
  ⟨(some 8), none, .mv (.t 1)⟩,
  ⟨(some 9), none, .len (.t 8)⟩,
  ⟨(some 10), none, .bin false .lss (.t 9) (.c (.i .i64 8))⟩,
  ⟨(some 11), none, .mv (.t 10)⟩,
  ⟨(some 12), (some (11, false)), .mv (.t 1)⟩,
  ⟨(some 13), (some (11, false)), .call (.c (.fn 72 [] [])) [(.t 12)]⟩,
  ⟨(some 14), (some (11, false)), .bin false .gtr (.t 13) (.c (.i .i64 65536))⟩,
  ⟨(some 15), none, .pick (.t 11) (.c (.b true)) (.t 14)⟩,
  ⟨(some 16), none, .mv (.t 15)⟩,
  ⟨(some 17), (some (16, false)), .mv (.t 1)⟩,
  ⟨(some 18), (some (16, false)), .len (.t 17)⟩,
  ⟨(some 19), (some (16, false)), .mv (.t 1)⟩,
  ⟨(some 20), (some (16, false)), .call (.c (.fn 72 [] [])) [(.t 19)]⟩,
  ⟨(some 21), (some (16, false)), .bin false .add (.t 20) (.c (.i .i64 8))⟩,
  ⟨(some 22), (some (16, false)), .bin false .neq (.t 18) (.t 21)⟩,
  ⟨(some 23), none, .pick (.t 16) (.c (.b true)) (.t 22)⟩]
def c63r2 : List AOper := [
  ⟨(some 4), none, .mv (.c (.i .i64 0))⟩,
  ⟨(some 5), none, .mv (.c (.sl 0 0 0 0))⟩,
  ⟨(some 6), none, .mv (.c (.b false))⟩]
def c63r3 : List AOper := [
  ⟨(some 24), none, .mv (.t 1)⟩,
  ⟨(some 25), none, .mv (.t 1)⟩,
  ⟨(some 26), none, .len (.t 25)⟩,
  ⟨(some 27), none, .bin false .sub (.t 26) (.c (.i .i64 4))⟩,
  ⟨(some 28), none, .sli 1 (.t 24) (some (.t 27)) none⟩,
  ⟨(some 29), none, .call (.c (.fn 72 [] [])) [(.t 28)]⟩,
  ⟨(some 7), none, .mv (.t 29)⟩]
def c63r4 : List AOper := [
  ⟨(some 30), none, .mv (.t 7)⟩,
  ⟨(some 31), none, .mv (.t 1)⟩,
  ⟨(some 32), none, .mv (.t 1)⟩,
  ⟨(some 33), none, .len (.t 32)⟩,
  ⟨(some 34), none, .bin false .sub (.t 33) (.c (.i .i64 4))⟩,
  ⟨(some 35), none, .sli 1 (.t 31) (some (.c (.i .i64 4))) (some (.t 34))⟩,
  ⟨(some 36), none, .mv (.t 7)⟩,
  ⟨(some 37), none, .bin false .geq (.t 36) (.c (.i .i64 1))⟩,
  ⟨(some 38), none, .mv (.t 37)⟩,
  ⟨(some 39), (some (38, true)), .mv (.t 7)⟩,
  ⟨(some 40), (some (38, true)), .bin false .leq (.t 39) (.c (.i .i64 2147483647))⟩,
  ⟨(some 41), none, .pick (.t 38) (.t 40) (.c (.b false))⟩,
  ⟨(some 42), none, .mv (.t 41)⟩,
  ⟨(some 43), (some (42, true)), .mv (.t 7)⟩,
  ⟨(some 44), (some (42, true)), .bin false .rem (.t 43) (.c (.i .i64 2))⟩,
  ⟨(some 45), (some (42, true)), .mv (.t 0)⟩,
  ⟨(some 46), (some (42, true)), .bin false .eql (.t 44) (.t 45)⟩,
  ⟨(some 47), none, .pick (.t 42) (.t 46) (.c (.b false))⟩,
  ⟨(some 4), none, .mv (.t 30)⟩,
  ⟨(some 5), none, .mv (.t 35)⟩,
  ⟨(some 6), none, .mv (.t 47)⟩]
abbrev c63 : AC := (.seq (.reg c63r0) (.seq (.seq (.reg c63r1) (.cond (.t 23) (.seq (.reg c63r2) .ret) .skip)) (.seq (.reg c63r3) (.seq (.head 20 c63r4) .ret))))
def q63 : List ARes := [.t 4, .t 5, .t 6]
theorem fn63 : fnOf Try.prog 63 = some (c63, q63, 48) := by kernel_rfl
def c64r0 : List AOper := [
  ⟨(some 2), none, .mv (.c (.nilm))⟩,
  ⟨(some 3), none, .mv (.c (.b false))⟩]
def c64r1 : List AOper := [
  ⟨(some 7), none, .mkm⟩,
  ⟨(some 4), none, .mv (.t 7)⟩]
def c64r2 : List AOper := [
  ⟨(some 8), none, .mv (.t 0)⟩,
  ⟨(some 9), none, .len (.t 8)⟩,
  ⟨(some 10), none, .mv (.c (.i .i64 0))⟩]
def c64r3 : List AOper := [
  ⟨(some 11), none, .bin false .lss (.t 10) (.t 9)⟩]
def c64r4 : List AOper := [
  ⟨(some 12), none, .ia 4 (.t 8) (.t 10)⟩,
  ⟨(some 13), none, .ld (some 4) (.t 12)⟩,
  ⟨(some 6), none, .alloc [.i .i64 0, .i .i64 0, .i .i64 0, .i .i64 0]⟩,
  ⟨none, none, .sto (some 4) (.t 6) (.t 13)⟩]
def c64r5 : List AOper := [
  ⟨(some 14), none, .mv (.t 4)⟩,
  ⟨(some 15), none, .ld (some 4) (.t 6)⟩,
  ⟨(some 16), none, .call (.c (.fn 58 [] [])) [(.t 15)]⟩,
  ⟨(some 17), none, .ld (some 4) (.t 6)⟩,
  ⟨none, none, .mup (some [0, 0]) (.t 14) (.t 16) (.t 17)⟩]
def c64r6 : List AOper := [
  ⟨(some 18), none, .bin false .add (.t 10) (.c (.i .i64 1))⟩,
  ⟨(some 10), none, .mv (.t 18)⟩]
abbrev c64b7 : AC := (.seq (.reg c64r3) (.seq (.cond (.t 11) .skip (.exit 0)) (.seq (.blk 1 (.seq (.reg c64r4) (.head 4 c64r5))) (.reg c64r6))))
def c64r8 : List AOper := [
  ⟨(some 19), none, .mv (.t 4)⟩,
  ⟨(some 20), none, .mv (.t 0)⟩,
  ⟨(some 21), none, .len (.t 20)⟩,
  ⟨(some 22), none, .bin false .leq (.t 21) (.c (.i .i64 200))⟩,
  ⟨(some 23), none, .mv (.t 22)⟩,
  ⟨(some 24), (some (23, true)), .mv (.t 4)⟩,
  ⟨(some 25), (some (23, true)), .mln (.t 24)⟩,
  ⟨(some 26), (some (23, true)), .mv (.t 0)⟩,
  ⟨(some 27), (some (23, true)), .len (.t 26)⟩,
  ⟨(some 28), (some (23, true)), .bin false .eql (.t 25) (.t 27)⟩,
  ⟨(some 29), none, .pick (.t 23) (.t 28) (.c (.b false))⟩,
  ⟨(some 30), none, .mv (.t 29)⟩,
  ⟨(some 31), (some (30, true)), .mv (.t 0)⟩,
  ⟨(some 32), (some (30, true)), .call (.c (.fn 97 [] [])) [(.t 31), (.c (.fn 98 [] []))]⟩,
  ⟨(some 33), (some (30, true)), .not (.t 32)⟩,
  ⟨(some 34), none, .pick (.t 30) (.t 33) (.c (.b false))⟩,
  ⟨(some 2), none, .mv (.t 19)⟩,
  ⟨(some 3), none, .mv (.t 34)⟩]
abbrev c64 : AC := (.seq (.reg c64r0) (.seq (.reg c64r1) (.seq (.seq (.reg c64r2) (.blk 0 (.loop c64b7))) (.seq (.reg c64r8) .ret))))
def q64 : List ARes := [.t 2, .t 3]
theorem fn64 : fnOf Try.prog 64 = some (c64, q64, 35) := by kernel_rfl
def c65r0 : List AOper := [
  ⟨(some 1), none, .box (.t 0)⟩,
  ⟨(some 2), none, .mv (.c (.b false))⟩]
def c65r1 : List AOper := [
  ⟨(some 3), none, .mv (.c (.i .i64 1))⟩]
def c65r2 : List AOper := [
  ⟨(some 5), none, .fa (.t 1) 0⟩,
  ⟨(some 6), none, .ld none (.t 5)⟩,
  ⟨(some 7), none, .bin false .eql (.t 6) (.c (.i .i64 4))⟩]
def c65r3 : List AOper := [
  ⟨(some 3), none, .mv (.c (.i .i64 0))⟩]
def c65r4 : List AOper := [
  ⟨(some 8), none, .fa (.t 1) 0⟩,
  ⟨(some 9), none, .ld none (.t 8)⟩,
  ⟨(some 10), none, .bin false .geq (.t 9) (.c (.i .i64 1))⟩,
  ⟨(some 11), none, .mv (.t 10)⟩,
  ⟨(some 12), (some (11, true)), .fa (.t 1) 0⟩,
  ⟨(some 13), (some (11, true)), .ld none (.t 12)⟩,
  ⟨(some 14), (some (11, true)), .bin false .leq (.t 13) (.c (.i .i64 4))⟩,
  ⟨(some 15), none, .pick (.t 11) (.t 14) (.c (.b false))⟩,
  ⟨(some 16), none, .mv (.t 15)⟩,
  ⟨(some 17), (some (16, true)), .fa (.t 1) 1⟩,
  ⟨(some 18), (some (16, true)), .ld none (.t 17)⟩,
  ⟨(some 19), (some (16, true)), .bin false .geq (.t 18) (.c (.i .i64 1))⟩,
  ⟨(some 20), none, .pick (.t 16) (.t 19) (.c (.b false))⟩,
  ⟨(some 21), none, .mv (.t 20)⟩,
  ⟨(some 22), (some (21, true)), .fa (.t 1) 1⟩,
  ⟨(some 23), (some (21, true)), .ld none (.t 22)⟩,
  ⟨(some 24), (some (21, true)), .bin false .leq (.t 23) (.c (.i .i64 1000000000))⟩,
  ⟨(some 25), none, .pick (.t 21) (.t 24) (.c (.b false))⟩,
  ⟨(some 26), none, .mv (.t 25)⟩,
  ⟨(some 27), (some (26, true)), .fa (.t 1) 2⟩,
  ⟨(some 28), (some (26, true)), .ld none (.t 27)⟩,
  ⟨(some 29), (some (26, true)), .bin false .geq (.t 28) (.c (.i .i64 0))⟩,
  ⟨(some 30), none, .pick (.t 26) (.t 29) (.c (.b false))⟩,
  ⟨(some 31), none, .mv (.t 30)⟩,
  ⟨(some 32), (some (31, true)), .fa (.t 1) 2⟩,
  ⟨(some 33), (some (31, true)), .ld none (.t 32)⟩,
  ⟨(some 34), (some (31, true)), .bin false .leq (.t 33) (.c (.i .i64 100000))⟩,
  ⟨(some 35), none, .pick (.t 31) (.t 34) (.c (.b false))⟩,
  ⟨(some 4), none, .mv (.t 35)⟩]
def c65r5 : List AOper := [
  ⟨(some 36), none, .mv (.t 4)⟩,
  ⟨(some 37), none, .mv (.t 36)⟩,
  ⟨(some 38), (some (37, true)), .fa (.t 1) 3⟩,
  ⟨(some 39), (some (37, true)), .ld none (.t 38)⟩,
  ⟨(some 40), (some (37, true)), .mv (.t 3)⟩,
  ⟨(some 41), (some (37, true)), .bin false .geq (.t 39) (.t 40)⟩,
  ⟨(some 42), none, .pick (.t 37) (.t 41) (.c (.b false))⟩,
  ⟨(some 43), none, .mv (.t 42)⟩,
  ⟨(some 44), (some (43, true)), .fa (.t 1) 3⟩,
  ⟨(some 45), (some (43, true)), .ld none (.t 44)⟩,
  ⟨(some 46), (some (43, true)), .mv (.t 3)⟩,
  ⟨(some 47), (some (43, true)), .bin false .mul (.c (.i .i64 1000000000)) (.t 46)⟩,
  ⟨(some 48), (some (43, true)), .bin false .leq (.t 45) (.t 47)⟩,
  ⟨(some 49), none, .pick (.t 43) (.t 48) (.c (.b false))⟩,
  ⟨(some 2), none, .mv (.t 49)⟩]
abbrev c65 : AC := (.seq (.reg c65r0) (.seq (.reg c65r1) (.seq (.seq (.reg c65r2) (.cond (.t 7) (.reg c65r3) .skip)) (.seq (.reg c65r4) (.seq (.reg c65r5) .ret)))))
def q65 : List ARes := [.t 2]
theorem fn65 : fnOf Try.prog 65 = some (c65, q65, 50) := by kernel_rfl
def c66r0 : List AOper := [
  ⟨(some 2), none, .mv (.c (.sl 0 0 0 0))⟩]
def c66r1 : List AOper := [
  ⟨(some 3), none, .mv (.t 0)⟩,
  ⟨(some 4), none, .eqz false (.t 3)⟩]
def c66r2 : List AOper := [
  ⟨(some 2), none, .mv (.c (.sl 0 0 0 0))⟩]
def c66r3 : List AOper := [
  ⟨(some 5), none, .bsl 4 [] []⟩,
  ⟨(some 6), none, .mv (.t 0)⟩,
  ⟨(some 7), none, .app 4 32 (.t 5) (.t 6)⟩,
  ⟨(some 2), none, .mv (.t 7)⟩]
abbrev c66 : AC := (.seq (.reg c66r0) (.seq (.seq (.reg c66r1) (.cond (.t 4) (.seq (.reg c66r2) .ret) .skip)) (.seq (.reg c66r3) .ret)))
def q66 : List ARes := [.t 2]
theorem fn66 : fnOf Try.prog 66 = some (c66, q66, 8) := by kernel_rfl
def c67r0 : List AOper := [
  ⟨(some 2), none, .mv (.c (.b false))⟩]
def c67r1 : List AOper := [
  ⟨(some 3), none, .mv (.t 0)⟩,
  ⟨(some 4), none, .eqn false (.t 3) (.c (.nilp))⟩,
  ⟨(some 5), none, .mv (.t 4)⟩,
  ⟨(some 6), (some (5, false)), .mv (.t 0)⟩,
  ⟨(some 7), (some (5, false)), .nck (.t 6)⟩,
  ⟨(some 8), (some (5, false)), .fa (.t 7) 0⟩,
  ⟨(some 9), (some (5, false)), .ld none (.t 8)⟩,
  ⟨(some 10), (some (5, false)), .eqn false (.t 9) (.c (.nilp))⟩,
  ⟨(some 11), none, .pick (.t 5) (.c (.b true)) (.t 10)⟩,
  ⟨(some 2), none, .mv (.t 11)⟩]
abbrev c67 : AC := (.seq (.reg c67r0) (.seq (.reg c67r1) .ret))
def q67 : List ARes := [.t 2]
theorem fn67 : fnOf Try.prog 67 = some (c67, q67, 12) := by kernel_rfl
def c68r0 : List AOper := [
  ⟨(some 2), none, .mv (.c (.b false))⟩]
def c68r1 : List AOper := [
  ⟨(some 3), none, .mv (.t 0)⟩,
  ⟨(some 4), none, .call (.c (.fn 67 [] [])) [(.t 3)]⟩,
  ⟨(some 5), none, .mv (.t 4)⟩,
  ⟨(some 6), (some (5, false)), .mv (.t 0)⟩,
  ⟨(some 7), (some (5, false)), .nck (.t 6)⟩,
  ⟨(some 8), (some (5, false)), .fa (.t 7) 2⟩,
  ⟨(some 9), (some (5, false)), .ld none (.t 8)⟩,
  ⟨(some 10), none, .pick (.t 5) (.c (.b true)) (.t 9)⟩,
  ⟨(some 11), none, .mv (.t 10)⟩,
  ⟨(some 12), (some (11, false)), .mv (.t 0)⟩,
  ⟨(some 13), (some (11, false)), .nck (.t 12)⟩,
  ⟨(some 14), (some (11, false)), .fa (.t 13) 1⟩,
  ⟨(some 15), (some (11, false)), .ld none (.t 14)⟩,
  ⟨(some 16), (some (11, false)), .mv (.t 0)⟩,
  ⟨(some 17), (some (11, false)), .nck (.t 16)⟩,
  ⟨(some 18), (some (11, false)), .fa (.t 17) 0⟩,
  ⟨(some 19), (some (11, false)), .ld none (.t 18)⟩,
  ⟨(some 20), (some (11, false)), .nck (.t 19)⟩,
  ⟨(some 21), (some (11, false)), .fa (.t 20) 6⟩,
  ⟨(some 22), (some (11, false)), .ld none (.t 21)⟩,
  ⟨(some 23), (some (11, false)), .bin false .neq (.t 15) (.t 22)⟩,
  ⟨(some 24), none, .pick (.t 11) (.c (.b true)) (.t 23)⟩,
  ⟨(some 2), none, .mv (.t 24)⟩]
abbrev c68 : AC := (.seq (.reg c68r0) (.seq (.head 20 c68r1) .ret))
def q68 : List ARes := [.t 2]
theorem fn68 : fnOf Try.prog 68 = some (c68, q68, 25) := by kernel_rfl
def c69r0 : List AOper := [
  ⟨(some 6), none, .mv (.c (.i .i64 0))⟩]
def c69r1 : List AOper := [
  ⟨(some 8), none, .mv (.t 0)⟩,
  ⟨(some 9), none, .call (.c (.fn 61 [] [])) [(.t 8)]⟩,
  ⟨(some 7), none, .mv (.t 9)⟩]
def c69r2 : List AOper := [
  ⟨(some 6), none, .mv (.c (.i .i64 91))⟩]
def c69r3 : List AOper := [
  ⟨(some 11), none, .mv (.t 1)⟩,
  ⟨(some 12), none, .bin false .neq (.t 11) (.c (.i .i64 0))⟩,
  ⟨(some 13), none, .mv (.t 12)⟩,
  ⟨(some 14), (some (13, true)), .mv (.t 1)⟩,
  ⟨(some 15), (some (13, true)), .bin false .neq (.t 14) (.c (.i .i64 1))⟩,
  ⟨(some 16), none, .pick (.t 13) (.t 15) (.c (.b false))⟩,
  ⟨(some 10), none, .mv (.t 16)⟩]
def c69r4 : List AOper := [
  ⟨(some 6), none, .mv (.c (.i .i64 2))⟩]
def c69r5 : List AOper := [
  ⟨(some 17), none, .mv (.t 0)⟩,
  ⟨(some 18), none, .nck (.t 17)⟩,
  ⟨(some 19), none, .fa (.t 18) 2⟩,
  ⟨(some 20), none, .ld none (.t 19)⟩,
  ⟨(some 21), none, .bin false .gtr (.t 20) (.c (.i .i64 0))⟩]
def c69r6 : List AOper := [
  ⟨(some 22), none, .mv (.t 0)⟩,
  ⟨(some 23), none, .nck (.t 22)⟩,
  ⟨(some 24), none, .fa (.t 23) 2⟩,
  ⟨(some 25), none, .ld none (.t 24)⟩,
  ⟨(some 26), none, .bin false .sub (.t 25) (.c (.i .i64 1))⟩,
  ⟨(some 27), none, .nck (.t 22)⟩,
  ⟨(some 28), none, .fa (.t 27) 2⟩,
  ⟨none, none, .sto none (.t 28) (.t 26)⟩]
def c69r7 : List AOper := [
  ⟨(some 29), none, .mv (.t 0)⟩,
  ⟨(some 30), none, .nck (.t 29)⟩,
  ⟨(some 31), none, .fa (.t 30) 2⟩,
  ⟨(some 32), none, .ld none (.t 31)⟩,
  ⟨(some 33), none, .bin false .eql (.t 32) (.c (.i .i64 0))⟩]
def c69r8 : List AOper := [
  ⟨(some 34), none, .mv (.t 0)⟩,
  ⟨(some 35), none, .mv (.t 1)⟩,
  ⟨(some 36), none, .mv (.t 2)⟩,
  ⟨(some 37), none, .mv (.t 0)⟩,
  ⟨(some 38), none, .nck (.t 37)⟩,
  ⟨(some 39), none, .fa (.t 38) 3⟩,
  ⟨(some 40), none, .ld none (.t 39)⟩,
  ⟨(some 41), none, .mm true (.t 40) [(.c (.i .i64 0))]⟩,
  ⟨(some 42), none, .mv (.t 2)⟩,
  ⟨(some 43), none, .len (.t 42)⟩,
  ⟨(some 44), none, .mm false (.t 41) [(.t 43)]⟩,
  ⟨(some 45), none, .sli 1 (.t 36) none (some (.t 44))⟩,
  ⟨(some 46), none, .call (.c (.fn 70 [] [])) [(.t 45)]⟩,
  ⟨(some 47), none, .nck (.t 34)⟩,
  ⟨(some 48), none, .fa (.t 47) 0⟩,
  ⟨(some 49), none, .iap 2 1 (.t 48) (.t 35)⟩,
  ⟨none, none, .sto none (.t 49) (.t 46)⟩]
def c69r9 : List AOper := [
  ⟨(some 50), none, .mv (.t 0)⟩,
  ⟨(some 51), none, .nck (.t 50)⟩,
  ⟨(some 52), none, .fa (.t 51) 4⟩,
  ⟨none, none, .sto none (.t 52) (.c (.b true))⟩]
def c69r10 : List AOper := [
  ⟨(some 6), none, .mv (.c (.i .i64 91))⟩]
def c69r11 : List AOper := [
  ⟨(some 53), none, .mv (.t 0)⟩,
  ⟨(some 54), none, .mv (.t 1)⟩,
  ⟨(some 55), none, .mv (.t 2)⟩,
  ⟨(some 56), none, .call (.c (.fn 70 [] [])) [(.t 55)]⟩,
  ⟨(some 57), none, .nck (.t 53)⟩,
  ⟨(some 58), none, .fa (.t 57) 0⟩,
  ⟨(some 59), none, .iap 2 1 (.t 58) (.t 54)⟩,
  ⟨none, none, .sto none (.t 59) (.t 56)⟩]
def c69r12 : List AOper := [
  ⟨(some 6), none, .mv (.c (.i .i64 0))⟩]
abbrev c69 : AC := (.seq (.reg c69r0) (.seq (.blk 0 (.seq (.reg c69r1) (.cond (.t 7) (.seq (.reg c69r2) .ret) (.seq (.reg c69r3) (.cond (.t 10) (.seq (.reg c69r4) .ret) .skip))))) (.seq (.seq (.reg c69r5) (.cond (.t 21) (.seq (.reg c69r6) (.seq (.reg c69r7) (.cond (.t 33) (.seq (.head 15 c69r8) (.seq (.reg c69r9) (.seq (.reg c69r10) .ret))) .skip))) .skip)) (.seq (.head 6 c69r11) (.seq (.reg c69r12) .ret)))))
def q69 : List ARes := [.t 6]
theorem fn69 : fnOf Try.prog 69 = some (c69, q69, 60) := by kernel_rfl
def c70r0 : List AOper := [
  ⟨(some 2), none, .mv (.c (.sl 0 0 0 0))⟩]
def c70r1 : List AOper := [
  ⟨(some 3), none, .mv (.t 0)⟩,
  ⟨(some 4), none, .eqz false (.t 3)⟩]
def c70r2 : List AOper := [
  ⟨(some 2), none, .mv (.c (.sl 0 0 0 0))⟩]
def c70r3 : List AOper := [
  ⟨(some 5), none, .bsl 1 [] []⟩,
  ⟨(some 6), none, .mv (.t 0)⟩,
  ⟨(some 7), none, .app 1 1 (.t 5) (.t 6)⟩,
  ⟨(some 2), none, .mv (.t 7)⟩]
abbrev c70 : AC := (.seq (.reg c70r0) (.seq (.seq (.reg c70r1) (.cond (.t 4) (.seq (.reg c70r2) .ret) .skip)) (.seq (.reg c70r3) .ret)))
def q70 : List ARes := [.t 2]
theorem fn70 : fnOf Try.prog 70 = some (c70, q70, 8) := by kernel_rfl
def c72r0 : List AOper := [
  ⟨(some 2), none, .mv (.c (.i .i64 0))⟩]
def c72r1 : List AOper := [
  ⟨(some 3), none, .mv (.t 0)⟩,
  ⟨(some 4), none, .ia 1 (.t 3) (.c (.i .i64 0))⟩,
  ⟨(some 5), none, .ld none (.t 4)⟩,
  ⟨(some 6), none, .conv .i64 (.t 5)⟩,
  ⟨(some 7), none, .bin false .shl (.t 6) (.c (.i .u64 24))⟩,
  ⟨(some 8), none, .mv (.t 0)⟩,
  ⟨(some 9), none, .ia 1 (.t 8) (.c (.i .i64 1))⟩,
  ⟨(some 10), none, .ld none (.t 9)⟩,
  ⟨(some 11), none, .conv .i64 (.t 10)⟩,
  ⟨(some 12), none, .bin false .shl (.t 11) (.c (.i .u64 16))⟩,
  ⟨(some 13), none, .bin false .or (.t 7) (.t 12)⟩,
  ⟨(some 14), none, .mv (.t 0)⟩,
  ⟨(some 15), none, .ia 1 (.t 14) (.c (.i .i64 2))⟩,
  ⟨(some 16), none, .ld none (.t 15)⟩,
  ⟨(some 17), none, .conv .i64 (.t 16)⟩,
  ⟨(some 18), none, .bin false .shl (.t 17) (.c (.i .u64 8))⟩,
  ⟨(some 19), none, .bin false .or (.t 13) (.t 18)⟩,
  ⟨(some 20), none, .mv (.t 0)⟩,
  ⟨(some 21), none, .ia 1 (.t 20) (.c (.i .i64 3))⟩,
  ⟨(some 22), none, .ld none (.t 21)⟩,
  ⟨(some 23), none, .conv .i64 (.t 22)⟩,
  ⟨(some 24), none, .bin false .or (.t 19) (.t 23)⟩,
  ⟨(some 2), none, .mv (.t 24)⟩]
abbrev c72 : AC := (.seq (.reg c72r0) (.seq (.head 21 c72r1) .ret))
def q72 : List ARes := [.t 2]
theorem fn72 : fnOf Try.prog 72 = some (c72, q72, 25) := by kernel_rfl
def c74r0 : List AOper := [
  ⟨(some 2), none, .mv (.c (.sl 0 0 0 0))⟩]
def c74r1 : List AOper := [
  ⟨(some 3), none, .mv (.c (.sl 0 0 0 0))⟩]
def c74r2 : List AOper := [
  ⟨(some 6), none, .mv (.t 0)⟩,
  ⟨(some 7), none, .len (.t 6)⟩,
  ⟨(some 8), none, .mv (.c (.i .i64 0))⟩]
def c74r3 : List AOper := [
  ⟨(some 9), none, .bin false .lss (.t 8) (.t 7)⟩]
def c74r4 : List AOper := [
  ⟨(some 10), none, .ia 4 (.t 6) (.t 8)⟩,
  ⟨(some 11), none, .ld (some 4) (.t 10)⟩,
  ⟨(some 5), none, .alloc [.i .i64 0, .i .i64 0, .i .i64 0, .i .i64 0]⟩,
  ⟨none, none, .sto (some 4) (.t 5) (.t 11)⟩]
def c74r5 : List AOper := [
  ⟨(some 12), none, .mv (.t 3)⟩,
  ⟨(some 13), none, .ld (some 4) (.t 5)⟩,
  ⟨(some 14), none, .call (.c (.fn 77 [] [])) [(.t 12), (.t 13)]⟩,
  ⟨(some 3), none, .mv (.t 14)⟩]
def c74r6 : List AOper := [
  ⟨(some 15), none, .bin false .add (.t 8) (.c (.i .i64 1))⟩,
  ⟨(some 8), none, .mv (.t 15)⟩]
abbrev c74b7 : AC := (.seq (.reg c74r3) (.seq (.cond (.t 9) .skip (.exit 0)) (.seq (.blk 1 (.seq (.reg c74r4) (.reg c74r5))) (.reg c74r6))))
def c74r8 : List AOper := [
  ⟨(some 16), none, .mv (.t 3)⟩,
  ⟨(some 2), none, .mv (.t 16)⟩]
abbrev c74 : AC := (.seq (.reg c74r0) (.seq (.reg c74r1) (.seq (.seq (.reg c74r2) (.blk 0 (.loop c74b7))) (.seq (.reg c74r8) .ret))))
def q74 : List ARes := [.t 2]
theorem fn74 : fnOf Try.prog 74 = some (c74, q74, 17) := by kernel_rfl
def c75r0 : List AOper := [
  ⟨(some 1), none, .box (.t 0)⟩,
  ⟨(some 2), none, .mv (.c (.b false))⟩]
def c75r1 : List AOper := [
  ⟨(some 3), none, .fa (.t 1) 0⟩,
  ⟨(some 4), none, .ld none (.t 3)⟩,
  ⟨(some 5), none, .bin false .lss (.t 4) (.c (.i .i64 1))⟩,
  ⟨(some 6), none, .mv (.t 5)⟩,
  ⟨(some 7), (some (6, false)), .fa (.t 1) 0⟩,
  ⟨(some 8), (some (6, false)), .ld none (.t 7)⟩,
  ⟨(some 9), (some (6, false)), .bin false .gtr (.t 8) (.c (.i .i64 4))⟩,
  ⟨(some 10), none, .pick (.t 6) (.c (.b true)) (.t 9)⟩,
  ⟨(some 11), none, .mv (.t 10)⟩,
  ⟨(some 12), (some (11, false)), .fa (.t 1) 1⟩,
  ⟨(some 13), (some (11, false)), .ld none (.t 12)⟩,
  ⟨(some 14), (some (11, false)), .bin false .lss (.t 13) (.c (.i .i64 1))⟩,
  ⟨(some 15), none, .pick (.t 11) (.c (.b true)) (.t 14)⟩,
  ⟨(some 16), none, .mv (.t 15)⟩,
  ⟨(some 17), (some (16, false)), .fa (.t 1) 1⟩,
  ⟨(some 18), (some (16, false)), .ld none (.t 17)⟩,
  ⟨(some 19), (some (16, false)), .bin false .gtr (.t 18) (.c (.i .i64 1000000000))⟩,
  ⟨(some 20), none, .pick (.t 16) (.c (.b true)) (.t 19)⟩,
  ⟨(some 21), none, .mv (.t 20)⟩,
  ⟨(some 22), (some (21, false)), .fa (.t 1) 2⟩,
  ⟨(some 23), (some (21, false)), .ld none (.t 22)⟩,
  ⟨(some 24), (some (21, false)), .bin false .lss (.t 23) (.c (.i .i64 0))⟩,
  ⟨(some 25), none, .pick (.t 21) (.c (.b true)) (.t 24)⟩,
  ⟨(some 26), none, .mv (.t 25)⟩,
  ⟨(some 27), (some (26, false)), .fa (.t 1) 2⟩,
  ⟨(some 28), (some (26, false)), .ld none (.t 27)⟩,
  ⟨(some 29), (some (26, false)), .bin false .gtr (.t 28) (.c (.i .i64 100000))⟩,
  ⟨(some 30), none, .pick (.t 26) (.c (.b true)) (.t 29)⟩]
def c75r2 : List AOper := [
  ⟨(some 2), none, .mv (.c (.b false))⟩]
def c75r3 : List AOper := [
  ⟨(some 31), none, .fa (.t 1) 0⟩,
  ⟨(some 32), none, .ld none (.t 31)⟩,
  ⟨(some 33), none, .bin false .eql (.t 32) (.c (.i .i64 4))⟩]
def c75r4 : List AOper := [
  ⟨(some 34), none, .fa (.t 1) 3⟩,
  ⟨(some 35), none, .ld none (.t 34)⟩,
  ⟨(some 36), none, .bin false .eql (.t 35) (.c (.i .i64 0))⟩,
  ⟨(some 2), none, .mv (.t 36)⟩]
def c75r5 : List AOper := [
  ⟨(some 37), none, .fa (.t 1) 3⟩,
  ⟨(some 38), none, .ld none (.t 37)⟩,
  ⟨(some 39), none, .bin false .geq (.t 38) (.c (.i .i64 1))⟩,
  ⟨(some 40), none, .mv (.t 39)⟩,
  ⟨(some 41), (some (40, true)), .fa (.t 1) 3⟩,
  ⟨(some 42), (some (40, true)), .ld none (.t 41)⟩,
  ⟨(some 43), (some (40, true)), .bin false .leq (.t 42) (.c (.i .i64 1000000000))⟩,
  ⟨(some 44), none, .pick (.t 40) (.t 43) (.c (.b false))⟩,
  ⟨(some 2), none, .mv (.t 44)⟩]
abbrev c75 : AC := (.seq (.reg c75r0) (.seq (.seq (.reg c75r1) (.cond (.t 30) (.seq (.reg c75r2) .ret) .skip)) (.seq (.seq (.reg c75r3) (.cond (.t 33) (.seq (.reg c75r4) .ret) .skip)) (.seq (.reg c75r5) .ret))))
def q75 : List ARes := [.t 2]
theorem fn75 : fnOf Try.prog 75 = some (c75, q75, 45) := by kernel_rfl
def c76r0 : List AOper := [
  ⟨(some 3), none, .box (.t 1)⟩,
  ⟨(some 4), none, .alloc [.i .i64 0, .i .i64 0, .i .i64 0, .i .i64 0]⟩,
  ⟨(some 5), none, .mv (.c (.b false))⟩]
def c76r1 : List AOper := [
  ⟨(some 8), none, .mv (.t 0)⟩,
  ⟨(some 9), none, .len (.t 8)⟩,
  ⟨(some 10), none, .mv (.c (.i .i64 0))⟩]
def c76r2 : List AOper := [
  ⟨(some 11), none, .bin false .lss (.t 10) (.t 9)⟩]
def c76r3 : List AOper := [
  ⟨(some 12), none, .ia 4 (.t 8) (.t 10)⟩,
  ⟨(some 13), none, .ld (some 4) (.t 12)⟩,
  ⟨(some 7), none, .alloc [.i .i64 0, .i .i64 0, .i .i64 0, .i .i64 0]⟩,
  ⟨none, none, .sto (some 4) (.t 7) (.t 13)⟩]
def c76r4 : List AOper := [
  ⟨(some 14), none, .ld (some 4) (.t 7)⟩,
  ⟨(some 15), none, .ld (some 4) (.t 3)⟩,
  ⟨(some 16), none, .call (.c (.fn 87 [] [])) [(.t 14), (.t 15)]⟩]
def c76r5 : List AOper := [
  ⟨(some 17), none, .ld (some 4) (.t 7)⟩,
  ⟨none, none, .sto (some 4) (.t 4) (.t 17)⟩,
  ⟨(some 5), none, .mv (.c (.b true))⟩]
def c76r6 : List AOper := [
  ⟨(some 18), none, .bin false .add (.t 10) (.c (.i .i64 1))⟩,
  ⟨(some 10), none, .mv (.t 18)⟩]
abbrev c76b7 : AC := (.seq (.reg c76r2) (.seq (.cond (.t 11) .skip (.exit 0)) (.seq (.blk 1 (.seq (.reg c76r3) (.seq (.reg c76r4) (.cond (.t 16) (.seq (.reg c76r5) .ret) .skip)))) (.reg c76r6))))
def c76r8 : List AOper := [
  ⟨(some 19), none, .bld [.i .i64 0, .i .i64 0, .i .i64 0, .i .i64 0] []⟩,
  ⟨none, none, .sto (some 4) (.t 4) (.t 19)⟩,
  ⟨(some 5), none, .mv (.c (.b false))⟩]
abbrev c76 : AC := (.seq (.reg c76r0) (.seq (.seq (.reg c76r1) (.blk 0 (.loop c76b7))) (.seq (.reg c76r8) .ret)))
def q76 : List ARes := [.c 4 (some 4), .t 5]
theorem fn76 : fnOf Try.prog 76 = some (c76, q76, 20) := by kernel_rfl
def c77r0 : List AOper := [
  ⟨(some 3), none, .box (.t 1)⟩,
  ⟨(some 4), none, .mv (.c (.sl 0 0 0 0))⟩]
def c77r1 : List AOper := [
  ⟨(some 5), none, .mv (.c (.i .i64 0))⟩]
def c77r2 : List AOper := [
  ⟨(some 7), none, .mv (.t 5)⟩,
  ⟨(some 8), none, .mv (.t 0)⟩,
  ⟨(some 9), none, .len (.t 8)⟩,
  ⟨(some 10), none, .bin false .lss (.t 7) (.t 9)⟩,
  ⟨(some 11), none, .mv (.t 10)⟩,
  ⟨(some 12), (some (11, true)), .mv (.t 0)⟩,
  ⟨(some 13), (some (11, true)), .mv (.t 5)⟩,
  ⟨(some 14), (some (11, true)), .ia 4 (.t 12) (.t 13)⟩,
  ⟨(some 15), (some (11, true)), .ld (some 4) (.t 14)⟩,
  ⟨(some 16), (some (11, true)), .ld (some 4) (.t 3)⟩,
  ⟨(some 17), (some (11, true)), .call (.c (.fn 100 [] [])) [(.t 15), (.t 16)]⟩,
  ⟨(some 18), none, .pick (.t 11) (.t 17) (.c (.b false))⟩]
def c77r3 : List AOper := [
  ⟨(some 19), none, .mv (.t 5)⟩,
  ⟨(some 20), none, .bin false .add (.t 19) (.c (.i .i64 1))⟩,
  ⟨(some 5), none, .mv (.t 20)⟩]
abbrev c77b4 : AC := (.seq (.seq (.head 10 c77r2) (.cond (.t 18) .skip (.exit 0))) (.blk 1 (.reg c77r3)))
def c77r5 : List AOper := [
  ⟨(some 21), none, .bsl 4 [] []⟩,
  ⟨(some 22), none, .mv (.t 0)⟩,
  ⟨(some 23), none, .mv (.t 5)⟩,
  ⟨(some 24), none, .sli 4 (.t 22) none (some (.t 23))⟩,
  ⟨(some 25), none, .app 4 32 (.t 21) (.t 24)⟩,
  ⟨(some 6), none, .mv (.t 25)⟩]
def c77r6 : List AOper := [
  ⟨(some 26), none, .mv (.t 6)⟩,
  ⟨(some 27), none, .ld (some 4) (.t 3)⟩,
  ⟨(some 28), none, .bsl 4 [.i .i64 0, .i .i64 0, .i .i64 0, .i .i64 0] [(0, 4, (.t 27))]⟩,
  ⟨(some 29), none, .app 4 32 (.t 26) (.t 28)⟩,
  ⟨(some 6), none, .mv (.t 29)⟩]
def c77r7 : List AOper := [
  ⟨(some 30), none, .mv (.t 6)⟩,
  ⟨(some 31), none, .mv (.t 0)⟩,
  ⟨(some 32), none, .mv (.t 5)⟩,
  ⟨(some 33), none, .sli 4 (.t 31) (some (.t 32)) none⟩,
  ⟨(some 34), none, .app 4 32 (.t 30) (.t 33)⟩,
  ⟨(some 4), none, .mv (.t 34)⟩]
abbrev c77 : AC := (.seq (.reg c77r0) (.seq (.reg c77r1) (.seq (.blk 0 (.loop c77b4)) (.seq (.reg c77r5) (.seq (.reg c77r6) (.seq (.reg c77r7) .ret))))))
def q77 : List ARes := [.t 4]
theorem fn77 : fnOf Try.prog 77 = some (c77, q77, 35) := by kernel_rfl
def c78r0 : List AOper := [
  ⟨(some 2), none, .mv (.c (.i .i64 0))⟩]
def c78r1 : List AOper := [
  ⟨(some 3), none, .mv (.t 0)⟩,
  ⟨(some 4), none, .call (.c (.fn 67 [] [])) [(.t 3)]⟩]
def c78r2 : List AOper := [
  ⟨(some 2), none, .mv (.c (.i .i64 0))⟩]
def c78r3 : List AOper := [
  ⟨(some 5), none, .mv (.t 0)⟩,
  ⟨(some 6), none, .nck (.t 5)⟩,
  ⟨(some 7), none, .fa (.t 6) 3⟩,
  ⟨(some 8), none, .ld none (.t 7)⟩,
  ⟨(some 2), none, .mv (.t 8)⟩]
abbrev c78 : AC := (.seq (.reg c78r0) (.seq (.seq (.reg c78r1) (.cond (.t 4) (.seq (.reg c78r2) .ret) .skip)) (.seq (.reg c78r3) .ret)))
def q78 : List ARes := [.t 2]
theorem fn78 : fnOf Try.prog 78 = some (c78, q78, 9) := by kernel_rfl
def c79r0 : List AOper := [
  ⟨(some 6), none, .mv (.c (.b false))⟩]
def c79r1 : List AOper := [
  ⟨(some 7), none, .mv (.c (.i .i64 0))⟩]
def c79r2 : List AOper := [
  ⟨(some 12), none, .bsl 1 [.i .i64 0, .i .i64 0] [(0, 1, (.c (.i .i64 2))), (1, 1, (.c (.i .i64 3)))]⟩,
  ⟨(some 13), none, .len (.t 12)⟩,
  ⟨(some 14), none, .mv (.c (.i .i64 0))⟩]
def c79r3 : List AOper := [
  ⟨(some 15), none, .bin false .lss (.t 14) (.t 13)⟩]
def c79r4 : List AOper := [
  ⟨(some 16), none, .ia 1 (.t 12) (.t 14)⟩,
  ⟨(some 17), none, .ld none (.t 16)⟩,
  ⟨(some 9), none, .mv (.t 17)⟩]
def c79r5 : List AOper := [
  ⟨(some 19), none, .mv (.t 0)⟩,
  ⟨(some 20), none, .mv (.t 9)⟩,
  ⟨(some 21), none, .mv (.t 1)⟩,
  ⟨(some 22), none, .bld [.i .i64 0, .i .i64 0] [(0, 1, (.t 20)), (1, 1, (.t 21))]⟩,
  ⟨(some 23), none, .mlk (some [0, 0]) (.ag [.i .i64 0, .i .i64 0, .i .i64 0, .i .i64 0]) true (.t 19) (.t 22)⟩,
  ⟨(some 18), none, .mv (.t 23)⟩,
  ⟨(some 24), none, .ext (.t 18) 0⟩,
  ⟨(some 25), none, .ext (.t 18) 1⟩,
  ⟨(some 10), none, .alloc [.i .i64 0, .i .i64 0, .i .i64 0, .i .i64 0]⟩,
  ⟨none, none, .sto (some 4) (.t 10) (.t 24)⟩,
  ⟨(some 11), none, .mv (.t 25)⟩]
def c79r6 : List AOper := [
  ⟨(some 26), none, .mv (.t 11)⟩,
  ⟨(some 27), none, .mv (.t 26)⟩,
  ⟨(some 28), (some (27, true)), .fa (.t 10) 2⟩,
  ⟨(some 29), (some (27, true)), .ld none (.t 28)⟩,
  ⟨(some 30), (some (27, true)), .mv (.t 2)⟩,
  ⟨(some 31), (some (27, true)), .bin false .leq (.t 29) (.t 30)⟩,
  ⟨(some 32), none, .pick (.t 27) (.t 31) (.c (.b false))⟩]
def c79r7 : List AOper := [
  ⟨(some 33), none, .mv (.t 7)⟩,
  ⟨(some 34), none, .fa (.t 10) 3⟩,
  ⟨(some 35), none, .ld none (.t 34)⟩,
  ⟨(some 36), none, .bin false .add (.t 33) (.t 35)⟩,
  ⟨(some 7), none, .mv (.t 36)⟩]
def c79r8 : List AOper := [
  ⟨(some 37), none, .bin false .add (.t 14) (.c (.i .i64 1))⟩,
  ⟨(some 14), none, .mv (.t 37)⟩]
abbrev c79b9 : AC := (.seq (.reg c79r3) (.seq (.cond (.t 15) .skip (.exit 0)) (.seq (.blk 1 (.seq (.reg c79r4) (.seq (.reg c79r5) (.seq (.reg c79r6) (.cond (.t 32) (.reg c79r7) .skip))))) (.reg c79r8))))
def c79r10 : List AOper := [
  ⟨(some 38), none, .mv (.t 7)⟩,
  ⟨(some 39), none, .mv (.t 0)⟩,
  ⟨(some 40), none, .mv (.t 1)⟩,
  ⟨(some 41), none, .bld [.i .i64 0, .i .i64 0] [(0, 1, (.c (.i .i64 1))), (1, 1, (.t 40))]⟩,
  ⟨(some 42), none, .mlk (some [0, 0]) (.ag [.i .i64 0, .i .i64 0, .i .i64 0, .i .i64 0]) false (.t 39) (.t 41)⟩,
  ⟨(some 43), none, .fld (.t 42) 3 none⟩,
  ⟨(some 44), none, .bin false .geq (.t 38) (.t 43)⟩,
  ⟨(some 6), none, .mv (.t 44)⟩]
abbrev c79 : AC := (.seq (.reg c79r0) (.seq (.reg c79r1) (.seq (.seq (.reg c79r2) (.blk 0 (.loop c79b9))) (.seq (.reg c79r10) .ret))))
def q79 : List ARes := [.t 6]
theorem fn79 : fnOf Try.prog 79 = some (c79, q79, 45) := by kernel_rfl
def c80r0 : List AOper := [
  ⟨(some 4), none, .box (.t 1)⟩,
  ⟨(some 6), none, .mv (.c (.b false))⟩]
def c80r1 : List AOper := [
  ⟨(some 7), none, .mv (.c (.i .i64 0))⟩]
def c80r2 : List AOper := [
  ⟨(some 10), none, .mv (.t 0)⟩,
  ⟨(some 11), none, .len (.t 10)⟩,
  ⟨(some 12), none, .mv (.c (.i .i64 0))⟩]
def c80r3 : List AOper := [
  ⟨(some 13), none, .bin false .lss (.t 12) (.t 11)⟩]
def c80r4 : List AOper := [
  ⟨(some 14), none, .ia 4 (.t 10) (.t 12)⟩,
  ⟨(some 15), none, .ld (some 4) (.t 14)⟩,
  ⟨(some 9), none, .alloc [.i .i64 0, .i .i64 0, .i .i64 0, .i .i64 0]⟩,
  ⟨none, none, .sto (some 4) (.t 9) (.t 15)⟩]
def c80r5 : List AOper := [
  ⟨(some 16), none, .fa (.t 9) 1⟩,
  ⟨(some 17), none, .ld none (.t 16)⟩,
  ⟨(some 18), none, .fa (.t 4) 1⟩,
  ⟨(some 19), none, .ld none (.t 18)⟩,
  ⟨(some 20), none, .bin false .eql (.t 17) (.t 19)⟩,
  ⟨(some 21), none, .mv (.t 20)⟩,
  ⟨(some 22), (some (21, true)), .fa (.t 9) 0⟩,
  ⟨(some 23), (some (21, true)), .ld none (.t 22)⟩,
  ⟨(some 24), (some (21, true)), .bin false .eql (.t 23) (.c (.i .i64 2))⟩,
  ⟨(some 25), (some (21, true)), .mv (.t 24)⟩,
  ⟨(some 26), (some (25, false)), .fa (.t 9) 0⟩,
  ⟨(some 27), (some (25, false)), .ld none (.t 26)⟩,
  ⟨(some 28), (some (25, false)), .bin false .eql (.t 27) (.c (.i .i64 3))⟩,
  ⟨(some 29), (some (21, true)), .pick (.t 25) (.c (.b true)) (.t 28)⟩,
  ⟨(some 30), none, .pick (.t 21) (.t 29) (.c (.b false))⟩,
  ⟨(some 31), none, .mv (.t 30)⟩,
  ⟨(some 32), (some (31, true)), .fa (.t 9) 2⟩,
  ⟨(some 33), (some (31, true)), .ld none (.t 32)⟩,
  ⟨(some 34), (some (31, true)), .mv (.t 2)⟩,
  ⟨(some 35), (some (31, true)), .bin false .leq (.t 33) (.t 34)⟩,
  ⟨(some 36), none, .pick (.t 31) (.t 35) (.c (.b false))⟩]
def c80r6 : List AOper := [
  ⟨(some 37), none, .mv (.t 7)⟩,
  ⟨(some 38), none, .fa (.t 9) 3⟩,
  ⟨(some 39), none, .ld none (.t 38)⟩,
  ⟨(some 40), none, .bin false .add (.t 37) (.t 39)⟩,
  ⟨(some 7), none, .mv (.t 40)⟩]
def c80r7 : List AOper := [
  ⟨(some 41), none, .bin false .add (.t 12) (.c (.i .i64 1))⟩,
  ⟨(some 12), none, .mv (.t 41)⟩]
abbrev c80b8 : AC := (.seq (.reg c80r3) (.seq (.cond (.t 13) .skip (.exit 0)) (.seq (.blk 1 (.seq (.reg c80r4) (.seq (.reg c80r5) (.cond (.t 36) (.reg c80r6) .skip)))) (.reg c80r7))))
def c80r9 : List AOper := [
  ⟨(some 42), none, .mv (.t 7)⟩,
  ⟨(some 43), none, .fa (.t 4) 3⟩,
  ⟨(some 44), none, .ld none (.t 43)⟩,
  ⟨(some 45), none, .bin false .geq (.t 42) (.t 44)⟩,
  ⟨(some 6), none, .mv (.t 45)⟩]
abbrev c80 : AC := (.seq (.reg c80r0) (.seq (.reg c80r1) (.seq (.seq (.reg c80r2) (.blk 0 (.loop c80b8))) (.seq (.reg c80r9) .ret))))
def q80 : List ARes := [.t 6]
theorem fn80 : fnOf Try.prog 80 = some (c80, q80, 46) := by kernel_rfl
def c81r0 : List AOper := [
  ⟨(some 2), none, .mv (.c (.sl 0 0 0 0))⟩]
def c81r1 : List AOper := [
  ⟨(some 3), none, .mv (.t 0)⟩,
  ⟨(some 4), none, .bin false .quo (.t 3) (.c (.i .i64 16777216))⟩,
  ⟨(some 5), none, .conv .u8 (.t 4)⟩,
  ⟨(some 6), none, .mv (.t 0)⟩,
  ⟨(some 7), none, .bin false .quo (.t 6) (.c (.i .i64 65536))⟩,
  ⟨(some 8), none, .conv .u8 (.t 7)⟩,
  ⟨(some 9), none, .mv (.t 0)⟩,
  ⟨(some 10), none, .bin false .quo (.t 9) (.c (.i .i64 256))⟩,
  ⟨(some 11), none, .conv .u8 (.t 10)⟩,
  ⟨(some 12), none, .mv (.t 0)⟩,
  ⟨(some 13), none, .conv .u8 (.t 12)⟩,
  ⟨(some 14), none, .bsl 1 [.i .u8 0, .i .u8 0, .i .u8 0, .i .u8 0] [(0, 1, (.t 5)), (1, 1, (.t 8)), (2, 1, (.t 11)), (3, 1, (.t 13))]⟩,
  ⟨(some 2), none, .mv (.t 14)⟩]
abbrev c81 : AC := (.seq (.reg c81r0) (.seq (.reg c81r1) .ret))
def q81 : List ARes := [.t 2]
theorem fn81 : fnOf Try.prog 81 = some (c81, q81, 15) := by kernel_rfl
def c87r0 : List AOper := [
  ⟨(some 2), none, .box (.t 0)⟩,
  ⟨(some 3), none, .box (.t 1)⟩,
  ⟨(some 4), none, .mv (.c (.b false))⟩]
def c87r1 : List AOper := [
  ⟨(some 5), none, .fa (.t 2) 0⟩,
  ⟨(some 6), none, .ld none (.t 5)⟩,
  ⟨(some 7), none, .fa (.t 3) 0⟩,
  ⟨(some 8), none, .ld none (.t 7)⟩,
  ⟨(some 9), none, .bin false .eql (.t 6) (.t 8)⟩,
  ⟨(some 10), none, .mv (.t 9)⟩,
  ⟨(some 11), (some (10, true)), .fa (.t 2) 1⟩,
  ⟨(some 12), (some (10, true)), .ld none (.t 11)⟩,
  ⟨(some 13), (some (10, true)), .fa (.t 3) 1⟩,
  ⟨(some 14), (some (10, true)), .ld none (.t 13)⟩,
  ⟨(some 15), (some (10, true)), .bin false .eql (.t 12) (.t 14)⟩,
  ⟨(some 16), none, .pick (.t 10) (.t 15) (.c (.b false))⟩,
  ⟨(some 4), none, .mv (.t 16)⟩]
abbrev c87 : AC := (.seq (.reg c87r0) (.seq (.reg c87r1) .ret))
def q87 : List ARes := [.t 4]
theorem fn87 : fnOf Try.prog 87 = some (c87, q87, 17) := by kernel_rfl
def c92r0 : List AOper := [
  ⟨(some 2), none, .box (.t 0)⟩,
  ⟨(some 3), none, .box (.t 1)⟩,
  ⟨(some 4), none, .mv (.c (.i .i64 0))⟩]
def c92r1 : List AOper := [
  ⟨(some 5), none, .fa (.t 2) 0⟩,
  ⟨(some 6), none, .ld none (.t 5)⟩,
  ⟨(some 7), none, .fa (.t 3) 0⟩,
  ⟨(some 8), none, .ld none (.t 7)⟩,
  ⟨(some 9), none, .bin false .neq (.t 6) (.t 8)⟩]
def c92r2 : List AOper := [
  ⟨(some 10), none, .fa (.t 2) 0⟩,
  ⟨(some 11), none, .ld none (.t 10)⟩,
  ⟨(some 12), none, .fa (.t 3) 0⟩,
  ⟨(some 13), none, .ld none (.t 12)⟩,
  ⟨(some 14), none, .bin false .sub (.t 11) (.t 13)⟩,
  ⟨(some 4), none, .mv (.t 14)⟩]
def c92r3 : List AOper := [
  ⟨(some 15), none, .fa (.t 2) 1⟩,
  ⟨(some 16), none, .ld none (.t 15)⟩,
  ⟨(some 17), none, .fa (.t 3) 1⟩,
  ⟨(some 18), none, .ld none (.t 17)⟩,
  ⟨(some 19), none, .bin false .sub (.t 16) (.t 18)⟩,
  ⟨(some 4), none, .mv (.t 19)⟩]
abbrev c92 : AC := (.seq (.reg c92r0) (.seq (.seq (.reg c92r1) (.cond (.t 9) (.seq (.reg c92r2) .ret) .skip)) (.seq (.reg c92r3) .ret)))
def q92 : List ARes := [.t 4]
theorem fn92 : fnOf Try.prog 92 = some (c92, q92, 20) := by kernel_rfl
def q93 : List ARes := []
def c94r0 : List AOper := [
  ⟨(some 2), none, .box (.t 0)⟩,
  ⟨(some 3), none, .box (.t 1)⟩,
  ⟨(some 4), none, .mv (.c (.i .i64 0))⟩]
def c94r1 : List AOper := [
  ⟨(some 5), none, .ld (some 4) (.t 2)⟩,
  ⟨(some 6), none, .call (.c (.fn 58 [] [])) [(.t 5)]⟩,
  ⟨(some 7), none, .ld (some 4) (.t 3)⟩,
  ⟨(some 8), none, .call (.c (.fn 58 [] [])) [(.t 7)]⟩,
  ⟨(some 9), none, .call (.c (.fn 92 [] [])) [(.t 6), (.t 8)]⟩,
  ⟨(some 4), none, .mv (.t 9)⟩]
abbrev c94 : AC := (.seq (.reg c94r0) (.seq (.head 3 c94r1) .ret))
def q94 : List ARes := [.t 4]
theorem fn94 : fnOf Try.prog 94 = some (c94, q94, 10) := by kernel_rfl
def c95r0 : List AOper := [
  ⟨(some 4), none, .mv (.c (.i .i64 0))⟩]
def c95r1 : List AOper := [
  ⟨(some 6), none, .mv (.t 0)⟩,
  ⟨(some 7), none, .len (.t 6)⟩,
  ⟨(some 8), none, .mv (.c (.i .i64 0))⟩]
def c95r2 : List AOper := [
  ⟨(some 9), none, .bin false .lss (.t 8) (.t 7)⟩]
def c95r3 : List AOper := [
  ⟨(some 10), none, .mv (.t 8)⟩,
  ⟨(some 5), none, .mv (.t 10)⟩]
def c95r4 : List AOper := [
  ⟨(some 11), none, .mv (.t 1)⟩,
  ⟨(some 12), none, .mv (.t 0)⟩,
  ⟨(some 13), none, .mv (.t 5)⟩,
  ⟨(some 14), none, .ia 4 (.t 12) (.t 13)⟩,
  ⟨(some 15), none, .ld (some 4) (.t 14)⟩,
  ⟨(some 16), none, .call (.t 11) [(.t 15)]⟩]
def c95r5 : List AOper := [
  ⟨(some 17), none, .mv (.t 5)⟩,
  ⟨(some 4), none, .mv (.t 17)⟩]
def c95r6 : List AOper := [
  ⟨(some 18), none, .bin false .add (.t 8) (.c (.i .i64 1))⟩,
  ⟨(some 8), none, .mv (.t 18)⟩]
abbrev c95b7 : AC := (.seq (.reg c95r2) (.seq (.cond (.t 9) .skip (.exit 0)) (.seq (.blk 1 (.seq (.reg c95r3) (.seq (.reg c95r4) (.cond (.t 16) (.seq (.reg c95r5) .ret) .skip)))) (.reg c95r6))))
def c95r8 : List AOper := [
  ⟨(some 4), none, .mv (.c (.i .i64 (-1)))⟩]
abbrev c95 : AC := (.seq (.reg c95r0) (.seq (.seq (.reg c95r1) (.blk 0 (.loop c95b7))) (.seq (.reg c95r8) .ret)))
def q95 : List ARes := [.t 4]
theorem fn95 : fnOf Try.prog 95 = some (c95, q95, 19) := by kernel_rfl
def c97r0 : List AOper := [
  ⟨(some 4), none, .mv (.c (.b false))⟩]
def c97r1 : List AOper := [
  ⟨(some 5), none, .mv (.t 0)⟩,
  ⟨(some 6), none, .mv (.t 1)⟩,
  ⟨(some 7), none, .call (.c (.fn 95 [] [])) [(.t 5), (.t 6)]⟩,
  ⟨(some 8), none, .bin false .geq (.t 7) (.c (.i .i64 0))⟩,
  ⟨(some 4), none, .mv (.t 8)⟩]
abbrev c97 : AC := (.seq (.reg c97r0) (.seq (.reg c97r1) .ret))
def q97 : List ARes := [.t 4]
theorem fn97 : fnOf Try.prog 97 = some (c97, q97, 9) := by kernel_rfl
def c98r0 : List AOper := [
  ⟨(some 1), none, .box (.t 0)⟩,
  ⟨(some 2), none, .mv (.c (.b false))⟩]
def c98r1 : List AOper := [
  ⟨(some 3), none, .ld (some 4) (.t 1)⟩,
  ⟨(some 4), none, .call (.c (.fn 65 [] [])) [(.t 3)]⟩,
  ⟨(some 5), none, .not (.t 4)⟩,
  ⟨(some 2), none, .mv (.t 5)⟩]
abbrev c98 : AC := (.seq (.reg c98r0) (.seq (.reg c98r1) .ret))
def q98 : List ARes := [.t 2]
theorem fn98 : fnOf Try.prog 98 = some (c98, q98, 6) := by kernel_rfl
def c100r0 : List AOper := [
  ⟨(some 2), none, .box (.t 0)⟩,
  ⟨(some 3), none, .box (.t 1)⟩,
  ⟨(some 4), none, .mv (.c (.b false))⟩]
def c100r1 : List AOper := [
  ⟨(some 5), none, .fa (.t 2) 0⟩,
  ⟨(some 6), none, .ld none (.t 5)⟩,
  ⟨(some 7), none, .fa (.t 3) 0⟩,
  ⟨(some 8), none, .ld none (.t 7)⟩,
  ⟨(some 9), none, .bin false .lss (.t 6) (.t 8)⟩,
  ⟨(some 10), none, .mv (.t 9)⟩,
  ⟨(some 11), (some (10, false)), .fa (.t 2) 0⟩,
  ⟨(some 12), (some (10, false)), .ld none (.t 11)⟩,
  ⟨(some 13), (some (10, false)), .fa (.t 3) 0⟩,
  ⟨(some 14), (some (10, false)), .ld none (.t 13)⟩,
  ⟨(some 15), (some (10, false)), .bin false .eql (.t 12) (.t 14)⟩,
  ⟨(some 16), (some (10, false)), .mv (.t 15)⟩,
  ⟨(some 17), (some (16, true)), .fa (.t 2) 1⟩,
  ⟨(some 18), (some (16, true)), .ld none (.t 17)⟩,
  ⟨(some 19), (some (16, true)), .fa (.t 3) 1⟩,
  ⟨(some 20), (some (16, true)), .ld none (.t 19)⟩,
  ⟨(some 21), (some (16, true)), .bin false .lss (.t 18) (.t 20)⟩,
  ⟨(some 22), (some (10, false)), .pick (.t 16) (.t 21) (.c (.b false))⟩,
  ⟨(some 23), none, .pick (.t 10) (.c (.b true)) (.t 22)⟩,
  ⟨(some 4), none, .mv (.t 23)⟩]
abbrev c100 : AC := (.seq (.reg c100r0) (.seq (.reg c100r1) .ret))
def q100 : List ARes := [.t 4]
theorem fn100 : fnOf Try.prog 100 = some (c100, q100, 24) := by kernel_rfl
end Go.Proofs.Ytfbhncddniofbaa
set_option linter.unusedVariables false
set_option linter.unusedSimpArgs false
namespace Go.Am
theorem okG_hb {P : Program} {tok tok' : Nat} {hb hb' : AH} {o : AOper} (hv : o.op.isVal = true) {st : St} {h : AH} {v : AV} (e : okG P tok hb o st h v none) : okG P tok' hb' o st h v none := by
  unfold okG at *
  cases hg : o.g with
  | none => simp only [hg] at e ⊢; cases hop : o.op <;> simp only [hop, AOp.isVal, Bool.false_eq_true] at hv <;> simp only [hop, okA, AOp.isAl, if_true, if_false, Bool.false_eq_true] at e ⊢ <;> exact e
  | some sw =>
    obtain ⟨s, want⟩ := sw
    simp only [hg] at e ⊢
    split at e
    · cases hop : o.op <;> simp only [hop, AOp.isVal, Bool.false_eq_true] at hv <;> simp only [hop, okC, AOp.isVal, if_true, if_false, Bool.false_eq_true] at e ⊢ <;> exact e
    · exact e.elim
theorem val_cal {o : AOp} (h : o.isVal = true) : o.cal = false := by cases o <;> simp [AOp.isVal, AOp.cal] at h ⊢
theorem okG_stepU {P : Program} {tok tok' : Nat} {hb : AH} {o : AOper} (hv : o.op.isVal = true) {st st' : St} {h h' : AH} (e : stepU tok o st h = some (st', h')) : ∃ v, st' = put o.d v st ∧ h' = h ∧ okG P tok' hb o st h v none := by
  obtain ⟨d, og, op⟩ := o
  cases og with
  | none =>
    simp only [stepU] at e
    cases op <;> simp only [AOp.isVal, Bool.false_eq_true] at hv <;> simp only [stepA, AOp.isAl, if_false, Bool.false_eq_true, Option.map_eq_some_iff, Prod.mk.injEq] at e <;>
      (obtain ⟨v, hv, rfl, rfl⟩ := e; refine ⟨v, rfl, rfl, ?_⟩; simp only [okG, okA, AOp.isAl, if_false, Bool.false_eq_true]; exact ⟨trivial, hv⟩)
  | some sw =>
    obtain ⟨s, want⟩ := sw
    simp only [stepU] at e
    cases hq : guardOf (st.get s) want with
    | none => simp only [hq, reduceCtorEq] at e
    | some g =>
      simp only [hq] at e
      simp only at hv
      rw [if_pos hv] at e
      cases g with
      | true =>
        simp only [if_true, Option.map_eq_some_iff, Prod.mk.injEq] at e
        obtain ⟨v, hv1, rfl, rfl⟩ := e
        refine ⟨_, rfl, rfl, ?_⟩
        simp only [okG, hq]
        cases op <;> simp only [AOp.isVal, Bool.false_eq_true] at hv <;> simp only [okC, AOp.isVal, if_true] <;> exact ⟨trivial, _, rfl, fun _ => hv1⟩
      | false =>
        simp only [if_false, Bool.false_eq_true, Option.some.injEq, Prod.mk.injEq] at e
        obtain ⟨rfl, rfl⟩ := e
        refine ⟨_, rfl, rfl, ?_⟩
        simp only [okG, hq]
        cases op <;> simp only [AOp.isVal, Bool.false_eq_true] at hv <;> simp only [okC, AOp.isVal, if_true] <;> exact ⟨trivial, _, rfl, fun q => nomatch q⟩
def evLt (P : Program) (hT : AH) : List AOper → St → (AH → Prop) → (St → (AH → Prop) → Prop) → Prop
  | [], st, H, K => K st H
  | o :: os, st, H, K =>
    (o.op.isVal = true ∧ ∃ v, okG P 0 hT o st hT v none ∧ evLt P hT os (put o.d v st) H K) ∨
    (o.g = none ∧ ∃ f args fid fst caps v H', o.op = .call f args ∧ f.val st = .fn fid fst caps ∧ (∀ h, H h → ACalls P fid (fst ++ args.map (AX.val st) ++ caps) h fun r h' => r = v ∧ H' h') ∧
      (∀ h, H' h → ∀ t c, hT.m t = some c → h.m t = some c) ∧ evLt P hT os (put o.d v st) H' K)
def AOper.lt (o : AOper) : Bool := o.op.isVal || (o.op.cal && o.g.isNone)
section
variable {P : Program} {N : Nat} {Q : Exit → St → AH → Prop} {st0 : St} {h0 hT : AH} {w0 : World} {ι0 : Inj} {base : Nat} {ops : Array Oper} {aops : List AOper} {dep : Nat → Nat → Prop} {m : Nat}
structure LtC (P : Program) (aops : List AOper) (st0 : St) (ρ : Nat → AV) (HH : Nat → AH → Prop) (j : Nat) (ao : AOper) : Prop where
  g : ao.g = none
  c : ∃ f args fid fst caps, ao.op = .call f args ∧ f.val (stD aops ρ st0 full j) = .fn fid fst caps ∧ ∀ h, HH j h → ACalls P fid (fst ++ args.map (AX.val (stD aops ρ st0 full j)) ++ caps) h fun r h' => r = ρ j ∧ HH (j + 1) h'
theorem lt_ok (hm : m ≤ aops.length) {K : St → (AH → Prop) → Prop} : ∀ (k i : Nat), i + k = m → ∀ (ρ0 : Nat → AV) (H0 : Nat → AH → Prop), (∀ h, H0 i h → ∀ t c, hT.m t = some c → h.m t = some c) →
    evLt P hT ((aops.drop i).take k) (stD aops ρ0 st0 full i) (H0 i) K →
    ∃ ρ HH, (∀ j, j < i → ρ j = ρ0 j) ∧ (∀ j, j ≤ i → HH j = H0 j) ∧
      (∀ j ao, i ≤ j → j < m → aops[j]? = some ao → (ao.op.isVal = true ∧ HH (j + 1) = HH j ∧ okG P 0 hT ao (stD aops ρ st0 full j) hT (ρ j) none) ∨ LtC P aops st0 ρ HH j ao) ∧
      (∀ j, i ≤ j → j ≤ m → ∀ h, HH j h → ∀ t c, hT.m t = some c → h.m t = some c) ∧ K (stD aops ρ st0 full m) (HH m)
  | 0, i, hi, ρ0, H0, hs, e => by
    simp only [List.take_zero, evLt] at e
    have : i = m := by omega
    subst this
    exact ⟨ρ0, H0, fun _ _ => rfl, fun _ _ => rfl, fun j ao h1 h2 => by omega, fun j h1 h2 => by (obtain rfl : j = i := (by omega)); exact hs, e⟩
  | k + 1, i, hi, ρ0, H0, hs, e => by
    have hlt : i < aops.length := by omega
    rw [List.drop_eq_getElem_cons hlt, List.take_succ_cons] at e
    have step : ∀ (v : AV) (H1 : AH → Prop), (∀ h, H1 h → ∀ t c, hT.m t = some c → h.m t = some c) → evLt P hT ((aops.drop (i + 1)).take k) (put aops[i].d v (stD aops ρ0 st0 full i)) H1 K →
        ((aops[i].op.isVal = true ∧ H1 = H0 i ∧ okG P 0 hT aops[i] (stD aops ρ0 st0 full i) hT v none) ∨ LtC P aops st0 (fun j => if j = i then v else ρ0 j) (fun j => if j = i + 1 then H1 else H0 j) i aops[i]) →
        ∃ ρ HH, (∀ j, j < i → ρ j = ρ0 j) ∧ (∀ j, j ≤ i → HH j = H0 j) ∧
          (∀ j ao, i ≤ j → j < m → aops[j]? = some ao → (ao.op.isVal = true ∧ HH (j + 1) = HH j ∧ okG P 0 hT ao (stD aops ρ st0 full j) hT (ρ j) none) ∨ LtC P aops st0 ρ HH j ao) ∧
          (∀ j, i ≤ j → j ≤ m → ∀ h, HH j h → ∀ t c, hT.m t = some c → h.m t = some c) ∧ K (stD aops ρ st0 full m) (HH m) := by
      intro v H1 hs1 e1 hone
      let ρ1 : Nat → AV := fun j => if j = i then v else ρ0 j
      let G1 : Nat → AH → Prop := fun j => if j = i + 1 then H1 else H0 j
      have low1 : ∀ j, j < i → ρ1 j = ρ0 j := fun j hj => by (have : j ≠ i := (by omega)); simp [ρ1, this]
      have e2 : stD aops ρ1 st0 full (i + 1) = put aops[i].d v (stD aops ρ0 st0 full i) := by
        simp only [stD, full, if_true, List.getElem?_eq_getElem hlt, Option.bind_some]
        rw [stD_congr (ρ := ρ1) (ρ' := ρ0) (D := full) (D' := full) fun j hj => ⟨low1 j hj, rfl⟩]
        simp [ρ1]
      obtain ⟨ρ, HH, q1, q2, q3, q4, q5⟩ := lt_ok hm k (i + 1) (by omega) ρ1 G1 (by simpa [G1] using hs1) (by rw [e2]; simpa [G1] using e1)
      have hρi : ρ i = v := by rw [q1 i (by omega)]; simp [ρ1]
      have hst : stD aops ρ st0 full i = stD aops ρ0 st0 full i := stD_congr fun j hj => ⟨(q1 j (by omega)).trans (low1 j hj), rfl⟩
      have hG : HH (i + 1) = H1 := by rw [q2 (i + 1) (Nat.le_refl _)]; simp [G1]
      have hGi : HH i = H0 i := by rw [q2 i (by omega)]; simp [G1]
      refine ⟨ρ, HH, fun j hj => (q1 j (by omega)).trans (low1 j hj), fun j hj => by rw [q2 j (by omega)]; (have : j ≠ i + 1 := (by omega)); simp [G1, this], fun j ao hij hjm hao => ?_, fun j hij hjm => ?_, q5⟩
      · by_cases hji : j = i
        · subst hji
          have hao' : aops[j] = ao := by rw [List.getElem?_eq_getElem hlt] at hao; simpa using hao
          rw [hao'] at hone
          rcases hone with ⟨h1, h2, h3⟩ | h1
          · exact .inl ⟨h1, by rw [hG, hGi]; exact h2, by rw [hst, hρi]; exact h3⟩
          · refine .inr ⟨h1.g, ?_⟩
            obtain ⟨f, args, fid, fst, caps, c1, c2, c3⟩ := h1.c
            have e3 : stD aops (fun j' => if j' = j then v else ρ0 j') st0 full j = stD aops ρ st0 full j := stD_congr fun l hl => ⟨(q1 l (by omega)).symm, rfl⟩
            rw [e3] at c2 c3
            refine ⟨f, args, fid, fst, caps, c1, c2, fun h hh => ?_⟩
            rw [hρi, hG]
            have := c3 h (by rw [hGi] at hh; simpa using hh)
            simpa using this
        · exact q3 j ao (by omega) hjm hao
      · by_cases hji : j = i
        · subst hji; rw [hGi]; exact hs
        · exact q4 j (by omega) hjm
    simp only [evLt] at e
    rcases e with ⟨hv, v, hok, e⟩ | ⟨hg, f, args, fid, fst, caps, v, H', hop, hf, hc, hs', e⟩
    · exact step v (H0 i) hs e (.inl ⟨hv, rfl, hok⟩)
    · refine step v H' hs' e (.inr ⟨hg, f, args, fid, fst, caps, hop, ?_, ?_⟩)
      · rw [stD_congr (ρ' := ρ0) (D' := full) fun l hl => ⟨if_neg (by omega), rfl⟩]; exact hf
      · intro h hh
        rw [stD_congr (ρ' := ρ0) (D' := full) fun l hl => ⟨if_neg (by omega), rfl⟩]
        have := hc h (by simpa using hh)
        simpa using this
variable {QQ : Exit → Act → World → Prop} {K : St → AH → Prop}
theorem late_wpAny (H : HeadOK ops aops dep m) (hof : opersOf P N ops = some aops) (hmn : m ≤ ops.size) (hna : ∀ b, aops[m]? = some b → b.app1 = false)
    (hK : ∀ st h ι a w, K st h → ARel N ι st a → WRel ι h w → Ext ι0 h0 w0 ι h w → QQ .normal a w) {ρ : Nat → AV} {HH : Nat → AH → Prop}
    (hok : ∀ j ao, j < m → aops[j]? = some ao → (ao.op.isVal = true ∧ HH (j + 1) = HH j ∧ okG P 0 hT ao (stD aops ρ st0 full j) hT (ρ j) none) ∨ LtC P aops st0 ρ HH j ao)
    (hsub : ∀ j, j ≤ m → ∀ h, HH j h → ∀ t c, hT.m t = some c → h.m t = some c)
    (htail : ∀ h, HH m h → evOps P base (aops.drop m) m (stD aops ρ st0 full m) h K) :
    ∀ (fuel : Nat) (listed : Array Bool) (a : Act) (w : World) (ι : Inj) (h : AH) (n : Nat), cnt (lst listed) ops.size + fuel = ops.size → listed.size = ops.size → Closed ops (lst listed) → (∀ j, lst listed j = true → j < m) →
      n ≤ m → (∀ j ao, j < m → aops[j]? = some ao → ao.op.cal = true → (lst listed j = true ↔ j < n)) → HH n h →
      Inv N ι0 h0 w0 base ops.size (fun j => lst listed j = false) (stD aops ρ st0 (lst listed) m) h a w ι → wpAny P .any ops QQ fuel listed a w := by
  obtain ⟨hlen, hget⟩ := opersOf_spec hof
  have hcal : ∀ {j : Nat} {ao : AOper}, j < m → aops[j]? = some ao → ao.op.cal = false → HH (j + 1) = HH j := fun {j ao} hj ha hc => by
    rcases hok j ao hj ha with q | q
    · exact q.2.1
    · obtain ⟨f, args, _, _, _, e, _⟩ := q.c
      rw [e] at hc; cases hc
  -- no call from n up to i
  have same : ∀ (n i : Nat), n ≤ i → i ≤ m → (∀ j ao, n ≤ j → j < i → aops[j]? = some ao → ao.op.cal = false) → HH i = HH n := by
    intro n i hni
    induction i with
    | zero => intro _ _; have : n = 0 := by omega
              subst this; rfl
    | succ i ih =>
      intro him hc
      by_cases e : n = i + 1
      · subst e; rfl
      · have hai : aops[i]? = some aops[i] := List.getElem?_eq_getElem (by omega)
        rw [hcal (by omega) hai (hc i _ (by omega) (by omega) hai)]
        exact ih (by omega) (by omega) fun j ao h1 h2 => hc j ao h1 (by omega)
  have finish : ∀ (fuel : Nat) (listed : Array Bool) (a : Act) (w : World) (ι : Inj) (h : AH) (n : Nat), cnt (lst listed) ops.size + fuel = ops.size → listed.size = ops.size → (∀ j, lst listed j = true → j < m) → n ≤ m →
      (∀ j ao, j < m → aops[j]? = some ao → ao.op.cal = true → (lst listed j = true ↔ j < n)) → HH n h → Inv N ι0 h0 w0 base ops.size (fun j => lst listed j = false) (stD aops ρ st0 (lst listed) m) h a w ι →
      (∀ k, k < m → lst listed k = true) → wpAny P .any ops QQ fuel listed a w := by
    intro fuel listed a w ι h n hc hs hlm hn hcl hh I hbelow
    have e1 : stD aops ρ st0 (lst listed) m = stD aops ρ st0 full m := stD_congr fun j hj => ⟨rfl, hbelow j hj⟩
    rw [e1] at I
    have hcnt : cnt (lst listed) ops.size = m := by
      have : ∀ k, k ≤ ops.size → cnt (lst listed) k = min k m := by
        intro k
        induction k with
        | zero => intro _; simp [cnt]
        | succ k ihk =>
          intro hk
          simp only [cnt, ihk (by omega)]
          by_cases hki : k < m
          · rw [if_pos (hbelow k hki)]; omega
          · rw [if_neg (fun hq => hki (hlm k hq))]; omega
      have := this ops.size (Nat.le_refl _)
      omega
    have hm : HH m h := by
      rw [same n m hn (Nat.le_refl _) fun j ao h1 h2 hao => by
        cases q : ao.op.cal with
        | false => rfl
        | true => have := (hcl j ao h2 hao q).1 (hbelow j h2); omega]
      exact hh
    exact tail_wpAny H hof hK fuel listed a w m _ _ ι (by omega) (Nat.le_refl _) hs (fun j => ⟨hlm j, hbelow j⟩)
      ⟨I.ar, I.wr, I.ex, fun j hj hf => I.fr j hj (by cases hq : lst listed j with | false => rfl | true => have := hlm j hq; omega), I.nx, I.b0, I.b1⟩ (htail h hm)
  intro fuel
  induction fuel with
  | zero =>
    intro listed a w ι h n hc hs hcl hlm hn hcc hh I
    have hall := cnt_all (D := lst listed) (k := ops.size) (by omega)
    exact finish 0 listed a w ι h n hc hs hlm hn hcc hh I fun k hk => hall k (by omega)
  | succ fuel ih =>
    intro listed a w ι h n hc hs hcl hlm hn hcc hh I
    have hin : ∀ j, lst listed j = true → j < ops.size := fun j hj => lst_lt hs hj
    by_cases hbelow : ∀ k, k < m → lst listed k = true
    · exact finish (fuel + 1) listed a w ι h n hc hs hlm hn hcc hh I hbelow
    refine ⟨fun hr => ?_, fun i hi => ?_⟩
    · exact absurd (fun k hk => ready_nil H hs hr k (by omega)) hbelow
    · obtain ⟨h1, h2, h3⟩ := ready_spec hs hi
      have hdeps : ∀ k, dep k i → lst listed k = true := by
        intro k hk
        obtain ⟨e', he', hb', hor⟩ := H.c2 i ops[i] k (by simp [h1]) hk
        have hle := h3 _ e' (by simp [h1]) he' hb'
        rcases hor with hor | hor
        · rw [← hor]; exact hle
        · exact closed_dep H hcl hin _ _ hle hor
      have him : i < m := by
        refine Classical.byContradiction fun him => hbelow fun k hk => ?_
        rcases H.c4 k i (by omega) h1 (by omega) with q | ⟨q, _, b, hb, hb1⟩
        · exact hdeps k q
        · subst q; rw [hna b hb] at hb1; cases hb1
      obtain ⟨ao, hao, hofo, hd, hdN, hgN⟩ := hget i ops[i] (by simp [h1])
      have hset := lst_set (listed := listed) (i := i) (by omega)
      have slots : ∀ x ∈ ao.reads, (stD aops ρ st0 full i).get x = (stD aops ρ st0 (lst listed) m).get x := fun x hx => (slots_same H hlen hcl hin hao him h2 hdeps hx).symm
      have next : ∀ (n' : Nat) (h' : AH) (a' : Act) (w' : World) (ι' : Inj), n' ≤ m → (∀ j ao, j < m → aops[j]? = some ao → ao.op.cal = true → ((lst listed j || j == i) = true ↔ j < n')) → HH n' h' →
          Inv N ι0 h0 w0 base ops.size (fun j => lst listed j = false ∧ ¬ j = i) (put ao.d (ρ i) (stD aops ρ st0 (lst listed) m)) h' a' w' ι' → wpAny P .any ops QQ fuel (listed.setIfInBounds i true) a' w' := by
        intro n' h' a' w' ι' hn' hcc' hh' I'
        refine ih (listed.setIfInBounds i true) a' w' ι' h' n' ?_ (by simpa using hs) ?_ ?_ hn' (fun j aj hj ha hca => by rw [hset]; exact hcc' j aj hj ha hca) hh' ?_
        · rw [hset, cnt_insert h2 h1]; omega
        · rw [hset]
          intro j o e hj ho he hb'
          simp only [Bool.or_eq_true, beq_iff_eq] at hj ⊢
          rcases hj with hj | rfl
          · exact .inl (hcl j o e hj ho he hb')
          · exact .inl (h3 o e ho he hb')
        · rw [hset]
          intro j hj
          simp only [Bool.or_eq_true, beq_iff_eq] at hj
          rcases hj with hj | rfl
          · exact hlm j hj
          · exact him
        · rw [hset]
          refine ⟨⟨I'.ar.size, I'.ar.defs, fun x => ?_⟩, I'.wr, I'.ex, fun j hj hf => ?_, I'.nx, I'.b0, I'.b1⟩
          · rw [stD_insert H hcl hin hao him h2]
            exact I'.ar.slot x
          · simp only [Bool.or_eq_false_iff, beq_eq_false_iff_ne] at hf
            exact I'.fr j hj ⟨hf.1, hf.2⟩
      rcases hok i ao him hao with ⟨q1, q2, q3⟩ | q
      · have hmove : okG P (base + i) h ao (stD aops ρ st0 (lst listed) m) h (ρ i) none := okG_move slots (fun _ x t _ _ c hr => hsub n hn h hh t c hr) (okG_hb q1 q3)
        have hev := okG_ev (fun hc => by rw [val_cal q1] at hc; cases hc) rfl hmove
        refine wpOp_mono ?_ (evG_wpOp (o := ops[i]) (by simp [h1]) hofo hdN hgN h1 h2 I hev)
        rintro a' w' ⟨st', h', ι', ⟨rfl, rfl⟩, I'⟩
        refine next n _ a' w' ι' hn (fun j aj hj ha hca => ?_) hh I'
        have : j ≠ i := fun e => by subst e; rw [hao] at ha; cases ha; rw [val_cal q1] at hca; cases hca
        rw [Bool.or_eq_true, beq_iff_eq, hcc j aj hj ha hca]
        exact ⟨fun z => z.resolve_right this, .inl⟩
      · obtain ⟨f, args, fid, fst, caps, c1, c2, c3⟩ := q.c
        have hca : ao.op.cal = true := by rw [c1]; rfl
        have hni : n ≤ i := by
          refine Classical.byContradiction fun z => ?_
          rw [(hcc i ao him hao hca).2 (by omega)] at h2; cases h2
        have hcb : ∀ j aj, j < i → aops[j]? = some aj → aj.op.cal = true → lst listed j = true := fun j aj hj ha hc' => hdeps j (H.c9 j i aj ao hj him ha hao hc' hca)
        have hHi : HH i h := by
          rw [same n i hni (by omega) fun j aj hj1 hj2 ha => by
            cases z : aj.op.cal with
            | false => rfl
            | true => have := (hcc j aj (by omega) ha z).1 (hcb j aj hj2 ha z); omega]
          exact hh
        have vals : ∀ x ∈ ao.op.xs, x.val (stD aops ρ st0 full i) = x.val (stD aops ρ st0 (lst listed) m) := fun x hx => by
          cases x with
          | c v => rfl
          | t k => exact slots k (by unfold AOper.reads; exact List.mem_append_left _ (List.mem_filterMap.2 ⟨.t k, hx, rfl⟩))
        rw [c1] at vals
        have hev : evG P (base + i) ao (stD aops ρ st0 (lst listed) m) h fun st' h' => st' = put ao.d (ρ i) (stD aops ρ st0 (lst listed) m) ∧ HH (i + 1) h' := by
          unfold evG
          rw [q.g, c1]
          simp only [evA]
          rw [← vals f (by simp [AOp.xs]), c2]
          simp only []
          rw [← List.map_congr_left (f := AX.val (stD aops ρ st0 full i)) fun y hy => vals y (by simp [AOp.xs, hy])]
          exact .inl ((c3 h hHi).mono fun r h' ⟨hr, hh'⟩ => ⟨by rw [hr], hh'⟩)
        refine wpOp_mono ?_ (evG_wpOp (o := ops[i]) (by simp [h1]) hofo hdN hgN h1 h2 I hev)
        rintro a' w' ⟨st', h', ι', ⟨rfl, hh'⟩, I'⟩
        refine next (i + 1) h' a' w' ι' (by omega) (fun j aj hj ha hc' => ?_) hh' I'
        rw [Bool.or_eq_true, beq_iff_eq]
        constructor
        · rintro (z | z)
          · have := (hcc j aj hj ha hc').1 z; omega
          · omega
        · intro z
          by_cases e : j = i
          · exact .inr e
          · exact .inl (hcb j aj (by omega) ha hc')
theorem awp_late {id : Nat} {st : St} {h : AH} (hmix : P.follows .mixedOrders = true) (hof : opersOf P N ops = some aops) (H : HeadOK ops aops dep m) (hmn : m ≤ ops.size) (hna : ∀ b, aops[m]? = some b → b.app1 = false)
    (hT0 : ∀ t c, hT.m t = some c → h.m t = some c)
    (e : evLt P hT (aops.take m) st (fun x => x = { h with nx := h.nx + aops.length }) fun st' H' => ∀ h', H' h' → evOps P h.nx (aops.drop m) m st' h' fun st h => Q .normal st h) :
    Awp P N (.region id ops true) Q st h := fun ι a w ar wr => by
  obtain ⟨hlen, _⟩ := opersOf_spec hof
  refine wp_mono (wp_region_any (opersOf_nd hof) (nrm_lets (Q := Q)) hmix ?_) nrm_lift
  obtain ⟨ρ, HH, _, hH0, hok, hsub, htail⟩ := lt_ok (P := P) (aops := aops) (st0 := st) (hT := hT) (m := m) (by omega) m 0 (by omega) (fun _ => .un) (fun _ x => x = { h with nx := h.nx + aops.length }) (by rintro h' rfl t c q; exact hT0 t c q) (by simpa [stD] using e)
  have hfalse : lst (Array.replicate ops.size false) = fun _ => false := by
    funext j
    unfold lst
    rw [Array.getD_eq_getD_getElem?]
    by_cases hj : j < ops.size
    · simp [hj]
    · rw [Array.getElem?_eq_none (by simp; omega)]; rfl
  have hst : stD aops ρ st (fun _ => false) m = st := by
    have : ∀ k, stD aops ρ st (fun _ => false) k = st := by
      intro k; induction k with
      | zero => rfl
      | succ k ih => simp [stD, ih]
    exact this m
  refine late_wpAny (ι0 := ι) (h0 := h) (w0 := w) (base := h.nx) (st0 := st) (hT := hT) (K := fun st h => Q .normal st h) H hof hmn hna (fun st' h' ι' a' w' k ar' wr' x => ⟨st', h', ι', ⟨rfl, k⟩, ar', wr', x⟩) (ρ := ρ) (HH := HH)
    (fun j ao hj hao => hok j ao (Nat.zero_le _) hj hao) (fun j hj => hsub j (Nat.zero_le _) hj) htail ops.size _ a _ ι { h with nx := h.nx + aops.length } 0 ?_ (by simp) ?_ ?_ (Nat.zero_le _) (fun j ao hj hao hc => ?_) ?_ ?_
  · rw [hfalse]
    have : ∀ k, cnt (fun _ => false) k = 0 := by
      intro k; induction k with
      | zero => rfl
      | succ k ih => simp [cnt, ih]
    rw [this]; omega
  · rw [hfalse]; intro j o e' hj; cases hj
  · rw [hfalse]; intro j hj; cases hj
  · rw [hfalse]; simp
  · rw [hH0 0 (Nat.le_refl _)]
  · rw [hfalse, hst]
    refine ⟨ar, (wr.bump _).drew, ((Ext.refl ι h w).bump _).drew, fun j hj hf => ?_, by simp [hlen], Nat.le_refl _, wr.pos⟩
    cases hq : ι (h.nx + j) with
    | none => rfl
    | some l => have := (wr.lt _ l hq).1; omega
end
section
variable {P : Program} {N : Nat} {Q : Exit → St → AH → Prop} {K : St → AH → Prop} {st : St} {h : AH}
theorem k_headL {m : Nat} {ops : List AOper} (hT : AH) (hna : (match ops[m]? with | some b => b.app1 | none => false) = false) (hT0 : ∀ t c, hT.m t = some c → h.m t = some c)
    (e : evLt P hT (ops.take m) st (fun x => x = h.bump ops.length) fun st' H' => ∀ h', H' h' → evOps P h.nx (ops.drop m) m st' h' K) : W P N (.head m ops) (athen K Q) st h := fun c hc => by
  cases hc with
  | head hl hm hh =>
    obtain ⟨H, hmn⟩ := headB_spec hh
    exact awp_late hm hl H hmn (fun b hb => by rw [hb] at hna; exact hna) hT0 e
def evLR (P : Program) (hT : AH) : Res → (AH → Prop) → (St → (AH → Prop) → Prop) → Prop
  | .done st h, H, K => K st H
  | .call o os i st h, H, K => evLt P hT (o :: os) st H K
  | .bad, _, _ => False
theorem lt_go {hT : AH} {R : Res} {H : AH → Prop} {K : St → (AH → Prop) → Prop} : ∀ {ops : List AOper} (hv : ops.all AOper.lt = true) {i : Nat} {st : St} (e : runS true 0 ops i (some (st, hT)) = R) (k : evLR P hT R H K), evLt P hT ops st H K
  | [], _, i, st, e, k => by simp only [runS] at e; subst e; exact k
  | o :: os, hv, i, st, e, k => by
    simp only [runS] at e
    simp only [List.all_cons, Bool.and_eq_true] at hv
    split at e
    · subst e; exact k
    · rename_i hc
      have hval : o.op.isVal = true := by
        have h1 := hv.1
        unfold AOper.lt at h1
        simp only [Bool.or_eq_true, Bool.and_eq_true] at h1
        rcases h1 with h1 | ⟨h1, _⟩
        · exact h1
        · exfalso
          cases hop : o.op <;> simp [hop, AOp.cal] at h1
          simp [hop, AOp.isCall] at hc
      cases hs : stepU (0 + i) o st hT with
      | none => rw [hs, runS_none] at e; subst e; exact k.elim
      | some p =>
        obtain ⟨st1, h1⟩ := p
        rw [hs] at e
        obtain ⟨v, rfl, rfl, hok⟩ := okG_stepU (P := P) (tok' := 0) (hb := hT) hval hs
        simp only [evLt]
        exact .inl ⟨hval, v, hok, lt_go hv.2 e k⟩
theorem lt_call {hT : AH} {H : AH → Prop} {K : St → (AH → Prop) → Prop} {d : Option Nat} {f : AX} {args : List AX} {os : List AOper} {i fid : Nat} {fst caps az : List AV} (v : AV) (H' : AH → Prop) (hf : f.val st = .fn fid fst caps) (ha : fst ++ args.map (AX.val st) ++ caps = az)
    (c : ∀ h, H h → ACalls P fid az h fun r h' => r = v ∧ H' h') (hs : ∀ h, H' h → ∀ t c, hT.m t = some c → h.m t = some c) (k : evLt P hT os (put d v st) H' K) :
    evLR P hT (.call ⟨d, none, .call f args⟩ os i st h) H K := by
  subst ha
  exact .inr ⟨rfl, f, args, fid, fst, caps, v, H', rfl, hf, c, hs, k⟩
end
end Go.Am
set_option linter.unusedVariables false
set_option linter.unusedSimpArgs false
namespace Go.Am
theorem pure_callF {P : Program} {f : Nat} {args : List AV} {h : AH} {R : AV → Prop} (c : ∀ h' : AH, (∀ t, h'.row t = h.row t) → h'.nx = h.nx → ACalls P f args h' fun r h'' => ∃ v, R v ∧ Ends v r h'') (hp : ∀ r, R r → r.plain = true) :
    ACalls P f args h fun r h' => R r ∧ h' = h :=
  pure_call (R := R) (fun h' hr hn => acalls_frz ((c h' hr hn).mono fun r h'' ⟨v, hv, h3, F⟩ => ⟨v, h3, F, hv⟩)) hp
theorem pure_callV {P : Program} {f : Nat} {args : List AV} {h : AH} {v : AV} (hp : v.plain = true) (c : ∀ h' : AH, (∀ t, h'.row t = h.row t) → h'.nx = h.nx → ACalls P f args h' (Ends v)) :
    ACalls P f args h fun r h' => r = v ∧ h' = h :=
  pure_callF (R := fun r => r = v) (fun h' hr hn => (c h' hr hn).mono fun r h'' e => ⟨v, rfl, e⟩) fun r e => by rw [e]; exact hp
structure Upd (t : Nat) (cs : List AV) (h h' : AH) : Prop where
  m : h'.m t = some (.cells true cs)
  keep : ∀ s, s < h.nx → s ≠ t → h'.m s = h.m s
  nx : h.nx ≤ h'.nx
theorem Upd.ne {t : Nat} {cs : List AV} {h h' : AH} (u : Upd t cs h h') (ok : h.ok) {s : Nat} {b : Blk} (hs : h.m s = some b) (hn : s ≠ t) : h'.m s = some b := by rw [u.keep s (ok _ _ hs) hn]; exact hs
theorem Upd.refl {t : Nat} {cs : List AV} {h : AH} (hm : h.m t = some (.cells true cs)) : Upd t cs h h := ⟨hm, fun _ _ _ => rfl, Nat.le_refl _⟩
structure Upd2 (t1 t2 : Nat) (c1 c2 : List AV) (h h' : AH) : Prop where
  m1 : h'.m t1 = some (.cells true c1)
  m2 : h'.m t2 = some (.cells true c2)
  keep : ∀ s, s < h.nx → s ≠ t1 → s ≠ t2 → h'.m s = h.m s
  nx : h.nx ≤ h'.nx
def EndsW (v : AV) (R : AH → Prop) (r : AV) (h : AH) : Prop := ∃ h', FrzR h r h' v ∧ R h'
theorem w_fn {P : Program} {f : Nat} {ac : AC} {ars : List ARes} {N : Nat} (hf : fnOf P f = some (ac, ars, N)) {args : List AV} {h : AH} {v : AV} {R : AH → Prop} (hN : args.length ≤ N)
    (hw : h.ok → 0 < h.nx → W P N ac (athen (Post ars (EndsW v R)) (Fin (Post ars (EndsW v R)))) (initSt args) h) : ACalls P f args h fun r h' => r = v ∧ R h' :=
  acalls_frz ((a_fn hf hN hw).mono fun r h' ⟨h'', F, hR⟩ => ⟨v, h'', F, rfl, hR⟩)
theorem endsW {v : AV} {R : AH → Prop} {h : AH} (hR : R h) : EndsW v R v h := ⟨h, .done, hR⟩
theorem frz_ul {t a n : Nat} {bs : List Int} (h : n = bs.length) : FrzV t (ul bs) (.sl t 0 n a) (vu bs) := by
  have := @FrzV.sl t (ul bs) 0 n 1 a (by rw [ul_len]; omega)
  rw [List.drop_zero, Nat.mul_one, List.take_of_length_le (by rw [ul_len]; omega)] at this
  subst h; exact this
theorem set1_sub {h : AH} {t : Nat} {b : Blk} (hm : h.m t = some b) : ∀ s c, (H1.set t b).m s = some c → h.m s = some c := fun s c q => by
  unfold AH.set at q
  by_cases e : s = t
  · subst e; simp only [if_true] at q; rw [hm]; exact q
  · simp only [if_neg e] at q; cases q
end Go.Am
set_option linter.unusedVariables false
set_option linter.unusedSimpArgs false
namespace Go.Proofs.Ytfbhncddniofbaa
open Go Go.Am Go.Proofs
structure En where
  knd : Int
  ref : Int
  day : Int
  cts : Int
def E0 : En := ⟨0, 0, 0, 0⟩
def eE (e : En) : List AV := [.i .i64 e.knd, .i .i64 e.ref, .i .i64 e.day, .i .i64 e.cts]
theorem eE_len (e : En) : (eE e).length = 4 := rfl
theorem eE_plain (e : En) : AV.plains (eE e) = true := rfl
abbrev eD (l : List En) (i : Nat) : En := l.getD i E0
def lst_ (e : En) : Int := if e.knd = 4 then 0 else 1
def vE (e : En) : Bool := decide ((1 ≤ e.knd ∧ e.knd ≤ 4) ∧ (1 ≤ e.ref ∧ e.ref ≤ 1000000000) ∧ (0 ≤ e.day ∧ e.day ≤ 100000) ∧ lst_ e ≤ e.cts ∧ e.cts ≤ 1000000000 * lst_ e)
abbrev nmE (e : En) : Int × Int := (e.knd, e.ref)
def vbk (l : List En) (k : Nat) : Prop := (∀ i, i < k → vE (eD l i) = true) ∧ ∀ i j, i < j → j < k → nmE (eD l i) ≠ nmE (eD l j)
def VB (l : List En) : Prop := l.length ≤ 200 ∧ vbk l l.length
noncomputable def vbB (l : List En) : Bool := @decide (VB l) (Classical.propDecidable _)
theorem vb_t {l : List En} (h : VB l) : vbB l = true := by unfold vbB; exact @decide_eq_true _ (Classical.propDecidable _) h
theorem vb_f {l : List En} (h : ¬ VB l) : vbB l = false := by unfold vbB; exact @decide_eq_false _ (Classical.propDecidable _) h
def ahd (a b : En) : Bool := decide (a.knd < b.knd ∨ (a.knd = b.knd ∧ a.ref < b.ref))
theorem ahd_trans {a b c : En} (h1 : ahd a b = true) (h2 : ahd b c = true) : ahd a c = true := by simp only [ahd, decide_eq_true_eq] at *; omega
theorem ahd_asym {a b : En} (h : ahd a b = true) : ahd b a = false := by simp only [ahd, decide_eq_true_eq, decide_eq_false_iff_not] at *; omega
theorem ahd_tot {a b : En} (h : nmE a ≠ nmE b) : ahd a b = true ∨ ahd b a = true := by
  simp only [ahd, decide_eq_true_eq]
  simp only [nmE, ne_eq, Prod.mk.injEq, not_and] at h
  by_cases e : a.knd = b.knd
  · have := h e; omega
  · omega
def putE (l : List En) (e : En) : List En := l.takeWhile (ahd · e) ++ e :: l.dropWhile (ahd · e)
def srtE (l : List En) : List En := l.foldl putE []
theorem putE_perm (l : List En) (e : En) : (putE l e).Perm (l ++ [e]) := by
  unfold putE
  have h : l = l.takeWhile (ahd · e) ++ l.dropWhile (ahd · e) := (List.takeWhile_append_dropWhile ..).symm
  have p : (l.takeWhile (ahd · e) ++ e :: l.dropWhile (ahd · e)).Perm (e :: (l.takeWhile (ahd · e) ++ l.dropWhile (ahd · e))) := List.perm_middle
  rw [← h] at p
  exact p.trans (List.perm_append_comm (l₁ := [e]) (l₂ := l))
theorem srtE_perm (l : List En) : (srtE l).Perm l := by
  have key : ∀ (l acc : List En), (l.foldl putE acc).Perm (acc ++ l) := by
    intro l
    induction l with
    | nil => intro acc; simp
    | cons x xs ih =>
      intro acc
      rw [List.foldl_cons]
      refine (ih _).trans ?_
      refine ((putE_perm acc x).append_right xs).trans ?_
      rw [List.append_assoc]; exact List.Perm.refl _
  have := key l []
  simpa [srtE] using this
abbrev Srt (l : List En) : Prop := l.Pairwise fun a b => ahd a b = true
theorem takeWhile_all {l : List En} {e : En} : ∀ x ∈ l.takeWhile (ahd · e), ahd x e = true := fun x hx => by
  induction l with
  | nil => simp at hx
  | cons y ys ih =>
    rw [List.takeWhile_cons] at hx
    split at hx
    · rename_i q
      rcases List.mem_cons.1 hx with rfl | hx
      · exact q
      · exact ih hx
    · simp at hx
theorem putE_srt {l : List En} {e : En} (h : Srt l) (hn : ∀ x ∈ l, nmE x ≠ nmE e) : Srt (putE l e) := by
  unfold putE
  have hl : l = l.takeWhile (ahd · e) ++ l.dropWhile (ahd · e) := (List.takeWhile_append_dropWhile ..).symm
  have h' := h
  rw [hl, Srt, List.pairwise_append] at h'
  obtain ⟨h1, h2, h3⟩ := h'
  have hd : ∀ y ∈ l.dropWhile (ahd · e), ahd e y = true := by
    intro y hy
    cases hq : l.dropWhile (ahd · e) with
    | nil => rw [hq] at hy; cases hy
    | cons z zs =>
      have hz : ahd z e = false := by
        have := List.head?_dropWhile_not (ahd · e) l
        rw [hq] at this
        simpa using this
      have hzl : z ∈ l := by rw [hl, hq]; simp
      have hez : ahd e z = true := (ahd_tot (hn z hzl)).resolve_left (by rw [hz]; decide)
      rw [hq] at hy h2
      rcases List.mem_cons.1 hy with rfl | hy
      · exact hez
      · exact ahd_trans hez (List.rel_of_pairwise_cons h2 hy)
  rw [Srt, List.pairwise_append]
  refine ⟨h1, List.pairwise_cons.2 ⟨hd, h2⟩, fun a ha b hb => ?_⟩
  rcases List.mem_cons.1 hb with rfl | hb
  · exact takeWhile_all a ha
  · exact h3 a ha b hb
theorem srt_uniq : ∀ {a b : List En}, Srt a → Srt b → a.Perm b → a = b
  | [], b, _, _, p => (List.Perm.nil_eq p)
  | x :: xs, [], _, _, p => by have := p.length_eq; simp at this
  | x :: xs, y :: ys, ha, hb, p => by
    have e : x = y := by
      refine Classical.byContradiction fun ne => ?_
      have h1 : x ∈ y :: ys := p.mem_iff.1 (by simp)
      have h2 : y ∈ x :: xs := p.mem_iff.2 (by simp)
      have h1 : x ∈ ys := (List.mem_cons.1 h1).resolve_left ne
      have h2 : y ∈ xs := (List.mem_cons.1 h2).resolve_left fun q => ne q.symm
      have a1 := List.rel_of_pairwise_cons hb h1
      have a2 := List.rel_of_pairwise_cons ha h2
      rw [ahd_asym a1] at a2; cases a2
    subst e
    rw [srt_uniq (List.pairwise_cons.1 ha).2 (List.pairwise_cons.1 hb).2 p.cons_inv]
abbrev DN (l : List En) : Prop := l.Pairwise fun a b => nmE a ≠ nmE b
theorem VB.dn {l : List En} (h : VB l) : DN l := by
  refine List.pairwise_iff_getElem.2 fun i j hi hj hij => ?_
  have := h.2.2 i j hij hj
  have e1 : eD l i = l[i] := by simp [eD, hi]
  have e2 : eD l j = l[j] := by simp [eD, hj]
  rwa [e1, e2] at this
theorem srtE_srt {l : List En} (h : DN l) : Srt (srtE l) := by
  have key : ∀ (l acc : List En), Srt acc → DN (acc ++ l) → Srt (l.foldl putE acc) := by
    intro l
    induction l with
    | nil => intro acc h _; exact h
    | cons x xs ih =>
      intro acc h hd
      rw [List.foldl_cons]
      have hd' := List.pairwise_append.1 hd
      refine ih _ (putE_srt h fun y hy => hd'.2.2 y hy x (by simp)) ?_
      refine List.Perm.pairwise ?_ hd fun {a b} q => fun e => q e.symm
      have := (putE_perm acc x).append_right xs
      rw [List.append_assoc] at this
      exact this.symm
  exact key l [] List.Pairwise.nil (by simpa using h)
end Go.Proofs.Ytfbhncddniofbaa
set_option linter.unusedVariables false
set_option linter.unusedSimpArgs false
namespace Go.Am
abbrev Rw := Nat × List AV
def rS (k : Nat) (t : Nat) (p : Rw) : AV := .sl t 0 p.1 k
def rV (p : Rw) : AV := .vs p.1 p.2
def rC (k : Nat) (ts : List Nat) (rows : List Rw) : List AV := List.zipWith (rS k) ts rows
def rD (rows : List Rw) (i : Nat) : Rw := rows.getD i (0, [])
def tD (ts : List Nat) (i : Nat) : Nat := ts.getD i 0
structure Nest (h : AH) (k r : Nat) (ts : List Nat) (rows : List Rw) : Prop where
  ok : ∀ p ∈ rows, p.1 * k = p.2.length
  len : ts.length = rows.length
  nd : ts.Nodup
  nr : ∀ t ∈ ts, t ≠ 0 ∧ t ≠ r
  r0 : r ≠ 0
  hr : h.m r = some (.cells true (rC k ts rows))
  ht : ∀ i, i < rows.length → h.m (tD ts i) = some (.cells true (rD rows i).2)
section
variable {h h' : AH} {k r r' t n : Nat} {ts : List Nat} {rows : List Rw} {cs : List AV}
theorem rC_len (e : ts.length = rows.length) : (rC k ts rows).length = rows.length := by simp [rC, e]
theorem rC_get (e : ts.length = rows.length) {i : Nat} (hi : i < rows.length) : (rC k ts rows)[i]? = some (.sl (tD ts i) 0 (rD rows i).1 k) := by
  have h1 : i < ts.length := by omega
  simp [rC, rS, List.getElem?_zipWith, hi, h1, tD, rD]
theorem rC_snoc (e : ts.length = rows.length) : rC k ts rows ++ [.sl t 0 n k] = rC k (ts ++ [t]) (rows ++ [(n, cs)]) := by
  unfold rC
  rw [List.zipWith_append e]
  rfl
theorem rC_set (e : ts.length = rows.length) {i : Nat} : (rC k ts rows).set i (.sl t 0 n k) = rC k (ts.set i t) (rows.set i (n, cs)) := by
  unfold rC
  apply List.ext_getElem?
  intro j
  by_cases hi : j = i
  · subst hi
    by_cases hj : j < rows.length
    · have : j < ts.length := by omega
      have h3 : j < min ts.length rows.length := by omega
      simp [List.getElem?_set, List.getElem?_zipWith, hj, this, rS, h3]
    · rw [List.getElem?_eq_none (by simp; omega), List.getElem?_eq_none (by simp; omega)]
  · have hne : ¬ i = j := fun q => hi q.symm
    simp [List.getElem?_set, List.getElem?_zipWith, hne]
theorem Nest.mem (N : Nest h k r ts rows) {i : Nat} (hi : i < rows.length) : tD ts i ∈ ts := by
  have : i < ts.length := by have := N.len; omega
  simp [tD, this]
theorem Nest.row (N : Nest h k r ts rows) {i : Nat} (hi : i < rows.length) : h.m (tD ts i) = some (.cells true (rD rows i).2) := N.ht i hi
theorem Nest.cell (N : Nest h k r ts rows) {i : Nat} (hi : i < rows.length) : (rC k ts rows)[i]? = some (.sl (tD ts i) 0 (rD rows i).1 k) := rC_get N.len hi
theorem Nest.ne (N : Nest h k r ts rows) {i : Nat} (hi : i < rows.length) : tD ts i ≠ 0 ∧ tD ts i ≠ r := N.nr _ (N.mem hi)
theorem Nest.keep (N : Nest h k r ts rows) (F : ∀ t b, h.m t = some b → h'.m t = some b) : Nest h' k r ts rows :=
  ⟨N.ok, N.len, N.nd, N.nr, N.r0, F _ _ N.hr, fun i hi => F _ _ (N.ht i hi)⟩
theorem Nest.nil (hr : h.m r = some (.cells true [])) (r0 : r ≠ 0) : Nest h k r [] [] := ⟨fun p hp => by (cases hp), rfl, List.nodup_nil, fun t h => by (cases h), r0, hr, fun i hi => by simp at hi⟩
theorem Nest.snoc (N : Nest h k r ts rows) (hn : n * k = cs.length) (r0 : r' ≠ 0) (t0 : t ≠ 0) (tr : t ≠ r') (tn : t ∉ ts) (rn : r' ∉ ts) (hr : h'.m r' = some (.cells true (rC k ts rows ++ [.sl t 0 n k]))) (ht : h'.m t = some (.cells true cs))
    (F : ∀ s b, s ∈ ts → h.m s = some b → h'.m s = some b) : Nest h' k r' (ts ++ [t]) (rows ++ [(n, cs)]) where
  ok p hp := by
    rcases List.mem_append.1 hp with hp | hp
    · exact N.ok p hp
    · rw [List.mem_singleton] at hp; subst hp; exact hn
  len := by simp [N.len]
  nd := by
    rw [List.nodup_append]
    refine ⟨N.nd, by simp, fun a ha b hb e => ?_⟩
    rw [List.mem_singleton] at hb
    subst hb; subst e; exact tn ha
  nr s hs := by
    rcases List.mem_append.1 hs with hs | hs
    · exact ⟨(N.nr s hs).1, fun e => rn (e ▸ hs)⟩
    · rw [List.mem_singleton] at hs; subst hs; exact ⟨t0, tr⟩
  r0 := r0
  hr := by rw [hr, rC_snoc N.len]
  ht i hi := by
    simp only [List.length_append, List.length_cons, List.length_nil] at hi
    by_cases e : i < rows.length
    · have e' : i < ts.length := by have := N.len; omega
      have h1 : tD (ts ++ [t]) i = tD ts i := by simp [tD, List.getD_eq_getElem?_getD, List.getElem?_append_left e']
      have h2 : rD (rows ++ [(n, cs)]) i = rD rows i := by simp [rD, List.getD_eq_getElem?_getD, List.getElem?_append_left e]
      rw [h1, h2]
      exact F _ _ (N.mem e) (N.ht i e)
    · obtain rfl : i = rows.length := by omega
      have h1 : tD (ts ++ [t]) rows.length = t := by rw [← N.len]; simp [tD, List.getD_eq_getElem?_getD]
      have h2 : rD (rows ++ [(n, cs)]) rows.length = (n, cs) := by simp [rD, List.getD_eq_getElem?_getD]
      rw [h1, h2]; exact ht
theorem nodup_set {ts : List Nat} {i t : Nat} (h : ts.Nodup) (hn : t ∉ ts) : (ts.set i t).Nodup := by
  induction ts generalizing i with
  | nil => simp
  | cons a ts ih =>
    have h' := List.nodup_cons.1 h
    simp only [List.mem_cons, not_or] at hn
    cases i with
    | zero => rw [List.set_cons_zero]; exact List.nodup_cons.2 ⟨hn.2, h'.2⟩
    | succ i =>
      rw [List.set_cons_succ]
      refine List.nodup_cons.2 ⟨fun hm => ?_, ih h'.2 hn.2⟩
      rcases List.mem_or_eq_of_mem_set hm with q | q
      · exact h'.1 q
      · exact hn.1 q.symm
theorem Nest.put (N : Nest h k r ts rows) {i : Nat} (hi : i < rows.length) (hn : n * k = cs.length) (t0 : t ≠ 0) (tr : t ≠ r) (tn : t ∉ ts) (hr : h'.m r = some (.cells true ((rC k ts rows).set i (.sl t 0 n k)))) (ht : h'.m t = some (.cells true cs))
    (F : ∀ s b, s ∈ ts → s ≠ tD ts i → h.m s = some b → h'.m s = some b) : Nest h' k r (ts.set i t) (rows.set i (n, cs)) where
  ok p hp := by
    rcases List.mem_or_eq_of_mem_set hp with hp | rfl
    · exact N.ok p hp
    · exact hn
  len := by simp [N.len]
  nd := nodup_set N.nd tn
  nr s hs := by
    rcases List.mem_or_eq_of_mem_set hs with hs | rfl
    · exact N.nr s hs
    · exact ⟨t0, tr⟩
  r0 := N.r0
  hr := by rw [hr, rC_set N.len]
  ht j hj := by
    rw [List.length_set] at hj
    have hj' : j < ts.length := by have := N.len; omega
    have hi' : i < ts.length := by have := N.len; omega
    by_cases e : j = i
    · subst e
      have h1 : tD (ts.set j t) j = t := by simp [tD, List.getD_eq_getElem?_getD, hj']
      have h2 : rD (rows.set j (n, cs)) j = (n, cs) := by simp [rD, List.getD_eq_getElem?_getD, hj]
      rw [h1, h2]; exact ht
    · have ne : ¬ i = j := fun q => e q.symm
      have h1 : tD (ts.set i t) j = tD ts j := by simp [tD, List.getD_eq_getElem?_getD, List.getElem?_set, ne]
      have h2 : rD (rows.set i (n, cs)) j = rD rows j := by simp [rD, List.getD_eq_getElem?_getD, List.getElem?_set, ne]
      rw [h1, h2]
      refine F _ _ (N.mem hj) (fun q => ?_) (N.ht j hj)
      have q2 : ts[j] = ts[i] := by simpa [tD, hj', hi'] using q
      exact e ((List.getElem_inj N.nd).1 q2)
theorem Nows.of_get {h : AH} : ∀ {vs ws : List AV}, vs.length = ws.length → (∀ (i : Nat) (v w : AV), vs[i]? = some v → ws[i]? = some w → Now h v w) → Nows h vs ws
  | [], [], _, _ => .nil
  | [], _ :: _, e, _ => by simp at e
  | _ :: _, [], e, _ => by simp at e
  | v :: vs, w :: ws, e, g => .cons (g 0 v w rfl rfl) (Nows.of_get (by simpa using e) fun i a b ha hb => g (i + 1) a b (by simpa using ha) (by simpa using hb))
theorem Nest.now (N : Nest h k r ts rows) (hp : ∀ p ∈ rows, AV.plains p.2 = true) (a : Nat) : Now h (.sl r 0 rows.length a) (.vs rows.length (rows.map rV)) := by
  refine .sl (cs := rC k ts rows) (ds := rC k ts rows) (by simp [AH.row, N.hr]) (by rw [List.drop_zero, List.take_length]) (Nows.of_get (by rw [rC_len N.len, List.length_map]) fun i v w hv hw => ?_)
  by_cases hi : i < rows.length
  · rw [N.cell hi] at hv
    cases hv
    simp only [List.getElem?_map, List.getElem?_eq_getElem hi, Option.map_some, Option.some.injEq] at hw
    subst hw
    have e : rD rows i = rows[i] := by simp [rD, hi]
    have ht := N.ht i hi
    rw [e] at ht ⊢
    exact Now.row (by simp [AH.row, ht]) (hp _ (List.getElem_mem hi))
  · rw [List.getElem?_eq_none (by rw [List.length_map]; omega)] at hw
    cases hw
end
end Go.Am
set_option linter.unusedVariables false
set_option linter.unusedSimpArgs false
namespace Go.Am
section
variable {P : Program} {N : Nat} {Q : Exit → St → AH → Prop} {st : St} {h : AH}
end
theorem postct {R : AV → AH → Prop} {st : St} {h : AH} {a b : Nat} {k : Option Nat} {t o : Nat} {v : AV} (e : st.get a = .p t o) (e2 : h.read t o k = some v) (q : R (.tu [v, st.get b]) h) : Post [.c a k, .t b] R st h := by
  have e3 : ARes.val st h (.c a k) = some v := by
    unfold ARes.val
    simp only [e]
    exact e2
  refine ⟨[v, st.get b], ?_, q⟩
  simp only [List.mapM_cons, List.mapM_nil, e3]
  rfl
end Go.Am
set_option linter.unusedVariables false
set_option linter.unusedSimpArgs false
namespace Go.Proofs.Ytfbhncddniofbaa
open Go Go.Am Go.Proofs
def eN (p : Int × Int) : List AV := [.i .i64 p.1, .i .i64 p.2]
abbrev eK (p : Int × Int) : AV := .ag (eN p)
theorem kq_K (a b : Int × Int) : kq (some [0, 0]) (eK a) (eK b) = some (decide (a = b)) := by
  obtain ⟨a1, a2⟩ := a
  obtain ⟨b1, b2⟩ := b
  simp [kq, eN, aeq, Prod.mk.injEq]
abbrev vB (l : List En) : AV := .vs l.length (fl eE l)
theorem flE_plain (l : List En) : AV.plains (fl eE l) = true := fl_plain eE_plain l
theorem rdE {l : List En} {j : Nat} (h : j < l.length) : rd (fl eE l) (j * 4) (some 4) = some (.ag (eE (eD l j))) := fl_rd eE_len E0 h
theorem EVA : (type_of% @EV0) ∧ (type_of% @EV1) ∧ (type_of% @EV2) ∧ (type_of% @EV3) ∧ (type_of% @EV4) ∧ (type_of% @EV5) ∧ (type_of% @EV6) ∧ (type_of% @EV7) ∧ (type_of% @EV8) ∧ (type_of% @VALS) := ⟨@EV0, @EV1, @EV2, @EV3, @EV4, @EV5, @EV6, @EV7, @EV8, @VALS⟩
theorem pc58 (e : En) : PC Try.prog 58 [.ag (eE e)] (eK (nmE e)) := by
  obtain ⟨a, b, c, d⟩ := e
  simp only [eE, eN, nmE]
  refine pc_fn fn58 (by simp only [AV.plains, AV.plain, il_plain, bl_plain, Bool.and_true, Bool.true_and, Bool.and_self, eN]) (by simp only [AV.plains, AV.plain, il_plain, bl_plain, Bool.and_true, Bool.true_and, Bool.and_self, eN]) (Nat.le_of_ble_eq_true rfl) ?_
  rw [initSt1]
  repeat' first | with_reducible refine k_seq ?_ | with_reducible refine k_skip ?_ | with_reducible refine k_blkS ?_ | with_reducible refine k_blkR ?_ | with_reducible refine k_blkC ?_ | with_reducible refine k_blkH ?_ | with_reducible refine k_blkB ?_ | with_reducible refine k_blkK ?_ | with_reducible refine k_blkE ?_ | with_reducible refine k_reg ?_ | with_reducible refine r_done ?_ | with_reducible refine s_go (by simp (disch := omega) only [c58r0, c58r1, EVA, plug, ite_same, decide_true, decide_false, eq_self, ↓reduceIte, reduceCtorEq, Nat.reduceAdd, Nat.reduceEqDiff, Nat.reduceLT, Nat.reduceLeDiff, Nat.reduceMul, Nat.reduceSub, Nat.reduceDiv, Int.reduceToNat, Int.reduceAdd, Int.reduceSub, Int.reduceMul, Int.reduceNeg, Int.reduceEq, Int.reduceLT, Int.reduceLE]; with_reducible rfl) ?_ | ((with_reducible refine chk_r ?_); refine r_callF (by simp only [CA, Nat.reduceEqDiff, ↓reduceIte]; rfl) (by exact rfl) (by simp only [CA, Nat.reduceEqDiff, ↓reduceIte]; rfl) rfl ?_) | (with_reducible refine k_condP (by simp only [GA, Nat.reduceEqDiff, ↓reduceIte]; rfl) (by first | (simp only [BO]; rfl) | rfl) (fun ht => ?_) (fun ht => ?_) <;> try (first | exact False.elim ht | exact absurd rfl ht | exact absurd trivial ht | exact Bool.noConfusion ht)) | (with_reducible refine k_ret ?_; repeat with_reducible (first | refine ret_thru ?_ | refine ret_blk ?_ | refine fin ?_)) | (with_reducible refine k_exit ?_; repeat with_reducible (first | refine thru ?_ | refine out_blk ?_ | refine pass (by decide) ?_)) | ((first | refine post1 ?_ | refine post2 ?_ | refine post3 ?_); simp only [GA, Nat.reduceEqDiff, ↓reduceIte]) | (refine postc (by simp only [GA, Nat.reduceEqDiff, ↓reduceIte]; rfl) (by simp (disch := omega) only [c58r0, c58r1, EVA, plug, ite_same, decide_true, decide_false, eq_self, ↓reduceIte, reduceCtorEq, Nat.reduceAdd, Nat.reduceEqDiff, Nat.reduceLT, Nat.reduceLeDiff, Nat.reduceMul, Nat.reduceSub, Nat.reduceDiv, Int.reduceToNat, Int.reduceAdd, Int.reduceSub, Int.reduceMul, Int.reduceNeg, Int.reduceEq, Int.reduceLT, Int.reduceLE]; rfl) ?_) | refine post0 ?_
  all_goals first | exact ends_of | exact ends_eq rfl
theorem RG65 : (type_of% @c65r0.eq_1) ∧ (type_of% @c65r1.eq_1) ∧ (type_of% @c65r2.eq_1) ∧ (type_of% @c65r3.eq_1) ∧ (type_of% @c65r4.eq_1) ∧ (type_of% @c65r5.eq_1) := ⟨@c65r0.eq_1, @c65r1.eq_1, @c65r2.eq_1, @c65r3.eq_1, @c65r4.eq_1, @c65r5.eq_1⟩
theorem pc65 (e : En) : PC Try.prog 65 [.ag (eE e)] (.b (vE e)) := by
  obtain ⟨a, b, c, d⟩ := e
  simp only [eE]
  refine pc_fn fn65 (by simp only [AV.plains, AV.plain, il_plain, bl_plain, Bool.and_true, Bool.true_and, Bool.and_self]) (by simp only [AV.plains, AV.plain, il_plain, bl_plain, Bool.and_true, Bool.true_and, Bool.and_self]) (Nat.le_of_ble_eq_true rfl) ?_
  rw [initSt1]
  by_cases h4 : a = 4
  · have h4' := eq_true h4
    repeat' first | with_reducible refine k_seq ?_ | with_reducible refine k_skip ?_ | with_reducible refine k_blkS ?_ | with_reducible refine k_blkR ?_ | with_reducible refine k_blkC ?_ | with_reducible refine k_blkH ?_ | with_reducible refine k_blkB ?_ | with_reducible refine k_blkK ?_ | with_reducible refine k_blkE ?_ | with_reducible refine k_reg ?_ | with_reducible refine r_done ?_ | with_reducible refine s_go (by simp (disch := omega) only [h4', RG65, EVA, plug, ite_same, decide_true, decide_false, eq_self, ↓reduceIte, reduceCtorEq, Nat.reduceAdd, Nat.reduceEqDiff, Nat.reduceLT, Nat.reduceLeDiff, Nat.reduceMul, Nat.reduceSub, Nat.reduceDiv, Int.reduceToNat, Int.reduceAdd, Int.reduceSub, Int.reduceMul, Int.reduceNeg, Int.reduceEq, Int.reduceLT, Int.reduceLE]; with_reducible rfl) ?_ | ((with_reducible refine chk_r ?_); refine r_callF (by simp only [CA, Nat.reduceEqDiff, ↓reduceIte]; rfl) (by exact rfl) (by simp only [CA, Nat.reduceEqDiff, ↓reduceIte]; rfl) rfl ?_) | (with_reducible refine k_condP (by simp only [GA, Nat.reduceEqDiff, ↓reduceIte]; rfl) (by first | (simp only [BO]; rfl) | rfl) (fun ht => ?_) (fun ht => ?_) <;> try (first | exact False.elim ht | exact absurd rfl ht | exact absurd trivial ht | exact Bool.noConfusion ht)) | (with_reducible refine k_ret ?_; repeat with_reducible (first | refine ret_thru ?_ | refine ret_blk ?_ | refine fin ?_)) | (with_reducible refine k_exit ?_; repeat with_reducible (first | refine thru ?_ | refine out_blk ?_ | refine pass (by decide) ?_)) | ((first | refine post1 ?_ | refine post2 ?_ | refine post3 ?_); simp only [GA, Nat.reduceEqDiff, ↓reduceIte]) | (refine postc (by simp only [GA, Nat.reduceEqDiff, ↓reduceIte]; rfl) (by simp (disch := omega) only [h4', RG65, EVA, plug, ite_same, decide_true, decide_false, eq_self, ↓reduceIte, reduceCtorEq, Nat.reduceAdd, Nat.reduceEqDiff, Nat.reduceLT, Nat.reduceLeDiff, Nat.reduceMul, Nat.reduceSub, Nat.reduceDiv, Int.reduceToNat, Int.reduceAdd, Int.reduceSub, Int.reduceMul, Int.reduceNeg, Int.reduceEq, Int.reduceLT, Int.reduceLE]; rfl) ?_) | refine post0 ?_
    refine ends_eq (b_eq ?_); rw [Bool.eq_iff_iff]
    simp only [vE, lst_, h4, if_true, Bool.and_eq_true, decide_eq_true_eq]
    omega
  · have h4' := eq_false h4
    repeat' first | with_reducible refine k_seq ?_ | with_reducible refine k_skip ?_ | with_reducible refine k_blkS ?_ | with_reducible refine k_blkR ?_ | with_reducible refine k_blkC ?_ | with_reducible refine k_blkH ?_ | with_reducible refine k_blkB ?_ | with_reducible refine k_blkK ?_ | with_reducible refine k_blkE ?_ | with_reducible refine k_reg ?_ | with_reducible refine r_done ?_ | with_reducible refine s_go (by simp (disch := omega) only [h4', RG65, EVA, plug, ite_same, decide_true, decide_false, eq_self, ↓reduceIte, reduceCtorEq, Nat.reduceAdd, Nat.reduceEqDiff, Nat.reduceLT, Nat.reduceLeDiff, Nat.reduceMul, Nat.reduceSub, Nat.reduceDiv, Int.reduceToNat, Int.reduceAdd, Int.reduceSub, Int.reduceMul, Int.reduceNeg, Int.reduceEq, Int.reduceLT, Int.reduceLE]; with_reducible rfl) ?_ | ((with_reducible refine chk_r ?_); refine r_callF (by simp only [CA, Nat.reduceEqDiff, ↓reduceIte]; rfl) (by exact rfl) (by simp only [CA, Nat.reduceEqDiff, ↓reduceIte]; rfl) rfl ?_) | (with_reducible refine k_condP (by simp only [GA, Nat.reduceEqDiff, ↓reduceIte]; rfl) (by first | (simp only [BO]; rfl) | rfl) (fun ht => ?_) (fun ht => ?_) <;> try (first | exact False.elim ht | exact absurd rfl ht | exact absurd trivial ht | exact Bool.noConfusion ht)) | (with_reducible refine k_ret ?_; repeat with_reducible (first | refine ret_thru ?_ | refine ret_blk ?_ | refine fin ?_)) | (with_reducible refine k_exit ?_; repeat with_reducible (first | refine thru ?_ | refine out_blk ?_ | refine pass (by decide) ?_)) | ((first | refine post1 ?_ | refine post2 ?_ | refine post3 ?_); simp only [GA, Nat.reduceEqDiff, ↓reduceIte]) | (refine postc (by simp only [GA, Nat.reduceEqDiff, ↓reduceIte]; rfl) (by simp (disch := omega) only [h4', RG65, EVA, plug, ite_same, decide_true, decide_false, eq_self, ↓reduceIte, reduceCtorEq, Nat.reduceAdd, Nat.reduceEqDiff, Nat.reduceLT, Nat.reduceLeDiff, Nat.reduceMul, Nat.reduceSub, Nat.reduceDiv, Int.reduceToNat, Int.reduceAdd, Int.reduceSub, Int.reduceMul, Int.reduceNeg, Int.reduceEq, Int.reduceLT, Int.reduceLE]; rfl) ?_) | refine post0 ?_
    refine ends_eq (b_eq ?_); rw [Bool.eq_iff_iff]
    simp only [vE, lst_, h4, if_false, Bool.and_eq_true, decide_eq_true_eq]
    omega
theorem pc98 (e : En) : PC Try.prog 98 [.ag (eE e)] (.b (!vE e)) := by
  have q := pc65 e
  obtain ⟨a, b, c, d⟩ := e
  simp only [eE] at *
  refine pc_fn fn98 (by simp only [AV.plains, AV.plain, il_plain, bl_plain, Bool.and_true, Bool.true_and, Bool.and_self]) (by simp only [AV.plains, AV.plain, il_plain, bl_plain, Bool.and_true, Bool.true_and, Bool.and_self]) (Nat.le_of_ble_eq_true rfl) ?_
  rw [initSt1]
  repeat' first | with_reducible refine k_seq ?_ | with_reducible refine k_skip ?_ | with_reducible refine k_blkS ?_ | with_reducible refine k_blkR ?_ | with_reducible refine k_blkC ?_ | with_reducible refine k_blkH ?_ | with_reducible refine k_blkB ?_ | with_reducible refine k_blkK ?_ | with_reducible refine k_blkE ?_ | with_reducible refine k_reg ?_ | with_reducible refine r_done ?_ | with_reducible refine s_go (by simp (disch := omega) only [c98r0, c98r1, EVA, plug, ite_same, decide_true, decide_false, eq_self, ↓reduceIte, reduceCtorEq, Nat.reduceAdd, Nat.reduceEqDiff, Nat.reduceLT, Nat.reduceLeDiff, Nat.reduceMul, Nat.reduceSub, Nat.reduceDiv, Int.reduceToNat, Int.reduceAdd, Int.reduceSub, Int.reduceMul, Int.reduceNeg, Int.reduceEq, Int.reduceLT, Int.reduceLE]; with_reducible rfl) ?_ | ((with_reducible refine chk_r ?_); refine r_callF (by simp only [CA, Nat.reduceEqDiff, ↓reduceIte]; rfl) (by exact rfl) (by simp only [CA, Nat.reduceEqDiff, ↓reduceIte]; rfl) rfl ?_) | ((with_reducible refine chk_r ?_); refine r_callP (by simp only [CA, Nat.reduceEqDiff, ↓reduceIte]; rfl) (by simp only [CA, Nat.reduceEqDiff, ↓reduceIte]; rfl) (by first | exact q _) rfl ?_) | (with_reducible refine k_condP (by simp only [GA, Nat.reduceEqDiff, ↓reduceIte]; rfl) (by first | (simp only [BO]; rfl) | rfl) (fun ht => ?_) (fun ht => ?_) <;> try (first | exact False.elim ht | exact absurd rfl ht | exact absurd trivial ht | exact Bool.noConfusion ht)) | (with_reducible refine k_ret ?_; repeat with_reducible (first | refine ret_thru ?_ | refine ret_blk ?_ | refine fin ?_)) | (with_reducible refine k_exit ?_; repeat with_reducible (first | refine thru ?_ | refine out_blk ?_ | refine pass (by decide) ?_)) | ((first | refine post1 ?_ | refine post2 ?_ | refine post3 ?_); simp only [GA, Nat.reduceEqDiff, ↓reduceIte]) | (refine postc (by simp only [GA, Nat.reduceEqDiff, ↓reduceIte]; rfl) (by simp (disch := omega) only [c98r0, c98r1, EVA, plug, ite_same, decide_true, decide_false, eq_self, ↓reduceIte, reduceCtorEq, Nat.reduceAdd, Nat.reduceEqDiff, Nat.reduceLT, Nat.reduceLeDiff, Nat.reduceMul, Nat.reduceSub, Nat.reduceDiv, Int.reduceToNat, Int.reduceAdd, Int.reduceSub, Int.reduceMul, Int.reduceNeg, Int.reduceEq, Int.reduceLT, Int.reduceLE]; rfl) ?_) | refine post0 ?_
  all_goals first | exact ends_of | exact ends_eq rfl
def fi (p : Nat → Bool) : Nat → Int
  | 0 => -1
  | k + 1 => if 0 ≤ fi p k then fi p k else if p k = true then k else -1
theorem fi_none {p : Nat → Bool} : ∀ {k : Nat}, (∀ j, j < k → p j = false) → fi p k = -1
  | 0, _ => rfl
  | k + 1, h => by
    have := fi_none (k := k) fun j hj => h j (by omega)
    simp only [fi, this, h k (by omega)]
    rfl
theorem fi_at {p : Nat → Bool} {k : Nat} (h : ∀ j, j < k → p j = false) (hp : p k = true) : ∀ {n : Nat}, k < n → fi p n = k
  | 0, hk => by omega
  | n + 1, hk => by
    by_cases e : k = n
    · subst e
      simp only [fi, fi_none h, hp, if_true]
      rfl
    · have := fi_at h hp (n := n) (by omega)
      simp only [fi, this]
      rw [if_pos (by omega)]
theorem fi_ge {p : Nat → Bool} : ∀ {n : Nat}, 0 ≤ fi p n ↔ ∃ j, j < n ∧ p j = true
  | 0 => by simp [fi]
  | n + 1 => by
    have ih := fi_ge (p := p) (n := n)
    simp only [fi]
    by_cases h : 0 ≤ fi p n
    · rw [if_pos h]
      exact ⟨fun _ => let ⟨j, hj, hp⟩ := ih.1 h; ⟨j, by omega, hp⟩, fun _ => h⟩
    · rw [if_neg h]
      by_cases hp : p n = true
      · rw [if_pos hp]
        exact ⟨fun _ => ⟨n, by omega, hp⟩, fun _ => by omega⟩
      · rw [if_neg hp]
        refine ⟨fun q => by omega, fun ⟨j, hj, q⟩ => ?_⟩
        exfalso
        by_cases e : j = n
        · subst e; exact hp q
        · exact h (ih.2 ⟨j, by omega, q⟩)
theorem eg {l : List En} {k : Nat} (h : k < l.length) : rd (fl eE l) (k * 4) (some 4) = some (.ag (eE (eD l k))) := rdE h
abbrev nvE (l : List En) (i : Nat) : Bool := !vE (eD l i)
theorem RG95 : (type_of% @c95r0.eq_1) ∧ (type_of% @c95r1.eq_1) ∧ (type_of% @c95r2.eq_1) ∧ (type_of% @c95r3.eq_1) ∧ (type_of% @c95r4.eq_1) ∧ (type_of% @c95r5.eq_1) ∧ (type_of% @c95r6.eq_1) ∧ (type_of% @c95r8.eq_1) := ⟨@c95r0.eq_1, @c95r1.eq_1, @c95r2.eq_1, @c95r3.eq_1, @c95r4.eq_1, @c95r5.eq_1, @c95r6.eq_1, @c95r8.eq_1⟩
theorem pc95 (l : List En) (hl : l.length ≤ 9223372036854775807) : PC Try.prog 95 [vB l, .fn 98 [] []] (.i .i64 (fi (nvE l) l.length)) := by
  refine pc_fn fn95 (by simp only [AV.plains, AV.plain, il_plain, bl_plain, Bool.and_true, Bool.true_and, Bool.and_self, flE_plain]) (by simp only [AV.plains, AV.plain, il_plain, bl_plain, Bool.and_true, Bool.true_and, Bool.and_self, flE_plain]) (Nat.le_of_ble_eq_true rfl) ?_
  rw [initSt2]
  repeat' first | with_reducible refine k_seq ?_ | with_reducible refine k_skip ?_ | with_reducible refine k_blkS ?_ | with_reducible refine k_blkR ?_ | with_reducible refine k_blkC ?_ | with_reducible refine k_blkH ?_ | with_reducible refine k_blkB ?_ | with_reducible refine k_blkK ?_ | with_reducible refine k_blkE ?_ | with_reducible refine k_reg ?_ | with_reducible refine r_done ?_ | with_reducible refine s_go (by simp (disch := omega) only [RG95, EVA, plug, ite_same, decide_true, decide_false, eq_self, ↓reduceIte, reduceCtorEq, Nat.reduceAdd, Nat.reduceEqDiff, Nat.reduceLT, Nat.reduceLeDiff, Nat.reduceMul, Nat.reduceSub, Nat.reduceDiv, Int.reduceToNat, Int.reduceAdd, Int.reduceSub, Int.reduceMul, Int.reduceNeg, Int.reduceEq, Int.reduceLT, Int.reduceLE]; with_reducible rfl) ?_ | ((with_reducible refine chk_r ?_); refine r_callF (by simp only [CA, Nat.reduceEqDiff, ↓reduceIte]; rfl) (by exact rfl) (by simp only [CA, Nat.reduceEqDiff, ↓reduceIte]; rfl) rfl ?_) | (with_reducible refine k_condP (by simp only [GA, Nat.reduceEqDiff, ↓reduceIte]; rfl) (by first | (simp only [BO]; rfl) | rfl) (fun ht => ?_) (fun ht => ?_) <;> try (first | exact False.elim ht | exact absurd rfl ht | exact absurd trivial ht | exact Bool.noConfusion ht)) | (with_reducible refine k_ret ?_; repeat with_reducible (first | refine ret_thru ?_ | refine ret_blk ?_ | refine fin ?_)) | (with_reducible refine k_exit ?_; repeat with_reducible (first | refine thru ?_ | refine out_blk ?_ | refine pass (by decide) ?_)) | ((first | refine post1 ?_ | refine post2 ?_ | refine post3 ?_); simp only [GA, Nat.reduceEqDiff, ↓reduceIte]) | (refine postc (by simp only [GA, Nat.reduceEqDiff, ↓reduceIte]; rfl) (by simp (disch := omega) only [RG95, EVA, plug, ite_same, decide_true, decide_false, eq_self, ↓reduceIte, reduceCtorEq, Nat.reduceAdd, Nat.reduceEqDiff, Nat.reduceLT, Nat.reduceLeDiff, Nat.reduceMul, Nat.reduceSub, Nat.reduceDiv, Int.reduceToNat, Int.reduceAdd, Int.reduceSub, Int.reduceMul, Int.reduceNeg, Int.reduceEq, Int.reduceLT, Int.reduceLE]; rfl) ?_) | refine post0 ?_
  refine k_blk (k_loopS (X := Unit) [0, 1, 7, 8] l.length (fun k _ => [(0, vB l), (1, .fn 98 [] []), (7, .i .i64 l.length), (8, .i .i64 (k : Int))]) (fun k _ h => ∀ j, j < k → nvE l j = false) () (by simp only [Am.keep, List.map_cons, List.map_nil, GA, Nat.reduceEqDiff, ↓reduceIte]; try rfl) (fun j hj => by omega) ?_)
  rintro k _ h hk hf ok pos
  by_cases hlt : k < l.length
  · have hlt' : (k : Int) < l.length := by omega
    have g := eg hlt
    have q : PC Try.prog 98 [.ag (eE (eD l k))] (.b (nvE l k)) := pc98 (eD l k)
    have f1 := fl_len eE_len l
    simp only [eE] at g q
    cases hm : nvE l k with
    | true =>
      rw [hm] at q
      rw [fi_at hf hm hlt]
      repeat' first | with_reducible refine k_seq ?_ | with_reducible refine k_skip ?_ | with_reducible refine k_blkS ?_ | with_reducible refine k_blkR ?_ | with_reducible refine k_blkC ?_ | with_reducible refine k_blkH ?_ | with_reducible refine k_blkB ?_ | with_reducible refine k_blkK ?_ | with_reducible refine k_blkE ?_ | with_reducible refine k_reg ?_ | with_reducible refine r_done ?_ | with_reducible refine s_go (by simp (disch := omega) only [hlt', g, RG95, EVA, plug, ite_same, decide_true, decide_false, eq_self, ↓reduceIte, reduceCtorEq, Nat.reduceAdd, Nat.reduceEqDiff, Nat.reduceLT, Nat.reduceLeDiff, Nat.reduceMul, Nat.reduceSub, Nat.reduceDiv, Int.reduceToNat, Int.reduceAdd, Int.reduceSub, Int.reduceMul, Int.reduceNeg, Int.reduceEq, Int.reduceLT, Int.reduceLE]; with_reducible rfl) ?_ | ((with_reducible refine chk_r ?_); refine r_callF (by simp only [CA, Nat.reduceEqDiff, ↓reduceIte]; rfl) (by exact rfl) (by simp only [CA, Nat.reduceEqDiff, ↓reduceIte]; rfl) rfl ?_) | ((with_reducible refine chk_r ?_); refine r_callP (by simp only [CA, Nat.reduceEqDiff, ↓reduceIte]; rfl) (by simp only [CA, Nat.reduceEqDiff, ↓reduceIte]; rfl) (by first | exact q _) rfl ?_) | (with_reducible refine k_condP (by simp only [GA, Nat.reduceEqDiff, ↓reduceIte]; rfl) (by first | (simp only [BO]; rfl) | rfl) (fun ht => ?_) (fun ht => ?_) <;> try (first | exact False.elim ht | exact absurd rfl ht | exact absurd trivial ht | exact Bool.noConfusion ht)) | (with_reducible refine k_ret ?_; repeat with_reducible (first | refine ret_thru ?_ | refine ret_blk ?_ | refine fin ?_)) | (with_reducible refine k_exit ?_; repeat with_reducible (first | refine thru ?_ | refine out_blk ?_ | refine pass (by decide) ?_)) | ((first | refine post1 ?_ | refine post2 ?_ | refine post3 ?_); simp only [GA, Nat.reduceEqDiff, ↓reduceIte]) | (refine postc (by simp only [GA, Nat.reduceEqDiff, ↓reduceIte]; rfl) (by simp (disch := omega) only [hlt', g, RG95, EVA, plug, ite_same, decide_true, decide_false, eq_self, ↓reduceIte, reduceCtorEq, Nat.reduceAdd, Nat.reduceEqDiff, Nat.reduceLT, Nat.reduceLeDiff, Nat.reduceMul, Nat.reduceSub, Nat.reduceDiv, Int.reduceToNat, Int.reduceAdd, Int.reduceSub, Int.reduceMul, Int.reduceNeg, Int.reduceEq, Int.reduceLT, Int.reduceLE]; rfl) ?_) | refine post0 ?_
      all_goals first | exact ends_of | exact ends_eq rfl
    | false =>
      rw [hm] at q
      repeat' first | with_reducible refine k_seq ?_ | with_reducible refine k_skip ?_ | with_reducible refine k_blkS ?_ | with_reducible refine k_blkR ?_ | with_reducible refine k_blkC ?_ | with_reducible refine k_blkH ?_ | with_reducible refine k_blkB ?_ | with_reducible refine k_blkK ?_ | with_reducible refine k_blkE ?_ | with_reducible refine k_reg ?_ | with_reducible refine r_done ?_ | with_reducible refine s_go (by simp (disch := omega) only [hlt', g, RG95, EVA, plug, ite_same, decide_true, decide_false, eq_self, ↓reduceIte, reduceCtorEq, Nat.reduceAdd, Nat.reduceEqDiff, Nat.reduceLT, Nat.reduceLeDiff, Nat.reduceMul, Nat.reduceSub, Nat.reduceDiv, Int.reduceToNat, Int.reduceAdd, Int.reduceSub, Int.reduceMul, Int.reduceNeg, Int.reduceEq, Int.reduceLT, Int.reduceLE]; with_reducible rfl) ?_ | ((with_reducible refine chk_r ?_); refine r_callF (by simp only [CA, Nat.reduceEqDiff, ↓reduceIte]; rfl) (by exact rfl) (by simp only [CA, Nat.reduceEqDiff, ↓reduceIte]; rfl) rfl ?_) | ((with_reducible refine chk_r ?_); refine r_callP (by simp only [CA, Nat.reduceEqDiff, ↓reduceIte]; rfl) (by simp only [CA, Nat.reduceEqDiff, ↓reduceIte]; rfl) (by first | exact q _) rfl ?_) | (with_reducible refine k_condP (by simp only [GA, Nat.reduceEqDiff, ↓reduceIte]; rfl) (by first | (simp only [BO]; rfl) | rfl) (fun ht => ?_) (fun ht => ?_) <;> try (first | exact False.elim ht | exact absurd rfl ht | exact absurd trivial ht | exact Bool.noConfusion ht)) | (with_reducible refine k_ret ?_; repeat with_reducible (first | refine ret_thru ?_ | refine ret_blk ?_ | refine fin ?_)) | (with_reducible refine k_exit ?_; repeat with_reducible (first | refine thru ?_ | refine out_blk ?_ | refine pass (by decide) ?_)) | ((first | refine post1 ?_ | refine post2 ?_ | refine post3 ?_); simp only [GA, Nat.reduceEqDiff, ↓reduceIte]) | (refine postc (by simp only [GA, Nat.reduceEqDiff, ↓reduceIte]; rfl) (by simp (disch := omega) only [hlt', g, RG95, EVA, plug, ite_same, decide_true, decide_false, eq_self, ↓reduceIte, reduceCtorEq, Nat.reduceAdd, Nat.reduceEqDiff, Nat.reduceLT, Nat.reduceLeDiff, Nat.reduceMul, Nat.reduceSub, Nat.reduceDiv, Int.reduceToNat, Int.reduceAdd, Int.reduceSub, Int.reduceMul, Int.reduceNeg, Int.reduceEq, Int.reduceLT, Int.reduceLE]; rfl) ?_) | refine post0 ?_
      refine ⟨hlt, (), (by simp only [Am.keep, List.map_cons, List.map_nil, GA, Nat.reduceEqDiff, ↓reduceIte]; try rfl), fun j hj => ?_⟩
      by_cases e : j = k
      · subst e; exact hm
      · exact hf j (by omega)
  · obtain rfl : k = l.length := by omega
    have hlt' : ¬ (l.length : Int) < l.length := by omega
    rw [fi_none hf]
    repeat' first | with_reducible refine k_seq ?_ | with_reducible refine k_skip ?_ | with_reducible refine k_blkS ?_ | with_reducible refine k_blkR ?_ | with_reducible refine k_blkC ?_ | with_reducible refine k_blkH ?_ | with_reducible refine k_blkB ?_ | with_reducible refine k_blkK ?_ | with_reducible refine k_blkE ?_ | with_reducible refine k_reg ?_ | with_reducible refine r_done ?_ | with_reducible refine s_go (by simp (disch := omega) only [hlt', RG95, EVA, plug, ite_same, decide_true, decide_false, eq_self, ↓reduceIte, reduceCtorEq, Nat.reduceAdd, Nat.reduceEqDiff, Nat.reduceLT, Nat.reduceLeDiff, Nat.reduceMul, Nat.reduceSub, Nat.reduceDiv, Int.reduceToNat, Int.reduceAdd, Int.reduceSub, Int.reduceMul, Int.reduceNeg, Int.reduceEq, Int.reduceLT, Int.reduceLE]; with_reducible rfl) ?_ | ((with_reducible refine chk_r ?_); refine r_callF (by simp only [CA, Nat.reduceEqDiff, ↓reduceIte]; rfl) (by exact rfl) (by simp only [CA, Nat.reduceEqDiff, ↓reduceIte]; rfl) rfl ?_) | (with_reducible refine k_condP (by simp only [GA, Nat.reduceEqDiff, ↓reduceIte]; rfl) (by first | (simp only [BO]; rfl) | rfl) (fun ht => ?_) (fun ht => ?_) <;> try (first | exact False.elim ht | exact absurd rfl ht | exact absurd trivial ht | exact Bool.noConfusion ht)) | (with_reducible refine k_ret ?_; repeat with_reducible (first | refine ret_thru ?_ | refine ret_blk ?_ | refine fin ?_)) | (with_reducible refine k_exit ?_; repeat with_reducible (first | refine thru ?_ | refine out_blk ?_ | refine pass (by decide) ?_)) | ((first | refine post1 ?_ | refine post2 ?_ | refine post3 ?_); simp only [GA, Nat.reduceEqDiff, ↓reduceIte]) | (refine postc (by simp only [GA, Nat.reduceEqDiff, ↓reduceIte]; rfl) (by simp (disch := omega) only [hlt', RG95, EVA, plug, ite_same, decide_true, decide_false, eq_self, ↓reduceIte, reduceCtorEq, Nat.reduceAdd, Nat.reduceEqDiff, Nat.reduceLT, Nat.reduceLeDiff, Nat.reduceMul, Nat.reduceSub, Nat.reduceDiv, Int.reduceToNat, Int.reduceAdd, Int.reduceSub, Int.reduceMul, Int.reduceNeg, Int.reduceEq, Int.reduceLT, Int.reduceLE]; rfl) ?_) | refine post0 ?_
    all_goals first | exact ends_of | exact ends_eq rfl
theorem pc97 (l : List En) (hl : l.length ≤ 9223372036854775807) : PC Try.prog 97 [vB l, .fn 98 [] []] (.b (decide (0 ≤ fi (nvE l) l.length))) := by
  refine pc_fn fn97 (by simp only [AV.plains, AV.plain, il_plain, bl_plain, Bool.and_true, Bool.true_and, Bool.and_self, flE_plain]) (by simp only [AV.plains, AV.plain, il_plain, bl_plain, Bool.and_true, Bool.true_and, Bool.and_self, flE_plain]) (Nat.le_of_ble_eq_true rfl) ?_
  rw [initSt2]
  have q := pc95 l hl
  generalize fi (nvE l) l.length = X at q ⊢
  repeat' first | with_reducible refine k_seq ?_ | with_reducible refine k_skip ?_ | with_reducible refine k_blkS ?_ | with_reducible refine k_blkR ?_ | with_reducible refine k_blkC ?_ | with_reducible refine k_blkH ?_ | with_reducible refine k_blkB ?_ | with_reducible refine k_blkK ?_ | with_reducible refine k_blkE ?_ | with_reducible refine k_reg ?_ | with_reducible refine r_done ?_ | with_reducible refine s_go (by simp (disch := omega) only [c97r0, c97r1, EVA, plug, ite_same, decide_true, decide_false, eq_self, ↓reduceIte, reduceCtorEq, Nat.reduceAdd, Nat.reduceEqDiff, Nat.reduceLT, Nat.reduceLeDiff, Nat.reduceMul, Nat.reduceSub, Nat.reduceDiv, Int.reduceToNat, Int.reduceAdd, Int.reduceSub, Int.reduceMul, Int.reduceNeg, Int.reduceEq, Int.reduceLT, Int.reduceLE]; with_reducible rfl) ?_ | ((with_reducible refine chk_r ?_); refine r_callF (by simp only [CA, Nat.reduceEqDiff, ↓reduceIte]; rfl) (by exact rfl) (by simp only [CA, Nat.reduceEqDiff, ↓reduceIte]; rfl) rfl ?_) | ((with_reducible refine chk_r ?_); refine r_callP (by simp only [CA, Nat.reduceEqDiff, ↓reduceIte]; rfl) (by simp only [CA, Nat.reduceEqDiff, ↓reduceIte]; rfl) (by first | exact q _) rfl ?_) | (with_reducible refine k_condP (by simp only [GA, Nat.reduceEqDiff, ↓reduceIte]; rfl) (by first | (simp only [BO]; rfl) | rfl) (fun ht => ?_) (fun ht => ?_) <;> try (first | exact False.elim ht | exact absurd rfl ht | exact absurd trivial ht | exact Bool.noConfusion ht)) | (with_reducible refine k_ret ?_; repeat with_reducible (first | refine ret_thru ?_ | refine ret_blk ?_ | refine fin ?_)) | (with_reducible refine k_exit ?_; repeat with_reducible (first | refine thru ?_ | refine out_blk ?_ | refine pass (by decide) ?_)) | ((first | refine post1 ?_ | refine post2 ?_ | refine post3 ?_); simp only [GA, Nat.reduceEqDiff, ↓reduceIte]) | (refine postc (by simp only [GA, Nat.reduceEqDiff, ↓reduceIte]; rfl) (by simp (disch := omega) only [c97r0, c97r1, EVA, plug, ite_same, decide_true, decide_false, eq_self, ↓reduceIte, reduceCtorEq, Nat.reduceAdd, Nat.reduceEqDiff, Nat.reduceLT, Nat.reduceLeDiff, Nat.reduceMul, Nat.reduceSub, Nat.reduceDiv, Int.reduceToNat, Int.reduceAdd, Int.reduceSub, Int.reduceMul, Int.reduceNeg, Int.reduceEq, Int.reduceLT, Int.reduceLE]; rfl) ?_) | refine post0 ?_
  all_goals first | exact ends_of | exact ends_eq rfl
end Go.Proofs.Ytfbhncddniofbaa
set_option linter.unusedVariables false
set_option linter.unusedSimpArgs false
namespace Go.Proofs.Ytfbhncddniofbaa
open Go Go.Am Go.Proofs
theorem nodup_perm {α : Type} [DecidableEq α] : ∀ {A N : List α}, A.Nodup → (∀ x ∈ A, x ∈ N) → A.length ≤ N.length ∧ (N.length ≤ A.length → A.Perm N)
  | [], N, _, _ => ⟨by simp, fun h => by
    have : N = [] := List.length_eq_zero_iff.1 (by simpa using h)
    rw [this]⟩
  | a :: A, N, hd, hs => by
    have ha : a ∈ N := hs a (by simp)
    obtain ⟨h1, h2⟩ := List.nodup_cons.1 hd
    have l := List.length_erase_of_mem ha
    have lp : 0 < N.length := List.length_pos_of_mem ha
    obtain ⟨i1, i2⟩ := nodup_perm (A := A) (N := N.erase a) h2 fun x hx => (List.mem_erase_of_ne fun (e : x = a) => h1 (e ▸ hx)).2 (hs x (by simp [hx]))
    refine ⟨by simp only [List.length_cons]; omega, fun h => ?_⟩
    simp only [List.length_cons] at h
    exact ((i2 (by omega)).cons a).trans (List.perm_cons_erase ha).symm
def gM (l : List En) : Nat → Int × Int → Option AV
  | 0 => fun _ => none
  | k + 1 => fun p => if p = nmE (eD l k) then some (.ag (eE (eD l k))) else gM l k p
theorem gM_succ (l : List En) (k : Nat) (p : Int × Int) : gM l (k + 1) p = if p = nmE (eD l k) then some (.ag (eE (eD l k))) else gM l k p := rfl
theorem gM_mem {l : List En} {p : Int × Int} : ∀ {k}, gM l k p ≠ none ↔ ∃ i, i < k ∧ nmE (eD l i) = p
  | 0 => by simp [gM]
  | k + 1 => by
    rw [gM_succ]
    by_cases e : p = nmE (eD l k)
    · rw [if_pos e]
      exact ⟨fun _ => ⟨k, by omega, e.symm⟩, fun _ => by simp⟩
    · rw [if_neg e, gM_mem (k := k)]
      constructor
      · rintro ⟨i, hi, q⟩; exact ⟨i, by omega, q⟩
      · rintro ⟨i, hi, q⟩
        by_cases z : i = k
        · subst z; exact absurd q.symm e
        · exact ⟨i, by omega, q⟩
theorem gM_get {l : List En} (hd : DN l) {i : Nat} : ∀ {k}, i < k → k ≤ l.length → gM l k (nmE (eD l i)) = some (.ag (eE (eD l i)))
  | 0, h, _ => by omega
  | k + 1, h, hk => by
    rw [gM_succ]
    by_cases e : i = k
    · subst e; rw [if_pos rfl]
    · have : nmE (eD l i) ≠ nmE (eD l k) := by
        have := List.pairwise_iff_getElem.1 hd i k (by omega) (by omega) (by omega)
        have e1 : eD l i = l[i] := by simp [eD, show i < l.length by omega]
        have e2 : eD l k = l[k] := by simp [eD, show k < l.length by omega]
        rwa [e1, e2]
      rw [if_neg this]
      exact gM_get hd (by omega) (by omega)
theorem lku_some {α : Type} [DecidableEq α] {a : α} : ∀ {ps : List (α × AV)}, lku a ps ≠ none ↔ a ∈ ps.map Prod.fst
  | [] => by simp [lku]
  | p :: ps => by
    have ih := lku_some (a := a) (ps := ps)
    simp only [lku, List.map_cons, List.mem_cons]
    by_cases e : a = p.1
    · simp [e]
    · rw [if_neg e, ih]; simp [e]
theorem names {l : List En} {es : List (AV × AV)} (m : MF eK es (gM l l.length)) : es.length ≤ l.length ∧ (es.length = l.length ↔ DN l) := by
  obtain ⟨ps, rfl, nd, hg⟩ := m
  rw [List.length_map]
  have mem : ∀ a, a ∈ ps.map Prod.fst ↔ a ∈ l.map nmE := fun a => by
    rw [← lku_some, hg, gM_mem, List.mem_map]
    constructor
    · rintro ⟨i, hi, q⟩
      exact ⟨l[i], List.getElem_mem hi, by rw [← q]; simp [eD, hi]⟩
    · rintro ⟨e, he, q⟩
      obtain ⟨i, hi, z⟩ := List.getElem_of_mem he
      exact ⟨i, hi, by rw [← q, ← z]; simp [eD, hi]⟩
  obtain ⟨h1, h2⟩ := nodup_perm nd fun x hx => (mem x).1 hx
  rw [List.length_map, List.length_map] at h1 h2
  have dn : DN l ↔ (l.map nmE).Nodup := by
    unfold List.Nodup
    rw [List.pairwise_map]
  refine ⟨h1, fun e => ?_, fun h => ?_⟩
  · exact dn.2 ((h2 (by omega)).nodup_iff.1 nd)
  · obtain ⟨h3, _⟩ := nodup_perm (dn.1 h) fun x hx => (mem x).2 hx
    rw [List.length_map, List.length_map] at h3
    omega
theorem VB_iff {l : List En} : VB l ↔ l.length ≤ 200 ∧ DN l ∧ ¬ 0 ≤ fi (nvE l) l.length := by
  constructor
  · intro h
    refine ⟨h.1, h.dn, fun q => ?_⟩
    obtain ⟨i, hi, z⟩ := fi_ge.1 q
    have := h.2.1 i hi
    simp only [nvE, this] at z
    cases z
  · rintro ⟨h1, h2, h3⟩
    refine ⟨h1, fun i hi => ?_, fun i j hij hj => ?_⟩
    · cases q : vE (eD l i) with
      | true => rfl
      | false => exact absurd (fi_ge.2 ⟨i, hi, by simp only [nvE, q]; rfl⟩) h3
    · have := List.pairwise_iff_getElem.1 h2 i j (by omega) hj hij
      have e1 : eD l i = l[i] := by simp [eD, show i < l.length by omega]
      have e2 : eD l j = l[j] := by simp [eD, hj]
      rwa [e1, e2]
end Go.Proofs.Ytfbhncddniofbaa
set_option linter.unusedVariables false
set_option linter.unusedSimpArgs false
namespace Go.Proofs.Ytfbhncddniofbaa
open Go Go.Am Go.Proofs
theorem RG64 : (type_of% @c64r0.eq_1) ∧ (type_of% @c64r1.eq_1) ∧ (type_of% @c64r2.eq_1) ∧ (type_of% @c64r3.eq_1) ∧ (type_of% @c64r4.eq_1) ∧ (type_of% @c64r5.eq_1) ∧ (type_of% @c64r6.eq_1) ∧ (type_of% @c64r8.eq_1) := ⟨@c64r0.eq_1, @c64r1.eq_1, @c64r2.eq_1, @c64r3.eq_1, @c64r4.eq_1, @c64r5.eq_1, @c64r6.eq_1, @c64r8.eq_1⟩
theorem f64 (l : List En) (hl : l.length ≤ 9223372036854775807) (h : AH) : ACalls Try.prog 64 [vB l] h fun r h' => ∃ t es, r = .tu [.mp t, .b (vbB l)] ∧ MF eK es (gM l l.length) ∧ h'.m t = some (.map es) ∧ (h.nx ≤ t ∧ t < h'.nx) ∧ (∀ s, s < h.nx → h'.m s = h.m s) ∧ h.nx ≤ h'.nx := by
  have q97 := pc97 l hl
  refine a_fn fn64 (by simp) fun ok pos => ?_
  rw [initSt1]
  repeat' first | with_reducible refine k_seq ?_ | with_reducible refine k_skip ?_ | with_reducible refine k_blkS ?_ | with_reducible refine k_blkR ?_ | with_reducible refine k_blkC ?_ | with_reducible refine k_blkH ?_ | with_reducible refine k_blkB ?_ | with_reducible refine k_blkK ?_ | with_reducible refine k_blkE ?_ | with_reducible refine k_reg ?_ | with_reducible refine k_head (by with_unfolding_all rfl) ?_ | with_reducible refine k_headS ?_ | (with_reducible refine SepK.mk ?_ ?_; (refine sepQ_P ?_; simp [sepQ, sepG, AOp.late, AOp.free, AOp.xs, AOp.isAl, tokNe, AV.tok, stS_get, strip, AX.val, RG64, GA]; try omega)) | with_reducible refine r_done ?_ | with_reducible refine hr_done ?_ | with_reducible refine s_go (by simp (disch := omega) only [RG64, EVA, plug, ite_same, decide_true, decide_false, eq_self, ↓reduceIte, reduceCtorEq, Nat.reduceAdd, Nat.reduceEqDiff, Nat.reduceLT, Nat.reduceLeDiff, Nat.reduceMul, Nat.reduceSub, Nat.reduceDiv, Int.reduceToNat, Int.reduceAdd, Int.reduceSub, Int.reduceMul, Int.reduceNeg, Int.reduceEq, Int.reduceLT, Int.reduceLE]; with_reducible rfl) ?_ | with_reducible refine h_go (by with_unfolding_all rfl) (by simp (disch := omega) only [RG64, EVA, plug, ite_same, decide_true, decide_false, eq_self, ↓reduceIte, reduceCtorEq, Nat.reduceAdd, Nat.reduceEqDiff, Nat.reduceLT, Nat.reduceLeDiff, Nat.reduceMul, Nat.reduceSub, Nat.reduceDiv, Int.reduceToNat, Int.reduceAdd, Int.reduceSub, Int.reduceMul, Int.reduceNeg, Int.reduceEq, Int.reduceLT, Int.reduceLE]; with_reducible rfl) ?_ | ((with_reducible refine chk_r ?_); refine r_callF (by simp only [CA, Nat.reduceEqDiff, ↓reduceIte]; rfl) (by exact rfl) (by simp only [CA, Nat.reduceEqDiff, ↓reduceIte]; rfl) rfl ?_) | ((with_reducible refine chk_h ?_); refine hr_callF (by simp only [CA, Nat.reduceEqDiff, ↓reduceIte]; rfl) (by exact rfl) (by simp only [CA, Nat.reduceEqDiff, ↓reduceIte]; rfl) rfl ?_) | ((with_reducible refine chk_h ?_); refine hr_app (by simp (disch := omega) only [RG64, EVA, plug, ite_same, decide_true, decide_false, eq_self, ↓reduceIte, reduceCtorEq, Nat.reduceAdd, Nat.reduceEqDiff, Nat.reduceLT, Nat.reduceLeDiff, Nat.reduceMul, Nat.reduceSub, Nat.reduceDiv, Int.reduceToNat, Int.reduceAdd, Int.reduceSub, Int.reduceMul, Int.reduceNeg, Int.reduceEq, Int.reduceLT, Int.reduceLE]; with_reducible rfl) rfl ?_) | (with_reducible refine k_condP (by simp only [GA, Nat.reduceEqDiff, ↓reduceIte]; rfl) (by first | (simp only [BO]; rfl) | rfl) (fun ht => ?_) (fun ht => ?_) <;> try (first | exact False.elim ht | exact absurd rfl ht | exact absurd trivial ht | exact Bool.noConfusion ht)) | (with_reducible refine k_ret ?_; repeat with_reducible (first | refine ret_thru ?_ | refine ret_blk ?_ | refine fin ?_)) | (with_reducible refine k_exit ?_; repeat with_reducible (first | refine thru ?_ | refine out_blk ?_ | refine pass (by decide) ?_)) | ((first | refine post1 ?_ | refine post2 ?_ | refine post3 ?_); simp only [GA, Nat.reduceEqDiff, ↓reduceIte]) | (refine postc (by simp only [GA, Nat.reduceEqDiff, ↓reduceIte]; rfl) (by simp (disch := omega) only [RG64, EVA, plug, ite_same, decide_true, decide_false, eq_self, ↓reduceIte, reduceCtorEq, Nat.reduceAdd, Nat.reduceEqDiff, Nat.reduceLT, Nat.reduceLeDiff, Nat.reduceMul, Nat.reduceSub, Nat.reduceDiv, Int.reduceToNat, Int.reduceAdd, Int.reduceSub, Int.reduceMul, Int.reduceNeg, Int.reduceEq, Int.reduceLT, Int.reduceLE]; rfl) ?_) | refine post0 ?_
  refine k_blk (k_loopS (X := Nat × List (AV × AV)) [0, 4, 8, 9, 10] l.length (fun k x => [(0, vB l), (4, .mp x.1), (8, vB l), (9, .i .i64 l.length), (10, .i .i64 (k : Int))])
    (fun k x h2 => h2.m x.1 = some (.map x.2) ∧ MF eK x.2 (gM l k) ∧ h.nx ≤ x.1 ∧ (∀ s, s < h.nx → h2.m s = h.m s) ∧ h.nx ≤ h2.nx) (_, []) (by simp only [Am.keep, List.map_cons, List.map_nil, GA, Nat.reduceEqDiff, ↓reduceIte]; try rfl) ⟨by simp (disch := omega) only [RG64, EVA, plug, ite_same, decide_true, decide_false, eq_self, ↓reduceIte, reduceCtorEq, Nat.reduceAdd, Nat.reduceEqDiff, Nat.reduceLT, Nat.reduceLeDiff, Nat.reduceMul, Nat.reduceSub, Nat.reduceDiv, Int.reduceToNat, Int.reduceAdd, Int.reduceSub, Int.reduceMul, Int.reduceNeg, Int.reduceEq, Int.reduceLT, Int.reduceLE] <;> rfl, MF.nil, ?_, fun s hs => (by simp (disch := omega) only [RG64, EVA, plug, ite_same, decide_true, decide_false, eq_self, ↓reduceIte, reduceCtorEq, Nat.reduceAdd, Nat.reduceEqDiff, Nat.reduceLT, Nat.reduceLeDiff, Nat.reduceMul, Nat.reduceSub, Nat.reduceDiv, Int.reduceToNat, Int.reduceAdd, Int.reduceSub, Int.reduceMul, Int.reduceNeg, Int.reduceEq, Int.reduceLT, Int.reduceLE]), ?_⟩ ?_)
  · simp only [AH.bump_nx]; omega
  · simp only [AH.bump_nx, AH.set_nx]; omega
  rintro k ⟨t, es⟩ h2 hk ⟨hm, hf, tn, kp, nx⟩ ok2 pos2
  simp only at hm hf tn kp nx ⊢
  have lt := ok2.m hm
  by_cases klt : k < l.length
  · have klt' : (k : Int) < l.length := by omega
    have g := eg klt
    have q58 := pc58 (eD l k)
    obtain ⟨u1, u2⟩ := mup_F kq_K hf (nmE (eD l k)) (.ag (eE (eD l k)))
    have gs : (fun b => if b = nmE (eD l k) then some (.ag (eE (eD l k))) else gM l k b) = gM l (k + 1) := rfl
    rw [gs] at u2
    generalize eD l k = e at *
    obtain ⟨e1, e2, e3, e4⟩ := e
    simp only [eE, eN, nmE] at g q58 u1 u2
    repeat' first | with_reducible refine k_seq ?_ | with_reducible refine k_skip ?_ | with_reducible refine k_blkS ?_ | with_reducible refine k_blkR ?_ | with_reducible refine k_blkC ?_ | with_reducible refine k_blkH ?_ | with_reducible refine k_blkB ?_ | with_reducible refine k_blkK ?_ | with_reducible refine k_blkE ?_ | with_reducible refine k_reg ?_ | with_reducible refine k_head (by with_unfolding_all rfl) ?_ | with_reducible refine k_headS ?_ | (with_reducible refine SepK.mk ?_ ?_; (refine sepQ_P ?_; simp [sepQ, sepG, AOp.late, AOp.free, AOp.xs, AOp.isAl, tokNe, AV.tok, stS_get, strip, AX.val, RG64, GA]; try omega)) | with_reducible refine r_done ?_ | with_reducible refine hr_done ?_ | with_reducible refine s_go (by simp (disch := omega) only [klt', g, hm, u1, RG64, EVA, plug, ite_same, decide_true, decide_false, eq_self, ↓reduceIte, reduceCtorEq, Nat.reduceAdd, Nat.reduceEqDiff, Nat.reduceLT, Nat.reduceLeDiff, Nat.reduceMul, Nat.reduceSub, Nat.reduceDiv, Int.reduceToNat, Int.reduceAdd, Int.reduceSub, Int.reduceMul, Int.reduceNeg, Int.reduceEq, Int.reduceLT, Int.reduceLE]; with_reducible rfl) ?_ | with_reducible refine h_go (by with_unfolding_all rfl) (by simp (disch := omega) only [klt', g, hm, u1, RG64, EVA, plug, ite_same, decide_true, decide_false, eq_self, ↓reduceIte, reduceCtorEq, Nat.reduceAdd, Nat.reduceEqDiff, Nat.reduceLT, Nat.reduceLeDiff, Nat.reduceMul, Nat.reduceSub, Nat.reduceDiv, Int.reduceToNat, Int.reduceAdd, Int.reduceSub, Int.reduceMul, Int.reduceNeg, Int.reduceEq, Int.reduceLT, Int.reduceLE]; with_reducible rfl) ?_ | ((with_reducible refine chk_r ?_); refine r_callF (by simp only [CA, Nat.reduceEqDiff, ↓reduceIte]; rfl) (by exact rfl) (by simp only [CA, Nat.reduceEqDiff, ↓reduceIte]; rfl) rfl ?_) | ((with_reducible refine chk_h ?_); refine hr_callF (by simp only [CA, Nat.reduceEqDiff, ↓reduceIte]; rfl) (by exact rfl) (by simp only [CA, Nat.reduceEqDiff, ↓reduceIte]; rfl) rfl ?_) | ((with_reducible refine chk_r ?_); refine r_callP (by simp only [CA, Nat.reduceEqDiff, ↓reduceIte]; rfl) (by simp only [CA, Nat.reduceEqDiff, ↓reduceIte]; rfl) (by first | exact q58 _) rfl ?_) | ((with_reducible refine chk_h ?_); refine hr_callP (by simp only [CA, Nat.reduceEqDiff, ↓reduceIte]; rfl) (by simp only [CA, Nat.reduceEqDiff, ↓reduceIte]; rfl) (by first | exact q58 _) rfl ?_) | ((with_reducible refine chk_h ?_); refine hr_callP1 (by simp only [CA, Nat.reduceEqDiff, ↓reduceIte]; rfl) (by simp only [CA, Nat.reduceEqDiff, ↓reduceIte]; rfl) (by simp (disch := omega) only [CA, Nat.reduceEqDiff, ↓reduceIte, firstTok_nil, firstTok_sl, firstTok_sl0, firstTok_i, firstTok_b, firstTok_ag, firstTok_p, firstTok_s]; rfl) (by first | exact q58 _) rfl ?_) | ((with_reducible refine chk_r ?_); refine r_callG (by simp only [CA, Nat.reduceEqDiff, ↓reduceIte]; rfl) (by simp only [CA, Nat.reduceEqDiff, ↓reduceIte]; rfl) (by simp only [CA, Nat.reduceEqDiff, ↓reduceIte]; rfl) (by intro hg; (try simp only [BO] at hg); first | exact q58 _) rfl ?_) | ((with_reducible refine chk_h ?_); refine hr_callG (by simp only [CA, Nat.reduceEqDiff, ↓reduceIte]; rfl) (by simp only [CA, Nat.reduceEqDiff, ↓reduceIte]; rfl) (by simp only [CA, Nat.reduceEqDiff, ↓reduceIte]; rfl) (by intro hg; (try simp only [BO] at hg); first | exact q58 _) rfl ?_) | ((with_reducible refine chk_h ?_); refine hr_app (by simp (disch := omega) only [klt', g, hm, u1, RG64, EVA, plug, ite_same, decide_true, decide_false, eq_self, ↓reduceIte, reduceCtorEq, Nat.reduceAdd, Nat.reduceEqDiff, Nat.reduceLT, Nat.reduceLeDiff, Nat.reduceMul, Nat.reduceSub, Nat.reduceDiv, Int.reduceToNat, Int.reduceAdd, Int.reduceSub, Int.reduceMul, Int.reduceNeg, Int.reduceEq, Int.reduceLT, Int.reduceLE]; with_reducible rfl) rfl ?_) | (with_reducible refine k_condP (by simp only [GA, Nat.reduceEqDiff, ↓reduceIte]; rfl) (by first | (simp only [BO]; rfl) | rfl) (fun ht => ?_) (fun ht => ?_) <;> try (first | exact False.elim ht | exact absurd rfl ht | exact absurd trivial ht | exact Bool.noConfusion ht)) | (with_reducible refine k_ret ?_; repeat with_reducible (first | refine ret_thru ?_ | refine ret_blk ?_ | refine fin ?_)) | (with_reducible refine k_exit ?_; repeat with_reducible (first | refine thru ?_ | refine out_blk ?_ | refine pass (by decide) ?_)) | ((first | refine post1 ?_ | refine post2 ?_ | refine post3 ?_); simp only [GA, Nat.reduceEqDiff, ↓reduceIte]) | (refine postc (by simp only [GA, Nat.reduceEqDiff, ↓reduceIte]; rfl) (by simp (disch := omega) only [klt', g, hm, u1, RG64, EVA, plug, ite_same, decide_true, decide_false, eq_self, ↓reduceIte, reduceCtorEq, Nat.reduceAdd, Nat.reduceEqDiff, Nat.reduceLT, Nat.reduceLeDiff, Nat.reduceMul, Nat.reduceSub, Nat.reduceDiv, Int.reduceToNat, Int.reduceAdd, Int.reduceSub, Int.reduceMul, Int.reduceNeg, Int.reduceEq, Int.reduceLT, Int.reduceLE]; rfl) ?_) | refine post0 ?_
    have tl : t < h2.nx := lt
    exact ⟨klt, (t, _), (by simp only [Am.keep, List.map_cons, List.map_nil, GA, Nat.reduceEqDiff, ↓reduceIte]; try rfl), by simp (disch := omega) only [RG64, EVA, plug, ite_same, decide_true, decide_false, eq_self, ↓reduceIte, reduceCtorEq, Nat.reduceAdd, Nat.reduceEqDiff, Nat.reduceLT, Nat.reduceLeDiff, Nat.reduceMul, Nat.reduceSub, Nat.reduceDiv, Int.reduceToNat, Int.reduceAdd, Int.reduceSub, Int.reduceMul, Int.reduceNeg, Int.reduceEq, Int.reduceLT, Int.reduceLE] <;> rfl, u2, tn, fun s hs => (by simp (disch := omega) only [kp s hs, RG64, EVA, plug, ite_same, decide_true, decide_false, eq_self, ↓reduceIte, reduceCtorEq, Nat.reduceAdd, Nat.reduceEqDiff, Nat.reduceLT, Nat.reduceLeDiff, Nat.reduceMul, Nat.reduceSub, Nat.reduceDiv, Int.reduceToNat, Int.reduceAdd, Int.reduceSub, Int.reduceMul, Int.reduceNeg, Int.reduceEq, Int.reduceLT, Int.reduceLE]), by simp (disch := omega) only [RG64, EVA, plug, ite_same, decide_true, decide_false, eq_self, ↓reduceIte, reduceCtorEq, Nat.reduceAdd, Nat.reduceEqDiff, Nat.reduceLT, Nat.reduceLeDiff, Nat.reduceMul, Nat.reduceSub, Nat.reduceDiv, Int.reduceToNat, Int.reduceAdd, Int.reduceSub, Int.reduceMul, Int.reduceNeg, Int.reduceEq, Int.reduceLT, Int.reduceLE] <;> omega⟩
  · obtain rfl : k = l.length := by omega
    have klt' : ¬ (l.length : Int) < l.length := by omega
    obtain ⟨n1, n2⟩ := names hf
    have ml : mlnB (.map es) = some (.i .i64 es.length) := rfl
    by_cases a1 : (l.length : Int) ≤ 200
    · by_cases a2 : (es.length : Int) = l.length
      · have a2' := eq_true a2
        repeat' first | with_reducible refine k_seq ?_ | with_reducible refine k_skip ?_ | with_reducible refine k_blkS ?_ | with_reducible refine k_blkR ?_ | with_reducible refine k_blkC ?_ | with_reducible refine k_blkH ?_ | with_reducible refine k_blkB ?_ | with_reducible refine k_blkK ?_ | with_reducible refine k_blkE ?_ | with_reducible refine k_reg ?_ | with_reducible refine k_head (by with_unfolding_all rfl) ?_ | with_reducible refine k_headS ?_ | (with_reducible refine SepK.mk ?_ ?_; (refine sepQ_P ?_; simp [sepQ, sepG, AOp.late, AOp.free, AOp.xs, AOp.isAl, tokNe, AV.tok, stS_get, strip, AX.val, RG64, GA]; try omega)) | with_reducible refine r_done ?_ | with_reducible refine hr_done ?_ | with_reducible refine s_go (by simp (disch := omega) only [klt', hm, ml, a1, a2', RG64, EVA, plug, ite_same, decide_true, decide_false, eq_self, ↓reduceIte, reduceCtorEq, Nat.reduceAdd, Nat.reduceEqDiff, Nat.reduceLT, Nat.reduceLeDiff, Nat.reduceMul, Nat.reduceSub, Nat.reduceDiv, Int.reduceToNat, Int.reduceAdd, Int.reduceSub, Int.reduceMul, Int.reduceNeg, Int.reduceEq, Int.reduceLT, Int.reduceLE]; with_reducible rfl) ?_ | with_reducible refine h_go (by with_unfolding_all rfl) (by simp (disch := omega) only [klt', hm, ml, a1, a2', RG64, EVA, plug, ite_same, decide_true, decide_false, eq_self, ↓reduceIte, reduceCtorEq, Nat.reduceAdd, Nat.reduceEqDiff, Nat.reduceLT, Nat.reduceLeDiff, Nat.reduceMul, Nat.reduceSub, Nat.reduceDiv, Int.reduceToNat, Int.reduceAdd, Int.reduceSub, Int.reduceMul, Int.reduceNeg, Int.reduceEq, Int.reduceLT, Int.reduceLE]; with_reducible rfl) ?_ | ((with_reducible refine chk_r ?_); refine r_callF (by simp only [CA, Nat.reduceEqDiff, ↓reduceIte]; rfl) (by exact rfl) (by simp only [CA, Nat.reduceEqDiff, ↓reduceIte]; rfl) rfl ?_) | ((with_reducible refine chk_h ?_); refine hr_callF (by simp only [CA, Nat.reduceEqDiff, ↓reduceIte]; rfl) (by exact rfl) (by simp only [CA, Nat.reduceEqDiff, ↓reduceIte]; rfl) rfl ?_) | ((with_reducible refine chk_r ?_); refine r_callP (by simp only [CA, Nat.reduceEqDiff, ↓reduceIte]; rfl) (by simp only [CA, Nat.reduceEqDiff, ↓reduceIte]; rfl) (by first | exact q97 _) rfl ?_) | ((with_reducible refine chk_h ?_); refine hr_callP (by simp only [CA, Nat.reduceEqDiff, ↓reduceIte]; rfl) (by simp only [CA, Nat.reduceEqDiff, ↓reduceIte]; rfl) (by first | exact q97 _) rfl ?_) | ((with_reducible refine chk_h ?_); refine hr_callP1 (by simp only [CA, Nat.reduceEqDiff, ↓reduceIte]; rfl) (by simp only [CA, Nat.reduceEqDiff, ↓reduceIte]; rfl) (by simp (disch := omega) only [CA, Nat.reduceEqDiff, ↓reduceIte, firstTok_nil, firstTok_sl, firstTok_sl0, firstTok_i, firstTok_b, firstTok_ag, firstTok_p, firstTok_s]; rfl) (by first | exact q97 _) rfl ?_) | ((with_reducible refine chk_r ?_); refine r_callG (by simp only [CA, Nat.reduceEqDiff, ↓reduceIte]; rfl) (by simp only [CA, Nat.reduceEqDiff, ↓reduceIte]; rfl) (by simp only [CA, Nat.reduceEqDiff, ↓reduceIte]; rfl) (by intro hg; (try simp only [BO] at hg); first | exact q97 _) rfl ?_) | ((with_reducible refine chk_h ?_); refine hr_callG (by simp only [CA, Nat.reduceEqDiff, ↓reduceIte]; rfl) (by simp only [CA, Nat.reduceEqDiff, ↓reduceIte]; rfl) (by simp only [CA, Nat.reduceEqDiff, ↓reduceIte]; rfl) (by intro hg; (try simp only [BO] at hg); first | exact q97 _) rfl ?_) | ((with_reducible refine chk_h ?_); refine hr_app (by simp (disch := omega) only [klt', hm, ml, a1, a2', RG64, EVA, plug, ite_same, decide_true, decide_false, eq_self, ↓reduceIte, reduceCtorEq, Nat.reduceAdd, Nat.reduceEqDiff, Nat.reduceLT, Nat.reduceLeDiff, Nat.reduceMul, Nat.reduceSub, Nat.reduceDiv, Int.reduceToNat, Int.reduceAdd, Int.reduceSub, Int.reduceMul, Int.reduceNeg, Int.reduceEq, Int.reduceLT, Int.reduceLE]; with_reducible rfl) rfl ?_) | (with_reducible refine k_condP (by simp only [GA, Nat.reduceEqDiff, ↓reduceIte]; rfl) (by first | (simp only [BO]; rfl) | rfl) (fun ht => ?_) (fun ht => ?_) <;> try (first | exact False.elim ht | exact absurd rfl ht | exact absurd trivial ht | exact Bool.noConfusion ht)) | (with_reducible refine k_ret ?_; repeat with_reducible (first | refine ret_thru ?_ | refine ret_blk ?_ | refine fin ?_)) | (with_reducible refine k_exit ?_; repeat with_reducible (first | refine thru ?_ | refine out_blk ?_ | refine pass (by decide) ?_)) | ((first | refine post1 ?_ | refine post2 ?_ | refine post3 ?_); simp only [GA, Nat.reduceEqDiff, ↓reduceIte]) | (refine postc (by simp only [GA, Nat.reduceEqDiff, ↓reduceIte]; rfl) (by simp (disch := omega) only [klt', hm, ml, a1, a2', RG64, EVA, plug, ite_same, decide_true, decide_false, eq_self, ↓reduceIte, reduceCtorEq, Nat.reduceAdd, Nat.reduceEqDiff, Nat.reduceLT, Nat.reduceLeDiff, Nat.reduceMul, Nat.reduceSub, Nat.reduceDiv, Int.reduceToNat, Int.reduceAdd, Int.reduceSub, Int.reduceMul, Int.reduceNeg, Int.reduceEq, Int.reduceLT, Int.reduceLE]; rfl) ?_) | refine post0 ?_
        refine ⟨t, es, ?_, hf, by simp (disch := omega) only [hm, RG64, EVA, plug, ite_same, decide_true, decide_false, eq_self, ↓reduceIte, reduceCtorEq, Nat.reduceAdd, Nat.reduceEqDiff, Nat.reduceLT, Nat.reduceLeDiff, Nat.reduceMul, Nat.reduceSub, Nat.reduceDiv, Int.reduceToNat, Int.reduceAdd, Int.reduceSub, Int.reduceMul, Int.reduceNeg, Int.reduceEq, Int.reduceLT, Int.reduceLE], ⟨tn, by simp (disch := omega) only [RG64, EVA, plug, ite_same, decide_true, decide_false, eq_self, ↓reduceIte, reduceCtorEq, Nat.reduceAdd, Nat.reduceEqDiff, Nat.reduceLT, Nat.reduceLeDiff, Nat.reduceMul, Nat.reduceSub, Nat.reduceDiv, Int.reduceToNat, Int.reduceAdd, Int.reduceSub, Int.reduceMul, Int.reduceNeg, Int.reduceEq, Int.reduceLT, Int.reduceLE] <;> omega⟩, fun s hs => (by simp (disch := omega) only [kp s hs, RG64, EVA, plug, ite_same, decide_true, decide_false, eq_self, ↓reduceIte, reduceCtorEq, Nat.reduceAdd, Nat.reduceEqDiff, Nat.reduceLT, Nat.reduceLeDiff, Nat.reduceMul, Nat.reduceSub, Nat.reduceDiv, Int.reduceToNat, Int.reduceAdd, Int.reduceSub, Int.reduceMul, Int.reduceNeg, Int.reduceEq, Int.reduceLT, Int.reduceLE]), by simp (disch := omega) only [RG64, EVA, plug, ite_same, decide_true, decide_false, eq_self, ↓reduceIte, reduceCtorEq, Nat.reduceAdd, Nat.reduceEqDiff, Nat.reduceLT, Nat.reduceLeDiff, Nat.reduceMul, Nat.reduceSub, Nat.reduceDiv, Int.reduceToNat, Int.reduceAdd, Int.reduceSub, Int.reduceMul, Int.reduceNeg, Int.reduceEq, Int.reduceLT, Int.reduceLE] <;> omega⟩
        have : (!decide (0 ≤ fi (nvE l) l.length)) = vbB l := by
          by_cases q : 0 ≤ fi (nvE l) l.length
          · rw [decide_eq_true q, vb_f fun v => (VB_iff.1 v).2.2 q]; rfl
          · rw [decide_eq_false q, vb_t (VB_iff.2 ⟨by omega, n2.1 (by omega), q⟩)]; rfl
        rw [this]
      · have a2' := eq_false a2
        repeat' first | with_reducible refine k_seq ?_ | with_reducible refine k_skip ?_ | with_reducible refine k_blkS ?_ | with_reducible refine k_blkR ?_ | with_reducible refine k_blkC ?_ | with_reducible refine k_blkH ?_ | with_reducible refine k_blkB ?_ | with_reducible refine k_blkK ?_ | with_reducible refine k_blkE ?_ | with_reducible refine k_reg ?_ | with_reducible refine k_head (by with_unfolding_all rfl) ?_ | with_reducible refine k_headS ?_ | (with_reducible refine SepK.mk ?_ ?_; (refine sepQ_P ?_; simp [sepQ, sepG, AOp.late, AOp.free, AOp.xs, AOp.isAl, tokNe, AV.tok, stS_get, strip, AX.val, RG64, GA]; try omega)) | with_reducible refine r_done ?_ | with_reducible refine hr_done ?_ | with_reducible refine s_go (by simp (disch := omega) only [klt', hm, ml, a1, a2', RG64, EVA, plug, ite_same, decide_true, decide_false, eq_self, ↓reduceIte, reduceCtorEq, Nat.reduceAdd, Nat.reduceEqDiff, Nat.reduceLT, Nat.reduceLeDiff, Nat.reduceMul, Nat.reduceSub, Nat.reduceDiv, Int.reduceToNat, Int.reduceAdd, Int.reduceSub, Int.reduceMul, Int.reduceNeg, Int.reduceEq, Int.reduceLT, Int.reduceLE]; with_reducible rfl) ?_ | with_reducible refine h_go (by with_unfolding_all rfl) (by simp (disch := omega) only [klt', hm, ml, a1, a2', RG64, EVA, plug, ite_same, decide_true, decide_false, eq_self, ↓reduceIte, reduceCtorEq, Nat.reduceAdd, Nat.reduceEqDiff, Nat.reduceLT, Nat.reduceLeDiff, Nat.reduceMul, Nat.reduceSub, Nat.reduceDiv, Int.reduceToNat, Int.reduceAdd, Int.reduceSub, Int.reduceMul, Int.reduceNeg, Int.reduceEq, Int.reduceLT, Int.reduceLE]; with_reducible rfl) ?_ | ((with_reducible refine chk_r ?_); refine r_callF (by simp only [CA, Nat.reduceEqDiff, ↓reduceIte]; rfl) (by exact rfl) (by simp only [CA, Nat.reduceEqDiff, ↓reduceIte]; rfl) rfl ?_) | ((with_reducible refine chk_h ?_); refine hr_callF (by simp only [CA, Nat.reduceEqDiff, ↓reduceIte]; rfl) (by exact rfl) (by simp only [CA, Nat.reduceEqDiff, ↓reduceIte]; rfl) rfl ?_) | ((with_reducible refine chk_r ?_); refine r_callP (by simp only [CA, Nat.reduceEqDiff, ↓reduceIte]; rfl) (by simp only [CA, Nat.reduceEqDiff, ↓reduceIte]; rfl) (by first | exact q97 _) rfl ?_) | ((with_reducible refine chk_h ?_); refine hr_callP (by simp only [CA, Nat.reduceEqDiff, ↓reduceIte]; rfl) (by simp only [CA, Nat.reduceEqDiff, ↓reduceIte]; rfl) (by first | exact q97 _) rfl ?_) | ((with_reducible refine chk_h ?_); refine hr_callP1 (by simp only [CA, Nat.reduceEqDiff, ↓reduceIte]; rfl) (by simp only [CA, Nat.reduceEqDiff, ↓reduceIte]; rfl) (by simp (disch := omega) only [CA, Nat.reduceEqDiff, ↓reduceIte, firstTok_nil, firstTok_sl, firstTok_sl0, firstTok_i, firstTok_b, firstTok_ag, firstTok_p, firstTok_s]; rfl) (by first | exact q97 _) rfl ?_) | ((with_reducible refine chk_r ?_); refine r_callG (by simp only [CA, Nat.reduceEqDiff, ↓reduceIte]; rfl) (by simp only [CA, Nat.reduceEqDiff, ↓reduceIte]; rfl) (by simp only [CA, Nat.reduceEqDiff, ↓reduceIte]; rfl) (by intro hg; (try simp only [BO] at hg); first | exact q97 _) rfl ?_) | ((with_reducible refine chk_h ?_); refine hr_callG (by simp only [CA, Nat.reduceEqDiff, ↓reduceIte]; rfl) (by simp only [CA, Nat.reduceEqDiff, ↓reduceIte]; rfl) (by simp only [CA, Nat.reduceEqDiff, ↓reduceIte]; rfl) (by intro hg; (try simp only [BO] at hg); first | exact q97 _) rfl ?_) | ((with_reducible refine chk_h ?_); refine hr_app (by simp (disch := omega) only [klt', hm, ml, a1, a2', RG64, EVA, plug, ite_same, decide_true, decide_false, eq_self, ↓reduceIte, reduceCtorEq, Nat.reduceAdd, Nat.reduceEqDiff, Nat.reduceLT, Nat.reduceLeDiff, Nat.reduceMul, Nat.reduceSub, Nat.reduceDiv, Int.reduceToNat, Int.reduceAdd, Int.reduceSub, Int.reduceMul, Int.reduceNeg, Int.reduceEq, Int.reduceLT, Int.reduceLE]; with_reducible rfl) rfl ?_) | (with_reducible refine k_condP (by simp only [GA, Nat.reduceEqDiff, ↓reduceIte]; rfl) (by first | (simp only [BO]; rfl) | rfl) (fun ht => ?_) (fun ht => ?_) <;> try (first | exact False.elim ht | exact absurd rfl ht | exact absurd trivial ht | exact Bool.noConfusion ht)) | (with_reducible refine k_ret ?_; repeat with_reducible (first | refine ret_thru ?_ | refine ret_blk ?_ | refine fin ?_)) | (with_reducible refine k_exit ?_; repeat with_reducible (first | refine thru ?_ | refine out_blk ?_ | refine pass (by decide) ?_)) | ((first | refine post1 ?_ | refine post2 ?_ | refine post3 ?_); simp only [GA, Nat.reduceEqDiff, ↓reduceIte]) | (refine postc (by simp only [GA, Nat.reduceEqDiff, ↓reduceIte]; rfl) (by simp (disch := omega) only [klt', hm, ml, a1, a2', RG64, EVA, plug, ite_same, decide_true, decide_false, eq_self, ↓reduceIte, reduceCtorEq, Nat.reduceAdd, Nat.reduceEqDiff, Nat.reduceLT, Nat.reduceLeDiff, Nat.reduceMul, Nat.reduceSub, Nat.reduceDiv, Int.reduceToNat, Int.reduceAdd, Int.reduceSub, Int.reduceMul, Int.reduceNeg, Int.reduceEq, Int.reduceLT, Int.reduceLE]; rfl) ?_) | refine post0 ?_
        refine ⟨t, es, ?_, hf, by simp (disch := omega) only [hm, RG64, EVA, plug, ite_same, decide_true, decide_false, eq_self, ↓reduceIte, reduceCtorEq, Nat.reduceAdd, Nat.reduceEqDiff, Nat.reduceLT, Nat.reduceLeDiff, Nat.reduceMul, Nat.reduceSub, Nat.reduceDiv, Int.reduceToNat, Int.reduceAdd, Int.reduceSub, Int.reduceMul, Int.reduceNeg, Int.reduceEq, Int.reduceLT, Int.reduceLE], ⟨tn, by simp (disch := omega) only [RG64, EVA, plug, ite_same, decide_true, decide_false, eq_self, ↓reduceIte, reduceCtorEq, Nat.reduceAdd, Nat.reduceEqDiff, Nat.reduceLT, Nat.reduceLeDiff, Nat.reduceMul, Nat.reduceSub, Nat.reduceDiv, Int.reduceToNat, Int.reduceAdd, Int.reduceSub, Int.reduceMul, Int.reduceNeg, Int.reduceEq, Int.reduceLT, Int.reduceLE] <;> omega⟩, fun s hs => (by simp (disch := omega) only [kp s hs, RG64, EVA, plug, ite_same, decide_true, decide_false, eq_self, ↓reduceIte, reduceCtorEq, Nat.reduceAdd, Nat.reduceEqDiff, Nat.reduceLT, Nat.reduceLeDiff, Nat.reduceMul, Nat.reduceSub, Nat.reduceDiv, Int.reduceToNat, Int.reduceAdd, Int.reduceSub, Int.reduceMul, Int.reduceNeg, Int.reduceEq, Int.reduceLT, Int.reduceLE]), by simp (disch := omega) only [RG64, EVA, plug, ite_same, decide_true, decide_false, eq_self, ↓reduceIte, reduceCtorEq, Nat.reduceAdd, Nat.reduceEqDiff, Nat.reduceLT, Nat.reduceLeDiff, Nat.reduceMul, Nat.reduceSub, Nat.reduceDiv, Int.reduceToNat, Int.reduceAdd, Int.reduceSub, Int.reduceMul, Int.reduceNeg, Int.reduceEq, Int.reduceLT, Int.reduceLE] <;> omega⟩
        rw [vb_f fun v => a2 (by have := n2.2 (VB_iff.1 v).2.1; omega)]
    · repeat' first
        | with_reducible refine k_seq ?_
        | with_reducible refine k_skip ?_
        | with_reducible refine k_blkS ?_
        | with_reducible refine k_blkR ?_
        | with_reducible refine k_blkC ?_
        | with_reducible refine k_blkH ?_
        | with_reducible refine k_blkB ?_
        | with_reducible refine k_blkK ?_
        | with_reducible refine k_blkE ?_
        | with_reducible refine k_reg ?_
        | with_reducible refine k_head (by with_unfolding_all rfl) ?_
        | with_reducible refine k_headS ?_
        | (with_reducible refine SepK.mk ?_ ?_; (refine sepQ_P ?_; simp [sepQ, sepG, AOp.late, AOp.free, AOp.xs, AOp.isAl, tokNe, AV.tok, stS_get, strip, AX.val, RG64, GA]; try omega))
        | with_reducible refine r_done ?_
        | with_reducible refine hr_done ?_
        | with_reducible refine s_go (by simp (disch := omega) only [klt', hm, a1, RG64, EVA, plug, ite_same, decide_true, decide_false, eq_self, ↓reduceIte, reduceCtorEq, Nat.reduceAdd, Nat.reduceEqDiff, Nat.reduceLT, Nat.reduceLeDiff, Nat.reduceMul, Nat.reduceSub, Nat.reduceDiv, Int.reduceToNat, Int.reduceAdd, Int.reduceSub, Int.reduceMul, Int.reduceNeg, Int.reduceEq, Int.reduceLT, Int.reduceLE]; with_reducible rfl) ?_
        | with_reducible refine h_go (by with_unfolding_all rfl) (by simp (disch := omega) only [klt', hm, a1, RG64, EVA, plug, ite_same, decide_true, decide_false, eq_self, ↓reduceIte, reduceCtorEq, Nat.reduceAdd, Nat.reduceEqDiff, Nat.reduceLT, Nat.reduceLeDiff, Nat.reduceMul, Nat.reduceSub, Nat.reduceDiv, Int.reduceToNat, Int.reduceAdd, Int.reduceSub, Int.reduceMul, Int.reduceNeg, Int.reduceEq, Int.reduceLT, Int.reduceLE]; with_reducible rfl) ?_
        | ((with_reducible refine chk_r ?_); refine r_callF (by simp only [CA, Nat.reduceEqDiff, ↓reduceIte]; rfl) (by exact rfl) (by simp only [CA, Nat.reduceEqDiff, ↓reduceIte]; rfl) rfl ?_)
        | ((with_reducible refine chk_h ?_); refine hr_callF (by simp only [CA, Nat.reduceEqDiff, ↓reduceIte]; rfl) (by exact rfl) (by simp only [CA, Nat.reduceEqDiff, ↓reduceIte]; rfl) rfl ?_)
        | ((with_reducible refine chk_r ?_); refine r_callP (by simp only [CA, Nat.reduceEqDiff, ↓reduceIte]; rfl) (by simp only [CA, Nat.reduceEqDiff, ↓reduceIte]; rfl) (by first | exact q97 _) rfl ?_)
        | ((with_reducible refine chk_h ?_); refine hr_callP (by simp only [CA, Nat.reduceEqDiff, ↓reduceIte]; rfl) (by simp only [CA, Nat.reduceEqDiff, ↓reduceIte]; rfl) (by first | exact q97 _) rfl ?_)
        | ((with_reducible refine chk_h ?_); refine hr_callP1 (by simp only [CA, Nat.reduceEqDiff, ↓reduceIte]; rfl) (by simp only [CA, Nat.reduceEqDiff, ↓reduceIte]; rfl) (by simp (disch := omega) only [CA, Nat.reduceEqDiff, ↓reduceIte, firstTok_nil, firstTok_sl, firstTok_sl0, firstTok_i, firstTok_b, firstTok_ag, firstTok_p, firstTok_s]; rfl) (by first | exact q97 _) rfl ?_)
        | ((with_reducible refine chk_r ?_); refine r_callG (by simp only [CA, Nat.reduceEqDiff, ↓reduceIte]; rfl) (by simp only [CA, Nat.reduceEqDiff, ↓reduceIte]; rfl) (by simp only [CA, Nat.reduceEqDiff, ↓reduceIte]; rfl) (by intro hg; (try simp only [BO] at hg); first | exact q97 _) rfl ?_)
        | ((with_reducible refine chk_h ?_); refine hr_callG (by simp only [CA, Nat.reduceEqDiff, ↓reduceIte]; rfl) (by simp only [CA, Nat.reduceEqDiff, ↓reduceIte]; rfl) (by simp only [CA, Nat.reduceEqDiff, ↓reduceIte]; rfl) (by intro hg; (try simp only [BO] at hg); first | exact q97 _) rfl ?_)
        | ((with_reducible refine chk_h ?_); refine hr_app (by simp (disch := omega) only [klt', hm, a1, RG64, EVA, plug, ite_same, decide_true, decide_false, eq_self, ↓reduceIte, reduceCtorEq, Nat.reduceAdd, Nat.reduceEqDiff, Nat.reduceLT, Nat.reduceLeDiff, Nat.reduceMul, Nat.reduceSub, Nat.reduceDiv, Int.reduceToNat, Int.reduceAdd, Int.reduceSub, Int.reduceMul, Int.reduceNeg, Int.reduceEq, Int.reduceLT, Int.reduceLE]; with_reducible rfl) rfl ?_)
        | (with_reducible refine k_condP (by simp only [GA, Nat.reduceEqDiff, ↓reduceIte]; rfl) (by first | (simp only [BO]; rfl) | rfl) (fun ht => ?_) (fun ht => ?_) <;> try (first | exact False.elim ht | exact absurd rfl ht | exact absurd trivial ht | exact Bool.noConfusion ht))
        | (with_reducible refine k_ret ?_; repeat with_reducible (first | refine ret_thru ?_ | refine ret_blk ?_ | refine fin ?_))
        | (with_reducible refine k_exit ?_; repeat with_reducible (first | refine thru ?_ | refine out_blk ?_ | refine pass (by decide) ?_))
        | (refine post1 ?_; simp only [GA, Nat.reduceEqDiff, ↓reduceIte])
        | (refine post2 ?_; simp only [GA, Nat.reduceEqDiff, ↓reduceIte])
        | (refine post3 ?_; simp only [GA, Nat.reduceEqDiff, ↓reduceIte])
        | (refine postc (by simp only [GA, Nat.reduceEqDiff, ↓reduceIte]; rfl) (by simp (disch := omega) only [klt', hm, a1, RG64, EVA, plug, ite_same, decide_true, decide_false, eq_self, ↓reduceIte, reduceCtorEq, Nat.reduceAdd, Nat.reduceEqDiff, Nat.reduceLT, Nat.reduceLeDiff, Nat.reduceMul, Nat.reduceSub, Nat.reduceDiv, Int.reduceToNat, Int.reduceAdd, Int.reduceSub, Int.reduceMul, Int.reduceNeg, Int.reduceEq, Int.reduceLT, Int.reduceLE]; rfl) ?_)
        | refine post0 ?_
      refine ⟨t, es, ?_, hf, by simp (disch := omega) only [hm, RG64, EVA, plug, ite_same, decide_true, decide_false, eq_self, ↓reduceIte, reduceCtorEq, Nat.reduceAdd, Nat.reduceEqDiff, Nat.reduceLT, Nat.reduceLeDiff, Nat.reduceMul, Nat.reduceSub, Nat.reduceDiv, Int.reduceToNat, Int.reduceAdd, Int.reduceSub, Int.reduceMul, Int.reduceNeg, Int.reduceEq, Int.reduceLT, Int.reduceLE], ⟨tn, by simp (disch := omega) only [RG64, EVA, plug, ite_same, decide_true, decide_false, eq_self, ↓reduceIte, reduceCtorEq, Nat.reduceAdd, Nat.reduceEqDiff, Nat.reduceLT, Nat.reduceLeDiff, Nat.reduceMul, Nat.reduceSub, Nat.reduceDiv, Int.reduceToNat, Int.reduceAdd, Int.reduceSub, Int.reduceMul, Int.reduceNeg, Int.reduceEq, Int.reduceLT, Int.reduceLE] <;> omega⟩, fun s hs => (by simp (disch := omega) only [kp s hs, RG64, EVA, plug, ite_same, decide_true, decide_false, eq_self, ↓reduceIte, reduceCtorEq, Nat.reduceAdd, Nat.reduceEqDiff, Nat.reduceLT, Nat.reduceLeDiff, Nat.reduceMul, Nat.reduceSub, Nat.reduceDiv, Int.reduceToNat, Int.reduceAdd, Int.reduceSub, Int.reduceMul, Int.reduceNeg, Int.reduceEq, Int.reduceLT, Int.reduceLE]), by simp (disch := omega) only [RG64, EVA, plug, ite_same, decide_true, decide_false, eq_self, ↓reduceIte, reduceCtorEq, Nat.reduceAdd, Nat.reduceEqDiff, Nat.reduceLT, Nat.reduceLeDiff, Nat.reduceMul, Nat.reduceSub, Nat.reduceDiv, Int.reduceToNat, Int.reduceAdd, Int.reduceSub, Int.reduceMul, Int.reduceNeg, Int.reduceEq, Int.reduceLT, Int.reduceLE] <;> omega⟩
      rw [vb_f fun v => a1 (by have := (VB_iff.1 v).1; omega)]
end Go.Proofs.Ytfbhncddniofbaa
set_option linter.unusedVariables false
set_option linter.unusedSimpArgs false
namespace Go.Proofs.Ytfbhncddniofbaa
open Go Go.Am Go.Proofs
theorem RG75 : (type_of% @c75r0.eq_1) ∧ (type_of% @c75r1.eq_1) ∧ (type_of% @c75r2.eq_1) ∧ (type_of% @c75r3.eq_1) ∧ (type_of% @c75r4.eq_1) ∧ (type_of% @c75r5.eq_1) := ⟨@c75r0.eq_1, @c75r1.eq_1, @c75r2.eq_1, @c75r3.eq_1, @c75r4.eq_1, @c75r5.eq_1⟩
theorem pc75 (e : En) : PC Try.prog 75 [.ag (eE e)] (.b (vE e)) := by
  obtain ⟨a, b, c, d⟩ := e
  simp only [eE]
  by_cases A : (1 ≤ a ∧ a ≤ 4) ∧ (1 ≤ b ∧ b ≤ 1000000000) ∧ (0 ≤ c ∧ c ≤ 100000)
  · by_cases h4 : a = 4
    · have : vE ⟨a, b, c, d⟩ = decide (d = 0) := by
        simp only [vE, lst_, h4, if_true, decide_eq_decide]
        omega
      rw [this]
      have h4' := eq_true h4
      have a1 : ¬ a < 1 := by omega
      have a2 : ¬ 4 < a := by omega
      have a3 : ¬ b < 1 := by omega
      have a4 : ¬ 1000000000 < b := by omega
      have a5 : ¬ c < 0 := by omega
      have a6 : ¬ 100000 < c := by omega
      refine pc_fn fn75 (by simp only [AV.plains, AV.plain, il_plain, bl_plain, Bool.and_true, Bool.true_and, Bool.and_self]) (by simp only [AV.plains, AV.plain, il_plain, bl_plain, Bool.and_true, Bool.true_and, Bool.and_self]) (Nat.le_of_ble_eq_true rfl) ?_
      rw [initSt1]
      repeat' first | with_reducible refine k_seq ?_ | with_reducible refine k_skip ?_ | with_reducible refine k_blkS ?_ | with_reducible refine k_blkR ?_ | with_reducible refine k_blkC ?_ | with_reducible refine k_blkH ?_ | with_reducible refine k_blkB ?_ | with_reducible refine k_blkK ?_ | with_reducible refine k_blkE ?_ | with_reducible refine k_reg ?_ | with_reducible refine r_done ?_ | with_reducible refine s_go (by simp (disch := omega) only [h4', a1, a2, a3, a4, a5, a6, RG75, EVA, plug, ite_same, decide_true, decide_false, eq_self, ↓reduceIte, reduceCtorEq, Nat.reduceAdd, Nat.reduceEqDiff, Nat.reduceLT, Nat.reduceLeDiff, Nat.reduceMul, Nat.reduceSub, Nat.reduceDiv, Int.reduceToNat, Int.reduceAdd, Int.reduceSub, Int.reduceMul, Int.reduceNeg, Int.reduceEq, Int.reduceLT, Int.reduceLE]; with_reducible rfl) ?_ | ((with_reducible refine chk_r ?_); refine r_callF (by simp only [CA, Nat.reduceEqDiff, ↓reduceIte]; rfl) (by exact rfl) (by simp only [CA, Nat.reduceEqDiff, ↓reduceIte]; rfl) rfl ?_) | (with_reducible refine k_condP (by simp only [GA, Nat.reduceEqDiff, ↓reduceIte]; rfl) (by first | (simp only [BO]; rfl) | rfl) (fun ht => ?_) (fun ht => ?_) <;> try (first | exact False.elim ht | exact absurd rfl ht | exact absurd trivial ht | exact Bool.noConfusion ht)) | (with_reducible refine k_ret ?_; repeat with_reducible (first | refine ret_thru ?_ | refine ret_blk ?_ | refine fin ?_)) | (with_reducible refine k_exit ?_; repeat with_reducible (first | refine thru ?_ | refine out_blk ?_ | refine pass (by decide) ?_)) | ((first | refine post1 ?_ | refine post2 ?_ | refine post3 ?_); simp only [GA, Nat.reduceEqDiff, ↓reduceIte]) | (refine postc (by simp only [GA, Nat.reduceEqDiff, ↓reduceIte]; rfl) (by simp (disch := omega) only [h4', a1, a2, a3, a4, a5, a6, RG75, EVA, plug, ite_same, decide_true, decide_false, eq_self, ↓reduceIte, reduceCtorEq, Nat.reduceAdd, Nat.reduceEqDiff, Nat.reduceLT, Nat.reduceLeDiff, Nat.reduceMul, Nat.reduceSub, Nat.reduceDiv, Int.reduceToNat, Int.reduceAdd, Int.reduceSub, Int.reduceMul, Int.reduceNeg, Int.reduceEq, Int.reduceLT, Int.reduceLE]; rfl) ?_) | refine post0 ?_
      all_goals first | exact ends_of | exact ends_eq rfl
    · have : vE ⟨a, b, c, d⟩ = (decide (1 ≤ d) && decide (d ≤ 1000000000)) := by
        rw [Bool.eq_iff_iff]
        simp only [vE, lst_, h4, if_false, Bool.and_eq_true, decide_eq_true_eq]
        omega
      rw [this]
      have h4' := eq_false h4
      have a1 : ¬ a < 1 := by omega
      have a2 : ¬ 4 < a := by omega
      have a3 : ¬ b < 1 := by omega
      have a4 : ¬ 1000000000 < b := by omega
      have a5 : ¬ c < 0 := by omega
      have a6 : ¬ 100000 < c := by omega
      refine pc_fn fn75 (by simp only [AV.plains, AV.plain, il_plain, bl_plain, Bool.and_true, Bool.true_and, Bool.and_self]) (by simp only [AV.plains, AV.plain, il_plain, bl_plain, Bool.and_true, Bool.true_and, Bool.and_self]) (Nat.le_of_ble_eq_true rfl) ?_
      rw [initSt1]
      repeat' first | with_reducible refine k_seq ?_ | with_reducible refine k_skip ?_ | with_reducible refine k_blkS ?_ | with_reducible refine k_blkR ?_ | with_reducible refine k_blkC ?_ | with_reducible refine k_blkH ?_ | with_reducible refine k_blkB ?_ | with_reducible refine k_blkK ?_ | with_reducible refine k_blkE ?_ | with_reducible refine k_reg ?_ | with_reducible refine r_done ?_ | with_reducible refine s_go (by simp (disch := omega) only [h4', a1, a2, a3, a4, a5, a6, RG75, EVA, plug, ite_same, decide_true, decide_false, eq_self, ↓reduceIte, reduceCtorEq, Nat.reduceAdd, Nat.reduceEqDiff, Nat.reduceLT, Nat.reduceLeDiff, Nat.reduceMul, Nat.reduceSub, Nat.reduceDiv, Int.reduceToNat, Int.reduceAdd, Int.reduceSub, Int.reduceMul, Int.reduceNeg, Int.reduceEq, Int.reduceLT, Int.reduceLE]; with_reducible rfl) ?_ | ((with_reducible refine chk_r ?_); refine r_callF (by simp only [CA, Nat.reduceEqDiff, ↓reduceIte]; rfl) (by exact rfl) (by simp only [CA, Nat.reduceEqDiff, ↓reduceIte]; rfl) rfl ?_) | (with_reducible refine k_condP (by simp only [GA, Nat.reduceEqDiff, ↓reduceIte]; rfl) (by first | (simp only [BO]; rfl) | rfl) (fun ht => ?_) (fun ht => ?_) <;> try (first | exact False.elim ht | exact absurd rfl ht | exact absurd trivial ht | exact Bool.noConfusion ht)) | (with_reducible refine k_ret ?_; repeat with_reducible (first | refine ret_thru ?_ | refine ret_blk ?_ | refine fin ?_)) | (with_reducible refine k_exit ?_; repeat with_reducible (first | refine thru ?_ | refine out_blk ?_ | refine pass (by decide) ?_)) | ((first | refine post1 ?_ | refine post2 ?_ | refine post3 ?_); simp only [GA, Nat.reduceEqDiff, ↓reduceIte]) | (refine postc (by simp only [GA, Nat.reduceEqDiff, ↓reduceIte]; rfl) (by simp (disch := omega) only [h4', a1, a2, a3, a4, a5, a6, RG75, EVA, plug, ite_same, decide_true, decide_false, eq_self, ↓reduceIte, reduceCtorEq, Nat.reduceAdd, Nat.reduceEqDiff, Nat.reduceLT, Nat.reduceLeDiff, Nat.reduceMul, Nat.reduceSub, Nat.reduceDiv, Int.reduceToNat, Int.reduceAdd, Int.reduceSub, Int.reduceMul, Int.reduceNeg, Int.reduceEq, Int.reduceLT, Int.reduceLE]; rfl) ?_) | refine post0 ?_
      all_goals first | exact ends_of | exact ends_eq rfl
  · have : vE ⟨a, b, c, d⟩ = false := by
      simp only [vE, decide_eq_false_iff_not]
      omega
    rw [this]
    refine pc_fn fn75 (by simp only [AV.plains, AV.plain, il_plain, bl_plain, Bool.and_true, Bool.true_and, Bool.and_self]) (by simp only [AV.plains, AV.plain, il_plain, bl_plain, Bool.and_true, Bool.true_and, Bool.and_self]) (Nat.le_of_ble_eq_true rfl) ?_
    rw [initSt1]
    repeat' first | with_reducible refine k_seq ?_ | with_reducible refine k_skip ?_ | with_reducible refine k_blkS ?_ | with_reducible refine k_blkR ?_ | with_reducible refine k_blkC ?_ | with_reducible refine k_blkH ?_ | with_reducible refine k_blkB ?_ | with_reducible refine k_blkK ?_ | with_reducible refine k_blkE ?_ | with_reducible refine k_reg ?_ | with_reducible refine r_done ?_ | with_reducible refine s_go (by simp (disch := omega) only [RG75, EVA, plug, ite_same, decide_true, decide_false, eq_self, ↓reduceIte, reduceCtorEq, Nat.reduceAdd, Nat.reduceEqDiff, Nat.reduceLT, Nat.reduceLeDiff, Nat.reduceMul, Nat.reduceSub, Nat.reduceDiv, Int.reduceToNat, Int.reduceAdd, Int.reduceSub, Int.reduceMul, Int.reduceNeg, Int.reduceEq, Int.reduceLT, Int.reduceLE]; with_reducible rfl) ?_ | ((with_reducible refine chk_r ?_); refine r_callF (by simp only [CA, Nat.reduceEqDiff, ↓reduceIte]; rfl) (by exact rfl) (by simp only [CA, Nat.reduceEqDiff, ↓reduceIte]; rfl) rfl ?_) | (with_reducible refine k_condP (by simp only [GA, Nat.reduceEqDiff, ↓reduceIte]; rfl) (by first | (simp only [BO]; rfl) | rfl) (fun ht => ?_) (fun ht => ?_) <;> try (first | exact False.elim ht | exact absurd rfl ht | exact absurd trivial ht | exact Bool.noConfusion ht)) | (with_reducible refine k_ret ?_; repeat with_reducible (first | refine ret_thru ?_ | refine ret_blk ?_ | refine fin ?_)) | (with_reducible refine k_exit ?_; repeat with_reducible (first | refine thru ?_ | refine out_blk ?_ | refine pass (by decide) ?_)) | ((first | refine post1 ?_ | refine post2 ?_ | refine post3 ?_); simp only [GA, Nat.reduceEqDiff, ↓reduceIte]) | (refine postc (by simp only [GA, Nat.reduceEqDiff, ↓reduceIte]; rfl) (by simp (disch := omega) only [RG75, EVA, plug, ite_same, decide_true, decide_false, eq_self, ↓reduceIte, reduceCtorEq, Nat.reduceAdd, Nat.reduceEqDiff, Nat.reduceLT, Nat.reduceLeDiff, Nat.reduceMul, Nat.reduceSub, Nat.reduceDiv, Int.reduceToNat, Int.reduceAdd, Int.reduceSub, Int.reduceMul, Int.reduceNeg, Int.reduceEq, Int.reduceLT, Int.reduceLE]; rfl) ?_) | refine post0 ?_
    all_goals first
      | (exfalso; simp only [Bool.or_eq_true, decide_eq_true_eq, not_or] at *; omega)
      | all_goals first | exact ends_of | exact ends_eq rfl
theorem pc87 (x y : En) : PC Try.prog 87 [.ag (eE x), .ag (eE y)] (.b (decide (nmE x = nmE y))) := by
  obtain ⟨a, b, c, d⟩ := x
  obtain ⟨a', b', c', d'⟩ := y
  have e : decide (nmE ⟨a, b, c, d⟩ = nmE ⟨a', b', c', d'⟩) = (decide (a = a') && decide (b = b')) := by
    rw [Bool.eq_iff_iff]
    simp [nmE]
  rw [e]
  simp only [eE]
  refine pc_fn fn87 (by simp only [AV.plains, AV.plain, il_plain, bl_plain, Bool.and_true, Bool.true_and, Bool.and_self]) (by simp only [AV.plains, AV.plain, il_plain, bl_plain, Bool.and_true, Bool.true_and, Bool.and_self]) (Nat.le_of_ble_eq_true rfl) ?_
  rw [initSt2]
  repeat' first | with_reducible refine k_seq ?_ | with_reducible refine k_skip ?_ | with_reducible refine k_blkS ?_ | with_reducible refine k_blkR ?_ | with_reducible refine k_blkC ?_ | with_reducible refine k_blkH ?_ | with_reducible refine k_blkB ?_ | with_reducible refine k_blkK ?_ | with_reducible refine k_blkE ?_ | with_reducible refine k_reg ?_ | with_reducible refine r_done ?_ | with_reducible refine s_go (by simp (disch := omega) only [c87r0, c87r1, EVA, plug, ite_same, decide_true, decide_false, eq_self, ↓reduceIte, reduceCtorEq, Nat.reduceAdd, Nat.reduceEqDiff, Nat.reduceLT, Nat.reduceLeDiff, Nat.reduceMul, Nat.reduceSub, Nat.reduceDiv, Int.reduceToNat, Int.reduceAdd, Int.reduceSub, Int.reduceMul, Int.reduceNeg, Int.reduceEq, Int.reduceLT, Int.reduceLE]; with_reducible rfl) ?_ | ((with_reducible refine chk_r ?_); refine r_callF (by simp only [CA, Nat.reduceEqDiff, ↓reduceIte]; rfl) (by exact rfl) (by simp only [CA, Nat.reduceEqDiff, ↓reduceIte]; rfl) rfl ?_) | (with_reducible refine k_condP (by simp only [GA, Nat.reduceEqDiff, ↓reduceIte]; rfl) (by first | (simp only [BO]; rfl) | rfl) (fun ht => ?_) (fun ht => ?_) <;> try (first | exact False.elim ht | exact absurd rfl ht | exact absurd trivial ht | exact Bool.noConfusion ht)) | (with_reducible refine k_ret ?_; repeat with_reducible (first | refine ret_thru ?_ | refine ret_blk ?_ | refine fin ?_)) | (with_reducible refine k_exit ?_; repeat with_reducible (first | refine thru ?_ | refine out_blk ?_ | refine pass (by decide) ?_)) | ((first | refine post1 ?_ | refine post2 ?_ | refine post3 ?_); simp only [GA, Nat.reduceEqDiff, ↓reduceIte]) | (refine postc (by simp only [GA, Nat.reduceEqDiff, ↓reduceIte]; rfl) (by simp (disch := omega) only [c87r0, c87r1, EVA, plug, ite_same, decide_true, decide_false, eq_self, ↓reduceIte, reduceCtorEq, Nat.reduceAdd, Nat.reduceEqDiff, Nat.reduceLT, Nat.reduceLeDiff, Nat.reduceMul, Nat.reduceSub, Nat.reduceDiv, Int.reduceToNat, Int.reduceAdd, Int.reduceSub, Int.reduceMul, Int.reduceNeg, Int.reduceEq, Int.reduceLT, Int.reduceLE]; rfl) ?_) | refine post0 ?_
  all_goals first | exact ends_of | exact ends_eq rfl
def fnd (l : List En) (e : En) : Nat → En × Bool
  | 0 => (E0, false)
  | n + 1 => if (fnd l e n).2 = true then fnd l e n else if nmE (eD l n) = nmE e then (eD l n, true) else (E0, false)
theorem fnd_no {l : List En} {e : En} : ∀ {k}, (∀ j, j < k → nmE (eD l j) ≠ nmE e) → fnd l e k = (E0, false)
  | 0, _ => rfl
  | k + 1, h => by
    rw [fnd, fnd_no fun j hj => h j (by omega), if_neg (by decide), if_neg (h k (by omega))]
theorem fnd_at {l : List En} {e : En} {k : Nat} (h : ∀ j, j < k → nmE (eD l j) ≠ nmE e) (hk : nmE (eD l k) = nmE e) : ∀ {n}, k < n → fnd l e n = (eD l k, true)
  | 0, q => by omega
  | n + 1, q => by
    rw [fnd]
    by_cases z : k = n
    · subst z
      rw [fnd_no h, if_neg (by decide), if_pos hk]
    · rw [fnd_at h hk (n := n) (by omega), if_pos rfl]
theorem RG76 : (type_of% @c76r0.eq_1) ∧ (type_of% @c76r1.eq_1) ∧ (type_of% @c76r2.eq_1) ∧ (type_of% @c76r3.eq_1) ∧ (type_of% @c76r4.eq_1) ∧ (type_of% @c76r5.eq_1) ∧ (type_of% @c76r6.eq_1) ∧ (type_of% @c76r8.eq_1) := ⟨@c76r0.eq_1, @c76r1.eq_1, @c76r2.eq_1, @c76r3.eq_1, @c76r4.eq_1, @c76r5.eq_1, @c76r6.eq_1, @c76r8.eq_1⟩
theorem pc76 (l : List En) (hl : l.length ≤ 9223372036854775807) (e : En) : PC Try.prog 76 [vB l, .ag (eE e)] (.tu [.ag (eE (fnd l e l.length).1), .b (fnd l e l.length).2]) := by
  have h87 := fun x => pc87 x e
  obtain ⟨e1, e2, e3, e4⟩ := e
  simp only [eE] at h87 ⊢
  refine pc_fn fn76 (by simp only [AV.plains, AV.plain, il_plain, bl_plain, Bool.and_true, Bool.true_and, Bool.and_self, flE_plain]) (by simp only [AV.plains, AV.plain, il_plain, bl_plain, Bool.and_true, Bool.true_and, Bool.and_self, flE_plain]) (Nat.le_of_ble_eq_true rfl) ?_
  rw [initSt2]
  repeat' first | with_reducible refine k_seq ?_ | with_reducible refine k_skip ?_ | with_reducible refine k_blkS ?_ | with_reducible refine k_blkR ?_ | with_reducible refine k_blkC ?_ | with_reducible refine k_blkH ?_ | with_reducible refine k_blkB ?_ | with_reducible refine k_blkK ?_ | with_reducible refine k_blkE ?_ | with_reducible refine k_reg ?_ | with_reducible refine r_done ?_ | with_reducible refine s_go (by simp (disch := omega) only [RG76, EVA, plug, ite_same, decide_true, decide_false, eq_self, ↓reduceIte, reduceCtorEq, Nat.reduceAdd, Nat.reduceEqDiff, Nat.reduceLT, Nat.reduceLeDiff, Nat.reduceMul, Nat.reduceSub, Nat.reduceDiv, Int.reduceToNat, Int.reduceAdd, Int.reduceSub, Int.reduceMul, Int.reduceNeg, Int.reduceEq, Int.reduceLT, Int.reduceLE]; with_reducible rfl) ?_ | ((with_reducible refine chk_r ?_); refine r_callF (by simp only [CA, Nat.reduceEqDiff, ↓reduceIte]; rfl) (by exact rfl) (by simp only [CA, Nat.reduceEqDiff, ↓reduceIte]; rfl) rfl ?_) | (with_reducible refine k_condP (by simp only [GA, Nat.reduceEqDiff, ↓reduceIte]; rfl) (by first | (simp only [BO]; rfl) | rfl) (fun ht => ?_) (fun ht => ?_) <;> try (first | exact False.elim ht | exact absurd rfl ht | exact absurd trivial ht | exact Bool.noConfusion ht)) | (with_reducible refine k_ret ?_; repeat with_reducible (first | refine ret_thru ?_ | refine ret_blk ?_ | refine fin ?_)) | (with_reducible refine k_exit ?_; repeat with_reducible (first | refine thru ?_ | refine out_blk ?_ | refine pass (by decide) ?_)) | ((first | refine post1 ?_ | refine post2 ?_ | refine post3 ?_); simp only [GA, Nat.reduceEqDiff, ↓reduceIte]) | (refine postc (by simp only [GA, Nat.reduceEqDiff, ↓reduceIte]; rfl) (by simp (disch := omega) only [RG76, EVA, plug, ite_same, decide_true, decide_false, eq_self, ↓reduceIte, reduceCtorEq, Nat.reduceAdd, Nat.reduceEqDiff, Nat.reduceLT, Nat.reduceLeDiff, Nat.reduceMul, Nat.reduceSub, Nat.reduceDiv, Int.reduceToNat, Int.reduceAdd, Int.reduceSub, Int.reduceMul, Int.reduceNeg, Int.reduceEq, Int.reduceLT, Int.reduceLE]; rfl) ?_) | (refine postct (by simp only [GA, Nat.reduceEqDiff, ↓reduceIte]; rfl) (by simp (disch := omega) only [RG76, EVA, plug, ite_same, decide_true, decide_false, eq_self, ↓reduceIte, reduceCtorEq, Nat.reduceAdd, Nat.reduceEqDiff, Nat.reduceLT, Nat.reduceLeDiff, Nat.reduceMul, Nat.reduceSub, Nat.reduceDiv, Int.reduceToNat, Int.reduceAdd, Int.reduceSub, Int.reduceMul, Int.reduceNeg, Int.reduceEq, Int.reduceLT, Int.reduceLE]; rfl) ?_; simp only [GA, Nat.reduceEqDiff, ↓reduceIte]) | refine post0 ?_
  refine k_blk (k_loopS (X := Nat × Nat) [3, 4, 8, 9, 10] l.length (fun k x => [(3, .p x.1 0), (4, .p x.2 0), (8, vB l), (9, .i .i64 l.length), (10, .i .i64 (k : Int))])
    (fun k x h => h.m x.1 = some (.cells true [.i .i64 e1, .i .i64 e2, .i .i64 e3, .i .i64 e4]) ∧ h.m x.2 = some (.cells true (eE E0)) ∧ x.1 ≠ x.2 ∧ ∀ j, j < k → nmE (eD l j) ≠ nmE ⟨e1, e2, e3, e4⟩) (_, _) (by simp only [Am.keep, List.map_cons, List.map_nil, GA, Nat.reduceEqDiff, ↓reduceIte]; try rfl) ⟨by simp (disch := omega) only [RG76, EVA, plug, ite_same, decide_true, decide_false, eq_self, ↓reduceIte, reduceCtorEq, Nat.reduceAdd, Nat.reduceEqDiff, Nat.reduceLT, Nat.reduceLeDiff, Nat.reduceMul, Nat.reduceSub, Nat.reduceDiv, Int.reduceToNat, Int.reduceAdd, Int.reduceSub, Int.reduceMul, Int.reduceNeg, Int.reduceEq, Int.reduceLT, Int.reduceLE] <;> rfl, by simp (disch := omega) only [RG76, EVA, plug, ite_same, decide_true, decide_false, eq_self, ↓reduceIte, reduceCtorEq, Nat.reduceAdd, Nat.reduceEqDiff, Nat.reduceLT, Nat.reduceLeDiff, Nat.reduceMul, Nat.reduceSub, Nat.reduceDiv, Int.reduceToNat, Int.reduceAdd, Int.reduceSub, Int.reduceMul, Int.reduceNeg, Int.reduceEq, Int.reduceLT, Int.reduceLE] <;> rfl, ?_, fun j hj => by omega⟩ ?_)
  · decide
  rintro k ⟨t, u⟩ h hk ⟨hm, hu, ne, hf⟩ ok pos
  simp only at hm hu ne hf ⊢
  have lt := ok.m hm
  have lu := ok.m hu
  have ne' : ¬ u = t := fun q => ne q.symm
  by_cases klt : k < l.length
  · have klt' : (k : Int) < l.length := by omega
    have g := eg klt
    have q := h87 (eD l k)
    by_cases c : nmE (eD l k) = nmE ⟨e1, e2, e3, e4⟩
    · rw [decide_eq_true c] at q
      rw [fnd_at hf c klt]
      generalize eD l k = x at *
      obtain ⟨x1, x2, x3, x4⟩ := x
      simp only [eE] at g q hu ⊢
      repeat' first | with_reducible refine k_seq ?_ | with_reducible refine k_skip ?_ | with_reducible refine k_blkS ?_ | with_reducible refine k_blkR ?_ | with_reducible refine k_blkC ?_ | with_reducible refine k_blkH ?_ | with_reducible refine k_blkB ?_ | with_reducible refine k_blkK ?_ | with_reducible refine k_blkE ?_ | with_reducible refine k_reg ?_ | with_reducible refine r_done ?_ | with_reducible refine s_go (by simp (disch := omega) only [klt', g, hm, row_m hm, read_row (row_m hm), hu, row_m hu, read_row (row_m hu), RG76, EVA, plug, ite_same, decide_true, decide_false, eq_self, ↓reduceIte, reduceCtorEq, Nat.reduceAdd, Nat.reduceEqDiff, Nat.reduceLT, Nat.reduceLeDiff, Nat.reduceMul, Nat.reduceSub, Nat.reduceDiv, Int.reduceToNat, Int.reduceAdd, Int.reduceSub, Int.reduceMul, Int.reduceNeg, Int.reduceEq, Int.reduceLT, Int.reduceLE]; with_reducible rfl) ?_ | ((with_reducible refine chk_r ?_); refine r_callF (by simp only [CA, Nat.reduceEqDiff, ↓reduceIte]; rfl) (by exact rfl) (by simp only [CA, Nat.reduceEqDiff, ↓reduceIte]; rfl) rfl ?_) | ((with_reducible refine chk_r ?_); refine r_callP (by simp only [CA, Nat.reduceEqDiff, ↓reduceIte]; rfl) (by simp only [CA, Nat.reduceEqDiff, ↓reduceIte]; rfl) (by first | exact q _) rfl ?_) | (with_reducible refine k_condP (by simp only [GA, Nat.reduceEqDiff, ↓reduceIte]; rfl) (by first | (simp only [BO]; rfl) | rfl) (fun ht => ?_) (fun ht => ?_) <;> try (first | exact False.elim ht | exact absurd rfl ht | exact absurd trivial ht | exact Bool.noConfusion ht)) | (with_reducible refine k_ret ?_; repeat with_reducible (first | refine ret_thru ?_ | refine ret_blk ?_ | refine fin ?_)) | (with_reducible refine k_exit ?_; repeat with_reducible (first | refine thru ?_ | refine out_blk ?_ | refine pass (by decide) ?_)) | ((first | refine post1 ?_ | refine post2 ?_ | refine post3 ?_); simp only [GA, Nat.reduceEqDiff, ↓reduceIte]) | (refine postc (by simp only [GA, Nat.reduceEqDiff, ↓reduceIte]; rfl) (by simp (disch := omega) only [klt', g, hm, row_m hm, read_row (row_m hm), hu, row_m hu, read_row (row_m hu), RG76, EVA, plug, ite_same, decide_true, decide_false, eq_self, ↓reduceIte, reduceCtorEq, Nat.reduceAdd, Nat.reduceEqDiff, Nat.reduceLT, Nat.reduceLeDiff, Nat.reduceMul, Nat.reduceSub, Nat.reduceDiv, Int.reduceToNat, Int.reduceAdd, Int.reduceSub, Int.reduceMul, Int.reduceNeg, Int.reduceEq, Int.reduceLT, Int.reduceLE]; rfl) ?_) | (refine postct (by simp only [GA, Nat.reduceEqDiff, ↓reduceIte]; rfl) (by simp (disch := omega) only [klt', g, hm, row_m hm, read_row (row_m hm), hu, row_m hu, read_row (row_m hu), RG76, EVA, plug, ite_same, decide_true, decide_false, eq_self, ↓reduceIte, reduceCtorEq, Nat.reduceAdd, Nat.reduceEqDiff, Nat.reduceLT, Nat.reduceLeDiff, Nat.reduceMul, Nat.reduceSub, Nat.reduceDiv, Int.reduceToNat, Int.reduceAdd, Int.reduceSub, Int.reduceMul, Int.reduceNeg, Int.reduceEq, Int.reduceLT, Int.reduceLE]; rfl) ?_; simp only [GA, Nat.reduceEqDiff, ↓reduceIte]) | refine post0 ?_
      all_goals first | exact ends_of | exact ends_eq rfl
    · rw [decide_eq_false c] at q
      have hf2 : ∀ j, j < k + 1 → nmE (eD l j) ≠ nmE ⟨e1, e2, e3, e4⟩ := fun j hj => by
        by_cases z : j = k
        · subst z; exact c
        · exact hf j (by omega)
      generalize eD l k = x at *
      obtain ⟨x1, x2, x3, x4⟩ := x
      simp only [eE] at g q hu ⊢
      repeat' first | with_reducible refine k_seq ?_ | with_reducible refine k_skip ?_ | with_reducible refine k_blkS ?_ | with_reducible refine k_blkR ?_ | with_reducible refine k_blkC ?_ | with_reducible refine k_blkH ?_ | with_reducible refine k_blkB ?_ | with_reducible refine k_blkK ?_ | with_reducible refine k_blkE ?_ | with_reducible refine k_reg ?_ | with_reducible refine r_done ?_ | with_reducible refine s_go (by simp (disch := omega) only [klt', g, hm, row_m hm, read_row (row_m hm), hu, row_m hu, read_row (row_m hu), RG76, EVA, plug, ite_same, decide_true, decide_false, eq_self, ↓reduceIte, reduceCtorEq, Nat.reduceAdd, Nat.reduceEqDiff, Nat.reduceLT, Nat.reduceLeDiff, Nat.reduceMul, Nat.reduceSub, Nat.reduceDiv, Int.reduceToNat, Int.reduceAdd, Int.reduceSub, Int.reduceMul, Int.reduceNeg, Int.reduceEq, Int.reduceLT, Int.reduceLE]; with_reducible rfl) ?_ | ((with_reducible refine chk_r ?_); refine r_callF (by simp only [CA, Nat.reduceEqDiff, ↓reduceIte]; rfl) (by exact rfl) (by simp only [CA, Nat.reduceEqDiff, ↓reduceIte]; rfl) rfl ?_) | ((with_reducible refine chk_r ?_); refine r_callP (by simp only [CA, Nat.reduceEqDiff, ↓reduceIte]; rfl) (by simp only [CA, Nat.reduceEqDiff, ↓reduceIte]; rfl) (by first | exact q _) rfl ?_) | (with_reducible refine k_condP (by simp only [GA, Nat.reduceEqDiff, ↓reduceIte]; rfl) (by first | (simp only [BO]; rfl) | rfl) (fun ht => ?_) (fun ht => ?_) <;> try (first | exact False.elim ht | exact absurd rfl ht | exact absurd trivial ht | exact Bool.noConfusion ht)) | (with_reducible refine k_ret ?_; repeat with_reducible (first | refine ret_thru ?_ | refine ret_blk ?_ | refine fin ?_)) | (with_reducible refine k_exit ?_; repeat with_reducible (first | refine thru ?_ | refine out_blk ?_ | refine pass (by decide) ?_)) | ((first | refine post1 ?_ | refine post2 ?_ | refine post3 ?_); simp only [GA, Nat.reduceEqDiff, ↓reduceIte]) | (refine postc (by simp only [GA, Nat.reduceEqDiff, ↓reduceIte]; rfl) (by simp (disch := omega) only [klt', g, hm, row_m hm, read_row (row_m hm), hu, row_m hu, read_row (row_m hu), RG76, EVA, plug, ite_same, decide_true, decide_false, eq_self, ↓reduceIte, reduceCtorEq, Nat.reduceAdd, Nat.reduceEqDiff, Nat.reduceLT, Nat.reduceLeDiff, Nat.reduceMul, Nat.reduceSub, Nat.reduceDiv, Int.reduceToNat, Int.reduceAdd, Int.reduceSub, Int.reduceMul, Int.reduceNeg, Int.reduceEq, Int.reduceLT, Int.reduceLE]; rfl) ?_) | (refine postct (by simp only [GA, Nat.reduceEqDiff, ↓reduceIte]; rfl) (by simp (disch := omega) only [klt', g, hm, row_m hm, read_row (row_m hm), hu, row_m hu, read_row (row_m hu), RG76, EVA, plug, ite_same, decide_true, decide_false, eq_self, ↓reduceIte, reduceCtorEq, Nat.reduceAdd, Nat.reduceEqDiff, Nat.reduceLT, Nat.reduceLeDiff, Nat.reduceMul, Nat.reduceSub, Nat.reduceDiv, Int.reduceToNat, Int.reduceAdd, Int.reduceSub, Int.reduceMul, Int.reduceNeg, Int.reduceEq, Int.reduceLT, Int.reduceLE]; rfl) ?_; simp only [GA, Nat.reduceEqDiff, ↓reduceIte]) | refine post0 ?_
      exact ⟨klt, (t, u), (by simp only [Am.keep, List.map_cons, List.map_nil, GA, Nat.reduceEqDiff, ↓reduceIte]; try rfl), by simp (disch := omega) only [hm, RG76, EVA, plug, ite_same, decide_true, decide_false, eq_self, ↓reduceIte, reduceCtorEq, Nat.reduceAdd, Nat.reduceEqDiff, Nat.reduceLT, Nat.reduceLeDiff, Nat.reduceMul, Nat.reduceSub, Nat.reduceDiv, Int.reduceToNat, Int.reduceAdd, Int.reduceSub, Int.reduceMul, Int.reduceNeg, Int.reduceEq, Int.reduceLT, Int.reduceLE], by simp (disch := omega) only [hu, RG76, EVA, plug, ite_same, decide_true, decide_false, eq_self, ↓reduceIte, reduceCtorEq, Nat.reduceAdd, Nat.reduceEqDiff, Nat.reduceLT, Nat.reduceLeDiff, Nat.reduceMul, Nat.reduceSub, Nat.reduceDiv, Int.reduceToNat, Int.reduceAdd, Int.reduceSub, Int.reduceMul, Int.reduceNeg, Int.reduceEq, Int.reduceLT, Int.reduceLE], ne, hf2⟩
  · obtain rfl : k = l.length := by omega
    have klt' : ¬ (l.length : Int) < l.length := by omega
    rw [fnd_no hf]
    simp only [eE] at hu ⊢
    repeat' first | with_reducible refine k_seq ?_ | with_reducible refine k_skip ?_ | with_reducible refine k_blkS ?_ | with_reducible refine k_blkR ?_ | with_reducible refine k_blkC ?_ | with_reducible refine k_blkH ?_ | with_reducible refine k_blkB ?_ | with_reducible refine k_blkK ?_ | with_reducible refine k_blkE ?_ | with_reducible refine k_reg ?_ | with_reducible refine r_done ?_ | with_reducible refine s_go (by simp (disch := omega) only [klt', hm, row_m hm, read_row (row_m hm), hu, row_m hu, read_row (row_m hu), RG76, EVA, plug, ite_same, decide_true, decide_false, eq_self, ↓reduceIte, reduceCtorEq, Nat.reduceAdd, Nat.reduceEqDiff, Nat.reduceLT, Nat.reduceLeDiff, Nat.reduceMul, Nat.reduceSub, Nat.reduceDiv, Int.reduceToNat, Int.reduceAdd, Int.reduceSub, Int.reduceMul, Int.reduceNeg, Int.reduceEq, Int.reduceLT, Int.reduceLE]; with_reducible rfl) ?_ | ((with_reducible refine chk_r ?_); refine r_callF (by simp only [CA, Nat.reduceEqDiff, ↓reduceIte]; rfl) (by exact rfl) (by simp only [CA, Nat.reduceEqDiff, ↓reduceIte]; rfl) rfl ?_) | (with_reducible refine k_condP (by simp only [GA, Nat.reduceEqDiff, ↓reduceIte]; rfl) (by first | (simp only [BO]; rfl) | rfl) (fun ht => ?_) (fun ht => ?_) <;> try (first | exact False.elim ht | exact absurd rfl ht | exact absurd trivial ht | exact Bool.noConfusion ht)) | (with_reducible refine k_ret ?_; repeat with_reducible (first | refine ret_thru ?_ | refine ret_blk ?_ | refine fin ?_)) | (with_reducible refine k_exit ?_; repeat with_reducible (first | refine thru ?_ | refine out_blk ?_ | refine pass (by decide) ?_)) | ((first | refine post1 ?_ | refine post2 ?_ | refine post3 ?_); simp only [GA, Nat.reduceEqDiff, ↓reduceIte]) | (refine postc (by simp only [GA, Nat.reduceEqDiff, ↓reduceIte]; rfl) (by simp (disch := omega) only [klt', hm, row_m hm, read_row (row_m hm), hu, row_m hu, read_row (row_m hu), RG76, EVA, plug, ite_same, decide_true, decide_false, eq_self, ↓reduceIte, reduceCtorEq, Nat.reduceAdd, Nat.reduceEqDiff, Nat.reduceLT, Nat.reduceLeDiff, Nat.reduceMul, Nat.reduceSub, Nat.reduceDiv, Int.reduceToNat, Int.reduceAdd, Int.reduceSub, Int.reduceMul, Int.reduceNeg, Int.reduceEq, Int.reduceLT, Int.reduceLE]; rfl) ?_) | (refine postct (by simp only [GA, Nat.reduceEqDiff, ↓reduceIte]; rfl) (by simp (disch := omega) only [klt', hm, row_m hm, read_row (row_m hm), hu, row_m hu, read_row (row_m hu), RG76, EVA, plug, ite_same, decide_true, decide_false, eq_self, ↓reduceIte, reduceCtorEq, Nat.reduceAdd, Nat.reduceEqDiff, Nat.reduceLT, Nat.reduceLeDiff, Nat.reduceMul, Nat.reduceSub, Nat.reduceDiv, Int.reduceToNat, Int.reduceAdd, Int.reduceSub, Int.reduceMul, Int.reduceNeg, Int.reduceEq, Int.reduceLT, Int.reduceLE]; rfl) ?_; simp only [GA, Nat.reduceEqDiff, ↓reduceIte]) | refine post0 ?_
    all_goals first | exact ends_of | exact ends_eq rfl
end Go.Proofs.Ytfbhncddniofbaa
set_option linter.unusedVariables false
set_option linter.unusedSimpArgs false
namespace Go.Proofs.Ytfbhncddniofbaa
open Go Go.Am Go.Proofs
theorem flE_take (l : List En) (k : Nat) : (fl eE l).take (k * 4) = fl eE (l.take k) := fl_take eE_len l k
theorem eD_take {l : List En} {k j : Nat} (h : j < k) : eD (l.take k) j = eD l j := by
  simp only [eD]
  rw [List.getD_eq_getElem?_getD, List.getElem?_take_of_lt h, ← List.getD_eq_getElem?_getD]
theorem fnd_take {l : List En} {e : En} {k : Nat} : ∀ {n}, n ≤ k → fnd (l.take k) e n = fnd l e n
  | 0, _ => rfl
  | n + 1, h => by rw [fnd, fnd, fnd_take (by omega), eD_take (by omega)]
theorem fnd_iff {l : List En} {e : En} : ∀ {n}, (fnd l e n).2 = true ↔ ∃ j, j < n ∧ nmE (eD l j) = nmE e
  | 0 => by simp [fnd]
  | n + 1 => by
    have ih := fnd_iff (l := l) (e := e) (n := n)
    rw [fnd]
    by_cases h : (fnd l e n).2 = true
    · rw [if_pos h]
      obtain ⟨j, hj, q⟩ := ih.1 h
      exact ⟨fun _ => ⟨j, by omega, q⟩, fun _ => h⟩
    · rw [if_neg h]
      by_cases c : nmE (eD l n) = nmE e
      · rw [if_pos c]; exact ⟨fun _ => ⟨n, by omega, c⟩, fun _ => rfl⟩
      · rw [if_neg c]
        refine ⟨fun q => (by cases q), fun ⟨j, hj, q⟩ => ?_⟩
        by_cases z : j = n
        · subst z; exact absurd q c
        · exact absurd (ih.2 ⟨j, by omega, q⟩) h
theorem RG34 : (type_of% @c34r0.eq_1) ∧ (type_of% @c34r1.eq_1) ∧ (type_of% @c34r2.eq_1) ∧ (type_of% @c34r3.eq_1) ∧ (type_of% @c34r4.eq_1) ∧ (type_of% @c34r5.eq_1) ∧ (type_of% @c34r6.eq_1) ∧ (type_of% @c34r7.eq_1) ∧ (type_of% @c34r8.eq_1) ∧ (type_of% @c34r9.eq_1) ∧ (type_of% @c34r11.eq_1) := ⟨@c34r0.eq_1, @c34r1.eq_1, @c34r2.eq_1, @c34r3.eq_1, @c34r4.eq_1, @c34r5.eq_1, @c34r6.eq_1, @c34r7.eq_1, @c34r8.eq_1, @c34r9.eq_1, @c34r11.eq_1⟩
set_option maxHeartbeats 1000000 in
theorem pc34 (l : List En) (hl : l.length ≤ 9223372036854775807) : PC Try.prog 34 [vB l] (.b (vbB l)) := by
  refine pc_fn fn34 (by simp only [AV.plains, AV.plain, il_plain, bl_plain, Bool.and_true, Bool.true_and, Bool.and_self, flE_plain]) (by simp only [AV.plains, AV.plain, il_plain, bl_plain, Bool.and_true, Bool.true_and, Bool.and_self, flE_plain]) (Nat.le_of_ble_eq_true rfl) ?_
  rw [initSt1]
  repeat' first | with_reducible refine k_seq ?_ | with_reducible refine k_skip ?_ | with_reducible refine k_blkS ?_ | with_reducible refine k_blkR ?_ | with_reducible refine k_blkC ?_ | with_reducible refine k_blkH ?_ | with_reducible refine k_blkB ?_ | with_reducible refine k_blkK ?_ | with_reducible refine k_blkE ?_ | with_reducible refine k_reg ?_ | with_reducible refine k_head (by with_unfolding_all rfl) ?_ | with_reducible refine k_headS ?_ | (with_reducible refine SepK.mk ?_ ?_; (refine sepQ_P ?_; simp [sepQ, sepG, AOp.late, AOp.free, AOp.xs, AOp.isAl, tokNe, AV.tok, stS_get, strip, AX.val, RG34, GA]; try omega)) | with_reducible refine r_done ?_ | with_reducible refine hr_done ?_ | with_reducible refine s_go (by simp (disch := omega) only [RG34, EVA, plug, ite_same, decide_true, decide_false, eq_self, ↓reduceIte, reduceCtorEq, Nat.reduceAdd, Nat.reduceEqDiff, Nat.reduceLT, Nat.reduceLeDiff, Nat.reduceMul, Nat.reduceSub, Nat.reduceDiv, Int.reduceToNat, Int.reduceAdd, Int.reduceSub, Int.reduceMul, Int.reduceNeg, Int.reduceEq, Int.reduceLT, Int.reduceLE]; with_reducible rfl) ?_ | with_reducible refine h_go (by with_unfolding_all rfl) (by simp (disch := omega) only [RG34, EVA, plug, ite_same, decide_true, decide_false, eq_self, ↓reduceIte, reduceCtorEq, Nat.reduceAdd, Nat.reduceEqDiff, Nat.reduceLT, Nat.reduceLeDiff, Nat.reduceMul, Nat.reduceSub, Nat.reduceDiv, Int.reduceToNat, Int.reduceAdd, Int.reduceSub, Int.reduceMul, Int.reduceNeg, Int.reduceEq, Int.reduceLT, Int.reduceLE]; with_reducible rfl) ?_ | ((with_reducible refine chk_r ?_); refine r_callF (by simp only [CA, Nat.reduceEqDiff, ↓reduceIte]; rfl) (by exact rfl) (by simp only [CA, Nat.reduceEqDiff, ↓reduceIte]; rfl) rfl ?_) | ((with_reducible refine chk_h ?_); refine hr_callF (by simp only [CA, Nat.reduceEqDiff, ↓reduceIte]; rfl) (by exact rfl) (by simp only [CA, Nat.reduceEqDiff, ↓reduceIte]; rfl) rfl ?_) | ((with_reducible refine chk_h ?_); refine hr_app (by simp (disch := omega) only [RG34, EVA, plug, ite_same, decide_true, decide_false, eq_self, ↓reduceIte, reduceCtorEq, Nat.reduceAdd, Nat.reduceEqDiff, Nat.reduceLT, Nat.reduceLeDiff, Nat.reduceMul, Nat.reduceSub, Nat.reduceDiv, Int.reduceToNat, Int.reduceAdd, Int.reduceSub, Int.reduceMul, Int.reduceNeg, Int.reduceEq, Int.reduceLT, Int.reduceLE]; with_reducible rfl) rfl ?_) | (with_reducible refine k_condP (by simp only [GA, Nat.reduceEqDiff, ↓reduceIte]; rfl) (by first | (simp only [BO]; rfl) | rfl) (fun ht => ?_) (fun ht => ?_) <;> try (first | exact False.elim ht | exact absurd rfl ht | exact absurd trivial ht | exact Bool.noConfusion ht)) | (with_reducible refine k_ret ?_; repeat with_reducible (first | refine ret_thru ?_ | refine ret_blk ?_ | refine fin ?_)) | (with_reducible refine k_exit ?_; repeat with_reducible (first | refine thru ?_ | refine out_blk ?_ | refine pass (by decide) ?_)) | ((first | refine post1 ?_ | refine post2 ?_ | refine post3 ?_); simp only [GA, Nat.reduceEqDiff, ↓reduceIte]) | (refine postc (by simp only [GA, Nat.reduceEqDiff, ↓reduceIte]; rfl) (by simp (disch := omega) only [RG34, EVA, plug, ite_same, decide_true, decide_false, eq_self, ↓reduceIte, reduceCtorEq, Nat.reduceAdd, Nat.reduceEqDiff, Nat.reduceLT, Nat.reduceLeDiff, Nat.reduceMul, Nat.reduceSub, Nat.reduceDiv, Int.reduceToNat, Int.reduceAdd, Int.reduceSub, Int.reduceMul, Int.reduceNeg, Int.reduceEq, Int.reduceLT, Int.reduceLE]; rfl) ?_) | refine post0 ?_
  refine k_blk (k_loopS (X := Unit) [0, 7, 8, 9] l.length (fun k _ => [(0, vB l), (7, vB l), (8, .i .i64 l.length), (9, .i .i64 (k : Int))]) (fun k _ h => vbk l k) () (by simp only [Am.keep, List.map_cons, List.map_nil, GA, Nat.reduceEqDiff, ↓reduceIte]; try rfl) ⟨fun i hi => by omega, fun i j hi hj => by omega⟩ ?_)
  rintro k _ h hk hv ok pos
  by_cases klt : k < l.length
  · have klt' : (k : Int) < l.length := by omega
    have g := eg klt
    have q75 := pc75 (eD l k)
    have tl : (l.take k).length = k := by rw [List.length_take]; omega
    have q76 := pc76 (l.take k) (by omega) (eD l k)
    rw [tl, fnd_take (Nat.le_refl k)] at q76
    have ft := flE_take l k
    have kk : (k : Int) ≤ l.length := by omega
    have kl : k ≤ l.length := by omega
    have fi_ := fnd_iff (l := l) (e := eD l k) (n := k)
    simp only [vB, tl] at q76
    generalize fnd l (eD l k) k = F at *
    obtain ⟨⟨f1, f2, f3, f4⟩, F2⟩ := F
    cases ve : vE (eD l k) with
    | false =>
      rw [ve] at q75
      rw [vb_f fun v => by have := v.2.1 k klt; rw [ve] at this; cases this]
      generalize eD l k = e at *
      obtain ⟨e1, e2, e3, e4⟩ := e
      simp only [eE] at *
      repeat' first | with_reducible refine k_seq ?_ | with_reducible refine k_skip ?_ | with_reducible refine k_blkS ?_ | with_reducible refine k_blkR ?_ | with_reducible refine k_blkC ?_ | with_reducible refine k_blkH ?_ | with_reducible refine k_blkB ?_ | with_reducible refine k_blkK ?_ | with_reducible refine k_blkE ?_ | with_reducible refine k_reg ?_ | with_reducible refine k_head (by with_unfolding_all rfl) ?_ | with_reducible refine k_headS ?_ | (with_reducible refine SepK.mk ?_ ?_; (refine sepQ_P ?_; simp [sepQ, sepG, AOp.late, AOp.free, AOp.xs, AOp.isAl, tokNe, AV.tok, stS_get, strip, AX.val, RG34, GA]; try omega)) | with_reducible refine r_done ?_ | with_reducible refine hr_done ?_ | with_reducible refine s_go (by simp (disch := omega) only [klt', g, RG34, EVA, plug, ite_same, decide_true, decide_false, eq_self, ↓reduceIte, reduceCtorEq, Nat.reduceAdd, Nat.reduceEqDiff, Nat.reduceLT, Nat.reduceLeDiff, Nat.reduceMul, Nat.reduceSub, Nat.reduceDiv, Int.reduceToNat, Int.reduceAdd, Int.reduceSub, Int.reduceMul, Int.reduceNeg, Int.reduceEq, Int.reduceLT, Int.reduceLE]; with_reducible rfl) ?_ | with_reducible refine h_go (by with_unfolding_all rfl) (by simp (disch := omega) only [klt', g, RG34, EVA, plug, ite_same, decide_true, decide_false, eq_self, ↓reduceIte, reduceCtorEq, Nat.reduceAdd, Nat.reduceEqDiff, Nat.reduceLT, Nat.reduceLeDiff, Nat.reduceMul, Nat.reduceSub, Nat.reduceDiv, Int.reduceToNat, Int.reduceAdd, Int.reduceSub, Int.reduceMul, Int.reduceNeg, Int.reduceEq, Int.reduceLT, Int.reduceLE]; with_reducible rfl) ?_ | ((with_reducible refine chk_r ?_); refine r_callF (by simp only [CA, Nat.reduceEqDiff, ↓reduceIte]; rfl) (by exact rfl) (by simp only [CA, Nat.reduceEqDiff, ↓reduceIte]; rfl) rfl ?_) | ((with_reducible refine chk_h ?_); refine hr_callF (by simp only [CA, Nat.reduceEqDiff, ↓reduceIte]; rfl) (by exact rfl) (by simp only [CA, Nat.reduceEqDiff, ↓reduceIte]; rfl) rfl ?_) | ((with_reducible refine chk_r ?_); refine r_callP (by simp only [CA, Nat.reduceEqDiff, ↓reduceIte]; rfl) (by simp only [CA, Nat.reduceEqDiff, ↓reduceIte]; rfl) (by first | exact q75 _) rfl ?_) | ((with_reducible refine chk_h ?_); refine hr_callP (by simp only [CA, Nat.reduceEqDiff, ↓reduceIte]; rfl) (by simp only [CA, Nat.reduceEqDiff, ↓reduceIte]; rfl) (by first | exact q75 _) rfl ?_) | ((with_reducible refine chk_h ?_); refine hr_callP1 (by simp only [CA, Nat.reduceEqDiff, ↓reduceIte]; rfl) (by simp only [CA, Nat.reduceEqDiff, ↓reduceIte]; rfl) (by simp (disch := omega) only [CA, Nat.reduceEqDiff, ↓reduceIte, firstTok_nil, firstTok_sl, firstTok_sl0, firstTok_i, firstTok_b, firstTok_ag, firstTok_p, firstTok_s]; rfl) (by first | exact q75 _) rfl ?_) | ((with_reducible refine chk_h ?_); refine hr_app (by simp (disch := omega) only [klt', g, RG34, EVA, plug, ite_same, decide_true, decide_false, eq_self, ↓reduceIte, reduceCtorEq, Nat.reduceAdd, Nat.reduceEqDiff, Nat.reduceLT, Nat.reduceLeDiff, Nat.reduceMul, Nat.reduceSub, Nat.reduceDiv, Int.reduceToNat, Int.reduceAdd, Int.reduceSub, Int.reduceMul, Int.reduceNeg, Int.reduceEq, Int.reduceLT, Int.reduceLE]; with_reducible rfl) rfl ?_) | (with_reducible refine k_condP (by simp only [GA, Nat.reduceEqDiff, ↓reduceIte]; rfl) (by first | (simp only [BO]; rfl) | rfl) (fun ht => ?_) (fun ht => ?_) <;> try (first | exact False.elim ht | exact absurd rfl ht | exact absurd trivial ht | exact Bool.noConfusion ht)) | (with_reducible refine k_ret ?_; repeat with_reducible (first | refine ret_thru ?_ | refine ret_blk ?_ | refine fin ?_)) | (with_reducible refine k_exit ?_; repeat with_reducible (first | refine thru ?_ | refine out_blk ?_ | refine pass (by decide) ?_)) | ((first | refine post1 ?_ | refine post2 ?_ | refine post3 ?_); simp only [GA, Nat.reduceEqDiff, ↓reduceIte]) | (refine postc (by simp only [GA, Nat.reduceEqDiff, ↓reduceIte]; rfl) (by simp (disch := omega) only [klt', g, RG34, EVA, plug, ite_same, decide_true, decide_false, eq_self, ↓reduceIte, reduceCtorEq, Nat.reduceAdd, Nat.reduceEqDiff, Nat.reduceLT, Nat.reduceLeDiff, Nat.reduceMul, Nat.reduceSub, Nat.reduceDiv, Int.reduceToNat, Int.reduceAdd, Int.reduceSub, Int.reduceMul, Int.reduceNeg, Int.reduceEq, Int.reduceLT, Int.reduceLE]; rfl) ?_) | refine post0 ?_
      all_goals first | exact ends_of | exact ends_eq rfl
    | true =>
      rw [ve] at q75
      cases F2 with
      | true =>
        obtain ⟨j, hj, q⟩ := fi_.1 rfl
        rw [vb_f fun v => v.2.2 j k hj klt q]
        generalize eD l k = e at *
        obtain ⟨e1, e2, e3, e4⟩ := e
        simp only [eE] at *
        repeat' first | with_reducible refine k_seq ?_ | with_reducible refine k_skip ?_ | with_reducible refine k_blkS ?_ | with_reducible refine k_blkR ?_ | with_reducible refine k_blkC ?_ | with_reducible refine k_blkH ?_ | with_reducible refine k_blkB ?_ | with_reducible refine k_blkK ?_ | with_reducible refine k_blkE ?_ | with_reducible refine k_reg ?_ | with_reducible refine k_head (by with_unfolding_all rfl) ?_ | with_reducible refine k_headS ?_ | (with_reducible refine SepK.mk ?_ ?_; (refine sepQ_P ?_; simp [sepQ, sepG, AOp.late, AOp.free, AOp.xs, AOp.isAl, tokNe, AV.tok, stS_get, strip, AX.val, RG34, GA]; try omega)) | with_reducible refine r_done ?_ | with_reducible refine hr_done ?_ | with_reducible refine s_go (by simp (disch := omega) only [klt', g, ft, kk, kl, RG34, EVA, plug, ite_same, decide_true, decide_false, eq_self, ↓reduceIte, reduceCtorEq, Nat.reduceAdd, Nat.reduceEqDiff, Nat.reduceLT, Nat.reduceLeDiff, Nat.reduceMul, Nat.reduceSub, Nat.reduceDiv, Int.reduceToNat, Int.reduceAdd, Int.reduceSub, Int.reduceMul, Int.reduceNeg, Int.reduceEq, Int.reduceLT, Int.reduceLE]; with_reducible rfl) ?_ | with_reducible refine h_go (by with_unfolding_all rfl) (by simp (disch := omega) only [klt', g, ft, kk, kl, RG34, EVA, plug, ite_same, decide_true, decide_false, eq_self, ↓reduceIte, reduceCtorEq, Nat.reduceAdd, Nat.reduceEqDiff, Nat.reduceLT, Nat.reduceLeDiff, Nat.reduceMul, Nat.reduceSub, Nat.reduceDiv, Int.reduceToNat, Int.reduceAdd, Int.reduceSub, Int.reduceMul, Int.reduceNeg, Int.reduceEq, Int.reduceLT, Int.reduceLE]; with_reducible rfl) ?_ | ((with_reducible refine chk_r ?_); refine r_callF (by simp only [CA, Nat.reduceEqDiff, ↓reduceIte]; rfl) (by exact rfl) (by simp only [CA, Nat.reduceEqDiff, ↓reduceIte]; rfl) rfl ?_) | ((with_reducible refine chk_h ?_); refine hr_callF (by simp only [CA, Nat.reduceEqDiff, ↓reduceIte]; rfl) (by exact rfl) (by simp only [CA, Nat.reduceEqDiff, ↓reduceIte]; rfl) rfl ?_) | ((with_reducible refine chk_r ?_); refine r_callP (by simp only [CA, Nat.reduceEqDiff, ↓reduceIte]; rfl) (by simp only [CA, Nat.reduceEqDiff, ↓reduceIte]; rfl) (by first | exact q75 _ | exact q76 _) rfl ?_) | ((with_reducible refine chk_h ?_); refine hr_callP (by simp only [CA, Nat.reduceEqDiff, ↓reduceIte]; rfl) (by simp only [CA, Nat.reduceEqDiff, ↓reduceIte]; rfl) (by first | exact q75 _ | exact q76 _) rfl ?_) | ((with_reducible refine chk_h ?_); refine hr_callP1 (by simp only [CA, Nat.reduceEqDiff, ↓reduceIte]; rfl) (by simp only [CA, Nat.reduceEqDiff, ↓reduceIte]; rfl) (by simp (disch := omega) only [CA, Nat.reduceEqDiff, ↓reduceIte, firstTok_nil, firstTok_sl, firstTok_sl0, firstTok_i, firstTok_b, firstTok_ag, firstTok_p, firstTok_s]; rfl) (by first | exact q75 _ | exact q76 _) rfl ?_) | ((with_reducible refine chk_h ?_); refine hr_app (by simp (disch := omega) only [klt', g, ft, kk, kl, RG34, EVA, plug, ite_same, decide_true, decide_false, eq_self, ↓reduceIte, reduceCtorEq, Nat.reduceAdd, Nat.reduceEqDiff, Nat.reduceLT, Nat.reduceLeDiff, Nat.reduceMul, Nat.reduceSub, Nat.reduceDiv, Int.reduceToNat, Int.reduceAdd, Int.reduceSub, Int.reduceMul, Int.reduceNeg, Int.reduceEq, Int.reduceLT, Int.reduceLE]; with_reducible rfl) rfl ?_) | (with_reducible refine k_condP (by simp only [GA, Nat.reduceEqDiff, ↓reduceIte]; rfl) (by first | (simp only [BO]; rfl) | rfl) (fun ht => ?_) (fun ht => ?_) <;> try (first | exact False.elim ht | exact absurd rfl ht | exact absurd trivial ht | exact Bool.noConfusion ht)) | (with_reducible refine k_ret ?_; repeat with_reducible (first | refine ret_thru ?_ | refine ret_blk ?_ | refine fin ?_)) | (with_reducible refine k_exit ?_; repeat with_reducible (first | refine thru ?_ | refine out_blk ?_ | refine pass (by decide) ?_)) | ((first | refine post1 ?_ | refine post2 ?_ | refine post3 ?_); simp only [GA, Nat.reduceEqDiff, ↓reduceIte]) | (refine postc (by simp only [GA, Nat.reduceEqDiff, ↓reduceIte]; rfl) (by simp (disch := omega) only [klt', g, ft, kk, kl, RG34, EVA, plug, ite_same, decide_true, decide_false, eq_self, ↓reduceIte, reduceCtorEq, Nat.reduceAdd, Nat.reduceEqDiff, Nat.reduceLT, Nat.reduceLeDiff, Nat.reduceMul, Nat.reduceSub, Nat.reduceDiv, Int.reduceToNat, Int.reduceAdd, Int.reduceSub, Int.reduceMul, Int.reduceNeg, Int.reduceEq, Int.reduceLT, Int.reduceLE]; rfl) ?_) | refine post0 ?_
        all_goals first | exact ends_of | exact ends_eq rfl
      | false =>
        have hv2 : vbk l (k + 1) := by
          refine ⟨fun i hi => ?_, fun i j hi hj => ?_⟩
          · by_cases z : i = k
            · subst z; exact ve
            · exact hv.1 i (by omega)
          · by_cases z : j = k
            · subst z; exact fun q => by have := fi_.2 ⟨i, hi, q⟩; cases this
            · exact hv.2 i j hi (by omega)
        generalize eD l k = e at *
        obtain ⟨e1, e2, e3, e4⟩ := e
        simp only [eE] at *
        repeat' first | with_reducible refine k_seq ?_ | with_reducible refine k_skip ?_ | with_reducible refine k_blkS ?_ | with_reducible refine k_blkR ?_ | with_reducible refine k_blkC ?_ | with_reducible refine k_blkH ?_ | with_reducible refine k_blkB ?_ | with_reducible refine k_blkK ?_ | with_reducible refine k_blkE ?_ | with_reducible refine k_reg ?_ | with_reducible refine k_head (by with_unfolding_all rfl) ?_ | with_reducible refine k_headS ?_ | (with_reducible refine SepK.mk ?_ ?_; (refine sepQ_P ?_; simp [sepQ, sepG, AOp.late, AOp.free, AOp.xs, AOp.isAl, tokNe, AV.tok, stS_get, strip, AX.val, RG34, GA]; try omega)) | with_reducible refine r_done ?_ | with_reducible refine hr_done ?_ | with_reducible refine s_go (by simp (disch := omega) only [klt', g, ft, kk, kl, RG34, EVA, plug, ite_same, decide_true, decide_false, eq_self, ↓reduceIte, reduceCtorEq, Nat.reduceAdd, Nat.reduceEqDiff, Nat.reduceLT, Nat.reduceLeDiff, Nat.reduceMul, Nat.reduceSub, Nat.reduceDiv, Int.reduceToNat, Int.reduceAdd, Int.reduceSub, Int.reduceMul, Int.reduceNeg, Int.reduceEq, Int.reduceLT, Int.reduceLE]; with_reducible rfl) ?_ | with_reducible refine h_go (by with_unfolding_all rfl) (by simp (disch := omega) only [klt', g, ft, kk, kl, RG34, EVA, plug, ite_same, decide_true, decide_false, eq_self, ↓reduceIte, reduceCtorEq, Nat.reduceAdd, Nat.reduceEqDiff, Nat.reduceLT, Nat.reduceLeDiff, Nat.reduceMul, Nat.reduceSub, Nat.reduceDiv, Int.reduceToNat, Int.reduceAdd, Int.reduceSub, Int.reduceMul, Int.reduceNeg, Int.reduceEq, Int.reduceLT, Int.reduceLE]; with_reducible rfl) ?_ | ((with_reducible refine chk_r ?_); refine r_callF (by simp only [CA, Nat.reduceEqDiff, ↓reduceIte]; rfl) (by exact rfl) (by simp only [CA, Nat.reduceEqDiff, ↓reduceIte]; rfl) rfl ?_) | ((with_reducible refine chk_h ?_); refine hr_callF (by simp only [CA, Nat.reduceEqDiff, ↓reduceIte]; rfl) (by exact rfl) (by simp only [CA, Nat.reduceEqDiff, ↓reduceIte]; rfl) rfl ?_) | ((with_reducible refine chk_r ?_); refine r_callP (by simp only [CA, Nat.reduceEqDiff, ↓reduceIte]; rfl) (by simp only [CA, Nat.reduceEqDiff, ↓reduceIte]; rfl) (by first | exact q75 _ | exact q76 _) rfl ?_) | ((with_reducible refine chk_h ?_); refine hr_callP (by simp only [CA, Nat.reduceEqDiff, ↓reduceIte]; rfl) (by simp only [CA, Nat.reduceEqDiff, ↓reduceIte]; rfl) (by first | exact q75 _ | exact q76 _) rfl ?_) | ((with_reducible refine chk_h ?_); refine hr_callP1 (by simp only [CA, Nat.reduceEqDiff, ↓reduceIte]; rfl) (by simp only [CA, Nat.reduceEqDiff, ↓reduceIte]; rfl) (by simp (disch := omega) only [CA, Nat.reduceEqDiff, ↓reduceIte, firstTok_nil, firstTok_sl, firstTok_sl0, firstTok_i, firstTok_b, firstTok_ag, firstTok_p, firstTok_s]; rfl) (by first | exact q75 _ | exact q76 _) rfl ?_) | ((with_reducible refine chk_h ?_); refine hr_app (by simp (disch := omega) only [klt', g, ft, kk, kl, RG34, EVA, plug, ite_same, decide_true, decide_false, eq_self, ↓reduceIte, reduceCtorEq, Nat.reduceAdd, Nat.reduceEqDiff, Nat.reduceLT, Nat.reduceLeDiff, Nat.reduceMul, Nat.reduceSub, Nat.reduceDiv, Int.reduceToNat, Int.reduceAdd, Int.reduceSub, Int.reduceMul, Int.reduceNeg, Int.reduceEq, Int.reduceLT, Int.reduceLE]; with_reducible rfl) rfl ?_) | (with_reducible refine k_condP (by simp only [GA, Nat.reduceEqDiff, ↓reduceIte]; rfl) (by first | (simp only [BO]; rfl) | rfl) (fun ht => ?_) (fun ht => ?_) <;> try (first | exact False.elim ht | exact absurd rfl ht | exact absurd trivial ht | exact Bool.noConfusion ht)) | (with_reducible refine k_ret ?_; repeat with_reducible (first | refine ret_thru ?_ | refine ret_blk ?_ | refine fin ?_)) | (with_reducible refine k_exit ?_; repeat with_reducible (first | refine thru ?_ | refine out_blk ?_ | refine pass (by decide) ?_)) | ((first | refine post1 ?_ | refine post2 ?_ | refine post3 ?_); simp only [GA, Nat.reduceEqDiff, ↓reduceIte]) | (refine postc (by simp only [GA, Nat.reduceEqDiff, ↓reduceIte]; rfl) (by simp (disch := omega) only [klt', g, ft, kk, kl, RG34, EVA, plug, ite_same, decide_true, decide_false, eq_self, ↓reduceIte, reduceCtorEq, Nat.reduceAdd, Nat.reduceEqDiff, Nat.reduceLT, Nat.reduceLeDiff, Nat.reduceMul, Nat.reduceSub, Nat.reduceDiv, Int.reduceToNat, Int.reduceAdd, Int.reduceSub, Int.reduceMul, Int.reduceNeg, Int.reduceEq, Int.reduceLT, Int.reduceLE]; rfl) ?_) | refine post0 ?_
        exact ⟨klt, (), (by simp only [Am.keep, List.map_cons, List.map_nil, GA, Nat.reduceEqDiff, ↓reduceIte]; try rfl), hv2⟩
  · obtain rfl : k = l.length := by omega
    have klt' : ¬ (l.length : Int) < l.length := by omega
    by_cases c : (l.length : Int) ≤ 200
    · rw [vb_t ⟨by omega, hv⟩]
      repeat' first | with_reducible refine k_seq ?_ | with_reducible refine k_skip ?_ | with_reducible refine k_blkS ?_ | with_reducible refine k_blkR ?_ | with_reducible refine k_blkC ?_ | with_reducible refine k_blkH ?_ | with_reducible refine k_blkB ?_ | with_reducible refine k_blkK ?_ | with_reducible refine k_blkE ?_ | with_reducible refine k_reg ?_ | with_reducible refine k_head (by with_unfolding_all rfl) ?_ | with_reducible refine k_headS ?_ | (with_reducible refine SepK.mk ?_ ?_; (refine sepQ_P ?_; simp [sepQ, sepG, AOp.late, AOp.free, AOp.xs, AOp.isAl, tokNe, AV.tok, stS_get, strip, AX.val, RG34, GA]; try omega)) | with_reducible refine r_done ?_ | with_reducible refine hr_done ?_ | with_reducible refine s_go (by simp (disch := omega) only [klt', c, RG34, EVA, plug, ite_same, decide_true, decide_false, eq_self, ↓reduceIte, reduceCtorEq, Nat.reduceAdd, Nat.reduceEqDiff, Nat.reduceLT, Nat.reduceLeDiff, Nat.reduceMul, Nat.reduceSub, Nat.reduceDiv, Int.reduceToNat, Int.reduceAdd, Int.reduceSub, Int.reduceMul, Int.reduceNeg, Int.reduceEq, Int.reduceLT, Int.reduceLE]; with_reducible rfl) ?_ | with_reducible refine h_go (by with_unfolding_all rfl) (by simp (disch := omega) only [klt', c, RG34, EVA, plug, ite_same, decide_true, decide_false, eq_self, ↓reduceIte, reduceCtorEq, Nat.reduceAdd, Nat.reduceEqDiff, Nat.reduceLT, Nat.reduceLeDiff, Nat.reduceMul, Nat.reduceSub, Nat.reduceDiv, Int.reduceToNat, Int.reduceAdd, Int.reduceSub, Int.reduceMul, Int.reduceNeg, Int.reduceEq, Int.reduceLT, Int.reduceLE]; with_reducible rfl) ?_ | ((with_reducible refine chk_r ?_); refine r_callF (by simp only [CA, Nat.reduceEqDiff, ↓reduceIte]; rfl) (by exact rfl) (by simp only [CA, Nat.reduceEqDiff, ↓reduceIte]; rfl) rfl ?_) | ((with_reducible refine chk_h ?_); refine hr_callF (by simp only [CA, Nat.reduceEqDiff, ↓reduceIte]; rfl) (by exact rfl) (by simp only [CA, Nat.reduceEqDiff, ↓reduceIte]; rfl) rfl ?_) | ((with_reducible refine chk_h ?_); refine hr_app (by simp (disch := omega) only [klt', c, RG34, EVA, plug, ite_same, decide_true, decide_false, eq_self, ↓reduceIte, reduceCtorEq, Nat.reduceAdd, Nat.reduceEqDiff, Nat.reduceLT, Nat.reduceLeDiff, Nat.reduceMul, Nat.reduceSub, Nat.reduceDiv, Int.reduceToNat, Int.reduceAdd, Int.reduceSub, Int.reduceMul, Int.reduceNeg, Int.reduceEq, Int.reduceLT, Int.reduceLE]; with_reducible rfl) rfl ?_) | (with_reducible refine k_condP (by simp only [GA, Nat.reduceEqDiff, ↓reduceIte]; rfl) (by first | (simp only [BO]; rfl) | rfl) (fun ht => ?_) (fun ht => ?_) <;> try (first | exact False.elim ht | exact absurd rfl ht | exact absurd trivial ht | exact Bool.noConfusion ht)) | (with_reducible refine k_ret ?_; repeat with_reducible (first | refine ret_thru ?_ | refine ret_blk ?_ | refine fin ?_)) | (with_reducible refine k_exit ?_; repeat with_reducible (first | refine thru ?_ | refine out_blk ?_ | refine pass (by decide) ?_)) | ((first | refine post1 ?_ | refine post2 ?_ | refine post3 ?_); simp only [GA, Nat.reduceEqDiff, ↓reduceIte]) | (refine postc (by simp only [GA, Nat.reduceEqDiff, ↓reduceIte]; rfl) (by simp (disch := omega) only [klt', c, RG34, EVA, plug, ite_same, decide_true, decide_false, eq_self, ↓reduceIte, reduceCtorEq, Nat.reduceAdd, Nat.reduceEqDiff, Nat.reduceLT, Nat.reduceLeDiff, Nat.reduceMul, Nat.reduceSub, Nat.reduceDiv, Int.reduceToNat, Int.reduceAdd, Int.reduceSub, Int.reduceMul, Int.reduceNeg, Int.reduceEq, Int.reduceLT, Int.reduceLE]; rfl) ?_) | refine post0 ?_
      all_goals first | exact ends_of | exact ends_eq rfl
    · rw [vb_f fun v => c (by have := v.1; omega)]
      repeat' first | with_reducible refine k_seq ?_ | with_reducible refine k_skip ?_ | with_reducible refine k_blkS ?_ | with_reducible refine k_blkR ?_ | with_reducible refine k_blkC ?_ | with_reducible refine k_blkH ?_ | with_reducible refine k_blkB ?_ | with_reducible refine k_blkK ?_ | with_reducible refine k_blkE ?_ | with_reducible refine k_reg ?_ | with_reducible refine k_head (by with_unfolding_all rfl) ?_ | with_reducible refine k_headS ?_ | (with_reducible refine SepK.mk ?_ ?_; (refine sepQ_P ?_; simp [sepQ, sepG, AOp.late, AOp.free, AOp.xs, AOp.isAl, tokNe, AV.tok, stS_get, strip, AX.val, RG34, GA]; try omega)) | with_reducible refine r_done ?_ | with_reducible refine hr_done ?_ | with_reducible refine s_go (by simp (disch := omega) only [klt', c, RG34, EVA, plug, ite_same, decide_true, decide_false, eq_self, ↓reduceIte, reduceCtorEq, Nat.reduceAdd, Nat.reduceEqDiff, Nat.reduceLT, Nat.reduceLeDiff, Nat.reduceMul, Nat.reduceSub, Nat.reduceDiv, Int.reduceToNat, Int.reduceAdd, Int.reduceSub, Int.reduceMul, Int.reduceNeg, Int.reduceEq, Int.reduceLT, Int.reduceLE]; with_reducible rfl) ?_ | with_reducible refine h_go (by with_unfolding_all rfl) (by simp (disch := omega) only [klt', c, RG34, EVA, plug, ite_same, decide_true, decide_false, eq_self, ↓reduceIte, reduceCtorEq, Nat.reduceAdd, Nat.reduceEqDiff, Nat.reduceLT, Nat.reduceLeDiff, Nat.reduceMul, Nat.reduceSub, Nat.reduceDiv, Int.reduceToNat, Int.reduceAdd, Int.reduceSub, Int.reduceMul, Int.reduceNeg, Int.reduceEq, Int.reduceLT, Int.reduceLE]; with_reducible rfl) ?_ | ((with_reducible refine chk_r ?_); refine r_callF (by simp only [CA, Nat.reduceEqDiff, ↓reduceIte]; rfl) (by exact rfl) (by simp only [CA, Nat.reduceEqDiff, ↓reduceIte]; rfl) rfl ?_) | ((with_reducible refine chk_h ?_); refine hr_callF (by simp only [CA, Nat.reduceEqDiff, ↓reduceIte]; rfl) (by exact rfl) (by simp only [CA, Nat.reduceEqDiff, ↓reduceIte]; rfl) rfl ?_) | ((with_reducible refine chk_h ?_); refine hr_app (by simp (disch := omega) only [klt', c, RG34, EVA, plug, ite_same, decide_true, decide_false, eq_self, ↓reduceIte, reduceCtorEq, Nat.reduceAdd, Nat.reduceEqDiff, Nat.reduceLT, Nat.reduceLeDiff, Nat.reduceMul, Nat.reduceSub, Nat.reduceDiv, Int.reduceToNat, Int.reduceAdd, Int.reduceSub, Int.reduceMul, Int.reduceNeg, Int.reduceEq, Int.reduceLT, Int.reduceLE]; with_reducible rfl) rfl ?_) | (with_reducible refine k_condP (by simp only [GA, Nat.reduceEqDiff, ↓reduceIte]; rfl) (by first | (simp only [BO]; rfl) | rfl) (fun ht => ?_) (fun ht => ?_) <;> try (first | exact False.elim ht | exact absurd rfl ht | exact absurd trivial ht | exact Bool.noConfusion ht)) | (with_reducible refine k_ret ?_; repeat with_reducible (first | refine ret_thru ?_ | refine ret_blk ?_ | refine fin ?_)) | (with_reducible refine k_exit ?_; repeat with_reducible (first | refine thru ?_ | refine out_blk ?_ | refine pass (by decide) ?_)) | ((first | refine post1 ?_ | refine post2 ?_ | refine post3 ?_); simp only [GA, Nat.reduceEqDiff, ↓reduceIte]) | (refine postc (by simp only [GA, Nat.reduceEqDiff, ↓reduceIte]; rfl) (by simp (disch := omega) only [klt', c, RG34, EVA, plug, ite_same, decide_true, decide_false, eq_self, ↓reduceIte, reduceCtorEq, Nat.reduceAdd, Nat.reduceEqDiff, Nat.reduceLT, Nat.reduceLeDiff, Nat.reduceMul, Nat.reduceSub, Nat.reduceDiv, Int.reduceToNat, Int.reduceAdd, Int.reduceSub, Int.reduceMul, Int.reduceNeg, Int.reduceEq, Int.reduceLT, Int.reduceLE]; rfl) ?_) | refine post0 ?_
      all_goals first | exact ends_of | exact ends_eq rfl
end Go.Proofs.Ytfbhncddniofbaa
