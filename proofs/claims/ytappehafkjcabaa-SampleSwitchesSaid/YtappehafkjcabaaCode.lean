/- The functions of this seat as the abstract machine reads them (written by a program; each equation is checked by the kernel). -/
import Derived.Test.YtappehafkjcabaaProg
import Derived.Test.YtappehafkjcabaaAmO
import Derived.KernelRfl
namespace Go.Proofs.Ytappehafkjcabaa
open Go Go.Am Go.Proofs
/-! 3: pantoscope/pantoscopelaw05.SampleChances · slots 45 · [0 p, 1 lot, 2 bad, 3 p, 4 lot, 5 bad, 7 a, 8 b, 9 e, 10 c, 11 d, 12 f] -/
def c3r0 : List AOper := [
  ⟨(some 3), none, .box (.t 0)⟩,
  ⟨(some 6), none, .mv (.c (.b false))⟩]
def c3r1 : List AOper := [
  ⟨(some 14), none, .ld (some 2) (.t 3)⟩,
  ⟨(some 15), none, .mv (.t 1)⟩,
  ⟨(some 16), none, .mv (.t 2)⟩,
  ⟨(some 17), none, .call (.c (.fn 14 [] [])) [(.t 14), (.t 15), (.t 16)]⟩,
  ⟨(some 13), none, .mv (.t 17)⟩,
  ⟨(some 18), none, .ext (.t 13) 0⟩,
  ⟨(some 19), none, .ext (.t 13) 1⟩,
  ⟨(some 20), none, .ext (.t 13) 2⟩,
  ⟨(some 7), none, .mv (.t 18)⟩,
  ⟨(some 8), none, .mv (.t 19)⟩,
  ⟨(some 9), none, .mv (.t 20)⟩]
def c3r2 : List AOper := [
  ⟨(some 22), none, .ld (some 2) (.t 3)⟩,
  ⟨(some 23), none, .mv (.t 1)⟩,
  ⟨(some 24), none, .mv (.t 2)⟩,
  ⟨(some 25), none, .call (.c (.fn 15 [] [])) [(.t 22), (.t 23), (.t 24)]⟩,
  ⟨(some 21), none, .mv (.t 25)⟩,
  ⟨(some 26), none, .ext (.t 21) 0⟩,
  ⟨(some 27), none, .ext (.t 21) 1⟩,
  ⟨(some 28), none, .ext (.t 21) 2⟩,
  ⟨(some 10), none, .mv (.t 26)⟩,
  ⟨(some 11), none, .mv (.t 27)⟩,
  ⟨(some 12), none, .mv (.t 28)⟩]
def c3r3 : List AOper := [
  ⟨(some 29), none, .mv (.t 7)⟩,
  ⟨(some 30), none, .mv (.t 10)⟩,
  ⟨(some 31), none, .bin false .eql (.t 29) (.t 30)⟩,
  ⟨(some 32), none, .mv (.t 31)⟩,
  ⟨(some 33), (some (32, true)), .mv (.t 8)⟩,
  ⟨(some 34), (some (32, true)), .mv (.t 11)⟩,
  ⟨(some 35), (some (32, true)), .bin false .eql (.t 33) (.t 34)⟩,
  ⟨(some 36), none, .pick (.t 32) (.t 35) (.c (.b false))⟩,
  ⟨(some 37), none, .mv (.t 36)⟩,
  ⟨(some 38), (some (37, true)), .mv (.t 9)⟩,
  ⟨(some 39), (some (37, true)), .mv (.t 12)⟩,
  ⟨(some 40), (some (37, true)), .bin false .eql (.t 38) (.t 39)⟩,
  ⟨(some 41), none, .pick (.t 37) (.t 40) (.c (.b false))⟩,
  ⟨(some 42), none, .mv (.t 41)⟩,
  ⟨(some 43), (some (42, true)), .call (.c (.fn 16 [] [])) []⟩,
  ⟨(some 44), none, .pick (.t 42) (.t 43) (.c (.b false))⟩,
  ⟨(some 6), none, .mv (.t 44)⟩]
abbrev c3 : AC := (.seq (.reg c3r0) (.seq (.reg c3r1) (.seq (.reg c3r2) (.seq (.reg c3r3) .ret))))
def q3 : List ARes := [.t 6]
theorem fn3 : fnOf Try.prog 3 = some (c3, q3, 45) := by kernel_rfl

/-! 4: pantoscope/pantoscopelaw05.SamplePlans · slots 48 · [0 p, 1 s, 2 bad, 3 p, 4 s, 5 bad, 7 x, 8 e, 9 y, 10 f] -/
def c4r0 : List AOper := [
  ⟨(some 3), none, .box (.t 0)⟩,
  ⟨(some 4), none, .box (.t 1)⟩,
  ⟨(some 6), none, .mv (.c (.b false))⟩]
def c4r1 : List AOper := [
  ⟨(some 12), none, .ld (some 2) (.t 3)⟩,
  ⟨(some 13), none, .mv (.t 2)⟩,
  ⟨(some 14), none, .call (.c (.fn 17 [] [])) [(.t 12), (.t 13)]⟩,
  ⟨(some 11), none, .mv (.t 14)⟩,
  ⟨(some 15), none, .ext (.t 11) 0⟩,
  ⟨(some 16), none, .ext (.t 11) 1⟩,
  ⟨(some 7), none, .mv (.t 15)⟩,
  ⟨(some 8), none, .mv (.t 16)⟩]
def c4r2 : List AOper := [
  ⟨(some 18), none, .ld (some 2) (.t 3)⟩,
  ⟨(some 19), none, .mv (.t 2)⟩,
  ⟨(some 20), none, .call (.c (.fn 18 [] [])) [(.t 18), (.t 19)]⟩,
  ⟨(some 17), none, .mv (.t 20)⟩,
  ⟨(some 21), none, .ext (.t 17) 0⟩,
  ⟨(some 22), none, .ext (.t 17) 1⟩,
  ⟨(some 9), none, .mv (.t 21)⟩,
  ⟨(some 10), none, .mv (.t 22)⟩]
def c4r3 : List AOper := [
  ⟨(some 23), none, .ld (some 2) (.t 3)⟩,
  ⟨(some 24), none, .call (.c (.fn 19 [] [])) [(.t 23)]⟩,
  ⟨(some 25), none, .ld (some 2) (.t 3)⟩,
  ⟨(some 26), none, .call (.c (.fn 20 [] [])) [(.t 25)]⟩,
  ⟨(some 27), none, .bin true .eql (.t 24) (.t 26)⟩,
  ⟨(some 28), none, .mv (.t 27)⟩,
  ⟨(some 29), (some (28, true)), .ld (some 6) (.t 4)⟩,
  ⟨(some 30), (some (28, true)), .call (.c (.fn 21 [] [])) [(.t 29)]⟩,
  ⟨(some 31), (some (28, true)), .ld (some 6) (.t 4)⟩,
  ⟨(some 32), (some (28, true)), .call (.c (.fn 22 [] [])) [(.t 31)]⟩,
  ⟨(some 33), (some (28, true)), .bin true .eql (.t 30) (.t 32)⟩,
  ⟨(some 34), none, .pick (.t 28) (.t 33) (.c (.b false))⟩,
  ⟨(some 35), none, .mv (.t 34)⟩,
  ⟨(some 36), (some (35, true)), .mv (.t 7)⟩,
  ⟨(some 37), (some (35, true)), .mv (.t 9)⟩,
  ⟨(some 38), (some (35, true)), .bin true .eql (.t 36) (.t 37)⟩,
  ⟨(some 39), none, .pick (.t 35) (.t 38) (.c (.b false))⟩,
  ⟨(some 40), none, .mv (.t 39)⟩,
  ⟨(some 41), (some (40, true)), .mv (.t 8)⟩,
  ⟨(some 42), (some (40, true)), .mv (.t 10)⟩,
  ⟨(some 43), (some (40, true)), .bin false .eql (.t 41) (.t 42)⟩,
  ⟨(some 44), none, .pick (.t 40) (.t 43) (.c (.b false))⟩,
  ⟨(some 45), none, .mv (.t 44)⟩,
  ⟨(some 46), (some (45, true)), .call (.c (.fn 16 [] [])) []⟩,
  ⟨(some 47), none, .pick (.t 45) (.t 46) (.c (.b false))⟩,
  ⟨(some 6), none, .mv (.t 47)⟩]
abbrev c4 : AC := (.seq (.reg c4r0) (.seq (.reg c4r1) (.seq (.reg c4r2) (.seq (.head 20 c4r3) .ret))))
def q4 : List ARes := [.t 6]
theorem fn4 : fnOf Try.prog 4 = some (c4, q4, 48) := by kernel_rfl

/-! 5: pantoscope/pantoscopelaw05.SampleWays · slots 62 · [0 n, 1 k, 2 lot, 3 bad, 4 size, 5 n, 6 k, 7 lot, 8 bad, 9 size, 11 a, 12 e, 13 b, 14 f, 15 l, 16 m] -/
def c5r0 : List AOper := [
  ⟨(some 10), none, .mv (.c (.b false))⟩]
def c5r1 : List AOper := [
  ⟨(some 18), none, .mv (.t 0)⟩,
  ⟨(some 19), none, .mv (.t 1)⟩,
  ⟨(some 20), none, .call (.c (.fn 23 [] [])) [(.t 18), (.t 19)]⟩,
  ⟨(some 17), none, .mv (.t 20)⟩,
  ⟨(some 21), none, .ext (.t 17) 0⟩,
  ⟨(some 22), none, .ext (.t 17) 1⟩,
  ⟨(some 11), none, .mv (.t 21)⟩,
  ⟨(some 12), none, .mv (.t 22)⟩]
def c5r2 : List AOper := [
  ⟨(some 24), none, .mv (.t 0)⟩,
  ⟨(some 25), none, .mv (.t 1)⟩,
  ⟨(some 26), none, .call (.c (.fn 24 [] [])) [(.t 24), (.t 25)]⟩,
  ⟨(some 23), none, .mv (.t 26)⟩,
  ⟨(some 27), none, .ext (.t 23) 0⟩,
  ⟨(some 28), none, .ext (.t 23) 1⟩,
  ⟨(some 13), none, .mv (.t 27)⟩,
  ⟨(some 14), none, .mv (.t 28)⟩]
def c5r3 : List AOper := [
  ⟨(some 29), none, .mv (.t 11)⟩,
  ⟨(some 30), none, .mv (.t 13)⟩,
  ⟨(some 31), none, .bin false .neq (.t 29) (.t 30)⟩,
  ⟨(some 32), none, .mv (.t 31)⟩,
  ⟨(some 33), (some (32, false)), .mv (.t 12)⟩,
  ⟨(some 34), (some (32, false)), .mv (.t 14)⟩,
  ⟨(some 35), (some (32, false)), .bin false .neq (.t 33) (.t 34)⟩,
  ⟨(some 36), none, .pick (.t 32) (.c (.b true)) (.t 35)⟩]
def c5r4 : List AOper := [
  ⟨(some 10), none, .mv (.c (.b false))⟩]
def c5r5 : List AOper := [
  ⟨(some 38), none, .mv (.t 2)⟩,
  ⟨(some 39), none, .mv (.t 3)⟩,
  ⟨(some 40), none, .mv (.t 4)⟩,
  ⟨(some 41), none, .call (.c (.fn 25 [] [])) [(.t 38), (.t 39), (.t 40)]⟩,
  ⟨(some 37), none, .mv (.t 41)⟩,
  ⟨(some 42), none, .ext (.t 37) 0⟩,
  ⟨(some 43), none, .ext (.t 37) 1⟩,
  ⟨(some 15), none, .mv (.t 42)⟩,
  ⟨(some 12), none, .mv (.t 43)⟩]
def c5r6 : List AOper := [
  ⟨(some 45), none, .mv (.t 2)⟩,
  ⟨(some 46), none, .mv (.t 3)⟩,
  ⟨(some 47), none, .mv (.t 4)⟩,
  ⟨(some 48), none, .call (.c (.fn 26 [] [])) [(.t 45), (.t 46), (.t 47)]⟩,
  ⟨(some 44), none, .mv (.t 48)⟩,
  ⟨(some 49), none, .ext (.t 44) 0⟩,
  ⟨(some 50), none, .ext (.t 44) 1⟩,
  ⟨(some 16), none, .mv (.t 49)⟩,
  ⟨(some 14), none, .mv (.t 50)⟩]
def c5r7 : List AOper := [
  ⟨(some 51), none, .mv (.t 15)⟩,
  ⟨(some 52), none, .mv (.t 16)⟩,
  ⟨(some 53), none, .call (.c (.fn 27 [] [])) [(.t 51), (.t 52)]⟩,
  ⟨(some 54), none, .mv (.t 53)⟩,
  ⟨(some 55), (some (54, true)), .mv (.t 12)⟩,
  ⟨(some 56), (some (54, true)), .mv (.t 14)⟩,
  ⟨(some 57), (some (54, true)), .bin false .eql (.t 55) (.t 56)⟩,
  ⟨(some 58), none, .pick (.t 54) (.t 57) (.c (.b false))⟩,
  ⟨(some 59), none, .mv (.t 58)⟩,
  ⟨(some 60), (some (59, true)), .call (.c (.fn 16 [] [])) []⟩,
  ⟨(some 61), none, .pick (.t 59) (.t 60) (.c (.b false))⟩,
  ⟨(some 10), none, .mv (.t 61)⟩]
abbrev c5 : AC := (.seq (.reg c5r0) (.seq (.reg c5r1) (.seq (.reg c5r2) (.seq (.seq (.reg c5r3) (.cond (.t 36) (.seq (.reg c5r4) .ret) .skip)) (.seq (.reg c5r5) (.seq (.reg c5r6) (.seq (.reg c5r7) .ret)))))))
def q5 : List ARes := [.t 10]
theorem fn5 : fnOf Try.prog 5 = some (c5, q5, 62) := by kernel_rfl

/-! 6: pantoscope/pantoscopelaw05.SampleAdds · slots 132 · [0 n, 1 k, 2 bad, 3 n, 4 k, 5 bad, 7 lot, 8 size, 9 b, 10 l, 11 e, 12 all, 13 f, 14 back, 15 g, 16 sum, 17 _, 18 x, 19 c, 20 d] -/
def c6r0 : List AOper := [
  ⟨(some 6), none, .mv (.c (.b false))⟩]
def c6r1 : List AOper := [
  ⟨(some 21), none, .mv (.t 0)⟩,
  ⟨(some 22), none, .bin false .rem (.t 21) (.c (.i .u8 61))⟩,
  ⟨(some 23), none, .conv .i64 (.t 22)⟩,
  ⟨(some 7), none, .mv (.t 23)⟩]
def c6r2 : List AOper := [
  ⟨(some 24), none, .mv (.t 1)⟩,
  ⟨(some 25), none, .conv .i64 (.t 24)⟩,
  ⟨(some 26), none, .mv (.t 7)⟩,
  ⟨(some 27), none, .bin false .add (.t 26) (.c (.i .i64 1))⟩,
  ⟨(some 28), none, .bin false .rem (.t 25) (.t 27)⟩,
  ⟨(some 29), none, .mv (.t 2)⟩,
  ⟨(some 30), none, .conv .i64 (.t 29)⟩,
  ⟨(some 31), none, .mv (.t 7)⟩,
  ⟨(some 32), none, .bin false .add (.t 31) (.c (.i .i64 1))⟩,
  ⟨(some 33), none, .bin false .rem (.t 30) (.t 32)⟩,
  ⟨(some 8), none, .mv (.t 28)⟩,
  ⟨(some 9), none, .mv (.t 33)⟩]
def c6r3 : List AOper := [
  ⟨(some 35), none, .mv (.t 7)⟩,
  ⟨(some 36), none, .mv (.t 9)⟩,
  ⟨(some 37), none, .mv (.t 8)⟩,
  ⟨(some 38), none, .call (.c (.fn 25 [] [])) [(.t 35), (.t 36), (.t 37)]⟩,
  ⟨(some 34), none, .mv (.t 38)⟩,
  ⟨(some 39), none, .ext (.t 34) 0⟩,
  ⟨(some 40), none, .ext (.t 34) 1⟩,
  ⟨(some 10), none, .mv (.t 39)⟩,
  ⟨(some 11), none, .mv (.t 40)⟩]
def c6r4 : List AOper := [
  ⟨(some 42), none, .mv (.t 7)⟩,
  ⟨(some 43), none, .mv (.t 8)⟩,
  ⟨(some 44), none, .call (.c (.fn 23 [] [])) [(.t 42), (.t 43)]⟩,
  ⟨(some 41), none, .mv (.t 44)⟩,
  ⟨(some 45), none, .ext (.t 41) 0⟩,
  ⟨(some 46), none, .ext (.t 41) 1⟩,
  ⟨(some 12), none, .mv (.t 45)⟩,
  ⟨(some 13), none, .mv (.t 46)⟩]
def c6r5 : List AOper := [
  ⟨(some 48), none, .mv (.t 7)⟩,
  ⟨(some 49), none, .mv (.t 7)⟩,
  ⟨(some 50), none, .mv (.t 8)⟩,
  ⟨(some 51), none, .bin false .sub (.t 49) (.t 50)⟩,
  ⟨(some 52), none, .call (.c (.fn 23 [] [])) [(.t 48), (.t 51)]⟩,
  ⟨(some 47), none, .mv (.t 52)⟩,
  ⟨(some 53), none, .ext (.t 47) 0⟩,
  ⟨(some 54), none, .ext (.t 47) 1⟩,
  ⟨(some 14), none, .mv (.t 53)⟩,
  ⟨(some 15), none, .mv (.t 54)⟩]
def c6r6 : List AOper := [
  ⟨(some 55), none, .mv (.t 11)⟩,
  ⟨(some 56), none, .bin false .neq (.t 55) (.c (.i .i64 0))⟩,
  ⟨(some 57), none, .mv (.t 56)⟩,
  ⟨(some 58), (some (57, false)), .mv (.t 13)⟩,
  ⟨(some 59), (some (57, false)), .bin false .neq (.t 58) (.c (.i .i64 0))⟩,
  ⟨(some 60), none, .pick (.t 57) (.c (.b true)) (.t 59)⟩,
  ⟨(some 61), none, .mv (.t 60)⟩,
  ⟨(some 62), (some (61, false)), .mv (.t 15)⟩,
  ⟨(some 63), (some (61, false)), .bin false .neq (.t 62) (.c (.i .i64 0))⟩,
  ⟨(some 64), none, .pick (.t 61) (.c (.b true)) (.t 63)⟩,
  ⟨(some 65), none, .mv (.t 64)⟩,
  ⟨(some 66), (some (65, false)), .mv (.t 10)⟩,
  ⟨(some 67), (some (65, false)), .len (.t 66)⟩,
  ⟨(some 68), (some (65, false)), .mv (.t 8)⟩,
  ⟨(some 69), (some (65, false)), .bin false .add (.t 68) (.c (.i .i64 1))⟩,
  ⟨(some 70), (some (65, false)), .bin false .neq (.t 67) (.t 69)⟩,
  ⟨(some 71), none, .pick (.t 65) (.c (.b true)) (.t 70)⟩,
  ⟨(some 72), none, .mv (.t 71)⟩,
  ⟨(some 73), (some (72, false)), .mv (.t 12)⟩,
  ⟨(some 74), (some (72, false)), .mv (.t 14)⟩,
  ⟨(some 75), (some (72, false)), .bin false .neq (.t 73) (.t 74)⟩,
  ⟨(some 76), none, .pick (.t 72) (.c (.b true)) (.t 75)⟩]
def c6r7 : List AOper := [
  ⟨(some 6), none, .mv (.c (.b false))⟩]
def c6r8 : List AOper := [
  ⟨(some 16), none, .mv (.c (.i .i64 0))⟩]
def c6r9 : List AOper := [
  ⟨(some 77), none, .mv (.t 10)⟩,
  ⟨(some 78), none, .len (.t 77)⟩,
  ⟨(some 79), none, .mv (.c (.i .i64 0))⟩]
def c6r10 : List AOper := [
  ⟨(some 80), none, .bin false .lss (.t 79) (.t 78)⟩]
def c6r11 : List AOper := [
  ⟨(some 81), none, .ia 1 (.t 77) (.t 79)⟩,
  ⟨(some 82), none, .ld none (.t 81)⟩,
  ⟨(some 18), none, .mv (.t 82)⟩]
def c6r12 : List AOper := [
  ⟨(some 83), none, .mv (.t 16)⟩,
  ⟨(some 84), none, .mv (.t 18)⟩,
  ⟨(some 85), none, .bin false .add (.t 83) (.t 84)⟩,
  ⟨(some 16), none, .mv (.t 85)⟩]
def c6r13 : List AOper := [
  ⟨(some 86), none, .bin false .add (.t 79) (.c (.i .i64 1))⟩,
  ⟨(some 79), none, .mv (.t 86)⟩]
abbrev c6b14 : AC := (.seq (.reg c6r10) (.seq (.cond (.t 80) .skip (.exit 0)) (.seq (.blk 1 (.seq (.reg c6r11) (.reg c6r12))) (.reg c6r13))))
def c6r15 : List AOper := [
  ⟨(some 87), none, .mv (.t 16)⟩,
  ⟨(some 88), none, .mv (.t 12)⟩,
  ⟨(some 89), none, .bin false .neq (.t 87) (.t 88)⟩]
def c6r16 : List AOper := [
  ⟨(some 6), none, .mv (.c (.b false))⟩]
def c6r17 : List AOper := [
  ⟨(some 90), none, .mv (.t 7)⟩,
  ⟨(some 91), none, .bin false .eql (.t 90) (.c (.i .i64 0))⟩,
  ⟨(some 92), none, .mv (.t 91)⟩,
  ⟨(some 93), (some (92, false)), .mv (.t 8)⟩,
  ⟨(some 94), (some (92, false)), .bin false .eql (.t 93) (.c (.i .i64 0))⟩,
  ⟨(some 95), none, .pick (.t 92) (.c (.b true)) (.t 94)⟩]
def c6r18 : List AOper := [
  ⟨(some 96), none, .mv (.t 12)⟩,
  ⟨(some 97), none, .bin false .eql (.t 96) (.c (.i .i64 1))⟩,
  ⟨(some 98), none, .mv (.t 97)⟩,
  ⟨(some 99), (some (98, true)), .call (.c (.fn 16 [] [])) []⟩,
  ⟨(some 100), none, .pick (.t 98) (.t 99) (.c (.b false))⟩,
  ⟨(some 6), none, .mv (.t 100)⟩]
def c6r19 : List AOper := [
  ⟨(some 102), none, .mv (.t 7)⟩,
  ⟨(some 103), none, .bin false .sub (.t 102) (.c (.i .i64 1))⟩,
  ⟨(some 104), none, .mv (.t 8)⟩,
  ⟨(some 105), none, .bin false .sub (.t 104) (.c (.i .i64 1))⟩,
  ⟨(some 106), none, .call (.c (.fn 23 [] [])) [(.t 103), (.t 105)]⟩,
  ⟨(some 101), none, .mv (.t 106)⟩,
  ⟨(some 107), none, .ext (.t 101) 0⟩,
  ⟨(some 108), none, .ext (.t 101) 1⟩,
  ⟨(some 19), none, .mv (.t 107)⟩,
  ⟨(some 11), none, .mv (.t 108)⟩]
def c6r20 : List AOper := [
  ⟨(some 110), none, .mv (.t 7)⟩,
  ⟨(some 111), none, .bin false .sub (.t 110) (.c (.i .i64 1))⟩,
  ⟨(some 112), none, .mv (.t 8)⟩,
  ⟨(some 113), none, .call (.c (.fn 23 [] [])) [(.t 111), (.t 112)]⟩,
  ⟨(some 109), none, .mv (.t 113)⟩,
  ⟨(some 114), none, .ext (.t 109) 0⟩,
  ⟨(some 115), none, .ext (.t 109) 1⟩,
  ⟨(some 20), none, .mv (.t 114)⟩,
  ⟨(some 13), none, .mv (.t 115)⟩]
def c6r21 : List AOper := [
  ⟨(some 116), none, .mv (.t 11)⟩,
  ⟨(some 117), none, .bin false .eql (.t 116) (.c (.i .i64 0))⟩,
  ⟨(some 118), none, .mv (.t 117)⟩,
  ⟨(some 119), (some (118, true)), .mv (.t 13)⟩,
  ⟨(some 120), (some (118, true)), .bin false .eql (.t 119) (.c (.i .i64 0))⟩,
  ⟨(some 121), none, .pick (.t 118) (.t 120) (.c (.b false))⟩,
  ⟨(some 122), none, .mv (.t 121)⟩,
  ⟨(some 123), (some (122, true)), .mv (.t 19)⟩,
  ⟨(some 124), (some (122, true)), .mv (.t 20)⟩,
  ⟨(some 125), (some (122, true)), .bin false .add (.t 123) (.t 124)⟩,
  ⟨(some 126), (some (122, true)), .mv (.t 12)⟩,
  ⟨(some 127), (some (122, true)), .bin false .eql (.t 125) (.t 126)⟩,
  ⟨(some 128), none, .pick (.t 122) (.t 127) (.c (.b false))⟩,
  ⟨(some 129), none, .mv (.t 128)⟩,
  ⟨(some 130), (some (129, true)), .call (.c (.fn 16 [] [])) []⟩,
  ⟨(some 131), none, .pick (.t 129) (.t 130) (.c (.b false))⟩,
  ⟨(some 6), none, .mv (.t 131)⟩]
abbrev c6 : AC := (.seq (.reg c6r0) (.seq (.reg c6r1) (.seq (.head 11 c6r2) (.seq (.reg c6r3) (.seq (.reg c6r4) (.seq (.reg c6r5) (.seq (.seq (.reg c6r6) (.cond (.t 76) (.seq (.reg c6r7) .ret) .skip)) (.seq (.reg c6r8) (.seq (.seq (.reg c6r9) (.blk 0 (.loop c6b14))) (.seq (.seq (.reg c6r15) (.cond (.t 89) (.seq (.reg c6r16) .ret) .skip)) (.seq (.seq (.reg c6r17) (.cond (.t 95) (.seq (.reg c6r18) .ret) .skip)) (.seq (.reg c6r19) (.seq (.reg c6r20) (.seq (.reg c6r21) .ret))))))))))))))
def q6 : List ARes := [.t 6]
theorem fn6 : fnOf Try.prog 6 = some (c6, q6, 132) := by kernel_rfl

/-! 7: pantoscope/pantoscopelaw05.SampleCounts · slots 32 · [0 pieces, 1 drawn, 2 pieces, 3 drawn, 5 n, 6 e, 7 m, 8 f] -/
def c7r0 : List AOper := [
  ⟨(some 4), none, .mv (.c (.b false))⟩]
def c7r1 : List AOper := [
  ⟨(some 10), none, .mv (.t 0)⟩,
  ⟨(some 11), none, .mv (.t 1)⟩,
  ⟨(some 12), none, .call (.c (.fn 28 [] [])) [(.t 10), (.t 11)]⟩,
  ⟨(some 9), none, .mv (.t 12)⟩,
  ⟨(some 13), none, .ext (.t 9) 0⟩,
  ⟨(some 14), none, .ext (.t 9) 1⟩,
  ⟨(some 5), none, .mv (.t 13)⟩,
  ⟨(some 6), none, .mv (.t 14)⟩]
def c7r2 : List AOper := [
  ⟨(some 16), none, .mv (.t 0)⟩,
  ⟨(some 17), none, .mv (.t 1)⟩,
  ⟨(some 18), none, .call (.c (.fn 29 [] [])) [(.t 16), (.t 17)]⟩,
  ⟨(some 15), none, .mv (.t 18)⟩,
  ⟨(some 19), none, .ext (.t 15) 0⟩,
  ⟨(some 20), none, .ext (.t 15) 1⟩,
  ⟨(some 7), none, .mv (.t 19)⟩,
  ⟨(some 8), none, .mv (.t 20)⟩]
def c7r3 : List AOper := [
  ⟨(some 21), none, .mv (.t 5)⟩,
  ⟨(some 22), none, .mv (.t 7)⟩,
  ⟨(some 23), none, .bin false .eql (.t 21) (.t 22)⟩,
  ⟨(some 24), none, .mv (.t 23)⟩,
  ⟨(some 25), (some (24, true)), .mv (.t 6)⟩,
  ⟨(some 26), (some (24, true)), .mv (.t 8)⟩,
  ⟨(some 27), (some (24, true)), .bin false .eql (.t 25) (.t 26)⟩,
  ⟨(some 28), none, .pick (.t 24) (.t 27) (.c (.b false))⟩,
  ⟨(some 29), none, .mv (.t 28)⟩,
  ⟨(some 30), (some (29, true)), .call (.c (.fn 16 [] [])) []⟩,
  ⟨(some 31), none, .pick (.t 29) (.t 30) (.c (.b false))⟩,
  ⟨(some 4), none, .mv (.t 31)⟩]
abbrev c7 : AC := (.seq (.reg c7r0) (.seq (.reg c7r1) (.seq (.reg c7r2) (.seq (.reg c7r3) .ret))))
def q7 : List ARes := [.t 4]
theorem fn7 : fnOf Try.prog 7 = some (c7, q7, 32) := by kernel_rfl

/-! 8: pantoscope/pantoscopelaw05.SampleFalls · slots 84 · [0 p, 1 lot, 2 bad, 3 p, 4 lot, 5 bad, 7 a, 8 b, 9 e, 10 q] -/
def c8r0 : List AOper := [
  ⟨(some 3), none, .box (.t 0)⟩,
  ⟨(some 6), none, .mv (.c (.b false))⟩]
def c8r1 : List AOper := [
  ⟨(some 12), none, .ld (some 2) (.t 3)⟩,
  ⟨(some 13), none, .mv (.t 1)⟩,
  ⟨(some 14), none, .mv (.t 2)⟩,
  ⟨(some 15), none, .call (.c (.fn 14 [] [])) [(.t 12), (.t 13), (.t 14)]⟩,
  ⟨(some 11), none, .mv (.t 15)⟩,
  ⟨(some 16), none, .ext (.t 11) 0⟩,
  ⟨(some 17), none, .ext (.t 11) 1⟩,
  ⟨(some 18), none, .ext (.t 11) 2⟩,
  ⟨(some 7), none, .mv (.t 16)⟩,
  ⟨(some 8), none, .mv (.t 17)⟩,
  ⟨(some 9), none, .mv (.t 18)⟩]
def c8r2 : List AOper := [
  ⟨(some 19), none, .mv (.t 9)⟩,
  ⟨(some 20), none, .bin false .neq (.t 19) (.c (.i .i64 0))⟩]
def c8r3 : List AOper := [
  ⟨(some 21), none, .mv (.t 7)⟩,
  ⟨(some 22), none, .bin false .eql (.t 21) (.c (.i .i64 0))⟩,
  ⟨(some 23), none, .mv (.t 22)⟩,
  ⟨(some 24), (some (23, true)), .mv (.t 8)⟩,
  ⟨(some 25), (some (23, true)), .bin false .eql (.t 24) (.c (.i .i64 0))⟩,
  ⟨(some 26), none, .pick (.t 23) (.t 25) (.c (.b false))⟩,
  ⟨(some 27), none, .mv (.t 26)⟩,
  ⟨(some 28), (some (27, true)), .call (.c (.fn 16 [] [])) []⟩,
  ⟨(some 29), none, .pick (.t 27) (.t 28) (.c (.b false))⟩,
  ⟨(some 6), none, .mv (.t 29)⟩]
def c8r4 : List AOper := [
  ⟨(some 30), none, .mv (.t 7)⟩,
  ⟨(some 31), none, .bin false .lss (.t 30) (.c (.i .i64 0))⟩,
  ⟨(some 32), none, .mv (.t 31)⟩,
  ⟨(some 33), (some (32, false)), .mv (.t 7)⟩,
  ⟨(some 34), (some (32, false)), .mv (.t 8)⟩,
  ⟨(some 35), (some (32, false)), .bin false .gtr (.t 33) (.t 34)⟩,
  ⟨(some 36), none, .pick (.t 32) (.c (.b true)) (.t 35)⟩,
  ⟨(some 37), none, .mv (.t 36)⟩,
  ⟨(some 38), (some (37, false)), .mv (.t 8)⟩,
  ⟨(some 39), (some (37, false)), .bin false .lss (.t 38) (.c (.i .i64 1))⟩,
  ⟨(some 40), none, .pick (.t 37) (.c (.b true)) (.t 39)⟩,
  ⟨(some 41), none, .mv (.t 40)⟩,
  ⟨(some 42), (some (41, false)), .mv (.t 2)⟩,
  ⟨(some 43), (some (41, false)), .fa (.t 3) 1⟩,
  ⟨(some 44), (some (41, false)), .ld none (.t 43)⟩,
  ⟨(some 45), (some (41, false)), .bin false .leq (.t 42) (.t 44)⟩,
  ⟨(some 46), (some (41, false)), .mv (.t 45)⟩,
  ⟨(some 47), (some (46, true)), .mv (.t 7)⟩,
  ⟨(some 48), (some (46, true)), .mv (.t 8)⟩,
  ⟨(some 49), (some (46, true)), .bin false .neq (.t 47) (.t 48)⟩,
  ⟨(some 50), (some (41, false)), .pick (.t 46) (.t 49) (.c (.b false))⟩,
  ⟨(some 51), none, .pick (.t 41) (.c (.b true)) (.t 50)⟩]
def c8r5 : List AOper := [
  ⟨(some 6), none, .mv (.c (.b false))⟩]
def c8r6 : List AOper := [
  ⟨(some 52), none, .mv (.t 2)⟩,
  ⟨(some 53), none, .mv (.t 1)⟩,
  ⟨(some 54), none, .bin false .lss (.t 52) (.t 53)⟩,
  ⟨(some 55), none, .mv (.t 54)⟩,
  ⟨(some 56), (some (55, true)), .ld (some 2) (.t 3)⟩,
  ⟨(some 57), (some (55, true)), .ld (some 2) (.t 3)⟩,
  ⟨(some 58), (some (55, true)), .mv (.t 1)⟩,
  ⟨(some 59), (some (55, true)), .mv (.t 2)⟩,
  ⟨(some 60), (some (55, true)), .bin false .add (.t 59) (.c (.i .i64 1))⟩,
  ⟨(some 61), (some (55, true)), .mv (.t 2)⟩,
  ⟨(some 62), (some (55, true)), .call (.c (.fn 30 [] [])) [(.t 56), (.t 57), (.t 58), (.t 60), (.t 61)]⟩,
  ⟨(some 63), (some (55, true)), .not (.t 62)⟩,
  ⟨(some 64), none, .pick (.t 55) (.t 63) (.c (.b false))⟩]
def c8r7 : List AOper := [
  ⟨(some 6), none, .mv (.c (.b false))⟩]
def c8r8 : List AOper := [
  ⟨(some 65), none, .ld (some 2) (.t 3)⟩,
  ⟨(some 10), none, .alloc [.i .i64 0, .i .i64 0]⟩,
  ⟨none, none, .sto (some 2) (.t 10) (.t 65)⟩]
def c8r9 : List AOper := [
  ⟨(some 66), none, .fa (.t 10) 1⟩,
  ⟨(some 67), none, .ld none (.t 66)⟩,
  ⟨(some 68), none, .bin false .add (.t 67) (.c (.i .i64 1))⟩,
  ⟨(some 69), none, .fa (.t 10) 1⟩,
  ⟨none, none, .sto none (.t 69) (.t 68)⟩]
def c8r10 : List AOper := [
  ⟨(some 70), none, .ld (some 2) (.t 10)⟩,
  ⟨(some 71), none, .call (.c (.fn 19 [] [])) [(.t 70)]⟩,
  ⟨(some 72), none, .not (.t 71)⟩,
  ⟨(some 73), none, .mv (.t 72)⟩,
  ⟨(some 74), (some (73, false)), .ld (some 2) (.t 3)⟩,
  ⟨(some 75), (some (73, false)), .ld (some 2) (.t 10)⟩,
  ⟨(some 76), (some (73, false)), .mv (.t 1)⟩,
  ⟨(some 77), (some (73, false)), .mv (.t 2)⟩,
  ⟨(some 78), (some (73, false)), .mv (.t 2)⟩,
  ⟨(some 79), (some (73, false)), .call (.c (.fn 30 [] [])) [(.t 74), (.t 75), (.t 76), (.t 77), (.t 78)]⟩,
  ⟨(some 80), none, .pick (.t 73) (.c (.b true)) (.t 79)⟩,
  ⟨(some 81), none, .mv (.t 80)⟩,
  ⟨(some 82), (some (81, true)), .call (.c (.fn 16 [] [])) []⟩,
  ⟨(some 83), none, .pick (.t 81) (.t 82) (.c (.b false))⟩,
  ⟨(some 6), none, .mv (.t 83)⟩]
abbrev c8 : AC := (.seq (.reg c8r0) (.seq (.reg c8r1) (.seq (.seq (.reg c8r2) (.cond (.t 20) (.seq (.reg c8r3) .ret) .skip)) (.seq (.seq (.reg c8r4) (.cond (.t 51) (.seq (.reg c8r5) .ret) .skip)) (.seq (.seq (.reg c8r6) (.cond (.t 64) (.seq (.reg c8r7) .ret) .skip)) (.seq (.reg c8r8) (.seq (.reg c8r9) (.seq (.reg c8r10) .ret))))))))
def q8 : List ARes := [.t 6]
theorem fn8 : fnOf Try.prog 8 = some (c8, q8, 84) := by kernel_rfl

/-! 9: pantoscope/pantoscopelaw05.SampleLeasts · slots 110 · [0 lot, 1 bad, 2 accept, 3 most, 4 lot, 5 bad, 6 accept, 7 most, 9 n, 10 e, 11 m, 12 f, 13 a, 14 b, 15 g, 16 c, 17 h] -/
def c9r0 : List AOper := [
  ⟨(some 7), none, .box (.t 3)⟩,
  ⟨(some 8), none, .mv (.c (.b false))⟩]
def c9r1 : List AOper := [
  ⟨(some 19), none, .mv (.t 0)⟩,
  ⟨(some 20), none, .mv (.t 1)⟩,
  ⟨(some 21), none, .mv (.t 2)⟩,
  ⟨(some 22), none, .ld (some 2) (.t 7)⟩,
  ⟨(some 23), none, .call (.c (.fn 31 [] [])) [(.t 19), (.t 20), (.t 21), (.t 22)]⟩,
  ⟨(some 18), none, .mv (.t 23)⟩,
  ⟨(some 24), none, .ext (.t 18) 0⟩,
  ⟨(some 25), none, .ext (.t 18) 1⟩,
  ⟨(some 9), none, .mv (.t 24)⟩,
  ⟨(some 10), none, .mv (.t 25)⟩]
def c9r2 : List AOper := [
  ⟨(some 27), none, .mv (.t 0)⟩,
  ⟨(some 28), none, .mv (.t 1)⟩,
  ⟨(some 29), none, .mv (.t 2)⟩,
  ⟨(some 30), none, .ld (some 2) (.t 7)⟩,
  ⟨(some 31), none, .call (.c (.fn 32 [] [])) [(.t 27), (.t 28), (.t 29), (.t 30)]⟩,
  ⟨(some 26), none, .mv (.t 31)⟩,
  ⟨(some 32), none, .ext (.t 26) 0⟩,
  ⟨(some 33), none, .ext (.t 26) 1⟩,
  ⟨(some 11), none, .mv (.t 32)⟩,
  ⟨(some 12), none, .mv (.t 33)⟩]
def c9r3 : List AOper := [
  ⟨(some 34), none, .mv (.t 9)⟩,
  ⟨(some 35), none, .mv (.t 11)⟩,
  ⟨(some 36), none, .bin false .neq (.t 34) (.t 35)⟩,
  ⟨(some 37), none, .mv (.t 36)⟩,
  ⟨(some 38), (some (37, false)), .mv (.t 10)⟩,
  ⟨(some 39), (some (37, false)), .mv (.t 12)⟩,
  ⟨(some 40), (some (37, false)), .bin false .neq (.t 38) (.t 39)⟩,
  ⟨(some 41), none, .pick (.t 37) (.c (.b true)) (.t 40)⟩]
def c9r4 : List AOper := [
  ⟨(some 8), none, .mv (.c (.b false))⟩]
def c9r5 : List AOper := [
  ⟨(some 42), none, .mv (.t 10)⟩,
  ⟨(some 43), none, .bin false .neq (.t 42) (.c (.i .i64 0))⟩]
def c9r6 : List AOper := [
  ⟨(some 44), none, .call (.c (.fn 16 [] [])) []⟩,
  ⟨(some 8), none, .mv (.t 44)⟩]
def c9r7 : List AOper := [
  ⟨(some 46), none, .mv (.t 9)⟩,
  ⟨(some 47), none, .mv (.t 2)⟩,
  ⟨(some 48), none, .bld [.i .i64 0, .i .i64 0] [(0, 1, (.t 46)), (1, 1, (.t 47))]⟩,
  ⟨(some 49), none, .mv (.t 0)⟩,
  ⟨(some 50), none, .mv (.t 1)⟩,
  ⟨(some 51), none, .call (.c (.fn 14 [] [])) [(.t 48), (.t 49), (.t 50)]⟩,
  ⟨(some 45), none, .mv (.t 51)⟩,
  ⟨(some 52), none, .ext (.t 45) 0⟩,
  ⟨(some 53), none, .ext (.t 45) 1⟩,
  ⟨(some 54), none, .ext (.t 45) 2⟩,
  ⟨(some 13), none, .mv (.t 52)⟩,
  ⟨(some 14), none, .mv (.t 53)⟩,
  ⟨(some 15), none, .mv (.t 54)⟩]
def c9r8 : List AOper := [
  ⟨(some 56), none, .mv (.t 13)⟩,
  ⟨(some 57), none, .mv (.t 14)⟩,
  ⟨(some 58), none, .bld [.i .i64 0, .i .i64 0] [(0, 1, (.t 56)), (1, 1, (.t 57))]⟩,
  ⟨(some 59), none, .ld (some 2) (.t 7)⟩,
  ⟨(some 60), none, .call (.c (.fn 33 [] [])) [(.t 58), (.t 59)]⟩,
  ⟨(some 55), none, .mv (.t 60)⟩,
  ⟨(some 61), none, .ext (.t 55) 0⟩,
  ⟨(some 62), none, .ext (.t 55) 1⟩,
  ⟨(some 16), none, .mv (.t 61)⟩,
  ⟨(some 17), none, .mv (.t 62)⟩]
def c9r9 : List AOper := [
  ⟨(some 63), none, .mv (.t 15)⟩,
  ⟨(some 64), none, .bin false .neq (.t 63) (.c (.i .i64 0))⟩,
  ⟨(some 65), none, .mv (.t 64)⟩,
  ⟨(some 66), (some (65, false)), .mv (.t 17)⟩,
  ⟨(some 67), (some (65, false)), .bin false .neq (.t 66) (.c (.i .i64 0))⟩,
  ⟨(some 68), none, .pick (.t 65) (.c (.b true)) (.t 67)⟩,
  ⟨(some 69), none, .mv (.t 68)⟩,
  ⟨(some 70), (some (69, false)), .mv (.t 16)⟩,
  ⟨(some 71), (some (69, false)), .bin false .gtr (.t 70) (.c (.i .i64 0))⟩,
  ⟨(some 72), none, .pick (.t 69) (.c (.b true)) (.t 71)⟩]
def c9r10 : List AOper := [
  ⟨(some 8), none, .mv (.c (.b false))⟩]
def c9r11 : List AOper := [
  ⟨(some 74), none, .mv (.t 9)⟩,
  ⟨(some 75), none, .bin false .sub (.t 74) (.c (.i .i64 1))⟩,
  ⟨(some 76), none, .mv (.t 2)⟩,
  ⟨(some 77), none, .bld [.i .i64 0, .i .i64 0] [(0, 1, (.t 75)), (1, 1, (.t 76))]⟩,
  ⟨(some 78), none, .mv (.t 0)⟩,
  ⟨(some 79), none, .mv (.t 1)⟩,
  ⟨(some 80), none, .call (.c (.fn 14 [] [])) [(.t 77), (.t 78), (.t 79)]⟩,
  ⟨(some 73), none, .mv (.t 80)⟩,
  ⟨(some 81), none, .ext (.t 73) 0⟩,
  ⟨(some 82), none, .ext (.t 73) 1⟩,
  ⟨(some 83), none, .ext (.t 73) 2⟩,
  ⟨(some 13), none, .mv (.t 81)⟩,
  ⟨(some 14), none, .mv (.t 82)⟩,
  ⟨(some 15), none, .mv (.t 83)⟩]
def c9r12 : List AOper := [
  ⟨(some 84), none, .mv (.t 15)⟩,
  ⟨(some 85), none, .bin false .neq (.t 84) (.c (.i .i64 0))⟩]
def c9r13 : List AOper := [
  ⟨(some 86), none, .mv (.t 9)⟩,
  ⟨(some 87), none, .mv (.t 2)⟩,
  ⟨(some 88), none, .bin false .add (.t 87) (.c (.i .i64 1))⟩,
  ⟨(some 89), none, .bin false .eql (.t 86) (.t 88)⟩,
  ⟨(some 90), none, .mv (.t 89)⟩,
  ⟨(some 91), (some (90, true)), .call (.c (.fn 16 [] [])) []⟩,
  ⟨(some 92), none, .pick (.t 90) (.t 91) (.c (.b false))⟩,
  ⟨(some 8), none, .mv (.t 92)⟩]
def c9r14 : List AOper := [
  ⟨(some 94), none, .mv (.t 13)⟩,
  ⟨(some 95), none, .mv (.t 14)⟩,
  ⟨(some 96), none, .bld [.i .i64 0, .i .i64 0] [(0, 1, (.t 94)), (1, 1, (.t 95))]⟩,
  ⟨(some 97), none, .ld (some 2) (.t 7)⟩,
  ⟨(some 98), none, .call (.c (.fn 33 [] [])) [(.t 96), (.t 97)]⟩,
  ⟨(some 93), none, .mv (.t 98)⟩,
  ⟨(some 99), none, .ext (.t 93) 0⟩,
  ⟨(some 100), none, .ext (.t 93) 1⟩,
  ⟨(some 16), none, .mv (.t 99)⟩,
  ⟨(some 17), none, .mv (.t 100)⟩]
def c9r15 : List AOper := [
  ⟨(some 101), none, .mv (.t 17)⟩,
  ⟨(some 102), none, .bin false .eql (.t 101) (.c (.i .i64 0))⟩,
  ⟨(some 103), none, .mv (.t 102)⟩,
  ⟨(some 104), (some (103, true)), .mv (.t 16)⟩,
  ⟨(some 105), (some (103, true)), .bin false .gtr (.t 104) (.c (.i .i64 0))⟩,
  ⟨(some 106), none, .pick (.t 103) (.t 105) (.c (.b false))⟩,
  ⟨(some 107), none, .mv (.t 106)⟩,
  ⟨(some 108), (some (107, true)), .call (.c (.fn 16 [] [])) []⟩,
  ⟨(some 109), none, .pick (.t 107) (.t 108) (.c (.b false))⟩,
  ⟨(some 8), none, .mv (.t 109)⟩]
abbrev c9 : AC := (.seq (.reg c9r0) (.seq (.reg c9r1) (.seq (.reg c9r2) (.seq (.seq (.reg c9r3) (.cond (.t 41) (.seq (.reg c9r4) .ret) .skip)) (.seq (.seq (.reg c9r5) (.cond (.t 43) (.seq (.reg c9r6) .ret) .skip)) (.seq (.reg c9r7) (.seq (.reg c9r8) (.seq (.seq (.reg c9r9) (.cond (.t 72) (.seq (.reg c9r10) .ret) .skip)) (.seq (.reg c9r11) (.seq (.seq (.reg c9r12) (.cond (.t 85) (.seq (.reg c9r13) .ret) .skip)) (.seq (.reg c9r14) (.seq (.reg c9r15) .ret))))))))))))
def q9 : List ARes := [.t 8]
theorem fn9 : fnOf Try.prog 9 = some (c9, q9, 110) := by kernel_rfl

/-! 10: pantoscope/pantoscopelaw05.SampleSwitches · slots 80 · [0 s, 1 found, 2 s, 3 found, 5 l, 6 state, 7 e, 8 good, 9 some, 10 i, 11 x, 12 next] -/
def c10r0 : List AOper := [
  ⟨(some 2), none, .box (.t 0)⟩,
  ⟨(some 4), none, .mv (.c (.b false))⟩]
def c10r1 : List AOper := [
  ⟨(some 14), none, .ld (some 6) (.t 2)⟩,
  ⟨(some 15), none, .mv (.t 1)⟩,
  ⟨(some 16), none, .call (.c (.fn 34 [] [])) [(.t 14), (.t 15)]⟩,
  ⟨(some 13), none, .mv (.t 16)⟩,
  ⟨(some 17), none, .ext (.t 13) 0⟩,
  ⟨(some 18), none, .ext (.t 13) 1⟩,
  ⟨(some 19), none, .ext (.t 13) 2⟩,
  ⟨(some 5), none, .mv (.t 17)⟩,
  ⟨(some 6), none, .mv (.t 18)⟩,
  ⟨(some 7), none, .mv (.t 19)⟩]
def c10r2 : List AOper := [
  ⟨(some 20), none, .mv (.t 7)⟩,
  ⟨(some 21), none, .bin false .neq (.t 20) (.c (.i .i64 0))⟩]
def c10r3 : List AOper := [
  ⟨(some 22), none, .call (.c (.fn 16 [] [])) []⟩,
  ⟨(some 4), none, .mv (.t 22)⟩]
def c10r4 : List AOper := [
  ⟨(some 8), none, .mv (.c (.i .i64 0))⟩,
  ⟨(some 9), none, .mv (.c (.b false))⟩]
def c10r5 : List AOper := [
  ⟨(some 23), none, .mv (.t 5)⟩,
  ⟨(some 24), none, .len (.t 23)⟩,
  ⟨(some 25), none, .mv (.c (.i .i64 0))⟩]
def c10r6 : List AOper := [
  ⟨(some 26), none, .bin false .lss (.t 25) (.t 24)⟩]
def c10r7 : List AOper := [
  ⟨(some 27), none, .mv (.t 25)⟩,
  ⟨(some 28), none, .ia 2 (.t 23) (.t 25)⟩,
  ⟨(some 29), none, .ld (some 2) (.t 28)⟩,
  ⟨(some 11), none, .alloc [.i .i64 0, .b false]⟩,
  ⟨(some 10), none, .mv (.t 27)⟩,
  ⟨none, none, .sto (some 2) (.t 11) (.t 29)⟩]
def c10r8 : List AOper := [
  ⟨(some 30), none, .mv (.t 6)⟩,
  ⟨(some 12), none, .mv (.t 30)⟩]
def c10r9 : List AOper := [
  ⟨(some 31), none, .mv (.t 10)⟩,
  ⟨(some 32), none, .bin false .add (.t 31) (.c (.i .i64 1))⟩,
  ⟨(some 33), none, .mv (.t 5)⟩,
  ⟨(some 34), none, .len (.t 33)⟩,
  ⟨(some 35), none, .bin false .lss (.t 32) (.t 34)⟩]
def c10r10 : List AOper := [
  ⟨(some 36), none, .mv (.t 5)⟩,
  ⟨(some 37), none, .mv (.t 10)⟩,
  ⟨(some 38), none, .bin false .add (.t 37) (.c (.i .i64 1))⟩,
  ⟨(some 39), none, .ia 2 (.t 36) (.t 38)⟩,
  ⟨(some 40), none, .fa (.t 39) 0⟩,
  ⟨(some 41), none, .ld none (.t 40)⟩,
  ⟨(some 12), none, .mv (.t 41)⟩]
def c10r11 : List AOper := [
  ⟨(some 42), none, .fa (.t 11) 0⟩,
  ⟨(some 43), none, .ld none (.t 42)⟩,
  ⟨(some 44), none, .bin false .eql (.t 43) (.c (.i .i64 1))⟩,
  ⟨(some 45), none, .mv (.t 44)⟩,
  ⟨(some 46), (some (45, true)), .fa (.t 11) 1⟩,
  ⟨(some 47), (some (45, true)), .ld none (.t 46)⟩,
  ⟨(some 48), none, .pick (.t 45) (.t 47) (.c (.b false))⟩,
  ⟨(some 49), none, .mv (.t 48)⟩,
  ⟨(some 50), (some (49, true)), .mv (.t 12)⟩,
  ⟨(some 51), (some (49, true)), .bin false .neq (.t 50) (.c (.i .i64 1))⟩,
  ⟨(some 52), none, .pick (.t 49) (.t 51) (.c (.b false))⟩,
  ⟨(some 53), none, .mv (.t 52)⟩,
  ⟨(some 54), (some (53, true)), .mv (.t 12)⟩,
  ⟨(some 55), (some (53, true)), .bin false .neq (.t 54) (.c (.i .i64 3))⟩,
  ⟨(some 56), none, .pick (.t 53) (.t 55) (.c (.b false))⟩]
def c10r12 : List AOper := [
  ⟨(some 4), none, .mv (.c (.b false))⟩]
def c10r13 : List AOper := [
  ⟨(some 57), none, .fa (.t 11) 1⟩,
  ⟨(some 58), none, .ld none (.t 57)⟩]
def c10r14 : List AOper := [
  ⟨(some 59), none, .mv (.t 8)⟩,
  ⟨(some 60), none, .bin false .add (.t 59) (.c (.i .i64 1))⟩,
  ⟨(some 8), none, .mv (.t 60)⟩]
def c10r15 : List AOper := [
  ⟨(some 61), none, .fa (.t 11) 0⟩,
  ⟨(some 62), none, .ld none (.t 61)⟩,
  ⟨(some 63), none, .bin false .eql (.t 62) (.c (.i .i64 3))⟩,
  ⟨(some 64), none, .mv (.t 63)⟩,
  ⟨(some 65), (some (64, true)), .fa (.t 11) 1⟩,
  ⟨(some 66), (some (64, true)), .ld none (.t 65)⟩,
  ⟨(some 67), (some (64, true)), .not (.t 66)⟩,
  ⟨(some 68), none, .pick (.t 64) (.t 67) (.c (.b false))⟩]
def c10r16 : List AOper := [
  ⟨(some 69), none, .mv (.t 12)⟩,
  ⟨(some 70), none, .bin false .neq (.t 69) (.c (.i .i64 1))⟩,
  ⟨(some 71), none, .mv (.t 70)⟩,
  ⟨(some 72), (some (71, false)), .mv (.t 9)⟩,
  ⟨(some 73), (some (71, false)), .mv (.t 72)⟩,
  ⟨(some 74), (some (73, true)), .mv (.t 8)⟩,
  ⟨(some 75), (some (73, true)), .bin false .lss (.t 74) (.c (.i .i64 10))⟩,
  ⟨(some 76), (some (71, false)), .pick (.t 73) (.t 75) (.c (.b false))⟩,
  ⟨(some 77), none, .pick (.t 71) (.c (.b true)) (.t 76)⟩]
def c10r17 : List AOper := [
  ⟨(some 4), none, .mv (.c (.b false))⟩]
def c10r18 : List AOper := [
  ⟨(some 8), none, .mv (.c (.i .i64 0))⟩,
  ⟨(some 9), none, .mv (.c (.b true))⟩]
def c10r19 : List AOper := [
  ⟨(some 78), none, .bin false .add (.t 25) (.c (.i .i64 1))⟩,
  ⟨(some 25), none, .mv (.t 78)⟩]
abbrev c10b20 : AC := (.seq (.reg c10r6) (.seq (.cond (.t 26) .skip (.exit 0)) (.seq (.blk 1 (.seq (.reg c10r7) (.seq (.reg c10r8) (.seq (.seq (.reg c10r9) (.cond (.t 35) (.reg c10r10) .skip)) (.seq (.seq (.reg c10r11) (.cond (.t 56) (.seq (.reg c10r12) .ret) .skip)) (.seq (.seq (.reg c10r13) (.cond (.t 58) (.reg c10r14) .skip)) (.seq (.reg c10r15) (.cond (.t 68) (.seq (.seq (.reg c10r16) (.cond (.t 77) (.seq (.reg c10r17) .ret) .skip)) (.reg c10r18)) .skip)))))))) (.reg c10r19))))
def c10r21 : List AOper := [
  ⟨(some 79), none, .call (.c (.fn 16 [] [])) []⟩,
  ⟨(some 4), none, .mv (.t 79)⟩]
abbrev c10 : AC := (.seq (.reg c10r0) (.seq (.reg c10r1) (.seq (.seq (.reg c10r2) (.cond (.t 21) (.seq (.reg c10r3) .ret) .skip)) (.seq (.reg c10r4) (.seq (.seq (.reg c10r5) (.blk 0 (.loop c10b20))) (.seq (.reg c10r21) .ret))))))
def q10 : List ARes := [.t 4]
theorem fn10 : fnOf Try.prog 10 = some (c10, q10, 80) := by kernel_rfl

/-! 11: pantoscope/pantoscopelaw05.SampleHistories · slots 59 · [0 s, 1 found, 2 s, 3 found, 5 a, 6 n, 7 e, 8 b, 9 m, 10 f, 11 x, 12 g] -/
def c11r0 : List AOper := [
  ⟨(some 2), none, .box (.t 0)⟩,
  ⟨(some 4), none, .mv (.c (.b false))⟩]
def c11r1 : List AOper := [
  ⟨(some 14), none, .ld (some 6) (.t 2)⟩,
  ⟨(some 15), none, .mv (.t 1)⟩,
  ⟨(some 16), none, .call (.c (.fn 34 [] [])) [(.t 14), (.t 15)]⟩,
  ⟨(some 13), none, .mv (.t 16)⟩,
  ⟨(some 17), none, .ext (.t 13) 0⟩,
  ⟨(some 18), none, .ext (.t 13) 1⟩,
  ⟨(some 19), none, .ext (.t 13) 2⟩,
  ⟨(some 5), none, .mv (.t 17)⟩,
  ⟨(some 6), none, .mv (.t 18)⟩,
  ⟨(some 7), none, .mv (.t 19)⟩]
def c11r2 : List AOper := [
  ⟨(some 21), none, .ld (some 6) (.t 2)⟩,
  ⟨(some 22), none, .mv (.t 1)⟩,
  ⟨(some 23), none, .call (.c (.fn 35 [] [])) [(.t 21), (.t 22)]⟩,
  ⟨(some 20), none, .mv (.t 23)⟩,
  ⟨(some 24), none, .ext (.t 20) 0⟩,
  ⟨(some 25), none, .ext (.t 20) 1⟩,
  ⟨(some 26), none, .ext (.t 20) 2⟩,
  ⟨(some 8), none, .mv (.t 24)⟩,
  ⟨(some 9), none, .mv (.t 25)⟩,
  ⟨(some 10), none, .mv (.t 26)⟩]
def c11r3 : List AOper := [
  ⟨(some 28), none, .ld (some 6) (.t 2)⟩,
  ⟨(some 29), none, .mv (.t 1)⟩,
  ⟨(some 30), none, .call (.c (.fn 36 [] [])) [(.t 28), (.t 29)]⟩,
  ⟨(some 27), none, .mv (.t 30)⟩,
  ⟨(some 31), none, .ext (.t 27) 0⟩,
  ⟨(some 32), none, .ext (.t 27) 1⟩,
  ⟨(some 11), none, .mv (.t 31)⟩,
  ⟨(some 12), none, .mv (.t 32)⟩]
def c11r4 : List AOper := [
  ⟨(some 33), none, .mv (.t 5)⟩,
  ⟨(some 34), none, .mv (.t 8)⟩,
  ⟨(some 35), none, .call (.c (.fn 37 [] [])) [(.t 33), (.t 34)]⟩,
  ⟨(some 36), none, .mv (.t 35)⟩,
  ⟨(some 37), (some (36, true)), .mv (.t 6)⟩,
  ⟨(some 38), (some (36, true)), .mv (.t 9)⟩,
  ⟨(some 39), (some (36, true)), .bin false .eql (.t 37) (.t 38)⟩,
  ⟨(some 40), none, .pick (.t 36) (.t 39) (.c (.b false))⟩,
  ⟨(some 41), none, .mv (.t 40)⟩,
  ⟨(some 42), (some (41, true)), .mv (.t 7)⟩,
  ⟨(some 43), (some (41, true)), .mv (.t 10)⟩,
  ⟨(some 44), (some (41, true)), .bin false .eql (.t 42) (.t 43)⟩,
  ⟨(some 45), none, .pick (.t 41) (.t 44) (.c (.b false))⟩,
  ⟨(some 46), none, .mv (.t 45)⟩,
  ⟨(some 47), (some (46, true)), .mv (.t 11)⟩,
  ⟨(some 48), (some (46, true)), .mv (.t 9)⟩,
  ⟨(some 49), (some (46, true)), .bin false .eql (.t 47) (.t 48)⟩,
  ⟨(some 50), none, .pick (.t 46) (.t 49) (.c (.b false))⟩,
  ⟨(some 51), none, .mv (.t 50)⟩,
  ⟨(some 52), (some (51, true)), .mv (.t 12)⟩,
  ⟨(some 53), (some (51, true)), .mv (.t 10)⟩,
  ⟨(some 54), (some (51, true)), .bin false .eql (.t 52) (.t 53)⟩,
  ⟨(some 55), none, .pick (.t 51) (.t 54) (.c (.b false))⟩,
  ⟨(some 56), none, .mv (.t 55)⟩,
  ⟨(some 57), (some (56, true)), .call (.c (.fn 16 [] [])) []⟩,
  ⟨(some 58), none, .pick (.t 56) (.t 57) (.c (.b false))⟩,
  ⟨(some 4), none, .mv (.t 58)⟩]
abbrev c11 : AC := (.seq (.reg c11r0) (.seq (.reg c11r1) (.seq (.reg c11r2) (.seq (.reg c11r3) (.seq (.reg c11r4) .ret)))))
def q11 : List ARes := [.t 4]
theorem fn11 : fnOf Try.prog 11 = some (c11, q11, 59) := by kernel_rfl

/-! 12: pantoscope/pantoscopelaw05.SampleParts · slots 119 · [0 s, 1 found, 2 k, 3 s, 4 found, 5 k, 7 a, 8 state, 9 e, 10 n, 11 b, 12 middle, 13 f, 14 _, 15 g] -/
def c12r0 : List AOper := [
  ⟨(some 3), none, .box (.t 0)⟩,
  ⟨(some 6), none, .mv (.c (.b false))⟩]
def c12r1 : List AOper := [
  ⟨(some 17), none, .ld (some 6) (.t 3)⟩,
  ⟨(some 18), none, .mv (.t 1)⟩,
  ⟨(some 19), none, .call (.c (.fn 34 [] [])) [(.t 17), (.t 18)]⟩,
  ⟨(some 16), none, .mv (.t 19)⟩,
  ⟨(some 20), none, .ext (.t 16) 0⟩,
  ⟨(some 21), none, .ext (.t 16) 1⟩,
  ⟨(some 22), none, .ext (.t 16) 2⟩,
  ⟨(some 7), none, .mv (.t 20)⟩,
  ⟨(some 8), none, .mv (.t 21)⟩,
  ⟨(some 9), none, .mv (.t 22)⟩]
def c12r2 : List AOper := [
  ⟨(some 23), none, .mv (.t 9)⟩,
  ⟨(some 24), none, .bin false .neq (.t 23) (.c (.i .i64 0))⟩]
def c12r3 : List AOper := [
  ⟨(some 25), none, .mv (.t 7)⟩,
  ⟨(some 26), none, .len (.t 25)⟩,
  ⟨(some 27), none, .bin false .eql (.t 26) (.c (.i .i64 0))⟩,
  ⟨(some 28), none, .mv (.t 27)⟩,
  ⟨(some 29), (some (28, true)), .mv (.t 8)⟩,
  ⟨(some 30), (some (28, true)), .bin false .eql (.t 29) (.c (.i .i64 0))⟩,
  ⟨(some 31), none, .pick (.t 28) (.t 30) (.c (.b false))⟩,
  ⟨(some 32), none, .mv (.t 31)⟩,
  ⟨(some 33), (some (32, true)), .call (.c (.fn 16 [] [])) []⟩,
  ⟨(some 34), none, .pick (.t 32) (.t 33) (.c (.b false))⟩,
  ⟨(some 6), none, .mv (.t 34)⟩]
def c12r4 : List AOper := [
  ⟨(some 35), none, .mv (.t 2)⟩,
  ⟨(some 36), none, .conv .i64 (.t 35)⟩,
  ⟨(some 37), none, .mv (.t 1)⟩,
  ⟨(some 38), none, .len (.t 37)⟩,
  ⟨(some 39), none, .bin false .add (.t 38) (.c (.i .i64 1))⟩,
  ⟨(some 40), none, .bin false .rem (.t 36) (.t 39)⟩,
  ⟨(some 10), none, .mv (.t 40)⟩]
def c12r5 : List AOper := [
  ⟨(some 42), none, .ld (some 6) (.t 3)⟩,
  ⟨(some 43), none, .bsl 1 [] []⟩,
  ⟨(some 44), none, .mv (.t 1)⟩,
  ⟨(some 45), none, .mv (.t 10)⟩,
  ⟨(some 46), none, .sli 1 (.t 44) none (some (.t 45))⟩,
  ⟨(some 47), none, .app 1 8 (.t 43) (.t 46)⟩,
  ⟨(some 48), none, .call (.c (.fn 34 [] [])) [(.t 42), (.t 47)]⟩,
  ⟨(some 41), none, .mv (.t 48)⟩,
  ⟨(some 49), none, .ext (.t 41) 0⟩,
  ⟨(some 50), none, .ext (.t 41) 1⟩,
  ⟨(some 51), none, .ext (.t 41) 2⟩,
  ⟨(some 11), none, .mv (.t 49)⟩,
  ⟨(some 12), none, .mv (.t 50)⟩,
  ⟨(some 13), none, .mv (.t 51)⟩]
def c12r6 : List AOper := [
  ⟨(some 52), none, .mv (.t 13)⟩,
  ⟨(some 53), none, .bin false .neq (.t 52) (.c (.i .i64 0))⟩,
  ⟨(some 54), none, .mv (.t 53)⟩,
  ⟨(some 55), (some (54, false)), .mv (.t 7)⟩,
  ⟨(some 56), (some (54, false)), .len (.t 55)⟩,
  ⟨(some 57), (some (54, false)), .mv (.t 1)⟩,
  ⟨(some 58), (some (54, false)), .len (.t 57)⟩,
  ⟨(some 59), (some (54, false)), .bin false .neq (.t 56) (.t 58)⟩,
  ⟨(some 60), none, .pick (.t 54) (.c (.b true)) (.t 59)⟩,
  ⟨(some 61), none, .mv (.t 60)⟩,
  ⟨(some 62), (some (61, false)), .mv (.t 11)⟩,
  ⟨(some 63), (some (61, false)), .len (.t 62)⟩,
  ⟨(some 64), (some (61, false)), .mv (.t 10)⟩,
  ⟨(some 65), (some (61, false)), .bin false .neq (.t 63) (.t 64)⟩,
  ⟨(some 66), none, .pick (.t 61) (.c (.b true)) (.t 65)⟩,
  ⟨(some 67), none, .mv (.t 66)⟩,
  ⟨(some 68), (some (67, false)), .mv (.t 7)⟩,
  ⟨(some 69), (some (67, false)), .mv (.t 10)⟩,
  ⟨(some 70), (some (67, false)), .sli 2 (.t 68) none (some (.t 69))⟩,
  ⟨(some 71), (some (67, false)), .mv (.t 11)⟩,
  ⟨(some 72), (some (67, false)), .call (.c (.fn 37 [] [])) [(.t 70), (.t 71)]⟩,
  ⟨(some 73), (some (67, false)), .not (.t 72)⟩,
  ⟨(some 74), none, .pick (.t 67) (.c (.b true)) (.t 73)⟩]
def c12r7 : List AOper := [
  ⟨(some 6), none, .mv (.c (.b false))⟩]
def c12r8 : List AOper := [
  ⟨(some 75), none, .mv (.t 10)⟩,
  ⟨(some 76), none, .mv (.t 7)⟩,
  ⟨(some 77), none, .len (.t 76)⟩,
  ⟨(some 78), none, .bin false .lss (.t 75) (.t 77)⟩,
  ⟨(some 79), none, .mv (.t 78)⟩,
  ⟨(some 80), (some (79, true)), .mv (.t 7)⟩,
  ⟨(some 81), (some (79, true)), .mv (.t 10)⟩,
  ⟨(some 82), (some (79, true)), .ia 2 (.t 80) (.t 81)⟩,
  ⟨(some 83), (some (79, true)), .fa (.t 82) 0⟩,
  ⟨(some 84), (some (79, true)), .ld none (.t 83)⟩,
  ⟨(some 85), (some (79, true)), .mv (.t 12)⟩,
  ⟨(some 86), (some (79, true)), .bin false .neq (.t 84) (.t 85)⟩,
  ⟨(some 87), none, .pick (.t 79) (.t 86) (.c (.b false))⟩,
  ⟨(some 88), none, .mv (.t 87)⟩,
  ⟨(some 89), (some (88, false)), .mv (.t 8)⟩,
  ⟨(some 90), (some (88, false)), .bin false .eql (.t 89) (.c (.i .i64 4))⟩,
  ⟨(some 91), (some (88, false)), .mv (.t 90)⟩,
  ⟨(some 92), (some (91, true)), .mv (.t 7)⟩,
  ⟨(some 93), (some (91, true)), .call (.c (.fn 38 [] [])) [(.t 92)]⟩,
  ⟨(some 94), (some (91, true)), .bin false .lss (.t 93) (.c (.i .i64 5))⟩,
  ⟨(some 95), (some (88, false)), .pick (.t 91) (.t 94) (.c (.b false))⟩,
  ⟨(some 96), none, .pick (.t 88) (.c (.b true)) (.t 95)⟩]
def c12r9 : List AOper := [
  ⟨(some 6), none, .mv (.c (.b false))⟩]
def c12r10 : List AOper := [
  ⟨(some 97), none, .mv (.t 1)⟩,
  ⟨(some 98), none, .len (.t 97)⟩,
  ⟨(some 99), none, .bin false .geq (.t 98) (.c (.i .i64 200))⟩]
def c12r11 : List AOper := [
  ⟨(some 100), none, .call (.c (.fn 16 [] [])) []⟩,
  ⟨(some 6), none, .mv (.t 100)⟩]
def c12r12 : List AOper := [
  ⟨(some 102), none, .ld (some 6) (.t 3)⟩,
  ⟨(some 103), none, .bsl 1 [] []⟩,
  ⟨(some 104), none, .mv (.t 1)⟩,
  ⟨(some 105), none, .app 1 8 (.t 103) (.t 104)⟩,
  ⟨(some 106), none, .bsl 1 [.i .i64 0] [(0, 1, (.c (.i .i64 0)))]⟩,
  ⟨(some 107), none, .app 1 8 (.t 105) (.t 106)⟩,
  ⟨(some 108), none, .call (.c (.fn 36 [] [])) [(.t 102), (.t 107)]⟩,
  ⟨(some 101), none, .mv (.t 108)⟩,
  ⟨(some 109), none, .ext (.t 101) 0⟩,
  ⟨(some 110), none, .ext (.t 101) 1⟩,
  ⟨(some 14), none, .mv (.t 109)⟩,
  ⟨(some 15), none, .mv (.t 110)⟩]
def c12r13 : List AOper := [
  ⟨(some 111), none, .mv (.t 8)⟩,
  ⟨(some 112), none, .bin false .eql (.t 111) (.c (.i .i64 4))⟩,
  ⟨(some 113), none, .mv (.t 15)⟩,
  ⟨(some 114), none, .bin false .eql (.t 113) (.c (.i .i64 51))⟩,
  ⟨(some 115), none, .bin true .eql (.t 112) (.t 114)⟩,
  ⟨(some 116), none, .mv (.t 115)⟩,
  ⟨(some 117), (some (116, true)), .call (.c (.fn 16 [] [])) []⟩,
  ⟨(some 118), none, .pick (.t 116) (.t 117) (.c (.b false))⟩,
  ⟨(some 6), none, .mv (.t 118)⟩]
abbrev c12 : AC := (.seq (.reg c12r0) (.seq (.reg c12r1) (.seq (.seq (.reg c12r2) (.cond (.t 24) (.seq (.reg c12r3) .ret) .skip)) (.seq (.reg c12r4) (.seq (.head 13 c12r5) (.seq (.seq (.reg c12r6) (.cond (.t 74) (.seq (.reg c12r7) .ret) .skip)) (.seq (.seq (.reg c12r8) (.cond (.t 96) (.seq (.reg c12r9) .ret) .skip)) (.seq (.seq (.reg c12r10) (.cond (.t 99) (.seq (.reg c12r11) .ret) .skip)) (.seq (.head 11 c12r12) (.seq (.reg c12r13) .ret))))))))))
def q12 : List ARes := [.t 6]
theorem fn12 : fnOf Try.prog 12 = some (c12, q12, 119) := by kernel_rfl

/-! 13: pantoscope/pantoscopelaw05.SampleRestarts · slots 45 · [0 s, 1 found, 2 more, 3 s, 4 found, 5 more, 7 a, 8 n, 9 e, 10 b, 11 m, 12 f] -/
def c13r0 : List AOper := [
  ⟨(some 3), none, .box (.t 0)⟩,
  ⟨(some 6), none, .mv (.c (.b false))⟩]
def c13r1 : List AOper := [
  ⟨(some 14), none, .ld (some 6) (.t 3)⟩,
  ⟨(some 15), none, .mv (.t 1)⟩,
  ⟨(some 16), none, .mv (.t 2)⟩,
  ⟨(some 17), none, .call (.c (.fn 39 [] [])) [(.t 14), (.t 15), (.t 16)]⟩,
  ⟨(some 13), none, .mv (.t 17)⟩,
  ⟨(some 18), none, .ext (.t 13) 0⟩,
  ⟨(some 19), none, .ext (.t 13) 1⟩,
  ⟨(some 20), none, .ext (.t 13) 2⟩,
  ⟨(some 7), none, .mv (.t 18)⟩,
  ⟨(some 8), none, .mv (.t 19)⟩,
  ⟨(some 9), none, .mv (.t 20)⟩]
def c13r2 : List AOper := [
  ⟨(some 22), none, .ld (some 6) (.t 3)⟩,
  ⟨(some 23), none, .mv (.t 1)⟩,
  ⟨(some 24), none, .mv (.t 2)⟩,
  ⟨(some 25), none, .call (.c (.fn 40 [] [])) [(.t 22), (.t 23), (.t 24)]⟩,
  ⟨(some 21), none, .mv (.t 25)⟩,
  ⟨(some 26), none, .ext (.t 21) 0⟩,
  ⟨(some 27), none, .ext (.t 21) 1⟩,
  ⟨(some 28), none, .ext (.t 21) 2⟩,
  ⟨(some 10), none, .mv (.t 26)⟩,
  ⟨(some 11), none, .mv (.t 27)⟩,
  ⟨(some 12), none, .mv (.t 28)⟩]
def c13r3 : List AOper := [
  ⟨(some 29), none, .mv (.t 7)⟩,
  ⟨(some 30), none, .mv (.t 10)⟩,
  ⟨(some 31), none, .call (.c (.fn 37 [] [])) [(.t 29), (.t 30)]⟩,
  ⟨(some 32), none, .mv (.t 31)⟩,
  ⟨(some 33), (some (32, true)), .mv (.t 8)⟩,
  ⟨(some 34), (some (32, true)), .mv (.t 11)⟩,
  ⟨(some 35), (some (32, true)), .bin false .eql (.t 33) (.t 34)⟩,
  ⟨(some 36), none, .pick (.t 32) (.t 35) (.c (.b false))⟩,
  ⟨(some 37), none, .mv (.t 36)⟩,
  ⟨(some 38), (some (37, true)), .mv (.t 9)⟩,
  ⟨(some 39), (some (37, true)), .mv (.t 12)⟩,
  ⟨(some 40), (some (37, true)), .bin false .eql (.t 38) (.t 39)⟩,
  ⟨(some 41), none, .pick (.t 37) (.t 40) (.c (.b false))⟩,
  ⟨(some 42), none, .mv (.t 41)⟩,
  ⟨(some 43), (some (42, true)), .call (.c (.fn 16 [] [])) []⟩,
  ⟨(some 44), none, .pick (.t 42) (.t 43) (.c (.b false))⟩,
  ⟨(some 6), none, .mv (.t 44)⟩]
abbrev c13 : AC := (.seq (.reg c13r0) (.seq (.reg c13r1) (.seq (.reg c13r2) (.seq (.reg c13r3) .ret))))
def q13 : List ARes := [.t 6]
theorem fn13 : fnOf Try.prog 13 = some (c13, q13, 45) := by kernel_rfl

/-! 14: pantoscope/sample.Chance · slots 40 · [0 p, 1 lot, 2 bad, 3 p, 4 lot, 5 bad, 6 num, 7 den, 8 err, 9 c] -/
def c14r0 : List AOper := [
  ⟨(some 3), none, .box (.t 0)⟩,
  ⟨(some 6), none, .mv (.c (.i .i64 0))⟩,
  ⟨(some 7), none, .mv (.c (.i .i64 0))⟩,
  ⟨(some 8), none, .mv (.c (.i .i64 0))⟩]
def c14r1 : List AOper := [
  ⟨(some 11), none, .ld (some 2) (.t 3)⟩,
  ⟨(some 12), none, .call (.c (.fn 19 [] [])) [(.t 11)]⟩,
  ⟨(some 13), none, .not (.t 12)⟩,
  ⟨(some 10), none, .mv (.t 13)⟩]
def c14r2 : List AOper := [
  ⟨(some 6), none, .mv (.c (.i .i64 0))⟩,
  ⟨(some 7), none, .mv (.c (.i .i64 0))⟩,
  ⟨(some 8), none, .mv (.c (.i .i64 50))⟩]
def c14r3 : List AOper := [
  ⟨(some 15), none, .mv (.t 1)⟩,
  ⟨(some 16), none, .fa (.t 3) 0⟩,
  ⟨(some 17), none, .ld none (.t 16)⟩,
  ⟨(some 18), none, .bin false .lss (.t 15) (.t 17)⟩,
  ⟨(some 19), none, .mv (.t 18)⟩,
  ⟨(some 20), (some (19, false)), .mv (.t 1)⟩,
  ⟨(some 21), (some (19, false)), .bin false .gtr (.t 20) (.c (.i .i64 60))⟩,
  ⟨(some 22), none, .pick (.t 19) (.c (.b true)) (.t 21)⟩,
  ⟨(some 23), none, .mv (.t 22)⟩,
  ⟨(some 24), (some (23, false)), .mv (.t 2)⟩,
  ⟨(some 25), (some (23, false)), .bin false .lss (.t 24) (.c (.i .i64 0))⟩,
  ⟨(some 26), none, .pick (.t 23) (.c (.b true)) (.t 25)⟩,
  ⟨(some 27), none, .mv (.t 26)⟩,
  ⟨(some 28), (some (27, false)), .mv (.t 2)⟩,
  ⟨(some 29), (some (27, false)), .mv (.t 1)⟩,
  ⟨(some 30), (some (27, false)), .bin false .gtr (.t 28) (.t 29)⟩,
  ⟨(some 31), none, .pick (.t 27) (.c (.b true)) (.t 30)⟩,
  ⟨(some 14), none, .mv (.t 31)⟩]
def c14r4 : List AOper := [
  ⟨(some 6), none, .mv (.c (.i .i64 0))⟩,
  ⟨(some 7), none, .mv (.c (.i .i64 0))⟩,
  ⟨(some 8), none, .mv (.c (.i .i64 2))⟩]
def c14r5 : List AOper := [
  ⟨(some 32), none, .ld (some 2) (.t 3)⟩,
  ⟨(some 33), none, .mv (.t 1)⟩,
  ⟨(some 34), none, .mv (.t 2)⟩,
  ⟨(some 35), none, .call (.c (.fn 41 [] [])) [(.t 32), (.t 33), (.t 34)]⟩,
  ⟨(some 9), none, .alloc [.i .i64 0, .i .i64 0]⟩,
  ⟨none, none, .sto (some 2) (.t 9) (.t 35)⟩]
def c14r6 : List AOper := [
  ⟨(some 36), none, .iap 2 1 (.t 9) (.c (.i .i64 0))⟩,
  ⟨(some 37), none, .ld none (.t 36)⟩,
  ⟨(some 38), none, .iap 2 1 (.t 9) (.c (.i .i64 1))⟩,
  ⟨(some 39), none, .ld none (.t 38)⟩,
  ⟨(some 6), none, .mv (.t 37)⟩,
  ⟨(some 7), none, .mv (.t 39)⟩,
  ⟨(some 8), none, .mv (.c (.i .i64 0))⟩]
abbrev c14 : AC := (.seq (.reg c14r0) (.seq (.blk 0 (.seq (.reg c14r1) (.cond (.t 10) (.seq (.reg c14r2) .ret) (.seq (.reg c14r3) (.cond (.t 14) (.seq (.reg c14r4) .ret) .skip))))) (.seq (.reg c14r5) (.seq (.head 5 c14r6) .ret))))
def q14 : List ARes := [.t 6, .t 7, .t 8]
theorem fn14 : fnOf Try.prog 14 = some (c14, q14, 40) := by kernel_rfl

/-! 15: pantoscope/pantoscoperef05.Chance · slots 41 · [0 p, 1 lot, 2 bad, 3 p, 4 lot, 5 bad, 6 num, 7 den, 8 err] -/
def c15r0 : List AOper := [
  ⟨(some 3), none, .box (.t 0)⟩,
  ⟨(some 6), none, .mv (.c (.i .i64 0))⟩,
  ⟨(some 7), none, .mv (.c (.i .i64 0))⟩,
  ⟨(some 8), none, .mv (.c (.i .i64 0))⟩]
def c15r1 : List AOper := [
  ⟨(some 9), none, .ld (some 2) (.t 3)⟩,
  ⟨(some 10), none, .call (.c (.fn 20 [] [])) [(.t 9)]⟩,
  ⟨(some 11), none, .not (.t 10)⟩]
def c15r2 : List AOper := [
  ⟨(some 6), none, .mv (.c (.i .i64 0))⟩,
  ⟨(some 7), none, .mv (.c (.i .i64 0))⟩,
  ⟨(some 8), none, .mv (.c (.i .i64 50))⟩]
def c15r3 : List AOper := [
  ⟨(some 12), none, .mv (.t 1)⟩,
  ⟨(some 13), none, .fa (.t 3) 0⟩,
  ⟨(some 14), none, .ld none (.t 13)⟩,
  ⟨(some 15), none, .bin false .lss (.t 12) (.t 14)⟩,
  ⟨(some 16), none, .mv (.t 15)⟩,
  ⟨(some 17), (some (16, false)), .mv (.t 1)⟩,
  ⟨(some 18), (some (16, false)), .bin false .gtr (.t 17) (.c (.i .i64 60))⟩,
  ⟨(some 19), none, .pick (.t 16) (.c (.b true)) (.t 18)⟩,
  ⟨(some 20), none, .mv (.t 19)⟩,
  ⟨(some 21), (some (20, false)), .mv (.t 2)⟩,
  ⟨(some 22), (some (20, false)), .bin false .lss (.t 21) (.c (.i .i64 0))⟩,
  ⟨(some 23), none, .pick (.t 20) (.c (.b true)) (.t 22)⟩,
  ⟨(some 24), none, .mv (.t 23)⟩,
  ⟨(some 25), (some (24, false)), .mv (.t 2)⟩,
  ⟨(some 26), (some (24, false)), .mv (.t 1)⟩,
  ⟨(some 27), (some (24, false)), .bin false .gtr (.t 25) (.t 26)⟩,
  ⟨(some 28), none, .pick (.t 24) (.c (.b true)) (.t 27)⟩]
def c15r4 : List AOper := [
  ⟨(some 6), none, .mv (.c (.i .i64 0))⟩,
  ⟨(some 7), none, .mv (.c (.i .i64 0))⟩,
  ⟨(some 8), none, .mv (.c (.i .i64 2))⟩]
def c15r5 : List AOper := [
  ⟨(some 30), none, .fa (.t 3) 0⟩,
  ⟨(some 31), none, .ld none (.t 30)⟩,
  ⟨(some 32), none, .fa (.t 3) 1⟩,
  ⟨(some 33), none, .ld none (.t 32)⟩,
  ⟨(some 34), none, .mv (.t 1)⟩,
  ⟨(some 35), none, .mv (.t 2)⟩,
  ⟨(some 36), none, .call (.c (.fn 42 [] [])) [(.t 31), (.t 33), (.t 34), (.t 35)]⟩,
  ⟨(some 29), none, .mv (.t 36)⟩,
  ⟨(some 37), none, .ext (.t 29) 0⟩,
  ⟨(some 38), none, .ext (.t 29) 1⟩,
  ⟨(some 6), none, .mv (.t 37)⟩,
  ⟨(some 7), none, .mv (.t 38)⟩]
def c15r6 : List AOper := [
  ⟨(some 39), none, .mv (.t 6)⟩,
  ⟨(some 40), none, .mv (.t 7)⟩,
  ⟨(some 6), none, .mv (.t 39)⟩,
  ⟨(some 7), none, .mv (.t 40)⟩,
  ⟨(some 8), none, .mv (.c (.i .i64 0))⟩]
abbrev c15 : AC := (.seq (.reg c15r0) (.seq (.seq (.reg c15r1) (.cond (.t 11) (.seq (.reg c15r2) .ret) .skip)) (.seq (.seq (.reg c15r3) (.cond (.t 28) (.seq (.reg c15r4) .ret) .skip)) (.seq (.reg c15r5) (.seq (.reg c15r6) .ret)))))
def q15 : List ARes := [.t 6, .t 7, .t 8]
theorem fn15 : fnOf Try.prog 15 = some (c15, q15, 41) := by kernel_rfl

/-! 16: pantoscope/pantoscopelaw05.awake · slots 20 · [1 n, 2 d, 3 e] -/
def c16r0 : List AOper := [
  ⟨(some 0), none, .mv (.c (.b false))⟩]
def c16r1 : List AOper := [
  ⟨(some 5), none, .bld [.i .i64 0, .i .i64 0] [(0, 1, (.c (.i .i64 2)))]⟩,
  ⟨(some 6), none, .call (.c (.fn 14 [] [])) [(.t 5), (.c (.i .i64 4)), (.c (.i .i64 1))]⟩,
  ⟨(some 4), none, .mv (.t 6)⟩,
  ⟨(some 7), none, .ext (.t 4) 0⟩,
  ⟨(some 8), none, .ext (.t 4) 1⟩,
  ⟨(some 9), none, .ext (.t 4) 2⟩,
  ⟨(some 1), none, .mv (.t 7)⟩,
  ⟨(some 2), none, .mv (.t 8)⟩,
  ⟨(some 3), none, .mv (.t 9)⟩]
def c16r2 : List AOper := [
  ⟨(some 10), none, .mv (.t 1)⟩,
  ⟨(some 11), none, .bin false .eql (.t 10) (.c (.i .i64 1))⟩,
  ⟨(some 12), none, .mv (.t 11)⟩,
  ⟨(some 13), (some (12, true)), .mv (.t 2)⟩,
  ⟨(some 14), (some (12, true)), .bin false .eql (.t 13) (.c (.i .i64 2))⟩,
  ⟨(some 15), none, .pick (.t 12) (.t 14) (.c (.b false))⟩,
  ⟨(some 16), none, .mv (.t 15)⟩,
  ⟨(some 17), (some (16, true)), .mv (.t 3)⟩,
  ⟨(some 18), (some (16, true)), .bin false .eql (.t 17) (.c (.i .i64 0))⟩,
  ⟨(some 19), none, .pick (.t 16) (.t 18) (.c (.b false))⟩,
  ⟨(some 0), none, .mv (.t 19)⟩]
abbrev c16 : AC := (.seq (.reg c16r0) (.seq (.reg c16r1) (.seq (.reg c16r2) .ret)))
def q16 : List ARes := [.t 0]
theorem fn16 : fnOf Try.prog 16 = some (c16, q16, 20) := by kernel_rfl

/-! 17: pantoscope/sample.Accepted · slots 23 · [0 p, 1 bad, 2 p, 3 bad] -/
def c17r0 : List AOper := [
  ⟨(some 2), none, .box (.t 0)⟩,
  ⟨(some 4), none, .mv (.c (.b false))⟩,
  ⟨(some 5), none, .mv (.c (.i .i64 0))⟩]
def c17r1 : List AOper := [
  ⟨(some 7), none, .ld (some 2) (.t 2)⟩,
  ⟨(some 8), none, .call (.c (.fn 19 [] [])) [(.t 7)]⟩,
  ⟨(some 9), none, .not (.t 8)⟩,
  ⟨(some 6), none, .mv (.t 9)⟩]
def c17r2 : List AOper := [
  ⟨(some 4), none, .mv (.c (.b false))⟩,
  ⟨(some 5), none, .mv (.c (.i .i64 50))⟩]
def c17r3 : List AOper := [
  ⟨(some 11), none, .mv (.t 1)⟩,
  ⟨(some 12), none, .bin false .lss (.t 11) (.c (.i .i64 0))⟩,
  ⟨(some 13), none, .mv (.t 12)⟩,
  ⟨(some 14), (some (13, false)), .mv (.t 1)⟩,
  ⟨(some 15), (some (13, false)), .fa (.t 2) 0⟩,
  ⟨(some 16), (some (13, false)), .ld none (.t 15)⟩,
  ⟨(some 17), (some (13, false)), .bin false .gtr (.t 14) (.t 16)⟩,
  ⟨(some 18), none, .pick (.t 13) (.c (.b true)) (.t 17)⟩,
  ⟨(some 10), none, .mv (.t 18)⟩]
def c17r4 : List AOper := [
  ⟨(some 4), none, .mv (.c (.b false))⟩,
  ⟨(some 5), none, .mv (.c (.i .i64 2))⟩]
def c17r5 : List AOper := [
  ⟨(some 19), none, .mv (.t 1)⟩,
  ⟨(some 20), none, .fa (.t 2) 1⟩,
  ⟨(some 21), none, .ld none (.t 20)⟩,
  ⟨(some 22), none, .bin false .leq (.t 19) (.t 21)⟩,
  ⟨(some 4), none, .mv (.t 22)⟩,
  ⟨(some 5), none, .mv (.c (.i .i64 0))⟩]
abbrev c17 : AC := (.seq (.reg c17r0) (.seq (.blk 0 (.seq (.reg c17r1) (.cond (.t 6) (.seq (.reg c17r2) .ret) (.seq (.reg c17r3) (.cond (.t 10) (.seq (.reg c17r4) .ret) .skip))))) (.seq (.reg c17r5) .ret)))
def q17 : List ARes := [.t 4, .t 5]
theorem fn17 : fnOf Try.prog 17 = some (c17, q17, 23) := by kernel_rfl

/-! 18: pantoscope/pantoscoperef05.Accepted · slots 21 · [0 p, 1 bad, 2 p, 3 bad] -/
def c18r0 : List AOper := [
  ⟨(some 2), none, .box (.t 0)⟩,
  ⟨(some 4), none, .mv (.c (.b false))⟩,
  ⟨(some 5), none, .mv (.c (.i .i64 0))⟩]
def c18r1 : List AOper := [
  ⟨(some 6), none, .ld (some 2) (.t 2)⟩,
  ⟨(some 7), none, .call (.c (.fn 20 [] [])) [(.t 6)]⟩,
  ⟨(some 8), none, .not (.t 7)⟩]
def c18r2 : List AOper := [
  ⟨(some 4), none, .mv (.c (.b false))⟩,
  ⟨(some 5), none, .mv (.c (.i .i64 50))⟩]
def c18r3 : List AOper := [
  ⟨(some 9), none, .mv (.t 1)⟩,
  ⟨(some 10), none, .bin false .lss (.t 9) (.c (.i .i64 0))⟩,
  ⟨(some 11), none, .mv (.t 10)⟩,
  ⟨(some 12), (some (11, false)), .mv (.t 1)⟩,
  ⟨(some 13), (some (11, false)), .fa (.t 2) 0⟩,
  ⟨(some 14), (some (11, false)), .ld none (.t 13)⟩,
  ⟨(some 15), (some (11, false)), .bin false .gtr (.t 12) (.t 14)⟩,
  ⟨(some 16), none, .pick (.t 11) (.c (.b true)) (.t 15)⟩]
def c18r4 : List AOper := [
  ⟨(some 4), none, .mv (.c (.b false))⟩,
  ⟨(some 5), none, .mv (.c (.i .i64 2))⟩]
def c18r5 : List AOper := [
  ⟨(some 17), none, .mv (.t 1)⟩,
  ⟨(some 18), none, .fa (.t 2) 1⟩,
  ⟨(some 19), none, .ld none (.t 18)⟩,
  ⟨(some 20), none, .bin false .leq (.t 17) (.t 19)⟩,
  ⟨(some 4), none, .mv (.t 20)⟩,
  ⟨(some 5), none, .mv (.c (.i .i64 0))⟩]
abbrev c18 : AC := (.seq (.reg c18r0) (.seq (.seq (.reg c18r1) (.cond (.t 8) (.seq (.reg c18r2) .ret) .skip)) (.seq (.seq (.reg c18r3) (.cond (.t 16) (.seq (.reg c18r4) .ret) .skip)) (.seq (.reg c18r5) .ret))))
def q18 : List ARes := [.t 4, .t 5]
theorem fn18 : fnOf Try.prog 18 = some (c18, q18, 21) := by kernel_rfl

/-! 19: pantoscope/sample.Valid · slots 23 · [0 p, 1 p] -/
def c19r0 : List AOper := [
  ⟨(some 1), none, .box (.t 0)⟩,
  ⟨(some 2), none, .mv (.c (.b false))⟩]
def c19r1 : List AOper := [
  ⟨(some 3), none, .fa (.t 1) 0⟩,
  ⟨(some 4), none, .ld none (.t 3)⟩,
  ⟨(some 5), none, .bin false .geq (.t 4) (.c (.i .i64 1))⟩,
  ⟨(some 6), none, .mv (.t 5)⟩,
  ⟨(some 7), (some (6, true)), .fa (.t 1) 0⟩,
  ⟨(some 8), (some (6, true)), .ld none (.t 7)⟩,
  ⟨(some 9), (some (6, true)), .bin false .leq (.t 8) (.c (.i .i64 60))⟩,
  ⟨(some 10), none, .pick (.t 6) (.t 9) (.c (.b false))⟩,
  ⟨(some 11), none, .mv (.t 10)⟩,
  ⟨(some 12), (some (11, true)), .fa (.t 1) 1⟩,
  ⟨(some 13), (some (11, true)), .ld none (.t 12)⟩,
  ⟨(some 14), (some (11, true)), .bin false .geq (.t 13) (.c (.i .i64 0))⟩,
  ⟨(some 15), none, .pick (.t 11) (.t 14) (.c (.b false))⟩,
  ⟨(some 16), none, .mv (.t 15)⟩,
  ⟨(some 17), (some (16, true)), .fa (.t 1) 1⟩,
  ⟨(some 18), (some (16, true)), .ld none (.t 17)⟩,
  ⟨(some 19), (some (16, true)), .fa (.t 1) 0⟩,
  ⟨(some 20), (some (16, true)), .ld none (.t 19)⟩,
  ⟨(some 21), (some (16, true)), .bin false .lss (.t 18) (.t 20)⟩,
  ⟨(some 22), none, .pick (.t 16) (.t 21) (.c (.b false))⟩,
  ⟨(some 2), none, .mv (.t 22)⟩]
abbrev c19 : AC := (.seq (.reg c19r0) (.seq (.reg c19r1) .ret))
def q19 : List ARes := [.t 2]
theorem fn19 : fnOf Try.prog 19 = some (c19, q19, 23) := by kernel_rfl

/-! 20: pantoscope/pantoscoperef05.Valid · slots 23 · [0 p, 1 p] -/
def c20r0 : List AOper := [
  ⟨(some 1), none, .box (.t 0)⟩,
  ⟨(some 2), none, .mv (.c (.b false))⟩]
def c20r1 : List AOper := [
  ⟨(some 3), none, .fa (.t 1) 0⟩,
  ⟨(some 4), none, .ld none (.t 3)⟩,
  ⟨(some 5), none, .bin false .geq (.t 4) (.c (.i .i64 1))⟩,
  ⟨(some 6), none, .mv (.t 5)⟩,
  ⟨(some 7), (some (6, true)), .fa (.t 1) 0⟩,
  ⟨(some 8), (some (6, true)), .ld none (.t 7)⟩,
  ⟨(some 9), (some (6, true)), .bin false .leq (.t 8) (.c (.i .i64 60))⟩,
  ⟨(some 10), none, .pick (.t 6) (.t 9) (.c (.b false))⟩,
  ⟨(some 11), none, .mv (.t 10)⟩,
  ⟨(some 12), (some (11, true)), .fa (.t 1) 1⟩,
  ⟨(some 13), (some (11, true)), .ld none (.t 12)⟩,
  ⟨(some 14), (some (11, true)), .bin false .geq (.t 13) (.c (.i .i64 0))⟩,
  ⟨(some 15), none, .pick (.t 11) (.t 14) (.c (.b false))⟩,
  ⟨(some 16), none, .mv (.t 15)⟩,
  ⟨(some 17), (some (16, true)), .fa (.t 1) 1⟩,
  ⟨(some 18), (some (16, true)), .ld none (.t 17)⟩,
  ⟨(some 19), (some (16, true)), .fa (.t 1) 0⟩,
  ⟨(some 20), (some (16, true)), .ld none (.t 19)⟩,
  ⟨(some 21), (some (16, true)), .bin false .lss (.t 18) (.t 20)⟩,
  ⟨(some 22), none, .pick (.t 16) (.t 21) (.c (.b false))⟩,
  ⟨(some 2), none, .mv (.t 22)⟩]
abbrev c20 : AC := (.seq (.reg c20r0) (.seq (.reg c20r1) .ret))
def q20 : List ARes := [.t 2]
theorem fn20 : fnOf Try.prog 20 = some (c20, q20, 23) := by kernel_rfl

/-! 21: pantoscope/sample.ValidScheme · slots 43 · [0 s, 1 s] -/
def c21r0 : List AOper := [
  ⟨(some 1), none, .box (.t 0)⟩,
  ⟨(some 2), none, .mv (.c (.b false))⟩]
def c21r1 : List AOper := [
  ⟨(some 3), none, .fa (.t 1) 0⟩,
  ⟨(some 4), none, .ld (some 2) (.t 3)⟩,
  ⟨(some 5), none, .call (.c (.fn 19 [] [])) [(.t 4)]⟩,
  ⟨(some 6), none, .mv (.t 5)⟩,
  ⟨(some 7), (some (6, true)), .fa (.t 1) 2⟩,
  ⟨(some 8), (some (6, true)), .ld (some 2) (.t 7)⟩,
  ⟨(some 9), (some (6, true)), .call (.c (.fn 19 [] [])) [(.t 8)]⟩,
  ⟨(some 10), none, .pick (.t 6) (.t 9) (.c (.b false))⟩,
  ⟨(some 11), none, .mv (.t 10)⟩,
  ⟨(some 12), (some (11, true)), .fa (.t 1) 4⟩,
  ⟨(some 13), (some (11, true)), .ld (some 2) (.t 12)⟩,
  ⟨(some 14), (some (11, true)), .call (.c (.fn 19 [] [])) [(.t 13)]⟩,
  ⟨(some 15), none, .pick (.t 11) (.t 14) (.c (.b false))⟩,
  ⟨(some 16), none, .mv (.t 15)⟩,
  ⟨(some 17), (some (16, true)), .fa (.t 1) 2⟩,
  ⟨(some 18), (some (16, true)), .fa (.t 17) 1⟩,
  ⟨(some 19), (some (16, true)), .ld none (.t 18)⟩,
  ⟨(some 20), (some (16, true)), .fa (.t 1) 0⟩,
  ⟨(some 21), (some (16, true)), .fa (.t 20) 1⟩,
  ⟨(some 22), (some (16, true)), .ld none (.t 21)⟩,
  ⟨(some 23), (some (16, true)), .bin false .leq (.t 19) (.t 22)⟩,
  ⟨(some 24), none, .pick (.t 16) (.t 23) (.c (.b false))⟩,
  ⟨(some 25), none, .mv (.t 24)⟩,
  ⟨(some 26), (some (25, true)), .fa (.t 1) 2⟩,
  ⟨(some 27), (some (25, true)), .fa (.t 26) 0⟩,
  ⟨(some 28), (some (25, true)), .ld none (.t 27)⟩,
  ⟨(some 29), (some (25, true)), .fa (.t 1) 0⟩,
  ⟨(some 30), (some (25, true)), .fa (.t 29) 0⟩,
  ⟨(some 31), (some (25, true)), .ld none (.t 30)⟩,
  ⟨(some 32), (some (25, true)), .bin false .geq (.t 28) (.t 31)⟩,
  ⟨(some 33), none, .pick (.t 25) (.t 32) (.c (.b false))⟩,
  ⟨(some 34), none, .mv (.t 33)⟩,
  ⟨(some 35), (some (34, true)), .fa (.t 1) 4⟩,
  ⟨(some 36), (some (34, true)), .fa (.t 35) 0⟩,
  ⟨(some 37), (some (34, true)), .ld none (.t 36)⟩,
  ⟨(some 38), (some (34, true)), .fa (.t 1) 0⟩,
  ⟨(some 39), (some (34, true)), .fa (.t 38) 0⟩,
  ⟨(some 40), (some (34, true)), .ld none (.t 39)⟩,
  ⟨(some 41), (some (34, true)), .bin false .leq (.t 37) (.t 40)⟩,
  ⟨(some 42), none, .pick (.t 34) (.t 41) (.c (.b false))⟩,
  ⟨(some 2), none, .mv (.t 42)⟩]
abbrev c21 : AC := (.seq (.reg c21r0) (.seq (.reg c21r1) .ret))
def q21 : List ARes := [.t 2]
theorem fn21 : fnOf Try.prog 21 = some (c21, q21, 43) := by kernel_rfl

/-! 22: pantoscope/pantoscoperef05.ValidScheme · slots 44 · [0 s, 1 s] -/
def c22r0 : List AOper := [
  ⟨(some 1), none, .box (.t 0)⟩,
  ⟨(some 2), none, .mv (.c (.b false))⟩]
def c22r1 : List AOper := [
  ⟨(some 3), none, .fa (.t 1) 0⟩,
  ⟨(some 4), none, .ld (some 2) (.t 3)⟩,
  ⟨(some 5), none, .call (.c (.fn 20 [] [])) [(.t 4)]⟩,
  ⟨(some 6), none, .not (.t 5)⟩,
  ⟨(some 7), none, .mv (.t 6)⟩,
  ⟨(some 8), (some (7, false)), .fa (.t 1) 2⟩,
  ⟨(some 9), (some (7, false)), .ld (some 2) (.t 8)⟩,
  ⟨(some 10), (some (7, false)), .call (.c (.fn 20 [] [])) [(.t 9)]⟩,
  ⟨(some 11), (some (7, false)), .not (.t 10)⟩,
  ⟨(some 12), none, .pick (.t 7) (.c (.b true)) (.t 11)⟩,
  ⟨(some 13), none, .mv (.t 12)⟩,
  ⟨(some 14), (some (13, false)), .fa (.t 1) 4⟩,
  ⟨(some 15), (some (13, false)), .ld (some 2) (.t 14)⟩,
  ⟨(some 16), (some (13, false)), .call (.c (.fn 20 [] [])) [(.t 15)]⟩,
  ⟨(some 17), (some (13, false)), .not (.t 16)⟩,
  ⟨(some 18), none, .pick (.t 13) (.c (.b true)) (.t 17)⟩]
def c22r2 : List AOper := [
  ⟨(some 2), none, .mv (.c (.b false))⟩]
def c22r3 : List AOper := [
  ⟨(some 19), none, .fa (.t 1) 2⟩,
  ⟨(some 20), none, .fa (.t 19) 1⟩,
  ⟨(some 21), none, .ld none (.t 20)⟩,
  ⟨(some 22), none, .fa (.t 1) 0⟩,
  ⟨(some 23), none, .fa (.t 22) 1⟩,
  ⟨(some 24), none, .ld none (.t 23)⟩,
  ⟨(some 25), none, .bin false .leq (.t 21) (.t 24)⟩,
  ⟨(some 26), none, .mv (.t 25)⟩,
  ⟨(some 27), (some (26, true)), .fa (.t 1) 2⟩,
  ⟨(some 28), (some (26, true)), .fa (.t 27) 0⟩,
  ⟨(some 29), (some (26, true)), .ld none (.t 28)⟩,
  ⟨(some 30), (some (26, true)), .fa (.t 1) 0⟩,
  ⟨(some 31), (some (26, true)), .fa (.t 30) 0⟩,
  ⟨(some 32), (some (26, true)), .ld none (.t 31)⟩,
  ⟨(some 33), (some (26, true)), .bin false .geq (.t 29) (.t 32)⟩,
  ⟨(some 34), none, .pick (.t 26) (.t 33) (.c (.b false))⟩,
  ⟨(some 35), none, .mv (.t 34)⟩,
  ⟨(some 36), (some (35, true)), .fa (.t 1) 4⟩,
  ⟨(some 37), (some (35, true)), .fa (.t 36) 0⟩,
  ⟨(some 38), (some (35, true)), .ld none (.t 37)⟩,
  ⟨(some 39), (some (35, true)), .fa (.t 1) 0⟩,
  ⟨(some 40), (some (35, true)), .fa (.t 39) 0⟩,
  ⟨(some 41), (some (35, true)), .ld none (.t 40)⟩,
  ⟨(some 42), (some (35, true)), .bin false .leq (.t 38) (.t 41)⟩,
  ⟨(some 43), none, .pick (.t 35) (.t 42) (.c (.b false))⟩,
  ⟨(some 2), none, .mv (.t 43)⟩]
abbrev c22 : AC := (.seq (.reg c22r0) (.seq (.seq (.reg c22r1) (.cond (.t 18) (.seq (.reg c22r2) .ret) .skip)) (.seq (.reg c22r3) .ret)))
def q22 : List ARes := [.t 2]
theorem fn22 : fnOf Try.prog 22 = some (c22, q22, 44) := by kernel_rfl

/-! 23: pantoscope/sample.Choose · slots 15 · [0 n, 1 k, 2 n, 3 k] -/
def c23r0 : List AOper := [
  ⟨(some 4), none, .mv (.c (.i .i64 0))⟩,
  ⟨(some 5), none, .mv (.c (.i .i64 0))⟩]
def c23r1 : List AOper := [
  ⟨(some 6), none, .mv (.t 0)⟩,
  ⟨(some 7), none, .bin false .lss (.t 6) (.c (.i .i64 0))⟩,
  ⟨(some 8), none, .mv (.t 7)⟩,
  ⟨(some 9), (some (8, false)), .mv (.t 0)⟩,
  ⟨(some 10), (some (8, false)), .bin false .gtr (.t 9) (.c (.i .i64 60))⟩,
  ⟨(some 11), none, .pick (.t 8) (.c (.b true)) (.t 10)⟩]
def c23r2 : List AOper := [
  ⟨(some 4), none, .mv (.c (.i .i64 0))⟩,
  ⟨(some 5), none, .mv (.c (.i .i64 2))⟩]
def c23r3 : List AOper := [
  ⟨(some 12), none, .mv (.t 0)⟩,
  ⟨(some 13), none, .mv (.t 1)⟩,
  ⟨(some 14), none, .call (.c (.fn 43 [] [])) [(.t 12), (.t 13)]⟩,
  ⟨(some 4), none, .mv (.t 14)⟩,
  ⟨(some 5), none, .mv (.c (.i .i64 0))⟩]
abbrev c23 : AC := (.seq (.reg c23r0) (.seq (.seq (.reg c23r1) (.cond (.t 11) (.seq (.reg c23r2) .ret) .skip)) (.seq (.reg c23r3) .ret)))
def q23 : List ARes := [.t 4, .t 5]
theorem fn23 : fnOf Try.prog 23 = some (c23, q23, 15) := by kernel_rfl

/-! 24: pantoscope/pantoscoperef05.Choose · slots 15 · [0 n, 1 k, 2 n, 3 k] -/
def c24r0 : List AOper := [
  ⟨(some 4), none, .mv (.c (.i .i64 0))⟩,
  ⟨(some 5), none, .mv (.c (.i .i64 0))⟩]
def c24r1 : List AOper := [
  ⟨(some 6), none, .mv (.t 0)⟩,
  ⟨(some 7), none, .bin false .lss (.t 6) (.c (.i .i64 0))⟩,
  ⟨(some 8), none, .mv (.t 7)⟩,
  ⟨(some 9), (some (8, false)), .mv (.t 0)⟩,
  ⟨(some 10), (some (8, false)), .bin false .gtr (.t 9) (.c (.i .i64 60))⟩,
  ⟨(some 11), none, .pick (.t 8) (.c (.b true)) (.t 10)⟩]
def c24r2 : List AOper := [
  ⟨(some 4), none, .mv (.c (.i .i64 0))⟩,
  ⟨(some 5), none, .mv (.c (.i .i64 2))⟩]
def c24r3 : List AOper := [
  ⟨(some 12), none, .mv (.t 0)⟩,
  ⟨(some 13), none, .mv (.t 1)⟩,
  ⟨(some 14), none, .call (.c (.fn 44 [] [])) [(.t 12), (.t 13)]⟩,
  ⟨(some 4), none, .mv (.t 14)⟩,
  ⟨(some 5), none, .mv (.c (.i .i64 0))⟩]
abbrev c24 : AC := (.seq (.reg c24r0) (.seq (.seq (.reg c24r1) (.cond (.t 11) (.seq (.reg c24r2) .ret) .skip)) (.seq (.reg c24r3) .ret)))
def q24 : List ARes := [.t 4, .t 5]
theorem fn24 : fnOf Try.prog 24 = some (c24, q24, 15) := by kernel_rfl

/-! 25: pantoscope/sample.Ways · slots 36 · [0 lot, 1 bad, 2 sample, 3 lot, 4 bad, 5 sample] -/
def c25r0 : List AOper := [
  ⟨(some 6), none, .mv (.c (.sl 0 0 0 0))⟩,
  ⟨(some 7), none, .mv (.c (.i .i64 0))⟩]
def c25r1 : List AOper := [
  ⟨(some 8), none, .mv (.t 0)⟩,
  ⟨(some 9), none, .bin false .lss (.t 8) (.c (.i .i64 0))⟩,
  ⟨(some 10), none, .mv (.t 9)⟩,
  ⟨(some 11), (some (10, false)), .mv (.t 0)⟩,
  ⟨(some 12), (some (10, false)), .bin false .gtr (.t 11) (.c (.i .i64 60))⟩,
  ⟨(some 13), none, .pick (.t 10) (.c (.b true)) (.t 12)⟩,
  ⟨(some 14), none, .mv (.t 13)⟩,
  ⟨(some 15), (some (14, false)), .mv (.t 1)⟩,
  ⟨(some 16), (some (14, false)), .bin false .lss (.t 15) (.c (.i .i64 0))⟩,
  ⟨(some 17), none, .pick (.t 14) (.c (.b true)) (.t 16)⟩,
  ⟨(some 18), none, .mv (.t 17)⟩,
  ⟨(some 19), (some (18, false)), .mv (.t 1)⟩,
  ⟨(some 20), (some (18, false)), .mv (.t 0)⟩,
  ⟨(some 21), (some (18, false)), .bin false .gtr (.t 19) (.t 20)⟩,
  ⟨(some 22), none, .pick (.t 18) (.c (.b true)) (.t 21)⟩,
  ⟨(some 23), none, .mv (.t 22)⟩,
  ⟨(some 24), (some (23, false)), .mv (.t 2)⟩,
  ⟨(some 25), (some (23, false)), .bin false .lss (.t 24) (.c (.i .i64 0))⟩,
  ⟨(some 26), none, .pick (.t 23) (.c (.b true)) (.t 25)⟩,
  ⟨(some 27), none, .mv (.t 26)⟩,
  ⟨(some 28), (some (27, false)), .mv (.t 2)⟩,
  ⟨(some 29), (some (27, false)), .mv (.t 0)⟩,
  ⟨(some 30), (some (27, false)), .bin false .gtr (.t 28) (.t 29)⟩,
  ⟨(some 31), none, .pick (.t 27) (.c (.b true)) (.t 30)⟩]
def c25r2 : List AOper := [
  ⟨(some 6), none, .mv (.c (.sl 0 0 0 0))⟩,
  ⟨(some 7), none, .mv (.c (.i .i64 2))⟩]
def c25r3 : List AOper := [
  ⟨(some 32), none, .mv (.t 0)⟩,
  ⟨(some 33), none, .mv (.t 1)⟩,
  ⟨(some 34), none, .mv (.t 2)⟩,
  ⟨(some 35), none, .call (.c (.fn 45 [] [])) [(.t 32), (.t 33), (.t 34)]⟩,
  ⟨(some 6), none, .mv (.t 35)⟩,
  ⟨(some 7), none, .mv (.c (.i .i64 0))⟩]
abbrev c25 : AC := (.seq (.reg c25r0) (.seq (.seq (.reg c25r1) (.cond (.t 31) (.seq (.reg c25r2) .ret) .skip)) (.seq (.reg c25r3) .ret)))
def q25 : List ARes := [.t 6, .t 7]
theorem fn25 : fnOf Try.prog 25 = some (c25, q25, 36) := by kernel_rfl

/-! 26: pantoscope/pantoscoperef05.Ways · slots 49 · [0 lot, 1 bad, 2 sample, 3 lot, 4 bad, 5 sample, 8 out, 9 i] -/
def c26r0 : List AOper := [
  ⟨(some 6), none, .mv (.c (.sl 0 0 0 0))⟩,
  ⟨(some 7), none, .mv (.c (.i .i64 0))⟩]
def c26r1 : List AOper := [
  ⟨(some 10), none, .mv (.t 0)⟩,
  ⟨(some 11), none, .bin false .lss (.t 10) (.c (.i .i64 0))⟩,
  ⟨(some 12), none, .mv (.t 11)⟩,
  ⟨(some 13), (some (12, false)), .mv (.t 0)⟩,
  ⟨(some 14), (some (12, false)), .bin false .gtr (.t 13) (.c (.i .i64 60))⟩,
  ⟨(some 15), none, .pick (.t 12) (.c (.b true)) (.t 14)⟩,
  ⟨(some 16), none, .mv (.t 15)⟩,
  ⟨(some 17), (some (16, false)), .mv (.t 1)⟩,
  ⟨(some 18), (some (16, false)), .bin false .lss (.t 17) (.c (.i .i64 0))⟩,
  ⟨(some 19), none, .pick (.t 16) (.c (.b true)) (.t 18)⟩,
  ⟨(some 20), none, .mv (.t 19)⟩,
  ⟨(some 21), (some (20, false)), .mv (.t 1)⟩,
  ⟨(some 22), (some (20, false)), .mv (.t 0)⟩,
  ⟨(some 23), (some (20, false)), .bin false .gtr (.t 21) (.t 22)⟩,
  ⟨(some 24), none, .pick (.t 20) (.c (.b true)) (.t 23)⟩,
  ⟨(some 25), none, .mv (.t 24)⟩,
  ⟨(some 26), (some (25, false)), .mv (.t 2)⟩,
  ⟨(some 27), (some (25, false)), .bin false .lss (.t 26) (.c (.i .i64 0))⟩,
  ⟨(some 28), none, .pick (.t 25) (.c (.b true)) (.t 27)⟩,
  ⟨(some 29), none, .mv (.t 28)⟩,
  ⟨(some 30), (some (29, false)), .mv (.t 2)⟩,
  ⟨(some 31), (some (29, false)), .mv (.t 0)⟩,
  ⟨(some 32), (some (29, false)), .bin false .gtr (.t 30) (.t 31)⟩,
  ⟨(some 33), none, .pick (.t 29) (.c (.b true)) (.t 32)⟩]
def c26r2 : List AOper := [
  ⟨(some 6), none, .mv (.c (.sl 0 0 0 0))⟩,
  ⟨(some 7), none, .mv (.c (.i .i64 2))⟩]
def c26r3 : List AOper := [
  ⟨(some 8), none, .mv (.c (.sl 0 0 0 0))⟩]
def c26r4 : List AOper := [
  ⟨(some 34), none, .mv (.t 2)⟩,
  ⟨(some 35), none, .bin false .add (.t 34) (.c (.i .i64 1))⟩,
  ⟨(some 36), none, .mv (.c (.i .i64 0))⟩]
def c26r5 : List AOper := [
  ⟨(some 37), none, .bin false .lss (.t 36) (.t 35)⟩]
def c26r6 : List AOper := [
  ⟨(some 38), none, .mv (.t 36)⟩,
  ⟨(some 9), none, .mv (.t 38)⟩]
def c26r7 : List AOper := [
  ⟨(some 39), none, .mv (.t 8)⟩,
  ⟨(some 40), none, .mv (.t 0)⟩,
  ⟨(some 41), none, .mv (.t 1)⟩,
  ⟨(some 42), none, .mv (.t 2)⟩,
  ⟨(some 43), none, .mv (.t 9)⟩,
  ⟨(some 44), none, .call (.c (.fn 46 [] [])) [(.t 40), (.t 41), (.t 42), (.t 43)]⟩,
  ⟨(some 45), none, .bsl 1 [.i .i64 0] [(0, 1, (.t 44))]⟩,
  ⟨(some 46), none, .app 1 8 (.t 39) (.t 45)⟩,
  ⟨(some 8), none, .mv (.t 46)⟩]
def c26r8 : List AOper := [
  ⟨(some 47), none, .bin false .add (.t 36) (.c (.i .i64 1))⟩,
  ⟨(some 36), none, .mv (.t 47)⟩]
abbrev c26b9 : AC := (.seq (.reg c26r5) (.seq (.cond (.t 37) .skip (.exit 0)) (.seq (.blk 1 (.seq (.reg c26r6) (.reg c26r7))) (.reg c26r8))))
def c26r10 : List AOper := [
  ⟨(some 48), none, .mv (.t 8)⟩,
  ⟨(some 6), none, .mv (.t 48)⟩,
  ⟨(some 7), none, .mv (.c (.i .i64 0))⟩]
abbrev c26 : AC := (.seq (.reg c26r0) (.seq (.seq (.reg c26r1) (.cond (.t 33) (.seq (.reg c26r2) .ret) .skip)) (.seq (.reg c26r3) (.seq (.seq (.reg c26r4) (.blk 0 (.loop c26b9))) (.seq (.reg c26r10) .ret)))))
def q26 : List ARes := [.t 6, .t 7]
theorem fn26 : fnOf Try.prog 26 = some (c26, q26, 49) := by kernel_rfl

/-! 27: pantoscope/pantoscopelaw05.same · slots 26 · [0 a, 1 b, 2 a, 3 b, 5 i] -/
def c27r0 : List AOper := [
  ⟨(some 4), none, .mv (.c (.b false))⟩]
def c27r1 : List AOper := [
  ⟨(some 6), none, .mv (.t 0)⟩,
  ⟨(some 7), none, .len (.t 6)⟩,
  ⟨(some 8), none, .mv (.t 1)⟩,
  ⟨(some 9), none, .len (.t 8)⟩,
  ⟨(some 10), none, .bin false .neq (.t 7) (.t 9)⟩]
def c27r2 : List AOper := [
  ⟨(some 4), none, .mv (.c (.b false))⟩]
def c27r3 : List AOper := [
  ⟨(some 11), none, .mv (.t 0)⟩,
  ⟨(some 12), none, .len (.t 11)⟩,
  ⟨(some 13), none, .mv (.c (.i .i64 0))⟩]
def c27r4 : List AOper := [
  ⟨(some 14), none, .bin false .lss (.t 13) (.t 12)⟩]
def c27r5 : List AOper := [
  ⟨(some 15), none, .mv (.t 13)⟩,
  ⟨(some 5), none, .mv (.t 15)⟩]
def c27r6 : List AOper := [
  ⟨(some 16), none, .mv (.t 0)⟩,
  ⟨(some 17), none, .mv (.t 5)⟩,
  ⟨(some 18), none, .ia 1 (.t 16) (.t 17)⟩,
  ⟨(some 19), none, .ld none (.t 18)⟩,
  ⟨(some 20), none, .mv (.t 1)⟩,
  ⟨(some 21), none, .mv (.t 5)⟩,
  ⟨(some 22), none, .ia 1 (.t 20) (.t 21)⟩,
  ⟨(some 23), none, .ld none (.t 22)⟩,
  ⟨(some 24), none, .bin false .neq (.t 19) (.t 23)⟩]
def c27r7 : List AOper := [
  ⟨(some 4), none, .mv (.c (.b false))⟩]
def c27r8 : List AOper := [
  ⟨(some 25), none, .bin false .add (.t 13) (.c (.i .i64 1))⟩,
  ⟨(some 13), none, .mv (.t 25)⟩]
abbrev c27b9 : AC := (.seq (.reg c27r4) (.seq (.cond (.t 14) .skip (.exit 0)) (.seq (.blk 1 (.seq (.reg c27r5) (.seq (.head 8 c27r6) (.cond (.t 24) (.seq (.reg c27r7) .ret) .skip)))) (.reg c27r8))))
def c27r10 : List AOper := [
  ⟨(some 4), none, .mv (.c (.b true))⟩]
abbrev c27 : AC := (.seq (.reg c27r0) (.seq (.seq (.reg c27r1) (.cond (.t 10) (.seq (.reg c27r2) .ret) .skip)) (.seq (.seq (.reg c27r3) (.blk 0 (.loop c27b9))) (.seq (.reg c27r10) .ret))))
def q27 : List ARes := [.t 4]
theorem fn27 : fnOf Try.prog 27 = some (c27, q27, 26) := by kernel_rfl

/-! 28: pantoscope/sample.Bad · slots 47 · [0 pieces, 1 drawn, 2 pieces, 3 drawn, 6 seen, 7 n, 8 _, 9 i] -/
def c28r0 : List AOper := [
  ⟨(some 4), none, .mv (.c (.i .i64 0))⟩,
  ⟨(some 5), none, .mv (.c (.i .i64 0))⟩]
def c28r1 : List AOper := [
  ⟨(some 10), none, .mv (.t 0)⟩,
  ⟨(some 11), none, .len (.t 10)⟩,
  ⟨(some 12), none, .bin false .gtr (.t 11) (.c (.i .i64 60))⟩]
def c28r2 : List AOper := [
  ⟨(some 4), none, .mv (.c (.i .i64 0))⟩,
  ⟨(some 5), none, .mv (.c (.i .i64 2))⟩]
def c28r3 : List AOper := [
  ⟨(some 13), none, .mv (.t 0)⟩,
  ⟨(some 14), none, .len (.t 13)⟩,
  ⟨(some 15), none, .mks 1 1 [.b false] (.t 14) (.t 14)⟩,
  ⟨(some 6), none, .mv (.t 15)⟩]
def c28r4 : List AOper := [
  ⟨(some 7), none, .mv (.c (.i .i64 0))⟩]
def c28r5 : List AOper := [
  ⟨(some 16), none, .mv (.t 1)⟩,
  ⟨(some 17), none, .len (.t 16)⟩,
  ⟨(some 18), none, .mv (.c (.i .i64 0))⟩]
def c28r6 : List AOper := [
  ⟨(some 19), none, .bin false .lss (.t 18) (.t 17)⟩]
def c28r7 : List AOper := [
  ⟨(some 20), none, .ia 1 (.t 16) (.t 18)⟩,
  ⟨(some 21), none, .ld none (.t 20)⟩,
  ⟨(some 9), none, .mv (.t 21)⟩]
def c28r8 : List AOper := [
  ⟨(some 22), none, .mv (.t 9)⟩,
  ⟨(some 23), none, .bin false .lss (.t 22) (.c (.i .i64 0))⟩,
  ⟨(some 24), none, .mv (.t 23)⟩,
  ⟨(some 25), (some (24, false)), .mv (.t 9)⟩,
  ⟨(some 26), (some (24, false)), .mv (.t 0)⟩,
  ⟨(some 27), (some (24, false)), .len (.t 26)⟩,
  ⟨(some 28), (some (24, false)), .bin false .geq (.t 25) (.t 27)⟩,
  ⟨(some 29), none, .pick (.t 24) (.c (.b true)) (.t 28)⟩,
  ⟨(some 30), none, .mv (.t 29)⟩,
  ⟨(some 31), (some (30, false)), .mv (.t 6)⟩,
  ⟨(some 32), (some (30, false)), .mv (.t 9)⟩,
  ⟨(some 33), (some (30, false)), .ia 1 (.t 31) (.t 32)⟩,
  ⟨(some 34), (some (30, false)), .ld none (.t 33)⟩,
  ⟨(some 35), none, .pick (.t 30) (.c (.b true)) (.t 34)⟩]
def c28r9 : List AOper := [
  ⟨(some 4), none, .mv (.c (.i .i64 0))⟩,
  ⟨(some 5), none, .mv (.c (.i .i64 2))⟩]
def c28r10 : List AOper := [
  ⟨(some 36), none, .mv (.t 6)⟩,
  ⟨(some 37), none, .mv (.t 9)⟩,
  ⟨(some 38), none, .ia 1 (.t 36) (.t 37)⟩,
  ⟨none, none, .sto none (.t 38) (.c (.b true))⟩]
def c28r11 : List AOper := [
  ⟨(some 39), none, .mv (.t 0)⟩,
  ⟨(some 40), none, .mv (.t 9)⟩,
  ⟨(some 41), none, .ia 1 (.t 39) (.t 40)⟩,
  ⟨(some 42), none, .ld none (.t 41)⟩]
def c28r12 : List AOper := [
  ⟨(some 43), none, .mv (.t 7)⟩,
  ⟨(some 44), none, .bin false .add (.t 43) (.c (.i .i64 1))⟩,
  ⟨(some 7), none, .mv (.t 44)⟩]
def c28r13 : List AOper := [
  ⟨(some 45), none, .bin false .add (.t 18) (.c (.i .i64 1))⟩,
  ⟨(some 18), none, .mv (.t 45)⟩]
abbrev c28b14 : AC := (.seq (.reg c28r6) (.seq (.cond (.t 19) .skip (.exit 0)) (.seq (.blk 1 (.seq (.reg c28r7) (.seq (.seq (.reg c28r8) (.cond (.t 35) (.seq (.reg c28r9) .ret) .skip)) (.seq (.reg c28r10) (.seq (.reg c28r11) (.cond (.t 42) (.reg c28r12) .skip)))))) (.reg c28r13))))
def c28r15 : List AOper := [
  ⟨(some 46), none, .mv (.t 7)⟩,
  ⟨(some 4), none, .mv (.t 46)⟩,
  ⟨(some 5), none, .mv (.c (.i .i64 0))⟩]
abbrev c28 : AC := (.seq (.reg c28r0) (.seq (.seq (.reg c28r1) (.cond (.t 12) (.seq (.reg c28r2) .ret) .skip)) (.seq (.reg c28r3) (.seq (.reg c28r4) (.seq (.seq (.reg c28r5) (.blk 0 (.loop c28b14))) (.seq (.reg c28r15) .ret))))))
def q28 : List ARes := [.t 4, .t 5]
theorem fn28 : fnOf Try.prog 28 = some (c28, q28, 47) := by kernel_rfl

/-! 29: pantoscope/pantoscoperef05.Bad · slots 49 · [0 pieces, 1 drawn, 2 pieces, 3 drawn, 6 n, 7 i, 8 x, 9 _, 10 y] -/
def c29r0 : List AOper := [
  ⟨(some 4), none, .mv (.c (.i .i64 0))⟩,
  ⟨(some 5), none, .mv (.c (.i .i64 0))⟩]
def c29r1 : List AOper := [
  ⟨(some 11), none, .mv (.t 0)⟩,
  ⟨(some 12), none, .len (.t 11)⟩,
  ⟨(some 13), none, .bin false .gtr (.t 12) (.c (.i .i64 60))⟩]
def c29r2 : List AOper := [
  ⟨(some 4), none, .mv (.c (.i .i64 0))⟩,
  ⟨(some 5), none, .mv (.c (.i .i64 2))⟩]
def c29r3 : List AOper := [
  ⟨(some 6), none, .mv (.c (.i .i64 0))⟩]
def c29r4 : List AOper := [
  ⟨(some 14), none, .mv (.t 1)⟩,
  ⟨(some 15), none, .len (.t 14)⟩,
  ⟨(some 16), none, .mv (.c (.i .i64 0))⟩]
def c29r5 : List AOper := [
  ⟨(some 17), none, .bin false .lss (.t 16) (.t 15)⟩]
def c29r6 : List AOper := [
  ⟨(some 18), none, .mv (.t 16)⟩,
  ⟨(some 19), none, .ia 1 (.t 14) (.t 16)⟩,
  ⟨(some 20), none, .ld none (.t 19)⟩,
  ⟨(some 7), none, .mv (.t 18)⟩,
  ⟨(some 8), none, .mv (.t 20)⟩]
def c29r7 : List AOper := [
  ⟨(some 21), none, .mv (.t 8)⟩,
  ⟨(some 22), none, .bin false .lss (.t 21) (.c (.i .i64 0))⟩,
  ⟨(some 23), none, .mv (.t 22)⟩,
  ⟨(some 24), (some (23, false)), .mv (.t 8)⟩,
  ⟨(some 25), (some (23, false)), .mv (.t 0)⟩,
  ⟨(some 26), (some (23, false)), .len (.t 25)⟩,
  ⟨(some 27), (some (23, false)), .bin false .geq (.t 24) (.t 26)⟩,
  ⟨(some 28), none, .pick (.t 23) (.c (.b true)) (.t 27)⟩]
def c29r8 : List AOper := [
  ⟨(some 4), none, .mv (.c (.i .i64 0))⟩,
  ⟨(some 5), none, .mv (.c (.i .i64 2))⟩]
def c29r9 : List AOper := [
  ⟨(some 29), none, .mv (.t 1)⟩,
  ⟨(some 30), none, .mv (.t 7)⟩,
  ⟨(some 31), none, .sli 1 (.t 29) none (some (.t 30))⟩,
  ⟨(some 32), none, .len (.t 31)⟩,
  ⟨(some 33), none, .mv (.c (.i .i64 0))⟩]
def c29r10 : List AOper := [
  ⟨(some 34), none, .bin false .lss (.t 33) (.t 32)⟩]
def c29r11 : List AOper := [
  ⟨(some 35), none, .ia 1 (.t 31) (.t 33)⟩,
  ⟨(some 36), none, .ld none (.t 35)⟩,
  ⟨(some 10), none, .mv (.t 36)⟩]
def c29r12 : List AOper := [
  ⟨(some 37), none, .mv (.t 8)⟩,
  ⟨(some 38), none, .mv (.t 10)⟩,
  ⟨(some 39), none, .bin false .eql (.t 37) (.t 38)⟩]
def c29r13 : List AOper := [
  ⟨(some 4), none, .mv (.c (.i .i64 0))⟩,
  ⟨(some 5), none, .mv (.c (.i .i64 2))⟩]
def c29r14 : List AOper := [
  ⟨(some 40), none, .bin false .add (.t 33) (.c (.i .i64 1))⟩,
  ⟨(some 33), none, .mv (.t 40)⟩]
abbrev c29b15 : AC := (.seq (.reg c29r10) (.seq (.cond (.t 34) .skip (.exit 2)) (.seq (.blk 3 (.seq (.reg c29r11) (.seq (.reg c29r12) (.cond (.t 39) (.seq (.reg c29r13) .ret) .skip)))) (.reg c29r14))))
def c29r16 : List AOper := [
  ⟨(some 41), none, .mv (.t 0)⟩,
  ⟨(some 42), none, .mv (.t 8)⟩,
  ⟨(some 43), none, .ia 1 (.t 41) (.t 42)⟩,
  ⟨(some 44), none, .ld none (.t 43)⟩]
def c29r17 : List AOper := [
  ⟨(some 45), none, .mv (.t 6)⟩,
  ⟨(some 46), none, .bin false .add (.t 45) (.c (.i .i64 1))⟩,
  ⟨(some 6), none, .mv (.t 46)⟩]
def c29r18 : List AOper := [
  ⟨(some 47), none, .bin false .add (.t 16) (.c (.i .i64 1))⟩,
  ⟨(some 16), none, .mv (.t 47)⟩]
abbrev c29b19 : AC := (.seq (.reg c29r5) (.seq (.cond (.t 17) .skip (.exit 0)) (.seq (.blk 1 (.seq (.reg c29r6) (.seq (.seq (.reg c29r7) (.cond (.t 28) (.seq (.reg c29r8) .ret) .skip)) (.seq (.seq (.reg c29r9) (.blk 2 (.loop c29b15))) (.seq (.reg c29r16) (.cond (.t 44) (.reg c29r17) .skip)))))) (.reg c29r18))))
def c29r20 : List AOper := [
  ⟨(some 48), none, .mv (.t 6)⟩,
  ⟨(some 4), none, .mv (.t 48)⟩,
  ⟨(some 5), none, .mv (.c (.i .i64 0))⟩]
abbrev c29 : AC := (.seq (.reg c29r0) (.seq (.seq (.reg c29r1) (.cond (.t 13) (.seq (.reg c29r2) .ret) .skip)) (.seq (.reg c29r3) (.seq (.seq (.reg c29r4) (.blk 0 (.loop c29b19))) (.seq (.reg c29r20) .ret)))))
def q29 : List ARes := [.t 4, .t 5]
theorem fn29 : fnOf Try.prog 29 = some (c29, q29, 49) := by kernel_rfl

/-! 30: pantoscope/pantoscopelaw05.below · slots 59 · [0 p, 1 q, 2 lot, 3 bad, 4 other, 5 p, 6 q, 7 lot, 8 bad, 9 other, 11 a, 12 b, 13 e, 14 c, 15 d, 16 f, 17 n, 18 g] -/
def c30r0 : List AOper := [
  ⟨(some 5), none, .box (.t 0)⟩,
  ⟨(some 6), none, .box (.t 1)⟩,
  ⟨(some 10), none, .mv (.c (.b false))⟩]
def c30r1 : List AOper := [
  ⟨(some 20), none, .ld (some 2) (.t 5)⟩,
  ⟨(some 21), none, .mv (.t 2)⟩,
  ⟨(some 22), none, .mv (.t 3)⟩,
  ⟨(some 23), none, .call (.c (.fn 14 [] [])) [(.t 20), (.t 21), (.t 22)]⟩,
  ⟨(some 19), none, .mv (.t 23)⟩,
  ⟨(some 24), none, .ext (.t 19) 0⟩,
  ⟨(some 25), none, .ext (.t 19) 1⟩,
  ⟨(some 26), none, .ext (.t 19) 2⟩,
  ⟨(some 11), none, .mv (.t 24)⟩,
  ⟨(some 12), none, .mv (.t 25)⟩,
  ⟨(some 13), none, .mv (.t 26)⟩]
def c30r2 : List AOper := [
  ⟨(some 28), none, .ld (some 2) (.t 6)⟩,
  ⟨(some 29), none, .mv (.t 2)⟩,
  ⟨(some 30), none, .mv (.t 4)⟩,
  ⟨(some 31), none, .call (.c (.fn 14 [] [])) [(.t 28), (.t 29), (.t 30)]⟩,
  ⟨(some 27), none, .mv (.t 31)⟩,
  ⟨(some 32), none, .ext (.t 27) 0⟩,
  ⟨(some 33), none, .ext (.t 27) 1⟩,
  ⟨(some 34), none, .ext (.t 27) 2⟩,
  ⟨(some 14), none, .mv (.t 32)⟩,
  ⟨(some 15), none, .mv (.t 33)⟩,
  ⟨(some 16), none, .mv (.t 34)⟩]
def c30r3 : List AOper := [
  ⟨(some 36), none, .mv (.t 11)⟩,
  ⟨(some 37), none, .mv (.t 12)⟩,
  ⟨(some 38), none, .bld [.i .i64 0, .i .i64 0] [(0, 1, (.t 36)), (1, 1, (.t 37))]⟩,
  ⟨(some 39), none, .mv (.t 14)⟩,
  ⟨(some 40), none, .mv (.t 15)⟩,
  ⟨(some 41), none, .bld [.i .i64 0, .i .i64 0] [(0, 1, (.t 39)), (1, 1, (.t 40))]⟩,
  ⟨(some 42), none, .call (.c (.fn 33 [] [])) [(.t 38), (.t 41)]⟩,
  ⟨(some 35), none, .mv (.t 42)⟩,
  ⟨(some 43), none, .ext (.t 35) 0⟩,
  ⟨(some 44), none, .ext (.t 35) 1⟩,
  ⟨(some 17), none, .mv (.t 43)⟩,
  ⟨(some 18), none, .mv (.t 44)⟩]
def c30r4 : List AOper := [
  ⟨(some 45), none, .mv (.t 13)⟩,
  ⟨(some 46), none, .bin false .eql (.t 45) (.c (.i .i64 0))⟩,
  ⟨(some 47), none, .mv (.t 46)⟩,
  ⟨(some 48), (some (47, true)), .mv (.t 16)⟩,
  ⟨(some 49), (some (47, true)), .bin false .eql (.t 48) (.c (.i .i64 0))⟩,
  ⟨(some 50), none, .pick (.t 47) (.t 49) (.c (.b false))⟩,
  ⟨(some 51), none, .mv (.t 50)⟩,
  ⟨(some 52), (some (51, true)), .mv (.t 18)⟩,
  ⟨(some 53), (some (51, true)), .bin false .eql (.t 52) (.c (.i .i64 0))⟩,
  ⟨(some 54), none, .pick (.t 51) (.t 53) (.c (.b false))⟩,
  ⟨(some 55), none, .mv (.t 54)⟩,
  ⟨(some 56), (some (55, true)), .mv (.t 17)⟩,
  ⟨(some 57), (some (55, true)), .bin false .leq (.t 56) (.c (.i .i64 0))⟩,
  ⟨(some 58), none, .pick (.t 55) (.t 57) (.c (.b false))⟩,
  ⟨(some 10), none, .mv (.t 58)⟩]
abbrev c30 : AC := (.seq (.reg c30r0) (.seq (.reg c30r1) (.seq (.reg c30r2) (.seq (.reg c30r3) (.seq (.reg c30r4) .ret)))))
def q30 : List ARes := [.t 10]
theorem fn30 : fnOf Try.prog 30 = some (c30, q30, 59) := by kernel_rfl

/-! 31: pantoscope/sample.Least · slots 62 · [0 lot, 1 bad, 2 accept, 3 most, 4 lot, 5 bad, 6 accept, 7 most, 10 n] -/
def c31r0 : List AOper := [
  ⟨(some 7), none, .box (.t 3)⟩,
  ⟨(some 8), none, .mv (.c (.i .i64 0))⟩,
  ⟨(some 9), none, .mv (.c (.i .i64 0))⟩]
def c31r1 : List AOper := [
  ⟨(some 11), none, .mv (.t 0)⟩,
  ⟨(some 12), none, .bin false .lss (.t 11) (.c (.i .i64 1))⟩,
  ⟨(some 13), none, .mv (.t 12)⟩,
  ⟨(some 14), (some (13, false)), .mv (.t 0)⟩,
  ⟨(some 15), (some (13, false)), .bin false .gtr (.t 14) (.c (.i .i64 60))⟩,
  ⟨(some 16), none, .pick (.t 13) (.c (.b true)) (.t 15)⟩,
  ⟨(some 17), none, .mv (.t 16)⟩,
  ⟨(some 18), (some (17, false)), .mv (.t 1)⟩,
  ⟨(some 19), (some (17, false)), .bin false .lss (.t 18) (.c (.i .i64 0))⟩,
  ⟨(some 20), none, .pick (.t 17) (.c (.b true)) (.t 19)⟩,
  ⟨(some 21), none, .mv (.t 20)⟩,
  ⟨(some 22), (some (21, false)), .mv (.t 1)⟩,
  ⟨(some 23), (some (21, false)), .mv (.t 0)⟩,
  ⟨(some 24), (some (21, false)), .bin false .gtr (.t 22) (.t 23)⟩,
  ⟨(some 25), none, .pick (.t 21) (.c (.b true)) (.t 24)⟩,
  ⟨(some 26), none, .mv (.t 25)⟩,
  ⟨(some 27), (some (26, false)), .mv (.t 2)⟩,
  ⟨(some 28), (some (26, false)), .bin false .lss (.t 27) (.c (.i .i64 0))⟩,
  ⟨(some 29), none, .pick (.t 26) (.c (.b true)) (.t 28)⟩,
  ⟨(some 30), none, .mv (.t 29)⟩,
  ⟨(some 31), (some (30, false)), .mv (.t 2)⟩,
  ⟨(some 32), (some (30, false)), .mv (.t 0)⟩,
  ⟨(some 33), (some (30, false)), .bin false .geq (.t 31) (.t 32)⟩,
  ⟨(some 34), none, .pick (.t 30) (.c (.b true)) (.t 33)⟩,
  ⟨(some 35), none, .mv (.t 34)⟩,
  ⟨(some 36), (some (35, false)), .iap 2 1 (.t 7) (.c (.i .i64 0))⟩,
  ⟨(some 37), (some (35, false)), .ld none (.t 36)⟩,
  ⟨(some 38), (some (35, false)), .bin false .lss (.t 37) (.c (.i .i64 0))⟩,
  ⟨(some 39), none, .pick (.t 35) (.c (.b true)) (.t 38)⟩,
  ⟨(some 40), none, .mv (.t 39)⟩,
  ⟨(some 41), (some (40, false)), .iap 2 1 (.t 7) (.c (.i .i64 1))⟩,
  ⟨(some 42), (some (40, false)), .ld none (.t 41)⟩,
  ⟨(some 43), (some (40, false)), .bin false .lss (.t 42) (.c (.i .i64 1))⟩,
  ⟨(some 44), none, .pick (.t 40) (.c (.b true)) (.t 43)⟩]
def c31r2 : List AOper := [
  ⟨(some 8), none, .mv (.c (.i .i64 0))⟩,
  ⟨(some 9), none, .mv (.c (.i .i64 2))⟩]
def c31r3 : List AOper := [
  ⟨(some 45), none, .mv (.t 2)⟩,
  ⟨(some 46), none, .bin false .add (.t 45) (.c (.i .i64 1))⟩,
  ⟨(some 10), none, .mv (.t 46)⟩]
def c31r4 : List AOper := [
  ⟨(some 47), none, .mv (.t 10)⟩,
  ⟨(some 48), none, .mv (.t 0)⟩,
  ⟨(some 49), none, .bin false .leq (.t 47) (.t 48)⟩]
def c31r5 : List AOper := [
  ⟨(some 52), none, .mv (.t 10)⟩,
  ⟨(some 53), none, .mv (.t 2)⟩,
  ⟨(some 54), none, .bld [.i .i64 0, .i .i64 0] [(0, 1, (.t 52)), (1, 1, (.t 53))]⟩,
  ⟨(some 55), none, .mv (.t 0)⟩,
  ⟨(some 56), none, .mv (.t 1)⟩,
  ⟨(some 57), none, .call (.c (.fn 41 [] [])) [(.t 54), (.t 55), (.t 56)]⟩,
  ⟨(some 58), none, .ld (some 2) (.t 7)⟩,
  ⟨(some 59), none, .call (.c (.fn 47 [] [])) [(.t 57), (.t 58)]⟩,
  ⟨(some 60), none, .bin false .leq (.t 59) (.c (.i .i64 0))⟩]
def c31r6 : List AOper := [
  ⟨(some 61), none, .mv (.t 10)⟩,
  ⟨(some 8), none, .mv (.t 61)⟩,
  ⟨(some 9), none, .mv (.c (.i .i64 0))⟩]
def c31r7 : List AOper := [
  ⟨(some 50), none, .mv (.t 10)⟩,
  ⟨(some 51), none, .bin false .add (.t 50) (.c (.i .i64 1))⟩,
  ⟨(some 10), none, .mv (.t 51)⟩]
abbrev c31b8 : AC := (.seq (.seq (.reg c31r4) (.cond (.t 49) .skip (.exit 0))) (.seq (.blk 1 (.seq (.head 7 c31r5) (.cond (.t 60) (.seq (.reg c31r6) .ret) .skip))) (.reg c31r7)))
def c31r9 : List AOper := [
  ⟨(some 8), none, .mv (.c (.i .i64 0))⟩,
  ⟨(some 9), none, .mv (.c (.i .i64 4))⟩]
abbrev c31 : AC := (.seq (.reg c31r0) (.seq (.seq (.reg c31r1) (.cond (.t 44) (.seq (.reg c31r2) .ret) .skip)) (.seq (.seq (.reg c31r3) (.blk 0 (.loop c31b8))) (.seq (.reg c31r9) .ret))))
def q31 : List ARes := [.t 8, .t 9]
theorem fn31 : fnOf Try.prog 31 = some (c31, q31, 62) := by kernel_rfl

/-! 32: pantoscope/pantoscoperef05.Least · slots 71 · [0 lot, 1 bad, 2 accept, 3 most, 4 lot, 5 bad, 6 accept, 7 most, 10 sample, 11 a, 12 b] -/
def c32r0 : List AOper := [
  ⟨(some 7), none, .box (.t 3)⟩,
  ⟨(some 8), none, .mv (.c (.i .i64 0))⟩,
  ⟨(some 9), none, .mv (.c (.i .i64 0))⟩]
def c32r1 : List AOper := [
  ⟨(some 13), none, .mv (.t 0)⟩,
  ⟨(some 14), none, .bin false .lss (.t 13) (.c (.i .i64 1))⟩,
  ⟨(some 15), none, .mv (.t 14)⟩,
  ⟨(some 16), (some (15, false)), .mv (.t 0)⟩,
  ⟨(some 17), (some (15, false)), .bin false .gtr (.t 16) (.c (.i .i64 60))⟩,
  ⟨(some 18), none, .pick (.t 15) (.c (.b true)) (.t 17)⟩,
  ⟨(some 19), none, .mv (.t 18)⟩,
  ⟨(some 20), (some (19, false)), .mv (.t 1)⟩,
  ⟨(some 21), (some (19, false)), .bin false .lss (.t 20) (.c (.i .i64 0))⟩,
  ⟨(some 22), none, .pick (.t 19) (.c (.b true)) (.t 21)⟩,
  ⟨(some 23), none, .mv (.t 22)⟩,
  ⟨(some 24), (some (23, false)), .mv (.t 1)⟩,
  ⟨(some 25), (some (23, false)), .mv (.t 0)⟩,
  ⟨(some 26), (some (23, false)), .bin false .gtr (.t 24) (.t 25)⟩,
  ⟨(some 27), none, .pick (.t 23) (.c (.b true)) (.t 26)⟩,
  ⟨(some 28), none, .mv (.t 27)⟩,
  ⟨(some 29), (some (28, false)), .mv (.t 2)⟩,
  ⟨(some 30), (some (28, false)), .bin false .lss (.t 29) (.c (.i .i64 0))⟩,
  ⟨(some 31), none, .pick (.t 28) (.c (.b true)) (.t 30)⟩,
  ⟨(some 32), none, .mv (.t 31)⟩,
  ⟨(some 33), (some (32, false)), .mv (.t 2)⟩,
  ⟨(some 34), (some (32, false)), .mv (.t 0)⟩,
  ⟨(some 35), (some (32, false)), .bin false .geq (.t 33) (.t 34)⟩,
  ⟨(some 36), none, .pick (.t 32) (.c (.b true)) (.t 35)⟩,
  ⟨(some 37), none, .mv (.t 36)⟩,
  ⟨(some 38), (some (37, false)), .iap 2 1 (.t 7) (.c (.i .i64 0))⟩,
  ⟨(some 39), (some (37, false)), .ld none (.t 38)⟩,
  ⟨(some 40), (some (37, false)), .bin false .lss (.t 39) (.c (.i .i64 0))⟩,
  ⟨(some 41), none, .pick (.t 37) (.c (.b true)) (.t 40)⟩,
  ⟨(some 42), none, .mv (.t 41)⟩,
  ⟨(some 43), (some (42, false)), .iap 2 1 (.t 7) (.c (.i .i64 1))⟩,
  ⟨(some 44), (some (42, false)), .ld none (.t 43)⟩,
  ⟨(some 45), (some (42, false)), .bin false .lss (.t 44) (.c (.i .i64 1))⟩,
  ⟨(some 46), none, .pick (.t 42) (.c (.b true)) (.t 45)⟩]
def c32r2 : List AOper := [
  ⟨(some 8), none, .mv (.c (.i .i64 0))⟩,
  ⟨(some 9), none, .mv (.c (.i .i64 2))⟩]
def c32r3 : List AOper := [
  ⟨(some 47), none, .mv (.t 2)⟩,
  ⟨(some 48), none, .bin false .add (.t 47) (.c (.i .i64 1))⟩,
  ⟨(some 10), none, .mv (.t 48)⟩]
def c32r4 : List AOper := [
  ⟨(some 49), none, .mv (.t 10)⟩,
  ⟨(some 50), none, .mv (.t 0)⟩,
  ⟨(some 51), none, .bin false .leq (.t 49) (.t 50)⟩]
def c32r5 : List AOper := [
  ⟨(some 55), none, .mv (.t 10)⟩,
  ⟨(some 56), none, .mv (.t 2)⟩,
  ⟨(some 57), none, .mv (.t 0)⟩,
  ⟨(some 58), none, .mv (.t 1)⟩,
  ⟨(some 59), none, .call (.c (.fn 42 [] [])) [(.t 55), (.t 56), (.t 57), (.t 58)]⟩,
  ⟨(some 54), none, .mv (.t 59)⟩,
  ⟨(some 60), none, .ext (.t 54) 0⟩,
  ⟨(some 61), none, .ext (.t 54) 1⟩,
  ⟨(some 11), none, .mv (.t 60)⟩,
  ⟨(some 12), none, .mv (.t 61)⟩]
def c32r6 : List AOper := [
  ⟨(some 62), none, .mv (.t 11)⟩,
  ⟨(some 63), none, .mv (.t 12)⟩,
  ⟨(some 64), none, .iap 2 1 (.t 7) (.c (.i .i64 0))⟩,
  ⟨(some 65), none, .ld none (.t 64)⟩,
  ⟨(some 66), none, .iap 2 1 (.t 7) (.c (.i .i64 1))⟩,
  ⟨(some 67), none, .ld none (.t 66)⟩,
  ⟨(some 68), none, .call (.c (.fn 48 [] [])) [(.t 62), (.t 63), (.t 65), (.t 67)]⟩,
  ⟨(some 69), none, .bin false .leq (.t 68) (.c (.i .i64 0))⟩]
def c32r7 : List AOper := [
  ⟨(some 70), none, .mv (.t 10)⟩,
  ⟨(some 8), none, .mv (.t 70)⟩,
  ⟨(some 9), none, .mv (.c (.i .i64 0))⟩]
def c32r8 : List AOper := [
  ⟨(some 52), none, .mv (.t 10)⟩,
  ⟨(some 53), none, .bin false .add (.t 52) (.c (.i .i64 1))⟩,
  ⟨(some 10), none, .mv (.t 53)⟩]
abbrev c32b9 : AC := (.seq (.seq (.reg c32r4) (.cond (.t 51) .skip (.exit 0))) (.seq (.blk 1 (.seq (.reg c32r5) (.seq (.reg c32r6) (.cond (.t 69) (.seq (.reg c32r7) .ret) .skip)))) (.reg c32r8)))
def c32r10 : List AOper := [
  ⟨(some 8), none, .mv (.c (.i .i64 0))⟩,
  ⟨(some 9), none, .mv (.c (.i .i64 4))⟩]
abbrev c32 : AC := (.seq (.reg c32r0) (.seq (.seq (.reg c32r1) (.cond (.t 46) (.seq (.reg c32r2) .ret) .skip)) (.seq (.seq (.reg c32r3) (.blk 0 (.loop c32b9))) (.seq (.reg c32r10) .ret))))
def q32 : List ARes := [.t 8, .t 9]
theorem fn32 : fnOf Try.prog 32 = some (c32, q32, 71) := by kernel_rfl

/-! 33: pantoscope/sample.Compare · slots 23 · [0 a, 1 b, 2 a, 3 b] -/
def c33r0 : List AOper := [
  ⟨(some 2), none, .box (.t 0)⟩,
  ⟨(some 3), none, .box (.t 1)⟩,
  ⟨(some 4), none, .mv (.c (.i .i64 0))⟩,
  ⟨(some 5), none, .mv (.c (.i .i64 0))⟩]
def c33r1 : List AOper := [
  ⟨(some 6), none, .iap 2 1 (.t 2) (.c (.i .i64 0))⟩,
  ⟨(some 7), none, .ld none (.t 6)⟩,
  ⟨(some 8), none, .iap 2 1 (.t 3) (.c (.i .i64 0))⟩,
  ⟨(some 9), none, .ld none (.t 8)⟩,
  ⟨(some 10), none, .mm false (.t 7) [(.t 9)]⟩,
  ⟨(some 11), none, .bin false .lss (.t 10) (.c (.i .i64 0))⟩,
  ⟨(some 12), none, .mv (.t 11)⟩,
  ⟨(some 13), (some (12, false)), .iap 2 1 (.t 2) (.c (.i .i64 1))⟩,
  ⟨(some 14), (some (12, false)), .ld none (.t 13)⟩,
  ⟨(some 15), (some (12, false)), .iap 2 1 (.t 3) (.c (.i .i64 1))⟩,
  ⟨(some 16), (some (12, false)), .ld none (.t 15)⟩,
  ⟨(some 17), (some (12, false)), .mm false (.t 14) [(.t 16)]⟩,
  ⟨(some 18), (some (12, false)), .bin false .lss (.t 17) (.c (.i .i64 1))⟩,
  ⟨(some 19), none, .pick (.t 12) (.c (.b true)) (.t 18)⟩]
def c33r2 : List AOper := [
  ⟨(some 4), none, .mv (.c (.i .i64 0))⟩,
  ⟨(some 5), none, .mv (.c (.i .i64 2))⟩]
def c33r3 : List AOper := [
  ⟨(some 20), none, .ld (some 2) (.t 2)⟩,
  ⟨(some 21), none, .ld (some 2) (.t 3)⟩,
  ⟨(some 22), none, .call (.c (.fn 47 [] [])) [(.t 20), (.t 21)]⟩,
  ⟨(some 4), none, .mv (.t 22)⟩,
  ⟨(some 5), none, .mv (.c (.i .i64 0))⟩]
abbrev c33 : AC := (.seq (.reg c33r0) (.seq (.seq (.reg c33r1) (.cond (.t 19) (.seq (.reg c33r2) .ret) .skip)) (.seq (.reg c33r3) .ret)))
def q33 : List ARes := [.t 4, .t 5]
theorem fn33 : fnOf Try.prog 33 = some (c33, q33, 23) := by kernel_rfl

/-! 34: pantoscope/sample.History · slots 13 · [0 s, 1 found, 2 s, 3 found] -/
def c34r0 : List AOper := [
  ⟨(some 2), none, .box (.t 0)⟩,
  ⟨(some 4), none, .mv (.c (.sl 0 0 0 0))⟩,
  ⟨(some 5), none, .mv (.c (.i .i64 0))⟩,
  ⟨(some 6), none, .mv (.c (.i .i64 0))⟩]
def c34r1 : List AOper := [
  ⟨(some 7), none, .ld (some 6) (.t 2)⟩,
  ⟨(some 8), none, .mv (.t 1)⟩,
  ⟨(some 9), none, .call (.c (.fn 49 [] [])) [(.t 7), (.c (.i .i64 1)), (.t 8)]⟩,
  ⟨(some 10), none, .ext (.t 9) 0⟩,
  ⟨(some 11), none, .ext (.t 9) 1⟩,
  ⟨(some 12), none, .ext (.t 9) 2⟩,
  ⟨(some 4), none, .mv (.t 10)⟩,
  ⟨(some 5), none, .mv (.t 11)⟩,
  ⟨(some 6), none, .mv (.t 12)⟩]
abbrev c34 : AC := (.seq (.reg c34r0) (.seq (.reg c34r1) .ret))
def q34 : List ARes := [.t 4, .t 5, .t 6]
theorem fn34 : fnOf Try.prog 34 = some (c34, q34, 13) := by kernel_rfl

/-! 35: pantoscope/pantoscoperef05.History · slots 13 · [0 s, 1 found, 2 s, 3 found] -/
def c35r0 : List AOper := [
  ⟨(some 2), none, .box (.t 0)⟩,
  ⟨(some 4), none, .mv (.c (.sl 0 0 0 0))⟩,
  ⟨(some 5), none, .mv (.c (.i .i64 0))⟩,
  ⟨(some 6), none, .mv (.c (.i .i64 0))⟩]
def c35r1 : List AOper := [
  ⟨(some 7), none, .ld (some 6) (.t 2)⟩,
  ⟨(some 8), none, .mv (.t 1)⟩,
  ⟨(some 9), none, .call (.c (.fn 50 [] [])) [(.t 7), (.c (.i .i64 1)), (.t 8)]⟩,
  ⟨(some 10), none, .ext (.t 9) 0⟩,
  ⟨(some 11), none, .ext (.t 9) 1⟩,
  ⟨(some 12), none, .ext (.t 9) 2⟩,
  ⟨(some 4), none, .mv (.t 10)⟩,
  ⟨(some 5), none, .mv (.t 11)⟩,
  ⟨(some 6), none, .mv (.t 12)⟩]
abbrev c35 : AC := (.seq (.reg c35r0) (.seq (.reg c35r1) .ret))
def q35 : List ARes := [.t 4, .t 5, .t 6]
theorem fn35 : fnOf Try.prog 35 = some (c35, q35, 13) := by kernel_rfl

/-! 36: pantoscope/sample.State · slots 18 · [0 s, 1 found, 2 s, 3 found, 6 _, 7 state, 8 e] -/
def c36r0 : List AOper := [
  ⟨(some 2), none, .box (.t 0)⟩,
  ⟨(some 4), none, .mv (.c (.i .i64 0))⟩,
  ⟨(some 5), none, .mv (.c (.i .i64 0))⟩]
def c36r1 : List AOper := [
  ⟨(some 10), none, .ld (some 6) (.t 2)⟩,
  ⟨(some 11), none, .mv (.t 1)⟩,
  ⟨(some 12), none, .call (.c (.fn 34 [] [])) [(.t 10), (.t 11)]⟩,
  ⟨(some 9), none, .mv (.t 12)⟩,
  ⟨(some 13), none, .ext (.t 9) 0⟩,
  ⟨(some 14), none, .ext (.t 9) 1⟩,
  ⟨(some 15), none, .ext (.t 9) 2⟩,
  ⟨(some 6), none, .mv (.t 13)⟩,
  ⟨(some 7), none, .mv (.t 14)⟩,
  ⟨(some 8), none, .mv (.t 15)⟩]
def c36r2 : List AOper := [
  ⟨(some 16), none, .mv (.t 7)⟩,
  ⟨(some 17), none, .mv (.t 8)⟩,
  ⟨(some 4), none, .mv (.t 16)⟩,
  ⟨(some 5), none, .mv (.t 17)⟩]
abbrev c36 : AC := (.seq (.reg c36r0) (.seq (.reg c36r1) (.seq (.reg c36r2) .ret)))
def q36 : List ARes := [.t 4, .t 5]
theorem fn36 : fnOf Try.prog 36 = some (c36, q36, 18) := by kernel_rfl

/-! 37: pantoscope/pantoscopelaw05.sameLots · slots 26 · [0 a, 1 b, 2 a, 3 b, 5 i] -/
def c37r0 : List AOper := [
  ⟨(some 4), none, .mv (.c (.b false))⟩]
def c37r1 : List AOper := [
  ⟨(some 6), none, .mv (.t 0)⟩,
  ⟨(some 7), none, .len (.t 6)⟩,
  ⟨(some 8), none, .mv (.t 1)⟩,
  ⟨(some 9), none, .len (.t 8)⟩,
  ⟨(some 10), none, .bin false .neq (.t 7) (.t 9)⟩]
def c37r2 : List AOper := [
  ⟨(some 4), none, .mv (.c (.b false))⟩]
def c37r3 : List AOper := [
  ⟨(some 11), none, .mv (.t 0)⟩,
  ⟨(some 12), none, .len (.t 11)⟩,
  ⟨(some 13), none, .mv (.c (.i .i64 0))⟩]
def c37r4 : List AOper := [
  ⟨(some 14), none, .bin false .lss (.t 13) (.t 12)⟩]
def c37r5 : List AOper := [
  ⟨(some 15), none, .mv (.t 13)⟩,
  ⟨(some 5), none, .mv (.t 15)⟩]
def c37r6 : List AOper := [
  ⟨(some 16), none, .mv (.t 0)⟩,
  ⟨(some 17), none, .mv (.t 5)⟩,
  ⟨(some 18), none, .ia 2 (.t 16) (.t 17)⟩,
  ⟨(some 19), none, .ld (some 2) (.t 18)⟩,
  ⟨(some 20), none, .mv (.t 1)⟩,
  ⟨(some 21), none, .mv (.t 5)⟩,
  ⟨(some 22), none, .ia 2 (.t 20) (.t 21)⟩,
  ⟨(some 23), none, .ld (some 2) (.t 22)⟩,
  ⟨(some 24), none, .eqa true [0, 1] (.t 19) (.t 23)⟩]
def c37r7 : List AOper := [
  ⟨(some 4), none, .mv (.c (.b false))⟩]
def c37r8 : List AOper := [
  ⟨(some 25), none, .bin false .add (.t 13) (.c (.i .i64 1))⟩,
  ⟨(some 13), none, .mv (.t 25)⟩]
abbrev c37b9 : AC := (.seq (.reg c37r4) (.seq (.cond (.t 14) .skip (.exit 0)) (.seq (.blk 1 (.seq (.reg c37r5) (.seq (.head 8 c37r6) (.cond (.t 24) (.seq (.reg c37r7) .ret) .skip)))) (.reg c37r8))))
def c37r10 : List AOper := [
  ⟨(some 4), none, .mv (.c (.b true))⟩]
abbrev c37 : AC := (.seq (.reg c37r0) (.seq (.seq (.reg c37r1) (.cond (.t 10) (.seq (.reg c37r2) .ret) .skip)) (.seq (.seq (.reg c37r3) (.blk 0 (.loop c37b9))) (.seq (.reg c37r10) .ret))))
def q37 : List ARes := [.t 4]
theorem fn37 : fnOf Try.prog 37 = some (c37, q37, 26) := by kernel_rfl

/-! 38: pantoscope/pantoscopelaw05.refused · slots 19 · [0 l, 1 l, 3 n, 4 _, 5 x] -/
def c38r0 : List AOper := [
  ⟨(some 2), none, .mv (.c (.i .i64 0))⟩]
def c38r1 : List AOper := [
  ⟨(some 3), none, .mv (.c (.i .i64 0))⟩]
def c38r2 : List AOper := [
  ⟨(some 6), none, .mv (.t 0)⟩,
  ⟨(some 7), none, .len (.t 6)⟩,
  ⟨(some 8), none, .mv (.c (.i .i64 0))⟩]
def c38r3 : List AOper := [
  ⟨(some 9), none, .bin false .lss (.t 8) (.t 7)⟩]
def c38r4 : List AOper := [
  ⟨(some 10), none, .ia 2 (.t 6) (.t 8)⟩,
  ⟨(some 11), none, .ld (some 2) (.t 10)⟩,
  ⟨(some 5), none, .alloc [.i .i64 0, .b false]⟩,
  ⟨none, none, .sto (some 2) (.t 5) (.t 11)⟩]
def c38r5 : List AOper := [
  ⟨(some 12), none, .fa (.t 5) 1⟩,
  ⟨(some 13), none, .ld none (.t 12)⟩,
  ⟨(some 14), none, .not (.t 13)⟩]
def c38r6 : List AOper := [
  ⟨(some 15), none, .mv (.t 3)⟩,
  ⟨(some 16), none, .bin false .add (.t 15) (.c (.i .i64 1))⟩,
  ⟨(some 3), none, .mv (.t 16)⟩]
def c38r7 : List AOper := [
  ⟨(some 17), none, .bin false .add (.t 8) (.c (.i .i64 1))⟩,
  ⟨(some 8), none, .mv (.t 17)⟩]
abbrev c38b8 : AC := (.seq (.reg c38r3) (.seq (.cond (.t 9) .skip (.exit 0)) (.seq (.blk 1 (.seq (.reg c38r4) (.seq (.reg c38r5) (.cond (.t 14) (.reg c38r6) .skip)))) (.reg c38r7))))
def c38r9 : List AOper := [
  ⟨(some 18), none, .mv (.t 3)⟩,
  ⟨(some 2), none, .mv (.t 18)⟩]
abbrev c38 : AC := (.seq (.reg c38r0) (.seq (.reg c38r1) (.seq (.seq (.reg c38r2) (.blk 0 (.loop c38b8))) (.seq (.reg c38r9) .ret))))
def q38 : List ARes := [.t 2]
theorem fn38 : fnOf Try.prog 38 = some (c38, q38, 19) := by kernel_rfl

/-! 39: pantoscope/sample.Restart · slots 30 · [0 s, 1 found, 2 more, 3 s, 4 found, 5 more, 9 state, 10 e] -/
def c39r0 : List AOper := [
  ⟨(some 3), none, .box (.t 0)⟩,
  ⟨(some 6), none, .mv (.c (.sl 0 0 0 0))⟩,
  ⟨(some 7), none, .mv (.c (.i .i64 0))⟩,
  ⟨(some 8), none, .mv (.c (.i .i64 0))⟩]
def c39r1 : List AOper := [
  ⟨(some 12), none, .ld (some 6) (.t 3)⟩,
  ⟨(some 13), none, .mv (.t 1)⟩,
  ⟨(some 14), none, .call (.c (.fn 36 [] [])) [(.t 12), (.t 13)]⟩,
  ⟨(some 11), none, .mv (.t 14)⟩,
  ⟨(some 15), none, .ext (.t 11) 0⟩,
  ⟨(some 16), none, .ext (.t 11) 1⟩,
  ⟨(some 9), none, .mv (.t 15)⟩,
  ⟨(some 10), none, .mv (.t 16)⟩]
def c39r2 : List AOper := [
  ⟨(some 18), none, .mv (.t 10)⟩,
  ⟨(some 19), none, .bin false .neq (.t 18) (.c (.i .i64 0))⟩,
  ⟨(some 17), none, .mv (.t 19)⟩]
def c39r3 : List AOper := [
  ⟨(some 20), none, .mv (.t 10)⟩,
  ⟨(some 6), none, .mv (.c (.sl 0 0 0 0))⟩,
  ⟨(some 7), none, .mv (.c (.i .i64 0))⟩,
  ⟨(some 8), none, .mv (.t 20)⟩]
def c39r4 : List AOper := [
  ⟨(some 22), none, .mv (.t 9)⟩,
  ⟨(some 23), none, .bin false .neq (.t 22) (.c (.i .i64 4))⟩,
  ⟨(some 21), none, .mv (.t 23)⟩]
def c39r5 : List AOper := [
  ⟨(some 6), none, .mv (.c (.sl 0 0 0 0))⟩,
  ⟨(some 7), none, .mv (.c (.i .i64 0))⟩,
  ⟨(some 8), none, .mv (.c (.i .i64 2))⟩]
def c39r6 : List AOper := [
  ⟨(some 24), none, .ld (some 6) (.t 3)⟩,
  ⟨(some 25), none, .mv (.t 2)⟩,
  ⟨(some 26), none, .call (.c (.fn 49 [] [])) [(.t 24), (.c (.i .i64 2)), (.t 25)]⟩,
  ⟨(some 27), none, .ext (.t 26) 0⟩,
  ⟨(some 28), none, .ext (.t 26) 1⟩,
  ⟨(some 29), none, .ext (.t 26) 2⟩,
  ⟨(some 6), none, .mv (.t 27)⟩,
  ⟨(some 7), none, .mv (.t 28)⟩,
  ⟨(some 8), none, .mv (.t 29)⟩]
abbrev c39 : AC := (.seq (.reg c39r0) (.seq (.reg c39r1) (.seq (.blk 0 (.seq (.reg c39r2) (.cond (.t 17) (.seq (.reg c39r3) .ret) (.seq (.reg c39r4) (.cond (.t 21) (.seq (.reg c39r5) .ret) .skip))))) (.seq (.reg c39r6) .ret))))
def q39 : List ARes := [.t 6, .t 7, .t 8]
theorem fn39 : fnOf Try.prog 39 = some (c39, q39, 30) := by kernel_rfl

/-! 40: pantoscope/pantoscoperef05.Restart · slots 28 · [0 s, 1 found, 2 more, 3 s, 4 found, 5 more, 9 state, 10 e] -/
def c40r0 : List AOper := [
  ⟨(some 3), none, .box (.t 0)⟩,
  ⟨(some 6), none, .mv (.c (.sl 0 0 0 0))⟩,
  ⟨(some 7), none, .mv (.c (.i .i64 0))⟩,
  ⟨(some 8), none, .mv (.c (.i .i64 0))⟩]
def c40r1 : List AOper := [
  ⟨(some 12), none, .ld (some 6) (.t 3)⟩,
  ⟨(some 13), none, .mv (.t 1)⟩,
  ⟨(some 14), none, .call (.c (.fn 51 [] [])) [(.t 12), (.t 13)]⟩,
  ⟨(some 11), none, .mv (.t 14)⟩,
  ⟨(some 15), none, .ext (.t 11) 0⟩,
  ⟨(some 16), none, .ext (.t 11) 1⟩,
  ⟨(some 9), none, .mv (.t 15)⟩,
  ⟨(some 10), none, .mv (.t 16)⟩]
def c40r2 : List AOper := [
  ⟨(some 17), none, .mv (.t 10)⟩,
  ⟨(some 18), none, .bin false .neq (.t 17) (.c (.i .i64 0))⟩]
def c40r3 : List AOper := [
  ⟨(some 19), none, .mv (.t 10)⟩,
  ⟨(some 6), none, .mv (.c (.sl 0 0 0 0))⟩,
  ⟨(some 7), none, .mv (.c (.i .i64 0))⟩,
  ⟨(some 8), none, .mv (.t 19)⟩]
def c40r4 : List AOper := [
  ⟨(some 20), none, .mv (.t 9)⟩,
  ⟨(some 21), none, .bin false .neq (.t 20) (.c (.i .i64 4))⟩]
def c40r5 : List AOper := [
  ⟨(some 6), none, .mv (.c (.sl 0 0 0 0))⟩,
  ⟨(some 7), none, .mv (.c (.i .i64 0))⟩,
  ⟨(some 8), none, .mv (.c (.i .i64 2))⟩]
def c40r6 : List AOper := [
  ⟨(some 22), none, .ld (some 6) (.t 3)⟩,
  ⟨(some 23), none, .mv (.t 2)⟩,
  ⟨(some 24), none, .call (.c (.fn 50 [] [])) [(.t 22), (.c (.i .i64 2)), (.t 23)]⟩,
  ⟨(some 25), none, .ext (.t 24) 0⟩,
  ⟨(some 26), none, .ext (.t 24) 1⟩,
  ⟨(some 27), none, .ext (.t 24) 2⟩,
  ⟨(some 6), none, .mv (.t 25)⟩,
  ⟨(some 7), none, .mv (.t 26)⟩,
  ⟨(some 8), none, .mv (.t 27)⟩]
abbrev c40 : AC := (.seq (.reg c40r0) (.seq (.reg c40r1) (.seq (.seq (.reg c40r2) (.cond (.t 18) (.seq (.reg c40r3) .ret) .skip)) (.seq (.seq (.reg c40r4) (.cond (.t 21) (.seq (.reg c40r5) .ret) .skip)) (.seq (.reg c40r6) .ret)))))
def q40 : List ARes := [.t 6, .t 7, .t 8]
theorem fn40 : fnOf Try.prog 40 = some (c40, q40, 28) := by kernel_rfl

/-! 41: pantoscope/sample.chance · slots 50 · [0 p, 1 lot, 2 bad, 3 p, 4 lot, 5 bad, 7 num, 8 _, 9 n, 10 den, 11 a, 12 b] -/
def c41r0 : List AOper := [
  ⟨(some 3), none, .box (.t 0)⟩,
  ⟨(some 6), none, .alloc [.i .i64 0, .i .i64 0]⟩]
def c41r1 : List AOper := [
  ⟨(some 7), none, .mv (.c (.i .i64 0))⟩]
def c41r2 : List AOper := [
  ⟨(some 13), none, .mv (.t 1)⟩,
  ⟨(some 14), none, .mv (.t 2)⟩,
  ⟨(some 15), none, .fa (.t 3) 0⟩,
  ⟨(some 16), none, .ld none (.t 15)⟩,
  ⟨(some 17), none, .call (.c (.fn 45 [] [])) [(.t 13), (.t 14), (.t 16)]⟩,
  ⟨(some 18), none, .fa (.t 3) 1⟩,
  ⟨(some 19), none, .ld none (.t 18)⟩,
  ⟨(some 20), none, .bin false .add (.t 19) (.c (.i .i64 1))⟩,
  ⟨(some 21), none, .sli 1 (.t 17) none (some (.t 20))⟩,
  ⟨(some 22), none, .len (.t 21)⟩,
  ⟨(some 23), none, .mv (.c (.i .i64 0))⟩]
def c41r3 : List AOper := [
  ⟨(some 24), none, .bin false .lss (.t 23) (.t 22)⟩]
def c41r4 : List AOper := [
  ⟨(some 25), none, .ia 1 (.t 21) (.t 23)⟩,
  ⟨(some 26), none, .ld none (.t 25)⟩,
  ⟨(some 9), none, .mv (.t 26)⟩]
def c41r5 : List AOper := [
  ⟨(some 27), none, .mv (.t 7)⟩,
  ⟨(some 28), none, .mv (.t 9)⟩,
  ⟨(some 29), none, .bin false .add (.t 27) (.t 28)⟩,
  ⟨(some 7), none, .mv (.t 29)⟩]
def c41r6 : List AOper := [
  ⟨(some 30), none, .bin false .add (.t 23) (.c (.i .i64 1))⟩,
  ⟨(some 23), none, .mv (.t 30)⟩]
abbrev c41b7 : AC := (.seq (.reg c41r3) (.seq (.cond (.t 24) .skip (.exit 0)) (.seq (.blk 1 (.seq (.reg c41r4) (.reg c41r5))) (.reg c41r6))))
def c41r8 : List AOper := [
  ⟨(some 31), none, .mv (.t 1)⟩,
  ⟨(some 32), none, .fa (.t 3) 0⟩,
  ⟨(some 33), none, .ld none (.t 32)⟩,
  ⟨(some 34), none, .call (.c (.fn 43 [] [])) [(.t 31), (.t 33)]⟩,
  ⟨(some 10), none, .mv (.t 34)⟩]
def c41r9 : List AOper := [
  ⟨(some 35), none, .mv (.t 7)⟩,
  ⟨(some 36), none, .mv (.t 10)⟩,
  ⟨(some 11), none, .mv (.t 35)⟩,
  ⟨(some 12), none, .mv (.t 36)⟩]
def c41r10 : List AOper := [
  ⟨(some 37), none, .mv (.t 12)⟩,
  ⟨(some 38), none, .bin false .gtr (.t 37) (.c (.i .i64 0))⟩]
def c41r11 : List AOper := [
  ⟨(some 39), none, .mv (.t 12)⟩,
  ⟨(some 40), none, .mv (.t 11)⟩,
  ⟨(some 41), none, .mv (.t 12)⟩,
  ⟨(some 42), none, .bin false .rem (.t 40) (.t 41)⟩,
  ⟨(some 11), none, .mv (.t 39)⟩,
  ⟨(some 12), none, .mv (.t 42)⟩]
abbrev c41b12 : AC := (.seq (.seq (.reg c41r10) (.cond (.t 38) .skip (.exit 2))) (.blk 3 (.head 5 c41r11)))
def c41r13 : List AOper := [
  ⟨(some 43), none, .mv (.t 7)⟩,
  ⟨(some 44), none, .mv (.t 11)⟩,
  ⟨(some 45), none, .bin false .quo (.t 43) (.t 44)⟩,
  ⟨(some 46), none, .mv (.t 10)⟩,
  ⟨(some 47), none, .mv (.t 11)⟩,
  ⟨(some 48), none, .bin false .quo (.t 46) (.t 47)⟩,
  ⟨(some 49), none, .bld [.i .i64 0, .i .i64 0] [(0, 1, (.t 45)), (1, 1, (.t 48))]⟩,
  ⟨none, none, .sto (some 2) (.t 6) (.t 49)⟩]
abbrev c41 : AC := (.seq (.reg c41r0) (.seq (.reg c41r1) (.seq (.seq (.head 11 c41r2) (.blk 0 (.loop c41b7))) (.seq (.reg c41r8) (.seq (.reg c41r9) (.seq (.blk 2 (.loop c41b12)) (.seq (.head 6 c41r13) .ret)))))))
def q41 : List ARes := [.c 6 (some 2)]
theorem fn41 : fnOf Try.prog 41 = some (c41, q41, 50) := by kernel_rfl

/-! 42: pantoscope/pantoscoperef05.chance · slots 39 · [0 sample, 1 accept, 2 lot, 3 bad, 4 sample, 5 accept, 6 lot, 7 bad, 10 num, 11 den, 12 i, 13 g] -/
def c42r0 : List AOper := [
  ⟨(some 8), none, .mv (.c (.i .i64 0))⟩,
  ⟨(some 9), none, .mv (.c (.i .i64 0))⟩]
def c42r1 : List AOper := [
  ⟨(some 14), none, .mv (.t 2)⟩,
  ⟨(some 15), none, .mv (.t 0)⟩,
  ⟨(some 16), none, .call (.c (.fn 44 [] [])) [(.t 14), (.t 15)]⟩,
  ⟨(some 10), none, .mv (.c (.i .i64 0))⟩,
  ⟨(some 11), none, .mv (.t 16)⟩]
def c42r2 : List AOper := [
  ⟨(some 17), none, .mv (.t 1)⟩,
  ⟨(some 18), none, .bin false .add (.t 17) (.c (.i .i64 1))⟩,
  ⟨(some 19), none, .mv (.c (.i .i64 0))⟩]
def c42r3 : List AOper := [
  ⟨(some 20), none, .bin false .lss (.t 19) (.t 18)⟩]
def c42r4 : List AOper := [
  ⟨(some 21), none, .mv (.t 19)⟩,
  ⟨(some 12), none, .mv (.t 21)⟩]
def c42r5 : List AOper := [
  ⟨(some 22), none, .mv (.t 10)⟩,
  ⟨(some 23), none, .mv (.t 2)⟩,
  ⟨(some 24), none, .mv (.t 3)⟩,
  ⟨(some 25), none, .mv (.t 0)⟩,
  ⟨(some 26), none, .mv (.t 12)⟩,
  ⟨(some 27), none, .call (.c (.fn 46 [] [])) [(.t 23), (.t 24), (.t 25), (.t 26)]⟩,
  ⟨(some 28), none, .bin false .add (.t 22) (.t 27)⟩,
  ⟨(some 10), none, .mv (.t 28)⟩]
def c42r6 : List AOper := [
  ⟨(some 29), none, .bin false .add (.t 19) (.c (.i .i64 1))⟩,
  ⟨(some 19), none, .mv (.t 29)⟩]
abbrev c42b7 : AC := (.seq (.reg c42r3) (.seq (.cond (.t 20) .skip (.exit 0)) (.seq (.blk 1 (.seq (.reg c42r4) (.reg c42r5))) (.reg c42r6))))
def c42r8 : List AOper := [
  ⟨(some 30), none, .mv (.t 10)⟩,
  ⟨(some 31), none, .mv (.t 11)⟩,
  ⟨(some 32), none, .call (.c (.fn 52 [] [])) [(.t 30), (.t 31)]⟩,
  ⟨(some 13), none, .mv (.t 32)⟩]
def c42r9 : List AOper := [
  ⟨(some 33), none, .mv (.t 10)⟩,
  ⟨(some 34), none, .mv (.t 13)⟩,
  ⟨(some 35), none, .bin false .quo (.t 33) (.t 34)⟩,
  ⟨(some 36), none, .mv (.t 11)⟩,
  ⟨(some 37), none, .mv (.t 13)⟩,
  ⟨(some 38), none, .bin false .quo (.t 36) (.t 37)⟩,
  ⟨(some 8), none, .mv (.t 35)⟩,
  ⟨(some 9), none, .mv (.t 38)⟩]
abbrev c42 : AC := (.seq (.reg c42r0) (.seq (.reg c42r1) (.seq (.seq (.reg c42r2) (.blk 0 (.loop c42b7))) (.seq (.reg c42r8) (.seq (.head 7 c42r9) .ret)))))
def q42 : List ARes := [.t 8, .t 9]
theorem fn42 : fnOf Try.prog 42 = some (c42, q42, 39) := by kernel_rfl

/-! 43: pantoscope/sample.choose · slots 47 · [0 n, 1 k, 2 n, 3 k, 5 row, 6 next, 7 i] -/
def c43r0 : List AOper := [
  ⟨(some 4), none, .mv (.c (.i .i64 0))⟩]
def c43r1 : List AOper := [
  ⟨(some 8), none, .mv (.t 1)⟩,
  ⟨(some 9), none, .bin false .lss (.t 8) (.c (.i .i64 0))⟩,
  ⟨(some 10), none, .mv (.t 9)⟩,
  ⟨(some 11), (some (10, false)), .mv (.t 1)⟩,
  ⟨(some 12), (some (10, false)), .mv (.t 0)⟩,
  ⟨(some 13), (some (10, false)), .bin false .gtr (.t 11) (.t 12)⟩,
  ⟨(some 14), none, .pick (.t 10) (.c (.b true)) (.t 13)⟩]
def c43r2 : List AOper := [
  ⟨(some 4), none, .mv (.c (.i .i64 0))⟩]
def c43r3 : List AOper := [
  ⟨(some 15), none, .bsl 1 [.i .i64 0] [(0, 1, (.c (.i .i64 1)))]⟩,
  ⟨(some 5), none, .mv (.t 15)⟩]
def c43r4 : List AOper := [
  ⟨(some 16), none, .mv (.t 0)⟩,
  ⟨(some 17), none, .mv (.c (.i .i64 0))⟩]
def c43r5 : List AOper := [
  ⟨(some 18), none, .bin false .lss (.t 17) (.t 16)⟩]
def c43r6 : List AOper := [
  ⟨(some 19), none, .bsl 1 [.i .i64 0] [(0, 1, (.c (.i .i64 1)))]⟩,
  ⟨(some 20), none, .mv (.t 5)⟩,
  ⟨(some 21), none, .app 1 8 (.t 19) (.t 20)⟩,
  ⟨(some 6), none, .mv (.t 21)⟩]
def c43r7 : List AOper := [
  ⟨(some 7), none, .mv (.c (.i .i64 1))⟩]
def c43r8 : List AOper := [
  ⟨(some 22), none, .mv (.t 7)⟩,
  ⟨(some 23), none, .mv (.t 5)⟩,
  ⟨(some 24), none, .len (.t 23)⟩,
  ⟨(some 25), none, .bin false .lss (.t 22) (.t 24)⟩]
def c43r9 : List AOper := [
  ⟨(some 28), none, .mv (.t 6)⟩,
  ⟨(some 29), none, .mv (.t 7)⟩,
  ⟨(some 30), none, .mv (.t 5)⟩,
  ⟨(some 31), none, .mv (.t 7)⟩,
  ⟨(some 32), none, .bin false .sub (.t 31) (.c (.i .i64 1))⟩,
  ⟨(some 33), none, .ia 1 (.t 30) (.t 32)⟩,
  ⟨(some 34), none, .ld none (.t 33)⟩,
  ⟨(some 35), none, .mv (.t 5)⟩,
  ⟨(some 36), none, .mv (.t 7)⟩,
  ⟨(some 37), none, .ia 1 (.t 35) (.t 36)⟩,
  ⟨(some 38), none, .ld none (.t 37)⟩,
  ⟨(some 39), none, .bin false .add (.t 34) (.t 38)⟩,
  ⟨(some 40), none, .ia 1 (.t 28) (.t 29)⟩,
  ⟨none, none, .sto none (.t 40) (.t 39)⟩]
def c43r10 : List AOper := [
  ⟨(some 26), none, .mv (.t 7)⟩,
  ⟨(some 27), none, .bin false .add (.t 26) (.c (.i .i64 1))⟩,
  ⟨(some 7), none, .mv (.t 27)⟩]
abbrev c43b11 : AC := (.seq (.seq (.reg c43r8) (.cond (.t 25) .skip (.exit 2))) (.seq (.blk 3 (.head 12 c43r9)) (.reg c43r10)))
def c43r12 : List AOper := [
  ⟨(some 41), none, .mv (.t 6)⟩,
  ⟨(some 5), none, .mv (.t 41)⟩]
def c43r13 : List AOper := [
  ⟨(some 42), none, .bin false .add (.t 17) (.c (.i .i64 1))⟩,
  ⟨(some 17), none, .mv (.t 42)⟩]
abbrev c43b14 : AC := (.seq (.reg c43r5) (.seq (.cond (.t 18) .skip (.exit 0)) (.seq (.blk 1 (.seq (.reg c43r6) (.seq (.seq (.reg c43r7) (.blk 2 (.loop c43b11))) (.reg c43r12)))) (.reg c43r13))))
def c43r15 : List AOper := [
  ⟨(some 43), none, .mv (.t 5)⟩,
  ⟨(some 44), none, .mv (.t 1)⟩,
  ⟨(some 45), none, .ia 1 (.t 43) (.t 44)⟩,
  ⟨(some 46), none, .ld none (.t 45)⟩,
  ⟨(some 4), none, .mv (.t 46)⟩]
abbrev c43 : AC := (.seq (.reg c43r0) (.seq (.seq (.reg c43r1) (.cond (.t 14) (.seq (.reg c43r2) .ret) .skip)) (.seq (.reg c43r3) (.seq (.seq (.reg c43r4) (.blk 0 (.loop c43b14))) (.seq (.reg c43r15) .ret)))))
def q43 : List ARes := [.t 4]
theorem fn43 : fnOf Try.prog 43 = some (c43, q43, 47) := by kernel_rfl

/-! 44: pantoscope/pantoscoperef05.Binomial · slots 47 · [0 n, 1 k, 2 n, 3 k, 5 row, 6 next, 7 i] -/
def c44r0 : List AOper := [
  ⟨(some 4), none, .mv (.c (.i .i64 0))⟩]
def c44r1 : List AOper := [
  ⟨(some 8), none, .bsl 1 [.i .i64 0] [(0, 1, (.c (.i .i64 1)))]⟩,
  ⟨(some 5), none, .mv (.t 8)⟩]
def c44r2 : List AOper := [
  ⟨(some 9), none, .mv (.t 0)⟩,
  ⟨(some 10), none, .mv (.c (.i .i64 0))⟩]
def c44r3 : List AOper := [
  ⟨(some 11), none, .bin false .lss (.t 10) (.t 9)⟩]
def c44r4 : List AOper := [
  ⟨(some 12), none, .bsl 1 [.i .i64 0] [(0, 1, (.c (.i .i64 1)))]⟩,
  ⟨(some 6), none, .mv (.t 12)⟩]
def c44r5 : List AOper := [
  ⟨(some 7), none, .mv (.c (.i .i64 1))⟩]
def c44r6 : List AOper := [
  ⟨(some 13), none, .mv (.t 7)⟩,
  ⟨(some 14), none, .mv (.t 5)⟩,
  ⟨(some 15), none, .len (.t 14)⟩,
  ⟨(some 16), none, .bin false .lss (.t 13) (.t 15)⟩]
def c44r7 : List AOper := [
  ⟨(some 19), none, .mv (.t 6)⟩,
  ⟨(some 20), none, .mv (.t 5)⟩,
  ⟨(some 21), none, .mv (.t 7)⟩,
  ⟨(some 22), none, .bin false .sub (.t 21) (.c (.i .i64 1))⟩,
  ⟨(some 23), none, .ia 1 (.t 20) (.t 22)⟩,
  ⟨(some 24), none, .ld none (.t 23)⟩,
  ⟨(some 25), none, .mv (.t 5)⟩,
  ⟨(some 26), none, .mv (.t 7)⟩,
  ⟨(some 27), none, .ia 1 (.t 25) (.t 26)⟩,
  ⟨(some 28), none, .ld none (.t 27)⟩,
  ⟨(some 29), none, .bin false .add (.t 24) (.t 28)⟩,
  ⟨(some 30), none, .bsl 1 [.i .i64 0] [(0, 1, (.t 29))]⟩,
  ⟨(some 31), none, .app 1 8 (.t 19) (.t 30)⟩,
  ⟨(some 6), none, .mv (.t 31)⟩]
def c44r8 : List AOper := [
  ⟨(some 17), none, .mv (.t 7)⟩,
  ⟨(some 18), none, .bin false .add (.t 17) (.c (.i .i64 1))⟩,
  ⟨(some 7), none, .mv (.t 18)⟩]
abbrev c44b9 : AC := (.seq (.seq (.reg c44r6) (.cond (.t 16) .skip (.exit 2))) (.seq (.blk 3 (.head 12 c44r7)) (.reg c44r8)))
def c44r10 : List AOper := [
  ⟨(some 32), none, .mv (.t 6)⟩,
  ⟨(some 33), none, .bsl 1 [.i .i64 0] [(0, 1, (.c (.i .i64 1)))]⟩,
  ⟨(some 34), none, .app 1 8 (.t 32) (.t 33)⟩,
  ⟨(some 5), none, .mv (.t 34)⟩]
def c44r11 : List AOper := [
  ⟨(some 35), none, .bin false .add (.t 10) (.c (.i .i64 1))⟩,
  ⟨(some 10), none, .mv (.t 35)⟩]
abbrev c44b12 : AC := (.seq (.reg c44r3) (.seq (.cond (.t 11) .skip (.exit 0)) (.seq (.blk 1 (.seq (.reg c44r4) (.seq (.seq (.reg c44r5) (.blk 2 (.loop c44b9))) (.reg c44r10)))) (.reg c44r11))))
def c44r13 : List AOper := [
  ⟨(some 36), none, .mv (.t 1)⟩,
  ⟨(some 37), none, .bin false .lss (.t 36) (.c (.i .i64 0))⟩,
  ⟨(some 38), none, .mv (.t 37)⟩,
  ⟨(some 39), (some (38, false)), .mv (.t 1)⟩,
  ⟨(some 40), (some (38, false)), .mv (.t 0)⟩,
  ⟨(some 41), (some (38, false)), .bin false .gtr (.t 39) (.t 40)⟩,
  ⟨(some 42), none, .pick (.t 38) (.c (.b true)) (.t 41)⟩]
def c44r14 : List AOper := [
  ⟨(some 4), none, .mv (.c (.i .i64 0))⟩]
def c44r15 : List AOper := [
  ⟨(some 43), none, .mv (.t 5)⟩,
  ⟨(some 44), none, .mv (.t 1)⟩,
  ⟨(some 45), none, .ia 1 (.t 43) (.t 44)⟩,
  ⟨(some 46), none, .ld none (.t 45)⟩,
  ⟨(some 4), none, .mv (.t 46)⟩]
abbrev c44 : AC := (.seq (.reg c44r0) (.seq (.reg c44r1) (.seq (.seq (.reg c44r2) (.blk 0 (.loop c44b12))) (.seq (.seq (.reg c44r13) (.cond (.t 42) (.seq (.reg c44r14) .ret) .skip)) (.seq (.reg c44r15) .ret)))))
def q44 : List ARes := [.t 4]
theorem fn44 : fnOf Try.prog 44 = some (c44, q44, 47) := by kernel_rfl

/-! 45: pantoscope/sample.ways · slots 30 · [0 lot, 1 bad, 2 sample, 3 lot, 4 bad, 5 sample, 7 out, 8 i] -/
def c45r0 : List AOper := [
  ⟨(some 6), none, .mv (.c (.sl 0 0 0 0))⟩]
def c45r1 : List AOper := [
  ⟨(some 7), none, .mv (.c (.sl 0 0 0 0))⟩]
def c45r2 : List AOper := [
  ⟨(some 9), none, .mv (.t 2)⟩,
  ⟨(some 10), none, .bin false .add (.t 9) (.c (.i .i64 1))⟩,
  ⟨(some 11), none, .mv (.c (.i .i64 0))⟩]
def c45r3 : List AOper := [
  ⟨(some 12), none, .bin false .lss (.t 11) (.t 10)⟩]
def c45r4 : List AOper := [
  ⟨(some 13), none, .mv (.t 11)⟩,
  ⟨(some 8), none, .mv (.t 13)⟩]
def c45r5 : List AOper := [
  ⟨(some 14), none, .mv (.t 7)⟩,
  ⟨(some 15), none, .mv (.t 1)⟩,
  ⟨(some 16), none, .mv (.t 8)⟩,
  ⟨(some 17), none, .call (.c (.fn 43 [] [])) [(.t 15), (.t 16)]⟩,
  ⟨(some 18), none, .mv (.t 0)⟩,
  ⟨(some 19), none, .mv (.t 1)⟩,
  ⟨(some 20), none, .bin false .sub (.t 18) (.t 19)⟩,
  ⟨(some 21), none, .mv (.t 2)⟩,
  ⟨(some 22), none, .mv (.t 8)⟩,
  ⟨(some 23), none, .bin false .sub (.t 21) (.t 22)⟩,
  ⟨(some 24), none, .call (.c (.fn 43 [] [])) [(.t 20), (.t 23)]⟩,
  ⟨(some 25), none, .bin false .mul (.t 17) (.t 24)⟩,
  ⟨(some 26), none, .bsl 1 [.i .i64 0] [(0, 1, (.t 25))]⟩,
  ⟨(some 27), none, .app 1 8 (.t 14) (.t 26)⟩,
  ⟨(some 7), none, .mv (.t 27)⟩]
def c45r6 : List AOper := [
  ⟨(some 28), none, .bin false .add (.t 11) (.c (.i .i64 1))⟩,
  ⟨(some 11), none, .mv (.t 28)⟩]
abbrev c45b7 : AC := (.seq (.reg c45r3) (.seq (.cond (.t 12) .skip (.exit 0)) (.seq (.blk 1 (.seq (.reg c45r4) (.reg c45r5))) (.reg c45r6))))
def c45r8 : List AOper := [
  ⟨(some 29), none, .mv (.t 7)⟩,
  ⟨(some 6), none, .mv (.t 29)⟩]
abbrev c45 : AC := (.seq (.reg c45r0) (.seq (.reg c45r1) (.seq (.seq (.reg c45r2) (.blk 0 (.loop c45b7))) (.seq (.reg c45r8) .ret))))
def q45 : List ARes := [.t 6]
theorem fn45 : fnOf Try.prog 45 = some (c45, q45, 30) := by kernel_rfl

/-! 46: pantoscope/pantoscoperef05.ways · slots 20 · [0 lot, 1 bad, 2 sample, 3 i, 4 lot, 5 bad, 6 sample, 7 i] -/
def c46r0 : List AOper := [
  ⟨(some 8), none, .mv (.c (.i .i64 0))⟩]
def c46r1 : List AOper := [
  ⟨(some 9), none, .mv (.t 1)⟩,
  ⟨(some 10), none, .mv (.t 3)⟩,
  ⟨(some 11), none, .call (.c (.fn 44 [] [])) [(.t 9), (.t 10)]⟩,
  ⟨(some 12), none, .mv (.t 0)⟩,
  ⟨(some 13), none, .mv (.t 1)⟩,
  ⟨(some 14), none, .bin false .sub (.t 12) (.t 13)⟩,
  ⟨(some 15), none, .mv (.t 2)⟩,
  ⟨(some 16), none, .mv (.t 3)⟩,
  ⟨(some 17), none, .bin false .sub (.t 15) (.t 16)⟩,
  ⟨(some 18), none, .call (.c (.fn 44 [] [])) [(.t 14), (.t 17)]⟩,
  ⟨(some 19), none, .bin false .mul (.t 11) (.t 18)⟩,
  ⟨(some 8), none, .mv (.t 19)⟩]
abbrev c46 : AC := (.seq (.reg c46r0) (.seq (.reg c46r1) .ret))
def q46 : List ARes := [.t 8]
theorem fn46 : fnOf Try.prog 46 = some (c46, q46, 20) := by kernel_rfl

/-! 47: pantoscope/sample.compare · slots 52 · [0 a, 1 b, 2 a, 3 b, 5 h1, 6 l1, 7 h2, 8 l2] -/
def c47r0 : List AOper := [
  ⟨(some 2), none, .box (.t 0)⟩,
  ⟨(some 3), none, .box (.t 1)⟩,
  ⟨(some 4), none, .mv (.c (.i .i64 0))⟩]
def c47r1 : List AOper := [
  ⟨(some 10), none, .iap 2 1 (.t 2) (.c (.i .i64 0))⟩,
  ⟨(some 11), none, .ld none (.t 10)⟩,
  ⟨(some 12), none, .conv .u64 (.t 11)⟩,
  ⟨(some 13), none, .iap 2 1 (.t 3) (.c (.i .i64 1))⟩,
  ⟨(some 14), none, .ld none (.t 13)⟩,
  ⟨(some 15), none, .conv .u64 (.t 14)⟩,
  ⟨(some 16), none, .call (.c (.fn 53 [] [])) [(.t 12), (.t 15)]⟩,
  ⟨(some 9), none, .mv (.t 16)⟩,
  ⟨(some 17), none, .ext (.t 9) 0⟩,
  ⟨(some 18), none, .ext (.t 9) 1⟩,
  ⟨(some 5), none, .mv (.t 17)⟩,
  ⟨(some 6), none, .mv (.t 18)⟩]
def c47r2 : List AOper := [
  ⟨(some 20), none, .iap 2 1 (.t 3) (.c (.i .i64 0))⟩,
  ⟨(some 21), none, .ld none (.t 20)⟩,
  ⟨(some 22), none, .conv .u64 (.t 21)⟩,
  ⟨(some 23), none, .iap 2 1 (.t 2) (.c (.i .i64 1))⟩,
  ⟨(some 24), none, .ld none (.t 23)⟩,
  ⟨(some 25), none, .conv .u64 (.t 24)⟩,
  ⟨(some 26), none, .call (.c (.fn 53 [] [])) [(.t 22), (.t 25)]⟩,
  ⟨(some 19), none, .mv (.t 26)⟩,
  ⟨(some 27), none, .ext (.t 19) 0⟩,
  ⟨(some 28), none, .ext (.t 19) 1⟩,
  ⟨(some 7), none, .mv (.t 27)⟩,
  ⟨(some 8), none, .mv (.t 28)⟩]
def c47r3 : List AOper := [
  ⟨(some 30), none, .mv (.t 5)⟩,
  ⟨(some 31), none, .mv (.t 7)⟩,
  ⟨(some 32), none, .bin false .lss (.t 30) (.t 31)⟩,
  ⟨(some 33), none, .mv (.t 32)⟩,
  ⟨(some 34), (some (33, false)), .mv (.t 5)⟩,
  ⟨(some 35), (some (33, false)), .mv (.t 7)⟩,
  ⟨(some 36), (some (33, false)), .bin false .eql (.t 34) (.t 35)⟩,
  ⟨(some 37), (some (33, false)), .mv (.t 36)⟩,
  ⟨(some 38), (some (37, true)), .mv (.t 6)⟩,
  ⟨(some 39), (some (37, true)), .mv (.t 8)⟩,
  ⟨(some 40), (some (37, true)), .bin false .lss (.t 38) (.t 39)⟩,
  ⟨(some 41), (some (33, false)), .pick (.t 37) (.t 40) (.c (.b false))⟩,
  ⟨(some 42), none, .pick (.t 33) (.c (.b true)) (.t 41)⟩,
  ⟨(some 29), none, .mv (.t 42)⟩]
def c47r4 : List AOper := [
  ⟨(some 4), none, .mv (.c (.i .i64 (-1)))⟩]
def c47r5 : List AOper := [
  ⟨(some 44), none, .mv (.t 5)⟩,
  ⟨(some 45), none, .mv (.t 7)⟩,
  ⟨(some 46), none, .bin false .eql (.t 44) (.t 45)⟩,
  ⟨(some 47), none, .mv (.t 46)⟩,
  ⟨(some 48), (some (47, true)), .mv (.t 6)⟩,
  ⟨(some 49), (some (47, true)), .mv (.t 8)⟩,
  ⟨(some 50), (some (47, true)), .bin false .eql (.t 48) (.t 49)⟩,
  ⟨(some 51), none, .pick (.t 47) (.t 50) (.c (.b false))⟩,
  ⟨(some 43), none, .mv (.t 51)⟩]
def c47r6 : List AOper := [
  ⟨(some 4), none, .mv (.c (.i .i64 0))⟩]
def c47r7 : List AOper := [
  ⟨(some 4), none, .mv (.c (.i .i64 1))⟩]
abbrev c47 : AC := (.seq (.reg c47r0) (.seq (.reg c47r1) (.seq (.reg c47r2) (.seq (.blk 0 (.seq (.reg c47r3) (.cond (.t 29) (.seq (.reg c47r4) .ret) (.seq (.reg c47r5) (.cond (.t 43) (.seq (.reg c47r6) .ret) .skip))))) (.seq (.reg c47r7) .ret)))))
def q47 : List ARes := [.t 4]
theorem fn47 : fnOf Try.prog 47 = some (c47, q47, 52) := by kernel_rfl

/-! 48: pantoscope/pantoscoperef05.Order · slots 47 · [0 a, 1 b, 2 c, 3 d, 4 a, 5 b, 6 c, 7 d, 9 p, 10 q, 11 r, 12 s] -/
def c48r0 : List AOper := [
  ⟨(some 8), none, .mv (.c (.i .i64 0))⟩]
def c48r1 : List AOper := [
  ⟨(some 13), none, .mv (.t 0)⟩,
  ⟨(some 14), none, .mv (.t 1)⟩,
  ⟨(some 15), none, .bin false .quo (.t 13) (.t 14)⟩,
  ⟨(some 16), none, .mv (.t 2)⟩,
  ⟨(some 17), none, .mv (.t 3)⟩,
  ⟨(some 18), none, .bin false .quo (.t 16) (.t 17)⟩,
  ⟨(some 9), none, .mv (.t 15)⟩,
  ⟨(some 10), none, .mv (.t 18)⟩]
def c48r2 : List AOper := [
  ⟨(some 19), none, .mv (.t 9)⟩,
  ⟨(some 20), none, .mv (.t 10)⟩,
  ⟨(some 21), none, .bin false .neq (.t 19) (.t 20)⟩]
def c48r3 : List AOper := [
  ⟨(some 22), none, .mv (.t 9)⟩,
  ⟨(some 23), none, .mv (.t 10)⟩,
  ⟨(some 24), none, .bin false .lss (.t 22) (.t 23)⟩]
def c48r4 : List AOper := [
  ⟨(some 8), none, .mv (.c (.i .i64 (-1)))⟩]
def c48r5 : List AOper := [
  ⟨(some 8), none, .mv (.c (.i .i64 1))⟩]
def c48r6 : List AOper := [
  ⟨(some 25), none, .mv (.t 0)⟩,
  ⟨(some 26), none, .mv (.t 1)⟩,
  ⟨(some 27), none, .bin false .rem (.t 25) (.t 26)⟩,
  ⟨(some 28), none, .mv (.t 2)⟩,
  ⟨(some 29), none, .mv (.t 3)⟩,
  ⟨(some 30), none, .bin false .rem (.t 28) (.t 29)⟩,
  ⟨(some 11), none, .mv (.t 27)⟩,
  ⟨(some 12), none, .mv (.t 30)⟩]
def c48r7 : List AOper := [
  ⟨(some 31), none, .mv (.t 11)⟩,
  ⟨(some 32), none, .bin false .eql (.t 31) (.c (.i .i64 0))⟩,
  ⟨(some 33), none, .mv (.t 32)⟩,
  ⟨(some 34), (some (33, false)), .mv (.t 12)⟩,
  ⟨(some 35), (some (33, false)), .bin false .eql (.t 34) (.c (.i .i64 0))⟩,
  ⟨(some 36), none, .pick (.t 33) (.c (.b true)) (.t 35)⟩]
def c48r8 : List AOper := [
  ⟨(some 37), none, .mv (.t 11)⟩,
  ⟨(some 38), none, .mm false (.t 37) [(.c (.i .i64 1))]⟩,
  ⟨(some 39), none, .mv (.t 12)⟩,
  ⟨(some 40), none, .mm false (.t 39) [(.c (.i .i64 1))]⟩,
  ⟨(some 41), none, .bin false .sub (.t 38) (.t 40)⟩,
  ⟨(some 8), none, .mv (.t 41)⟩]
def c48r9 : List AOper := [
  ⟨(some 42), none, .mv (.t 3)⟩,
  ⟨(some 43), none, .mv (.t 12)⟩,
  ⟨(some 44), none, .mv (.t 1)⟩,
  ⟨(some 45), none, .mv (.t 11)⟩,
  ⟨(some 46), none, .call (.c (.fn 48 [] [])) [(.t 42), (.t 43), (.t 44), (.t 45)]⟩,
  ⟨(some 8), none, .mv (.t 46)⟩]
abbrev c48 : AC := (.seq (.reg c48r0) (.seq (.head 7 c48r1) (.seq (.seq (.reg c48r2) (.cond (.t 21) (.seq (.seq (.reg c48r3) (.cond (.t 24) (.seq (.reg c48r4) .ret) .skip)) (.seq (.reg c48r5) .ret)) .skip)) (.seq (.head 7 c48r6) (.seq (.seq (.reg c48r7) (.cond (.t 36) (.seq (.reg c48r8) .ret) .skip)) (.seq (.reg c48r9) .ret))))))
def q48 : List ARes := [.t 8]
theorem fn48 : fnOf Try.prog 48 = some (c48, q48, 47) := by kernel_rfl

/-! 49: pantoscope/sample.run · slots 64 · [0 s, 1 state, 2 found, 3 s, 4 state, 5 found, 9 i, 10 out, 11 _, 12 bad, 13 ok, 14 e] -/
def c49r0 : List AOper := [
  ⟨(some 3), none, .box (.t 0)⟩,
  ⟨(some 6), none, .mv (.c (.sl 0 0 0 0))⟩,
  ⟨(some 7), none, .mv (.c (.i .i64 0))⟩,
  ⟨(some 8), none, .mv (.c (.i .i64 0))⟩]
def c49r1 : List AOper := [
  ⟨(some 15), none, .ld (some 6) (.t 3)⟩,
  ⟨(some 16), none, .call (.c (.fn 21 [] [])) [(.t 15)]⟩,
  ⟨(some 17), none, .not (.t 16)⟩]
def c49r2 : List AOper := [
  ⟨(some 6), none, .mv (.c (.sl 0 0 0 0))⟩,
  ⟨(some 7), none, .mv (.c (.i .i64 0))⟩,
  ⟨(some 8), none, .mv (.c (.i .i64 50))⟩]
def c49r3 : List AOper := [
  ⟨(some 18), none, .mv (.t 2)⟩,
  ⟨(some 19), none, .len (.t 18)⟩,
  ⟨(some 20), none, .bin false .gtr (.t 19) (.c (.i .i64 200))⟩]
def c49r4 : List AOper := [
  ⟨(some 6), none, .mv (.c (.sl 0 0 0 0))⟩,
  ⟨(some 7), none, .mv (.c (.i .i64 0))⟩,
  ⟨(some 8), none, .mv (.c (.i .i64 4))⟩]
def c49r5 : List AOper := [
  ⟨(some 21), none, .ld (some 6) (.t 3)⟩,
  ⟨(some 22), none, .mv (.t 1)⟩,
  ⟨(some 23), none, .bld [.i .i64 0, .i .i64 0, .i .i64 0, .i .i64 0, .i .i64 0, .i .i64 0, .i .i64 0, .sl 0 0 0 0] [(0, 6, (.t 21)), (6, 1, (.t 22))]⟩,
  ⟨(some 24), none, .box (.t 23)⟩,
  ⟨(some 9), none, .mv (.t 24)⟩]
def c49r6 : List AOper := [
  ⟨(some 10), none, .mv (.c (.sl 0 0 0 0))⟩]
def c49r7 : List AOper := [
  ⟨(some 25), none, .mv (.t 2)⟩,
  ⟨(some 26), none, .len (.t 25)⟩,
  ⟨(some 27), none, .mv (.c (.i .i64 0))⟩]
def c49r8 : List AOper := [
  ⟨(some 28), none, .bin false .lss (.t 27) (.t 26)⟩]
def c49r9 : List AOper := [
  ⟨(some 29), none, .ia 1 (.t 25) (.t 27)⟩,
  ⟨(some 30), none, .ld none (.t 29)⟩,
  ⟨(some 12), none, .mv (.t 30)⟩]
def c49r10 : List AOper := [
  ⟨(some 31), none, .mv (.t 9)⟩,
  ⟨(some 32), none, .nck (.t 31)⟩,
  ⟨(some 33), none, .fa (.t 32) 6⟩,
  ⟨(some 34), none, .ld none (.t 33)⟩,
  ⟨(some 35), none, .bin false .eql (.t 34) (.c (.i .i64 4))⟩]
def c49r11 : List AOper := [
  ⟨(some 6), none, .mv (.c (.sl 0 0 0 0))⟩,
  ⟨(some 7), none, .mv (.c (.i .i64 0))⟩,
  ⟨(some 8), none, .mv (.c (.i .i64 51))⟩]
def c49r12 : List AOper := [
  ⟨(some 37), none, .mv (.t 9)⟩,
  ⟨(some 38), none, .call (.c (.fn 54 [] [])) [(.t 37)]⟩,
  ⟨(some 39), none, .mv (.t 12)⟩,
  ⟨(some 40), none, .call (.c (.fn 17 [] [])) [(.t 38), (.t 39)]⟩,
  ⟨(some 36), none, .mv (.t 40)⟩,
  ⟨(some 41), none, .ext (.t 36) 0⟩,
  ⟨(some 42), none, .ext (.t 36) 1⟩,
  ⟨(some 13), none, .mv (.t 41)⟩,
  ⟨(some 14), none, .mv (.t 42)⟩]
def c49r13 : List AOper := [
  ⟨(some 43), none, .mv (.t 14)⟩,
  ⟨(some 44), none, .bin false .neq (.t 43) (.c (.i .i64 0))⟩]
def c49r14 : List AOper := [
  ⟨(some 45), none, .mv (.t 14)⟩,
  ⟨(some 6), none, .mv (.c (.sl 0 0 0 0))⟩,
  ⟨(some 7), none, .mv (.c (.i .i64 0))⟩,
  ⟨(some 8), none, .mv (.t 45)⟩]
def c49r15 : List AOper := [
  ⟨(some 46), none, .mv (.t 10)⟩,
  ⟨(some 47), none, .mv (.t 9)⟩,
  ⟨(some 48), none, .nck (.t 47)⟩,
  ⟨(some 49), none, .fa (.t 48) 6⟩,
  ⟨(some 50), none, .ld none (.t 49)⟩,
  ⟨(some 51), none, .mv (.t 13)⟩,
  ⟨(some 52), none, .bld [.i .i64 0, .b false] [(0, 1, (.t 50)), (1, 1, (.t 51))]⟩,
  ⟨(some 53), none, .bsl 2 [.i .i64 0, .b false] [(0, 2, (.t 52))]⟩,
  ⟨(some 54), none, .app 2 16 (.t 46) (.t 53)⟩,
  ⟨(some 10), none, .mv (.t 54)⟩]
def c49r16 : List AOper := [
  ⟨(some 55), none, .mv (.t 9)⟩,
  ⟨(some 56), none, .mv (.t 13)⟩,
  ⟨(some 57), none, .call (.c (.fn 55 [] [])) [(.t 55), (.t 56)]⟩]
def c49r17 : List AOper := [
  ⟨(some 58), none, .bin false .add (.t 27) (.c (.i .i64 1))⟩,
  ⟨(some 27), none, .mv (.t 58)⟩]
abbrev c49b18 : AC := (.seq (.reg c49r8) (.seq (.cond (.t 28) .skip (.exit 0)) (.seq (.blk 1 (.seq (.reg c49r9) (.seq (.seq (.reg c49r10) (.cond (.t 35) (.seq (.reg c49r11) .ret) .skip)) (.seq (.reg c49r12) (.seq (.seq (.reg c49r13) (.cond (.t 44) (.seq (.reg c49r14) .ret) .skip)) (.seq (.reg c49r15) (.reg c49r16))))))) (.reg c49r17))))
def c49r19 : List AOper := [
  ⟨(some 59), none, .mv (.t 10)⟩,
  ⟨(some 60), none, .mv (.t 9)⟩,
  ⟨(some 61), none, .nck (.t 60)⟩,
  ⟨(some 62), none, .fa (.t 61) 6⟩,
  ⟨(some 63), none, .ld none (.t 62)⟩,
  ⟨(some 6), none, .mv (.t 59)⟩,
  ⟨(some 7), none, .mv (.t 63)⟩,
  ⟨(some 8), none, .mv (.c (.i .i64 0))⟩]
abbrev c49 : AC := (.seq (.reg c49r0) (.seq (.seq (.reg c49r1) (.cond (.t 17) (.seq (.reg c49r2) .ret) .skip)) (.seq (.seq (.reg c49r3) (.cond (.t 20) (.seq (.reg c49r4) .ret) .skip)) (.seq (.reg c49r5) (.seq (.reg c49r6) (.seq (.seq (.reg c49r7) (.blk 0 (.loop c49b18))) (.seq (.head 6 c49r19) .ret)))))))
def q49 : List ARes := [.t 6, .t 7, .t 8]
theorem fn49 : fnOf Try.prog 49 = some (c49, q49, 64) := by kernel_rfl

/-! 50: pantoscope/pantoscoperef05.inspect · slots 61 · [0 s, 1 state, 2 found, 3 s, 4 state, 5 found, 9 out, 10 since, 11 _, 12 bad, 13 ok, 14 e, 15 next] -/
def c50r0 : List AOper := [
  ⟨(some 3), none, .box (.t 0)⟩,
  ⟨(some 6), none, .mv (.c (.sl 0 0 0 0))⟩,
  ⟨(some 7), none, .mv (.c (.i .i64 0))⟩,
  ⟨(some 8), none, .mv (.c (.i .i64 0))⟩]
def c50r1 : List AOper := [
  ⟨(some 16), none, .ld (some 6) (.t 3)⟩,
  ⟨(some 17), none, .call (.c (.fn 22 [] [])) [(.t 16)]⟩,
  ⟨(some 18), none, .not (.t 17)⟩]
def c50r2 : List AOper := [
  ⟨(some 6), none, .mv (.c (.sl 0 0 0 0))⟩,
  ⟨(some 7), none, .mv (.c (.i .i64 0))⟩,
  ⟨(some 8), none, .mv (.c (.i .i64 50))⟩]
def c50r3 : List AOper := [
  ⟨(some 19), none, .mv (.t 2)⟩,
  ⟨(some 20), none, .len (.t 19)⟩,
  ⟨(some 21), none, .bin false .gtr (.t 20) (.c (.i .i64 200))⟩]
def c50r4 : List AOper := [
  ⟨(some 6), none, .mv (.c (.sl 0 0 0 0))⟩,
  ⟨(some 7), none, .mv (.c (.i .i64 0))⟩,
  ⟨(some 8), none, .mv (.c (.i .i64 4))⟩]
def c50r5 : List AOper := [
  ⟨(some 9), none, .mv (.c (.sl 0 0 0 0))⟩]
def c50r6 : List AOper := [
  ⟨(some 10), none, .mv (.c (.sl 0 0 0 0))⟩]
def c50r7 : List AOper := [
  ⟨(some 22), none, .mv (.t 2)⟩,
  ⟨(some 23), none, .len (.t 22)⟩,
  ⟨(some 24), none, .mv (.c (.i .i64 0))⟩]
def c50r8 : List AOper := [
  ⟨(some 25), none, .bin false .lss (.t 24) (.t 23)⟩]
def c50r9 : List AOper := [
  ⟨(some 26), none, .ia 1 (.t 22) (.t 24)⟩,
  ⟨(some 27), none, .ld none (.t 26)⟩,
  ⟨(some 12), none, .mv (.t 27)⟩]
def c50r10 : List AOper := [
  ⟨(some 28), none, .mv (.t 1)⟩,
  ⟨(some 29), none, .bin false .eql (.t 28) (.c (.i .i64 4))⟩]
def c50r11 : List AOper := [
  ⟨(some 6), none, .mv (.c (.sl 0 0 0 0))⟩,
  ⟨(some 7), none, .mv (.c (.i .i64 0))⟩,
  ⟨(some 8), none, .mv (.c (.i .i64 51))⟩]
def c50r12 : List AOper := [
  ⟨(some 31), none, .ld (some 6) (.t 3)⟩,
  ⟨(some 32), none, .mv (.t 1)⟩,
  ⟨(some 33), none, .call (.c (.fn 56 [] [])) [(.t 31), (.t 32)]⟩,
  ⟨(some 34), none, .mv (.t 12)⟩,
  ⟨(some 35), none, .call (.c (.fn 18 [] [])) [(.t 33), (.t 34)]⟩,
  ⟨(some 30), none, .mv (.t 35)⟩,
  ⟨(some 36), none, .ext (.t 30) 0⟩,
  ⟨(some 37), none, .ext (.t 30) 1⟩,
  ⟨(some 13), none, .mv (.t 36)⟩,
  ⟨(some 14), none, .mv (.t 37)⟩]
def c50r13 : List AOper := [
  ⟨(some 38), none, .mv (.t 14)⟩,
  ⟨(some 39), none, .bin false .neq (.t 38) (.c (.i .i64 0))⟩]
def c50r14 : List AOper := [
  ⟨(some 40), none, .mv (.t 14)⟩,
  ⟨(some 6), none, .mv (.c (.sl 0 0 0 0))⟩,
  ⟨(some 7), none, .mv (.c (.i .i64 0))⟩,
  ⟨(some 8), none, .mv (.t 40)⟩]
def c50r15 : List AOper := [
  ⟨(some 41), none, .mv (.t 9)⟩,
  ⟨(some 42), none, .mv (.t 1)⟩,
  ⟨(some 43), none, .mv (.t 13)⟩,
  ⟨(some 44), none, .bld [.i .i64 0, .b false] [(0, 1, (.t 42)), (1, 1, (.t 43))]⟩,
  ⟨(some 45), none, .bsl 2 [.i .i64 0, .b false] [(0, 2, (.t 44))]⟩,
  ⟨(some 46), none, .app 2 16 (.t 41) (.t 45)⟩,
  ⟨(some 9), none, .mv (.t 46)⟩]
def c50r16 : List AOper := [
  ⟨(some 47), none, .mv (.t 10)⟩,
  ⟨(some 48), none, .mv (.t 13)⟩,
  ⟨(some 49), none, .bsl 1 [.b false] [(0, 1, (.t 48))]⟩,
  ⟨(some 50), none, .app 1 1 (.t 47) (.t 49)⟩,
  ⟨(some 10), none, .mv (.t 50)⟩]
def c50r17 : List AOper := [
  ⟨(some 51), none, .mv (.t 1)⟩,
  ⟨(some 52), none, .mv (.t 10)⟩,
  ⟨(some 53), none, .call (.c (.fn 57 [] [])) [(.t 51), (.t 52)]⟩,
  ⟨(some 15), none, .mv (.t 53)⟩]
def c50r18 : List AOper := [
  ⟨(some 54), none, .mv (.t 15)⟩,
  ⟨(some 55), none, .mv (.t 1)⟩,
  ⟨(some 56), none, .bin false .neq (.t 54) (.t 55)⟩]
def c50r19 : List AOper := [
  ⟨(some 10), none, .mv (.c (.sl 0 0 0 0))⟩]
def c50r20 : List AOper := [
  ⟨(some 57), none, .mv (.t 15)⟩,
  ⟨(some 1), none, .mv (.t 57)⟩]
def c50r21 : List AOper := [
  ⟨(some 58), none, .bin false .add (.t 24) (.c (.i .i64 1))⟩,
  ⟨(some 24), none, .mv (.t 58)⟩]
abbrev c50b22 : AC := (.seq (.reg c50r8) (.seq (.cond (.t 25) .skip (.exit 0)) (.seq (.blk 1 (.seq (.reg c50r9) (.seq (.seq (.reg c50r10) (.cond (.t 29) (.seq (.reg c50r11) .ret) .skip)) (.seq (.reg c50r12) (.seq (.seq (.reg c50r13) (.cond (.t 39) (.seq (.reg c50r14) .ret) .skip)) (.seq (.reg c50r15) (.seq (.reg c50r16) (.seq (.reg c50r17) (.seq (.seq (.reg c50r18) (.cond (.t 56) (.reg c50r19) .skip)) (.reg c50r20)))))))))) (.reg c50r21))))
def c50r23 : List AOper := [
  ⟨(some 59), none, .mv (.t 9)⟩,
  ⟨(some 60), none, .mv (.t 1)⟩,
  ⟨(some 6), none, .mv (.t 59)⟩,
  ⟨(some 7), none, .mv (.t 60)⟩,
  ⟨(some 8), none, .mv (.c (.i .i64 0))⟩]
abbrev c50 : AC := (.seq (.reg c50r0) (.seq (.seq (.reg c50r1) (.cond (.t 18) (.seq (.reg c50r2) .ret) .skip)) (.seq (.seq (.reg c50r3) (.cond (.t 21) (.seq (.reg c50r4) .ret) .skip)) (.seq (.reg c50r5) (.seq (.reg c50r6) (.seq (.seq (.reg c50r7) (.blk 0 (.loop c50b22))) (.seq (.reg c50r23) .ret)))))))
def q50 : List ARes := [.t 6, .t 7, .t 8]
theorem fn50 : fnOf Try.prog 50 = some (c50, q50, 61) := by kernel_rfl

/-! 51: pantoscope/pantoscoperef05.State · slots 18 · [0 s, 1 found, 2 s, 3 found, 6 _, 7 state, 8 e] -/
def c51r0 : List AOper := [
  ⟨(some 2), none, .box (.t 0)⟩,
  ⟨(some 4), none, .mv (.c (.i .i64 0))⟩,
  ⟨(some 5), none, .mv (.c (.i .i64 0))⟩]
def c51r1 : List AOper := [
  ⟨(some 10), none, .ld (some 6) (.t 2)⟩,
  ⟨(some 11), none, .mv (.t 1)⟩,
  ⟨(some 12), none, .call (.c (.fn 35 [] [])) [(.t 10), (.t 11)]⟩,
  ⟨(some 9), none, .mv (.t 12)⟩,
  ⟨(some 13), none, .ext (.t 9) 0⟩,
  ⟨(some 14), none, .ext (.t 9) 1⟩,
  ⟨(some 15), none, .ext (.t 9) 2⟩,
  ⟨(some 6), none, .mv (.t 13)⟩,
  ⟨(some 7), none, .mv (.t 14)⟩,
  ⟨(some 8), none, .mv (.t 15)⟩]
def c51r2 : List AOper := [
  ⟨(some 16), none, .mv (.t 7)⟩,
  ⟨(some 17), none, .mv (.t 8)⟩,
  ⟨(some 4), none, .mv (.t 16)⟩,
  ⟨(some 5), none, .mv (.t 17)⟩]
abbrev c51 : AC := (.seq (.reg c51r0) (.seq (.reg c51r1) (.seq (.reg c51r2) .ret)))
def q51 : List ARes := [.t 4, .t 5]
theorem fn51 : fnOf Try.prog 51 = some (c51, q51, 18) := by kernel_rfl

/-! 52: pantoscope/pantoscoperef05.Gcd · slots 12 · [0 a, 1 b, 2 a, 3 b] -/
def c52r0 : List AOper := [
  ⟨(some 4), none, .mv (.c (.i .i64 0))⟩]
def c52r1 : List AOper := [
  ⟨(some 5), none, .mv (.t 1)⟩,
  ⟨(some 6), none, .bin false .gtr (.t 5) (.c (.i .i64 0))⟩]
def c52r2 : List AOper := [
  ⟨(some 7), none, .mv (.t 1)⟩,
  ⟨(some 8), none, .mv (.t 0)⟩,
  ⟨(some 9), none, .mv (.t 1)⟩,
  ⟨(some 10), none, .bin false .rem (.t 8) (.t 9)⟩,
  ⟨(some 0), none, .mv (.t 7)⟩,
  ⟨(some 1), none, .mv (.t 10)⟩]
abbrev c52b3 : AC := (.seq (.seq (.reg c52r1) (.cond (.t 6) .skip (.exit 0))) (.blk 1 (.head 5 c52r2)))
def c52r4 : List AOper := [
  ⟨(some 11), none, .mv (.t 0)⟩,
  ⟨(some 4), none, .mv (.t 11)⟩]
abbrev c52 : AC := (.seq (.reg c52r0) (.seq (.blk 0 (.loop c52b3)) (.seq (.reg c52r4) .ret)))
def q52 : List ARes := [.t 4]
theorem fn52 : fnOf Try.prog 52 = some (c52, q52, 12) := by kernel_rfl

/-! 53: math/bits.Mul64 · slots 51 · [0 x, 1 y, 2 x, 3 y, 4 hi, 5 lo, 6 x0, 7 x1, 8 y0, 9 y1, 10 w0, 11 t, 12 w1, 13 w2] -/
def c53r0 : List AOper := [
  ⟨(some 4), none, .mv (.c (.i .u64 0))⟩,
  ⟨(some 5), none, .mv (.c (.i .u64 0))⟩]
def c53r1 : List AOper := [
  ⟨(some 14), none, .mv (.t 0)⟩,
  ⟨(some 15), none, .bin false .and (.t 14) (.c (.i .u64 4294967295))⟩,
  ⟨(some 6), none, .mv (.t 15)⟩]
def c53r2 : List AOper := [
  ⟨(some 16), none, .mv (.t 0)⟩,
  ⟨(some 17), none, .bin false .shr (.t 16) (.c (.i .u64 32))⟩,
  ⟨(some 7), none, .mv (.t 17)⟩]
def c53r3 : List AOper := [
  ⟨(some 18), none, .mv (.t 1)⟩,
  ⟨(some 19), none, .bin false .and (.t 18) (.c (.i .u64 4294967295))⟩,
  ⟨(some 8), none, .mv (.t 19)⟩]
def c53r4 : List AOper := [
  ⟨(some 20), none, .mv (.t 1)⟩,
  ⟨(some 21), none, .bin false .shr (.t 20) (.c (.i .u64 32))⟩,
  ⟨(some 9), none, .mv (.t 21)⟩]
def c53r5 : List AOper := [
  ⟨(some 22), none, .mv (.t 6)⟩,
  ⟨(some 23), none, .mv (.t 8)⟩,
  ⟨(some 24), none, .bin false .mul (.t 22) (.t 23)⟩,
  ⟨(some 10), none, .mv (.t 24)⟩]
def c53r6 : List AOper := [
  ⟨(some 25), none, .mv (.t 7)⟩,
  ⟨(some 26), none, .mv (.t 8)⟩,
  ⟨(some 27), none, .bin false .mul (.t 25) (.t 26)⟩,
  ⟨(some 28), none, .mv (.t 10)⟩,
  ⟨(some 29), none, .bin false .shr (.t 28) (.c (.i .u64 32))⟩,
  ⟨(some 30), none, .bin false .add (.t 27) (.t 29)⟩,
  ⟨(some 11), none, .mv (.t 30)⟩]
def c53r7 : List AOper := [
  ⟨(some 31), none, .mv (.t 11)⟩,
  ⟨(some 32), none, .bin false .and (.t 31) (.c (.i .u64 4294967295))⟩,
  ⟨(some 12), none, .mv (.t 32)⟩]
def c53r8 : List AOper := [
  ⟨(some 33), none, .mv (.t 11)⟩,
  ⟨(some 34), none, .bin false .shr (.t 33) (.c (.i .u64 32))⟩,
  ⟨(some 13), none, .mv (.t 34)⟩]
def c53r9 : List AOper := [
  ⟨(some 35), none, .mv (.t 12)⟩,
  ⟨(some 36), none, .mv (.t 6)⟩,
  ⟨(some 37), none, .mv (.t 9)⟩,
  ⟨(some 38), none, .bin false .mul (.t 36) (.t 37)⟩,
  ⟨(some 39), none, .bin false .add (.t 35) (.t 38)⟩,
  ⟨(some 12), none, .mv (.t 39)⟩]
def c53r10 : List AOper := [
  ⟨(some 40), none, .mv (.t 7)⟩,
  ⟨(some 41), none, .mv (.t 9)⟩,
  ⟨(some 42), none, .bin false .mul (.t 40) (.t 41)⟩,
  ⟨(some 43), none, .mv (.t 13)⟩,
  ⟨(some 44), none, .bin false .add (.t 42) (.t 43)⟩,
  ⟨(some 45), none, .mv (.t 12)⟩,
  ⟨(some 46), none, .bin false .shr (.t 45) (.c (.i .u64 32))⟩,
  ⟨(some 47), none, .bin false .add (.t 44) (.t 46)⟩,
  ⟨(some 4), none, .mv (.t 47)⟩]
def c53r11 : List AOper := [
  ⟨(some 48), none, .mv (.t 0)⟩,
  ⟨(some 49), none, .mv (.t 1)⟩,
  ⟨(some 50), none, .bin false .mul (.t 48) (.t 49)⟩,
  ⟨(some 5), none, .mv (.t 50)⟩]
abbrev c53 : AC := (.seq (.reg c53r0) (.seq (.reg c53r1) (.seq (.reg c53r2) (.seq (.reg c53r3) (.seq (.reg c53r4) (.seq (.reg c53r5) (.seq (.reg c53r6) (.seq (.reg c53r7) (.seq (.reg c53r8) (.seq (.reg c53r9) (.seq (.reg c53r10) (.seq (.reg c53r11) .ret))))))))))))
def q53 : List ARes := [.t 4, .t 5]
theorem fn53 : fnOf Try.prog 53 = some (c53, q53, 51) := by kernel_rfl

/-! 54: (*pantoscope/sample.inspection).plan · slots 26 · [0 i, 1 i] -/
def c54r0 : List AOper := [
  ⟨(some 2), none, .alloc [.i .i64 0, .i .i64 0]⟩]
def c54r1 : List AOper := [
  ⟨(some 3), none, .mv (.t 0)⟩,
  ⟨(some 4), none, .nck (.t 3)⟩,
  ⟨(some 5), none, .fa (.t 4) 6⟩,
  ⟨(some 6), none, .ld none (.t 5)⟩]
def c54r2 : List AOper := [
  ⟨(some 8), none, .bin false .eql (.t 6) (.c (.i .i64 2))⟩,
  ⟨(some 7), none, .mv (.t 8)⟩]
def c54r3 : List AOper := [
  ⟨(some 9), none, .mv (.t 0)⟩,
  ⟨(some 10), none, .nck (.t 9)⟩,
  ⟨(some 11), none, .fa (.t 10) 0⟩,
  ⟨(some 12), none, .fa (.t 11) 2⟩,
  ⟨(some 13), none, .ld (some 2) (.t 12)⟩,
  ⟨none, none, .sto (some 2) (.t 2) (.t 13)⟩]
def c54r4 : List AOper := [
  ⟨(some 15), none, .bin false .eql (.t 6) (.c (.i .i64 3))⟩,
  ⟨(some 14), none, .mv (.t 15)⟩]
def c54r5 : List AOper := [
  ⟨(some 16), none, .mv (.t 0)⟩,
  ⟨(some 17), none, .nck (.t 16)⟩,
  ⟨(some 18), none, .fa (.t 17) 0⟩,
  ⟨(some 19), none, .fa (.t 18) 4⟩,
  ⟨(some 20), none, .ld (some 2) (.t 19)⟩,
  ⟨none, none, .sto (some 2) (.t 2) (.t 20)⟩]
def c54r6 : List AOper := [
  ⟨(some 21), none, .mv (.t 0)⟩,
  ⟨(some 22), none, .nck (.t 21)⟩,
  ⟨(some 23), none, .fa (.t 22) 0⟩,
  ⟨(some 24), none, .fa (.t 23) 0⟩,
  ⟨(some 25), none, .ld (some 2) (.t 24)⟩,
  ⟨none, none, .sto (some 2) (.t 2) (.t 25)⟩]
abbrev c54 : AC := (.seq (.reg c54r0) (.seq (.seq (.reg c54r1) (.blk 0 (.seq (.reg c54r2) (.cond (.t 7) (.seq (.reg c54r3) .ret) (.seq (.reg c54r4) (.cond (.t 14) (.seq (.reg c54r5) .ret) .skip)))))) (.seq (.reg c54r6) .ret)))
def q54 : List ARes := [.c 2 (some 2)]
theorem fn54 : fnOf Try.prog 54 = some (c54, q54, 26) := by kernel_rfl

/-! 55: (*pantoscope/sample.inspection).step · slots 53 · [0 i, 1 accepted, 2 i, 3 accepted] -/
def c55r0 : List AOper := [
  ⟨(some 4), none, .mv (.t 0)⟩,
  ⟨(some 5), none, .mv (.t 0)⟩,
  ⟨(some 6), none, .nck (.t 5)⟩,
  ⟨(some 7), none, .fa (.t 6) 7⟩,
  ⟨(some 8), none, .ld none (.t 7)⟩,
  ⟨(some 9), none, .mv (.t 1)⟩,
  ⟨(some 10), none, .bsl 1 [.b false] [(0, 1, (.t 9))]⟩,
  ⟨(some 11), none, .app 1 1 (.t 8) (.t 10)⟩,
  ⟨(some 12), none, .nck (.t 4)⟩,
  ⟨(some 13), none, .fa (.t 12) 7⟩,
  ⟨none, none, .sto none (.t 13) (.t 11)⟩]
def c55r1 : List AOper := [
  ⟨(some 14), none, .mv (.t 0)⟩,
  ⟨(some 15), none, .nck (.t 14)⟩,
  ⟨(some 16), none, .fa (.t 15) 6⟩,
  ⟨(some 17), none, .ld none (.t 16)⟩]
def c55r2 : List AOper := [
  ⟨(some 19), none, .bin false .eql (.t 17) (.c (.i .i64 1))⟩,
  ⟨(some 18), none, .mv (.t 19)⟩]
def c55r3 : List AOper := [
  ⟨(some 20), none, .mv (.t 0)⟩,
  ⟨(some 21), none, .call (.c (.fn 58 [] [])) [(.t 20), (.c (.i .i64 5)), (.c (.b false))]⟩,
  ⟨(some 22), none, .bin false .geq (.t 21) (.c (.i .i64 2))⟩]
def c55r4 : List AOper := [
  ⟨(some 23), none, .mv (.t 0)⟩,
  ⟨(some 24), none, .call (.c (.fn 59 [] [])) [(.t 23), (.c (.i .i64 2))]⟩]
def c55r5 : List AOper := [
  ⟨(some 25), none, .mv (.t 0)⟩,
  ⟨(some 26), none, .call (.c (.fn 58 [] [])) [(.t 25), (.c (.i .i64 10)), (.c (.b true))]⟩,
  ⟨(some 27), none, .bin false .eql (.t 26) (.c (.i .i64 10))⟩]
def c55r6 : List AOper := [
  ⟨(some 28), none, .mv (.t 0)⟩,
  ⟨(some 29), none, .call (.c (.fn 59 [] [])) [(.t 28), (.c (.i .i64 3))]⟩]
def c55r7 : List AOper := [
  ⟨(some 31), none, .bin false .eql (.t 17) (.c (.i .i64 2))⟩,
  ⟨(some 30), none, .mv (.t 31)⟩]
def c55r8 : List AOper := [
  ⟨(some 32), none, .mv (.t 0)⟩,
  ⟨(some 33), none, .call (.c (.fn 58 [] [])) [(.t 32), (.c (.i .i64 5)), (.c (.b true))]⟩,
  ⟨(some 34), none, .bin false .eql (.t 33) (.c (.i .i64 5))⟩]
def c55r9 : List AOper := [
  ⟨(some 35), none, .mv (.t 0)⟩,
  ⟨(some 36), none, .call (.c (.fn 59 [] [])) [(.t 35), (.c (.i .i64 1))]⟩]
def c55r10 : List AOper := [
  ⟨(some 37), none, .mv (.t 0)⟩,
  ⟨(some 38), none, .mv (.t 0)⟩,
  ⟨(some 39), none, .nck (.t 38)⟩,
  ⟨(some 40), none, .fa (.t 39) 7⟩,
  ⟨(some 41), none, .ld none (.t 40)⟩,
  ⟨(some 42), none, .len (.t 41)⟩,
  ⟨(some 43), none, .call (.c (.fn 58 [] [])) [(.t 37), (.t 42), (.c (.b false))]⟩,
  ⟨(some 44), none, .bin false .geq (.t 43) (.c (.i .i64 5))⟩]
def c55r11 : List AOper := [
  ⟨(some 45), none, .mv (.t 0)⟩,
  ⟨(some 46), none, .call (.c (.fn 59 [] [])) [(.t 45), (.c (.i .i64 4))]⟩]
def c55r12 : List AOper := [
  ⟨(some 48), none, .bin false .eql (.t 17) (.c (.i .i64 3))⟩,
  ⟨(some 47), none, .mv (.t 48)⟩]
def c55r13 : List AOper := [
  ⟨(some 49), none, .mv (.t 1)⟩,
  ⟨(some 50), none, .not (.t 49)⟩]
def c55r14 : List AOper := [
  ⟨(some 51), none, .mv (.t 0)⟩,
  ⟨(some 52), none, .call (.c (.fn 59 [] [])) [(.t 51), (.c (.i .i64 1))]⟩]
abbrev c55 : AC := (.seq (.reg c55r0) (.seq (.reg c55r1) (.blk 0 (.seq (.reg c55r2) (.cond (.t 18) (.seq (.reg c55r3) (.cond (.t 22) (.reg c55r4) (.seq (.reg c55r5) (.cond (.t 27) (.reg c55r6) .skip)))) (.seq (.reg c55r7) (.cond (.t 30) (.seq (.reg c55r8) (.cond (.t 34) (.reg c55r9) (.seq (.reg c55r10) (.cond (.t 44) (.reg c55r11) .skip)))) (.seq (.reg c55r12) (.cond (.t 47) (.seq (.reg c55r13) (.cond (.t 50) (.reg c55r14) .skip)) .skip)))))))))
def q55 : List ARes := []
theorem fn55 : fnOf Try.prog 55 = some (c55, q55, 53) := by kernel_rfl

/-! 56: pantoscope/pantoscoperef05.plan · slots 16 · [0 s, 1 state, 2 s, 3 state] -/
def c56r0 : List AOper := [
  ⟨(some 2), none, .box (.t 0)⟩,
  ⟨(some 4), none, .alloc [.i .i64 0, .i .i64 0]⟩]
def c56r1 : List AOper := [
  ⟨(some 5), none, .mv (.t 1)⟩]
def c56r2 : List AOper := [
  ⟨(some 7), none, .bin false .eql (.t 5) (.c (.i .i64 2))⟩,
  ⟨(some 6), none, .mv (.t 7)⟩]
def c56r3 : List AOper := [
  ⟨(some 8), none, .fa (.t 2) 2⟩,
  ⟨(some 9), none, .ld (some 2) (.t 8)⟩,
  ⟨none, none, .sto (some 2) (.t 4) (.t 9)⟩]
def c56r4 : List AOper := [
  ⟨(some 11), none, .bin false .eql (.t 5) (.c (.i .i64 3))⟩,
  ⟨(some 10), none, .mv (.t 11)⟩]
def c56r5 : List AOper := [
  ⟨(some 12), none, .fa (.t 2) 4⟩,
  ⟨(some 13), none, .ld (some 2) (.t 12)⟩,
  ⟨none, none, .sto (some 2) (.t 4) (.t 13)⟩]
def c56r6 : List AOper := [
  ⟨(some 14), none, .fa (.t 2) 0⟩,
  ⟨(some 15), none, .ld (some 2) (.t 14)⟩,
  ⟨none, none, .sto (some 2) (.t 4) (.t 15)⟩]
abbrev c56 : AC := (.seq (.reg c56r0) (.seq (.seq (.reg c56r1) (.blk 0 (.seq (.reg c56r2) (.cond (.t 6) (.seq (.reg c56r3) .ret) (.seq (.reg c56r4) (.cond (.t 10) (.seq (.reg c56r5) .ret) .skip)))))) (.seq (.reg c56r6) .ret)))
def q56 : List ARes := [.c 4 (some 2)]
theorem fn56 : fnOf Try.prog 56 = some (c56, q56, 16) := by kernel_rfl

/-! 57: pantoscope/pantoscoperef05.behind · slots 40 · [0 state, 1 l, 2 state, 3 l] -/
def c57r0 : List AOper := [
  ⟨(some 4), none, .mv (.c (.i .i64 0))⟩]
def c57r1 : List AOper := [
  ⟨(some 5), none, .mv (.t 0)⟩]
def c57r2 : List AOper := [
  ⟨(some 7), none, .bin false .eql (.t 5) (.c (.i .i64 1))⟩,
  ⟨(some 6), none, .mv (.t 7)⟩]
def c57r3 : List AOper := [
  ⟨(some 8), none, .mv (.t 1)⟩,
  ⟨(some 9), none, .call (.c (.fn 60 [] [])) [(.t 8), (.c (.i .i64 5))]⟩,
  ⟨(some 10), none, .bin false .geq (.t 9) (.c (.i .i64 2))⟩]
def c57r4 : List AOper := [
  ⟨(some 4), none, .mv (.c (.i .i64 2))⟩]
def c57r5 : List AOper := [
  ⟨(some 11), none, .mv (.t 1)⟩,
  ⟨(some 12), none, .len (.t 11)⟩,
  ⟨(some 13), none, .bin false .geq (.t 12) (.c (.i .i64 10))⟩,
  ⟨(some 14), none, .mv (.t 13)⟩,
  ⟨(some 15), (some (14, true)), .mv (.t 1)⟩,
  ⟨(some 16), (some (14, true)), .call (.c (.fn 60 [] [])) [(.t 15), (.c (.i .i64 10))]⟩,
  ⟨(some 17), (some (14, true)), .bin false .eql (.t 16) (.c (.i .i64 0))⟩,
  ⟨(some 18), none, .pick (.t 14) (.t 17) (.c (.b false))⟩]
def c57r6 : List AOper := [
  ⟨(some 4), none, .mv (.c (.i .i64 3))⟩]
def c57r7 : List AOper := [
  ⟨(some 20), none, .bin false .eql (.t 5) (.c (.i .i64 2))⟩,
  ⟨(some 19), none, .mv (.t 20)⟩]
def c57r8 : List AOper := [
  ⟨(some 21), none, .mv (.t 1)⟩,
  ⟨(some 22), none, .len (.t 21)⟩,
  ⟨(some 23), none, .bin false .geq (.t 22) (.c (.i .i64 5))⟩,
  ⟨(some 24), none, .mv (.t 23)⟩,
  ⟨(some 25), (some (24, true)), .mv (.t 1)⟩,
  ⟨(some 26), (some (24, true)), .call (.c (.fn 60 [] [])) [(.t 25), (.c (.i .i64 5))]⟩,
  ⟨(some 27), (some (24, true)), .bin false .eql (.t 26) (.c (.i .i64 0))⟩,
  ⟨(some 28), none, .pick (.t 24) (.t 27) (.c (.b false))⟩]
def c57r9 : List AOper := [
  ⟨(some 4), none, .mv (.c (.i .i64 1))⟩]
def c57r10 : List AOper := [
  ⟨(some 29), none, .mv (.t 1)⟩,
  ⟨(some 30), none, .mv (.t 1)⟩,
  ⟨(some 31), none, .len (.t 30)⟩,
  ⟨(some 32), none, .call (.c (.fn 60 [] [])) [(.t 29), (.t 31)]⟩,
  ⟨(some 33), none, .bin false .geq (.t 32) (.c (.i .i64 5))⟩]
def c57r11 : List AOper := [
  ⟨(some 4), none, .mv (.c (.i .i64 4))⟩]
def c57r12 : List AOper := [
  ⟨(some 35), none, .bin false .eql (.t 5) (.c (.i .i64 3))⟩,
  ⟨(some 34), none, .mv (.t 35)⟩]
def c57r13 : List AOper := [
  ⟨(some 36), none, .mv (.t 1)⟩,
  ⟨(some 37), none, .call (.c (.fn 60 [] [])) [(.t 36), (.c (.i .i64 1))]⟩,
  ⟨(some 38), none, .bin false .eql (.t 37) (.c (.i .i64 1))⟩]
def c57r14 : List AOper := [
  ⟨(some 4), none, .mv (.c (.i .i64 1))⟩]
def c57r15 : List AOper := [
  ⟨(some 39), none, .mv (.t 0)⟩,
  ⟨(some 4), none, .mv (.t 39)⟩]
abbrev c57 : AC := (.seq (.reg c57r0) (.seq (.seq (.reg c57r1) (.blk 0 (.seq (.reg c57r2) (.cond (.t 6) (.seq (.seq (.reg c57r3) (.cond (.t 10) (.seq (.reg c57r4) .ret) .skip)) (.seq (.reg c57r5) (.cond (.t 18) (.seq (.reg c57r6) .ret) .skip))) (.seq (.reg c57r7) (.cond (.t 19) (.seq (.seq (.reg c57r8) (.cond (.t 28) (.seq (.reg c57r9) .ret) .skip)) (.seq (.reg c57r10) (.cond (.t 33) (.seq (.reg c57r11) .ret) .skip))) (.seq (.reg c57r12) (.cond (.t 34) (.seq (.reg c57r13) (.cond (.t 38) (.seq (.reg c57r14) .ret) .skip)) .skip)))))))) (.seq (.reg c57r15) .ret)))
def q57 : List ARes := [.t 4]
theorem fn57 : fnOf Try.prog 57 = some (c57, q57, 40) := by kernel_rfl

/-! 58: (*pantoscope/sample.inspection).count · slots 35 · [0 i, 1 n, 2 accepted, 3 i, 4 n, 5 accepted, 7 k, 8 _, 9 r] -/
def c58r0 : List AOper := [
  ⟨(some 6), none, .mv (.c (.i .i64 0))⟩]
def c58r1 : List AOper := [
  ⟨(some 7), none, .mv (.c (.i .i64 0))⟩]
def c58r2 : List AOper := [
  ⟨(some 10), none, .mv (.t 0)⟩,
  ⟨(some 11), none, .nck (.t 10)⟩,
  ⟨(some 12), none, .fa (.t 11) 7⟩,
  ⟨(some 13), none, .ld none (.t 12)⟩,
  ⟨(some 14), none, .mv (.t 0)⟩,
  ⟨(some 15), none, .nck (.t 14)⟩,
  ⟨(some 16), none, .fa (.t 15) 7⟩,
  ⟨(some 17), none, .ld none (.t 16)⟩,
  ⟨(some 18), none, .len (.t 17)⟩,
  ⟨(some 19), none, .mv (.t 1)⟩,
  ⟨(some 20), none, .bin false .sub (.t 18) (.t 19)⟩,
  ⟨(some 21), none, .mm true (.c (.i .i64 0)) [(.t 20)]⟩,
  ⟨(some 22), none, .sli 1 (.t 13) (some (.t 21)) none⟩,
  ⟨(some 23), none, .len (.t 22)⟩,
  ⟨(some 24), none, .mv (.c (.i .i64 0))⟩]
def c58r3 : List AOper := [
  ⟨(some 25), none, .bin false .lss (.t 24) (.t 23)⟩]
def c58r4 : List AOper := [
  ⟨(some 26), none, .ia 1 (.t 22) (.t 24)⟩,
  ⟨(some 27), none, .ld none (.t 26)⟩,
  ⟨(some 9), none, .mv (.t 27)⟩]
def c58r5 : List AOper := [
  ⟨(some 28), none, .mv (.t 9)⟩,
  ⟨(some 29), none, .mv (.t 2)⟩,
  ⟨(some 30), none, .bin true .eql (.t 28) (.t 29)⟩]
def c58r6 : List AOper := [
  ⟨(some 31), none, .mv (.t 7)⟩,
  ⟨(some 32), none, .bin false .add (.t 31) (.c (.i .i64 1))⟩,
  ⟨(some 7), none, .mv (.t 32)⟩]
def c58r7 : List AOper := [
  ⟨(some 33), none, .bin false .add (.t 24) (.c (.i .i64 1))⟩,
  ⟨(some 24), none, .mv (.t 33)⟩]
abbrev c58b8 : AC := (.seq (.reg c58r3) (.seq (.cond (.t 25) .skip (.exit 0)) (.seq (.blk 1 (.seq (.reg c58r4) (.seq (.reg c58r5) (.cond (.t 30) (.reg c58r6) .skip)))) (.reg c58r7))))
def c58r9 : List AOper := [
  ⟨(some 34), none, .mv (.t 7)⟩,
  ⟨(some 6), none, .mv (.t 34)⟩]
abbrev c58 : AC := (.seq (.reg c58r0) (.seq (.reg c58r1) (.seq (.seq (.head 15 c58r2) (.blk 0 (.loop c58b8))) (.seq (.reg c58r9) .ret))))
def q58 : List ARes := [.t 6]
theorem fn58 : fnOf Try.prog 58 = some (c58, q58, 35) := by kernel_rfl

/-! 59: (*pantoscope/sample.inspection).enter · slots 11 · [0 i, 1 state, 2 i, 3 state] -/
def c59r0 : List AOper := [
  ⟨(some 4), none, .mv (.t 0)⟩,
  ⟨(some 5), none, .mv (.t 0)⟩,
  ⟨(some 6), none, .mv (.t 1)⟩,
  ⟨(some 7), none, .nck (.t 4)⟩,
  ⟨(some 8), none, .fa (.t 7) 6⟩,
  ⟨none, none, .sto none (.t 8) (.t 6)⟩,
  ⟨(some 9), none, .nck (.t 5)⟩,
  ⟨(some 10), none, .fa (.t 9) 7⟩,
  ⟨none, none, .sto none (.t 10) (.c (.sl 0 0 0 0))⟩]
abbrev c59 : AC := (.reg c59r0)
def q59 : List ARes := []
theorem fn59 : fnOf Try.prog 59 = some (c59, q59, 11) := by kernel_rfl

/-! 60: pantoscope/pantoscoperef05.refused · slots 26 · [0 l, 1 most, 2 l, 3 most, 5 n, 6 i] -/
def c60r0 : List AOper := [
  ⟨(some 4), none, .mv (.c (.i .i64 0))⟩]
def c60r1 : List AOper := [
  ⟨(some 5), none, .mv (.c (.i .i64 0))⟩]
def c60r2 : List AOper := [
  ⟨(some 7), none, .mv (.t 0)⟩,
  ⟨(some 8), none, .len (.t 7)⟩,
  ⟨(some 9), none, .mv (.t 1)⟩,
  ⟨(some 10), none, .bin false .sub (.t 8) (.t 9)⟩,
  ⟨(some 11), none, .mm true (.t 10) [(.c (.i .i64 0))]⟩,
  ⟨(some 6), none, .mv (.t 11)⟩]
def c60r3 : List AOper := [
  ⟨(some 12), none, .mv (.t 6)⟩,
  ⟨(some 13), none, .mv (.t 0)⟩,
  ⟨(some 14), none, .len (.t 13)⟩,
  ⟨(some 15), none, .bin false .lss (.t 12) (.t 14)⟩]
def c60r4 : List AOper := [
  ⟨(some 18), none, .mv (.t 0)⟩,
  ⟨(some 19), none, .mv (.t 6)⟩,
  ⟨(some 20), none, .ia 1 (.t 18) (.t 19)⟩,
  ⟨(some 21), none, .ld none (.t 20)⟩,
  ⟨(some 22), none, .not (.t 21)⟩]
def c60r5 : List AOper := [
  ⟨(some 23), none, .mv (.t 5)⟩,
  ⟨(some 24), none, .bin false .add (.t 23) (.c (.i .i64 1))⟩,
  ⟨(some 5), none, .mv (.t 24)⟩]
def c60r6 : List AOper := [
  ⟨(some 16), none, .mv (.t 6)⟩,
  ⟨(some 17), none, .bin false .add (.t 16) (.c (.i .i64 1))⟩,
  ⟨(some 6), none, .mv (.t 17)⟩]
abbrev c60b7 : AC := (.seq (.seq (.reg c60r3) (.cond (.t 15) .skip (.exit 0))) (.seq (.blk 1 (.seq (.reg c60r4) (.cond (.t 22) (.reg c60r5) .skip))) (.reg c60r6)))
def c60r8 : List AOper := [
  ⟨(some 25), none, .mv (.t 5)⟩,
  ⟨(some 4), none, .mv (.t 25)⟩]
abbrev c60 : AC := (.seq (.reg c60r0) (.seq (.reg c60r1) (.seq (.seq (.reg c60r2) (.blk 0 (.loop c60b7))) (.seq (.reg c60r8) .ret))))
def q60 : List ARes := [.t 4]
theorem fn60 : fnOf Try.prog 60 = some (c60, q60, 26) := by kernel_rfl

end Go.Proofs.Ytappehafkjcabaa
