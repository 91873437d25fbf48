/- The functions of this seat as the abstract machine reads them (written by a program; each equation is checked by the kernel). -/
import Derived.Test.YtbhkbaapfioijaaProg
import Derived.Test.YtbhkbaapfioijaaAmO
import Derived.KernelRfl
namespace Go.Proofs.Ytbhkbaapfioijaa
open Go Go.Am Go.Proofs
/-! 3: pantoscope/pantoscopetop.TopPairs · slots 214 · [0 l, 1 tols, 2 l, 3 tols, 5 last, 6 most, 7 tol, 8 i, 9 n, 10 e, 11 p, 12 f, 13 g, 14 h, 15 is, 16 j, 17 worst, 18 j, 19 k, 20 t, 21 j, 22 colour, 23 left, 24 right, 25 i, 26 _, 27 e] -/
def c3r0 : List AOper := [
  ⟨(some 3), none, .box (.t 1)⟩,
  ⟨(some 4), none, .mv (.c (.b false))⟩]
def c3r1 : List AOper := [
  ⟨(some 28), none, .mv (.t 0)⟩,
  ⟨(some 29), none, .len (.t 28)⟩,
  ⟨(some 30), none, .bin false .gtr (.t 29) (.c (.i .i64 16))⟩,
  ⟨(some 31), none, .mv (.t 30)⟩,
  ⟨(some 32), (some (31, false)), .mv (.t 0)⟩,
  ⟨(some 33), (some (31, false)), .call (.c (.fn 14 [] [])) [(.t 32)]⟩,
  ⟨(some 34), (some (31, false)), .not (.t 33)⟩,
  ⟨(some 35), none, .pick (.t 31) (.c (.b true)) (.t 34)⟩]
def c3r2 : List AOper := [
  ⟨(some 36), none, .call (.c (.fn 15 [] [])) []⟩,
  ⟨(some 4), none, .mv (.t 36)⟩]
def c3r3 : List AOper := [
  ⟨(some 5), none, .mv (.c (.i .i64 (-1)))⟩,
  ⟨(some 6), none, .mv (.c (.i .i64 0))⟩]
def c3r4 : List AOper := [
  ⟨(some 7), none, .mv (.c (.i .i64 0))⟩]
def c3r5 : List AOper := [
  ⟨(some 8), none, .mv (.c (.i .i64 0))⟩]
def c3r6 : List AOper := [
  ⟨(some 37), none, .mv (.t 8)⟩,
  ⟨(some 38), none, .bin false .lss (.t 37) (.c (.i .i64 3))⟩]
def c3r7 : List AOper := [
  ⟨(some 41), none, .mv (.t 7)⟩,
  ⟨(some 42), none, .mv (.t 8)⟩,
  ⟨(some 43), none, .iap 3 1 (.t 3) (.t 42)⟩,
  ⟨(some 44), none, .ld none (.t 43)⟩,
  ⟨(some 45), none, .conv .i64 (.t 44)⟩,
  ⟨(some 46), none, .bin false .rem (.t 45) (.c (.i .i64 400))⟩,
  ⟨(some 47), none, .bin false .add (.t 41) (.t 46)⟩,
  ⟨(some 48), none, .mm false (.t 47) [(.c (.i .i64 1000))]⟩,
  ⟨(some 7), none, .mv (.t 48)⟩]
def c3r8 : List AOper := [
  ⟨(some 50), none, .mv (.t 0)⟩,
  ⟨(some 51), none, .mv (.t 7)⟩,
  ⟨(some 52), none, .call (.c (.fn 16 [] [])) [(.t 50), (.t 51)]⟩,
  ⟨(some 49), none, .mv (.t 52)⟩,
  ⟨(some 53), none, .ext (.t 49) 0⟩,
  ⟨(some 54), none, .ext (.t 49) 1⟩,
  ⟨(some 9), none, .mv (.t 53)⟩,
  ⟨(some 10), none, .mv (.t 54)⟩]
def c3r9 : List AOper := [
  ⟨(some 56), none, .mv (.t 0)⟩,
  ⟨(some 57), none, .mv (.t 7)⟩,
  ⟨(some 58), none, .call (.c (.fn 17 [] [])) [(.t 56), (.t 57)]⟩,
  ⟨(some 55), none, .mv (.t 58)⟩,
  ⟨(some 59), none, .ext (.t 55) 0⟩,
  ⟨(some 60), none, .ext (.t 55) 1⟩,
  ⟨(some 11), none, .mv (.t 59)⟩,
  ⟨(some 12), none, .mv (.t 60)⟩]
def c3r10 : List AOper := [
  ⟨(some 62), none, .mv (.t 0)⟩,
  ⟨(some 63), none, .mv (.t 7)⟩,
  ⟨(some 64), none, .call (.c (.fn 18 [] [])) [(.t 62), (.t 63)]⟩,
  ⟨(some 61), none, .mv (.t 64)⟩,
  ⟨(some 65), none, .ext (.t 61) 0⟩,
  ⟨(some 66), none, .ext (.t 61) 1⟩,
  ⟨(some 13), none, .mv (.t 65)⟩,
  ⟨(some 14), none, .mv (.t 66)⟩]
def c3r11 : List AOper := [
  ⟨(some 67), none, .mv (.t 10)⟩,
  ⟨(some 68), none, .bin false .neq (.t 67) (.c (.i .i64 0))⟩,
  ⟨(some 69), none, .mv (.t 68)⟩,
  ⟨(some 70), (some (69, false)), .mv (.t 12)⟩,
  ⟨(some 71), (some (69, false)), .bin false .neq (.t 70) (.c (.i .i64 0))⟩,
  ⟨(some 72), none, .pick (.t 69) (.c (.b true)) (.t 71)⟩,
  ⟨(some 73), none, .mv (.t 72)⟩,
  ⟨(some 74), (some (73, false)), .mv (.t 14)⟩,
  ⟨(some 75), (some (73, false)), .bin false .neq (.t 74) (.c (.i .i64 0))⟩,
  ⟨(some 76), none, .pick (.t 73) (.c (.b true)) (.t 75)⟩,
  ⟨(some 77), none, .mv (.t 76)⟩,
  ⟨(some 78), (some (77, false)), .mv (.t 11)⟩,
  ⟨(some 79), (some (77, false)), .len (.t 78)⟩,
  ⟨(some 80), (some (77, false)), .mv (.t 9)⟩,
  ⟨(some 81), (some (77, false)), .bin false .neq (.t 79) (.t 80)⟩,
  ⟨(some 82), none, .pick (.t 77) (.c (.b true)) (.t 81)⟩,
  ⟨(some 83), none, .mv (.t 82)⟩,
  ⟨(some 84), (some (83, false)), .mv (.t 13)⟩,
  ⟨(some 85), (some (83, false)), .len (.t 84)⟩,
  ⟨(some 86), (some (83, false)), .mv (.t 9)⟩,
  ⟨(some 87), (some (83, false)), .bin false .neq (.t 85) (.t 86)⟩,
  ⟨(some 88), none, .pick (.t 83) (.c (.b true)) (.t 87)⟩,
  ⟨(some 89), none, .mv (.t 88)⟩,
  ⟨(some 90), (some (89, false)), .mv (.t 9)⟩,
  ⟨(some 91), (some (89, false)), .mv (.t 5)⟩,
  ⟨(some 92), (some (89, false)), .bin false .lss (.t 90) (.t 91)⟩,
  ⟨(some 93), none, .pick (.t 89) (.c (.b true)) (.t 92)⟩,
  ⟨(some 94), none, .mv (.t 93)⟩,
  ⟨(some 95), (some (94, false)), .mv (.t 0)⟩,
  ⟨(some 96), (some (94, false)), .mv (.t 7)⟩,
  ⟨(some 97), (some (94, false)), .mv (.t 11)⟩,
  ⟨(some 98), (some (94, false)), .call (.c (.fn 19 [] [])) [(.t 95), (.t 96), (.t 97)]⟩,
  ⟨(some 99), (some (94, false)), .bin false .neq (.t 98) (.c (.i .i64 0))⟩,
  ⟨(some 100), none, .pick (.t 94) (.c (.b true)) (.t 99)⟩]
def c3r12 : List AOper := [
  ⟨(some 4), none, .mv (.c (.b false))⟩]
def c3r13 : List AOper := [
  ⟨(some 102), none, .mv (.t 0)⟩,
  ⟨(some 103), none, .mv (.t 7)⟩,
  ⟨(some 104), none, .mv (.t 13)⟩,
  ⟨(some 105), none, .call (.c (.fn 20 [] [])) [(.t 102), (.t 103), (.t 104)]⟩,
  ⟨(some 101), none, .mv (.t 105)⟩,
  ⟨(some 106), none, .ext (.t 101) 0⟩,
  ⟨(some 107), none, .ext (.t 101) 1⟩,
  ⟨(some 15), none, .mv (.t 106)⟩,
  ⟨(some 16), none, .mv (.t 107)⟩]
def c3r14 : List AOper := [
  ⟨(some 108), none, .mv (.t 15)⟩,
  ⟨(some 109), none, .not (.t 108)⟩,
  ⟨(some 110), none, .mv (.t 109)⟩,
  ⟨(some 111), (some (110, false)), .mv (.t 16)⟩,
  ⟨(some 112), (some (110, false)), .bin false .neq (.t 111) (.c (.i .i64 0))⟩,
  ⟨(some 113), none, .pick (.t 110) (.c (.b true)) (.t 112)⟩]
def c3r15 : List AOper := [
  ⟨(some 4), none, .mv (.c (.b false))⟩]
def c3r16 : List AOper := [
  ⟨(some 115), none, .mv (.t 0)⟩,
  ⟨(some 116), none, .mv (.t 11)⟩,
  ⟨(some 117), none, .call (.c (.fn 21 [] [])) [(.t 115), (.t 116)]⟩,
  ⟨(some 114), none, .mv (.t 117)⟩,
  ⟨(some 118), none, .ext (.t 114) 0⟩,
  ⟨(some 119), none, .ext (.t 114) 1⟩,
  ⟨(some 17), none, .mv (.t 118)⟩,
  ⟨(some 18), none, .mv (.t 119)⟩]
def c3r17 : List AOper := [
  ⟨(some 120), none, .mv (.t 18)⟩,
  ⟨(some 121), none, .bin false .neq (.t 120) (.c (.i .i64 0))⟩,
  ⟨(some 122), none, .mv (.t 121)⟩,
  ⟨(some 123), (some (122, false)), .mv (.t 17)⟩,
  ⟨(some 124), (some (122, false)), .mv (.t 7)⟩,
  ⟨(some 125), (some (122, false)), .bin false .gtr (.t 123) (.t 124)⟩,
  ⟨(some 126), none, .pick (.t 122) (.c (.b true)) (.t 125)⟩]
def c3r18 : List AOper := [
  ⟨(some 4), none, .mv (.c (.b false))⟩]
def c3r19 : List AOper := [
  ⟨(some 127), none, .mv (.t 5)⟩,
  ⟨(some 128), none, .bin false .add (.t 127) (.c (.i .i64 1))⟩,
  ⟨(some 19), none, .mv (.t 128)⟩]
def c3r20 : List AOper := [
  ⟨(some 129), none, .mv (.t 19)⟩,
  ⟨(some 130), none, .mv (.t 9)⟩,
  ⟨(some 131), none, .bin false .leq (.t 129) (.t 130)⟩]
def c3r21 : List AOper := [
  ⟨(some 135), none, .mv (.t 0)⟩,
  ⟨(some 136), none, .mv (.t 19)⟩,
  ⟨(some 137), none, .call (.c (.fn 22 [] [])) [(.t 135), (.t 136)]⟩,
  ⟨(some 134), none, .mv (.t 137)⟩,
  ⟨(some 138), none, .ext (.t 134) 0⟩,
  ⟨(some 139), none, .ext (.t 134) 1⟩,
  ⟨(some 20), none, .mv (.t 138)⟩,
  ⟨(some 21), none, .mv (.t 139)⟩]
def c3r22 : List AOper := [
  ⟨(some 140), none, .mv (.t 21)⟩,
  ⟨(some 141), none, .bin false .neq (.t 140) (.c (.i .i64 0))⟩,
  ⟨(some 142), none, .mv (.t 141)⟩,
  ⟨(some 143), (some (142, false)), .mv (.t 20)⟩,
  ⟨(some 144), (some (142, false)), .mv (.t 7)⟩,
  ⟨(some 145), (some (142, false)), .bin false .gtr (.t 143) (.t 144)⟩,
  ⟨(some 146), none, .pick (.t 142) (.c (.b true)) (.t 145)⟩]
def c3r23 : List AOper := [
  ⟨(some 4), none, .mv (.c (.b false))⟩]
def c3r24 : List AOper := [
  ⟨(some 132), none, .mv (.t 19)⟩,
  ⟨(some 133), none, .bin false .add (.t 132) (.c (.i .i64 1))⟩,
  ⟨(some 19), none, .mv (.t 133)⟩]
abbrev c3b25 : AC := (.seq (.seq (.reg c3r20) (.cond (.t 131) .skip (.exit 2))) (.seq (.blk 3 (.seq (.reg c3r21) (.seq (.reg c3r22) (.cond (.t 146) (.seq (.reg c3r23) .ret) .skip)))) (.reg c3r24)))
def c3r26 : List AOper := [
  ⟨(some 147), none, .mv (.t 9)⟩,
  ⟨(some 5), none, .mv (.t 147)⟩]
def c3r27 : List AOper := [
  ⟨(some 39), none, .mv (.t 8)⟩,
  ⟨(some 40), none, .bin false .add (.t 39) (.c (.i .i64 1))⟩,
  ⟨(some 8), none, .mv (.t 40)⟩]
abbrev c3b28 : AC := (.seq (.seq (.reg c3r6) (.cond (.t 38) .skip (.exit 0))) (.seq (.blk 1 (.seq (.reg c3r7) (.seq (.reg c3r8) (.seq (.reg c3r9) (.seq (.reg c3r10) (.seq (.seq (.reg c3r11) (.cond (.t 100) (.seq (.reg c3r12) .ret) .skip)) (.seq (.seq (.reg c3r13) (.seq (.reg c3r14) (.cond (.t 113) (.seq (.reg c3r15) .ret) .skip))) (.seq (.reg c3r16) (.seq (.seq (.reg c3r17) (.cond (.t 126) (.seq (.reg c3r18) .ret) .skip)) (.seq (.seq (.reg c3r19) (.blk 2 (.loop c3b25))) (.reg c3r26))))))))))) (.reg c3r27)))
def c3r29 : List AOper := [
  ⟨(some 22), none, .mv (.c (.i .i64 1))⟩]
def c3r30 : List AOper := [
  ⟨(some 148), none, .mv (.t 22)⟩,
  ⟨(some 149), none, .bin false .leq (.t 148) (.c (.i .i64 9))⟩]
def c3r31 : List AOper := [
  ⟨(some 23), none, .mv (.c (.i .i64 0))⟩,
  ⟨(some 24), none, .mv (.c (.i .i64 0))⟩]
def c3r32 : List AOper := [
  ⟨(some 25), none, .mv (.c (.i .i64 0))⟩]
def c3r33 : List AOper := [
  ⟨(some 152), none, .mv (.t 25)⟩,
  ⟨(some 153), none, .mv (.t 0)⟩,
  ⟨(some 154), none, .len (.t 153)⟩,
  ⟨(some 155), none, .bin false .lss (.t 152) (.t 154)⟩]
def c3r34 : List AOper := [
  ⟨(some 158), none, .mv (.t 0)⟩,
  ⟨(some 159), none, .mv (.t 25)⟩,
  ⟨(some 160), none, .ia 4 (.t 158) (.t 159)⟩,
  ⟨(some 161), none, .fa (.t 160) 3⟩,
  ⟨(some 162), none, .ld none (.t 161)⟩,
  ⟨(some 163), none, .mv (.t 22)⟩,
  ⟨(some 164), none, .bin false .eql (.t 162) (.t 163)⟩,
  ⟨(some 165), none, .mv (.t 164)⟩,
  ⟨(some 166), (some (165, true)), .mv (.t 0)⟩,
  ⟨(some 167), (some (165, true)), .mv (.t 25)⟩,
  ⟨(some 168), (some (165, true)), .ia 4 (.t 166) (.t 167)⟩,
  ⟨(some 169), (some (165, true)), .fa (.t 168) 1⟩,
  ⟨(some 170), (some (165, true)), .ld none (.t 169)⟩,
  ⟨(some 171), (some (165, true)), .bin false .eql (.t 170) (.c (.i .i64 1))⟩,
  ⟨(some 172), none, .pick (.t 165) (.t 171) (.c (.b false))⟩]
def c3r35 : List AOper := [
  ⟨(some 173), none, .mv (.t 23)⟩,
  ⟨(some 174), none, .bin false .add (.t 173) (.c (.i .i64 1))⟩,
  ⟨(some 23), none, .mv (.t 174)⟩]
def c3r36 : List AOper := [
  ⟨(some 175), none, .mv (.t 0)⟩,
  ⟨(some 176), none, .mv (.t 25)⟩,
  ⟨(some 177), none, .ia 4 (.t 175) (.t 176)⟩,
  ⟨(some 178), none, .fa (.t 177) 3⟩,
  ⟨(some 179), none, .ld none (.t 178)⟩,
  ⟨(some 180), none, .mv (.t 22)⟩,
  ⟨(some 181), none, .bin false .eql (.t 179) (.t 180)⟩,
  ⟨(some 182), none, .mv (.t 181)⟩,
  ⟨(some 183), (some (182, true)), .mv (.t 0)⟩,
  ⟨(some 184), (some (182, true)), .mv (.t 25)⟩,
  ⟨(some 185), (some (182, true)), .ia 4 (.t 183) (.t 184)⟩,
  ⟨(some 186), (some (182, true)), .fa (.t 185) 1⟩,
  ⟨(some 187), (some (182, true)), .ld none (.t 186)⟩,
  ⟨(some 188), (some (182, true)), .bin false .eql (.t 187) (.c (.i .i64 2))⟩,
  ⟨(some 189), none, .pick (.t 182) (.t 188) (.c (.b false))⟩]
def c3r37 : List AOper := [
  ⟨(some 190), none, .mv (.t 24)⟩,
  ⟨(some 191), none, .bin false .add (.t 190) (.c (.i .i64 1))⟩,
  ⟨(some 24), none, .mv (.t 191)⟩]
def c3r38 : List AOper := [
  ⟨(some 156), none, .mv (.t 25)⟩,
  ⟨(some 157), none, .bin false .add (.t 156) (.c (.i .i64 1))⟩,
  ⟨(some 25), none, .mv (.t 157)⟩]
abbrev c3b39 : AC := (.seq (.seq (.reg c3r33) (.cond (.t 155) .skip (.exit 6))) (.seq (.blk 7 (.seq (.seq (.reg c3r34) (.cond (.t 172) (.reg c3r35) .skip)) (.seq (.reg c3r36) (.cond (.t 189) (.reg c3r37) .skip)))) (.reg c3r38)))
def c3r40 : List AOper := [
  ⟨(some 192), none, .mv (.t 6)⟩,
  ⟨(some 193), none, .mv (.t 23)⟩,
  ⟨(some 194), none, .mv (.t 24)⟩,
  ⟨(some 195), none, .mm false (.t 193) [(.t 194)]⟩,
  ⟨(some 196), none, .bin false .add (.t 192) (.t 195)⟩,
  ⟨(some 6), none, .mv (.t 196)⟩]
def c3r41 : List AOper := [
  ⟨(some 150), none, .mv (.t 22)⟩,
  ⟨(some 151), none, .bin false .add (.t 150) (.c (.i .i64 1))⟩,
  ⟨(some 22), none, .mv (.t 151)⟩]
abbrev c3b42 : AC := (.seq (.seq (.reg c3r30) (.cond (.t 149) .skip (.exit 4))) (.seq (.blk 5 (.seq (.reg c3r31) (.seq (.seq (.reg c3r32) (.blk 6 (.loop c3b39))) (.reg c3r40)))) (.reg c3r41)))
def c3r43 : List AOper := [
  ⟨(some 198), none, .mv (.t 0)⟩,
  ⟨(some 199), none, .mv (.t 6)⟩,
  ⟨(some 200), none, .bin false .add (.t 199) (.c (.i .i64 1))⟩,
  ⟨(some 201), none, .call (.c (.fn 22 [] [])) [(.t 198), (.t 200)]⟩,
  ⟨(some 197), none, .mv (.t 201)⟩,
  ⟨(some 202), none, .ext (.t 197) 0⟩,
  ⟨(some 203), none, .ext (.t 197) 1⟩,
  ⟨(some 26), none, .mv (.t 202)⟩,
  ⟨(some 27), none, .mv (.t 203)⟩]
def c3r44 : List AOper := [
  ⟨(some 204), none, .mv (.t 5)⟩,
  ⟨(some 205), none, .mv (.t 6)⟩,
  ⟨(some 206), none, .bin false .leq (.t 204) (.t 205)⟩,
  ⟨(some 207), none, .mv (.t 206)⟩,
  ⟨(some 208), (some (207, true)), .mv (.t 27)⟩,
  ⟨(some 209), (some (207, true)), .bin false .eql (.t 208) (.c (.i .i64 4))⟩,
  ⟨(some 210), none, .pick (.t 207) (.t 209) (.c (.b false))⟩,
  ⟨(some 211), none, .mv (.t 210)⟩,
  ⟨(some 212), (some (211, true)), .call (.c (.fn 15 [] [])) []⟩,
  ⟨(some 213), none, .pick (.t 211) (.t 212) (.c (.b false))⟩,
  ⟨(some 4), none, .mv (.t 213)⟩]
abbrev c3 : AC := (.seq (.reg c3r0) (.seq (.seq (.reg c3r1) (.cond (.t 35) (.seq (.reg c3r2) .ret) .skip)) (.seq (.reg c3r3) (.seq (.reg c3r4) (.seq (.seq (.reg c3r5) (.blk 0 (.loop c3b28))) (.seq (.seq (.reg c3r29) (.blk 4 (.loop c3b42))) (.seq (.reg c3r43) (.seq (.reg c3r44) .ret))))))))
def q3 : List ARes := [.t 4]
theorem fn3 : fnOf Try.prog 3 = some (c3, q3, 214) := by kernel_rfl

/-! 4: pantoscope/pantoscopelaw04.TempleMore · slots 139 · [0 l, 1 more, 2 at, 3 l, 4 more, 5 at, 7 tol, 8 turn, 9 n, 10 e, 11 turned, 12 i, 13 m, 14 f, 15 k, 16 g, 17 longer, 18 k, 19 g] -/
def c4r0 : List AOper := [
  ⟨(some 4), none, .box (.t 1)⟩,
  ⟨(some 5), none, .box (.t 2)⟩,
  ⟨(some 6), none, .mv (.c (.b false))⟩]
def c4r1 : List AOper := [
  ⟨(some 20), none, .iap 2 1 (.t 5) (.c (.i .i64 0))⟩,
  ⟨(some 21), none, .ld none (.t 20)⟩,
  ⟨(some 22), none, .iap 2 1 (.t 5) (.c (.i .i64 1))⟩,
  ⟨(some 23), none, .ld none (.t 22)⟩,
  ⟨(some 24), none, .conv .u64 (.t 23)⟩,
  ⟨(some 25), none, .bin false .rem (.t 24) (.c (.i .u64 100))⟩,
  ⟨(some 26), none, .conv .i64 (.t 25)⟩,
  ⟨(some 7), none, .mv (.t 21)⟩,
  ⟨(some 8), none, .mv (.t 26)⟩]
def c4r2 : List AOper := [
  ⟨(some 27), none, .mv (.t 0)⟩,
  ⟨(some 28), none, .call (.c (.fn 23 [] [])) [(.t 27), (.c (.i .i64 40))]⟩,
  ⟨(some 29), none, .mv (.t 28)⟩,
  ⟨(some 30), (some (29, false)), .mv (.t 0)⟩,
  ⟨(some 31), (some (29, false)), .call (.c (.fn 14 [] [])) [(.t 30)]⟩,
  ⟨(some 32), (some (29, false)), .not (.t 31)⟩,
  ⟨(some 33), none, .pick (.t 29) (.c (.b true)) (.t 32)⟩,
  ⟨(some 34), none, .mv (.t 33)⟩,
  ⟨(some 35), (some (34, false)), .mv (.t 7)⟩,
  ⟨(some 36), (some (34, false)), .bin false .lss (.t 35) (.c (.i .i64 0))⟩,
  ⟨(some 37), none, .pick (.t 34) (.c (.b true)) (.t 36)⟩,
  ⟨(some 38), none, .mv (.t 37)⟩,
  ⟨(some 39), (some (38, false)), .mv (.t 7)⟩,
  ⟨(some 40), (some (38, false)), .bin false .gtr (.t 39) (.c (.i .i64 1000))⟩,
  ⟨(some 41), none, .pick (.t 38) (.c (.b true)) (.t 40)⟩]
def c4r3 : List AOper := [
  ⟨(some 42), none, .call (.c (.fn 24 [] [])) []⟩,
  ⟨(some 6), none, .mv (.t 42)⟩]
def c4r4 : List AOper := [
  ⟨(some 44), none, .mv (.t 0)⟩,
  ⟨(some 45), none, .mv (.t 7)⟩,
  ⟨(some 46), none, .call (.c (.fn 16 [] [])) [(.t 44), (.t 45)]⟩,
  ⟨(some 43), none, .mv (.t 46)⟩,
  ⟨(some 47), none, .ext (.t 43) 0⟩,
  ⟨(some 48), none, .ext (.t 43) 1⟩,
  ⟨(some 9), none, .mv (.t 47)⟩,
  ⟨(some 10), none, .mv (.t 48)⟩]
def c4r5 : List AOper := [
  ⟨(some 49), none, .mv (.t 10)⟩,
  ⟨(some 50), none, .bin false .neq (.t 49) (.c (.i .i64 0))⟩]
def c4r6 : List AOper := [
  ⟨(some 6), none, .mv (.c (.b false))⟩]
def c4r7 : List AOper := [
  ⟨(some 11), none, .mv (.c (.sl 0 0 0 0))⟩]
def c4r8 : List AOper := [
  ⟨(some 12), none, .mv (.c (.i .i64 0))⟩]
def c4r9 : List AOper := [
  ⟨(some 51), none, .mv (.t 12)⟩,
  ⟨(some 52), none, .mv (.t 0)⟩,
  ⟨(some 53), none, .len (.t 52)⟩,
  ⟨(some 54), none, .bin false .lss (.t 51) (.t 53)⟩]
def c4r10 : List AOper := [
  ⟨(some 57), none, .mv (.t 11)⟩,
  ⟨(some 58), none, .mv (.t 0)⟩,
  ⟨(some 59), none, .mv (.t 0)⟩,
  ⟨(some 60), none, .len (.t 59)⟩,
  ⟨(some 61), none, .bin false .sub (.t 60) (.c (.i .i64 1))⟩,
  ⟨(some 62), none, .mv (.t 12)⟩,
  ⟨(some 63), none, .mv (.t 8)⟩,
  ⟨(some 64), none, .bin false .add (.t 62) (.t 63)⟩,
  ⟨(some 65), none, .mv (.t 0)⟩,
  ⟨(some 66), none, .len (.t 65)⟩,
  ⟨(some 67), none, .bin false .rem (.t 64) (.t 66)⟩,
  ⟨(some 68), none, .bin false .sub (.t 61) (.t 67)⟩,
  ⟨(some 69), none, .ia 4 (.t 58) (.t 68)⟩,
  ⟨(some 70), none, .ld (some 4) (.t 69)⟩,
  ⟨(some 71), none, .bsl 4 [.i .i64 0, .i .i64 0, .i .i64 0, .i .i64 0] [(0, 4, (.t 70))]⟩,
  ⟨(some 72), none, .app 4 32 (.t 57) (.t 71)⟩,
  ⟨(some 11), none, .mv (.t 72)⟩]
def c4r11 : List AOper := [
  ⟨(some 55), none, .mv (.t 12)⟩,
  ⟨(some 56), none, .bin false .add (.t 55) (.c (.i .i64 1))⟩,
  ⟨(some 12), none, .mv (.t 56)⟩]
abbrev c4b12 : AC := (.seq (.seq (.reg c4r9) (.cond (.t 54) .skip (.exit 0))) (.seq (.blk 1 (.reg c4r10)) (.reg c4r11)))
def c4r13 : List AOper := [
  ⟨(some 74), none, .mv (.t 11)⟩,
  ⟨(some 75), none, .mv (.t 7)⟩,
  ⟨(some 76), none, .call (.c (.fn 16 [] [])) [(.t 74), (.t 75)]⟩,
  ⟨(some 73), none, .mv (.t 76)⟩,
  ⟨(some 77), none, .ext (.t 73) 0⟩,
  ⟨(some 78), none, .ext (.t 73) 1⟩,
  ⟨(some 13), none, .mv (.t 77)⟩,
  ⟨(some 14), none, .mv (.t 78)⟩]
def c4r14 : List AOper := [
  ⟨(some 79), none, .mv (.t 14)⟩,
  ⟨(some 80), none, .bin false .neq (.t 79) (.c (.i .i64 0))⟩,
  ⟨(some 81), none, .mv (.t 80)⟩,
  ⟨(some 82), (some (81, false)), .mv (.t 13)⟩,
  ⟨(some 83), (some (81, false)), .mv (.t 9)⟩,
  ⟨(some 84), (some (81, false)), .bin false .neq (.t 82) (.t 83)⟩,
  ⟨(some 85), none, .pick (.t 81) (.c (.b true)) (.t 84)⟩]
def c4r15 : List AOper := [
  ⟨(some 6), none, .mv (.c (.b false))⟩]
def c4r16 : List AOper := [
  ⟨(some 86), none, .mv (.t 7)⟩,
  ⟨(some 87), none, .bin false .lss (.t 86) (.c (.i .i64 1000))⟩]
def c4r17 : List AOper := [
  ⟨(some 89), none, .mv (.t 0)⟩,
  ⟨(some 90), none, .mv (.t 7)⟩,
  ⟨(some 91), none, .bin false .add (.t 90) (.c (.i .i64 1))⟩,
  ⟨(some 92), none, .call (.c (.fn 16 [] [])) [(.t 89), (.t 91)]⟩,
  ⟨(some 88), none, .mv (.t 92)⟩,
  ⟨(some 93), none, .ext (.t 88) 0⟩,
  ⟨(some 94), none, .ext (.t 88) 1⟩,
  ⟨(some 15), none, .mv (.t 93)⟩,
  ⟨(some 16), none, .mv (.t 94)⟩]
def c4r18 : List AOper := [
  ⟨(some 95), none, .mv (.t 16)⟩,
  ⟨(some 96), none, .bin false .neq (.t 95) (.c (.i .i64 0))⟩,
  ⟨(some 97), none, .mv (.t 96)⟩,
  ⟨(some 98), (some (97, false)), .mv (.t 15)⟩,
  ⟨(some 99), (some (97, false)), .mv (.t 9)⟩,
  ⟨(some 100), (some (97, false)), .bin false .lss (.t 98) (.t 99)⟩,
  ⟨(some 101), none, .pick (.t 97) (.c (.b true)) (.t 100)⟩]
def c4r19 : List AOper := [
  ⟨(some 6), none, .mv (.c (.b false))⟩]
def c4r20 : List AOper := [
  ⟨(some 17), none, .mv (.c (.sl 0 0 0 0))⟩]
def c4r21 : List AOper := [
  ⟨(some 102), none, .mv (.t 17)⟩,
  ⟨(some 103), none, .mv (.t 0)⟩,
  ⟨(some 104), none, .app 4 32 (.t 102) (.t 103)⟩,
  ⟨(some 17), none, .mv (.t 104)⟩]
def c4r22 : List AOper := [
  ⟨(some 105), none, .mv (.t 17)⟩,
  ⟨(some 106), none, .ld (some 4) (.t 4)⟩,
  ⟨(some 107), none, .bsl 4 [.i .i64 0, .i .i64 0, .i .i64 0, .i .i64 0] [(0, 4, (.t 106))]⟩,
  ⟨(some 108), none, .app 4 32 (.t 105) (.t 107)⟩,
  ⟨(some 17), none, .mv (.t 108)⟩]
def c4r23 : List AOper := [
  ⟨(some 110), none, .mv (.t 17)⟩,
  ⟨(some 111), none, .mv (.t 7)⟩,
  ⟨(some 112), none, .call (.c (.fn 16 [] [])) [(.t 110), (.t 111)]⟩,
  ⟨(some 109), none, .mv (.t 112)⟩,
  ⟨(some 113), none, .ext (.t 109) 0⟩,
  ⟨(some 114), none, .ext (.t 109) 1⟩,
  ⟨(some 18), none, .mv (.t 113)⟩,
  ⟨(some 19), none, .mv (.t 114)⟩]
def c4r24 : List AOper := [
  ⟨(some 115), none, .mv (.t 17)⟩,
  ⟨(some 116), none, .call (.c (.fn 14 [] [])) [(.t 115)]⟩,
  ⟨(some 117), none, .not (.t 116)⟩]
def c4r25 : List AOper := [
  ⟨(some 118), none, .mv (.t 19)⟩,
  ⟨(some 119), none, .bin false .eql (.t 118) (.c (.i .i64 40))⟩,
  ⟨(some 120), none, .mv (.t 119)⟩,
  ⟨(some 121), (some (120, true)), .call (.c (.fn 24 [] [])) []⟩,
  ⟨(some 122), none, .pick (.t 120) (.t 121) (.c (.b false))⟩,
  ⟨(some 6), none, .mv (.t 122)⟩]
def c4r26 : List AOper := [
  ⟨(some 123), none, .mv (.t 19)⟩,
  ⟨(some 124), none, .bin false .eql (.t 123) (.c (.i .i64 0))⟩,
  ⟨(some 125), none, .mv (.t 124)⟩,
  ⟨(some 126), (some (125, true)), .mv (.t 18)⟩,
  ⟨(some 127), (some (125, true)), .mv (.t 9)⟩,
  ⟨(some 128), (some (125, true)), .bin false .eql (.t 126) (.t 127)⟩,
  ⟨(some 129), (some (125, true)), .mv (.t 128)⟩,
  ⟨(some 130), (some (129, false)), .mv (.t 18)⟩,
  ⟨(some 131), (some (129, false)), .mv (.t 9)⟩,
  ⟨(some 132), (some (129, false)), .bin false .add (.t 131) (.c (.i .i64 1))⟩,
  ⟨(some 133), (some (129, false)), .bin false .eql (.t 130) (.t 132)⟩,
  ⟨(some 134), (some (125, true)), .pick (.t 129) (.c (.b true)) (.t 133)⟩,
  ⟨(some 135), none, .pick (.t 125) (.t 134) (.c (.b false))⟩,
  ⟨(some 136), none, .mv (.t 135)⟩,
  ⟨(some 137), (some (136, true)), .call (.c (.fn 24 [] [])) []⟩,
  ⟨(some 138), none, .pick (.t 136) (.t 137) (.c (.b false))⟩,
  ⟨(some 6), none, .mv (.t 138)⟩]
abbrev c4 : AC := (.seq (.reg c4r0) (.seq (.head 8 c4r1) (.seq (.seq (.reg c4r2) (.cond (.t 41) (.seq (.reg c4r3) .ret) .skip)) (.seq (.reg c4r4) (.seq (.seq (.reg c4r5) (.cond (.t 50) (.seq (.reg c4r6) .ret) .skip)) (.seq (.reg c4r7) (.seq (.seq (.reg c4r8) (.blk 0 (.loop c4b12))) (.seq (.reg c4r13) (.seq (.seq (.reg c4r14) (.cond (.t 85) (.seq (.reg c4r15) .ret) .skip)) (.seq (.seq (.reg c4r16) (.cond (.t 87) (.seq (.reg c4r17) (.seq (.reg c4r18) (.cond (.t 101) (.seq (.reg c4r19) .ret) .skip))) .skip)) (.seq (.reg c4r20) (.seq (.reg c4r21) (.seq (.reg c4r22) (.seq (.reg c4r23) (.seq (.seq (.reg c4r24) (.cond (.t 117) (.seq (.reg c4r25) .ret) .skip)) (.seq (.reg c4r26) .ret))))))))))))))))
def q4 : List ARes := [.t 6]
theorem fn4 : fnOf Try.prog 4 = some (c4, q4, 139) := by kernel_rfl

/-! 5: pantoscope/pantoscopelaw04.TempleValid · slots 52 · [0 l, 1 two, 2 tol, 3 l, 4 two, 5 tol, 7 a, 8 b, 9 x, 10 e, 11 y, 12 f] -/
def c5r0 : List AOper := [
  ⟨(some 4), none, .box (.t 1)⟩,
  ⟨(some 6), none, .mv (.c (.b false))⟩]
def c5r1 : List AOper := [
  ⟨(some 13), none, .iap 2 4 (.t 4) (.c (.i .i64 0))⟩,
  ⟨(some 14), none, .ld (some 4) (.t 13)⟩,
  ⟨(some 15), none, .iap 2 4 (.t 4) (.c (.i .i64 1))⟩,
  ⟨(some 16), none, .ld (some 4) (.t 15)⟩,
  ⟨(some 7), none, .alloc [.i .i64 0, .i .i64 0, .i .i64 0, .i .i64 0]⟩,
  ⟨(some 8), none, .alloc [.i .i64 0, .i .i64 0, .i .i64 0, .i .i64 0]⟩,
  ⟨none, none, .sto (some 4) (.t 7) (.t 14)⟩,
  ⟨none, none, .sto (some 4) (.t 8) (.t 16)⟩]
def c5r2 : List AOper := [
  ⟨(some 17), none, .mv (.t 0)⟩,
  ⟨(some 18), none, .call (.c (.fn 23 [] [])) [(.t 17), (.c (.i .i64 70))]⟩]
def c5r3 : List AOper := [
  ⟨(some 19), none, .call (.c (.fn 24 [] [])) []⟩,
  ⟨(some 6), none, .mv (.t 19)⟩]
def c5r4 : List AOper := [
  ⟨(some 21), none, .ld (some 4) (.t 7)⟩,
  ⟨(some 22), none, .ld (some 4) (.t 8)⟩,
  ⟨(some 23), none, .mv (.t 2)⟩,
  ⟨(some 24), none, .call (.c (.fn 25 [] [])) [(.t 21), (.t 22), (.t 23)]⟩,
  ⟨(some 20), none, .mv (.t 24)⟩,
  ⟨(some 25), none, .ext (.t 20) 0⟩,
  ⟨(some 26), none, .ext (.t 20) 1⟩,
  ⟨(some 9), none, .mv (.t 25)⟩,
  ⟨(some 10), none, .mv (.t 26)⟩]
def c5r5 : List AOper := [
  ⟨(some 28), none, .ld (some 4) (.t 7)⟩,
  ⟨(some 29), none, .ld (some 4) (.t 8)⟩,
  ⟨(some 30), none, .mv (.t 2)⟩,
  ⟨(some 31), none, .call (.c (.fn 26 [] [])) [(.t 28), (.t 29), (.t 30)]⟩,
  ⟨(some 27), none, .mv (.t 31)⟩,
  ⟨(some 32), none, .ext (.t 27) 0⟩,
  ⟨(some 33), none, .ext (.t 27) 1⟩,
  ⟨(some 11), none, .mv (.t 32)⟩,
  ⟨(some 12), none, .mv (.t 33)⟩]
def c5r6 : List AOper := [
  ⟨(some 34), none, .mv (.t 0)⟩,
  ⟨(some 35), none, .call (.c (.fn 27 [] [])) [(.t 34)]⟩,
  ⟨(some 36), none, .mv (.t 0)⟩,
  ⟨(some 37), none, .call (.c (.fn 14 [] [])) [(.t 36)]⟩,
  ⟨(some 38), none, .bin true .eql (.t 35) (.t 37)⟩,
  ⟨(some 39), none, .mv (.t 38)⟩,
  ⟨(some 40), (some (39, true)), .mv (.t 9)⟩,
  ⟨(some 41), (some (39, true)), .mv (.t 11)⟩,
  ⟨(some 42), (some (39, true)), .bin true .eql (.t 40) (.t 41)⟩,
  ⟨(some 43), none, .pick (.t 39) (.t 42) (.c (.b false))⟩,
  ⟨(some 44), none, .mv (.t 43)⟩,
  ⟨(some 45), (some (44, true)), .mv (.t 10)⟩,
  ⟨(some 46), (some (44, true)), .mv (.t 12)⟩,
  ⟨(some 47), (some (44, true)), .bin false .eql (.t 45) (.t 46)⟩,
  ⟨(some 48), none, .pick (.t 44) (.t 47) (.c (.b false))⟩,
  ⟨(some 49), none, .mv (.t 48)⟩,
  ⟨(some 50), (some (49, true)), .call (.c (.fn 24 [] [])) []⟩,
  ⟨(some 51), none, .pick (.t 49) (.t 50) (.c (.b false))⟩,
  ⟨(some 6), none, .mv (.t 51)⟩]
abbrev c5 : AC := (.seq (.reg c5r0) (.seq (.head 7 c5r1) (.seq (.seq (.reg c5r2) (.cond (.t 18) (.seq (.reg c5r3) .ret) .skip)) (.seq (.reg c5r4) (.seq (.reg c5r5) (.seq (.reg c5r6) .ret))))))
def q5 : List ARes := [.t 6]
theorem fn5 : fnOf Try.prog 5 = some (c5, q5, 52) := by kernel_rfl

/-! 6: pantoscope/pantoscopelaw04.TempleMatches · slots 87 · [0 l, 1 tol, 2 l, 3 tol, 5 p, 6 e, 7 q, 8 f, 9 n, 10 g, 11 m, 12 h, 13 r, 14 i, 15 s, 16 j] -/
def c6r0 : List AOper := [
  ⟨(some 4), none, .mv (.c (.b false))⟩]
def c6r1 : List AOper := [
  ⟨(some 17), none, .mv (.t 0)⟩,
  ⟨(some 18), none, .call (.c (.fn 23 [] [])) [(.t 17), (.c (.i .i64 40))]⟩]
def c6r2 : List AOper := [
  ⟨(some 19), none, .call (.c (.fn 24 [] [])) []⟩,
  ⟨(some 4), none, .mv (.t 19)⟩]
def c6r3 : List AOper := [
  ⟨(some 21), none, .mv (.t 0)⟩,
  ⟨(some 22), none, .mv (.t 1)⟩,
  ⟨(some 23), none, .call (.c (.fn 17 [] [])) [(.t 21), (.t 22)]⟩,
  ⟨(some 20), none, .mv (.t 23)⟩,
  ⟨(some 24), none, .ext (.t 20) 0⟩,
  ⟨(some 25), none, .ext (.t 20) 1⟩,
  ⟨(some 5), none, .mv (.t 24)⟩,
  ⟨(some 6), none, .mv (.t 25)⟩]
def c6r4 : List AOper := [
  ⟨(some 27), none, .mv (.t 0)⟩,
  ⟨(some 28), none, .mv (.t 1)⟩,
  ⟨(some 29), none, .call (.c (.fn 28 [] [])) [(.t 27), (.t 28)]⟩,
  ⟨(some 26), none, .mv (.t 29)⟩,
  ⟨(some 30), none, .ext (.t 26) 0⟩,
  ⟨(some 31), none, .ext (.t 26) 1⟩,
  ⟨(some 7), none, .mv (.t 30)⟩,
  ⟨(some 8), none, .mv (.t 31)⟩]
def c6r5 : List AOper := [
  ⟨(some 33), none, .mv (.t 0)⟩,
  ⟨(some 34), none, .mv (.t 1)⟩,
  ⟨(some 35), none, .call (.c (.fn 16 [] [])) [(.t 33), (.t 34)]⟩,
  ⟨(some 32), none, .mv (.t 35)⟩,
  ⟨(some 36), none, .ext (.t 32) 0⟩,
  ⟨(some 37), none, .ext (.t 32) 1⟩,
  ⟨(some 9), none, .mv (.t 36)⟩,
  ⟨(some 10), none, .mv (.t 37)⟩]
def c6r6 : List AOper := [
  ⟨(some 39), none, .mv (.t 0)⟩,
  ⟨(some 40), none, .mv (.t 1)⟩,
  ⟨(some 41), none, .call (.c (.fn 29 [] [])) [(.t 39), (.t 40)]⟩,
  ⟨(some 38), none, .mv (.t 41)⟩,
  ⟨(some 42), none, .ext (.t 38) 0⟩,
  ⟨(some 43), none, .ext (.t 38) 1⟩,
  ⟨(some 11), none, .mv (.t 42)⟩,
  ⟨(some 12), none, .mv (.t 43)⟩]
def c6r7 : List AOper := [
  ⟨(some 45), none, .mv (.t 0)⟩,
  ⟨(some 46), none, .mv (.t 1)⟩,
  ⟨(some 47), none, .call (.c (.fn 30 [] [])) [(.t 45), (.t 46)]⟩,
  ⟨(some 44), none, .mv (.t 47)⟩,
  ⟨(some 48), none, .ext (.t 44) 0⟩,
  ⟨(some 49), none, .ext (.t 44) 1⟩,
  ⟨(some 13), none, .mv (.t 48)⟩,
  ⟨(some 14), none, .mv (.t 49)⟩]
def c6r8 : List AOper := [
  ⟨(some 51), none, .mv (.t 0)⟩,
  ⟨(some 52), none, .mv (.t 1)⟩,
  ⟨(some 53), none, .call (.c (.fn 31 [] [])) [(.t 51), (.t 52)]⟩,
  ⟨(some 50), none, .mv (.t 53)⟩,
  ⟨(some 54), none, .ext (.t 50) 0⟩,
  ⟨(some 55), none, .ext (.t 50) 1⟩,
  ⟨(some 15), none, .mv (.t 54)⟩,
  ⟨(some 16), none, .mv (.t 55)⟩]
def c6r9 : List AOper := [
  ⟨(some 56), none, .mv (.t 5)⟩,
  ⟨(some 57), none, .mv (.t 7)⟩,
  ⟨(some 58), none, .call (.c (.fn 32 [] [])) [(.t 56), (.t 57)]⟩,
  ⟨(some 59), none, .mv (.t 58)⟩,
  ⟨(some 60), (some (59, true)), .mv (.t 6)⟩,
  ⟨(some 61), (some (59, true)), .mv (.t 8)⟩,
  ⟨(some 62), (some (59, true)), .bin false .eql (.t 60) (.t 61)⟩,
  ⟨(some 63), none, .pick (.t 59) (.t 62) (.c (.b false))⟩,
  ⟨(some 64), none, .mv (.t 63)⟩,
  ⟨(some 65), (some (64, true)), .mv (.t 9)⟩,
  ⟨(some 66), (some (64, true)), .mv (.t 11)⟩,
  ⟨(some 67), (some (64, true)), .bin false .eql (.t 65) (.t 66)⟩,
  ⟨(some 68), none, .pick (.t 64) (.t 67) (.c (.b false))⟩,
  ⟨(some 69), none, .mv (.t 68)⟩,
  ⟨(some 70), (some (69, true)), .mv (.t 10)⟩,
  ⟨(some 71), (some (69, true)), .mv (.t 12)⟩,
  ⟨(some 72), (some (69, true)), .bin false .eql (.t 70) (.t 71)⟩,
  ⟨(some 73), none, .pick (.t 69) (.t 72) (.c (.b false))⟩,
  ⟨(some 74), none, .mv (.t 73)⟩,
  ⟨(some 75), (some (74, true)), .mv (.t 13)⟩,
  ⟨(some 76), (some (74, true)), .mv (.t 15)⟩,
  ⟨(some 77), (some (74, true)), .call (.c (.fn 33 [] [])) [(.t 75), (.t 76)]⟩,
  ⟨(some 78), none, .pick (.t 74) (.t 77) (.c (.b false))⟩,
  ⟨(some 79), none, .mv (.t 78)⟩,
  ⟨(some 80), (some (79, true)), .mv (.t 14)⟩,
  ⟨(some 81), (some (79, true)), .mv (.t 16)⟩,
  ⟨(some 82), (some (79, true)), .bin false .eql (.t 80) (.t 81)⟩,
  ⟨(some 83), none, .pick (.t 79) (.t 82) (.c (.b false))⟩,
  ⟨(some 84), none, .mv (.t 83)⟩,
  ⟨(some 85), (some (84, true)), .call (.c (.fn 24 [] [])) []⟩,
  ⟨(some 86), none, .pick (.t 84) (.t 85) (.c (.b false))⟩,
  ⟨(some 4), none, .mv (.t 86)⟩]
abbrev c6 : AC := (.seq (.reg c6r0) (.seq (.seq (.reg c6r1) (.cond (.t 18) (.seq (.reg c6r2) .ret) .skip)) (.seq (.reg c6r3) (.seq (.reg c6r4) (.seq (.reg c6r5) (.seq (.reg c6r6) (.seq (.reg c6r7) (.seq (.reg c6r8) (.seq (.reg c6r9) .ret)))))))))
def q6 : List ARes := [.t 4]
theorem fn6 : fnOf Try.prog 6 = some (c6, q6, 87) := by kernel_rfl

/-! 7: pantoscope/pantoscopelaw04.TempleWears · slots 138 · [0 h, 1 f, 2 n, 3 h, 4 f, 5 n, 7 a, 8 e, 9 b, 10 g, 11 c, 12 i, 13 d, 14 j] -/
def c7r0 : List AOper := [
  ⟨(some 3), none, .box (.t 0)⟩,
  ⟨(some 4), none, .box (.t 1)⟩,
  ⟨(some 5), none, .box (.t 2)⟩,
  ⟨(some 6), none, .mv (.c (.b false))⟩]
def c7r1 : List AOper := [
  ⟨(some 15), none, .ld (some 4) (.t 3)⟩,
  ⟨(some 16), none, .call (.c (.fn 34 [] [])) [(.t 15)]⟩,
  ⟨(some 17), none, .not (.t 16)⟩,
  ⟨(some 18), none, .mv (.t 17)⟩,
  ⟨(some 19), (some (18, false)), .iap 2 1 (.t 5) (.c (.i .i64 0))⟩,
  ⟨(some 20), (some (18, false)), .ld none (.t 19)⟩,
  ⟨(some 21), (some (18, false)), .bin false .lss (.t 20) (.c (.i .i64 0))⟩,
  ⟨(some 22), none, .pick (.t 18) (.c (.b true)) (.t 21)⟩,
  ⟨(some 23), none, .mv (.t 22)⟩,
  ⟨(some 24), (some (23, false)), .iap 2 1 (.t 5) (.c (.i .i64 1))⟩,
  ⟨(some 25), (some (23, false)), .ld none (.t 24)⟩,
  ⟨(some 26), (some (23, false)), .bin false .lss (.t 25) (.c (.i .i64 0))⟩,
  ⟨(some 27), none, .pick (.t 23) (.c (.b true)) (.t 26)⟩,
  ⟨(some 28), none, .mv (.t 27)⟩,
  ⟨(some 29), (some (28, false)), .iap 2 1 (.t 5) (.c (.i .i64 0))⟩,
  ⟨(some 30), (some (28, false)), .ld none (.t 29)⟩,
  ⟨(some 31), (some (28, false)), .bin false .gtr (.t 30) (.c (.i .i64 2000))⟩,
  ⟨(some 32), none, .pick (.t 28) (.c (.b true)) (.t 31)⟩,
  ⟨(some 33), none, .mv (.t 32)⟩,
  ⟨(some 34), (some (33, false)), .iap 2 1 (.t 5) (.c (.i .i64 1))⟩,
  ⟨(some 35), (some (33, false)), .ld none (.t 34)⟩,
  ⟨(some 36), (some (33, false)), .bin false .gtr (.t 35) (.c (.i .i64 2000))⟩,
  ⟨(some 37), none, .pick (.t 33) (.c (.b true)) (.t 36)⟩,
  ⟨(some 38), none, .mv (.t 37)⟩,
  ⟨(some 39), (some (38, false)), .iap 2 1 (.t 4) (.c (.i .i64 0))⟩,
  ⟨(some 40), (some (38, false)), .ld none (.t 39)⟩,
  ⟨(some 41), (some (38, false)), .bin false .lss (.t 40) (.c (.i .i64 0))⟩,
  ⟨(some 42), none, .pick (.t 38) (.c (.b true)) (.t 41)⟩,
  ⟨(some 43), none, .mv (.t 42)⟩,
  ⟨(some 44), (some (43, false)), .iap 2 1 (.t 4) (.c (.i .i64 0))⟩,
  ⟨(some 45), (some (43, false)), .ld none (.t 44)⟩,
  ⟨(some 46), (some (43, false)), .iap 2 1 (.t 4) (.c (.i .i64 1))⟩,
  ⟨(some 47), (some (43, false)), .ld none (.t 46)⟩,
  ⟨(some 48), (some (43, false)), .bin false .gtr (.t 45) (.t 47)⟩,
  ⟨(some 49), none, .pick (.t 43) (.c (.b true)) (.t 48)⟩,
  ⟨(some 50), none, .mv (.t 49)⟩,
  ⟨(some 51), (some (50, false)), .iap 2 1 (.t 4) (.c (.i .i64 1))⟩,
  ⟨(some 52), (some (50, false)), .ld none (.t 51)⟩,
  ⟨(some 53), (some (50, false)), .fa (.t 3) 1⟩,
  ⟨(some 54), (some (50, false)), .ld none (.t 53)⟩,
  ⟨(some 55), (some (50, false)), .bin false .gtr (.t 52) (.t 54)⟩,
  ⟨(some 56), none, .pick (.t 50) (.c (.b true)) (.t 55)⟩]
def c7r2 : List AOper := [
  ⟨(some 57), none, .call (.c (.fn 24 [] [])) []⟩,
  ⟨(some 6), none, .mv (.t 57)⟩]
def c7r3 : List AOper := [
  ⟨(some 59), none, .ld (some 4) (.t 3)⟩,
  ⟨(some 60), none, .iap 2 1 (.t 4) (.c (.i .i64 0))⟩,
  ⟨(some 61), none, .ld none (.t 60)⟩,
  ⟨(some 62), none, .iap 2 1 (.t 5) (.c (.i .i64 0))⟩,
  ⟨(some 63), none, .ld none (.t 62)⟩,
  ⟨(some 64), none, .call (.c (.fn 35 [] [])) [(.t 59), (.t 61), (.t 63)]⟩,
  ⟨(some 58), none, .mv (.t 64)⟩,
  ⟨(some 65), none, .ext (.t 58) 0⟩,
  ⟨(some 66), none, .ext (.t 58) 1⟩,
  ⟨(some 7), none, .mv (.t 65)⟩,
  ⟨(some 8), none, .mv (.t 66)⟩]
def c7r4 : List AOper := [
  ⟨(some 68), none, .ld (some 4) (.t 3)⟩,
  ⟨(some 69), none, .iap 2 1 (.t 4) (.c (.i .i64 1))⟩,
  ⟨(some 70), none, .ld none (.t 69)⟩,
  ⟨(some 71), none, .iap 2 1 (.t 5) (.c (.i .i64 0))⟩,
  ⟨(some 72), none, .ld none (.t 71)⟩,
  ⟨(some 73), none, .call (.c (.fn 35 [] [])) [(.t 68), (.t 70), (.t 72)]⟩,
  ⟨(some 67), none, .mv (.t 73)⟩,
  ⟨(some 74), none, .ext (.t 67) 0⟩,
  ⟨(some 75), none, .ext (.t 67) 1⟩,
  ⟨(some 9), none, .mv (.t 74)⟩,
  ⟨(some 10), none, .mv (.t 75)⟩]
def c7r5 : List AOper := [
  ⟨(some 77), none, .ld (some 4) (.t 3)⟩,
  ⟨(some 78), none, .mv (.t 7)⟩,
  ⟨(some 79), none, .iap 2 1 (.t 5) (.c (.i .i64 1))⟩,
  ⟨(some 80), none, .ld none (.t 79)⟩,
  ⟨(some 81), none, .call (.c (.fn 35 [] [])) [(.t 77), (.t 78), (.t 80)]⟩,
  ⟨(some 76), none, .mv (.t 81)⟩,
  ⟨(some 82), none, .ext (.t 76) 0⟩,
  ⟨(some 83), none, .ext (.t 76) 1⟩,
  ⟨(some 11), none, .mv (.t 82)⟩,
  ⟨(some 12), none, .mv (.t 83)⟩]
def c7r6 : List AOper := [
  ⟨(some 85), none, .ld (some 4) (.t 3)⟩,
  ⟨(some 86), none, .iap 2 1 (.t 4) (.c (.i .i64 0))⟩,
  ⟨(some 87), none, .ld none (.t 86)⟩,
  ⟨(some 88), none, .iap 2 1 (.t 5) (.c (.i .i64 0))⟩,
  ⟨(some 89), none, .ld none (.t 88)⟩,
  ⟨(some 90), none, .iap 2 1 (.t 5) (.c (.i .i64 1))⟩,
  ⟨(some 91), none, .ld none (.t 90)⟩,
  ⟨(some 92), none, .bin false .add (.t 89) (.t 91)⟩,
  ⟨(some 93), none, .call (.c (.fn 35 [] [])) [(.t 85), (.t 87), (.t 92)]⟩,
  ⟨(some 84), none, .mv (.t 93)⟩,
  ⟨(some 94), none, .ext (.t 84) 0⟩,
  ⟨(some 95), none, .ext (.t 84) 1⟩,
  ⟨(some 13), none, .mv (.t 94)⟩,
  ⟨(some 14), none, .mv (.t 95)⟩]
def c7r7 : List AOper := [
  ⟨(some 96), none, .mv (.t 8)⟩,
  ⟨(some 97), none, .bin false .eql (.t 96) (.c (.i .i64 0))⟩,
  ⟨(some 98), none, .mv (.t 97)⟩,
  ⟨(some 99), (some (98, true)), .mv (.t 10)⟩,
  ⟨(some 100), (some (98, true)), .bin false .eql (.t 99) (.c (.i .i64 0))⟩,
  ⟨(some 101), none, .pick (.t 98) (.t 100) (.c (.b false))⟩,
  ⟨(some 102), none, .mv (.t 101)⟩,
  ⟨(some 103), (some (102, true)), .mv (.t 12)⟩,
  ⟨(some 104), (some (102, true)), .bin false .eql (.t 103) (.c (.i .i64 0))⟩,
  ⟨(some 105), none, .pick (.t 102) (.t 104) (.c (.b false))⟩,
  ⟨(some 106), none, .mv (.t 105)⟩,
  ⟨(some 107), (some (106, true)), .mv (.t 14)⟩,
  ⟨(some 108), (some (106, true)), .bin false .eql (.t 107) (.c (.i .i64 0))⟩,
  ⟨(some 109), none, .pick (.t 106) (.t 108) (.c (.b false))⟩,
  ⟨(some 110), none, .mv (.t 109)⟩,
  ⟨(some 111), (some (110, true)), .mv (.t 7)⟩,
  ⟨(some 112), (some (110, true)), .mv (.t 9)⟩,
  ⟨(some 113), (some (110, true)), .bin false .leq (.t 111) (.t 112)⟩,
  ⟨(some 114), none, .pick (.t 110) (.t 113) (.c (.b false))⟩,
  ⟨(some 115), none, .mv (.t 114)⟩,
  ⟨(some 116), (some (115, true)), .mv (.t 7)⟩,
  ⟨(some 117), (some (115, true)), .iap 2 1 (.t 4) (.c (.i .i64 0))⟩,
  ⟨(some 118), (some (115, true)), .ld none (.t 117)⟩,
  ⟨(some 119), (some (115, true)), .bin false .leq (.t 116) (.t 118)⟩,
  ⟨(some 120), none, .pick (.t 115) (.t 119) (.c (.b false))⟩,
  ⟨(some 121), none, .mv (.t 120)⟩,
  ⟨(some 122), (some (121, true)), .mv (.t 7)⟩,
  ⟨(some 123), (some (121, true)), .bin false .geq (.t 122) (.c (.i .i64 0))⟩,
  ⟨(some 124), none, .pick (.t 121) (.t 123) (.c (.b false))⟩,
  ⟨(some 125), none, .mv (.t 124)⟩,
  ⟨(some 126), (some (125, true)), .mv (.t 11)⟩,
  ⟨(some 127), (some (125, true)), .mv (.t 13)⟩,
  ⟨(some 128), (some (125, true)), .bin false .eql (.t 126) (.t 127)⟩,
  ⟨(some 129), none, .pick (.t 125) (.t 128) (.c (.b false))⟩,
  ⟨(some 130), none, .mv (.t 129)⟩,
  ⟨(some 131), (some (130, true)), .mv (.t 11)⟩,
  ⟨(some 132), (some (130, true)), .mv (.t 7)⟩,
  ⟨(some 133), (some (130, true)), .bin false .leq (.t 131) (.t 132)⟩,
  ⟨(some 134), none, .pick (.t 130) (.t 133) (.c (.b false))⟩,
  ⟨(some 135), none, .mv (.t 134)⟩,
  ⟨(some 136), (some (135, true)), .call (.c (.fn 24 [] [])) []⟩,
  ⟨(some 137), none, .pick (.t 135) (.t 136) (.c (.b false))⟩,
  ⟨(some 6), none, .mv (.t 137)⟩]
abbrev c7 : AC := (.seq (.reg c7r0) (.seq (.seq (.reg c7r1) (.cond (.t 56) (.seq (.reg c7r2) .ret) .skip)) (.seq (.reg c7r3) (.seq (.reg c7r4) (.seq (.reg c7r5) (.seq (.reg c7r6) (.seq (.reg c7r7) .ret)))))))
def q7 : List ARes := [.t 6]
theorem fn7 : fnOf Try.prog 7 = some (c7, q7, 138) := by kernel_rfl

/-! 8: pantoscope/pantoscopelaw04.TempleTolerances · slots 71 · [0 l, 1 n, 2 l, 3 n, 5 t, 6 e, 7 u, 8 f, 9 m, 10 g, 11 k, 12 h] -/
def c8r0 : List AOper := [
  ⟨(some 4), none, .mv (.c (.b false))⟩]
def c8r1 : List AOper := [
  ⟨(some 13), none, .mv (.t 0)⟩,
  ⟨(some 14), none, .call (.c (.fn 23 [] [])) [(.t 13), (.c (.i .i64 24))]⟩]
def c8r2 : List AOper := [
  ⟨(some 15), none, .call (.c (.fn 24 [] [])) []⟩,
  ⟨(some 4), none, .mv (.t 15)⟩]
def c8r3 : List AOper := [
  ⟨(some 17), none, .mv (.t 0)⟩,
  ⟨(some 18), none, .mv (.t 1)⟩,
  ⟨(some 19), none, .call (.c (.fn 22 [] [])) [(.t 17), (.t 18)]⟩,
  ⟨(some 16), none, .mv (.t 19)⟩,
  ⟨(some 20), none, .ext (.t 16) 0⟩,
  ⟨(some 21), none, .ext (.t 16) 1⟩,
  ⟨(some 5), none, .mv (.t 20)⟩,
  ⟨(some 6), none, .mv (.t 21)⟩]
def c8r4 : List AOper := [
  ⟨(some 23), none, .mv (.t 0)⟩,
  ⟨(some 24), none, .mv (.t 1)⟩,
  ⟨(some 25), none, .call (.c (.fn 36 [] [])) [(.t 23), (.t 24)]⟩,
  ⟨(some 22), none, .mv (.t 25)⟩,
  ⟨(some 26), none, .ext (.t 22) 0⟩,
  ⟨(some 27), none, .ext (.t 22) 1⟩,
  ⟨(some 7), none, .mv (.t 26)⟩,
  ⟨(some 8), none, .mv (.t 27)⟩]
def c8r5 : List AOper := [
  ⟨(some 28), none, .mv (.t 5)⟩,
  ⟨(some 29), none, .mv (.t 7)⟩,
  ⟨(some 30), none, .bin false .neq (.t 28) (.t 29)⟩,
  ⟨(some 31), none, .mv (.t 30)⟩,
  ⟨(some 32), (some (31, false)), .mv (.t 6)⟩,
  ⟨(some 33), (some (31, false)), .mv (.t 8)⟩,
  ⟨(some 34), (some (31, false)), .bin false .neq (.t 32) (.t 33)⟩,
  ⟨(some 35), none, .pick (.t 31) (.c (.b true)) (.t 34)⟩,
  ⟨(some 36), none, .mv (.t 35)⟩,
  ⟨(some 37), (some (36, false)), .call (.c (.fn 24 [] [])) []⟩,
  ⟨(some 38), (some (36, false)), .not (.t 37)⟩,
  ⟨(some 39), none, .pick (.t 36) (.c (.b true)) (.t 38)⟩]
def c8r6 : List AOper := [
  ⟨(some 4), none, .mv (.c (.b false))⟩]
def c8r7 : List AOper := [
  ⟨(some 40), none, .mv (.t 6)⟩,
  ⟨(some 41), none, .bin false .neq (.t 40) (.c (.i .i64 0))⟩]
def c8r8 : List AOper := [
  ⟨(some 4), none, .mv (.c (.b true))⟩]
def c8r9 : List AOper := [
  ⟨(some 43), none, .mv (.t 0)⟩,
  ⟨(some 44), none, .mv (.t 5)⟩,
  ⟨(some 45), none, .call (.c (.fn 16 [] [])) [(.t 43), (.t 44)]⟩,
  ⟨(some 42), none, .mv (.t 45)⟩,
  ⟨(some 46), none, .ext (.t 42) 0⟩,
  ⟨(some 47), none, .ext (.t 42) 1⟩,
  ⟨(some 9), none, .mv (.t 46)⟩,
  ⟨(some 10), none, .mv (.t 47)⟩]
def c8r10 : List AOper := [
  ⟨(some 48), none, .mv (.t 10)⟩,
  ⟨(some 49), none, .bin false .neq (.t 48) (.c (.i .i64 0))⟩,
  ⟨(some 50), none, .mv (.t 49)⟩,
  ⟨(some 51), (some (50, false)), .mv (.t 9)⟩,
  ⟨(some 52), (some (50, false)), .mv (.t 1)⟩,
  ⟨(some 53), (some (50, false)), .bin false .lss (.t 51) (.t 52)⟩,
  ⟨(some 54), none, .pick (.t 50) (.c (.b true)) (.t 53)⟩]
def c8r11 : List AOper := [
  ⟨(some 4), none, .mv (.c (.b false))⟩]
def c8r12 : List AOper := [
  ⟨(some 55), none, .mv (.t 5)⟩,
  ⟨(some 56), none, .bin false .eql (.t 55) (.c (.i .i64 0))⟩]
def c8r13 : List AOper := [
  ⟨(some 4), none, .mv (.c (.b true))⟩]
def c8r14 : List AOper := [
  ⟨(some 58), none, .mv (.t 0)⟩,
  ⟨(some 59), none, .mv (.t 5)⟩,
  ⟨(some 60), none, .bin false .sub (.t 59) (.c (.i .i64 1))⟩,
  ⟨(some 61), none, .call (.c (.fn 16 [] [])) [(.t 58), (.t 60)]⟩,
  ⟨(some 57), none, .mv (.t 61)⟩,
  ⟨(some 62), none, .ext (.t 57) 0⟩,
  ⟨(some 63), none, .ext (.t 57) 1⟩,
  ⟨(some 11), none, .mv (.t 62)⟩,
  ⟨(some 12), none, .mv (.t 63)⟩]
def c8r15 : List AOper := [
  ⟨(some 64), none, .mv (.t 12)⟩,
  ⟨(some 65), none, .bin false .eql (.t 64) (.c (.i .i64 0))⟩,
  ⟨(some 66), none, .mv (.t 65)⟩,
  ⟨(some 67), (some (66, true)), .mv (.t 11)⟩,
  ⟨(some 68), (some (66, true)), .mv (.t 1)⟩,
  ⟨(some 69), (some (66, true)), .bin false .lss (.t 67) (.t 68)⟩,
  ⟨(some 70), none, .pick (.t 66) (.t 69) (.c (.b false))⟩,
  ⟨(some 4), none, .mv (.t 70)⟩]
abbrev c8 : AC := (.seq (.reg c8r0) (.seq (.seq (.reg c8r1) (.cond (.t 14) (.seq (.reg c8r2) .ret) .skip)) (.seq (.reg c8r3) (.seq (.reg c8r4) (.seq (.seq (.reg c8r5) (.cond (.t 39) (.seq (.reg c8r6) .ret) .skip)) (.seq (.seq (.reg c8r7) (.cond (.t 41) (.seq (.reg c8r8) .ret) .skip)) (.seq (.reg c8r9) (.seq (.seq (.reg c8r10) (.cond (.t 54) (.seq (.reg c8r11) .ret) .skip)) (.seq (.seq (.reg c8r12) (.cond (.t 56) (.seq (.reg c8r13) .ret) .skip)) (.seq (.reg c8r14) (.seq (.reg c8r15) .ret)))))))))))
def q8 : List ARes := [.t 4]
theorem fn8 : fnOf Try.prog 8 = some (c8, q8, 71) := by kernel_rfl

/-! 9: pantoscope/pantoscopelaw04.TempleChecks · slots 53 · [0 l, 1 tol, 2 pairs, 3 l, 4 tol, 5 pairs, 7 n, 8 e, 9 m, 10 f] -/
def c9r0 : List AOper := [
  ⟨(some 6), none, .mv (.c (.b false))⟩]
def c9r1 : List AOper := [
  ⟨(some 11), none, .mv (.t 0)⟩,
  ⟨(some 12), none, .call (.c (.fn 23 [] [])) [(.t 11), (.c (.i .i64 70))]⟩,
  ⟨(some 13), none, .mv (.t 12)⟩,
  ⟨(some 14), (some (13, false)), .mv (.t 2)⟩,
  ⟨(some 15), (some (13, false)), .len (.t 14)⟩,
  ⟨(some 16), (some (13, false)), .bin false .gtr (.t 15) (.c (.i .i64 70))⟩,
  ⟨(some 17), none, .pick (.t 13) (.c (.b true)) (.t 16)⟩]
def c9r2 : List AOper := [
  ⟨(some 18), none, .call (.c (.fn 24 [] [])) []⟩,
  ⟨(some 6), none, .mv (.t 18)⟩]
def c9r3 : List AOper := [
  ⟨(some 20), none, .mv (.t 0)⟩,
  ⟨(some 21), none, .mv (.t 2)⟩,
  ⟨(some 22), none, .call (.c (.fn 21 [] [])) [(.t 20), (.t 21)]⟩,
  ⟨(some 19), none, .mv (.t 22)⟩,
  ⟨(some 23), none, .ext (.t 19) 0⟩,
  ⟨(some 24), none, .ext (.t 19) 1⟩,
  ⟨(some 7), none, .mv (.t 23)⟩,
  ⟨(some 8), none, .mv (.t 24)⟩]
def c9r4 : List AOper := [
  ⟨(some 26), none, .mv (.t 0)⟩,
  ⟨(some 27), none, .mv (.t 2)⟩,
  ⟨(some 28), none, .call (.c (.fn 37 [] [])) [(.t 26), (.t 27)]⟩,
  ⟨(some 25), none, .mv (.t 28)⟩,
  ⟨(some 29), none, .ext (.t 25) 0⟩,
  ⟨(some 30), none, .ext (.t 25) 1⟩,
  ⟨(some 9), none, .mv (.t 29)⟩,
  ⟨(some 10), none, .mv (.t 30)⟩]
def c9r5 : List AOper := [
  ⟨(some 31), none, .mv (.t 0)⟩,
  ⟨(some 32), none, .mv (.t 1)⟩,
  ⟨(some 33), none, .mv (.t 2)⟩,
  ⟨(some 34), none, .call (.c (.fn 38 [] [])) [(.t 31), (.t 32), (.t 33)]⟩,
  ⟨(some 35), none, .mv (.t 0)⟩,
  ⟨(some 36), none, .mv (.t 1)⟩,
  ⟨(some 37), none, .mv (.t 2)⟩,
  ⟨(some 38), none, .call (.c (.fn 19 [] [])) [(.t 35), (.t 36), (.t 37)]⟩,
  ⟨(some 39), none, .bin false .eql (.t 34) (.t 38)⟩,
  ⟨(some 40), none, .mv (.t 39)⟩,
  ⟨(some 41), (some (40, true)), .mv (.t 7)⟩,
  ⟨(some 42), (some (40, true)), .mv (.t 9)⟩,
  ⟨(some 43), (some (40, true)), .bin false .eql (.t 41) (.t 42)⟩,
  ⟨(some 44), none, .pick (.t 40) (.t 43) (.c (.b false))⟩,
  ⟨(some 45), none, .mv (.t 44)⟩,
  ⟨(some 46), (some (45, true)), .mv (.t 8)⟩,
  ⟨(some 47), (some (45, true)), .mv (.t 10)⟩,
  ⟨(some 48), (some (45, true)), .bin false .eql (.t 46) (.t 47)⟩,
  ⟨(some 49), none, .pick (.t 45) (.t 48) (.c (.b false))⟩,
  ⟨(some 50), none, .mv (.t 49)⟩,
  ⟨(some 51), (some (50, true)), .call (.c (.fn 24 [] [])) []⟩,
  ⟨(some 52), none, .pick (.t 50) (.t 51) (.c (.b false))⟩,
  ⟨(some 6), none, .mv (.t 52)⟩]
abbrev c9 : AC := (.seq (.reg c9r0) (.seq (.seq (.reg c9r1) (.cond (.t 17) (.seq (.reg c9r2) .ret) .skip)) (.seq (.reg c9r3) (.seq (.reg c9r4) (.seq (.reg c9r5) .ret)))))
def q9 : List ARes := [.t 6]
theorem fn9 : fnOf Try.prog 9 = some (c9, q9, 53) := by kernel_rfl

/-! 10: pantoscope/pantoscopelaw04.TempleLives · slots 204 · [0 x, 1 x, 3 n, 4 is, 5 e, 6 a, 7 f, 8 b, 9 g, 10 a, 11 f, 12 s, 13 f, 14 t, 15 g, 16 u, 17 h] -/
def c10r0 : List AOper := [
  ⟨(some 1), none, .box (.t 0)⟩,
  ⟨(some 2), none, .mv (.c (.b false))⟩]
def c10r1 : List AOper := [
  ⟨(some 18), none, .fa (.t 1) 0⟩,
  ⟨(some 19), none, .ld (some 4) (.t 18)⟩,
  ⟨(some 20), none, .call (.c (.fn 34 [] [])) [(.t 19)]⟩,
  ⟨(some 21), none, .not (.t 20)⟩,
  ⟨(some 22), none, .mv (.t 21)⟩,
  ⟨(some 23), (some (22, false)), .fa (.t 1) 4⟩,
  ⟨(some 24), (some (22, false)), .ld none (.t 23)⟩,
  ⟨(some 25), (some (22, false)), .bin false .lss (.t 24) (.c (.i .i64 0))⟩,
  ⟨(some 26), none, .pick (.t 22) (.c (.b true)) (.t 25)⟩,
  ⟨(some 27), none, .mv (.t 26)⟩,
  ⟨(some 28), (some (27, false)), .fa (.t 1) 4⟩,
  ⟨(some 29), (some (27, false)), .ld none (.t 28)⟩,
  ⟨(some 30), (some (27, false)), .fa (.t 1) 0⟩,
  ⟨(some 31), (some (27, false)), .fa (.t 30) 1⟩,
  ⟨(some 32), (some (27, false)), .ld none (.t 31)⟩,
  ⟨(some 33), (some (27, false)), .bin false .gtr (.t 29) (.t 32)⟩,
  ⟨(some 34), none, .pick (.t 27) (.c (.b true)) (.t 33)⟩,
  ⟨(some 35), none, .mv (.t 34)⟩,
  ⟨(some 36), (some (35, false)), .fa (.t 1) 6⟩,
  ⟨(some 37), (some (35, false)), .ld none (.t 36)⟩,
  ⟨(some 38), (some (35, false)), .bin false .lss (.t 37) (.c (.i .i64 0))⟩,
  ⟨(some 39), none, .pick (.t 35) (.c (.b true)) (.t 38)⟩,
  ⟨(some 40), none, .mv (.t 39)⟩,
  ⟨(some 41), (some (40, false)), .fa (.t 1) 6⟩,
  ⟨(some 42), (some (40, false)), .ld none (.t 41)⟩,
  ⟨(some 43), (some (40, false)), .fa (.t 1) 0⟩,
  ⟨(some 44), (some (40, false)), .fa (.t 43) 1⟩,
  ⟨(some 45), (some (40, false)), .ld none (.t 44)⟩,
  ⟨(some 46), (some (40, false)), .bin false .geq (.t 42) (.t 45)⟩,
  ⟨(some 47), none, .pick (.t 40) (.c (.b true)) (.t 46)⟩,
  ⟨(some 48), none, .mv (.t 47)⟩,
  ⟨(some 49), (some (48, false)), .fa (.t 1) 5⟩,
  ⟨(some 50), (some (48, false)), .ld none (.t 49)⟩,
  ⟨(some 51), (some (48, false)), .bin false .lss (.t 50) (.c (.i .i64 0))⟩,
  ⟨(some 52), none, .pick (.t 48) (.c (.b true)) (.t 51)⟩,
  ⟨(some 53), none, .mv (.t 52)⟩,
  ⟨(some 54), (some (53, false)), .fa (.t 1) 5⟩,
  ⟨(some 55), (some (53, false)), .ld none (.t 54)⟩,
  ⟨(some 56), (some (53, false)), .bin false .gtr (.t 55) (.c (.i .i64 3000))⟩,
  ⟨(some 57), none, .pick (.t 53) (.c (.b true)) (.t 56)⟩]
def c10r2 : List AOper := [
  ⟨(some 58), none, .call (.c (.fn 24 [] [])) []⟩,
  ⟨(some 2), none, .mv (.t 58)⟩]
def c10r3 : List AOper := [
  ⟨(some 60), none, .fa (.t 1) 0⟩,
  ⟨(some 61), none, .ld (some 4) (.t 60)⟩,
  ⟨(some 62), none, .fa (.t 1) 4⟩,
  ⟨(some 63), none, .ld none (.t 62)⟩,
  ⟨(some 64), none, .fa (.t 1) 6⟩,
  ⟨(some 65), none, .ld none (.t 64)⟩,
  ⟨(some 66), none, .call (.c (.fn 39 [] [])) [(.t 61), (.t 63), (.t 65)]⟩,
  ⟨(some 59), none, .mv (.t 66)⟩,
  ⟨(some 67), none, .ext (.t 59) 0⟩,
  ⟨(some 68), none, .ext (.t 59) 1⟩,
  ⟨(some 69), none, .ext (.t 59) 2⟩,
  ⟨(some 3), none, .mv (.t 67)⟩,
  ⟨(some 4), none, .mv (.t 68)⟩,
  ⟨(some 5), none, .mv (.t 69)⟩]
def c10r4 : List AOper := [
  ⟨(some 70), none, .mv (.t 5)⟩,
  ⟨(some 71), none, .bin false .neq (.t 70) (.c (.i .i64 0))⟩,
  ⟨(some 72), none, .mv (.t 71)⟩,
  ⟨(some 73), (some (72, false)), .mv (.t 3)⟩,
  ⟨(some 74), (some (72, false)), .bin false .lss (.t 73) (.c (.i .i64 0))⟩,
  ⟨(some 75), none, .pick (.t 72) (.c (.b true)) (.t 74)⟩,
  ⟨(some 76), none, .mv (.t 75)⟩,
  ⟨(some 77), (some (76, false)), .mv (.t 3)⟩,
  ⟨(some 78), (some (76, false)), .bin false .gtr (.t 77) (.c (.i .i64 100000))⟩,
  ⟨(some 79), none, .pick (.t 76) (.c (.b true)) (.t 78)⟩]
def c10r5 : List AOper := [
  ⟨(some 2), none, .mv (.c (.b false))⟩]
def c10r6 : List AOper := [
  ⟨(some 80), none, .mv (.t 4)⟩]
def c10r7 : List AOper := [
  ⟨(some 82), none, .fa (.t 1) 0⟩,
  ⟨(some 83), none, .ld (some 4) (.t 82)⟩,
  ⟨(some 84), none, .fa (.t 1) 4⟩,
  ⟨(some 85), none, .ld none (.t 84)⟩,
  ⟨(some 86), none, .mv (.t 3)⟩,
  ⟨(some 87), none, .call (.c (.fn 35 [] [])) [(.t 83), (.t 85), (.t 86)]⟩,
  ⟨(some 81), none, .mv (.t 87)⟩,
  ⟨(some 88), none, .ext (.t 81) 0⟩,
  ⟨(some 89), none, .ext (.t 81) 1⟩,
  ⟨(some 6), none, .mv (.t 88)⟩,
  ⟨(some 7), none, .mv (.t 89)⟩]
def c10r8 : List AOper := [
  ⟨(some 90), none, .mv (.t 7)⟩,
  ⟨(some 91), none, .bin false .neq (.t 90) (.c (.i .i64 0))⟩,
  ⟨(some 92), none, .mv (.t 91)⟩,
  ⟨(some 93), (some (92, false)), .mv (.t 6)⟩,
  ⟨(some 94), (some (92, false)), .fa (.t 1) 6⟩,
  ⟨(some 95), (some (92, false)), .ld none (.t 94)⟩,
  ⟨(some 96), (some (92, false)), .bin false .geq (.t 93) (.t 95)⟩,
  ⟨(some 97), none, .pick (.t 92) (.c (.b true)) (.t 96)⟩]
def c10r9 : List AOper := [
  ⟨(some 2), none, .mv (.c (.b false))⟩]
def c10r10 : List AOper := [
  ⟨(some 98), none, .mv (.t 3)⟩,
  ⟨(some 99), none, .bin false .gtr (.t 98) (.c (.i .i64 0))⟩]
def c10r11 : List AOper := [
  ⟨(some 101), none, .fa (.t 1) 0⟩,
  ⟨(some 102), none, .ld (some 4) (.t 101)⟩,
  ⟨(some 103), none, .fa (.t 1) 4⟩,
  ⟨(some 104), none, .ld none (.t 103)⟩,
  ⟨(some 105), none, .mv (.t 3)⟩,
  ⟨(some 106), none, .bin false .sub (.t 105) (.c (.i .i64 1))⟩,
  ⟨(some 107), none, .call (.c (.fn 35 [] [])) [(.t 102), (.t 104), (.t 106)]⟩,
  ⟨(some 100), none, .mv (.t 107)⟩,
  ⟨(some 108), none, .ext (.t 100) 0⟩,
  ⟨(some 109), none, .ext (.t 100) 1⟩,
  ⟨(some 8), none, .mv (.t 108)⟩,
  ⟨(some 9), none, .mv (.t 109)⟩]
def c10r12 : List AOper := [
  ⟨(some 110), none, .mv (.t 9)⟩,
  ⟨(some 111), none, .bin false .neq (.t 110) (.c (.i .i64 0))⟩,
  ⟨(some 112), none, .mv (.t 111)⟩,
  ⟨(some 113), (some (112, false)), .mv (.t 8)⟩,
  ⟨(some 114), (some (112, false)), .fa (.t 1) 6⟩,
  ⟨(some 115), (some (112, false)), .ld none (.t 114)⟩,
  ⟨(some 116), (some (112, false)), .bin false .lss (.t 113) (.t 115)⟩,
  ⟨(some 117), none, .pick (.t 112) (.c (.b true)) (.t 116)⟩]
def c10r13 : List AOper := [
  ⟨(some 2), none, .mv (.c (.b false))⟩]
def c10r14 : List AOper := [
  ⟨(some 119), none, .fa (.t 1) 0⟩,
  ⟨(some 120), none, .ld (some 4) (.t 119)⟩,
  ⟨(some 121), none, .fa (.t 1) 4⟩,
  ⟨(some 122), none, .ld none (.t 121)⟩,
  ⟨(some 123), none, .call (.c (.fn 35 [] [])) [(.t 120), (.t 122), (.c (.i .i64 100000))]⟩,
  ⟨(some 118), none, .mv (.t 123)⟩,
  ⟨(some 124), none, .ext (.t 118) 0⟩,
  ⟨(some 125), none, .ext (.t 118) 1⟩,
  ⟨(some 10), none, .mv (.t 124)⟩,
  ⟨(some 11), none, .mv (.t 125)⟩]
def c10r15 : List AOper := [
  ⟨(some 126), none, .mv (.t 11)⟩,
  ⟨(some 127), none, .bin false .neq (.t 126) (.c (.i .i64 0))⟩,
  ⟨(some 128), none, .mv (.t 127)⟩,
  ⟨(some 129), (some (128, false)), .mv (.t 10)⟩,
  ⟨(some 130), (some (128, false)), .fa (.t 1) 6⟩,
  ⟨(some 131), (some (128, false)), .ld none (.t 130)⟩,
  ⟨(some 132), (some (128, false)), .bin false .lss (.t 129) (.t 131)⟩,
  ⟨(some 133), none, .pick (.t 128) (.c (.b true)) (.t 132)⟩,
  ⟨(some 134), none, .mv (.t 133)⟩,
  ⟨(some 135), (some (134, false)), .mv (.t 3)⟩,
  ⟨(some 136), (some (134, false)), .bin false .neq (.t 135) (.c (.i .i64 0))⟩,
  ⟨(some 137), none, .pick (.t 134) (.c (.b true)) (.t 136)⟩]
def c10r16 : List AOper := [
  ⟨(some 2), none, .mv (.c (.b false))⟩]
def c10r17 : List AOper := [
  ⟨(some 139), none, .fa (.t 1) 0⟩,
  ⟨(some 140), none, .ld (some 4) (.t 139)⟩,
  ⟨(some 141), none, .fa (.t 1) 5⟩,
  ⟨(some 142), none, .ld none (.t 141)⟩,
  ⟨(some 143), none, .fa (.t 1) 6⟩,
  ⟨(some 144), none, .ld none (.t 143)⟩,
  ⟨(some 145), none, .call (.c (.fn 40 [] [])) [(.t 140), (.t 142), (.t 144)]⟩,
  ⟨(some 138), none, .mv (.t 145)⟩,
  ⟨(some 146), none, .ext (.t 138) 0⟩,
  ⟨(some 147), none, .ext (.t 138) 1⟩,
  ⟨(some 12), none, .mv (.t 146)⟩,
  ⟨(some 13), none, .mv (.t 147)⟩]
def c10r18 : List AOper := [
  ⟨(some 149), none, .fa (.t 1) 0⟩,
  ⟨(some 150), none, .ld (some 4) (.t 149)⟩,
  ⟨(some 151), none, .fa (.t 1) 5⟩,
  ⟨(some 152), none, .ld none (.t 151)⟩,
  ⟨(some 153), none, .bin false .add (.t 152) (.c (.i .i64 1))⟩,
  ⟨(some 154), none, .fa (.t 1) 6⟩,
  ⟨(some 155), none, .ld none (.t 154)⟩,
  ⟨(some 156), none, .call (.c (.fn 40 [] [])) [(.t 150), (.t 153), (.t 155)]⟩,
  ⟨(some 148), none, .mv (.t 156)⟩,
  ⟨(some 157), none, .ext (.t 148) 0⟩,
  ⟨(some 158), none, .ext (.t 148) 1⟩,
  ⟨(some 14), none, .mv (.t 157)⟩,
  ⟨(some 15), none, .mv (.t 158)⟩]
def c10r19 : List AOper := [
  ⟨(some 160), none, .fa (.t 1) 0⟩,
  ⟨(some 161), none, .ld (some 4) (.t 160)⟩,
  ⟨(some 162), none, .fa (.t 1) 5⟩,
  ⟨(some 163), none, .ld none (.t 162)⟩,
  ⟨(some 164), none, .fa (.t 1) 6⟩,
  ⟨(some 165), none, .ld none (.t 164)⟩,
  ⟨(some 166), none, .bin false .add (.t 165) (.c (.i .i64 1))⟩,
  ⟨(some 167), none, .call (.c (.fn 40 [] [])) [(.t 161), (.t 163), (.t 166)]⟩,
  ⟨(some 159), none, .mv (.t 167)⟩,
  ⟨(some 168), none, .ext (.t 159) 0⟩,
  ⟨(some 169), none, .ext (.t 159) 1⟩,
  ⟨(some 16), none, .mv (.t 168)⟩,
  ⟨(some 17), none, .mv (.t 169)⟩]
def c10r20 : List AOper := [
  ⟨(some 170), none, .mv (.t 13)⟩,
  ⟨(some 171), none, .bin false .neq (.t 170) (.c (.i .i64 0))⟩]
def c10r21 : List AOper := [
  ⟨(some 172), none, .mv (.t 13)⟩,
  ⟨(some 173), none, .bin false .eql (.t 172) (.c (.i .i64 4))⟩,
  ⟨(some 174), none, .mv (.t 173)⟩,
  ⟨(some 175), (some (174, true)), .mv (.t 15)⟩,
  ⟨(some 176), (some (174, true)), .bin false .eql (.t 175) (.c (.i .i64 4))⟩,
  ⟨(some 177), none, .pick (.t 174) (.t 176) (.c (.b false))⟩,
  ⟨(some 178), none, .mv (.t 177)⟩,
  ⟨(some 179), (some (178, true)), .mv (.t 12)⟩,
  ⟨(some 180), (some (178, true)), .bin false .eql (.t 179) (.c (.i .i64 0))⟩,
  ⟨(some 181), none, .pick (.t 178) (.t 180) (.c (.b false))⟩,
  ⟨(some 182), none, .mv (.t 181)⟩,
  ⟨(some 183), (some (182, true)), .call (.c (.fn 24 [] [])) []⟩,
  ⟨(some 184), none, .pick (.t 182) (.t 183) (.c (.b false))⟩,
  ⟨(some 2), none, .mv (.t 184)⟩]
def c10r22 : List AOper := [
  ⟨(some 185), none, .mv (.t 15)⟩,
  ⟨(some 186), none, .bin false .neq (.t 185) (.c (.i .i64 0))⟩,
  ⟨(some 187), none, .mv (.t 186)⟩,
  ⟨(some 188), (some (187, false)), .mv (.t 14)⟩,
  ⟨(some 189), (some (187, false)), .mv (.t 12)⟩,
  ⟨(some 190), (some (187, false)), .bin false .geq (.t 188) (.t 189)⟩,
  ⟨(some 191), none, .pick (.t 187) (.c (.b true)) (.t 190)⟩,
  ⟨(some 192), none, .mv (.t 191)⟩,
  ⟨(some 193), (some (192, true)), .mv (.t 17)⟩,
  ⟨(some 194), (some (192, true)), .bin false .neq (.t 193) (.c (.i .i64 0))⟩,
  ⟨(some 195), (some (192, true)), .mv (.t 194)⟩,
  ⟨(some 196), (some (195, false)), .mv (.t 16)⟩,
  ⟨(some 197), (some (195, false)), .mv (.t 12)⟩,
  ⟨(some 198), (some (195, false)), .bin false .geq (.t 196) (.t 197)⟩,
  ⟨(some 199), (some (192, true)), .pick (.t 195) (.c (.b true)) (.t 198)⟩,
  ⟨(some 200), none, .pick (.t 192) (.t 199) (.c (.b false))⟩,
  ⟨(some 201), none, .mv (.t 200)⟩,
  ⟨(some 202), (some (201, true)), .call (.c (.fn 24 [] [])) []⟩,
  ⟨(some 203), none, .pick (.t 201) (.t 202) (.c (.b false))⟩,
  ⟨(some 2), none, .mv (.t 203)⟩]
abbrev c10 : AC := (.seq (.reg c10r0) (.seq (.seq (.reg c10r1) (.cond (.t 57) (.seq (.reg c10r2) .ret) .skip)) (.seq (.reg c10r3) (.seq (.seq (.reg c10r4) (.cond (.t 79) (.seq (.reg c10r5) .ret) .skip)) (.seq (.seq (.reg c10r6) (.cond (.t 80) (.seq (.reg c10r7) (.seq (.seq (.reg c10r8) (.cond (.t 97) (.seq (.reg c10r9) .ret) .skip)) (.seq (.reg c10r10) (.cond (.t 99) (.seq (.reg c10r11) (.seq (.reg c10r12) (.cond (.t 117) (.seq (.reg c10r13) .ret) .skip))) .skip)))) (.seq (.reg c10r14) (.seq (.reg c10r15) (.cond (.t 137) (.seq (.reg c10r16) .ret) .skip))))) (.seq (.reg c10r17) (.seq (.reg c10r18) (.seq (.reg c10r19) (.seq (.seq (.reg c10r20) (.cond (.t 171) (.seq (.reg c10r21) .ret) .skip)) (.seq (.reg c10r22) .ret))))))))))
def q10 : List ARes := [.t 2]
theorem fn10 : fnOf Try.prog 10 = some (c10, q10, 204) := by kernel_rfl

/-! 11: pantoscope/pantoscopelaw04.TempleGuards · slots 108 · [0 l, 1 tol, 2 list, 3 l, 4 tol, 5 list, 7 x, 8 e, 9 y, 10 f, 11 g, 12 h, 13 n, 14 i, 15 is, 16 j, 17 k] -/
def c11r0 : List AOper := [
  ⟨(some 6), none, .mv (.c (.b false))⟩]
def c11r1 : List AOper := [
  ⟨(some 18), none, .mv (.t 0)⟩,
  ⟨(some 19), none, .call (.c (.fn 23 [] [])) [(.t 18), (.c (.i .i64 40))]⟩,
  ⟨(some 20), none, .mv (.t 19)⟩,
  ⟨(some 21), (some (20, false)), .mv (.t 2)⟩,
  ⟨(some 22), (some (20, false)), .len (.t 21)⟩,
  ⟨(some 23), (some (20, false)), .bin false .gtr (.t 22) (.c (.i .i64 60))⟩,
  ⟨(some 24), none, .pick (.t 20) (.c (.b true)) (.t 23)⟩]
def c11r2 : List AOper := [
  ⟨(some 25), none, .call (.c (.fn 24 [] [])) []⟩,
  ⟨(some 6), none, .mv (.t 25)⟩]
def c11r3 : List AOper := [
  ⟨(some 27), none, .mv (.t 0)⟩,
  ⟨(some 28), none, .mv (.t 1)⟩,
  ⟨(some 29), none, .mv (.t 2)⟩,
  ⟨(some 30), none, .call (.c (.fn 41 [] [])) [(.t 27), (.t 28), (.t 29)]⟩,
  ⟨(some 26), none, .mv (.t 30)⟩,
  ⟨(some 31), none, .ext (.t 26) 0⟩,
  ⟨(some 32), none, .ext (.t 26) 1⟩,
  ⟨(some 7), none, .mv (.t 31)⟩,
  ⟨(some 8), none, .mv (.t 32)⟩]
def c11r4 : List AOper := [
  ⟨(some 34), none, .mv (.t 0)⟩,
  ⟨(some 35), none, .mv (.t 1)⟩,
  ⟨(some 36), none, .mv (.t 2)⟩,
  ⟨(some 37), none, .call (.c (.fn 20 [] [])) [(.t 34), (.t 35), (.t 36)]⟩,
  ⟨(some 33), none, .mv (.t 37)⟩,
  ⟨(some 38), none, .ext (.t 33) 0⟩,
  ⟨(some 39), none, .ext (.t 33) 1⟩,
  ⟨(some 9), none, .mv (.t 38)⟩,
  ⟨(some 10), none, .mv (.t 39)⟩]
def c11r5 : List AOper := [
  ⟨(some 40), none, .mv (.t 7)⟩,
  ⟨(some 41), none, .mv (.t 9)⟩,
  ⟨(some 42), none, .bin true .neq (.t 40) (.t 41)⟩,
  ⟨(some 43), none, .mv (.t 42)⟩,
  ⟨(some 44), (some (43, false)), .mv (.t 8)⟩,
  ⟨(some 45), (some (43, false)), .mv (.t 10)⟩,
  ⟨(some 46), (some (43, false)), .bin false .neq (.t 44) (.t 45)⟩,
  ⟨(some 47), none, .pick (.t 43) (.c (.b true)) (.t 46)⟩]
def c11r6 : List AOper := [
  ⟨(some 6), none, .mv (.c (.b false))⟩]
def c11r7 : List AOper := [
  ⟨(some 49), none, .mv (.t 0)⟩,
  ⟨(some 50), none, .mv (.t 1)⟩,
  ⟨(some 51), none, .call (.c (.fn 18 [] [])) [(.t 49), (.t 50)]⟩,
  ⟨(some 48), none, .mv (.t 51)⟩,
  ⟨(some 52), none, .ext (.t 48) 0⟩,
  ⟨(some 53), none, .ext (.t 48) 1⟩,
  ⟨(some 11), none, .mv (.t 52)⟩,
  ⟨(some 12), none, .mv (.t 53)⟩]
def c11r8 : List AOper := [
  ⟨(some 55), none, .mv (.t 0)⟩,
  ⟨(some 56), none, .mv (.t 1)⟩,
  ⟨(some 57), none, .call (.c (.fn 29 [] [])) [(.t 55), (.t 56)]⟩,
  ⟨(some 54), none, .mv (.t 57)⟩,
  ⟨(some 58), none, .ext (.t 54) 0⟩,
  ⟨(some 59), none, .ext (.t 54) 1⟩,
  ⟨(some 13), none, .mv (.t 58)⟩,
  ⟨(some 14), none, .mv (.t 59)⟩]
def c11r9 : List AOper := [
  ⟨(some 60), none, .mv (.t 12)⟩,
  ⟨(some 61), none, .mv (.t 14)⟩,
  ⟨(some 62), none, .bin false .neq (.t 60) (.t 61)⟩]
def c11r10 : List AOper := [
  ⟨(some 6), none, .mv (.c (.b false))⟩]
def c11r11 : List AOper := [
  ⟨(some 63), none, .mv (.t 14)⟩,
  ⟨(some 64), none, .bin false .neq (.t 63) (.c (.i .i64 0))⟩]
def c11r12 : List AOper := [
  ⟨(some 65), none, .mv (.t 11)⟩,
  ⟨(some 66), none, .len (.t 65)⟩,
  ⟨(some 67), none, .bin false .eql (.t 66) (.c (.i .i64 0))⟩,
  ⟨(some 68), none, .mv (.t 67)⟩,
  ⟨(some 69), (some (68, true)), .call (.c (.fn 24 [] [])) []⟩,
  ⟨(some 70), none, .pick (.t 68) (.t 69) (.c (.b false))⟩,
  ⟨(some 6), none, .mv (.t 70)⟩]
def c11r13 : List AOper := [
  ⟨(some 72), none, .mv (.t 0)⟩,
  ⟨(some 73), none, .mv (.t 1)⟩,
  ⟨(some 74), none, .mv (.t 11)⟩,
  ⟨(some 75), none, .call (.c (.fn 20 [] [])) [(.t 72), (.t 73), (.t 74)]⟩,
  ⟨(some 71), none, .mv (.t 75)⟩,
  ⟨(some 76), none, .ext (.t 71) 0⟩,
  ⟨(some 77), none, .ext (.t 71) 1⟩,
  ⟨(some 15), none, .mv (.t 76)⟩,
  ⟨(some 16), none, .mv (.t 77)⟩]
def c11r14 : List AOper := [
  ⟨(some 17), none, .mv (.c (.i .i64 1))⟩]
def c11r15 : List AOper := [
  ⟨(some 78), none, .mv (.t 17)⟩,
  ⟨(some 79), none, .mv (.t 11)⟩,
  ⟨(some 80), none, .len (.t 79)⟩,
  ⟨(some 81), none, .bin false .lss (.t 78) (.t 80)⟩]
def c11r16 : List AOper := [
  ⟨(some 84), none, .mv (.t 11)⟩,
  ⟨(some 85), none, .mv (.t 17)⟩,
  ⟨(some 86), none, .ia 1 (.t 84) (.t 85)⟩,
  ⟨(some 87), none, .ld none (.t 86)⟩,
  ⟨(some 88), none, .mv (.t 11)⟩,
  ⟨(some 89), none, .mv (.t 17)⟩,
  ⟨(some 90), none, .bin false .sub (.t 89) (.c (.i .i64 1))⟩,
  ⟨(some 91), none, .ia 1 (.t 88) (.t 90)⟩,
  ⟨(some 92), none, .ld none (.t 91)⟩,
  ⟨(some 93), none, .bin false .leq (.t 87) (.t 92)⟩]
def c11r17 : List AOper := [
  ⟨(some 6), none, .mv (.c (.b false))⟩]
def c11r18 : List AOper := [
  ⟨(some 82), none, .mv (.t 17)⟩,
  ⟨(some 83), none, .bin false .add (.t 82) (.c (.i .i64 1))⟩,
  ⟨(some 17), none, .mv (.t 83)⟩]
abbrev c11b19 : AC := (.seq (.seq (.reg c11r15) (.cond (.t 81) .skip (.exit 0))) (.seq (.blk 1 (.seq (.head 9 c11r16) (.cond (.t 93) (.seq (.reg c11r17) .ret) .skip))) (.reg c11r18)))
def c11r20 : List AOper := [
  ⟨(some 94), none, .mv (.t 15)⟩,
  ⟨(some 95), none, .mv (.t 94)⟩,
  ⟨(some 96), (some (95, true)), .mv (.t 16)⟩,
  ⟨(some 97), (some (95, true)), .bin false .eql (.t 96) (.c (.i .i64 0))⟩,
  ⟨(some 98), none, .pick (.t 95) (.t 97) (.c (.b false))⟩,
  ⟨(some 99), none, .mv (.t 98)⟩,
  ⟨(some 100), (some (99, true)), .mv (.t 11)⟩,
  ⟨(some 101), (some (99, true)), .len (.t 100)⟩,
  ⟨(some 102), (some (99, true)), .mv (.t 13)⟩,
  ⟨(some 103), (some (99, true)), .bin false .eql (.t 101) (.t 102)⟩,
  ⟨(some 104), none, .pick (.t 99) (.t 103) (.c (.b false))⟩,
  ⟨(some 105), none, .mv (.t 104)⟩,
  ⟨(some 106), (some (105, true)), .call (.c (.fn 24 [] [])) []⟩,
  ⟨(some 107), none, .pick (.t 105) (.t 106) (.c (.b false))⟩,
  ⟨(some 6), none, .mv (.t 107)⟩]
abbrev c11 : AC := (.seq (.reg c11r0) (.seq (.seq (.reg c11r1) (.cond (.t 24) (.seq (.reg c11r2) .ret) .skip)) (.seq (.reg c11r3) (.seq (.reg c11r4) (.seq (.seq (.reg c11r5) (.cond (.t 47) (.seq (.reg c11r6) .ret) .skip)) (.seq (.reg c11r7) (.seq (.reg c11r8) (.seq (.seq (.reg c11r9) (.cond (.t 62) (.seq (.reg c11r10) .ret) .skip)) (.seq (.seq (.reg c11r11) (.cond (.t 64) (.seq (.reg c11r12) .ret) .skip)) (.seq (.reg c11r13) (.seq (.seq (.reg c11r14) (.blk 0 (.loop c11b19))) (.seq (.reg c11r20) .ret))))))))))))
def q11 : List ARes := [.t 6]
theorem fn11 : fnOf Try.prog 11 = some (c11, q11, 108) := by kernel_rfl

/-! 12: pantoscope/pantoscopelaw04.TempleHinges · slots 152 · [0 x, 1 x, 3 a, 4 e, 5 b, 6 f, 7 c, 8 g, 9 d, 10 h, 11 n, 12 is, 13 i, 14 m, 15 too, 16 j, 17 s, 18 k, 19 t, 20 l] -/
def c12r0 : List AOper := [
  ⟨(some 1), none, .box (.t 0)⟩,
  ⟨(some 2), none, .mv (.c (.b false))⟩]
def c12r1 : List AOper := [
  ⟨(some 22), none, .fa (.t 1) 0⟩,
  ⟨(some 23), none, .ld (some 4) (.t 22)⟩,
  ⟨(some 24), none, .fa (.t 1) 4⟩,
  ⟨(some 25), none, .ld none (.t 24)⟩,
  ⟨(some 26), none, .fa (.t 1) 5⟩,
  ⟨(some 27), none, .ld none (.t 26)⟩,
  ⟨(some 28), none, .call (.c (.fn 35 [] [])) [(.t 23), (.t 25), (.t 27)]⟩,
  ⟨(some 21), none, .mv (.t 28)⟩,
  ⟨(some 29), none, .ext (.t 21) 0⟩,
  ⟨(some 30), none, .ext (.t 21) 1⟩,
  ⟨(some 3), none, .mv (.t 29)⟩,
  ⟨(some 4), none, .mv (.t 30)⟩]
def c12r2 : List AOper := [
  ⟨(some 32), none, .fa (.t 1) 0⟩,
  ⟨(some 33), none, .ld (some 4) (.t 32)⟩,
  ⟨(some 34), none, .fa (.t 1) 4⟩,
  ⟨(some 35), none, .ld none (.t 34)⟩,
  ⟨(some 36), none, .fa (.t 1) 5⟩,
  ⟨(some 37), none, .ld none (.t 36)⟩,
  ⟨(some 38), none, .call (.c (.fn 42 [] [])) [(.t 33), (.t 35), (.t 37)]⟩,
  ⟨(some 31), none, .mv (.t 38)⟩,
  ⟨(some 39), none, .ext (.t 31) 0⟩,
  ⟨(some 40), none, .ext (.t 31) 1⟩,
  ⟨(some 5), none, .mv (.t 39)⟩,
  ⟨(some 6), none, .mv (.t 40)⟩]
def c12r3 : List AOper := [
  ⟨(some 42), none, .fa (.t 1) 0⟩,
  ⟨(some 43), none, .ld (some 4) (.t 42)⟩,
  ⟨(some 44), none, .fa (.t 1) 4⟩,
  ⟨(some 45), none, .ld none (.t 44)⟩,
  ⟨(some 46), none, .call (.c (.fn 43 [] [])) [(.t 43), (.t 45)]⟩,
  ⟨(some 41), none, .mv (.t 46)⟩,
  ⟨(some 47), none, .ext (.t 41) 0⟩,
  ⟨(some 48), none, .ext (.t 41) 1⟩,
  ⟨(some 7), none, .mv (.t 47)⟩,
  ⟨(some 8), none, .mv (.t 48)⟩]
def c12r4 : List AOper := [
  ⟨(some 50), none, .fa (.t 1) 0⟩,
  ⟨(some 51), none, .ld (some 4) (.t 50)⟩,
  ⟨(some 52), none, .fa (.t 1) 4⟩,
  ⟨(some 53), none, .ld none (.t 52)⟩,
  ⟨(some 54), none, .call (.c (.fn 44 [] [])) [(.t 51), (.t 53)]⟩,
  ⟨(some 49), none, .mv (.t 54)⟩,
  ⟨(some 55), none, .ext (.t 49) 0⟩,
  ⟨(some 56), none, .ext (.t 49) 1⟩,
  ⟨(some 9), none, .mv (.t 55)⟩,
  ⟨(some 10), none, .mv (.t 56)⟩]
def c12r5 : List AOper := [
  ⟨(some 57), none, .fa (.t 1) 0⟩,
  ⟨(some 58), none, .ld (some 4) (.t 57)⟩,
  ⟨(some 59), none, .call (.c (.fn 45 [] [])) [(.t 58)]⟩,
  ⟨(some 60), none, .fa (.t 1) 0⟩,
  ⟨(some 61), none, .ld (some 4) (.t 60)⟩,
  ⟨(some 62), none, .call (.c (.fn 34 [] [])) [(.t 61)]⟩,
  ⟨(some 63), none, .bin true .neq (.t 59) (.t 62)⟩,
  ⟨(some 64), none, .mv (.t 63)⟩,
  ⟨(some 65), (some (64, false)), .mv (.t 3)⟩,
  ⟨(some 66), (some (64, false)), .mv (.t 5)⟩,
  ⟨(some 67), (some (64, false)), .bin false .neq (.t 65) (.t 66)⟩,
  ⟨(some 68), none, .pick (.t 64) (.c (.b true)) (.t 67)⟩,
  ⟨(some 69), none, .mv (.t 68)⟩,
  ⟨(some 70), (some (69, false)), .mv (.t 4)⟩,
  ⟨(some 71), (some (69, false)), .mv (.t 6)⟩,
  ⟨(some 72), (some (69, false)), .bin false .neq (.t 70) (.t 71)⟩,
  ⟨(some 73), none, .pick (.t 69) (.c (.b true)) (.t 72)⟩,
  ⟨(some 74), none, .mv (.t 73)⟩,
  ⟨(some 75), (some (74, false)), .mv (.t 7)⟩,
  ⟨(some 76), (some (74, false)), .mv (.t 9)⟩,
  ⟨(some 77), (some (74, false)), .bin false .neq (.t 75) (.t 76)⟩,
  ⟨(some 78), none, .pick (.t 74) (.c (.b true)) (.t 77)⟩,
  ⟨(some 79), none, .mv (.t 78)⟩,
  ⟨(some 80), (some (79, false)), .mv (.t 8)⟩,
  ⟨(some 81), (some (79, false)), .mv (.t 10)⟩,
  ⟨(some 82), (some (79, false)), .bin false .neq (.t 80) (.t 81)⟩,
  ⟨(some 83), none, .pick (.t 79) (.c (.b true)) (.t 82)⟩]
def c12r6 : List AOper := [
  ⟨(some 2), none, .mv (.c (.b false))⟩]
def c12r7 : List AOper := [
  ⟨(some 85), none, .fa (.t 1) 0⟩,
  ⟨(some 86), none, .ld (some 4) (.t 85)⟩,
  ⟨(some 87), none, .fa (.t 1) 4⟩,
  ⟨(some 88), none, .ld none (.t 87)⟩,
  ⟨(some 89), none, .fa (.t 1) 6⟩,
  ⟨(some 90), none, .ld none (.t 89)⟩,
  ⟨(some 91), none, .call (.c (.fn 39 [] [])) [(.t 86), (.t 88), (.t 90)]⟩,
  ⟨(some 84), none, .mv (.t 91)⟩,
  ⟨(some 92), none, .ext (.t 84) 0⟩,
  ⟨(some 93), none, .ext (.t 84) 1⟩,
  ⟨(some 94), none, .ext (.t 84) 2⟩,
  ⟨(some 11), none, .mv (.t 92)⟩,
  ⟨(some 12), none, .mv (.t 93)⟩,
  ⟨(some 13), none, .mv (.t 94)⟩]
def c12r8 : List AOper := [
  ⟨(some 96), none, .fa (.t 1) 0⟩,
  ⟨(some 97), none, .ld (some 4) (.t 96)⟩,
  ⟨(some 98), none, .fa (.t 1) 4⟩,
  ⟨(some 99), none, .ld none (.t 98)⟩,
  ⟨(some 100), none, .fa (.t 1) 6⟩,
  ⟨(some 101), none, .ld none (.t 100)⟩,
  ⟨(some 102), none, .call (.c (.fn 46 [] [])) [(.t 97), (.t 99), (.t 101)]⟩,
  ⟨(some 95), none, .mv (.t 102)⟩,
  ⟨(some 103), none, .ext (.t 95) 0⟩,
  ⟨(some 104), none, .ext (.t 95) 1⟩,
  ⟨(some 105), none, .ext (.t 95) 2⟩,
  ⟨(some 14), none, .mv (.t 103)⟩,
  ⟨(some 15), none, .mv (.t 104)⟩,
  ⟨(some 16), none, .mv (.t 105)⟩]
def c12r9 : List AOper := [
  ⟨(some 107), none, .fa (.t 1) 0⟩,
  ⟨(some 108), none, .ld (some 4) (.t 107)⟩,
  ⟨(some 109), none, .fa (.t 1) 5⟩,
  ⟨(some 110), none, .ld none (.t 109)⟩,
  ⟨(some 111), none, .fa (.t 1) 6⟩,
  ⟨(some 112), none, .ld none (.t 111)⟩,
  ⟨(some 113), none, .call (.c (.fn 40 [] [])) [(.t 108), (.t 110), (.t 112)]⟩,
  ⟨(some 106), none, .mv (.t 113)⟩,
  ⟨(some 114), none, .ext (.t 106) 0⟩,
  ⟨(some 115), none, .ext (.t 106) 1⟩,
  ⟨(some 17), none, .mv (.t 114)⟩,
  ⟨(some 18), none, .mv (.t 115)⟩]
def c12r10 : List AOper := [
  ⟨(some 117), none, .fa (.t 1) 0⟩,
  ⟨(some 118), none, .ld (some 4) (.t 117)⟩,
  ⟨(some 119), none, .fa (.t 1) 5⟩,
  ⟨(some 120), none, .ld none (.t 119)⟩,
  ⟨(some 121), none, .fa (.t 1) 6⟩,
  ⟨(some 122), none, .ld none (.t 121)⟩,
  ⟨(some 123), none, .call (.c (.fn 47 [] [])) [(.t 118), (.t 120), (.t 122)]⟩,
  ⟨(some 116), none, .mv (.t 123)⟩,
  ⟨(some 124), none, .ext (.t 116) 0⟩,
  ⟨(some 125), none, .ext (.t 116) 1⟩,
  ⟨(some 19), none, .mv (.t 124)⟩,
  ⟨(some 20), none, .mv (.t 125)⟩]
def c12r11 : List AOper := [
  ⟨(some 126), none, .mv (.t 11)⟩,
  ⟨(some 127), none, .mv (.t 14)⟩,
  ⟨(some 128), none, .bin false .eql (.t 126) (.t 127)⟩,
  ⟨(some 129), none, .mv (.t 128)⟩,
  ⟨(some 130), (some (129, true)), .mv (.t 12)⟩,
  ⟨(some 131), (some (129, true)), .mv (.t 15)⟩,
  ⟨(some 132), (some (129, true)), .bin true .eql (.t 130) (.t 131)⟩,
  ⟨(some 133), none, .pick (.t 129) (.t 132) (.c (.b false))⟩,
  ⟨(some 134), none, .mv (.t 133)⟩,
  ⟨(some 135), (some (134, true)), .mv (.t 13)⟩,
  ⟨(some 136), (some (134, true)), .mv (.t 16)⟩,
  ⟨(some 137), (some (134, true)), .bin false .eql (.t 135) (.t 136)⟩,
  ⟨(some 138), none, .pick (.t 134) (.t 137) (.c (.b false))⟩,
  ⟨(some 139), none, .mv (.t 138)⟩,
  ⟨(some 140), (some (139, true)), .mv (.t 17)⟩,
  ⟨(some 141), (some (139, true)), .mv (.t 19)⟩,
  ⟨(some 142), (some (139, true)), .bin false .eql (.t 140) (.t 141)⟩,
  ⟨(some 143), none, .pick (.t 139) (.t 142) (.c (.b false))⟩,
  ⟨(some 144), none, .mv (.t 143)⟩,
  ⟨(some 145), (some (144, true)), .mv (.t 18)⟩,
  ⟨(some 146), (some (144, true)), .mv (.t 20)⟩,
  ⟨(some 147), (some (144, true)), .bin false .eql (.t 145) (.t 146)⟩,
  ⟨(some 148), none, .pick (.t 144) (.t 147) (.c (.b false))⟩,
  ⟨(some 149), none, .mv (.t 148)⟩,
  ⟨(some 150), (some (149, true)), .call (.c (.fn 24 [] [])) []⟩,
  ⟨(some 151), none, .pick (.t 149) (.t 150) (.c (.b false))⟩,
  ⟨(some 2), none, .mv (.t 151)⟩]
abbrev c12 : AC := (.seq (.reg c12r0) (.seq (.reg c12r1) (.seq (.reg c12r2) (.seq (.reg c12r3) (.seq (.reg c12r4) (.seq (.seq (.head 25 c12r5) (.cond (.t 83) (.seq (.reg c12r6) .ret) .skip)) (.seq (.reg c12r7) (.seq (.reg c12r8) (.seq (.reg c12r9) (.seq (.reg c12r10) (.seq (.reg c12r11) .ret)))))))))))
def q12 : List ARes := [.t 2]
theorem fn12 : fnOf Try.prog 12 = some (c12, q12, 152) := by kernel_rfl

/-! 13: pantoscope/pantoscopelaw04.TempleProofs · slots 161 · [0 l, 1 tol, 2 v, 3 l, 4 tol, 5 v, 7 pairs, 8 list, 9 p, 10 e, 11 n, 12 f, 13 g, 14 h, 15 r, 16 i, 17 is, 18 j, 19 is, 20 j] -/
def c13r0 : List AOper := [
  ⟨(some 5), none, .box (.t 2)⟩,
  ⟨(some 6), none, .mv (.c (.b false))⟩]
def c13r1 : List AOper := [
  ⟨(some 21), none, .fa (.t 5) 0⟩,
  ⟨(some 22), none, .ld none (.t 21)⟩,
  ⟨(some 23), none, .fa (.t 5) 1⟩,
  ⟨(some 24), none, .ld none (.t 23)⟩,
  ⟨(some 7), none, .mv (.t 22)⟩,
  ⟨(some 8), none, .mv (.t 24)⟩]
def c13r2 : List AOper := [
  ⟨(some 25), none, .mv (.t 0)⟩,
  ⟨(some 26), none, .call (.c (.fn 23 [] [])) [(.t 25), (.c (.i .i64 60))]⟩,
  ⟨(some 27), none, .mv (.t 26)⟩,
  ⟨(some 28), (some (27, false)), .mv (.t 7)⟩,
  ⟨(some 29), (some (27, false)), .len (.t 28)⟩,
  ⟨(some 30), (some (27, false)), .bin false .gtr (.t 29) (.c (.i .i64 60))⟩,
  ⟨(some 31), none, .pick (.t 27) (.c (.b true)) (.t 30)⟩,
  ⟨(some 32), none, .mv (.t 31)⟩,
  ⟨(some 33), (some (32, false)), .mv (.t 8)⟩,
  ⟨(some 34), (some (32, false)), .len (.t 33)⟩,
  ⟨(some 35), (some (32, false)), .bin false .gtr (.t 34) (.c (.i .i64 60))⟩,
  ⟨(some 36), none, .pick (.t 32) (.c (.b true)) (.t 35)⟩,
  ⟨(some 37), none, .mv (.t 36)⟩,
  ⟨(some 38), (some (37, false)), .mv (.t 0)⟩,
  ⟨(some 39), (some (37, false)), .call (.c (.fn 14 [] [])) [(.t 38)]⟩,
  ⟨(some 40), (some (37, false)), .not (.t 39)⟩,
  ⟨(some 41), none, .pick (.t 37) (.c (.b true)) (.t 40)⟩,
  ⟨(some 42), none, .mv (.t 41)⟩,
  ⟨(some 43), (some (42, false)), .mv (.t 1)⟩,
  ⟨(some 44), (some (42, false)), .bin false .lss (.t 43) (.c (.i .i64 0))⟩,
  ⟨(some 45), none, .pick (.t 42) (.c (.b true)) (.t 44)⟩,
  ⟨(some 46), none, .mv (.t 45)⟩,
  ⟨(some 47), (some (46, false)), .mv (.t 1)⟩,
  ⟨(some 48), (some (46, false)), .bin false .gtr (.t 47) (.c (.i .i64 1000))⟩,
  ⟨(some 49), none, .pick (.t 46) (.c (.b true)) (.t 48)⟩]
def c13r3 : List AOper := [
  ⟨(some 50), none, .call (.c (.fn 24 [] [])) []⟩,
  ⟨(some 6), none, .mv (.t 50)⟩]
def c13r4 : List AOper := [
  ⟨(some 52), none, .mv (.t 0)⟩,
  ⟨(some 53), none, .mv (.t 1)⟩,
  ⟨(some 54), none, .call (.c (.fn 17 [] [])) [(.t 52), (.t 53)]⟩,
  ⟨(some 51), none, .mv (.t 54)⟩,
  ⟨(some 55), none, .ext (.t 51) 0⟩,
  ⟨(some 56), none, .ext (.t 51) 1⟩,
  ⟨(some 9), none, .mv (.t 55)⟩,
  ⟨(some 10), none, .mv (.t 56)⟩]
def c13r5 : List AOper := [
  ⟨(some 58), none, .mv (.t 0)⟩,
  ⟨(some 59), none, .mv (.t 1)⟩,
  ⟨(some 60), none, .call (.c (.fn 16 [] [])) [(.t 58), (.t 59)]⟩,
  ⟨(some 57), none, .mv (.t 60)⟩,
  ⟨(some 61), none, .ext (.t 57) 0⟩,
  ⟨(some 62), none, .ext (.t 57) 1⟩,
  ⟨(some 11), none, .mv (.t 61)⟩,
  ⟨(some 12), none, .mv (.t 62)⟩]
def c13r6 : List AOper := [
  ⟨(some 64), none, .mv (.t 0)⟩,
  ⟨(some 65), none, .mv (.t 1)⟩,
  ⟨(some 66), none, .call (.c (.fn 18 [] [])) [(.t 64), (.t 65)]⟩,
  ⟨(some 63), none, .mv (.t 66)⟩,
  ⟨(some 67), none, .ext (.t 63) 0⟩,
  ⟨(some 68), none, .ext (.t 63) 1⟩,
  ⟨(some 13), none, .mv (.t 67)⟩,
  ⟨(some 14), none, .mv (.t 68)⟩]
def c13r7 : List AOper := [
  ⟨(some 70), none, .mv (.t 0)⟩,
  ⟨(some 71), none, .mv (.t 1)⟩,
  ⟨(some 72), none, .call (.c (.fn 30 [] [])) [(.t 70), (.t 71)]⟩,
  ⟨(some 69), none, .mv (.t 72)⟩,
  ⟨(some 73), none, .ext (.t 69) 0⟩,
  ⟨(some 74), none, .ext (.t 69) 1⟩,
  ⟨(some 15), none, .mv (.t 73)⟩,
  ⟨(some 16), none, .mv (.t 74)⟩]
def c13r8 : List AOper := [
  ⟨(some 75), none, .mv (.t 10)⟩,
  ⟨(some 76), none, .bin false .neq (.t 75) (.c (.i .i64 0))⟩,
  ⟨(some 77), none, .mv (.t 76)⟩,
  ⟨(some 78), (some (77, false)), .mv (.t 12)⟩,
  ⟨(some 79), (some (77, false)), .bin false .neq (.t 78) (.c (.i .i64 0))⟩,
  ⟨(some 80), none, .pick (.t 77) (.c (.b true)) (.t 79)⟩,
  ⟨(some 81), none, .mv (.t 80)⟩,
  ⟨(some 82), (some (81, false)), .mv (.t 14)⟩,
  ⟨(some 83), (some (81, false)), .bin false .neq (.t 82) (.c (.i .i64 0))⟩,
  ⟨(some 84), none, .pick (.t 81) (.c (.b true)) (.t 83)⟩,
  ⟨(some 85), none, .mv (.t 84)⟩,
  ⟨(some 86), (some (85, false)), .mv (.t 16)⟩,
  ⟨(some 87), (some (85, false)), .bin false .neq (.t 86) (.c (.i .i64 0))⟩,
  ⟨(some 88), none, .pick (.t 85) (.c (.b true)) (.t 87)⟩,
  ⟨(some 89), none, .mv (.t 88)⟩,
  ⟨(some 90), (some (89, false)), .mv (.t 9)⟩,
  ⟨(some 91), (some (89, false)), .len (.t 90)⟩,
  ⟨(some 92), (some (89, false)), .mv (.t 11)⟩,
  ⟨(some 93), (some (89, false)), .bin false .neq (.t 91) (.t 92)⟩,
  ⟨(some 94), none, .pick (.t 89) (.c (.b true)) (.t 93)⟩,
  ⟨(some 95), none, .mv (.t 94)⟩,
  ⟨(some 96), (some (95, false)), .mv (.t 13)⟩,
  ⟨(some 97), (some (95, false)), .len (.t 96)⟩,
  ⟨(some 98), (some (95, false)), .mv (.t 11)⟩,
  ⟨(some 99), (some (95, false)), .bin false .neq (.t 97) (.t 98)⟩,
  ⟨(some 100), none, .pick (.t 95) (.c (.b true)) (.t 99)⟩,
  ⟨(some 101), none, .mv (.t 100)⟩,
  ⟨(some 102), (some (101, false)), .mv (.t 15)⟩,
  ⟨(some 103), (some (101, false)), .len (.t 102)⟩,
  ⟨(some 104), (some (101, false)), .mv (.t 11)⟩,
  ⟨(some 105), (some (101, false)), .bin false .mul (.c (.i .i64 2)) (.t 104)⟩,
  ⟨(some 106), (some (101, false)), .bin false .add (.t 103) (.t 105)⟩,
  ⟨(some 107), (some (101, false)), .mv (.t 0)⟩,
  ⟨(some 108), (some (101, false)), .len (.t 107)⟩,
  ⟨(some 109), (some (101, false)), .bin false .neq (.t 106) (.t 108)⟩,
  ⟨(some 110), none, .pick (.t 101) (.c (.b true)) (.t 109)⟩,
  ⟨(some 111), none, .mv (.t 110)⟩,
  ⟨(some 112), (some (111, false)), .mv (.t 0)⟩,
  ⟨(some 113), (some (111, false)), .mv (.t 1)⟩,
  ⟨(some 114), (some (111, false)), .mv (.t 9)⟩,
  ⟨(some 115), (some (111, false)), .call (.c (.fn 19 [] [])) [(.t 112), (.t 113), (.t 114)]⟩,
  ⟨(some 116), (some (111, false)), .bin false .neq (.t 115) (.c (.i .i64 0))⟩,
  ⟨(some 117), none, .pick (.t 111) (.c (.b true)) (.t 116)⟩]
def c13r9 : List AOper := [
  ⟨(some 6), none, .mv (.c (.b false))⟩]
def c13r10 : List AOper := [
  ⟨(some 119), none, .mv (.t 0)⟩,
  ⟨(some 120), none, .mv (.t 1)⟩,
  ⟨(some 121), none, .mv (.t 13)⟩,
  ⟨(some 122), none, .call (.c (.fn 20 [] [])) [(.t 119), (.t 120), (.t 121)]⟩,
  ⟨(some 118), none, .mv (.t 122)⟩,
  ⟨(some 123), none, .ext (.t 118) 0⟩,
  ⟨(some 124), none, .ext (.t 118) 1⟩,
  ⟨(some 17), none, .mv (.t 123)⟩,
  ⟨(some 18), none, .mv (.t 124)⟩]
def c13r11 : List AOper := [
  ⟨(some 125), none, .mv (.t 17)⟩,
  ⟨(some 126), none, .not (.t 125)⟩,
  ⟨(some 127), none, .mv (.t 126)⟩,
  ⟨(some 128), (some (127, false)), .mv (.t 18)⟩,
  ⟨(some 129), (some (127, false)), .bin false .neq (.t 128) (.c (.i .i64 0))⟩,
  ⟨(some 130), none, .pick (.t 127) (.c (.b true)) (.t 129)⟩]
def c13r12 : List AOper := [
  ⟨(some 6), none, .mv (.c (.b false))⟩]
def c13r13 : List AOper := [
  ⟨(some 131), none, .mv (.t 0)⟩,
  ⟨(some 132), none, .mv (.t 1)⟩,
  ⟨(some 133), none, .mv (.t 7)⟩,
  ⟨(some 134), none, .call (.c (.fn 38 [] [])) [(.t 131), (.t 132), (.t 133)]⟩,
  ⟨(some 135), none, .bin false .eql (.t 134) (.c (.i .i64 0))⟩,
  ⟨(some 136), none, .mv (.t 135)⟩,
  ⟨(some 137), (some (136, true)), .mv (.t 7)⟩,
  ⟨(some 138), (some (136, true)), .len (.t 137)⟩,
  ⟨(some 139), (some (136, true)), .mv (.t 11)⟩,
  ⟨(some 140), (some (136, true)), .bin false .gtr (.t 138) (.t 139)⟩,
  ⟨(some 141), none, .pick (.t 136) (.t 140) (.c (.b false))⟩]
def c13r14 : List AOper := [
  ⟨(some 6), none, .mv (.c (.b false))⟩]
def c13r15 : List AOper := [
  ⟨(some 143), none, .mv (.t 0)⟩,
  ⟨(some 144), none, .mv (.t 1)⟩,
  ⟨(some 145), none, .mv (.t 8)⟩,
  ⟨(some 146), none, .call (.c (.fn 41 [] [])) [(.t 143), (.t 144), (.t 145)]⟩,
  ⟨(some 142), none, .mv (.t 146)⟩,
  ⟨(some 147), none, .ext (.t 142) 0⟩,
  ⟨(some 148), none, .ext (.t 142) 1⟩,
  ⟨(some 19), none, .mv (.t 147)⟩,
  ⟨(some 20), none, .mv (.t 148)⟩]
def c13r16 : List AOper := [
  ⟨(some 149), none, .mv (.t 19)⟩,
  ⟨(some 150), none, .mv (.t 149)⟩,
  ⟨(some 151), (some (150, true)), .mv (.t 20)⟩,
  ⟨(some 152), (some (150, true)), .bin false .eql (.t 151) (.c (.i .i64 0))⟩,
  ⟨(some 153), none, .pick (.t 150) (.t 152) (.c (.b false))⟩,
  ⟨(some 154), none, .mv (.t 153)⟩,
  ⟨(some 155), (some (154, true)), .mv (.t 8)⟩,
  ⟨(some 156), (some (154, true)), .len (.t 155)⟩,
  ⟨(some 157), (some (154, true)), .mv (.t 11)⟩,
  ⟨(some 158), (some (154, true)), .bin false .lss (.t 156) (.t 157)⟩,
  ⟨(some 159), none, .pick (.t 154) (.t 158) (.c (.b false))⟩]
def c13r17 : List AOper := [
  ⟨(some 6), none, .mv (.c (.b false))⟩]
def c13r18 : List AOper := [
  ⟨(some 160), none, .call (.c (.fn 24 [] [])) []⟩,
  ⟨(some 6), none, .mv (.t 160)⟩]
abbrev c13 : AC := (.seq (.reg c13r0) (.seq (.head 5 c13r1) (.seq (.seq (.reg c13r2) (.cond (.t 49) (.seq (.reg c13r3) .ret) .skip)) (.seq (.reg c13r4) (.seq (.reg c13r5) (.seq (.reg c13r6) (.seq (.reg c13r7) (.seq (.seq (.reg c13r8) (.cond (.t 117) (.seq (.reg c13r9) .ret) .skip)) (.seq (.seq (.reg c13r10) (.seq (.reg c13r11) (.cond (.t 130) (.seq (.reg c13r12) .ret) .skip))) (.seq (.seq (.reg c13r13) (.cond (.t 141) (.seq (.reg c13r14) .ret) .skip)) (.seq (.seq (.reg c13r15) (.seq (.reg c13r16) (.cond (.t 159) (.seq (.reg c13r17) .ret) .skip))) (.seq (.reg c13r18) .ret))))))))))))
def q13 : List ARes := [.t 6]
theorem fn13 : fnOf Try.prog 13 = some (c13, q13, 161) := by kernel_rfl

/-! 14: pantoscope/pantoscoperef04.Valid · slots 36 · [0 l, 1 l, 3 i, 4 k] -/
def c14r0 : List AOper := [
  ⟨(some 2), none, .mv (.c (.b false))⟩]
def c14r1 : List AOper := [
  ⟨(some 5), none, .mv (.t 0)⟩,
  ⟨(some 6), none, .len (.t 5)⟩,
  ⟨(some 7), none, .bin false .gtr (.t 6) (.c (.i .i64 60))⟩]
def c14r2 : List AOper := [
  ⟨(some 2), none, .mv (.c (.b false))⟩]
def c14r3 : List AOper := [
  ⟨(some 3), none, .mv (.c (.i .i64 0))⟩]
def c14r4 : List AOper := [
  ⟨(some 8), none, .mv (.t 3)⟩,
  ⟨(some 9), none, .mv (.t 0)⟩,
  ⟨(some 10), none, .len (.t 9)⟩,
  ⟨(some 11), none, .bin false .lss (.t 8) (.t 10)⟩]
def c14r5 : List AOper := [
  ⟨(some 14), none, .mv (.t 0)⟩,
  ⟨(some 15), none, .mv (.t 3)⟩,
  ⟨(some 16), none, .ia 4 (.t 14) (.t 15)⟩,
  ⟨(some 17), none, .ld (some 4) (.t 16)⟩,
  ⟨(some 18), none, .call (.c (.fn 48 [] [])) [(.t 17)]⟩,
  ⟨(some 19), none, .not (.t 18)⟩]
def c14r6 : List AOper := [
  ⟨(some 2), none, .mv (.c (.b false))⟩]
def c14r7 : List AOper := [
  ⟨(some 4), none, .mv (.c (.i .i64 0))⟩]
def c14r8 : List AOper := [
  ⟨(some 20), none, .mv (.t 4)⟩,
  ⟨(some 21), none, .mv (.t 3)⟩,
  ⟨(some 22), none, .bin false .lss (.t 20) (.t 21)⟩]
def c14r9 : List AOper := [
  ⟨(some 25), none, .mv (.t 0)⟩,
  ⟨(some 26), none, .mv (.t 4)⟩,
  ⟨(some 27), none, .ia 4 (.t 25) (.t 26)⟩,
  ⟨(some 28), none, .fa (.t 27) 0⟩,
  ⟨(some 29), none, .ld none (.t 28)⟩,
  ⟨(some 30), none, .mv (.t 0)⟩,
  ⟨(some 31), none, .mv (.t 3)⟩,
  ⟨(some 32), none, .ia 4 (.t 30) (.t 31)⟩,
  ⟨(some 33), none, .fa (.t 32) 0⟩,
  ⟨(some 34), none, .ld none (.t 33)⟩,
  ⟨(some 35), none, .bin false .eql (.t 29) (.t 34)⟩]
def c14r10 : List AOper := [
  ⟨(some 2), none, .mv (.c (.b false))⟩]
def c14r11 : List AOper := [
  ⟨(some 23), none, .mv (.t 4)⟩,
  ⟨(some 24), none, .bin false .add (.t 23) (.c (.i .i64 1))⟩,
  ⟨(some 4), none, .mv (.t 24)⟩]
abbrev c14b12 : AC := (.seq (.seq (.reg c14r8) (.cond (.t 22) .skip (.exit 2))) (.seq (.blk 3 (.seq (.head 10 c14r9) (.cond (.t 35) (.seq (.reg c14r10) .ret) .skip))) (.reg c14r11)))
def c14r13 : List AOper := [
  ⟨(some 12), none, .mv (.t 3)⟩,
  ⟨(some 13), none, .bin false .add (.t 12) (.c (.i .i64 1))⟩,
  ⟨(some 3), none, .mv (.t 13)⟩]
abbrev c14b14 : AC := (.seq (.seq (.reg c14r4) (.cond (.t 11) .skip (.exit 0))) (.seq (.blk 1 (.seq (.seq (.reg c14r5) (.cond (.t 19) (.seq (.reg c14r6) .ret) .skip)) (.seq (.reg c14r7) (.blk 2 (.loop c14b12))))) (.reg c14r13)))
def c14r15 : List AOper := [
  ⟨(some 2), none, .mv (.c (.b true))⟩]
abbrev c14 : AC := (.seq (.reg c14r0) (.seq (.seq (.reg c14r1) (.cond (.t 7) (.seq (.reg c14r2) .ret) .skip)) (.seq (.seq (.reg c14r3) (.blk 0 (.loop c14b14))) (.seq (.reg c14r15) .ret))))
def q14 : List ARes := [.t 2]
theorem fn14 : fnOf Try.prog 14 = some (c14, q14, 36) := by kernel_rfl

/-! 15: pantoscope/pantoscopetop.paired · slots 18 · [1 l, 2 n, 3 e] -/
def c15r0 : List AOper := [
  ⟨(some 0), none, .mv (.c (.b false))⟩]
def c15r1 : List AOper := [
  ⟨(some 4), none, .bld [.i .i64 0, .i .i64 0, .i .i64 0, .i .i64 0] [(0, 1, (.c (.i .i64 1))), (1, 1, (.c (.i .i64 1))), (2, 1, (.c (.i .i64 10))), (3, 1, (.c (.i .i64 1)))]⟩,
  ⟨(some 5), none, .bld [.i .i64 0, .i .i64 0, .i .i64 0, .i .i64 0] [(0, 1, (.c (.i .i64 2))), (1, 1, (.c (.i .i64 2))), (2, 1, (.c (.i .i64 10))), (3, 1, (.c (.i .i64 1)))]⟩,
  ⟨(some 6), none, .bsl 4 [.i .i64 0, .i .i64 0, .i .i64 0, .i .i64 0, .i .i64 0, .i .i64 0, .i .i64 0, .i .i64 0] [(0, 4, (.t 4)), (4, 4, (.t 5))]⟩,
  ⟨(some 1), none, .mv (.t 6)⟩]
def c15r2 : List AOper := [
  ⟨(some 8), none, .mv (.t 1)⟩,
  ⟨(some 9), none, .call (.c (.fn 16 [] [])) [(.t 8), (.c (.i .i64 0))]⟩,
  ⟨(some 7), none, .mv (.t 9)⟩,
  ⟨(some 10), none, .ext (.t 7) 0⟩,
  ⟨(some 11), none, .ext (.t 7) 1⟩,
  ⟨(some 2), none, .mv (.t 10)⟩,
  ⟨(some 3), none, .mv (.t 11)⟩]
def c15r3 : List AOper := [
  ⟨(some 12), none, .mv (.t 3)⟩,
  ⟨(some 13), none, .bin false .eql (.t 12) (.c (.i .i64 0))⟩,
  ⟨(some 14), none, .mv (.t 13)⟩,
  ⟨(some 15), (some (14, true)), .mv (.t 2)⟩,
  ⟨(some 16), (some (14, true)), .bin false .eql (.t 15) (.c (.i .i64 1))⟩,
  ⟨(some 17), none, .pick (.t 14) (.t 16) (.c (.b false))⟩,
  ⟨(some 0), none, .mv (.t 17)⟩]
abbrev c15 : AC := (.seq (.reg c15r0) (.seq (.reg c15r1) (.seq (.reg c15r2) (.seq (.reg c15r3) .ret))))
def q15 : List ARes := [.t 0]
theorem fn15 : fnOf Try.prog 15 = some (c15, q15, 18) := by kernel_rfl

/-! 16: pantoscope/temple.Most · slots 17 · [0 l, 1 tol, 2 l, 3 tol, 6 pairs, 7 e] -/
def c16r0 : List AOper := [
  ⟨(some 4), none, .mv (.c (.i .i64 0))⟩,
  ⟨(some 5), none, .mv (.c (.i .i64 0))⟩]
def c16r1 : List AOper := [
  ⟨(some 9), none, .mv (.t 0)⟩,
  ⟨(some 10), none, .mv (.t 1)⟩,
  ⟨(some 11), none, .call (.c (.fn 17 [] [])) [(.t 9), (.t 10)]⟩,
  ⟨(some 8), none, .mv (.t 11)⟩,
  ⟨(some 12), none, .ext (.t 8) 0⟩,
  ⟨(some 13), none, .ext (.t 8) 1⟩,
  ⟨(some 6), none, .mv (.t 12)⟩,
  ⟨(some 7), none, .mv (.t 13)⟩]
def c16r2 : List AOper := [
  ⟨(some 14), none, .mv (.t 6)⟩,
  ⟨(some 15), none, .len (.t 14)⟩,
  ⟨(some 16), none, .mv (.t 7)⟩,
  ⟨(some 4), none, .mv (.t 15)⟩,
  ⟨(some 5), none, .mv (.t 16)⟩]
abbrev c16 : AC := (.seq (.reg c16r0) (.seq (.reg c16r1) (.seq (.reg c16r2) .ret)))
def q16 : List ARes := [.t 4, .t 5]
theorem fn16 : fnOf Try.prog 16 = some (c16, q16, 17) := by kernel_rfl

/-! 17: pantoscope/temple.Match · slots 16 · [0 l, 1 tol, 2 l, 3 tol, 6 e] -/
def c17r0 : List AOper := [
  ⟨(some 4), none, .mv (.c (.sl 0 0 0 0))⟩,
  ⟨(some 5), none, .mv (.c (.i .i64 0))⟩]
def c17r1 : List AOper := [
  ⟨(some 7), none, .mv (.t 0)⟩,
  ⟨(some 8), none, .mv (.t 1)⟩,
  ⟨(some 9), none, .call (.c (.fn 49 [] [])) [(.t 7), (.t 8)]⟩,
  ⟨(some 6), none, .mv (.t 9)⟩]
def c17r2 : List AOper := [
  ⟨(some 10), none, .mv (.t 6)⟩,
  ⟨(some 11), none, .bin false .neq (.t 10) (.c (.i .i64 0))⟩]
def c17r3 : List AOper := [
  ⟨(some 12), none, .mv (.t 6)⟩,
  ⟨(some 4), none, .mv (.c (.sl 0 0 0 0))⟩,
  ⟨(some 5), none, .mv (.t 12)⟩]
def c17r4 : List AOper := [
  ⟨(some 13), none, .mv (.t 0)⟩,
  ⟨(some 14), none, .mv (.t 1)⟩,
  ⟨(some 15), none, .call (.c (.fn 50 [] [])) [(.t 13), (.t 14)]⟩,
  ⟨(some 4), none, .mv (.t 15)⟩,
  ⟨(some 5), none, .mv (.c (.i .i64 0))⟩]
abbrev c17 : AC := (.seq (.reg c17r0) (.seq (.seq (.reg c17r1) (.seq (.reg c17r2) (.cond (.t 11) (.seq (.reg c17r3) .ret) .skip))) (.seq (.reg c17r4) .ret)))
def q17 : List ARes := [.t 4, .t 5]
theorem fn17 : fnOf Try.prog 17 = some (c17, q17, 16) := by kernel_rfl

/-! 18: pantoscope/temple.Guard · slots 97 · [0 l, 1 tol, 2 l, 3 tol, 6 pairs, 7 e, 8 partner, 9 paired, 10 _, 11 p, 12 reached, 13 visit, 14 i, 15 t, 16 out, 17 i, 18 t] -/
def c18r0 : List AOper := [
  ⟨(some 2), none, .box (.t 0)⟩,
  ⟨(some 3), none, .box (.t 1)⟩,
  ⟨(some 4), none, .mv (.c (.sl 0 0 0 0))⟩,
  ⟨(some 5), none, .mv (.c (.i .i64 0))⟩]
def c18r1 : List AOper := [
  ⟨(some 20), none, .ld none (.t 2)⟩,
  ⟨(some 21), none, .ld none (.t 3)⟩,
  ⟨(some 22), none, .call (.c (.fn 17 [] [])) [(.t 20), (.t 21)]⟩,
  ⟨(some 19), none, .mv (.t 22)⟩,
  ⟨(some 23), none, .ext (.t 19) 0⟩,
  ⟨(some 24), none, .ext (.t 19) 1⟩,
  ⟨(some 6), none, .mv (.t 23)⟩,
  ⟨(some 7), none, .mv (.t 24)⟩]
def c18r2 : List AOper := [
  ⟨(some 25), none, .mv (.t 7)⟩,
  ⟨(some 26), none, .bin false .neq (.t 25) (.c (.i .i64 0))⟩]
def c18r3 : List AOper := [
  ⟨(some 27), none, .mv (.t 7)⟩,
  ⟨(some 4), none, .mv (.c (.sl 0 0 0 0))⟩,
  ⟨(some 5), none, .mv (.t 27)⟩]
def c18r4 : List AOper := [
  ⟨(some 28), none, .mkm⟩,
  ⟨(some 8), none, .alloc [.nilm]⟩,
  ⟨none, none, .sto none (.t 8) (.t 28)⟩]
def c18r5 : List AOper := [
  ⟨(some 29), none, .mkm⟩,
  ⟨(some 9), none, .mv (.t 29)⟩]
def c18r6 : List AOper := [
  ⟨(some 30), none, .mv (.t 6)⟩,
  ⟨(some 31), none, .len (.t 30)⟩,
  ⟨(some 32), none, .mv (.c (.i .i64 0))⟩]
def c18r7 : List AOper := [
  ⟨(some 33), none, .bin false .lss (.t 32) (.t 31)⟩]
def c18r8 : List AOper := [
  ⟨(some 34), none, .ia 2 (.t 30) (.t 32)⟩,
  ⟨(some 35), none, .ld (some 2) (.t 34)⟩,
  ⟨(some 11), none, .alloc [.i .i64 0, .i .i64 0]⟩,
  ⟨none, none, .sto (some 2) (.t 11) (.t 35)⟩]
def c18r9 : List AOper := [
  ⟨(some 36), none, .ld none (.t 8)⟩,
  ⟨(some 37), none, .iap 2 1 (.t 11) (.c (.i .i64 1))⟩,
  ⟨(some 38), none, .ld none (.t 37)⟩,
  ⟨(some 39), none, .iap 2 1 (.t 11) (.c (.i .i64 0))⟩,
  ⟨(some 40), none, .ld none (.t 39)⟩,
  ⟨none, none, .mup none (.t 36) (.t 38) (.t 40)⟩]
def c18r10 : List AOper := [
  ⟨(some 41), none, .mv (.t 9)⟩,
  ⟨(some 42), none, .iap 2 1 (.t 11) (.c (.i .i64 0))⟩,
  ⟨(some 43), none, .ld none (.t 42)⟩,
  ⟨none, none, .mup none (.t 41) (.t 43) (.c (.b true))⟩]
def c18r11 : List AOper := [
  ⟨(some 44), none, .bin false .add (.t 32) (.c (.i .i64 1))⟩,
  ⟨(some 32), none, .mv (.t 44)⟩]
abbrev c18b12 : AC := (.seq (.reg c18r7) (.seq (.cond (.t 33) .skip (.exit 0)) (.seq (.blk 1 (.seq (.reg c18r8) (.seq (.reg c18r9) (.reg c18r10)))) (.reg c18r11))))
def c18r13 : List AOper := [
  ⟨(some 45), none, .ld none (.t 2)⟩,
  ⟨(some 46), none, .len (.t 45)⟩,
  ⟨(some 47), none, .mks 1 1 [.b false] (.t 46) (.t 46)⟩,
  ⟨(some 12), none, .alloc [.sl 0 0 0 0]⟩,
  ⟨none, none, .sto none (.t 12) (.t 47)⟩]
def c18r14 : List AOper := [
  ⟨(some 13), none, .alloc [.nilf]⟩]
def c18r15 : List AOper := [
  ⟨(some 48), none, .mkf 51 [] [(.t 12), (.t 2), (.t 3), (.t 8), (.t 13)]⟩,
  ⟨none, none, .sto none (.t 13) (.t 48)⟩]
def c18r16 : List AOper := [
  ⟨(some 49), none, .ld none (.t 2)⟩,
  ⟨(some 50), none, .len (.t 49)⟩,
  ⟨(some 51), none, .mv (.c (.i .i64 0))⟩]
def c18r17 : List AOper := [
  ⟨(some 52), none, .bin false .lss (.t 51) (.t 50)⟩]
def c18r18 : List AOper := [
  ⟨(some 53), none, .mv (.t 51)⟩,
  ⟨(some 54), none, .ia 4 (.t 49) (.t 51)⟩,
  ⟨(some 55), none, .ld (some 4) (.t 54)⟩,
  ⟨(some 15), none, .alloc [.i .i64 0, .i .i64 0, .i .i64 0, .i .i64 0]⟩,
  ⟨(some 14), none, .mv (.t 53)⟩,
  ⟨none, none, .sto (some 4) (.t 15) (.t 55)⟩]
def c18r19 : List AOper := [
  ⟨(some 56), none, .fa (.t 15) 1⟩,
  ⟨(some 57), none, .ld none (.t 56)⟩,
  ⟨(some 58), none, .bin false .eql (.t 57) (.c (.i .i64 1))⟩,
  ⟨(some 59), none, .mv (.t 58)⟩,
  ⟨(some 60), (some (59, true)), .mv (.t 9)⟩,
  ⟨(some 61), (some (59, true)), .mv (.t 14)⟩,
  ⟨(some 62), (some (59, true)), .mlk none (.b false) false (.t 60) (.t 61)⟩,
  ⟨(some 63), (some (59, true)), .not (.t 62)⟩,
  ⟨(some 64), none, .pick (.t 59) (.t 63) (.c (.b false))⟩,
  ⟨(some 65), none, .mv (.t 64)⟩,
  ⟨(some 66), (some (65, true)), .ld none (.t 12)⟩,
  ⟨(some 67), (some (65, true)), .mv (.t 14)⟩,
  ⟨(some 68), (some (65, true)), .ia 1 (.t 66) (.t 67)⟩,
  ⟨(some 69), (some (65, true)), .ld none (.t 68)⟩,
  ⟨(some 70), (some (65, true)), .not (.t 69)⟩,
  ⟨(some 71), none, .pick (.t 65) (.t 70) (.c (.b false))⟩]
def c18r20 : List AOper := [
  ⟨(some 72), none, .ld none (.t 13)⟩,
  ⟨(some 73), none, .mv (.t 14)⟩,
  ⟨(some 74), none, .call (.t 72) [(.t 73)]⟩]
def c18r21 : List AOper := [
  ⟨(some 75), none, .bin false .add (.t 51) (.c (.i .i64 1))⟩,
  ⟨(some 51), none, .mv (.t 75)⟩]
abbrev c18b22 : AC := (.seq (.reg c18r17) (.seq (.cond (.t 52) .skip (.exit 2)) (.seq (.blk 3 (.seq (.reg c18r18) (.seq (.reg c18r19) (.cond (.t 71) (.reg c18r20) .skip)))) (.reg c18r21))))
def c18r23 : List AOper := [
  ⟨(some 16), none, .mv (.c (.sl 0 0 0 0))⟩]
def c18r24 : List AOper := [
  ⟨(some 76), none, .ld none (.t 2)⟩,
  ⟨(some 77), none, .len (.t 76)⟩,
  ⟨(some 78), none, .mv (.c (.i .i64 0))⟩]
def c18r25 : List AOper := [
  ⟨(some 79), none, .bin false .lss (.t 78) (.t 77)⟩]
def c18r26 : List AOper := [
  ⟨(some 80), none, .mv (.t 78)⟩,
  ⟨(some 81), none, .ia 4 (.t 76) (.t 78)⟩,
  ⟨(some 82), none, .ld (some 4) (.t 81)⟩,
  ⟨(some 18), none, .alloc [.i .i64 0, .i .i64 0, .i .i64 0, .i .i64 0]⟩,
  ⟨(some 17), none, .mv (.t 80)⟩,
  ⟨none, none, .sto (some 4) (.t 18) (.t 82)⟩]
def c18r27 : List AOper := [
  ⟨(some 83), none, .fa (.t 18) 1⟩,
  ⟨(some 84), none, .ld none (.t 83)⟩,
  ⟨(some 85), none, .bin false .eql (.t 84) (.c (.i .i64 2))⟩,
  ⟨(some 86), none, .ld none (.t 12)⟩,
  ⟨(some 87), none, .mv (.t 17)⟩,
  ⟨(some 88), none, .ia 1 (.t 86) (.t 87)⟩,
  ⟨(some 89), none, .ld none (.t 88)⟩,
  ⟨(some 90), none, .bin true .eql (.t 85) (.t 89)⟩]
def c18r28 : List AOper := [
  ⟨(some 91), none, .mv (.t 16)⟩,
  ⟨(some 92), none, .mv (.t 17)⟩,
  ⟨(some 93), none, .bsl 1 [.i .i64 0] [(0, 1, (.t 92))]⟩,
  ⟨(some 94), none, .app 1 8 (.t 91) (.t 93)⟩,
  ⟨(some 16), none, .mv (.t 94)⟩]
def c18r29 : List AOper := [
  ⟨(some 95), none, .bin false .add (.t 78) (.c (.i .i64 1))⟩,
  ⟨(some 78), none, .mv (.t 95)⟩]
abbrev c18b30 : AC := (.seq (.reg c18r25) (.seq (.cond (.t 79) .skip (.exit 4)) (.seq (.blk 5 (.seq (.reg c18r26) (.seq (.head 7 c18r27) (.cond (.t 90) (.reg c18r28) .skip)))) (.reg c18r29))))
def c18r31 : List AOper := [
  ⟨(some 96), none, .mv (.t 16)⟩,
  ⟨(some 4), none, .mv (.t 96)⟩,
  ⟨(some 5), none, .mv (.c (.i .i64 0))⟩]
abbrev c18 : AC := (.seq (.reg c18r0) (.seq (.reg c18r1) (.seq (.seq (.reg c18r2) (.cond (.t 26) (.seq (.reg c18r3) .ret) .skip)) (.seq (.reg c18r4) (.seq (.reg c18r5) (.seq (.seq (.reg c18r6) (.blk 0 (.loop c18b12))) (.seq (.reg c18r13) (.seq (.reg c18r14) (.seq (.reg c18r15) (.seq (.seq (.reg c18r16) (.blk 2 (.loop c18b22))) (.seq (.reg c18r23) (.seq (.seq (.reg c18r24) (.blk 4 (.loop c18b30))) (.seq (.reg c18r31) .ret)))))))))))))
def q18 : List ARes := [.t 4, .t 5]
theorem fn18 : fnOf Try.prog 18 = some (c18, q18, 97) := by kernel_rfl

/-! 19: pantoscope/pantoscoperef04.Check · slots 17 · [0 l, 1 tol, 2 pairs, 3 l, 4 tol, 5 pairs] -/
def c19r0 : List AOper := [
  ⟨(some 6), none, .mv (.c (.i .i64 0))⟩]
def c19r1 : List AOper := [
  ⟨(some 7), none, .mv (.t 0)⟩,
  ⟨(some 8), none, .call (.c (.fn 14 [] [])) [(.t 7)]⟩,
  ⟨(some 9), none, .not (.t 8)⟩]
def c19r2 : List AOper := [
  ⟨(some 6), none, .mv (.c (.i .i64 40))⟩]
def c19r3 : List AOper := [
  ⟨(some 10), none, .mv (.t 1)⟩,
  ⟨(some 11), none, .call (.c (.fn 53 [] [])) [(.t 10)]⟩,
  ⟨(some 12), none, .not (.t 11)⟩]
def c19r4 : List AOper := [
  ⟨(some 6), none, .mv (.c (.i .i64 2))⟩]
def c19r5 : List AOper := [
  ⟨(some 13), none, .mv (.t 0)⟩,
  ⟨(some 14), none, .mv (.t 1)⟩,
  ⟨(some 15), none, .mv (.t 2)⟩,
  ⟨(some 16), none, .call (.c (.fn 54 [] [])) [(.t 13), (.t 14), (.t 15)]⟩,
  ⟨(some 6), none, .mv (.t 16)⟩]
abbrev c19 : AC := (.seq (.reg c19r0) (.seq (.seq (.reg c19r1) (.cond (.t 9) (.seq (.reg c19r2) .ret) .skip)) (.seq (.seq (.reg c19r3) (.cond (.t 12) (.seq (.reg c19r4) .ret) .skip)) (.seq (.reg c19r5) .ret))))
def q19 : List ARes := [.t 6]
theorem fn19 : fnOf Try.prog 19 = some (c19, q19, 17) := by kernel_rfl

/-! 20: pantoscope/pantoscoperef04.IsGuard · slots 85 · [0 l, 1 tol, 2 list, 3 l, 4 tol, 5 list, 8 e, 9 in, 10 i, 11 i, 12 k] -/
def c20r0 : List AOper := [
  ⟨(some 6), none, .mv (.c (.b false))⟩,
  ⟨(some 7), none, .mv (.c (.i .i64 0))⟩]
def c20r1 : List AOper := [
  ⟨(some 13), none, .mv (.t 0)⟩,
  ⟨(some 14), none, .mv (.t 1)⟩,
  ⟨(some 15), none, .call (.c (.fn 55 [] [])) [(.t 13), (.t 14)]⟩,
  ⟨(some 8), none, .mv (.t 15)⟩]
def c20r2 : List AOper := [
  ⟨(some 16), none, .mv (.t 8)⟩,
  ⟨(some 17), none, .bin false .neq (.t 16) (.c (.i .i64 0))⟩]
def c20r3 : List AOper := [
  ⟨(some 18), none, .mv (.t 8)⟩,
  ⟨(some 6), none, .mv (.c (.b false))⟩,
  ⟨(some 7), none, .mv (.t 18)⟩]
def c20r4 : List AOper := [
  ⟨(some 19), none, .mv (.t 0)⟩,
  ⟨(some 20), none, .len (.t 19)⟩,
  ⟨(some 21), none, .mks 1 1 [.b false] (.t 20) (.t 20)⟩,
  ⟨(some 9), none, .mv (.t 21)⟩]
def c20r5 : List AOper := [
  ⟨(some 10), none, .mv (.c (.i .i64 0))⟩]
def c20r6 : List AOper := [
  ⟨(some 22), none, .mv (.t 10)⟩,
  ⟨(some 23), none, .mv (.t 2)⟩,
  ⟨(some 24), none, .len (.t 23)⟩,
  ⟨(some 25), none, .bin false .lss (.t 22) (.t 24)⟩]
def c20r7 : List AOper := [
  ⟨(some 28), none, .mv (.t 0)⟩,
  ⟨(some 29), none, .mv (.t 2)⟩,
  ⟨(some 30), none, .mv (.t 10)⟩,
  ⟨(some 31), none, .ia 1 (.t 29) (.t 30)⟩,
  ⟨(some 32), none, .ld none (.t 31)⟩,
  ⟨(some 33), none, .call (.c (.fn 56 [] [])) [(.t 28), (.t 32)]⟩,
  ⟨(some 34), none, .not (.t 33)⟩,
  ⟨(some 35), none, .mv (.t 34)⟩,
  ⟨(some 36), (some (35, false)), .mv (.t 9)⟩,
  ⟨(some 37), (some (35, false)), .mv (.t 2)⟩,
  ⟨(some 38), (some (35, false)), .mv (.t 10)⟩,
  ⟨(some 39), (some (35, false)), .ia 1 (.t 37) (.t 38)⟩,
  ⟨(some 40), (some (35, false)), .ld none (.t 39)⟩,
  ⟨(some 41), (some (35, false)), .ia 1 (.t 36) (.t 40)⟩,
  ⟨(some 42), (some (35, false)), .ld none (.t 41)⟩,
  ⟨(some 43), none, .pick (.t 35) (.c (.b true)) (.t 42)⟩]
def c20r8 : List AOper := [
  ⟨(some 6), none, .mv (.c (.b false))⟩,
  ⟨(some 7), none, .mv (.c (.i .i64 2))⟩]
def c20r9 : List AOper := [
  ⟨(some 44), none, .mv (.t 9)⟩,
  ⟨(some 45), none, .mv (.t 2)⟩,
  ⟨(some 46), none, .mv (.t 10)⟩,
  ⟨(some 47), none, .ia 1 (.t 45) (.t 46)⟩,
  ⟨(some 48), none, .ld none (.t 47)⟩,
  ⟨(some 49), none, .ia 1 (.t 44) (.t 48)⟩,
  ⟨none, none, .sto none (.t 49) (.c (.b true))⟩]
def c20r10 : List AOper := [
  ⟨(some 26), none, .mv (.t 10)⟩,
  ⟨(some 27), none, .bin false .add (.t 26) (.c (.i .i64 1))⟩,
  ⟨(some 10), none, .mv (.t 27)⟩]
abbrev c20b11 : AC := (.seq (.seq (.reg c20r6) (.cond (.t 25) .skip (.exit 0))) (.seq (.blk 1 (.seq (.seq (.reg c20r7) (.cond (.t 43) (.seq (.reg c20r8) .ret) .skip)) (.reg c20r9))) (.reg c20r10)))
def c20r12 : List AOper := [
  ⟨(some 11), none, .mv (.c (.i .i64 0))⟩]
def c20r13 : List AOper := [
  ⟨(some 50), none, .mv (.t 11)⟩,
  ⟨(some 51), none, .mv (.t 0)⟩,
  ⟨(some 52), none, .len (.t 51)⟩,
  ⟨(some 53), none, .bin false .lss (.t 50) (.t 52)⟩]
def c20r14 : List AOper := [
  ⟨(some 12), none, .mv (.c (.i .i64 0))⟩]
def c20r15 : List AOper := [
  ⟨(some 56), none, .mv (.t 12)⟩,
  ⟨(some 57), none, .mv (.t 11)⟩,
  ⟨(some 58), none, .bin false .lss (.t 56) (.t 57)⟩]
def c20r16 : List AOper := [
  ⟨(some 61), none, .mv (.t 0)⟩,
  ⟨(some 62), none, .mv (.t 11)⟩,
  ⟨(some 63), none, .ia 4 (.t 61) (.t 62)⟩,
  ⟨(some 64), none, .ld (some 4) (.t 63)⟩,
  ⟨(some 65), none, .mv (.t 0)⟩,
  ⟨(some 66), none, .mv (.t 12)⟩,
  ⟨(some 67), none, .ia 4 (.t 65) (.t 66)⟩,
  ⟨(some 68), none, .ld (some 4) (.t 67)⟩,
  ⟨(some 69), none, .mv (.t 1)⟩,
  ⟨(some 70), none, .call (.c (.fn 57 [] [])) [(.t 64), (.t 68), (.t 69)]⟩,
  ⟨(some 71), none, .mv (.t 70)⟩,
  ⟨(some 72), (some (71, true)), .mv (.t 9)⟩,
  ⟨(some 73), (some (71, true)), .mv (.t 11)⟩,
  ⟨(some 74), (some (71, true)), .ia 1 (.t 72) (.t 73)⟩,
  ⟨(some 75), (some (71, true)), .ld none (.t 74)⟩,
  ⟨(some 76), (some (71, true)), .not (.t 75)⟩,
  ⟨(some 77), none, .pick (.t 71) (.t 76) (.c (.b false))⟩,
  ⟨(some 78), none, .mv (.t 77)⟩,
  ⟨(some 79), (some (78, true)), .mv (.t 9)⟩,
  ⟨(some 80), (some (78, true)), .mv (.t 12)⟩,
  ⟨(some 81), (some (78, true)), .ia 1 (.t 79) (.t 80)⟩,
  ⟨(some 82), (some (78, true)), .ld none (.t 81)⟩,
  ⟨(some 83), (some (78, true)), .not (.t 82)⟩,
  ⟨(some 84), none, .pick (.t 78) (.t 83) (.c (.b false))⟩]
def c20r17 : List AOper := [
  ⟨(some 6), none, .mv (.c (.b false))⟩,
  ⟨(some 7), none, .mv (.c (.i .i64 0))⟩]
def c20r18 : List AOper := [
  ⟨(some 59), none, .mv (.t 12)⟩,
  ⟨(some 60), none, .bin false .add (.t 59) (.c (.i .i64 1))⟩,
  ⟨(some 12), none, .mv (.t 60)⟩]
abbrev c20b19 : AC := (.seq (.seq (.reg c20r15) (.cond (.t 58) .skip (.exit 4))) (.seq (.blk 5 (.seq (.head 20 c20r16) (.cond (.t 84) (.seq (.reg c20r17) .ret) .skip))) (.reg c20r18)))
def c20r20 : List AOper := [
  ⟨(some 54), none, .mv (.t 11)⟩,
  ⟨(some 55), none, .bin false .add (.t 54) (.c (.i .i64 1))⟩,
  ⟨(some 11), none, .mv (.t 55)⟩]
abbrev c20b21 : AC := (.seq (.seq (.reg c20r13) (.cond (.t 53) .skip (.exit 2))) (.seq (.blk 3 (.seq (.reg c20r14) (.blk 4 (.loop c20b19)))) (.reg c20r20)))
def c20r22 : List AOper := [
  ⟨(some 6), none, .mv (.c (.b true))⟩,
  ⟨(some 7), none, .mv (.c (.i .i64 0))⟩]
abbrev c20 : AC := (.seq (.reg c20r0) (.seq (.reg c20r1) (.seq (.seq (.reg c20r2) (.cond (.t 17) (.seq (.reg c20r3) .ret) .skip)) (.seq (.reg c20r4) (.seq (.seq (.reg c20r5) (.blk 0 (.loop c20b11))) (.seq (.seq (.reg c20r12) (.blk 2 (.loop c20b21))) (.seq (.reg c20r22) .ret)))))))
def q20 : List ARes := [.t 6, .t 7]
theorem fn20 : fnOf Try.prog 20 = some (c20, q20, 85) := by kernel_rfl

/-! 21: pantoscope/temple.Worst · slots 40 · [0 l, 1 pairs, 2 l, 3 pairs, 6 e, 7 worst, 8 _, 9 p] -/
def c21r0 : List AOper := [
  ⟨(some 4), none, .mv (.c (.i .i64 0))⟩,
  ⟨(some 5), none, .mv (.c (.i .i64 0))⟩]
def c21r1 : List AOper := [
  ⟨(some 10), none, .mv (.t 0)⟩,
  ⟨(some 11), none, .call (.c (.fn 27 [] [])) [(.t 10)]⟩,
  ⟨(some 12), none, .not (.t 11)⟩]
def c21r2 : List AOper := [
  ⟨(some 4), none, .mv (.c (.i .i64 0))⟩,
  ⟨(some 5), none, .mv (.c (.i .i64 40))⟩]
def c21r3 : List AOper := [
  ⟨(some 13), none, .mv (.t 0)⟩,
  ⟨(some 14), none, .mv (.t 1)⟩,
  ⟨(some 15), none, .call (.c (.fn 58 [] [])) [(.t 13), (.t 14), (.c (.fn 59 [] []))]⟩,
  ⟨(some 6), none, .mv (.t 15)⟩]
def c21r4 : List AOper := [
  ⟨(some 16), none, .mv (.t 6)⟩,
  ⟨(some 17), none, .bin false .neq (.t 16) (.c (.i .i64 0))⟩]
def c21r5 : List AOper := [
  ⟨(some 18), none, .mv (.t 6)⟩,
  ⟨(some 4), none, .mv (.c (.i .i64 0))⟩,
  ⟨(some 5), none, .mv (.t 18)⟩]
def c21r6 : List AOper := [
  ⟨(some 7), none, .mv (.c (.i .i64 0))⟩]
def c21r7 : List AOper := [
  ⟨(some 19), none, .mv (.t 1)⟩,
  ⟨(some 20), none, .len (.t 19)⟩,
  ⟨(some 21), none, .mv (.c (.i .i64 0))⟩]
def c21r8 : List AOper := [
  ⟨(some 22), none, .bin false .lss (.t 21) (.t 20)⟩]
def c21r9 : List AOper := [
  ⟨(some 23), none, .ia 2 (.t 19) (.t 21)⟩,
  ⟨(some 24), none, .ld (some 2) (.t 23)⟩,
  ⟨(some 9), none, .alloc [.i .i64 0, .i .i64 0]⟩,
  ⟨none, none, .sto (some 2) (.t 9) (.t 24)⟩]
def c21r10 : List AOper := [
  ⟨(some 25), none, .mv (.t 7)⟩,
  ⟨(some 26), none, .mv (.t 0)⟩,
  ⟨(some 27), none, .iap 2 1 (.t 9) (.c (.i .i64 0))⟩,
  ⟨(some 28), none, .ld none (.t 27)⟩,
  ⟨(some 29), none, .ia 4 (.t 26) (.t 28)⟩,
  ⟨(some 30), none, .ld (some 4) (.t 29)⟩,
  ⟨(some 31), none, .mv (.t 0)⟩,
  ⟨(some 32), none, .iap 2 1 (.t 9) (.c (.i .i64 1))⟩,
  ⟨(some 33), none, .ld none (.t 32)⟩,
  ⟨(some 34), none, .ia 4 (.t 31) (.t 33)⟩,
  ⟨(some 35), none, .ld (some 4) (.t 34)⟩,
  ⟨(some 36), none, .call (.c (.fn 60 [] [])) [(.t 30), (.t 35)]⟩,
  ⟨(some 37), none, .mm true (.t 25) [(.t 36)]⟩,
  ⟨(some 7), none, .mv (.t 37)⟩]
def c21r11 : List AOper := [
  ⟨(some 38), none, .bin false .add (.t 21) (.c (.i .i64 1))⟩,
  ⟨(some 21), none, .mv (.t 38)⟩]
abbrev c21b12 : AC := (.seq (.reg c21r8) (.seq (.cond (.t 22) .skip (.exit 0)) (.seq (.blk 1 (.seq (.reg c21r9) (.head 12 c21r10))) (.reg c21r11))))
def c21r13 : List AOper := [
  ⟨(some 39), none, .mv (.t 7)⟩,
  ⟨(some 4), none, .mv (.t 39)⟩,
  ⟨(some 5), none, .mv (.c (.i .i64 0))⟩]
abbrev c21 : AC := (.seq (.reg c21r0) (.seq (.seq (.reg c21r1) (.cond (.t 12) (.seq (.reg c21r2) .ret) .skip)) (.seq (.seq (.reg c21r3) (.seq (.reg c21r4) (.cond (.t 17) (.seq (.reg c21r5) .ret) .skip))) (.seq (.reg c21r6) (.seq (.seq (.reg c21r7) (.blk 0 (.loop c21b12))) (.seq (.reg c21r13) .ret))))))
def q21 : List ARes := [.t 4, .t 5]
theorem fn21 : fnOf Try.prog 21 = some (c21, q21, 40) := by kernel_rfl

/-! 22: pantoscope/temple.Tolerance · slots 19 · [0 l, 1 n, 2 l, 3 n, 6 tol] -/
def c22r0 : List AOper := [
  ⟨(some 2), none, .box (.t 0)⟩,
  ⟨(some 3), none, .box (.t 1)⟩,
  ⟨(some 4), none, .mv (.c (.i .i64 0))⟩,
  ⟨(some 5), none, .mv (.c (.i .i64 0))⟩]
def c22r1 : List AOper := [
  ⟨(some 8), none, .ld none (.t 2)⟩,
  ⟨(some 9), none, .call (.c (.fn 27 [] [])) [(.t 8)]⟩,
  ⟨(some 10), none, .not (.t 9)⟩,
  ⟨(some 7), none, .mv (.t 10)⟩]
def c22r2 : List AOper := [
  ⟨(some 4), none, .mv (.c (.i .i64 0))⟩,
  ⟨(some 5), none, .mv (.c (.i .i64 40))⟩]
def c22r3 : List AOper := [
  ⟨(some 12), none, .ld none (.t 3)⟩,
  ⟨(some 13), none, .bin false .lss (.t 12) (.c (.i .i64 0))⟩,
  ⟨(some 11), none, .mv (.t 13)⟩]
def c22r4 : List AOper := [
  ⟨(some 4), none, .mv (.c (.i .i64 0))⟩,
  ⟨(some 5), none, .mv (.c (.i .i64 2))⟩]
def c22r5 : List AOper := [
  ⟨(some 14), none, .mkf 62 [] [(.t 2), (.t 3)]⟩,
  ⟨(some 15), none, .call (.c (.fn 61 [] [])) [(.c (.i .i64 1001)), (.t 14)]⟩,
  ⟨(some 6), none, .mv (.t 15)⟩]
def c22r6 : List AOper := [
  ⟨(some 16), none, .mv (.t 6)⟩,
  ⟨(some 17), none, .bin false .gtr (.t 16) (.c (.i .i64 1000))⟩]
def c22r7 : List AOper := [
  ⟨(some 4), none, .mv (.c (.i .i64 0))⟩,
  ⟨(some 5), none, .mv (.c (.i .i64 4))⟩]
def c22r8 : List AOper := [
  ⟨(some 18), none, .mv (.t 6)⟩,
  ⟨(some 4), none, .mv (.t 18)⟩,
  ⟨(some 5), none, .mv (.c (.i .i64 0))⟩]
abbrev c22 : AC := (.seq (.reg c22r0) (.seq (.blk 0 (.seq (.reg c22r1) (.cond (.t 7) (.seq (.reg c22r2) .ret) (.seq (.reg c22r3) (.cond (.t 11) (.seq (.reg c22r4) .ret) .skip))))) (.seq (.reg c22r5) (.seq (.seq (.reg c22r6) (.cond (.t 17) (.seq (.reg c22r7) .ret) .skip)) (.seq (.reg c22r8) .ret)))))
def q22 : List ARes := [.t 4, .t 5]
theorem fn22 : fnOf Try.prog 22 = some (c22, q22, 19) := by kernel_rfl

/-! 23: pantoscope/pantoscopelaw04.Wide · slots 9 · [0 l, 1 n, 2 l, 3 n] -/
def c23r0 : List AOper := [
  ⟨(some 4), none, .mv (.c (.b false))⟩]
def c23r1 : List AOper := [
  ⟨(some 5), none, .mv (.t 0)⟩,
  ⟨(some 6), none, .len (.t 5)⟩,
  ⟨(some 7), none, .mv (.t 1)⟩,
  ⟨(some 8), none, .bin false .gtr (.t 6) (.t 7)⟩,
  ⟨(some 4), none, .mv (.t 8)⟩]
abbrev c23 : AC := (.seq (.reg c23r0) (.seq (.reg c23r1) .ret))
def q23 : List ARes := [.t 4]
theorem fn23 : fnOf Try.prog 23 = some (c23, q23, 9) := by kernel_rfl

/-! 24: pantoscope/pantoscopelaw04.sane · slots 41 · [1 l, 2 p, 3 e, 4 n, 5 f] -/
def c24r0 : List AOper := [
  ⟨(some 0), none, .mv (.c (.b false))⟩]
def c24r1 : List AOper := [
  ⟨(some 6), none, .bld [.i .i64 0, .i .i64 0, .i .i64 0, .i .i64 0] [(0, 1, (.c (.i .i64 1))), (1, 1, (.c (.i .i64 1))), (2, 1, (.c (.i .i64 104))), (3, 1, (.c (.i .i64 1)))]⟩,
  ⟨(some 7), none, .bld [.i .i64 0, .i .i64 0, .i .i64 0, .i .i64 0] [(0, 1, (.c (.i .i64 2))), (1, 1, (.c (.i .i64 2))), (2, 1, (.c (.i .i64 103))), (3, 1, (.c (.i .i64 1)))]⟩,
  ⟨(some 8), none, .bsl 4 [.i .i64 0, .i .i64 0, .i .i64 0, .i .i64 0, .i .i64 0, .i .i64 0, .i .i64 0, .i .i64 0] [(0, 4, (.t 6)), (4, 4, (.t 7))]⟩,
  ⟨(some 1), none, .mv (.t 8)⟩]
def c24r2 : List AOper := [
  ⟨(some 10), none, .mv (.t 1)⟩,
  ⟨(some 11), none, .call (.c (.fn 17 [] [])) [(.t 10), (.c (.i .i64 2))]⟩,
  ⟨(some 9), none, .mv (.t 11)⟩,
  ⟨(some 12), none, .ext (.t 9) 0⟩,
  ⟨(some 13), none, .ext (.t 9) 1⟩,
  ⟨(some 2), none, .mv (.t 12)⟩,
  ⟨(some 3), none, .mv (.t 13)⟩]
def c24r3 : List AOper := [
  ⟨(some 15), none, .mv (.t 1)⟩,
  ⟨(some 16), none, .call (.c (.fn 16 [] [])) [(.t 15), (.c (.i .i64 0))]⟩,
  ⟨(some 14), none, .mv (.t 16)⟩,
  ⟨(some 17), none, .ext (.t 14) 0⟩,
  ⟨(some 18), none, .ext (.t 14) 1⟩,
  ⟨(some 4), none, .mv (.t 17)⟩,
  ⟨(some 5), none, .mv (.t 18)⟩]
def c24r4 : List AOper := [
  ⟨(some 19), none, .mv (.t 3)⟩,
  ⟨(some 20), none, .bin false .eql (.t 19) (.c (.i .i64 0))⟩,
  ⟨(some 21), none, .mv (.t 20)⟩,
  ⟨(some 22), (some (21, true)), .mv (.t 5)⟩,
  ⟨(some 23), (some (21, true)), .bin false .eql (.t 22) (.c (.i .i64 0))⟩,
  ⟨(some 24), none, .pick (.t 21) (.t 23) (.c (.b false))⟩,
  ⟨(some 25), none, .mv (.t 24)⟩,
  ⟨(some 26), (some (25, true)), .mv (.t 4)⟩,
  ⟨(some 27), (some (25, true)), .bin false .eql (.t 26) (.c (.i .i64 0))⟩,
  ⟨(some 28), none, .pick (.t 25) (.t 27) (.c (.b false))⟩,
  ⟨(some 29), none, .mv (.t 28)⟩,
  ⟨(some 30), (some (29, true)), .mv (.t 2)⟩,
  ⟨(some 31), (some (29, true)), .len (.t 30)⟩,
  ⟨(some 32), (some (29, true)), .bin false .eql (.t 31) (.c (.i .i64 1))⟩,
  ⟨(some 33), none, .pick (.t 29) (.t 32) (.c (.b false))⟩,
  ⟨(some 34), none, .mv (.t 33)⟩,
  ⟨(some 35), (some (34, true)), .mv (.t 2)⟩,
  ⟨(some 36), (some (34, true)), .ia 2 (.t 35) (.c (.i .i64 0))⟩,
  ⟨(some 37), (some (34, true)), .ld (some 2) (.t 36)⟩,
  ⟨(some 38), (some (34, true)), .bld [.i .i64 0, .i .i64 0] [(0, 1, (.c (.i .i64 0))), (1, 1, (.c (.i .i64 1)))]⟩,
  ⟨(some 39), (some (34, true)), .eqa false [0, 0] (.t 37) (.t 38)⟩,
  ⟨(some 40), none, .pick (.t 34) (.t 39) (.c (.b false))⟩,
  ⟨(some 0), none, .mv (.t 40)⟩]
abbrev c24 : AC := (.seq (.reg c24r0) (.seq (.reg c24r1) (.seq (.reg c24r2) (.seq (.reg c24r3) (.seq (.reg c24r4) .ret)))))
def q24 : List ARes := [.t 0]
theorem fn24 : fnOf Try.prog 24 = some (c24, q24, 41) := by kernel_rfl

/-! 25: pantoscope/temple.CanPair · slots 21 · [0 a, 1 b, 2 tol, 3 a, 4 b, 5 tol, 8 e] -/
def c25r0 : List AOper := [
  ⟨(some 3), none, .box (.t 0)⟩,
  ⟨(some 4), none, .box (.t 1)⟩,
  ⟨(some 6), none, .mv (.c (.b false))⟩,
  ⟨(some 7), none, .mv (.c (.i .i64 0))⟩]
def c25r1 : List AOper := [
  ⟨(some 9), none, .ld (some 4) (.t 3)⟩,
  ⟨(some 10), none, .ld (some 4) (.t 4)⟩,
  ⟨(some 11), none, .bsl 4 [.i .i64 0, .i .i64 0, .i .i64 0, .i .i64 0, .i .i64 0, .i .i64 0, .i .i64 0, .i .i64 0] [(0, 4, (.t 9)), (4, 4, (.t 10))]⟩,
  ⟨(some 12), none, .mv (.t 2)⟩,
  ⟨(some 13), none, .call (.c (.fn 49 [] [])) [(.t 11), (.t 12)]⟩,
  ⟨(some 8), none, .mv (.t 13)⟩]
def c25r2 : List AOper := [
  ⟨(some 14), none, .mv (.t 8)⟩,
  ⟨(some 15), none, .bin false .neq (.t 14) (.c (.i .i64 0))⟩]
def c25r3 : List AOper := [
  ⟨(some 16), none, .mv (.t 8)⟩,
  ⟨(some 6), none, .mv (.c (.b false))⟩,
  ⟨(some 7), none, .mv (.t 16)⟩]
def c25r4 : List AOper := [
  ⟨(some 17), none, .ld (some 4) (.t 3)⟩,
  ⟨(some 18), none, .ld (some 4) (.t 4)⟩,
  ⟨(some 19), none, .mv (.t 2)⟩,
  ⟨(some 20), none, .call (.c (.fn 52 [] [])) [(.t 17), (.t 18), (.t 19)]⟩,
  ⟨(some 6), none, .mv (.t 20)⟩,
  ⟨(some 7), none, .mv (.c (.i .i64 0))⟩]
abbrev c25 : AC := (.seq (.reg c25r0) (.seq (.seq (.reg c25r1) (.seq (.reg c25r2) (.cond (.t 15) (.seq (.reg c25r3) .ret) .skip))) (.seq (.reg c25r4) .ret)))
def q25 : List ARes := [.t 6, .t 7]
theorem fn25 : fnOf Try.prog 25 = some (c25, q25, 21) := by kernel_rfl

/-! 26: pantoscope/pantoscoperef04.CanPair · slots 20 · [0 a, 1 b, 2 tol, 3 a, 4 b, 5 tol] -/
def c26r0 : List AOper := [
  ⟨(some 3), none, .box (.t 0)⟩,
  ⟨(some 4), none, .box (.t 1)⟩,
  ⟨(some 6), none, .mv (.c (.b false))⟩,
  ⟨(some 7), none, .mv (.c (.i .i64 0))⟩]
def c26r1 : List AOper := [
  ⟨(some 8), none, .ld (some 4) (.t 3)⟩,
  ⟨(some 9), none, .ld (some 4) (.t 4)⟩,
  ⟨(some 10), none, .bsl 4 [.i .i64 0, .i .i64 0, .i .i64 0, .i .i64 0, .i .i64 0, .i .i64 0, .i .i64 0, .i .i64 0] [(0, 4, (.t 8)), (4, 4, (.t 9))]⟩,
  ⟨(some 11), none, .call (.c (.fn 14 [] [])) [(.t 10)]⟩,
  ⟨(some 12), none, .not (.t 11)⟩]
def c26r2 : List AOper := [
  ⟨(some 6), none, .mv (.c (.b false))⟩,
  ⟨(some 7), none, .mv (.c (.i .i64 40))⟩]
def c26r3 : List AOper := [
  ⟨(some 13), none, .mv (.t 2)⟩,
  ⟨(some 14), none, .call (.c (.fn 53 [] [])) [(.t 13)]⟩,
  ⟨(some 15), none, .not (.t 14)⟩]
def c26r4 : List AOper := [
  ⟨(some 6), none, .mv (.c (.b false))⟩,
  ⟨(some 7), none, .mv (.c (.i .i64 2))⟩]
def c26r5 : List AOper := [
  ⟨(some 16), none, .ld (some 4) (.t 3)⟩,
  ⟨(some 17), none, .ld (some 4) (.t 4)⟩,
  ⟨(some 18), none, .mv (.t 2)⟩,
  ⟨(some 19), none, .call (.c (.fn 57 [] [])) [(.t 16), (.t 17), (.t 18)]⟩,
  ⟨(some 6), none, .mv (.t 19)⟩,
  ⟨(some 7), none, .mv (.c (.i .i64 0))⟩]
abbrev c26 : AC := (.seq (.reg c26r0) (.seq (.seq (.reg c26r1) (.cond (.t 12) (.seq (.reg c26r2) .ret) .skip)) (.seq (.seq (.reg c26r3) (.cond (.t 15) (.seq (.reg c26r4) .ret) .skip)) (.seq (.reg c26r5) .ret))))
def q26 : List ARes := [.t 6, .t 7]
theorem fn26 : fnOf Try.prog 26 = some (c26, q26, 20) := by kernel_rfl

/-! 27: pantoscope/temple.Valid · slots 29 · [0 l, 1 l, 3 had, 4 _, 5 t] -/
def c27r0 : List AOper := [
  ⟨(some 2), none, .mv (.c (.b false))⟩]
def c27r1 : List AOper := [
  ⟨(some 6), none, .mv (.t 0)⟩,
  ⟨(some 7), none, .len (.t 6)⟩,
  ⟨(some 8), none, .bin false .gtr (.t 7) (.c (.i .i64 60))⟩]
def c27r2 : List AOper := [
  ⟨(some 2), none, .mv (.c (.b false))⟩]
def c27r3 : List AOper := [
  ⟨(some 9), none, .mkm⟩,
  ⟨(some 3), none, .mv (.t 9)⟩]
def c27r4 : List AOper := [
  ⟨(some 10), none, .mv (.t 0)⟩,
  ⟨(some 11), none, .len (.t 10)⟩,
  ⟨(some 12), none, .mv (.c (.i .i64 0))⟩]
def c27r5 : List AOper := [
  ⟨(some 13), none, .bin false .lss (.t 12) (.t 11)⟩]
def c27r6 : List AOper := [
  ⟨(some 14), none, .ia 4 (.t 10) (.t 12)⟩,
  ⟨(some 15), none, .ld (some 4) (.t 14)⟩,
  ⟨(some 5), none, .alloc [.i .i64 0, .i .i64 0, .i .i64 0, .i .i64 0]⟩,
  ⟨none, none, .sto (some 4) (.t 5) (.t 15)⟩]
def c27r7 : List AOper := [
  ⟨(some 16), none, .ld (some 4) (.t 5)⟩,
  ⟨(some 17), none, .call (.c (.fn 63 [] [])) [(.t 16)]⟩,
  ⟨(some 18), none, .not (.t 17)⟩,
  ⟨(some 19), none, .mv (.t 18)⟩,
  ⟨(some 20), (some (19, false)), .mv (.t 3)⟩,
  ⟨(some 21), (some (19, false)), .fa (.t 5) 0⟩,
  ⟨(some 22), (some (19, false)), .ld none (.t 21)⟩,
  ⟨(some 23), (some (19, false)), .mlk none (.b false) false (.t 20) (.t 22)⟩,
  ⟨(some 24), none, .pick (.t 19) (.c (.b true)) (.t 23)⟩]
def c27r8 : List AOper := [
  ⟨(some 2), none, .mv (.c (.b false))⟩]
def c27r9 : List AOper := [
  ⟨(some 25), none, .mv (.t 3)⟩,
  ⟨(some 26), none, .fa (.t 5) 0⟩,
  ⟨(some 27), none, .ld none (.t 26)⟩,
  ⟨none, none, .mup none (.t 25) (.t 27) (.c (.b true))⟩]
def c27r10 : List AOper := [
  ⟨(some 28), none, .bin false .add (.t 12) (.c (.i .i64 1))⟩,
  ⟨(some 12), none, .mv (.t 28)⟩]
abbrev c27b11 : AC := (.seq (.reg c27r5) (.seq (.cond (.t 13) .skip (.exit 0)) (.seq (.blk 1 (.seq (.reg c27r6) (.seq (.seq (.reg c27r7) (.cond (.t 24) (.seq (.reg c27r8) .ret) .skip)) (.reg c27r9)))) (.reg c27r10))))
def c27r12 : List AOper := [
  ⟨(some 2), none, .mv (.c (.b true))⟩]
abbrev c27 : AC := (.seq (.reg c27r0) (.seq (.seq (.reg c27r1) (.cond (.t 8) (.seq (.reg c27r2) .ret) .skip)) (.seq (.reg c27r3) (.seq (.seq (.reg c27r4) (.blk 0 (.loop c27b11))) (.seq (.reg c27r12) .ret)))))
def q27 : List ARes := [.t 2]
theorem fn27 : fnOf Try.prog 27 = some (c27, q27, 29) := by kernel_rfl

/-! 28: pantoscope/pantoscoperef04.Match · slots 16 · [0 l, 1 tol, 2 l, 3 tol, 6 e] -/
def c28r0 : List AOper := [
  ⟨(some 4), none, .mv (.c (.sl 0 0 0 0))⟩,
  ⟨(some 5), none, .mv (.c (.i .i64 0))⟩]
def c28r1 : List AOper := [
  ⟨(some 7), none, .mv (.t 0)⟩,
  ⟨(some 8), none, .mv (.t 1)⟩,
  ⟨(some 9), none, .call (.c (.fn 55 [] [])) [(.t 7), (.t 8)]⟩,
  ⟨(some 6), none, .mv (.t 9)⟩]
def c28r2 : List AOper := [
  ⟨(some 10), none, .mv (.t 6)⟩,
  ⟨(some 11), none, .bin false .neq (.t 10) (.c (.i .i64 0))⟩]
def c28r3 : List AOper := [
  ⟨(some 12), none, .mv (.t 6)⟩,
  ⟨(some 4), none, .mv (.c (.sl 0 0 0 0))⟩,
  ⟨(some 5), none, .mv (.t 12)⟩]
def c28r4 : List AOper := [
  ⟨(some 13), none, .mv (.t 0)⟩,
  ⟨(some 14), none, .mv (.t 1)⟩,
  ⟨(some 15), none, .call (.c (.fn 64 [] [])) [(.t 13), (.t 14)]⟩,
  ⟨(some 4), none, .mv (.t 15)⟩,
  ⟨(some 5), none, .mv (.c (.i .i64 0))⟩]
abbrev c28 : AC := (.seq (.reg c28r0) (.seq (.reg c28r1) (.seq (.seq (.reg c28r2) (.cond (.t 11) (.seq (.reg c28r3) .ret) .skip)) (.seq (.reg c28r4) .ret))))
def q28 : List ARes := [.t 4, .t 5]
theorem fn28 : fnOf Try.prog 28 = some (c28, q28, 16) := by kernel_rfl

/-! 29: pantoscope/pantoscoperef04.Most · slots 16 · [0 l, 1 tol, 2 l, 3 tol, 6 e] -/
def c29r0 : List AOper := [
  ⟨(some 4), none, .mv (.c (.i .i64 0))⟩,
  ⟨(some 5), none, .mv (.c (.i .i64 0))⟩]
def c29r1 : List AOper := [
  ⟨(some 7), none, .mv (.t 0)⟩,
  ⟨(some 8), none, .mv (.t 1)⟩,
  ⟨(some 9), none, .call (.c (.fn 55 [] [])) [(.t 7), (.t 8)]⟩,
  ⟨(some 6), none, .mv (.t 9)⟩]
def c29r2 : List AOper := [
  ⟨(some 10), none, .mv (.t 6)⟩,
  ⟨(some 11), none, .bin false .neq (.t 10) (.c (.i .i64 0))⟩]
def c29r3 : List AOper := [
  ⟨(some 12), none, .mv (.t 6)⟩,
  ⟨(some 4), none, .mv (.c (.i .i64 0))⟩,
  ⟨(some 5), none, .mv (.t 12)⟩]
def c29r4 : List AOper := [
  ⟨(some 13), none, .mv (.t 0)⟩,
  ⟨(some 14), none, .mv (.t 1)⟩,
  ⟨(some 15), none, .call (.c (.fn 65 [] [])) [(.t 13), (.t 14)]⟩,
  ⟨(some 4), none, .mv (.t 15)⟩,
  ⟨(some 5), none, .mv (.c (.i .i64 0))⟩]
abbrev c29 : AC := (.seq (.reg c29r0) (.seq (.reg c29r1) (.seq (.seq (.reg c29r2) (.cond (.t 11) (.seq (.reg c29r3) .ret) .skip)) (.seq (.reg c29r4) .ret))))
def q29 : List ARes := [.t 4, .t 5]
theorem fn29 : fnOf Try.prog 29 = some (c29, q29, 16) := by kernel_rfl

/-! 30: pantoscope/temple.Rest · slots 56 · [0 l, 1 tol, 2 l, 3 tol, 6 pairs, 7 e, 8 in, 9 _, 10 p, 11 out, 12 i, 13 is] -/
def c30r0 : List AOper := [
  ⟨(some 4), none, .mv (.c (.sl 0 0 0 0))⟩,
  ⟨(some 5), none, .mv (.c (.i .i64 0))⟩]
def c30r1 : List AOper := [
  ⟨(some 15), none, .mv (.t 0)⟩,
  ⟨(some 16), none, .mv (.t 1)⟩,
  ⟨(some 17), none, .call (.c (.fn 17 [] [])) [(.t 15), (.t 16)]⟩,
  ⟨(some 14), none, .mv (.t 17)⟩,
  ⟨(some 18), none, .ext (.t 14) 0⟩,
  ⟨(some 19), none, .ext (.t 14) 1⟩,
  ⟨(some 6), none, .mv (.t 18)⟩,
  ⟨(some 7), none, .mv (.t 19)⟩]
def c30r2 : List AOper := [
  ⟨(some 20), none, .mv (.t 7)⟩,
  ⟨(some 21), none, .bin false .neq (.t 20) (.c (.i .i64 0))⟩]
def c30r3 : List AOper := [
  ⟨(some 22), none, .mv (.t 7)⟩,
  ⟨(some 4), none, .mv (.c (.sl 0 0 0 0))⟩,
  ⟨(some 5), none, .mv (.t 22)⟩]
def c30r4 : List AOper := [
  ⟨(some 23), none, .mv (.t 0)⟩,
  ⟨(some 24), none, .len (.t 23)⟩,
  ⟨(some 25), none, .mks 1 1 [.b false] (.t 24) (.t 24)⟩,
  ⟨(some 8), none, .mv (.t 25)⟩]
def c30r5 : List AOper := [
  ⟨(some 26), none, .mv (.t 6)⟩,
  ⟨(some 27), none, .len (.t 26)⟩,
  ⟨(some 28), none, .mv (.c (.i .i64 0))⟩]
def c30r6 : List AOper := [
  ⟨(some 29), none, .bin false .lss (.t 28) (.t 27)⟩]
def c30r7 : List AOper := [
  ⟨(some 30), none, .ia 2 (.t 26) (.t 28)⟩,
  ⟨(some 31), none, .ld (some 2) (.t 30)⟩,
  ⟨(some 10), none, .alloc [.i .i64 0, .i .i64 0]⟩,
  ⟨none, none, .sto (some 2) (.t 10) (.t 31)⟩]
def c30r8 : List AOper := [
  ⟨(some 32), none, .mv (.t 8)⟩,
  ⟨(some 33), none, .iap 2 1 (.t 10) (.c (.i .i64 0))⟩,
  ⟨(some 34), none, .ld none (.t 33)⟩,
  ⟨(some 35), none, .mv (.t 8)⟩,
  ⟨(some 36), none, .iap 2 1 (.t 10) (.c (.i .i64 1))⟩,
  ⟨(some 37), none, .ld none (.t 36)⟩,
  ⟨(some 38), none, .ia 1 (.t 32) (.t 34)⟩,
  ⟨none, none, .sto none (.t 38) (.c (.b true))⟩,
  ⟨(some 39), none, .ia 1 (.t 35) (.t 37)⟩,
  ⟨none, none, .sto none (.t 39) (.c (.b true))⟩]
def c30r9 : List AOper := [
  ⟨(some 40), none, .bin false .add (.t 28) (.c (.i .i64 1))⟩,
  ⟨(some 28), none, .mv (.t 40)⟩]
abbrev c30b10 : AC := (.seq (.reg c30r6) (.seq (.cond (.t 29) .skip (.exit 0)) (.seq (.blk 1 (.seq (.reg c30r7) (.head 8 c30r8))) (.reg c30r9))))
def c30r11 : List AOper := [
  ⟨(some 11), none, .mv (.c (.sl 0 0 0 0))⟩]
def c30r12 : List AOper := [
  ⟨(some 41), none, .mv (.t 8)⟩,
  ⟨(some 42), none, .len (.t 41)⟩,
  ⟨(some 43), none, .mv (.c (.i .i64 0))⟩]
def c30r13 : List AOper := [
  ⟨(some 44), none, .bin false .lss (.t 43) (.t 42)⟩]
def c30r14 : List AOper := [
  ⟨(some 45), none, .mv (.t 43)⟩,
  ⟨(some 46), none, .ia 1 (.t 41) (.t 43)⟩,
  ⟨(some 47), none, .ld none (.t 46)⟩,
  ⟨(some 12), none, .mv (.t 45)⟩,
  ⟨(some 13), none, .mv (.t 47)⟩]
def c30r15 : List AOper := [
  ⟨(some 48), none, .mv (.t 13)⟩,
  ⟨(some 49), none, .not (.t 48)⟩]
def c30r16 : List AOper := [
  ⟨(some 50), none, .mv (.t 11)⟩,
  ⟨(some 51), none, .mv (.t 12)⟩,
  ⟨(some 52), none, .bsl 1 [.i .i64 0] [(0, 1, (.t 51))]⟩,
  ⟨(some 53), none, .app 1 8 (.t 50) (.t 52)⟩,
  ⟨(some 11), none, .mv (.t 53)⟩]
def c30r17 : List AOper := [
  ⟨(some 54), none, .bin false .add (.t 43) (.c (.i .i64 1))⟩,
  ⟨(some 43), none, .mv (.t 54)⟩]
abbrev c30b18 : AC := (.seq (.reg c30r13) (.seq (.cond (.t 44) .skip (.exit 2)) (.seq (.blk 3 (.seq (.reg c30r14) (.seq (.reg c30r15) (.cond (.t 49) (.reg c30r16) .skip)))) (.reg c30r17))))
def c30r19 : List AOper := [
  ⟨(some 55), none, .mv (.t 11)⟩,
  ⟨(some 4), none, .mv (.t 55)⟩,
  ⟨(some 5), none, .mv (.c (.i .i64 0))⟩]
abbrev c30 : AC := (.seq (.reg c30r0) (.seq (.reg c30r1) (.seq (.seq (.reg c30r2) (.cond (.t 21) (.seq (.reg c30r3) .ret) .skip)) (.seq (.reg c30r4) (.seq (.seq (.reg c30r5) (.blk 0 (.loop c30b10))) (.seq (.reg c30r11) (.seq (.seq (.reg c30r12) (.blk 2 (.loop c30b18))) (.seq (.reg c30r19) .ret))))))))
def q30 : List ARes := [.t 4, .t 5]
theorem fn30 : fnOf Try.prog 30 = some (c30, q30, 56) := by kernel_rfl

/-! 31: pantoscope/pantoscoperef04.Rest · slots 59 · [0 l, 1 tol, 2 l, 3 tol, 6 e, 7 pairs, 8 out, 9 i, 10 in, 11 k] -/
def c31r0 : List AOper := [
  ⟨(some 4), none, .mv (.c (.sl 0 0 0 0))⟩,
  ⟨(some 5), none, .mv (.c (.i .i64 0))⟩]
def c31r1 : List AOper := [
  ⟨(some 12), none, .mv (.t 0)⟩,
  ⟨(some 13), none, .mv (.t 1)⟩,
  ⟨(some 14), none, .call (.c (.fn 55 [] [])) [(.t 12), (.t 13)]⟩,
  ⟨(some 6), none, .mv (.t 14)⟩]
def c31r2 : List AOper := [
  ⟨(some 15), none, .mv (.t 6)⟩,
  ⟨(some 16), none, .bin false .neq (.t 15) (.c (.i .i64 0))⟩]
def c31r3 : List AOper := [
  ⟨(some 17), none, .mv (.t 6)⟩,
  ⟨(some 4), none, .mv (.c (.sl 0 0 0 0))⟩,
  ⟨(some 5), none, .mv (.t 17)⟩]
def c31r4 : List AOper := [
  ⟨(some 18), none, .mv (.t 0)⟩,
  ⟨(some 19), none, .mv (.t 1)⟩,
  ⟨(some 20), none, .call (.c (.fn 64 [] [])) [(.t 18), (.t 19)]⟩,
  ⟨(some 7), none, .mv (.t 20)⟩]
def c31r5 : List AOper := [
  ⟨(some 8), none, .mv (.c (.sl 0 0 0 0))⟩]
def c31r6 : List AOper := [
  ⟨(some 9), none, .mv (.c (.i .i64 0))⟩]
def c31r7 : List AOper := [
  ⟨(some 21), none, .mv (.t 9)⟩,
  ⟨(some 22), none, .mv (.t 0)⟩,
  ⟨(some 23), none, .len (.t 22)⟩,
  ⟨(some 24), none, .bin false .lss (.t 21) (.t 23)⟩]
def c31r8 : List AOper := [
  ⟨(some 10), none, .mv (.c (.b false))⟩]
def c31r9 : List AOper := [
  ⟨(some 11), none, .mv (.c (.i .i64 0))⟩]
def c31r10 : List AOper := [
  ⟨(some 27), none, .mv (.t 11)⟩,
  ⟨(some 28), none, .mv (.t 7)⟩,
  ⟨(some 29), none, .len (.t 28)⟩,
  ⟨(some 30), none, .bin false .lss (.t 27) (.t 29)⟩]
def c31r11 : List AOper := [
  ⟨(some 33), none, .mv (.t 10)⟩,
  ⟨(some 34), none, .mv (.t 33)⟩,
  ⟨(some 35), (some (34, false)), .mv (.t 7)⟩,
  ⟨(some 36), (some (34, false)), .mv (.t 11)⟩,
  ⟨(some 37), (some (34, false)), .ia 2 (.t 35) (.t 36)⟩,
  ⟨(some 38), (some (34, false)), .iap 2 1 (.t 37) (.c (.i .i64 0))⟩,
  ⟨(some 39), (some (34, false)), .ld none (.t 38)⟩,
  ⟨(some 40), (some (34, false)), .mv (.t 9)⟩,
  ⟨(some 41), (some (34, false)), .bin false .eql (.t 39) (.t 40)⟩,
  ⟨(some 42), none, .pick (.t 34) (.c (.b true)) (.t 41)⟩,
  ⟨(some 43), none, .mv (.t 42)⟩,
  ⟨(some 44), (some (43, false)), .mv (.t 7)⟩,
  ⟨(some 45), (some (43, false)), .mv (.t 11)⟩,
  ⟨(some 46), (some (43, false)), .ia 2 (.t 44) (.t 45)⟩,
  ⟨(some 47), (some (43, false)), .iap 2 1 (.t 46) (.c (.i .i64 1))⟩,
  ⟨(some 48), (some (43, false)), .ld none (.t 47)⟩,
  ⟨(some 49), (some (43, false)), .mv (.t 9)⟩,
  ⟨(some 50), (some (43, false)), .bin false .eql (.t 48) (.t 49)⟩,
  ⟨(some 51), none, .pick (.t 43) (.c (.b true)) (.t 50)⟩,
  ⟨(some 10), none, .mv (.t 51)⟩]
def c31r12 : List AOper := [
  ⟨(some 31), none, .mv (.t 11)⟩,
  ⟨(some 32), none, .bin false .add (.t 31) (.c (.i .i64 1))⟩,
  ⟨(some 11), none, .mv (.t 32)⟩]
abbrev c31b13 : AC := (.seq (.seq (.reg c31r10) (.cond (.t 30) .skip (.exit 2))) (.seq (.blk 3 (.reg c31r11)) (.reg c31r12)))
def c31r14 : List AOper := [
  ⟨(some 52), none, .mv (.t 10)⟩,
  ⟨(some 53), none, .not (.t 52)⟩]
def c31r15 : List AOper := [
  ⟨(some 54), none, .mv (.t 8)⟩,
  ⟨(some 55), none, .mv (.t 9)⟩,
  ⟨(some 56), none, .bsl 1 [.i .i64 0] [(0, 1, (.t 55))]⟩,
  ⟨(some 57), none, .app 1 8 (.t 54) (.t 56)⟩,
  ⟨(some 8), none, .mv (.t 57)⟩]
def c31r16 : List AOper := [
  ⟨(some 25), none, .mv (.t 9)⟩,
  ⟨(some 26), none, .bin false .add (.t 25) (.c (.i .i64 1))⟩,
  ⟨(some 9), none, .mv (.t 26)⟩]
abbrev c31b17 : AC := (.seq (.seq (.reg c31r7) (.cond (.t 24) .skip (.exit 0))) (.seq (.blk 1 (.seq (.reg c31r8) (.seq (.seq (.reg c31r9) (.blk 2 (.loop c31b13))) (.seq (.reg c31r14) (.cond (.t 53) (.reg c31r15) .skip))))) (.reg c31r16)))
def c31r18 : List AOper := [
  ⟨(some 58), none, .mv (.t 8)⟩,
  ⟨(some 4), none, .mv (.t 58)⟩,
  ⟨(some 5), none, .mv (.c (.i .i64 0))⟩]
abbrev c31 : AC := (.seq (.reg c31r0) (.seq (.reg c31r1) (.seq (.seq (.reg c31r2) (.cond (.t 16) (.seq (.reg c31r3) .ret) .skip)) (.seq (.reg c31r4) (.seq (.reg c31r5) (.seq (.seq (.reg c31r6) (.blk 0 (.loop c31b17))) (.seq (.reg c31r18) .ret)))))))
def q31 : List ARes := [.t 4, .t 5]
theorem fn31 : fnOf Try.prog 31 = some (c31, q31, 59) := by kernel_rfl

/-! 32: pantoscope/pantoscopelaw04.samePairs · slots 26 · [0 a, 1 b, 2 a, 3 b, 5 i] -/
def c32r0 : List AOper := [
  ⟨(some 4), none, .mv (.c (.b false))⟩]
def c32r1 : List AOper := [
  ⟨(some 6), none, .mv (.t 0)⟩,
  ⟨(some 7), none, .len (.t 6)⟩,
  ⟨(some 8), none, .mv (.t 1)⟩,
  ⟨(some 9), none, .len (.t 8)⟩,
  ⟨(some 10), none, .bin false .neq (.t 7) (.t 9)⟩]
def c32r2 : List AOper := [
  ⟨(some 4), none, .mv (.c (.b false))⟩]
def c32r3 : List AOper := [
  ⟨(some 5), none, .mv (.c (.i .i64 0))⟩]
def c32r4 : List AOper := [
  ⟨(some 11), none, .mv (.t 5)⟩,
  ⟨(some 12), none, .mv (.t 0)⟩,
  ⟨(some 13), none, .len (.t 12)⟩,
  ⟨(some 14), none, .bin false .lss (.t 11) (.t 13)⟩]
def c32r5 : List AOper := [
  ⟨(some 17), none, .mv (.t 0)⟩,
  ⟨(some 18), none, .mv (.t 5)⟩,
  ⟨(some 19), none, .ia 2 (.t 17) (.t 18)⟩,
  ⟨(some 20), none, .ld (some 2) (.t 19)⟩,
  ⟨(some 21), none, .mv (.t 1)⟩,
  ⟨(some 22), none, .mv (.t 5)⟩,
  ⟨(some 23), none, .ia 2 (.t 21) (.t 22)⟩,
  ⟨(some 24), none, .ld (some 2) (.t 23)⟩,
  ⟨(some 25), none, .eqa true [0, 0] (.t 20) (.t 24)⟩]
def c32r6 : List AOper := [
  ⟨(some 4), none, .mv (.c (.b false))⟩]
def c32r7 : List AOper := [
  ⟨(some 15), none, .mv (.t 5)⟩,
  ⟨(some 16), none, .bin false .add (.t 15) (.c (.i .i64 1))⟩,
  ⟨(some 5), none, .mv (.t 16)⟩]
abbrev c32b8 : AC := (.seq (.seq (.reg c32r4) (.cond (.t 14) .skip (.exit 0))) (.seq (.blk 1 (.seq (.head 8 c32r5) (.cond (.t 25) (.seq (.reg c32r6) .ret) .skip))) (.reg c32r7)))
def c32r9 : List AOper := [
  ⟨(some 4), none, .mv (.c (.b true))⟩]
abbrev c32 : AC := (.seq (.reg c32r0) (.seq (.seq (.reg c32r1) (.cond (.t 10) (.seq (.reg c32r2) .ret) .skip)) (.seq (.seq (.reg c32r3) (.blk 0 (.loop c32b8))) (.seq (.reg c32r9) .ret))))
def q32 : List ARes := [.t 4]
theorem fn32 : fnOf Try.prog 32 = some (c32, q32, 26) := by kernel_rfl

/-! 33: pantoscope/pantoscopelaw04.same · slots 26 · [0 a, 1 b, 2 a, 3 b, 5 i] -/
def c33r0 : List AOper := [
  ⟨(some 4), none, .mv (.c (.b false))⟩]
def c33r1 : List AOper := [
  ⟨(some 6), none, .mv (.t 0)⟩,
  ⟨(some 7), none, .len (.t 6)⟩,
  ⟨(some 8), none, .mv (.t 1)⟩,
  ⟨(some 9), none, .len (.t 8)⟩,
  ⟨(some 10), none, .bin false .neq (.t 7) (.t 9)⟩]
def c33r2 : List AOper := [
  ⟨(some 4), none, .mv (.c (.b false))⟩]
def c33r3 : List AOper := [
  ⟨(some 5), none, .mv (.c (.i .i64 0))⟩]
def c33r4 : List AOper := [
  ⟨(some 11), none, .mv (.t 5)⟩,
  ⟨(some 12), none, .mv (.t 0)⟩,
  ⟨(some 13), none, .len (.t 12)⟩,
  ⟨(some 14), none, .bin false .lss (.t 11) (.t 13)⟩]
def c33r5 : List AOper := [
  ⟨(some 17), none, .mv (.t 0)⟩,
  ⟨(some 18), none, .mv (.t 5)⟩,
  ⟨(some 19), none, .ia 1 (.t 17) (.t 18)⟩,
  ⟨(some 20), none, .ld none (.t 19)⟩,
  ⟨(some 21), none, .mv (.t 1)⟩,
  ⟨(some 22), none, .mv (.t 5)⟩,
  ⟨(some 23), none, .ia 1 (.t 21) (.t 22)⟩,
  ⟨(some 24), none, .ld none (.t 23)⟩,
  ⟨(some 25), none, .bin false .neq (.t 20) (.t 24)⟩]
def c33r6 : List AOper := [
  ⟨(some 4), none, .mv (.c (.b false))⟩]
def c33r7 : List AOper := [
  ⟨(some 15), none, .mv (.t 5)⟩,
  ⟨(some 16), none, .bin false .add (.t 15) (.c (.i .i64 1))⟩,
  ⟨(some 5), none, .mv (.t 16)⟩]
abbrev c33b8 : AC := (.seq (.seq (.reg c33r4) (.cond (.t 14) .skip (.exit 0))) (.seq (.blk 1 (.seq (.head 8 c33r5) (.cond (.t 25) (.seq (.reg c33r6) .ret) .skip))) (.reg c33r7)))
def c33r9 : List AOper := [
  ⟨(some 4), none, .mv (.c (.b true))⟩]
abbrev c33 : AC := (.seq (.reg c33r0) (.seq (.seq (.reg c33r1) (.cond (.t 10) (.seq (.reg c33r2) .ret) .skip)) (.seq (.seq (.reg c33r3) (.blk 0 (.loop c33b8))) (.seq (.reg c33r9) .ret))))
def q33 : List ARes := [.t 4]
theorem fn33 : fnOf Try.prog 33 = some (c33, q33, 26) := by kernel_rfl

/-! 34: pantoscope/pantoscoperef04.ValidHinge · slots 46 · [0 h, 1 h] -/
def c34r0 : List AOper := [
  ⟨(some 1), none, .box (.t 0)⟩,
  ⟨(some 2), none, .mv (.c (.b false))⟩]
def c34r1 : List AOper := [
  ⟨(some 3), none, .fa (.t 1) 0⟩,
  ⟨(some 4), none, .ld none (.t 3)⟩,
  ⟨(some 5), none, .bin false .eql (.t 4) (.c (.i .i64 3))⟩,
  ⟨(some 6), none, .mv (.t 5)⟩,
  ⟨(some 7), (some (6, false)), .fa (.t 1) 0⟩,
  ⟨(some 8), (some (6, false)), .ld none (.t 7)⟩,
  ⟨(some 9), (some (6, false)), .bin false .eql (.t 8) (.c (.i .i64 5))⟩,
  ⟨(some 10), none, .pick (.t 6) (.c (.b true)) (.t 9)⟩,
  ⟨(some 11), none, .mv (.t 10)⟩,
  ⟨(some 12), (some (11, false)), .fa (.t 1) 0⟩,
  ⟨(some 13), (some (11, false)), .ld none (.t 12)⟩,
  ⟨(some 14), (some (11, false)), .bin false .eql (.t 13) (.c (.i .i64 7))⟩,
  ⟨(some 15), none, .pick (.t 11) (.c (.b true)) (.t 14)⟩,
  ⟨(some 16), none, .mv (.t 15)⟩,
  ⟨(some 17), (some (16, true)), .fa (.t 1) 1⟩,
  ⟨(some 18), (some (16, true)), .ld none (.t 17)⟩,
  ⟨(some 19), (some (16, true)), .bin false .geq (.t 18) (.c (.i .i64 1))⟩,
  ⟨(some 20), none, .pick (.t 16) (.t 19) (.c (.b false))⟩,
  ⟨(some 21), none, .mv (.t 20)⟩,
  ⟨(some 22), (some (21, true)), .fa (.t 1) 1⟩,
  ⟨(some 23), (some (21, true)), .ld none (.t 22)⟩,
  ⟨(some 24), (some (21, true)), .bin false .leq (.t 23) (.c (.i .i64 10000))⟩,
  ⟨(some 25), none, .pick (.t 21) (.t 24) (.c (.b false))⟩,
  ⟨(some 26), none, .mv (.t 25)⟩,
  ⟨(some 27), (some (26, true)), .fa (.t 1) 2⟩,
  ⟨(some 28), (some (26, true)), .ld none (.t 27)⟩,
  ⟨(some 29), (some (26, true)), .bin false .geq (.t 28) (.c (.i .i64 0))⟩,
  ⟨(some 30), none, .pick (.t 26) (.t 29) (.c (.b false))⟩,
  ⟨(some 31), none, .mv (.t 30)⟩,
  ⟨(some 32), (some (31, true)), .fa (.t 1) 2⟩,
  ⟨(some 33), (some (31, true)), .ld none (.t 32)⟩,
  ⟨(some 34), (some (31, true)), .bin false .leq (.t 33) (.c (.i .i64 1000))⟩,
  ⟨(some 35), none, .pick (.t 31) (.t 34) (.c (.b false))⟩,
  ⟨(some 36), none, .mv (.t 35)⟩,
  ⟨(some 37), (some (36, true)), .fa (.t 1) 3⟩,
  ⟨(some 38), (some (36, true)), .ld none (.t 37)⟩,
  ⟨(some 39), (some (36, true)), .bin false .geq (.t 38) (.c (.i .i64 1))⟩,
  ⟨(some 40), none, .pick (.t 36) (.t 39) (.c (.b false))⟩,
  ⟨(some 41), none, .mv (.t 40)⟩,
  ⟨(some 42), (some (41, true)), .fa (.t 1) 3⟩,
  ⟨(some 43), (some (41, true)), .ld none (.t 42)⟩,
  ⟨(some 44), (some (41, true)), .bin false .leq (.t 43) (.c (.i .i64 10000))⟩,
  ⟨(some 45), none, .pick (.t 41) (.t 44) (.c (.b false))⟩,
  ⟨(some 2), none, .mv (.t 45)⟩]
abbrev c34 : AC := (.seq (.reg c34r0) (.seq (.reg c34r1) .ret))
def q34 : List ARes := [.t 2]
theorem fn34 : fnOf Try.prog 34 = some (c34, q34, 46) := by kernel_rfl

/-! 35: pantoscope/temple.Opened · slots 29 · [0 h, 1 f, 2 n, 3 h, 4 f, 5 n, 8 e, 9 x] -/
def c35r0 : List AOper := [
  ⟨(some 3), none, .box (.t 0)⟩,
  ⟨(some 6), none, .mv (.c (.i .i64 0))⟩,
  ⟨(some 7), none, .mv (.c (.i .i64 0))⟩]
def c35r1 : List AOper := [
  ⟨(some 10), none, .ld (some 4) (.t 3)⟩,
  ⟨(some 11), none, .mv (.t 1)⟩,
  ⟨(some 12), none, .mv (.t 2)⟩,
  ⟨(some 13), none, .call (.c (.fn 66 [] [])) [(.t 10), (.t 11), (.t 12), (.c (.i .i64 0))]⟩,
  ⟨(some 8), none, .mv (.t 13)⟩]
def c35r2 : List AOper := [
  ⟨(some 14), none, .mv (.t 8)⟩,
  ⟨(some 15), none, .bin false .neq (.t 14) (.c (.i .i64 0))⟩]
def c35r3 : List AOper := [
  ⟨(some 16), none, .mv (.t 8)⟩,
  ⟨(some 6), none, .mv (.c (.i .i64 0))⟩,
  ⟨(some 7), none, .mv (.t 16)⟩]
def c35r4 : List AOper := [
  ⟨(some 17), none, .ld (some 4) (.t 3)⟩,
  ⟨(some 18), none, .mv (.t 1)⟩,
  ⟨(some 19), none, .bld [.i .i64 0, .i .i64 0, .i .i64 0, .i .i64 0, .i .i64 0] [(0, 4, (.t 17)), (4, 1, (.t 18))]⟩,
  ⟨(some 9), none, .alloc [.i .i64 0, .i .i64 0, .i .i64 0, .i .i64 0, .i .i64 0]⟩,
  ⟨none, none, .sto (some 5) (.t 9) (.t 19)⟩]
def c35r5 : List AOper := [
  ⟨(some 20), none, .mv (.t 2)⟩,
  ⟨(some 21), none, .mv (.c (.i .i64 0))⟩]
def c35r6 : List AOper := [
  ⟨(some 22), none, .bin false .lss (.t 21) (.t 20)⟩]
def c35r7 : List AOper := [
  ⟨(some 23), none, .ld (some 5) (.t 9)⟩,
  ⟨(some 24), none, .call (.c (.fn 67 [] [])) [(.t 23)]⟩,
  ⟨(some 25), none, .fa (.t 9) 4⟩,
  ⟨none, none, .sto none (.t 25) (.t 24)⟩]
def c35r8 : List AOper := [
  ⟨(some 26), none, .bin false .add (.t 21) (.c (.i .i64 1))⟩,
  ⟨(some 21), none, .mv (.t 26)⟩]
abbrev c35b9 : AC := (.seq (.reg c35r6) (.seq (.cond (.t 22) .skip (.exit 0)) (.seq (.blk 1 (.reg c35r7)) (.reg c35r8))))
def c35r10 : List AOper := [
  ⟨(some 27), none, .fa (.t 9) 4⟩,
  ⟨(some 28), none, .ld none (.t 27)⟩,
  ⟨(some 6), none, .mv (.t 28)⟩,
  ⟨(some 7), none, .mv (.c (.i .i64 0))⟩]
abbrev c35 : AC := (.seq (.reg c35r0) (.seq (.seq (.reg c35r1) (.seq (.reg c35r2) (.cond (.t 15) (.seq (.reg c35r3) .ret) .skip))) (.seq (.reg c35r4) (.seq (.seq (.reg c35r5) (.blk 0 (.loop c35b9))) (.seq (.reg c35r10) .ret)))))
def q35 : List ARes := [.t 6, .t 7]
theorem fn35 : fnOf Try.prog 35 = some (c35, q35, 29) := by kernel_rfl

/-! 36: pantoscope/pantoscoperef04.Tolerance · slots 89 · [0 l, 1 n, 2 l, 3 n, 6 best, 7 i, 8 k, 9 d] -/
def c36r0 : List AOper := [
  ⟨(some 4), none, .mv (.c (.i .i64 0))⟩,
  ⟨(some 5), none, .mv (.c (.i .i64 0))⟩]
def c36r1 : List AOper := [
  ⟨(some 11), none, .mv (.t 0)⟩,
  ⟨(some 12), none, .call (.c (.fn 14 [] [])) [(.t 11)]⟩,
  ⟨(some 13), none, .not (.t 12)⟩,
  ⟨(some 10), none, .mv (.t 13)⟩]
def c36r2 : List AOper := [
  ⟨(some 4), none, .mv (.c (.i .i64 0))⟩,
  ⟨(some 5), none, .mv (.c (.i .i64 40))⟩]
def c36r3 : List AOper := [
  ⟨(some 15), none, .mv (.t 1)⟩,
  ⟨(some 16), none, .bin false .lss (.t 15) (.c (.i .i64 0))⟩,
  ⟨(some 14), none, .mv (.t 16)⟩]
def c36r4 : List AOper := [
  ⟨(some 4), none, .mv (.c (.i .i64 0))⟩,
  ⟨(some 5), none, .mv (.c (.i .i64 2))⟩]
def c36r5 : List AOper := [
  ⟨(some 18), none, .mv (.t 0)⟩,
  ⟨(some 19), none, .call (.c (.fn 65 [] [])) [(.t 18), (.c (.i .i64 1000))]⟩,
  ⟨(some 20), none, .mv (.t 1)⟩,
  ⟨(some 21), none, .bin false .lss (.t 19) (.t 20)⟩,
  ⟨(some 17), none, .mv (.t 21)⟩]
def c36r6 : List AOper := [
  ⟨(some 4), none, .mv (.c (.i .i64 0))⟩,
  ⟨(some 5), none, .mv (.c (.i .i64 4))⟩]
def c36r7 : List AOper := [
  ⟨(some 23), none, .mv (.t 1)⟩,
  ⟨(some 24), none, .bin false .eql (.t 23) (.c (.i .i64 0))⟩,
  ⟨(some 25), none, .mv (.t 24)⟩,
  ⟨(some 26), (some (25, false)), .mv (.t 0)⟩,
  ⟨(some 27), (some (25, false)), .call (.c (.fn 65 [] [])) [(.t 26), (.c (.i .i64 0))]⟩,
  ⟨(some 28), (some (25, false)), .mv (.t 1)⟩,
  ⟨(some 29), (some (25, false)), .bin false .geq (.t 27) (.t 28)⟩,
  ⟨(some 30), none, .pick (.t 25) (.c (.b true)) (.t 29)⟩,
  ⟨(some 22), none, .mv (.t 30)⟩]
def c36r8 : List AOper := [
  ⟨(some 4), none, .mv (.c (.i .i64 0))⟩,
  ⟨(some 5), none, .mv (.c (.i .i64 0))⟩]
def c36r9 : List AOper := [
  ⟨(some 6), none, .mv (.c (.i .i64 1000))⟩]
def c36r10 : List AOper := [
  ⟨(some 7), none, .mv (.c (.i .i64 0))⟩]
def c36r11 : List AOper := [
  ⟨(some 31), none, .mv (.t 7)⟩,
  ⟨(some 32), none, .mv (.t 0)⟩,
  ⟨(some 33), none, .len (.t 32)⟩,
  ⟨(some 34), none, .bin false .lss (.t 31) (.t 33)⟩]
def c36r12 : List AOper := [
  ⟨(some 8), none, .mv (.c (.i .i64 0))⟩]
def c36r13 : List AOper := [
  ⟨(some 37), none, .mv (.t 8)⟩,
  ⟨(some 38), none, .mv (.t 7)⟩,
  ⟨(some 39), none, .bin false .lss (.t 37) (.t 38)⟩]
def c36r14 : List AOper := [
  ⟨(some 42), none, .mv (.t 0)⟩,
  ⟨(some 43), none, .mv (.t 7)⟩,
  ⟨(some 44), none, .ia 4 (.t 42) (.t 43)⟩,
  ⟨(some 45), none, .ld (some 4) (.t 44)⟩,
  ⟨(some 46), none, .mv (.t 0)⟩,
  ⟨(some 47), none, .mv (.t 8)⟩,
  ⟨(some 48), none, .ia 4 (.t 46) (.t 47)⟩,
  ⟨(some 49), none, .ld (some 4) (.t 48)⟩,
  ⟨(some 50), none, .call (.c (.fn 68 [] [])) [(.t 45), (.t 49)]⟩,
  ⟨(some 9), none, .mv (.t 50)⟩]
def c36r15 : List AOper := [
  ⟨(some 51), none, .mv (.t 0)⟩,
  ⟨(some 52), none, .mv (.t 7)⟩,
  ⟨(some 53), none, .ia 4 (.t 51) (.t 52)⟩,
  ⟨(some 54), none, .fa (.t 53) 1⟩,
  ⟨(some 55), none, .ld none (.t 54)⟩,
  ⟨(some 56), none, .mv (.t 0)⟩,
  ⟨(some 57), none, .mv (.t 8)⟩,
  ⟨(some 58), none, .ia 4 (.t 56) (.t 57)⟩,
  ⟨(some 59), none, .fa (.t 58) 1⟩,
  ⟨(some 60), none, .ld none (.t 59)⟩,
  ⟨(some 61), none, .bin false .neq (.t 55) (.t 60)⟩,
  ⟨(some 62), none, .mv (.t 61)⟩,
  ⟨(some 63), (some (62, true)), .mv (.t 0)⟩,
  ⟨(some 64), (some (62, true)), .mv (.t 7)⟩,
  ⟨(some 65), (some (62, true)), .ia 4 (.t 63) (.t 64)⟩,
  ⟨(some 66), (some (62, true)), .fa (.t 65) 3⟩,
  ⟨(some 67), (some (62, true)), .ld none (.t 66)⟩,
  ⟨(some 68), (some (62, true)), .mv (.t 0)⟩,
  ⟨(some 69), (some (62, true)), .mv (.t 8)⟩,
  ⟨(some 70), (some (62, true)), .ia 4 (.t 68) (.t 69)⟩,
  ⟨(some 71), (some (62, true)), .fa (.t 70) 3⟩,
  ⟨(some 72), (some (62, true)), .ld none (.t 71)⟩,
  ⟨(some 73), (some (62, true)), .bin false .eql (.t 67) (.t 72)⟩,
  ⟨(some 74), none, .pick (.t 62) (.t 73) (.c (.b false))⟩,
  ⟨(some 75), none, .mv (.t 74)⟩,
  ⟨(some 76), (some (75, true)), .mv (.t 9)⟩,
  ⟨(some 77), (some (75, true)), .mv (.t 6)⟩,
  ⟨(some 78), (some (75, true)), .bin false .lss (.t 76) (.t 77)⟩,
  ⟨(some 79), none, .pick (.t 75) (.t 78) (.c (.b false))⟩,
  ⟨(some 80), none, .mv (.t 79)⟩,
  ⟨(some 81), (some (80, true)), .mv (.t 0)⟩,
  ⟨(some 82), (some (80, true)), .mv (.t 9)⟩,
  ⟨(some 83), (some (80, true)), .call (.c (.fn 65 [] [])) [(.t 81), (.t 82)]⟩,
  ⟨(some 84), (some (80, true)), .mv (.t 1)⟩,
  ⟨(some 85), (some (80, true)), .bin false .geq (.t 83) (.t 84)⟩,
  ⟨(some 86), none, .pick (.t 80) (.t 85) (.c (.b false))⟩]
def c36r16 : List AOper := [
  ⟨(some 87), none, .mv (.t 9)⟩,
  ⟨(some 6), none, .mv (.t 87)⟩]
def c36r17 : List AOper := [
  ⟨(some 40), none, .mv (.t 8)⟩,
  ⟨(some 41), none, .bin false .add (.t 40) (.c (.i .i64 1))⟩,
  ⟨(some 8), none, .mv (.t 41)⟩]
abbrev c36b18 : AC := (.seq (.seq (.reg c36r13) (.cond (.t 39) .skip (.exit 3))) (.seq (.blk 4 (.seq (.head 8 c36r14) (.seq (.head 34 c36r15) (.cond (.t 86) (.reg c36r16) .skip)))) (.reg c36r17)))
def c36r19 : List AOper := [
  ⟨(some 35), none, .mv (.t 7)⟩,
  ⟨(some 36), none, .bin false .add (.t 35) (.c (.i .i64 1))⟩,
  ⟨(some 7), none, .mv (.t 36)⟩]
abbrev c36b20 : AC := (.seq (.seq (.reg c36r11) (.cond (.t 34) .skip (.exit 1))) (.seq (.blk 2 (.seq (.reg c36r12) (.blk 3 (.loop c36b18)))) (.reg c36r19)))
def c36r21 : List AOper := [
  ⟨(some 88), none, .mv (.t 6)⟩,
  ⟨(some 4), none, .mv (.t 88)⟩,
  ⟨(some 5), none, .mv (.c (.i .i64 0))⟩]
abbrev c36 : AC := (.seq (.reg c36r0) (.seq (.blk 0 (.seq (.reg c36r1) (.cond (.t 10) (.seq (.reg c36r2) .ret) (.seq (.reg c36r3) (.cond (.t 14) (.seq (.reg c36r4) .ret) (.seq (.reg c36r5) (.cond (.t 17) (.seq (.reg c36r6) .ret) (.seq (.reg c36r7) (.cond (.t 22) (.seq (.reg c36r8) .ret) .skip))))))))) (.seq (.reg c36r9) (.seq (.seq (.reg c36r10) (.blk 1 (.loop c36b20))) (.seq (.reg c36r21) .ret)))))
def q36 : List ARes := [.t 4, .t 5]
theorem fn36 : fnOf Try.prog 36 = some (c36, q36, 89) := by kernel_rfl

/-! 37: pantoscope/pantoscoperef04.Worst · slots 44 · [0 l, 1 pairs, 2 l, 3 pairs, 6 e, 7 n, 8 i] -/
def c37r0 : List AOper := [
  ⟨(some 4), none, .mv (.c (.i .i64 0))⟩,
  ⟨(some 5), none, .mv (.c (.i .i64 0))⟩]
def c37r1 : List AOper := [
  ⟨(some 9), none, .mv (.t 0)⟩,
  ⟨(some 10), none, .call (.c (.fn 14 [] [])) [(.t 9)]⟩,
  ⟨(some 11), none, .not (.t 10)⟩]
def c37r2 : List AOper := [
  ⟨(some 4), none, .mv (.c (.i .i64 0))⟩,
  ⟨(some 5), none, .mv (.c (.i .i64 40))⟩]
def c37r3 : List AOper := [
  ⟨(some 12), none, .mv (.t 0)⟩,
  ⟨(some 13), none, .mv (.t 1)⟩,
  ⟨(some 14), none, .call (.c (.fn 54 [] [])) [(.t 12), (.c (.i .i64 2000)), (.t 13)]⟩,
  ⟨(some 6), none, .mv (.t 14)⟩]
def c37r4 : List AOper := [
  ⟨(some 15), none, .mv (.t 6)⟩,
  ⟨(some 16), none, .bin false .neq (.t 15) (.c (.i .i64 0))⟩]
def c37r5 : List AOper := [
  ⟨(some 17), none, .mv (.t 6)⟩,
  ⟨(some 4), none, .mv (.c (.i .i64 0))⟩,
  ⟨(some 5), none, .mv (.t 17)⟩]
def c37r6 : List AOper := [
  ⟨(some 7), none, .mv (.c (.i .i64 0))⟩]
def c37r7 : List AOper := [
  ⟨(some 8), none, .mv (.c (.i .i64 0))⟩]
def c37r8 : List AOper := [
  ⟨(some 18), none, .mv (.t 8)⟩,
  ⟨(some 19), none, .mv (.t 1)⟩,
  ⟨(some 20), none, .len (.t 19)⟩,
  ⟨(some 21), none, .bin false .lss (.t 18) (.t 20)⟩]
def c37r9 : List AOper := [
  ⟨(some 24), none, .mv (.t 7)⟩,
  ⟨(some 25), none, .mv (.t 0)⟩,
  ⟨(some 26), none, .mv (.t 1)⟩,
  ⟨(some 27), none, .mv (.t 8)⟩,
  ⟨(some 28), none, .ia 2 (.t 26) (.t 27)⟩,
  ⟨(some 29), none, .iap 2 1 (.t 28) (.c (.i .i64 0))⟩,
  ⟨(some 30), none, .ld none (.t 29)⟩,
  ⟨(some 31), none, .ia 4 (.t 25) (.t 30)⟩,
  ⟨(some 32), none, .ld (some 4) (.t 31)⟩,
  ⟨(some 33), none, .mv (.t 0)⟩,
  ⟨(some 34), none, .mv (.t 1)⟩,
  ⟨(some 35), none, .mv (.t 8)⟩,
  ⟨(some 36), none, .ia 2 (.t 34) (.t 35)⟩,
  ⟨(some 37), none, .iap 2 1 (.t 36) (.c (.i .i64 1))⟩,
  ⟨(some 38), none, .ld none (.t 37)⟩,
  ⟨(some 39), none, .ia 4 (.t 33) (.t 38)⟩,
  ⟨(some 40), none, .ld (some 4) (.t 39)⟩,
  ⟨(some 41), none, .call (.c (.fn 68 [] [])) [(.t 32), (.t 40)]⟩,
  ⟨(some 42), none, .mm true (.t 24) [(.t 41)]⟩,
  ⟨(some 7), none, .mv (.t 42)⟩]
def c37r10 : List AOper := [
  ⟨(some 22), none, .mv (.t 8)⟩,
  ⟨(some 23), none, .bin false .add (.t 22) (.c (.i .i64 1))⟩,
  ⟨(some 8), none, .mv (.t 23)⟩]
abbrev c37b11 : AC := (.seq (.seq (.reg c37r8) (.cond (.t 21) .skip (.exit 0))) (.seq (.blk 1 (.head 18 c37r9)) (.reg c37r10)))
def c37r12 : List AOper := [
  ⟨(some 43), none, .mv (.t 7)⟩,
  ⟨(some 4), none, .mv (.t 43)⟩,
  ⟨(some 5), none, .mv (.c (.i .i64 0))⟩]
abbrev c37 : AC := (.seq (.reg c37r0) (.seq (.seq (.reg c37r1) (.cond (.t 11) (.seq (.reg c37r2) .ret) .skip)) (.seq (.reg c37r3) (.seq (.seq (.reg c37r4) (.cond (.t 16) (.seq (.reg c37r5) .ret) .skip)) (.seq (.reg c37r6) (.seq (.seq (.reg c37r7) (.blk 0 (.loop c37b11))) (.seq (.reg c37r12) .ret)))))))
def q37 : List ARes := [.t 4, .t 5]
theorem fn37 : fnOf Try.prog 37 = some (c37, q37, 44) := by kernel_rfl

/-! 38: pantoscope/temple.Check · slots 18 · [0 l, 1 tol, 2 pairs, 3 l, 4 tol, 5 pairs, 7 e] -/
def c38r0 : List AOper := [
  ⟨(some 4), none, .box (.t 1)⟩,
  ⟨(some 6), none, .mv (.c (.i .i64 0))⟩]
def c38r1 : List AOper := [
  ⟨(some 8), none, .mv (.t 0)⟩,
  ⟨(some 9), none, .ld none (.t 4)⟩,
  ⟨(some 10), none, .call (.c (.fn 49 [] [])) [(.t 8), (.t 9)]⟩,
  ⟨(some 7), none, .mv (.t 10)⟩]
def c38r2 : List AOper := [
  ⟨(some 11), none, .mv (.t 7)⟩,
  ⟨(some 12), none, .bin false .neq (.t 11) (.c (.i .i64 0))⟩]
def c38r3 : List AOper := [
  ⟨(some 13), none, .mv (.t 7)⟩,
  ⟨(some 6), none, .mv (.t 13)⟩]
def c38r4 : List AOper := [
  ⟨(some 14), none, .mv (.t 0)⟩,
  ⟨(some 15), none, .mv (.t 2)⟩,
  ⟨(some 16), none, .mkf 69 [] [(.t 4)]⟩,
  ⟨(some 17), none, .call (.c (.fn 58 [] [])) [(.t 14), (.t 15), (.t 16)]⟩,
  ⟨(some 6), none, .mv (.t 17)⟩]
abbrev c38 : AC := (.seq (.reg c38r0) (.seq (.seq (.reg c38r1) (.seq (.reg c38r2) (.cond (.t 12) (.seq (.reg c38r3) .ret) .skip))) (.seq (.reg c38r4) .ret)))
def q38 : List ARes := [.t 6]
theorem fn38 : fnOf Try.prog 38 = some (c38, q38, 18) := by kernel_rfl

/-! 39: pantoscope/temple.Life · slots 34 · [0 h, 1 f, 2 least, 3 h, 4 f, 5 least, 9 e, 10 x, 11 n] -/
def c39r0 : List AOper := [
  ⟨(some 3), none, .box (.t 0)⟩,
  ⟨(some 6), none, .mv (.c (.i .i64 0))⟩,
  ⟨(some 7), none, .mv (.c (.b false))⟩,
  ⟨(some 8), none, .mv (.c (.i .i64 0))⟩]
def c39r1 : List AOper := [
  ⟨(some 12), none, .ld (some 4) (.t 3)⟩,
  ⟨(some 13), none, .mv (.t 1)⟩,
  ⟨(some 14), none, .mv (.t 2)⟩,
  ⟨(some 15), none, .call (.c (.fn 66 [] [])) [(.t 12), (.t 13), (.c (.i .i64 0)), (.t 14)]⟩,
  ⟨(some 9), none, .mv (.t 15)⟩]
def c39r2 : List AOper := [
  ⟨(some 16), none, .mv (.t 9)⟩,
  ⟨(some 17), none, .bin false .neq (.t 16) (.c (.i .i64 0))⟩]
def c39r3 : List AOper := [
  ⟨(some 18), none, .mv (.t 9)⟩,
  ⟨(some 6), none, .mv (.c (.i .i64 0))⟩,
  ⟨(some 7), none, .mv (.c (.b false))⟩,
  ⟨(some 8), none, .mv (.t 18)⟩]
def c39r4 : List AOper := [
  ⟨(some 19), none, .ld (some 4) (.t 3)⟩,
  ⟨(some 20), none, .mv (.t 1)⟩,
  ⟨(some 21), none, .bld [.i .i64 0, .i .i64 0, .i .i64 0, .i .i64 0, .i .i64 0] [(0, 4, (.t 19)), (4, 1, (.t 20))]⟩,
  ⟨(some 10), none, .alloc [.i .i64 0, .i .i64 0, .i .i64 0, .i .i64 0, .i .i64 0]⟩,
  ⟨none, none, .sto (some 5) (.t 10) (.t 21)⟩]
def c39r5 : List AOper := [
  ⟨(some 22), none, .mv (.c (.i .i64 0))⟩]
def c39r6 : List AOper := [
  ⟨(some 23), none, .bin false .lss (.t 22) (.c (.i .i64 100001))⟩]
def c39r7 : List AOper := [
  ⟨(some 24), none, .mv (.t 22)⟩,
  ⟨(some 11), none, .mv (.t 24)⟩]
def c39r8 : List AOper := [
  ⟨(some 25), none, .fa (.t 10) 4⟩,
  ⟨(some 26), none, .ld none (.t 25)⟩,
  ⟨(some 27), none, .mv (.t 2)⟩,
  ⟨(some 28), none, .bin false .lss (.t 26) (.t 27)⟩]
def c39r9 : List AOper := [
  ⟨(some 29), none, .mv (.t 11)⟩,
  ⟨(some 6), none, .mv (.t 29)⟩,
  ⟨(some 7), none, .mv (.c (.b true))⟩,
  ⟨(some 8), none, .mv (.c (.i .i64 0))⟩]
def c39r10 : List AOper := [
  ⟨(some 30), none, .ld (some 5) (.t 10)⟩,
  ⟨(some 31), none, .call (.c (.fn 67 [] [])) [(.t 30)]⟩,
  ⟨(some 32), none, .fa (.t 10) 4⟩,
  ⟨none, none, .sto none (.t 32) (.t 31)⟩]
def c39r11 : List AOper := [
  ⟨(some 33), none, .bin false .add (.t 22) (.c (.i .i64 1))⟩,
  ⟨(some 22), none, .mv (.t 33)⟩]
abbrev c39b12 : AC := (.seq (.reg c39r6) (.seq (.cond (.t 23) .skip (.exit 0)) (.seq (.blk 1 (.seq (.reg c39r7) (.seq (.seq (.reg c39r8) (.cond (.t 28) (.seq (.reg c39r9) .ret) .skip)) (.reg c39r10)))) (.reg c39r11))))
def c39r13 : List AOper := [
  ⟨(some 6), none, .mv (.c (.i .i64 0))⟩,
  ⟨(some 7), none, .mv (.c (.b false))⟩,
  ⟨(some 8), none, .mv (.c (.i .i64 0))⟩]
abbrev c39 : AC := (.seq (.reg c39r0) (.seq (.seq (.reg c39r1) (.seq (.reg c39r2) (.cond (.t 17) (.seq (.reg c39r3) .ret) .skip))) (.seq (.reg c39r4) (.seq (.seq (.reg c39r5) (.blk 0 (.loop c39b12))) (.seq (.reg c39r13) .ret)))))
def q39 : List ARes := [.t 6, .t 7, .t 8]
theorem fn39 : fnOf Try.prog 39 = some (c39, q39, 34) := by kernel_rfl

/-! 40: pantoscope/temple.Services · slots 45 · [0 h, 1 n, 2 least, 3 h, 4 n, 5 least, 8 e, 9 x, 10 count] -/
def c40r0 : List AOper := [
  ⟨(some 3), none, .box (.t 0)⟩,
  ⟨(some 6), none, .mv (.c (.i .i64 0))⟩,
  ⟨(some 7), none, .mv (.c (.i .i64 0))⟩]
def c40r1 : List AOper := [
  ⟨(some 11), none, .ld (some 4) (.t 3)⟩,
  ⟨(some 12), none, .fa (.t 3) 1⟩,
  ⟨(some 13), none, .ld none (.t 12)⟩,
  ⟨(some 14), none, .mv (.t 1)⟩,
  ⟨(some 15), none, .mv (.t 2)⟩,
  ⟨(some 16), none, .call (.c (.fn 66 [] [])) [(.t 11), (.t 13), (.t 14), (.t 15)]⟩,
  ⟨(some 8), none, .mv (.t 16)⟩]
def c40r2 : List AOper := [
  ⟨(some 17), none, .mv (.t 8)⟩,
  ⟨(some 18), none, .bin false .neq (.t 17) (.c (.i .i64 0))⟩]
def c40r3 : List AOper := [
  ⟨(some 19), none, .mv (.t 8)⟩,
  ⟨(some 6), none, .mv (.c (.i .i64 0))⟩,
  ⟨(some 7), none, .mv (.t 19)⟩]
def c40r4 : List AOper := [
  ⟨(some 20), none, .ld (some 4) (.t 3)⟩,
  ⟨(some 21), none, .fa (.t 3) 1⟩,
  ⟨(some 22), none, .ld none (.t 21)⟩,
  ⟨(some 23), none, .bld [.i .i64 0, .i .i64 0, .i .i64 0, .i .i64 0, .i .i64 0] [(0, 4, (.t 20)), (4, 1, (.t 22))]⟩,
  ⟨(some 9), none, .alloc [.i .i64 0, .i .i64 0, .i .i64 0, .i .i64 0, .i .i64 0]⟩,
  ⟨none, none, .sto (some 5) (.t 9) (.t 23)⟩]
def c40r5 : List AOper := [
  ⟨(some 10), none, .mv (.c (.i .i64 0))⟩]
def c40r6 : List AOper := [
  ⟨(some 24), none, .mv (.t 1)⟩,
  ⟨(some 25), none, .mv (.c (.i .i64 0))⟩]
def c40r7 : List AOper := [
  ⟨(some 26), none, .bin false .lss (.t 25) (.t 24)⟩]
def c40r8 : List AOper := [
  ⟨(some 27), none, .ld (some 5) (.t 9)⟩,
  ⟨(some 28), none, .call (.c (.fn 67 [] [])) [(.t 27)]⟩,
  ⟨(some 29), none, .mv (.t 2)⟩,
  ⟨(some 30), none, .bin false .lss (.t 28) (.t 29)⟩]
def c40r9 : List AOper := [
  ⟨(some 31), none, .ld (some 5) (.t 9)⟩,
  ⟨(some 32), none, .call (.c (.fn 70 [] [])) [(.t 31)]⟩,
  ⟨(some 33), none, .fa (.t 9) 4⟩,
  ⟨none, none, .sto none (.t 33) (.t 32)⟩]
def c40r10 : List AOper := [
  ⟨(some 34), none, .mv (.t 10)⟩,
  ⟨(some 35), none, .bin false .add (.t 34) (.c (.i .i64 1))⟩,
  ⟨(some 10), none, .mv (.t 35)⟩]
def c40r11 : List AOper := [
  ⟨(some 36), none, .ld (some 5) (.t 9)⟩,
  ⟨(some 37), none, .call (.c (.fn 67 [] [])) [(.t 36)]⟩,
  ⟨(some 38), none, .fa (.t 9) 4⟩,
  ⟨none, none, .sto none (.t 38) (.t 37)⟩]
def c40r12 : List AOper := [
  ⟨(some 39), none, .fa (.t 9) 4⟩,
  ⟨(some 40), none, .ld none (.t 39)⟩,
  ⟨(some 41), none, .mv (.t 2)⟩,
  ⟨(some 42), none, .bin false .lss (.t 40) (.t 41)⟩]
def c40r13 : List AOper := [
  ⟨(some 6), none, .mv (.c (.i .i64 0))⟩,
  ⟨(some 7), none, .mv (.c (.i .i64 4))⟩]
def c40r14 : List AOper := [
  ⟨(some 43), none, .bin false .add (.t 25) (.c (.i .i64 1))⟩,
  ⟨(some 25), none, .mv (.t 43)⟩]
abbrev c40b15 : AC := (.seq (.reg c40r7) (.seq (.cond (.t 26) .skip (.exit 0)) (.seq (.blk 1 (.seq (.seq (.reg c40r8) (.cond (.t 30) (.seq (.reg c40r9) (.reg c40r10)) .skip)) (.seq (.reg c40r11) (.seq (.reg c40r12) (.cond (.t 42) (.seq (.reg c40r13) .ret) .skip))))) (.reg c40r14))))
def c40r16 : List AOper := [
  ⟨(some 44), none, .mv (.t 10)⟩,
  ⟨(some 6), none, .mv (.t 44)⟩,
  ⟨(some 7), none, .mv (.c (.i .i64 0))⟩]
abbrev c40 : AC := (.seq (.reg c40r0) (.seq (.seq (.reg c40r1) (.seq (.reg c40r2) (.cond (.t 18) (.seq (.reg c40r3) .ret) .skip))) (.seq (.reg c40r4) (.seq (.reg c40r5) (.seq (.seq (.reg c40r6) (.blk 0 (.loop c40b15))) (.seq (.reg c40r16) .ret))))))
def q40 : List ARes := [.t 6, .t 7]
theorem fn40 : fnOf Try.prog 40 = some (c40, q40, 45) := by kernel_rfl

/-! 41: pantoscope/temple.IsGuard · slots 77 · [0 l, 1 tol, 2 list, 3 l, 4 tol, 5 list, 8 e, 9 in, 10 _, 11 i, 12 i, 13 a, 14 k, 15 b] -/
def c41r0 : List AOper := [
  ⟨(some 6), none, .mv (.c (.b false))⟩,
  ⟨(some 7), none, .mv (.c (.i .i64 0))⟩]
def c41r1 : List AOper := [
  ⟨(some 16), none, .mv (.t 0)⟩,
  ⟨(some 17), none, .mv (.t 1)⟩,
  ⟨(some 18), none, .call (.c (.fn 49 [] [])) [(.t 16), (.t 17)]⟩,
  ⟨(some 8), none, .mv (.t 18)⟩]
def c41r2 : List AOper := [
  ⟨(some 19), none, .mv (.t 8)⟩,
  ⟨(some 20), none, .bin false .neq (.t 19) (.c (.i .i64 0))⟩]
def c41r3 : List AOper := [
  ⟨(some 21), none, .mv (.t 8)⟩,
  ⟨(some 6), none, .mv (.c (.b false))⟩,
  ⟨(some 7), none, .mv (.t 21)⟩]
def c41r4 : List AOper := [
  ⟨(some 22), none, .mkm⟩,
  ⟨(some 9), none, .mv (.t 22)⟩]
def c41r5 : List AOper := [
  ⟨(some 23), none, .mv (.t 2)⟩,
  ⟨(some 24), none, .len (.t 23)⟩,
  ⟨(some 25), none, .mv (.c (.i .i64 0))⟩]
def c41r6 : List AOper := [
  ⟨(some 26), none, .bin false .lss (.t 25) (.t 24)⟩]
def c41r7 : List AOper := [
  ⟨(some 27), none, .ia 1 (.t 23) (.t 25)⟩,
  ⟨(some 28), none, .ld none (.t 27)⟩,
  ⟨(some 11), none, .mv (.t 28)⟩]
def c41r8 : List AOper := [
  ⟨(some 29), none, .mv (.t 11)⟩,
  ⟨(some 30), none, .mv (.t 0)⟩,
  ⟨(some 31), none, .len (.t 30)⟩,
  ⟨(some 32), none, .bin false .sub (.t 31) (.c (.i .i64 1))⟩,
  ⟨(some 33), none, .call (.c (.fn 71 [] [])) [(.c (.i .i64 0)), (.t 29), (.t 32)]⟩,
  ⟨(some 34), none, .not (.t 33)⟩,
  ⟨(some 35), none, .mv (.t 34)⟩,
  ⟨(some 36), (some (35, false)), .mv (.t 9)⟩,
  ⟨(some 37), (some (35, false)), .mv (.t 11)⟩,
  ⟨(some 38), (some (35, false)), .mlk none (.b false) false (.t 36) (.t 37)⟩,
  ⟨(some 39), none, .pick (.t 35) (.c (.b true)) (.t 38)⟩]
def c41r9 : List AOper := [
  ⟨(some 6), none, .mv (.c (.b false))⟩,
  ⟨(some 7), none, .mv (.c (.i .i64 2))⟩]
def c41r10 : List AOper := [
  ⟨(some 40), none, .mv (.t 9)⟩,
  ⟨(some 41), none, .mv (.t 11)⟩,
  ⟨none, none, .mup none (.t 40) (.t 41) (.c (.b true))⟩]
def c41r11 : List AOper := [
  ⟨(some 42), none, .bin false .add (.t 25) (.c (.i .i64 1))⟩,
  ⟨(some 25), none, .mv (.t 42)⟩]
abbrev c41b12 : AC := (.seq (.reg c41r6) (.seq (.cond (.t 26) .skip (.exit 0)) (.seq (.blk 1 (.seq (.reg c41r7) (.seq (.seq (.reg c41r8) (.cond (.t 39) (.seq (.reg c41r9) .ret) .skip)) (.reg c41r10)))) (.reg c41r11))))
def c41r13 : List AOper := [
  ⟨(some 43), none, .mv (.t 0)⟩,
  ⟨(some 44), none, .len (.t 43)⟩,
  ⟨(some 45), none, .mv (.c (.i .i64 0))⟩]
def c41r14 : List AOper := [
  ⟨(some 46), none, .bin false .lss (.t 45) (.t 44)⟩]
def c41r15 : List AOper := [
  ⟨(some 47), none, .mv (.t 45)⟩,
  ⟨(some 48), none, .ia 4 (.t 43) (.t 45)⟩,
  ⟨(some 49), none, .ld (some 4) (.t 48)⟩,
  ⟨(some 13), none, .alloc [.i .i64 0, .i .i64 0, .i .i64 0, .i .i64 0]⟩,
  ⟨(some 12), none, .mv (.t 47)⟩,
  ⟨none, none, .sto (some 4) (.t 13) (.t 49)⟩]
def c41r16 : List AOper := [
  ⟨(some 50), none, .mv (.t 0)⟩,
  ⟨(some 51), none, .mv (.t 12)⟩,
  ⟨(some 52), none, .sli 4 (.t 50) none (some (.t 51))⟩,
  ⟨(some 53), none, .len (.t 52)⟩,
  ⟨(some 54), none, .mv (.c (.i .i64 0))⟩]
def c41r17 : List AOper := [
  ⟨(some 55), none, .bin false .lss (.t 54) (.t 53)⟩]
def c41r18 : List AOper := [
  ⟨(some 56), none, .mv (.t 54)⟩,
  ⟨(some 57), none, .ia 4 (.t 52) (.t 54)⟩,
  ⟨(some 58), none, .ld (some 4) (.t 57)⟩,
  ⟨(some 15), none, .alloc [.i .i64 0, .i .i64 0, .i .i64 0, .i .i64 0]⟩,
  ⟨(some 14), none, .mv (.t 56)⟩,
  ⟨none, none, .sto (some 4) (.t 15) (.t 58)⟩]
def c41r19 : List AOper := [
  ⟨(some 59), none, .ld (some 4) (.t 13)⟩,
  ⟨(some 60), none, .ld (some 4) (.t 15)⟩,
  ⟨(some 61), none, .mv (.t 1)⟩,
  ⟨(some 62), none, .call (.c (.fn 52 [] [])) [(.t 59), (.t 60), (.t 61)]⟩,
  ⟨(some 63), none, .mv (.t 62)⟩,
  ⟨(some 64), (some (63, true)), .mv (.t 9)⟩,
  ⟨(some 65), (some (63, true)), .mv (.t 12)⟩,
  ⟨(some 66), (some (63, true)), .mlk none (.b false) false (.t 64) (.t 65)⟩,
  ⟨(some 67), (some (63, true)), .not (.t 66)⟩,
  ⟨(some 68), none, .pick (.t 63) (.t 67) (.c (.b false))⟩,
  ⟨(some 69), none, .mv (.t 68)⟩,
  ⟨(some 70), (some (69, true)), .mv (.t 9)⟩,
  ⟨(some 71), (some (69, true)), .mv (.t 14)⟩,
  ⟨(some 72), (some (69, true)), .mlk none (.b false) false (.t 70) (.t 71)⟩,
  ⟨(some 73), (some (69, true)), .not (.t 72)⟩,
  ⟨(some 74), none, .pick (.t 69) (.t 73) (.c (.b false))⟩]
def c41r20 : List AOper := [
  ⟨(some 6), none, .mv (.c (.b false))⟩,
  ⟨(some 7), none, .mv (.c (.i .i64 0))⟩]
def c41r21 : List AOper := [
  ⟨(some 75), none, .bin false .add (.t 54) (.c (.i .i64 1))⟩,
  ⟨(some 54), none, .mv (.t 75)⟩]
abbrev c41b22 : AC := (.seq (.reg c41r17) (.seq (.cond (.t 55) .skip (.exit 4)) (.seq (.blk 5 (.seq (.reg c41r18) (.seq (.reg c41r19) (.cond (.t 74) (.seq (.reg c41r20) .ret) .skip)))) (.reg c41r21))))
def c41r23 : List AOper := [
  ⟨(some 76), none, .bin false .add (.t 45) (.c (.i .i64 1))⟩,
  ⟨(some 45), none, .mv (.t 76)⟩]
abbrev c41b24 : AC := (.seq (.reg c41r14) (.seq (.cond (.t 46) .skip (.exit 2)) (.seq (.blk 3 (.seq (.reg c41r15) (.seq (.reg c41r16) (.blk 4 (.loop c41b22))))) (.reg c41r23))))
def c41r25 : List AOper := [
  ⟨(some 6), none, .mv (.c (.b true))⟩,
  ⟨(some 7), none, .mv (.c (.i .i64 0))⟩]
abbrev c41 : AC := (.seq (.reg c41r0) (.seq (.seq (.reg c41r1) (.seq (.reg c41r2) (.cond (.t 20) (.seq (.reg c41r3) .ret) .skip))) (.seq (.reg c41r4) (.seq (.seq (.reg c41r5) (.blk 0 (.loop c41b12))) (.seq (.seq (.reg c41r13) (.blk 2 (.loop c41b24))) (.seq (.reg c41r25) .ret))))))
def q41 : List ARes := [.t 6, .t 7]
theorem fn41 : fnOf Try.prog 41 = some (c41, q41, 77) := by kernel_rfl

/-! 42: pantoscope/pantoscoperef04.Opened · slots 35 · [0 h, 1 f, 2 n, 3 h, 4 f, 5 n, 8 e, 9 i] -/
def c42r0 : List AOper := [
  ⟨(some 3), none, .box (.t 0)⟩,
  ⟨(some 6), none, .mv (.c (.i .i64 0))⟩,
  ⟨(some 7), none, .mv (.c (.i .i64 0))⟩]
def c42r1 : List AOper := [
  ⟨(some 10), none, .ld (some 4) (.t 3)⟩,
  ⟨(some 11), none, .mv (.t 1)⟩,
  ⟨(some 12), none, .call (.c (.fn 72 [] [])) [(.t 10), (.t 11)]⟩,
  ⟨(some 8), none, .mv (.t 12)⟩]
def c42r2 : List AOper := [
  ⟨(some 13), none, .mv (.t 8)⟩,
  ⟨(some 14), none, .bin false .eql (.t 13) (.c (.i .i64 0))⟩,
  ⟨(some 15), none, .mv (.t 14)⟩,
  ⟨(some 16), (some (15, true)), .mv (.t 2)⟩,
  ⟨(some 17), (some (15, true)), .bin false .lss (.t 16) (.c (.i .i64 0))⟩,
  ⟨(some 18), (some (15, true)), .mv (.t 17)⟩,
  ⟨(some 19), (some (18, false)), .mv (.t 2)⟩,
  ⟨(some 20), (some (18, false)), .bin false .gtr (.t 19) (.c (.i .i64 100000))⟩,
  ⟨(some 21), (some (15, true)), .pick (.t 18) (.c (.b true)) (.t 20)⟩,
  ⟨(some 22), none, .pick (.t 15) (.t 21) (.c (.b false))⟩]
def c42r3 : List AOper := [
  ⟨(some 8), none, .mv (.c (.i .i64 2))⟩]
def c42r4 : List AOper := [
  ⟨(some 23), none, .mv (.t 8)⟩,
  ⟨(some 24), none, .bin false .neq (.t 23) (.c (.i .i64 0))⟩]
def c42r5 : List AOper := [
  ⟨(some 25), none, .mv (.t 8)⟩,
  ⟨(some 6), none, .mv (.c (.i .i64 0))⟩,
  ⟨(some 7), none, .mv (.t 25)⟩]
def c42r6 : List AOper := [
  ⟨(some 9), none, .mv (.c (.i .i64 0))⟩]
def c42r7 : List AOper := [
  ⟨(some 26), none, .mv (.t 9)⟩,
  ⟨(some 27), none, .mv (.t 2)⟩,
  ⟨(some 28), none, .bin false .lss (.t 26) (.t 27)⟩]
def c42r8 : List AOper := [
  ⟨(some 31), none, .ld (some 4) (.t 3)⟩,
  ⟨(some 32), none, .mv (.t 1)⟩,
  ⟨(some 33), none, .call (.c (.fn 73 [] [])) [(.t 31), (.t 32)]⟩,
  ⟨(some 1), none, .mv (.t 33)⟩]
def c42r9 : List AOper := [
  ⟨(some 29), none, .mv (.t 9)⟩,
  ⟨(some 30), none, .bin false .add (.t 29) (.c (.i .i64 1))⟩,
  ⟨(some 9), none, .mv (.t 30)⟩]
abbrev c42b10 : AC := (.seq (.seq (.reg c42r7) (.cond (.t 28) .skip (.exit 0))) (.seq (.blk 1 (.reg c42r8)) (.reg c42r9)))
def c42r11 : List AOper := [
  ⟨(some 34), none, .mv (.t 1)⟩,
  ⟨(some 6), none, .mv (.t 34)⟩,
  ⟨(some 7), none, .mv (.c (.i .i64 0))⟩]
abbrev c42 : AC := (.seq (.reg c42r0) (.seq (.reg c42r1) (.seq (.seq (.reg c42r2) (.cond (.t 22) (.reg c42r3) .skip)) (.seq (.seq (.reg c42r4) (.cond (.t 24) (.seq (.reg c42r5) .ret) .skip)) (.seq (.seq (.reg c42r6) (.blk 0 (.loop c42b10))) (.seq (.reg c42r11) .ret))))))
def q42 : List ARes := [.t 6, .t 7]
theorem fn42 : fnOf Try.prog 42 = some (c42, q42, 35) := by kernel_rfl

/-! 43: pantoscope/temple.Tightened · slots 17 · [0 h, 1 f, 2 h, 3 f, 6 e] -/
def c43r0 : List AOper := [
  ⟨(some 2), none, .box (.t 0)⟩,
  ⟨(some 4), none, .mv (.c (.i .i64 0))⟩,
  ⟨(some 5), none, .mv (.c (.i .i64 0))⟩]
def c43r1 : List AOper := [
  ⟨(some 7), none, .ld (some 4) (.t 2)⟩,
  ⟨(some 8), none, .mv (.t 1)⟩,
  ⟨(some 9), none, .call (.c (.fn 66 [] [])) [(.t 7), (.t 8), (.c (.i .i64 0)), (.c (.i .i64 0))]⟩,
  ⟨(some 6), none, .mv (.t 9)⟩]
def c43r2 : List AOper := [
  ⟨(some 10), none, .mv (.t 6)⟩,
  ⟨(some 11), none, .bin false .neq (.t 10) (.c (.i .i64 0))⟩]
def c43r3 : List AOper := [
  ⟨(some 12), none, .mv (.t 6)⟩,
  ⟨(some 4), none, .mv (.c (.i .i64 0))⟩,
  ⟨(some 5), none, .mv (.t 12)⟩]
def c43r4 : List AOper := [
  ⟨(some 13), none, .ld (some 4) (.t 2)⟩,
  ⟨(some 14), none, .mv (.t 1)⟩,
  ⟨(some 15), none, .bld [.i .i64 0, .i .i64 0, .i .i64 0, .i .i64 0, .i .i64 0] [(0, 4, (.t 13)), (4, 1, (.t 14))]⟩,
  ⟨(some 16), none, .call (.c (.fn 70 [] [])) [(.t 15)]⟩,
  ⟨(some 4), none, .mv (.t 16)⟩,
  ⟨(some 5), none, .mv (.c (.i .i64 0))⟩]
abbrev c43 : AC := (.seq (.reg c43r0) (.seq (.seq (.reg c43r1) (.seq (.reg c43r2) (.cond (.t 11) (.seq (.reg c43r3) .ret) .skip))) (.seq (.reg c43r4) .ret)))
def q43 : List ARes := [.t 4, .t 5]
theorem fn43 : fnOf Try.prog 43 = some (c43, q43, 17) := by kernel_rfl

/-! 44: pantoscope/pantoscoperef04.Tightened · slots 20 · [0 h, 1 f, 2 h, 3 f, 6 e] -/
def c44r0 : List AOper := [
  ⟨(some 2), none, .box (.t 0)⟩,
  ⟨(some 4), none, .mv (.c (.i .i64 0))⟩,
  ⟨(some 5), none, .mv (.c (.i .i64 0))⟩]
def c44r1 : List AOper := [
  ⟨(some 7), none, .ld (some 4) (.t 2)⟩,
  ⟨(some 8), none, .mv (.t 1)⟩,
  ⟨(some 9), none, .call (.c (.fn 72 [] [])) [(.t 7), (.t 8)]⟩,
  ⟨(some 6), none, .mv (.t 9)⟩]
def c44r2 : List AOper := [
  ⟨(some 10), none, .mv (.t 6)⟩,
  ⟨(some 11), none, .bin false .neq (.t 10) (.c (.i .i64 0))⟩]
def c44r3 : List AOper := [
  ⟨(some 12), none, .mv (.t 6)⟩,
  ⟨(some 4), none, .mv (.c (.i .i64 0))⟩,
  ⟨(some 5), none, .mv (.t 12)⟩]
def c44r4 : List AOper := [
  ⟨(some 13), none, .mv (.t 1)⟩,
  ⟨(some 14), none, .fa (.t 2) 3⟩,
  ⟨(some 15), none, .ld none (.t 14)⟩,
  ⟨(some 16), none, .bin false .add (.t 13) (.t 15)⟩,
  ⟨(some 17), none, .fa (.t 2) 1⟩,
  ⟨(some 18), none, .ld none (.t 17)⟩,
  ⟨(some 19), none, .mm false (.t 16) [(.t 18)]⟩,
  ⟨(some 4), none, .mv (.t 19)⟩,
  ⟨(some 5), none, .mv (.c (.i .i64 0))⟩]
abbrev c44 : AC := (.seq (.reg c44r0) (.seq (.reg c44r1) (.seq (.seq (.reg c44r2) (.cond (.t 11) (.seq (.reg c44r3) .ret) .skip)) (.seq (.reg c44r4) .ret))))
def q44 : List ARes := [.t 4, .t 5]
theorem fn44 : fnOf Try.prog 44 = some (c44, q44, 20) := by kernel_rfl

/-! 45: pantoscope/temple.ValidHinge · slots 31 · [0 h, 1 h] -/
def c45r0 : List AOper := [
  ⟨(some 1), none, .box (.t 0)⟩,
  ⟨(some 2), none, .mv (.c (.b false))⟩]
def c45r1 : List AOper := [
  ⟨(some 3), none, .fa (.t 1) 0⟩,
  ⟨(some 4), none, .ld none (.t 3)⟩,
  ⟨(some 5), none, .bin false .eql (.t 4) (.c (.i .i64 3))⟩,
  ⟨(some 6), none, .mv (.t 5)⟩,
  ⟨(some 7), (some (6, false)), .fa (.t 1) 0⟩,
  ⟨(some 8), (some (6, false)), .ld none (.t 7)⟩,
  ⟨(some 9), (some (6, false)), .bin false .eql (.t 8) (.c (.i .i64 5))⟩,
  ⟨(some 10), none, .pick (.t 6) (.c (.b true)) (.t 9)⟩,
  ⟨(some 11), none, .mv (.t 10)⟩,
  ⟨(some 12), (some (11, false)), .fa (.t 1) 0⟩,
  ⟨(some 13), (some (11, false)), .ld none (.t 12)⟩,
  ⟨(some 14), (some (11, false)), .bin false .eql (.t 13) (.c (.i .i64 7))⟩,
  ⟨(some 15), none, .pick (.t 11) (.c (.b true)) (.t 14)⟩,
  ⟨(some 16), none, .mv (.t 15)⟩,
  ⟨(some 17), (some (16, true)), .fa (.t 1) 1⟩,
  ⟨(some 18), (some (16, true)), .ld none (.t 17)⟩,
  ⟨(some 19), (some (16, true)), .call (.c (.fn 71 [] [])) [(.c (.i .i64 1)), (.t 18), (.c (.i .i64 10000))]⟩,
  ⟨(some 20), none, .pick (.t 16) (.t 19) (.c (.b false))⟩,
  ⟨(some 21), none, .mv (.t 20)⟩,
  ⟨(some 22), (some (21, true)), .fa (.t 1) 2⟩,
  ⟨(some 23), (some (21, true)), .ld none (.t 22)⟩,
  ⟨(some 24), (some (21, true)), .call (.c (.fn 71 [] [])) [(.c (.i .i64 0)), (.t 23), (.c (.i .i64 1000))]⟩,
  ⟨(some 25), none, .pick (.t 21) (.t 24) (.c (.b false))⟩,
  ⟨(some 26), none, .mv (.t 25)⟩,
  ⟨(some 27), (some (26, true)), .fa (.t 1) 3⟩,
  ⟨(some 28), (some (26, true)), .ld none (.t 27)⟩,
  ⟨(some 29), (some (26, true)), .call (.c (.fn 71 [] [])) [(.c (.i .i64 1)), (.t 28), (.c (.i .i64 10000))]⟩,
  ⟨(some 30), none, .pick (.t 26) (.t 29) (.c (.b false))⟩,
  ⟨(some 2), none, .mv (.t 30)⟩]
abbrev c45 : AC := (.seq (.reg c45r0) (.seq (.reg c45r1) .ret))
def q45 : List ARes := [.t 2]
theorem fn45 : fnOf Try.prog 45 = some (c45, q45, 31) := by kernel_rfl

/-! 46: pantoscope/pantoscoperef04.Life · slots 40 · [0 h, 1 f, 2 lowest, 3 h, 4 f, 5 lowest, 9 e, 10 n] -/
def c46r0 : List AOper := [
  ⟨(some 3), none, .box (.t 0)⟩,
  ⟨(some 6), none, .mv (.c (.i .i64 0))⟩,
  ⟨(some 7), none, .mv (.c (.b false))⟩,
  ⟨(some 8), none, .mv (.c (.i .i64 0))⟩]
def c46r1 : List AOper := [
  ⟨(some 11), none, .ld (some 4) (.t 3)⟩,
  ⟨(some 12), none, .mv (.t 1)⟩,
  ⟨(some 13), none, .call (.c (.fn 72 [] [])) [(.t 11), (.t 12)]⟩,
  ⟨(some 9), none, .mv (.t 13)⟩]
def c46r2 : List AOper := [
  ⟨(some 14), none, .mv (.t 9)⟩,
  ⟨(some 15), none, .bin false .eql (.t 14) (.c (.i .i64 0))⟩,
  ⟨(some 16), none, .mv (.t 15)⟩,
  ⟨(some 17), (some (16, true)), .mv (.t 2)⟩,
  ⟨(some 18), (some (16, true)), .bin false .lss (.t 17) (.c (.i .i64 0))⟩,
  ⟨(some 19), (some (16, true)), .mv (.t 18)⟩,
  ⟨(some 20), (some (19, false)), .mv (.t 2)⟩,
  ⟨(some 21), (some (19, false)), .fa (.t 3) 1⟩,
  ⟨(some 22), (some (19, false)), .ld none (.t 21)⟩,
  ⟨(some 23), (some (19, false)), .bin false .gtr (.t 20) (.t 22)⟩,
  ⟨(some 24), (some (16, true)), .pick (.t 19) (.c (.b true)) (.t 23)⟩,
  ⟨(some 25), none, .pick (.t 16) (.t 24) (.c (.b false))⟩]
def c46r3 : List AOper := [
  ⟨(some 9), none, .mv (.c (.i .i64 2))⟩]
def c46r4 : List AOper := [
  ⟨(some 26), none, .mv (.t 9)⟩,
  ⟨(some 27), none, .bin false .neq (.t 26) (.c (.i .i64 0))⟩]
def c46r5 : List AOper := [
  ⟨(some 28), none, .mv (.t 9)⟩,
  ⟨(some 6), none, .mv (.c (.i .i64 0))⟩,
  ⟨(some 7), none, .mv (.c (.b false))⟩,
  ⟨(some 8), none, .mv (.t 28)⟩]
def c46r6 : List AOper := [
  ⟨(some 10), none, .mv (.c (.i .i64 0))⟩]
def c46r7 : List AOper := [
  ⟨(some 29), none, .mv (.t 10)⟩,
  ⟨(some 30), none, .bin false .leq (.t 29) (.c (.i .i64 100000))⟩]
def c46r8 : List AOper := [
  ⟨(some 33), none, .mv (.t 1)⟩,
  ⟨(some 34), none, .mv (.t 2)⟩,
  ⟨(some 35), none, .bin false .lss (.t 33) (.t 34)⟩]
def c46r9 : List AOper := [
  ⟨(some 36), none, .mv (.t 10)⟩,
  ⟨(some 6), none, .mv (.t 36)⟩,
  ⟨(some 7), none, .mv (.c (.b true))⟩,
  ⟨(some 8), none, .mv (.c (.i .i64 0))⟩]
def c46r10 : List AOper := [
  ⟨(some 37), none, .ld (some 4) (.t 3)⟩,
  ⟨(some 38), none, .mv (.t 1)⟩,
  ⟨(some 39), none, .call (.c (.fn 73 [] [])) [(.t 37), (.t 38)]⟩,
  ⟨(some 1), none, .mv (.t 39)⟩]
def c46r11 : List AOper := [
  ⟨(some 31), none, .mv (.t 10)⟩,
  ⟨(some 32), none, .bin false .add (.t 31) (.c (.i .i64 1))⟩,
  ⟨(some 10), none, .mv (.t 32)⟩]
abbrev c46b12 : AC := (.seq (.seq (.reg c46r7) (.cond (.t 30) .skip (.exit 0))) (.seq (.blk 1 (.seq (.seq (.reg c46r8) (.cond (.t 35) (.seq (.reg c46r9) .ret) .skip)) (.reg c46r10))) (.reg c46r11)))
def c46r13 : List AOper := [
  ⟨(some 6), none, .mv (.c (.i .i64 0))⟩,
  ⟨(some 7), none, .mv (.c (.b false))⟩,
  ⟨(some 8), none, .mv (.c (.i .i64 0))⟩]
abbrev c46 : AC := (.seq (.reg c46r0) (.seq (.reg c46r1) (.seq (.seq (.reg c46r2) (.cond (.t 25) (.reg c46r3) .skip)) (.seq (.seq (.reg c46r4) (.cond (.t 27) (.seq (.reg c46r5) .ret) .skip)) (.seq (.seq (.reg c46r6) (.blk 0 (.loop c46b12))) (.seq (.reg c46r13) .ret))))))
def q46 : List ARes := [.t 6, .t 7, .t 8]
theorem fn46 : fnOf Try.prog 46 = some (c46, q46, 40) := by kernel_rfl

/-! 47: pantoscope/pantoscoperef04.Services · slots 58 · [0 h, 1 n, 2 lowest, 3 h, 4 n, 5 lowest, 8 f, 9 count, 10 i] -/
def c47r0 : List AOper := [
  ⟨(some 3), none, .box (.t 0)⟩,
  ⟨(some 6), none, .mv (.c (.i .i64 0))⟩,
  ⟨(some 7), none, .mv (.c (.i .i64 0))⟩]
def c47r1 : List AOper := [
  ⟨(some 11), none, .ld (some 4) (.t 3)⟩,
  ⟨(some 12), none, .call (.c (.fn 34 [] [])) [(.t 11)]⟩,
  ⟨(some 13), none, .not (.t 12)⟩]
def c47r2 : List AOper := [
  ⟨(some 6), none, .mv (.c (.i .i64 0))⟩,
  ⟨(some 7), none, .mv (.c (.i .i64 41))⟩]
def c47r3 : List AOper := [
  ⟨(some 14), none, .mv (.t 1)⟩,
  ⟨(some 15), none, .bin false .lss (.t 14) (.c (.i .i64 0))⟩,
  ⟨(some 16), none, .mv (.t 15)⟩,
  ⟨(some 17), (some (16, false)), .mv (.t 1)⟩,
  ⟨(some 18), (some (16, false)), .bin false .gtr (.t 17) (.c (.i .i64 100000))⟩,
  ⟨(some 19), none, .pick (.t 16) (.c (.b true)) (.t 18)⟩,
  ⟨(some 20), none, .mv (.t 19)⟩,
  ⟨(some 21), (some (20, false)), .mv (.t 2)⟩,
  ⟨(some 22), (some (20, false)), .bin false .lss (.t 21) (.c (.i .i64 0))⟩,
  ⟨(some 23), none, .pick (.t 20) (.c (.b true)) (.t 22)⟩,
  ⟨(some 24), none, .mv (.t 23)⟩,
  ⟨(some 25), (some (24, false)), .mv (.t 2)⟩,
  ⟨(some 26), (some (24, false)), .fa (.t 3) 1⟩,
  ⟨(some 27), (some (24, false)), .ld none (.t 26)⟩,
  ⟨(some 28), (some (24, false)), .bin false .gtr (.t 25) (.t 27)⟩,
  ⟨(some 29), none, .pick (.t 24) (.c (.b true)) (.t 28)⟩]
def c47r4 : List AOper := [
  ⟨(some 6), none, .mv (.c (.i .i64 0))⟩,
  ⟨(some 7), none, .mv (.c (.i .i64 2))⟩]
def c47r5 : List AOper := [
  ⟨(some 30), none, .fa (.t 3) 1⟩,
  ⟨(some 31), none, .ld none (.t 30)⟩,
  ⟨(some 8), none, .mv (.t 31)⟩]
def c47r6 : List AOper := [
  ⟨(some 9), none, .mv (.c (.i .i64 0))⟩]
def c47r7 : List AOper := [
  ⟨(some 10), none, .mv (.c (.i .i64 0))⟩]
def c47r8 : List AOper := [
  ⟨(some 32), none, .mv (.t 10)⟩,
  ⟨(some 33), none, .mv (.t 1)⟩,
  ⟨(some 34), none, .bin false .lss (.t 32) (.t 33)⟩]
def c47r9 : List AOper := [
  ⟨(some 37), none, .ld (some 4) (.t 3)⟩,
  ⟨(some 38), none, .mv (.t 8)⟩,
  ⟨(some 39), none, .call (.c (.fn 73 [] [])) [(.t 37), (.t 38)]⟩,
  ⟨(some 40), none, .mv (.t 2)⟩,
  ⟨(some 41), none, .bin false .lss (.t 39) (.t 40)⟩]
def c47r10 : List AOper := [
  ⟨(some 42), none, .mv (.t 8)⟩,
  ⟨(some 43), none, .fa (.t 3) 3⟩,
  ⟨(some 44), none, .ld none (.t 43)⟩,
  ⟨(some 45), none, .bin false .add (.t 42) (.t 44)⟩,
  ⟨(some 46), none, .fa (.t 3) 1⟩,
  ⟨(some 47), none, .ld none (.t 46)⟩,
  ⟨(some 48), none, .mm false (.t 45) [(.t 47)]⟩,
  ⟨(some 8), none, .mv (.t 48)⟩]
def c47r11 : List AOper := [
  ⟨(some 49), none, .mv (.t 9)⟩,
  ⟨(some 50), none, .bin false .add (.t 49) (.c (.i .i64 1))⟩,
  ⟨(some 9), none, .mv (.t 50)⟩]
def c47r12 : List AOper := [
  ⟨(some 51), none, .ld (some 4) (.t 3)⟩,
  ⟨(some 52), none, .mv (.t 8)⟩,
  ⟨(some 53), none, .call (.c (.fn 73 [] [])) [(.t 51), (.t 52)]⟩,
  ⟨(some 8), none, .mv (.t 53)⟩]
def c47r13 : List AOper := [
  ⟨(some 54), none, .mv (.t 8)⟩,
  ⟨(some 55), none, .mv (.t 2)⟩,
  ⟨(some 56), none, .bin false .lss (.t 54) (.t 55)⟩]
def c47r14 : List AOper := [
  ⟨(some 6), none, .mv (.c (.i .i64 0))⟩,
  ⟨(some 7), none, .mv (.c (.i .i64 4))⟩]
def c47r15 : List AOper := [
  ⟨(some 35), none, .mv (.t 10)⟩,
  ⟨(some 36), none, .bin false .add (.t 35) (.c (.i .i64 1))⟩,
  ⟨(some 10), none, .mv (.t 36)⟩]
abbrev c47b16 : AC := (.seq (.seq (.reg c47r8) (.cond (.t 34) .skip (.exit 0))) (.seq (.blk 1 (.seq (.seq (.reg c47r9) (.cond (.t 41) (.seq (.reg c47r10) (.reg c47r11)) .skip)) (.seq (.reg c47r12) (.seq (.reg c47r13) (.cond (.t 56) (.seq (.reg c47r14) .ret) .skip))))) (.reg c47r15)))
def c47r17 : List AOper := [
  ⟨(some 57), none, .mv (.t 9)⟩,
  ⟨(some 6), none, .mv (.t 57)⟩,
  ⟨(some 7), none, .mv (.c (.i .i64 0))⟩]
abbrev c47 : AC := (.seq (.reg c47r0) (.seq (.seq (.reg c47r1) (.cond (.t 13) (.seq (.reg c47r2) .ret) .skip)) (.seq (.seq (.reg c47r3) (.cond (.t 29) (.seq (.reg c47r4) .ret) .skip)) (.seq (.reg c47r5) (.seq (.reg c47r6) (.seq (.seq (.reg c47r7) (.blk 0 (.loop c47b16))) (.seq (.reg c47r17) .ret)))))))
def q47 : List ARes := [.t 6, .t 7]
theorem fn47 : fnOf Try.prog 47 = some (c47, q47, 58) := by kernel_rfl

/-! 48: pantoscope/pantoscoperef04.validTemple · slots 41 · [0 t, 1 t] -/
def c48r0 : List AOper := [
  ⟨(some 1), none, .box (.t 0)⟩,
  ⟨(some 2), none, .mv (.c (.b false))⟩]
def c48r1 : List AOper := [
  ⟨(some 3), none, .fa (.t 1) 0⟩,
  ⟨(some 4), none, .ld none (.t 3)⟩,
  ⟨(some 5), none, .bin false .geq (.t 4) (.c (.i .i64 1))⟩,
  ⟨(some 6), none, .mv (.t 5)⟩,
  ⟨(some 7), (some (6, true)), .fa (.t 1) 0⟩,
  ⟨(some 8), (some (6, true)), .ld none (.t 7)⟩,
  ⟨(some 9), (some (6, true)), .bin false .leq (.t 8) (.c (.i .i64 1000000000))⟩,
  ⟨(some 10), none, .pick (.t 6) (.t 9) (.c (.b false))⟩,
  ⟨(some 11), none, .mv (.t 10)⟩,
  ⟨(some 12), (some (11, true)), .fa (.t 1) 1⟩,
  ⟨(some 13), (some (11, true)), .ld none (.t 12)⟩,
  ⟨(some 14), (some (11, true)), .bin false .eql (.t 13) (.c (.i .i64 1))⟩,
  ⟨(some 15), (some (11, true)), .mv (.t 14)⟩,
  ⟨(some 16), (some (15, false)), .fa (.t 1) 1⟩,
  ⟨(some 17), (some (15, false)), .ld none (.t 16)⟩,
  ⟨(some 18), (some (15, false)), .bin false .eql (.t 17) (.c (.i .i64 2))⟩,
  ⟨(some 19), (some (11, true)), .pick (.t 15) (.c (.b true)) (.t 18)⟩,
  ⟨(some 20), none, .pick (.t 11) (.t 19) (.c (.b false))⟩,
  ⟨(some 21), none, .mv (.t 20)⟩,
  ⟨(some 22), (some (21, true)), .fa (.t 1) 2⟩,
  ⟨(some 23), (some (21, true)), .ld none (.t 22)⟩,
  ⟨(some 24), (some (21, true)), .bin false .geq (.t 23) (.c (.i .i64 1))⟩,
  ⟨(some 25), none, .pick (.t 21) (.t 24) (.c (.b false))⟩,
  ⟨(some 26), none, .mv (.t 25)⟩,
  ⟨(some 27), (some (26, true)), .fa (.t 1) 2⟩,
  ⟨(some 28), (some (26, true)), .ld none (.t 27)⟩,
  ⟨(some 29), (some (26, true)), .bin false .leq (.t 28) (.c (.i .i64 2000))⟩,
  ⟨(some 30), none, .pick (.t 26) (.t 29) (.c (.b false))⟩,
  ⟨(some 31), none, .mv (.t 30)⟩,
  ⟨(some 32), (some (31, true)), .fa (.t 1) 3⟩,
  ⟨(some 33), (some (31, true)), .ld none (.t 32)⟩,
  ⟨(some 34), (some (31, true)), .bin false .geq (.t 33) (.c (.i .i64 1))⟩,
  ⟨(some 35), none, .pick (.t 31) (.t 34) (.c (.b false))⟩,
  ⟨(some 36), none, .mv (.t 35)⟩,
  ⟨(some 37), (some (36, true)), .fa (.t 1) 3⟩,
  ⟨(some 38), (some (36, true)), .ld none (.t 37)⟩,
  ⟨(some 39), (some (36, true)), .bin false .leq (.t 38) (.c (.i .i64 9))⟩,
  ⟨(some 40), none, .pick (.t 36) (.t 39) (.c (.b false))⟩,
  ⟨(some 2), none, .mv (.t 40)⟩]
abbrev c48 : AC := (.seq (.reg c48r0) (.seq (.reg c48r1) .ret))
def q48 : List ARes := [.t 2]
theorem fn48 : fnOf Try.prog 48 = some (c48, q48, 41) := by kernel_rfl

/-! 49: pantoscope/temple.asked · slots 13 · [0 l, 1 tol, 2 l, 3 tol] -/
def c49r0 : List AOper := [
  ⟨(some 4), none, .mv (.c (.i .i64 0))⟩]
def c49r1 : List AOper := [
  ⟨(some 6), none, .mv (.t 0)⟩,
  ⟨(some 7), none, .call (.c (.fn 27 [] [])) [(.t 6)]⟩,
  ⟨(some 8), none, .not (.t 7)⟩,
  ⟨(some 5), none, .mv (.t 8)⟩]
def c49r2 : List AOper := [
  ⟨(some 4), none, .mv (.c (.i .i64 40))⟩]
def c49r3 : List AOper := [
  ⟨(some 10), none, .mv (.t 1)⟩,
  ⟨(some 11), none, .call (.c (.fn 71 [] [])) [(.c (.i .i64 0)), (.t 10), (.c (.i .i64 1000))]⟩,
  ⟨(some 12), none, .not (.t 11)⟩,
  ⟨(some 9), none, .mv (.t 12)⟩]
def c49r4 : List AOper := [
  ⟨(some 4), none, .mv (.c (.i .i64 2))⟩]
def c49r5 : List AOper := [
  ⟨(some 4), none, .mv (.c (.i .i64 0))⟩]
abbrev c49 : AC := (.seq (.reg c49r0) (.seq (.blk 0 (.seq (.reg c49r1) (.cond (.t 5) (.seq (.reg c49r2) .ret) (.seq (.reg c49r3) (.cond (.t 9) (.seq (.reg c49r4) .ret) .skip))))) (.seq (.reg c49r5) .ret)))
def q49 : List ARes := [.t 4]
theorem fn49 : fnOf Try.prog 49 = some (c49, q49, 13) := by kernel_rfl

/-! 50: pantoscope/temple.match · slots 72 · [0 l, 1 tol, 2 l, 3 tol, 5 out, 6 colour, 7 left, 8 right, 9 a, 10 b] -/
def c50r0 : List AOper := [
  ⟨(some 4), none, .mv (.c (.sl 0 0 0 0))⟩]
def c50r1 : List AOper := [
  ⟨(some 5), none, .mv (.c (.sl 0 0 0 0))⟩]
def c50r2 : List AOper := [
  ⟨(some 6), none, .mv (.c (.i .i64 1))⟩]
def c50r3 : List AOper := [
  ⟨(some 11), none, .mv (.t 6)⟩,
  ⟨(some 12), none, .bin false .leq (.t 11) (.c (.i .i64 9))⟩]
def c50r4 : List AOper := [
  ⟨(some 15), none, .mv (.t 0)⟩,
  ⟨(some 16), none, .mv (.t 6)⟩,
  ⟨(some 17), none, .call (.c (.fn 74 [] [])) [(.t 15), (.c (.i .i64 1)), (.t 16)]⟩,
  ⟨(some 18), none, .mv (.t 0)⟩,
  ⟨(some 19), none, .mv (.t 6)⟩,
  ⟨(some 20), none, .call (.c (.fn 74 [] [])) [(.t 18), (.c (.i .i64 2)), (.t 19)]⟩,
  ⟨(some 7), none, .mv (.t 17)⟩,
  ⟨(some 8), none, .mv (.t 20)⟩]
def c50r5 : List AOper := [
  ⟨(some 21), none, .mv (.t 7)⟩,
  ⟨(some 22), none, .len (.t 21)⟩,
  ⟨(some 23), none, .bin false .gtr (.t 22) (.c (.i .i64 0))⟩,
  ⟨(some 24), none, .mv (.t 23)⟩,
  ⟨(some 25), (some (24, true)), .mv (.t 8)⟩,
  ⟨(some 26), (some (24, true)), .len (.t 25)⟩,
  ⟨(some 27), (some (24, true)), .bin false .gtr (.t 26) (.c (.i .i64 0))⟩,
  ⟨(some 28), none, .pick (.t 24) (.t 27) (.c (.b false))⟩]
def c50r6 : List AOper := [
  ⟨(some 29), none, .mv (.t 0)⟩,
  ⟨(some 30), none, .mv (.t 7)⟩,
  ⟨(some 31), none, .ia 1 (.t 30) (.c (.i .i64 0))⟩,
  ⟨(some 32), none, .ld none (.t 31)⟩,
  ⟨(some 33), none, .ia 4 (.t 29) (.t 32)⟩,
  ⟨(some 34), none, .ld (some 4) (.t 33)⟩,
  ⟨(some 35), none, .mv (.t 0)⟩,
  ⟨(some 36), none, .mv (.t 8)⟩,
  ⟨(some 37), none, .ia 1 (.t 36) (.c (.i .i64 0))⟩,
  ⟨(some 38), none, .ld none (.t 37)⟩,
  ⟨(some 39), none, .ia 4 (.t 35) (.t 38)⟩,
  ⟨(some 40), none, .ld (some 4) (.t 39)⟩,
  ⟨(some 9), none, .alloc [.i .i64 0, .i .i64 0, .i .i64 0, .i .i64 0]⟩,
  ⟨(some 10), none, .alloc [.i .i64 0, .i .i64 0, .i .i64 0, .i .i64 0]⟩,
  ⟨none, none, .sto (some 4) (.t 9) (.t 34)⟩,
  ⟨none, none, .sto (some 4) (.t 10) (.t 40)⟩]
def c50r7 : List AOper := [
  ⟨(some 44), none, .ld (some 4) (.t 9)⟩,
  ⟨(some 45), none, .ld (some 4) (.t 10)⟩,
  ⟨(some 46), none, .call (.c (.fn 60 [] [])) [(.t 44), (.t 45)]⟩,
  ⟨(some 47), none, .mv (.t 1)⟩,
  ⟨(some 48), none, .bin false .leq (.t 46) (.t 47)⟩,
  ⟨(some 43), none, .mv (.t 48)⟩]
def c50r8 : List AOper := [
  ⟨(some 49), none, .mv (.t 5)⟩,
  ⟨(some 50), none, .mv (.t 7)⟩,
  ⟨(some 51), none, .ia 1 (.t 50) (.c (.i .i64 0))⟩,
  ⟨(some 52), none, .ld none (.t 51)⟩,
  ⟨(some 53), none, .mv (.t 8)⟩,
  ⟨(some 54), none, .ia 1 (.t 53) (.c (.i .i64 0))⟩,
  ⟨(some 55), none, .ld none (.t 54)⟩,
  ⟨(some 56), none, .bld [.i .i64 0, .i .i64 0] [(0, 1, (.t 52)), (1, 1, (.t 55))]⟩,
  ⟨(some 57), none, .bsl 2 [.i .i64 0, .i .i64 0] [(0, 2, (.t 56))]⟩,
  ⟨(some 58), none, .app 2 16 (.t 49) (.t 57)⟩,
  ⟨(some 5), none, .mv (.t 58)⟩]
def c50r9 : List AOper := [
  ⟨(some 59), none, .mv (.t 7)⟩,
  ⟨(some 60), none, .sli 1 (.t 59) (some (.c (.i .i64 1))) none⟩,
  ⟨(some 61), none, .mv (.t 8)⟩,
  ⟨(some 62), none, .sli 1 (.t 61) (some (.c (.i .i64 1))) none⟩,
  ⟨(some 7), none, .mv (.t 60)⟩,
  ⟨(some 8), none, .mv (.t 62)⟩]
def c50r10 : List AOper := [
  ⟨(some 64), none, .fa (.t 9) 2⟩,
  ⟨(some 65), none, .ld none (.t 64)⟩,
  ⟨(some 66), none, .fa (.t 10) 2⟩,
  ⟨(some 67), none, .ld none (.t 66)⟩,
  ⟨(some 68), none, .bin false .lss (.t 65) (.t 67)⟩,
  ⟨(some 63), none, .mv (.t 68)⟩]
def c50r11 : List AOper := [
  ⟨(some 69), none, .mv (.t 7)⟩,
  ⟨(some 70), none, .sli 1 (.t 69) (some (.c (.i .i64 1))) none⟩,
  ⟨(some 7), none, .mv (.t 70)⟩]
def c50r12 : List AOper := [
  ⟨(some 41), none, .mv (.t 8)⟩,
  ⟨(some 42), none, .sli 1 (.t 41) (some (.c (.i .i64 1))) none⟩,
  ⟨(some 8), none, .mv (.t 42)⟩]
abbrev c50b13 : AC := (.seq (.seq (.reg c50r5) (.cond (.t 28) .skip (.exit 2))) (.blk 3 (.seq (.head 15 c50r6) (.blk 4 (.seq (.reg c50r7) (.cond (.t 43) (.seq (.head 9 c50r8) (.head 5 c50r9)) (.seq (.reg c50r10) (.cond (.t 63) (.reg c50r11) (.reg c50r12)))))))))
def c50r14 : List AOper := [
  ⟨(some 13), none, .mv (.t 6)⟩,
  ⟨(some 14), none, .bin false .add (.t 13) (.c (.i .i64 1))⟩,
  ⟨(some 6), none, .mv (.t 14)⟩]
abbrev c50b15 : AC := (.seq (.seq (.reg c50r3) (.cond (.t 12) .skip (.exit 0))) (.seq (.blk 1 (.seq (.reg c50r4) (.blk 2 (.loop c50b13)))) (.reg c50r14)))
def c50r16 : List AOper := [
  ⟨(some 71), none, .mv (.t 5)⟩,
  ⟨(some 4), none, .mv (.t 71)⟩]
abbrev c50 : AC := (.seq (.reg c50r0) (.seq (.reg c50r1) (.seq (.seq (.reg c50r2) (.blk 0 (.loop c50b15))) (.seq (.reg c50r16) .ret))))
def q50 : List ARes := [.t 4]
theorem fn50 : fnOf Try.prog 50 = some (c50, q50, 72) := by kernel_rfl

/-! 51: pantoscope/temple.Guard$1 · slots 56 · [0 left, 6 left, 7 k, 8 back, 9 ok] -/
def c51r0 : List AOper := [
  ⟨(some 10), none, .ld none (.t 1)⟩,
  ⟨(some 11), none, .mv (.t 0)⟩,
  ⟨(some 12), none, .ia 1 (.t 10) (.t 11)⟩,
  ⟨none, none, .sto none (.t 12) (.c (.b true))⟩]
def c51r1 : List AOper := [
  ⟨(some 13), none, .ld none (.t 2)⟩,
  ⟨(some 14), none, .len (.t 13)⟩,
  ⟨(some 15), none, .mv (.c (.i .i64 0))⟩]
def c51r2 : List AOper := [
  ⟨(some 16), none, .bin false .lss (.t 15) (.t 14)⟩]
def c51r3 : List AOper := [
  ⟨(some 17), none, .mv (.t 15)⟩,
  ⟨(some 7), none, .mv (.t 17)⟩]
def c51r4 : List AOper := [
  ⟨(some 18), none, .ld none (.t 1)⟩,
  ⟨(some 19), none, .mv (.t 7)⟩,
  ⟨(some 20), none, .ia 1 (.t 18) (.t 19)⟩,
  ⟨(some 21), none, .ld none (.t 20)⟩,
  ⟨(some 22), none, .mv (.t 21)⟩,
  ⟨(some 23), (some (22, false)), .ld none (.t 2)⟩,
  ⟨(some 24), (some (22, false)), .mv (.t 0)⟩,
  ⟨(some 25), (some (22, false)), .ia 4 (.t 23) (.t 24)⟩,
  ⟨(some 26), (some (22, false)), .ld (some 4) (.t 25)⟩,
  ⟨(some 27), (some (22, false)), .ld none (.t 2)⟩,
  ⟨(some 28), (some (22, false)), .mv (.t 7)⟩,
  ⟨(some 29), (some (22, false)), .ia 4 (.t 27) (.t 28)⟩,
  ⟨(some 30), (some (22, false)), .ld (some 4) (.t 29)⟩,
  ⟨(some 31), (some (22, false)), .ld none (.t 3)⟩,
  ⟨(some 32), (some (22, false)), .call (.c (.fn 52 [] [])) [(.t 26), (.t 30), (.t 31)]⟩,
  ⟨(some 33), (some (22, false)), .not (.t 32)⟩,
  ⟨(some 34), none, .pick (.t 22) (.c (.b true)) (.t 33)⟩]
def c51r5 : List AOper := [
  ⟨(some 35), none, .ld none (.t 1)⟩,
  ⟨(some 36), none, .mv (.t 7)⟩,
  ⟨(some 37), none, .ia 1 (.t 35) (.t 36)⟩,
  ⟨none, none, .sto none (.t 37) (.c (.b true))⟩]
def c51r6 : List AOper := [
  ⟨(some 39), none, .ld none (.t 4)⟩,
  ⟨(some 40), none, .mv (.t 7)⟩,
  ⟨(some 41), none, .mlk none (.i .i64 0) true (.t 39) (.t 40)⟩,
  ⟨(some 38), none, .mv (.t 41)⟩,
  ⟨(some 42), none, .ext (.t 38) 0⟩,
  ⟨(some 43), none, .ext (.t 38) 1⟩,
  ⟨(some 8), none, .mv (.t 42)⟩,
  ⟨(some 9), none, .mv (.t 43)⟩]
def c51r7 : List AOper := [
  ⟨(some 44), none, .mv (.t 9)⟩,
  ⟨(some 45), none, .mv (.t 44)⟩,
  ⟨(some 46), (some (45, true)), .ld none (.t 1)⟩,
  ⟨(some 47), (some (45, true)), .mv (.t 8)⟩,
  ⟨(some 48), (some (45, true)), .ia 1 (.t 46) (.t 47)⟩,
  ⟨(some 49), (some (45, true)), .ld none (.t 48)⟩,
  ⟨(some 50), (some (45, true)), .not (.t 49)⟩,
  ⟨(some 51), none, .pick (.t 45) (.t 50) (.c (.b false))⟩]
def c51r8 : List AOper := [
  ⟨(some 52), none, .ld none (.t 5)⟩,
  ⟨(some 53), none, .mv (.t 8)⟩,
  ⟨(some 54), none, .call (.t 52) [(.t 53)]⟩]
def c51r9 : List AOper := [
  ⟨(some 55), none, .bin false .add (.t 15) (.c (.i .i64 1))⟩,
  ⟨(some 15), none, .mv (.t 55)⟩]
abbrev c51b10 : AC := (.seq (.reg c51r2) (.seq (.cond (.t 16) .skip (.exit 0)) (.seq (.blk 1 (.seq (.reg c51r3) (.seq (.seq (.head 14 c51r4) (.cond (.t 34) (.exit 1) .skip)) (.seq (.reg c51r5) (.seq (.reg c51r6) (.seq (.reg c51r7) (.cond (.t 51) (.reg c51r8) .skip))))))) (.reg c51r9))))
abbrev c51 : AC := (.seq (.reg c51r0) (.seq (.reg c51r1) (.blk 0 (.loop c51b10))))
def q51 : List ARes := []
theorem fn51 : fnOf Try.prog 51 = some (c51, q51, 56) := by kernel_rfl

/-! 52: pantoscope/temple.can · slots 17 · [0 a, 1 b, 2 tol, 3 a, 4 b, 5 tol] -/
def c52r0 : List AOper := [
  ⟨(some 3), none, .box (.t 0)⟩,
  ⟨(some 4), none, .box (.t 1)⟩,
  ⟨(some 6), none, .mv (.c (.b false))⟩]
def c52r1 : List AOper := [
  ⟨(some 7), none, .ld (some 4) (.t 3)⟩,
  ⟨(some 8), none, .ld (some 4) (.t 4)⟩,
  ⟨(some 9), none, .call (.c (.fn 59 [] [])) [(.t 7), (.t 8)]⟩,
  ⟨(some 10), none, .mv (.t 9)⟩,
  ⟨(some 11), (some (10, true)), .ld (some 4) (.t 3)⟩,
  ⟨(some 12), (some (10, true)), .ld (some 4) (.t 4)⟩,
  ⟨(some 13), (some (10, true)), .call (.c (.fn 60 [] [])) [(.t 11), (.t 12)]⟩,
  ⟨(some 14), (some (10, true)), .mv (.t 2)⟩,
  ⟨(some 15), (some (10, true)), .bin false .leq (.t 13) (.t 14)⟩,
  ⟨(some 16), none, .pick (.t 10) (.t 15) (.c (.b false))⟩,
  ⟨(some 6), none, .mv (.t 16)⟩]
abbrev c52 : AC := (.seq (.reg c52r0) (.seq (.reg c52r1) .ret))
def q52 : List ARes := [.t 6]
theorem fn52 : fnOf Try.prog 52 = some (c52, q52, 17) := by kernel_rfl

/-! 53: pantoscope/pantoscoperef04.tolerated · slots 9 · [0 tol, 1 tol] -/
def c53r0 : List AOper := [
  ⟨(some 2), none, .mv (.c (.b false))⟩]
def c53r1 : List AOper := [
  ⟨(some 3), none, .mv (.t 0)⟩,
  ⟨(some 4), none, .bin false .geq (.t 3) (.c (.i .i64 0))⟩,
  ⟨(some 5), none, .mv (.t 4)⟩,
  ⟨(some 6), (some (5, true)), .mv (.t 0)⟩,
  ⟨(some 7), (some (5, true)), .bin false .leq (.t 6) (.c (.i .i64 1000))⟩,
  ⟨(some 8), none, .pick (.t 5) (.t 7) (.c (.b false))⟩,
  ⟨(some 2), none, .mv (.t 8)⟩]
abbrev c53 : AC := (.seq (.reg c53r0) (.seq (.reg c53r1) .ret))
def q53 : List ARes := [.t 2]
theorem fn53 : fnOf Try.prog 53 = some (c53, q53, 9) := by kernel_rfl

/-! 54: pantoscope/pantoscoperef04.judged · slots 103 · [0 l, 1 tol, 2 pairs, 3 l, 4 tol, 5 pairs, 7 i, 8 used, 9 i, 10 p, 11 q] -/
def c54r0 : List AOper := [
  ⟨(some 6), none, .mv (.c (.i .i64 0))⟩]
def c54r1 : List AOper := [
  ⟨(some 7), none, .mv (.c (.i .i64 0))⟩]
def c54r2 : List AOper := [
  ⟨(some 12), none, .mv (.t 7)⟩,
  ⟨(some 13), none, .mv (.t 2)⟩,
  ⟨(some 14), none, .len (.t 13)⟩,
  ⟨(some 15), none, .bin false .lss (.t 12) (.t 14)⟩]
def c54r3 : List AOper := [
  ⟨(some 18), none, .mv (.t 0)⟩,
  ⟨(some 19), none, .mv (.t 2)⟩,
  ⟨(some 20), none, .mv (.t 7)⟩,
  ⟨(some 21), none, .ia 2 (.t 19) (.t 20)⟩,
  ⟨(some 22), none, .iap 2 1 (.t 21) (.c (.i .i64 0))⟩,
  ⟨(some 23), none, .ld none (.t 22)⟩,
  ⟨(some 24), none, .call (.c (.fn 56 [] [])) [(.t 18), (.t 23)]⟩,
  ⟨(some 25), none, .not (.t 24)⟩,
  ⟨(some 26), none, .mv (.t 25)⟩,
  ⟨(some 27), (some (26, false)), .mv (.t 0)⟩,
  ⟨(some 28), (some (26, false)), .mv (.t 2)⟩,
  ⟨(some 29), (some (26, false)), .mv (.t 7)⟩,
  ⟨(some 30), (some (26, false)), .ia 2 (.t 28) (.t 29)⟩,
  ⟨(some 31), (some (26, false)), .iap 2 1 (.t 30) (.c (.i .i64 1))⟩,
  ⟨(some 32), (some (26, false)), .ld none (.t 31)⟩,
  ⟨(some 33), (some (26, false)), .call (.c (.fn 56 [] [])) [(.t 27), (.t 32)]⟩,
  ⟨(some 34), (some (26, false)), .not (.t 33)⟩,
  ⟨(some 35), none, .pick (.t 26) (.c (.b true)) (.t 34)⟩]
def c54r4 : List AOper := [
  ⟨(some 6), none, .mv (.c (.i .i64 2))⟩]
def c54r5 : List AOper := [
  ⟨(some 16), none, .mv (.t 7)⟩,
  ⟨(some 17), none, .bin false .add (.t 16) (.c (.i .i64 1))⟩,
  ⟨(some 7), none, .mv (.t 17)⟩]
abbrev c54b6 : AC := (.seq (.seq (.reg c54r2) (.cond (.t 15) .skip (.exit 0))) (.seq (.blk 1 (.seq (.reg c54r3) (.cond (.t 35) (.seq (.reg c54r4) .ret) .skip))) (.reg c54r5)))
def c54r7 : List AOper := [
  ⟨(some 36), none, .mv (.t 0)⟩,
  ⟨(some 37), none, .len (.t 36)⟩,
  ⟨(some 38), none, .mks 1 1 [.b false] (.t 37) (.t 37)⟩,
  ⟨(some 8), none, .mv (.t 38)⟩]
def c54r8 : List AOper := [
  ⟨(some 9), none, .mv (.c (.i .i64 0))⟩]
def c54r9 : List AOper := [
  ⟨(some 39), none, .mv (.t 9)⟩,
  ⟨(some 40), none, .mv (.t 2)⟩,
  ⟨(some 41), none, .len (.t 40)⟩,
  ⟨(some 42), none, .bin false .lss (.t 39) (.t 41)⟩]
def c54r10 : List AOper := [
  ⟨(some 45), none, .mv (.t 2)⟩,
  ⟨(some 46), none, .mv (.t 9)⟩,
  ⟨(some 47), none, .ia 2 (.t 45) (.t 46)⟩,
  ⟨(some 48), none, .iap 2 1 (.t 47) (.c (.i .i64 0))⟩,
  ⟨(some 49), none, .ld none (.t 48)⟩,
  ⟨(some 50), none, .mv (.t 2)⟩,
  ⟨(some 51), none, .mv (.t 9)⟩,
  ⟨(some 52), none, .ia 2 (.t 50) (.t 51)⟩,
  ⟨(some 53), none, .iap 2 1 (.t 52) (.c (.i .i64 1))⟩,
  ⟨(some 54), none, .ld none (.t 53)⟩,
  ⟨(some 10), none, .mv (.t 49)⟩,
  ⟨(some 11), none, .mv (.t 54)⟩]
def c54r11 : List AOper := [
  ⟨(some 55), none, .mv (.t 8)⟩,
  ⟨(some 56), none, .mv (.t 10)⟩,
  ⟨(some 57), none, .ia 1 (.t 55) (.t 56)⟩,
  ⟨(some 58), none, .ld none (.t 57)⟩,
  ⟨(some 59), none, .mv (.t 58)⟩,
  ⟨(some 60), (some (59, false)), .mv (.t 8)⟩,
  ⟨(some 61), (some (59, false)), .mv (.t 11)⟩,
  ⟨(some 62), (some (59, false)), .ia 1 (.t 60) (.t 61)⟩,
  ⟨(some 63), (some (59, false)), .ld none (.t 62)⟩,
  ⟨(some 64), none, .pick (.t 59) (.c (.b true)) (.t 63)⟩,
  ⟨(some 65), none, .mv (.t 64)⟩,
  ⟨(some 66), (some (65, false)), .mv (.t 10)⟩,
  ⟨(some 67), (some (65, false)), .mv (.t 11)⟩,
  ⟨(some 68), (some (65, false)), .bin false .eql (.t 66) (.t 67)⟩,
  ⟨(some 69), none, .pick (.t 65) (.c (.b true)) (.t 68)⟩]
def c54r12 : List AOper := [
  ⟨(some 6), none, .mv (.c (.i .i64 43))⟩]
def c54r13 : List AOper := [
  ⟨(some 70), none, .mv (.t 8)⟩,
  ⟨(some 71), none, .mv (.t 10)⟩,
  ⟨(some 72), none, .mv (.t 8)⟩,
  ⟨(some 73), none, .mv (.t 11)⟩,
  ⟨(some 74), none, .ia 1 (.t 70) (.t 71)⟩,
  ⟨none, none, .sto none (.t 74) (.c (.b true))⟩,
  ⟨(some 75), none, .ia 1 (.t 72) (.t 73)⟩,
  ⟨none, none, .sto none (.t 75) (.c (.b true))⟩]
def c54r14 : List AOper := [
  ⟨(some 76), none, .mv (.t 0)⟩,
  ⟨(some 77), none, .mv (.t 10)⟩,
  ⟨(some 78), none, .ia 4 (.t 76) (.t 77)⟩,
  ⟨(some 79), none, .fa (.t 78) 1⟩,
  ⟨(some 80), none, .ld none (.t 79)⟩,
  ⟨(some 81), none, .bin false .neq (.t 80) (.c (.i .i64 1))⟩,
  ⟨(some 82), none, .mv (.t 81)⟩,
  ⟨(some 83), (some (82, false)), .mv (.t 0)⟩,
  ⟨(some 84), (some (82, false)), .mv (.t 11)⟩,
  ⟨(some 85), (some (82, false)), .ia 4 (.t 83) (.t 84)⟩,
  ⟨(some 86), (some (82, false)), .fa (.t 85) 1⟩,
  ⟨(some 87), (some (82, false)), .ld none (.t 86)⟩,
  ⟨(some 88), (some (82, false)), .bin false .neq (.t 87) (.c (.i .i64 2))⟩,
  ⟨(some 89), none, .pick (.t 82) (.c (.b true)) (.t 88)⟩,
  ⟨(some 90), none, .mv (.t 89)⟩,
  ⟨(some 91), (some (90, false)), .mv (.t 0)⟩,
  ⟨(some 92), (some (90, false)), .mv (.t 10)⟩,
  ⟨(some 93), (some (90, false)), .ia 4 (.t 91) (.t 92)⟩,
  ⟨(some 94), (some (90, false)), .ld (some 4) (.t 93)⟩,
  ⟨(some 95), (some (90, false)), .mv (.t 0)⟩,
  ⟨(some 96), (some (90, false)), .mv (.t 11)⟩,
  ⟨(some 97), (some (90, false)), .ia 4 (.t 95) (.t 96)⟩,
  ⟨(some 98), (some (90, false)), .ld (some 4) (.t 97)⟩,
  ⟨(some 99), (some (90, false)), .mv (.t 1)⟩,
  ⟨(some 100), (some (90, false)), .call (.c (.fn 57 [] [])) [(.t 94), (.t 98), (.t 99)]⟩,
  ⟨(some 101), (some (90, false)), .not (.t 100)⟩,
  ⟨(some 102), none, .pick (.t 90) (.c (.b true)) (.t 101)⟩]
def c54r15 : List AOper := [
  ⟨(some 6), none, .mv (.c (.i .i64 42))⟩]
def c54r16 : List AOper := [
  ⟨(some 43), none, .mv (.t 9)⟩,
  ⟨(some 44), none, .bin false .add (.t 43) (.c (.i .i64 1))⟩,
  ⟨(some 9), none, .mv (.t 44)⟩]
abbrev c54b17 : AC := (.seq (.seq (.reg c54r9) (.cond (.t 42) .skip (.exit 2))) (.seq (.blk 3 (.seq (.head 11 c54r10) (.seq (.seq (.reg c54r11) (.cond (.t 69) (.seq (.reg c54r12) .ret) .skip)) (.seq (.reg c54r13) (.seq (.head 24 c54r14) (.cond (.t 102) (.seq (.reg c54r15) .ret) .skip)))))) (.reg c54r16)))
def c54r18 : List AOper := [
  ⟨(some 6), none, .mv (.c (.i .i64 0))⟩]
abbrev c54 : AC := (.seq (.reg c54r0) (.seq (.seq (.reg c54r1) (.blk 0 (.loop c54b6))) (.seq (.reg c54r7) (.seq (.seq (.reg c54r8) (.blk 2 (.loop c54b17))) (.seq (.reg c54r18) .ret)))))
def q54 : List ARes := [.t 6]
theorem fn54 : fnOf Try.prog 54 = some (c54, q54, 103) := by kernel_rfl

/-! 55: pantoscope/pantoscoperef04.asked · slots 11 · [0 l, 1 tol, 2 l, 3 tol] -/
def c55r0 : List AOper := [
  ⟨(some 4), none, .mv (.c (.i .i64 0))⟩]
def c55r1 : List AOper := [
  ⟨(some 5), none, .mv (.t 0)⟩,
  ⟨(some 6), none, .call (.c (.fn 14 [] [])) [(.t 5)]⟩,
  ⟨(some 7), none, .not (.t 6)⟩]
def c55r2 : List AOper := [
  ⟨(some 4), none, .mv (.c (.i .i64 40))⟩]
def c55r3 : List AOper := [
  ⟨(some 8), none, .mv (.t 1)⟩,
  ⟨(some 9), none, .call (.c (.fn 53 [] [])) [(.t 8)]⟩,
  ⟨(some 10), none, .not (.t 9)⟩]
def c55r4 : List AOper := [
  ⟨(some 4), none, .mv (.c (.i .i64 2))⟩]
def c55r5 : List AOper := [
  ⟨(some 4), none, .mv (.c (.i .i64 0))⟩]
abbrev c55 : AC := (.seq (.reg c55r0) (.seq (.seq (.reg c55r1) (.cond (.t 7) (.seq (.reg c55r2) .ret) .skip)) (.seq (.seq (.reg c55r3) (.cond (.t 10) (.seq (.reg c55r4) .ret) .skip)) (.seq (.reg c55r5) .ret))))
def q55 : List ARes := [.t 4]
theorem fn55 : fnOf Try.prog 55 = some (c55, q55, 11) := by kernel_rfl

/-! 56: pantoscope/pantoscoperef04.isIndex · slots 13 · [0 l, 1 i, 2 l, 3 i] -/
def c56r0 : List AOper := [
  ⟨(some 4), none, .mv (.c (.b false))⟩]
def c56r1 : List AOper := [
  ⟨(some 5), none, .mv (.t 1)⟩,
  ⟨(some 6), none, .bin false .geq (.t 5) (.c (.i .i64 0))⟩,
  ⟨(some 7), none, .mv (.t 6)⟩,
  ⟨(some 8), (some (7, true)), .mv (.t 1)⟩,
  ⟨(some 9), (some (7, true)), .mv (.t 0)⟩,
  ⟨(some 10), (some (7, true)), .len (.t 9)⟩,
  ⟨(some 11), (some (7, true)), .bin false .lss (.t 8) (.t 10)⟩,
  ⟨(some 12), none, .pick (.t 7) (.t 11) (.c (.b false))⟩,
  ⟨(some 4), none, .mv (.t 12)⟩]
abbrev c56 : AC := (.seq (.reg c56r0) (.seq (.reg c56r1) .ret))
def q56 : List ARes := [.t 4]
theorem fn56 : fnOf Try.prog 56 = some (c56, q56, 13) := by kernel_rfl

/-! 57: pantoscope/pantoscoperef04.can · slots 26 · [0 a, 1 b, 2 tol, 3 a, 4 b, 5 tol] -/
def c57r0 : List AOper := [
  ⟨(some 3), none, .box (.t 0)⟩,
  ⟨(some 4), none, .box (.t 1)⟩,
  ⟨(some 6), none, .mv (.c (.b false))⟩]
def c57r1 : List AOper := [
  ⟨(some 7), none, .fa (.t 3) 1⟩,
  ⟨(some 8), none, .ld none (.t 7)⟩,
  ⟨(some 9), none, .fa (.t 4) 1⟩,
  ⟨(some 10), none, .ld none (.t 9)⟩,
  ⟨(some 11), none, .bin false .neq (.t 8) (.t 10)⟩,
  ⟨(some 12), none, .mv (.t 11)⟩,
  ⟨(some 13), (some (12, true)), .fa (.t 3) 3⟩,
  ⟨(some 14), (some (12, true)), .ld none (.t 13)⟩,
  ⟨(some 15), (some (12, true)), .fa (.t 4) 3⟩,
  ⟨(some 16), (some (12, true)), .ld none (.t 15)⟩,
  ⟨(some 17), (some (12, true)), .bin false .eql (.t 14) (.t 16)⟩,
  ⟨(some 18), none, .pick (.t 12) (.t 17) (.c (.b false))⟩,
  ⟨(some 19), none, .mv (.t 18)⟩,
  ⟨(some 20), (some (19, true)), .ld (some 4) (.t 3)⟩,
  ⟨(some 21), (some (19, true)), .ld (some 4) (.t 4)⟩,
  ⟨(some 22), (some (19, true)), .call (.c (.fn 68 [] [])) [(.t 20), (.t 21)]⟩,
  ⟨(some 23), (some (19, true)), .mv (.t 2)⟩,
  ⟨(some 24), (some (19, true)), .bin false .leq (.t 22) (.t 23)⟩,
  ⟨(some 25), none, .pick (.t 19) (.t 24) (.c (.b false))⟩,
  ⟨(some 6), none, .mv (.t 25)⟩]
abbrev c57 : AC := (.seq (.reg c57r0) (.seq (.reg c57r1) .ret))
def q57 : List ARes := [.t 6]
theorem fn57 : fnOf Try.prog 57 = some (c57, q57, 26) := by kernel_rfl

/-! 58: pantoscope/temple.judged · slots 88 · [0 l, 1 pairs, 2 good, 3 l, 4 pairs, 5 good, 7 _, 8 p, 9 had, 10 _, 11 p, 12 a, 13 b] -/
def c58r0 : List AOper := [
  ⟨(some 6), none, .mv (.c (.i .i64 0))⟩]
def c58r1 : List AOper := [
  ⟨(some 14), none, .mv (.t 1)⟩,
  ⟨(some 15), none, .len (.t 14)⟩,
  ⟨(some 16), none, .mv (.c (.i .i64 0))⟩]
def c58r2 : List AOper := [
  ⟨(some 17), none, .bin false .lss (.t 16) (.t 15)⟩]
def c58r3 : List AOper := [
  ⟨(some 18), none, .ia 2 (.t 14) (.t 16)⟩,
  ⟨(some 19), none, .ld (some 2) (.t 18)⟩,
  ⟨(some 8), none, .alloc [.i .i64 0, .i .i64 0]⟩,
  ⟨none, none, .sto (some 2) (.t 8) (.t 19)⟩]
def c58r4 : List AOper := [
  ⟨(some 20), none, .iap 2 1 (.t 8) (.c (.i .i64 0))⟩,
  ⟨(some 21), none, .ld none (.t 20)⟩,
  ⟨(some 22), none, .mv (.t 0)⟩,
  ⟨(some 23), none, .len (.t 22)⟩,
  ⟨(some 24), none, .bin false .sub (.t 23) (.c (.i .i64 1))⟩,
  ⟨(some 25), none, .call (.c (.fn 71 [] [])) [(.c (.i .i64 0)), (.t 21), (.t 24)]⟩,
  ⟨(some 26), none, .not (.t 25)⟩,
  ⟨(some 27), none, .mv (.t 26)⟩,
  ⟨(some 28), (some (27, false)), .iap 2 1 (.t 8) (.c (.i .i64 1))⟩,
  ⟨(some 29), (some (27, false)), .ld none (.t 28)⟩,
  ⟨(some 30), (some (27, false)), .mv (.t 0)⟩,
  ⟨(some 31), (some (27, false)), .len (.t 30)⟩,
  ⟨(some 32), (some (27, false)), .bin false .sub (.t 31) (.c (.i .i64 1))⟩,
  ⟨(some 33), (some (27, false)), .call (.c (.fn 71 [] [])) [(.c (.i .i64 0)), (.t 29), (.t 32)]⟩,
  ⟨(some 34), (some (27, false)), .not (.t 33)⟩,
  ⟨(some 35), none, .pick (.t 27) (.c (.b true)) (.t 34)⟩]
def c58r5 : List AOper := [
  ⟨(some 6), none, .mv (.c (.i .i64 2))⟩]
def c58r6 : List AOper := [
  ⟨(some 36), none, .bin false .add (.t 16) (.c (.i .i64 1))⟩,
  ⟨(some 16), none, .mv (.t 36)⟩]
abbrev c58b7 : AC := (.seq (.reg c58r2) (.seq (.cond (.t 17) .skip (.exit 0)) (.seq (.blk 1 (.seq (.reg c58r3) (.seq (.reg c58r4) (.cond (.t 35) (.seq (.reg c58r5) .ret) .skip)))) (.reg c58r6))))
def c58r8 : List AOper := [
  ⟨(some 37), none, .mkm⟩,
  ⟨(some 9), none, .mv (.t 37)⟩]
def c58r9 : List AOper := [
  ⟨(some 38), none, .mv (.t 1)⟩,
  ⟨(some 39), none, .len (.t 38)⟩,
  ⟨(some 40), none, .mv (.c (.i .i64 0))⟩]
def c58r10 : List AOper := [
  ⟨(some 41), none, .bin false .lss (.t 40) (.t 39)⟩]
def c58r11 : List AOper := [
  ⟨(some 42), none, .ia 2 (.t 38) (.t 40)⟩,
  ⟨(some 43), none, .ld (some 2) (.t 42)⟩,
  ⟨(some 11), none, .alloc [.i .i64 0, .i .i64 0]⟩,
  ⟨none, none, .sto (some 2) (.t 11) (.t 43)⟩]
def c58r12 : List AOper := [
  ⟨(some 44), none, .mv (.t 9)⟩,
  ⟨(some 45), none, .iap 2 1 (.t 11) (.c (.i .i64 0))⟩,
  ⟨(some 46), none, .ld none (.t 45)⟩,
  ⟨(some 47), none, .mlk none (.b false) false (.t 44) (.t 46)⟩,
  ⟨(some 48), none, .mv (.t 47)⟩,
  ⟨(some 49), (some (48, false)), .mv (.t 9)⟩,
  ⟨(some 50), (some (48, false)), .iap 2 1 (.t 11) (.c (.i .i64 1))⟩,
  ⟨(some 51), (some (48, false)), .ld none (.t 50)⟩,
  ⟨(some 52), (some (48, false)), .mlk none (.b false) false (.t 49) (.t 51)⟩,
  ⟨(some 53), none, .pick (.t 48) (.c (.b true)) (.t 52)⟩,
  ⟨(some 54), none, .mv (.t 53)⟩,
  ⟨(some 55), (some (54, false)), .iap 2 1 (.t 11) (.c (.i .i64 0))⟩,
  ⟨(some 56), (some (54, false)), .ld none (.t 55)⟩,
  ⟨(some 57), (some (54, false)), .iap 2 1 (.t 11) (.c (.i .i64 1))⟩,
  ⟨(some 58), (some (54, false)), .ld none (.t 57)⟩,
  ⟨(some 59), (some (54, false)), .bin false .eql (.t 56) (.t 58)⟩,
  ⟨(some 60), none, .pick (.t 54) (.c (.b true)) (.t 59)⟩]
def c58r13 : List AOper := [
  ⟨(some 6), none, .mv (.c (.i .i64 43))⟩]
def c58r14 : List AOper := [
  ⟨(some 61), none, .mv (.t 0)⟩,
  ⟨(some 62), none, .iap 2 1 (.t 11) (.c (.i .i64 0))⟩,
  ⟨(some 63), none, .ld none (.t 62)⟩,
  ⟨(some 64), none, .ia 4 (.t 61) (.t 63)⟩,
  ⟨(some 65), none, .ld (some 4) (.t 64)⟩,
  ⟨(some 66), none, .mv (.t 0)⟩,
  ⟨(some 67), none, .iap 2 1 (.t 11) (.c (.i .i64 1))⟩,
  ⟨(some 68), none, .ld none (.t 67)⟩,
  ⟨(some 69), none, .ia 4 (.t 66) (.t 68)⟩,
  ⟨(some 70), none, .ld (some 4) (.t 69)⟩,
  ⟨(some 12), none, .alloc [.i .i64 0, .i .i64 0, .i .i64 0, .i .i64 0]⟩,
  ⟨(some 13), none, .alloc [.i .i64 0, .i .i64 0, .i .i64 0, .i .i64 0]⟩,
  ⟨none, none, .sto (some 4) (.t 12) (.t 65)⟩,
  ⟨none, none, .sto (some 4) (.t 13) (.t 70)⟩]
def c58r15 : List AOper := [
  ⟨(some 71), none, .fa (.t 12) 1⟩,
  ⟨(some 72), none, .ld none (.t 71)⟩,
  ⟨(some 73), none, .bin false .neq (.t 72) (.c (.i .i64 1))⟩,
  ⟨(some 74), none, .mv (.t 73)⟩,
  ⟨(some 75), (some (74, false)), .mv (.t 2)⟩,
  ⟨(some 76), (some (74, false)), .ld (some 4) (.t 12)⟩,
  ⟨(some 77), (some (74, false)), .ld (some 4) (.t 13)⟩,
  ⟨(some 78), (some (74, false)), .call (.t 75) [(.t 76), (.t 77)]⟩,
  ⟨(some 79), (some (74, false)), .not (.t 78)⟩,
  ⟨(some 80), none, .pick (.t 74) (.c (.b true)) (.t 79)⟩]
def c58r16 : List AOper := [
  ⟨(some 6), none, .mv (.c (.i .i64 42))⟩]
def c58r17 : List AOper := [
  ⟨(some 81), none, .mv (.t 9)⟩,
  ⟨(some 82), none, .iap 2 1 (.t 11) (.c (.i .i64 0))⟩,
  ⟨(some 83), none, .ld none (.t 82)⟩,
  ⟨(some 84), none, .mv (.t 9)⟩,
  ⟨(some 85), none, .iap 2 1 (.t 11) (.c (.i .i64 1))⟩,
  ⟨(some 86), none, .ld none (.t 85)⟩,
  ⟨none, none, .mup none (.t 81) (.t 83) (.c (.b true))⟩,
  ⟨none, none, .mup none (.t 84) (.t 86) (.c (.b true))⟩]
def c58r18 : List AOper := [
  ⟨(some 87), none, .bin false .add (.t 40) (.c (.i .i64 1))⟩,
  ⟨(some 40), none, .mv (.t 87)⟩]
abbrev c58b19 : AC := (.seq (.reg c58r10) (.seq (.cond (.t 41) .skip (.exit 2)) (.seq (.blk 3 (.seq (.reg c58r11) (.seq (.seq (.reg c58r12) (.cond (.t 60) (.seq (.reg c58r13) .ret) .skip)) (.seq (.head 13 c58r14) (.seq (.seq (.reg c58r15) (.cond (.t 80) (.seq (.reg c58r16) .ret) .skip)) (.head 7 c58r17)))))) (.reg c58r18))))
def c58r20 : List AOper := [
  ⟨(some 6), none, .mv (.c (.i .i64 0))⟩]
abbrev c58 : AC := (.seq (.reg c58r0) (.seq (.seq (.reg c58r1) (.blk 0 (.loop c58b7))) (.seq (.reg c58r8) (.seq (.seq (.reg c58r9) (.blk 2 (.loop c58b19))) (.seq (.reg c58r20) .ret)))))
def q58 : List ARes := [.t 6]
theorem fn58 : fnOf Try.prog 58 = some (c58, q58, 88) := by kernel_rfl

/-! 59: pantoscope/temple.mates · slots 17 · [0 a, 1 b, 2 a, 3 b] -/
def c59r0 : List AOper := [
  ⟨(some 2), none, .box (.t 0)⟩,
  ⟨(some 3), none, .box (.t 1)⟩,
  ⟨(some 4), none, .mv (.c (.b false))⟩]
def c59r1 : List AOper := [
  ⟨(some 5), none, .fa (.t 2) 1⟩,
  ⟨(some 6), none, .ld none (.t 5)⟩,
  ⟨(some 7), none, .fa (.t 3) 1⟩,
  ⟨(some 8), none, .ld none (.t 7)⟩,
  ⟨(some 9), none, .bin false .neq (.t 6) (.t 8)⟩,
  ⟨(some 10), none, .mv (.t 9)⟩,
  ⟨(some 11), (some (10, true)), .fa (.t 2) 3⟩,
  ⟨(some 12), (some (10, true)), .ld none (.t 11)⟩,
  ⟨(some 13), (some (10, true)), .fa (.t 3) 3⟩,
  ⟨(some 14), (some (10, true)), .ld none (.t 13)⟩,
  ⟨(some 15), (some (10, true)), .bin false .eql (.t 12) (.t 14)⟩,
  ⟨(some 16), none, .pick (.t 10) (.t 15) (.c (.b false))⟩,
  ⟨(some 4), none, .mv (.t 16)⟩]
abbrev c59 : AC := (.seq (.reg c59r0) (.seq (.reg c59r1) .ret))
def q59 : List ARes := [.t 4]
theorem fn59 : fnOf Try.prog 59 = some (c59, q59, 17) := by kernel_rfl

/-! 60: pantoscope/temple.apart · slots 16 · [0 a, 1 b, 2 a, 3 b] -/
def c60r0 : List AOper := [
  ⟨(some 2), none, .box (.t 0)⟩,
  ⟨(some 3), none, .box (.t 1)⟩,
  ⟨(some 4), none, .mv (.c (.i .i64 0))⟩]
def c60r1 : List AOper := [
  ⟨(some 5), none, .fa (.t 2) 2⟩,
  ⟨(some 6), none, .ld none (.t 5)⟩,
  ⟨(some 7), none, .fa (.t 3) 2⟩,
  ⟨(some 8), none, .ld none (.t 7)⟩,
  ⟨(some 9), none, .bin false .sub (.t 6) (.t 8)⟩,
  ⟨(some 10), none, .fa (.t 3) 2⟩,
  ⟨(some 11), none, .ld none (.t 10)⟩,
  ⟨(some 12), none, .fa (.t 2) 2⟩,
  ⟨(some 13), none, .ld none (.t 12)⟩,
  ⟨(some 14), none, .bin false .sub (.t 11) (.t 13)⟩,
  ⟨(some 15), none, .mm true (.t 9) [(.t 14)]⟩,
  ⟨(some 4), none, .mv (.t 15)⟩]
abbrev c60 : AC := (.seq (.reg c60r0) (.seq (.reg c60r1) .ret))
def q60 : List ARes := [.t 4]
theorem fn60 : fnOf Try.prog 60 = some (c60, q60, 16) := by kernel_rfl

/-! 61: sort.Search · slots 26 · [0 n, 1 f, 2 n, 3 f, 5 i, 6 j, 7 h] -/
def c61r0 : List AOper := [
  ⟨(some 4), none, .mv (.c (.i .i64 0))⟩]
def c61r1 : List AOper := [
  ⟨(some 8), none, .mv (.t 0)⟩,
  ⟨(some 5), none, .mv (.c (.i .i64 0))⟩,
  ⟨(some 6), none, .mv (.t 8)⟩]
def c61r2 : List AOper := [
  ⟨(some 9), none, .mv (.t 5)⟩,
  ⟨(some 10), none, .mv (.t 6)⟩,
  ⟨(some 11), none, .bin false .lss (.t 9) (.t 10)⟩]
def c61r3 : List AOper := [
  ⟨(some 12), none, .mv (.t 5)⟩,
  ⟨(some 13), none, .mv (.t 6)⟩,
  ⟨(some 14), none, .bin false .add (.t 12) (.t 13)⟩,
  ⟨(some 15), none, .conv .u64 (.t 14)⟩,
  ⟨(some 16), none, .bin false .shr (.t 15) (.c (.i .u64 1))⟩,
  ⟨(some 17), none, .conv .i64 (.t 16)⟩,
  ⟨(some 7), none, .mv (.t 17)⟩]
def c61r4 : List AOper := [
  ⟨(some 18), none, .mv (.t 1)⟩,
  ⟨(some 19), none, .mv (.t 7)⟩,
  ⟨(some 20), none, .call (.t 18) [(.t 19)]⟩,
  ⟨(some 21), none, .not (.t 20)⟩]
def c61r5 : List AOper := [
  ⟨(some 22), none, .mv (.t 7)⟩,
  ⟨(some 23), none, .bin false .add (.t 22) (.c (.i .i64 1))⟩,
  ⟨(some 5), none, .mv (.t 23)⟩]
def c61r6 : List AOper := [
  ⟨(some 24), none, .mv (.t 7)⟩,
  ⟨(some 6), none, .mv (.t 24)⟩]
abbrev c61b7 : AC := (.seq (.seq (.reg c61r2) (.cond (.t 11) .skip (.exit 0))) (.blk 1 (.seq (.reg c61r3) (.seq (.reg c61r4) (.cond (.t 21) (.reg c61r5) (.reg c61r6))))))
def c61r8 : List AOper := [
  ⟨(some 25), none, .mv (.t 5)⟩,
  ⟨(some 4), none, .mv (.t 25)⟩]
abbrev c61 : AC := (.seq (.reg c61r0) (.seq (.reg c61r1) (.seq (.blk 0 (.loop c61b7)) (.seq (.reg c61r8) .ret))))
def q61 : List ARes := [.t 4]
theorem fn61 : fnOf Try.prog 61 = some (c61, q61, 26) := by kernel_rfl

/-! 62: pantoscope/temple.Tolerance$1 · slots 11 · [0 t, 3 t] -/
def c62r0 : List AOper := [
  ⟨(some 4), none, .mv (.c (.b false))⟩]
def c62r1 : List AOper := [
  ⟨(some 5), none, .ld none (.t 1)⟩,
  ⟨(some 6), none, .mv (.t 0)⟩,
  ⟨(some 7), none, .call (.c (.fn 50 [] [])) [(.t 5), (.t 6)]⟩,
  ⟨(some 8), none, .len (.t 7)⟩,
  ⟨(some 9), none, .ld none (.t 2)⟩,
  ⟨(some 10), none, .bin false .geq (.t 8) (.t 9)⟩,
  ⟨(some 4), none, .mv (.t 10)⟩]
abbrev c62 : AC := (.seq (.reg c62r0) (.seq (.head 5 c62r1) .ret))
def q62 : List ARes := [.t 4]
theorem fn62 : fnOf Try.prog 62 = some (c62, q62, 11) := by kernel_rfl

/-! 63: pantoscope/temple.right · slots 21 · [0 t, 1 t] -/
def c63r0 : List AOper := [
  ⟨(some 1), none, .box (.t 0)⟩,
  ⟨(some 2), none, .mv (.c (.b false))⟩]
def c63r1 : List AOper := [
  ⟨(some 3), none, .fa (.t 1) 0⟩,
  ⟨(some 4), none, .ld none (.t 3)⟩,
  ⟨(some 5), none, .call (.c (.fn 71 [] [])) [(.c (.i .i64 1)), (.t 4), (.c (.i .i64 1000000000))]⟩,
  ⟨(some 6), none, .mv (.t 5)⟩,
  ⟨(some 7), (some (6, true)), .fa (.t 1) 1⟩,
  ⟨(some 8), (some (6, true)), .ld none (.t 7)⟩,
  ⟨(some 9), (some (6, true)), .call (.c (.fn 71 [] [])) [(.c (.i .i64 1)), (.t 8), (.c (.i .i64 2))]⟩,
  ⟨(some 10), none, .pick (.t 6) (.t 9) (.c (.b false))⟩,
  ⟨(some 11), none, .mv (.t 10)⟩,
  ⟨(some 12), (some (11, true)), .fa (.t 1) 2⟩,
  ⟨(some 13), (some (11, true)), .ld none (.t 12)⟩,
  ⟨(some 14), (some (11, true)), .call (.c (.fn 71 [] [])) [(.c (.i .i64 1)), (.t 13), (.c (.i .i64 2000))]⟩,
  ⟨(some 15), none, .pick (.t 11) (.t 14) (.c (.b false))⟩,
  ⟨(some 16), none, .mv (.t 15)⟩,
  ⟨(some 17), (some (16, true)), .fa (.t 1) 3⟩,
  ⟨(some 18), (some (16, true)), .ld none (.t 17)⟩,
  ⟨(some 19), (some (16, true)), .call (.c (.fn 71 [] [])) [(.c (.i .i64 1)), (.t 18), (.c (.i .i64 9))]⟩,
  ⟨(some 20), none, .pick (.t 16) (.t 19) (.c (.b false))⟩,
  ⟨(some 2), none, .mv (.t 20)⟩]
abbrev c63 : AC := (.seq (.reg c63r0) (.seq (.reg c63r1) .ret))
def q63 : List ARes := [.t 2]
theorem fn63 : fnOf Try.prog 63 = some (c63, q63, 21) := by kernel_rfl

/-! 64: pantoscope/pantoscoperef04.match · slots 82 · [0 l, 1 tol, 2 l, 3 tol, 5 out, 6 gone, 7 colour, 8 p, 9 q] -/
def c64r0 : List AOper := [
  ⟨(some 4), none, .mv (.c (.sl 0 0 0 0))⟩]
def c64r1 : List AOper := [
  ⟨(some 5), none, .mv (.c (.sl 0 0 0 0))⟩]
def c64r2 : List AOper := [
  ⟨(some 10), none, .mv (.t 0)⟩,
  ⟨(some 11), none, .len (.t 10)⟩,
  ⟨(some 12), none, .mks 1 1 [.b false] (.t 11) (.t 11)⟩,
  ⟨(some 6), none, .mv (.t 12)⟩]
def c64r3 : List AOper := [
  ⟨(some 7), none, .mv (.c (.i .i64 1))⟩]
def c64r4 : List AOper := [
  ⟨(some 13), none, .mv (.t 7)⟩,
  ⟨(some 14), none, .bin false .leq (.t 13) (.c (.i .i64 9))⟩]
def c64r5 : List AOper := [
  ⟨(some 17), none, .mv (.t 0)⟩,
  ⟨(some 18), none, .mv (.t 6)⟩,
  ⟨(some 19), none, .mv (.t 7)⟩,
  ⟨(some 20), none, .call (.c (.fn 75 [] [])) [(.t 17), (.t 18), (.c (.i .i64 1)), (.t 19)]⟩,
  ⟨(some 21), none, .mv (.t 0)⟩,
  ⟨(some 22), none, .mv (.t 6)⟩,
  ⟨(some 23), none, .mv (.t 7)⟩,
  ⟨(some 24), none, .call (.c (.fn 75 [] [])) [(.t 21), (.t 22), (.c (.i .i64 2)), (.t 23)]⟩,
  ⟨(some 8), none, .mv (.t 20)⟩,
  ⟨(some 9), none, .mv (.t 24)⟩]
def c64r6 : List AOper := [
  ⟨(some 25), none, .mv (.t 8)⟩,
  ⟨(some 26), none, .bin false .geq (.t 25) (.c (.i .i64 0))⟩,
  ⟨(some 27), none, .mv (.t 26)⟩,
  ⟨(some 28), (some (27, true)), .mv (.t 9)⟩,
  ⟨(some 29), (some (27, true)), .bin false .geq (.t 28) (.c (.i .i64 0))⟩,
  ⟨(some 30), none, .pick (.t 27) (.t 29) (.c (.b false))⟩]
def c64r7 : List AOper := [
  ⟨(some 35), none, .mv (.t 0)⟩,
  ⟨(some 36), none, .mv (.t 8)⟩,
  ⟨(some 37), none, .ia 4 (.t 35) (.t 36)⟩,
  ⟨(some 38), none, .ld (some 4) (.t 37)⟩,
  ⟨(some 39), none, .mv (.t 0)⟩,
  ⟨(some 40), none, .mv (.t 9)⟩,
  ⟨(some 41), none, .ia 4 (.t 39) (.t 40)⟩,
  ⟨(some 42), none, .ld (some 4) (.t 41)⟩,
  ⟨(some 43), none, .call (.c (.fn 68 [] [])) [(.t 38), (.t 42)]⟩,
  ⟨(some 44), none, .mv (.t 1)⟩,
  ⟨(some 45), none, .bin false .leq (.t 43) (.t 44)⟩,
  ⟨(some 34), none, .mv (.t 45)⟩]
def c64r8 : List AOper := [
  ⟨(some 46), none, .mv (.t 5)⟩,
  ⟨(some 47), none, .mv (.t 8)⟩,
  ⟨(some 48), none, .mv (.t 9)⟩,
  ⟨(some 49), none, .bld [.i .i64 0, .i .i64 0] [(0, 1, (.t 47)), (1, 1, (.t 48))]⟩,
  ⟨(some 50), none, .bsl 2 [.i .i64 0, .i .i64 0] [(0, 2, (.t 49))]⟩,
  ⟨(some 51), none, .app 2 16 (.t 46) (.t 50)⟩,
  ⟨(some 5), none, .mv (.t 51)⟩]
def c64r9 : List AOper := [
  ⟨(some 52), none, .mv (.t 6)⟩,
  ⟨(some 53), none, .mv (.t 8)⟩,
  ⟨(some 54), none, .mv (.t 6)⟩,
  ⟨(some 55), none, .mv (.t 9)⟩,
  ⟨(some 56), none, .ia 1 (.t 52) (.t 53)⟩,
  ⟨none, none, .sto none (.t 56) (.c (.b true))⟩,
  ⟨(some 57), none, .ia 1 (.t 54) (.t 55)⟩,
  ⟨none, none, .sto none (.t 57) (.c (.b true))⟩]
def c64r10 : List AOper := [
  ⟨(some 59), none, .mv (.t 0)⟩,
  ⟨(some 60), none, .mv (.t 8)⟩,
  ⟨(some 61), none, .ia 4 (.t 59) (.t 60)⟩,
  ⟨(some 62), none, .fa (.t 61) 2⟩,
  ⟨(some 63), none, .ld none (.t 62)⟩,
  ⟨(some 64), none, .mv (.t 0)⟩,
  ⟨(some 65), none, .mv (.t 9)⟩,
  ⟨(some 66), none, .ia 4 (.t 64) (.t 65)⟩,
  ⟨(some 67), none, .fa (.t 66) 2⟩,
  ⟨(some 68), none, .ld none (.t 67)⟩,
  ⟨(some 69), none, .bin false .lss (.t 63) (.t 68)⟩,
  ⟨(some 58), none, .mv (.t 69)⟩]
def c64r11 : List AOper := [
  ⟨(some 70), none, .mv (.t 6)⟩,
  ⟨(some 71), none, .mv (.t 8)⟩,
  ⟨(some 72), none, .ia 1 (.t 70) (.t 71)⟩,
  ⟨none, none, .sto none (.t 72) (.c (.b true))⟩]
def c64r12 : List AOper := [
  ⟨(some 31), none, .mv (.t 6)⟩,
  ⟨(some 32), none, .mv (.t 9)⟩,
  ⟨(some 33), none, .ia 1 (.t 31) (.t 32)⟩,
  ⟨none, none, .sto none (.t 33) (.c (.b true))⟩]
def c64r13 : List AOper := [
  ⟨(some 73), none, .mv (.t 0)⟩,
  ⟨(some 74), none, .mv (.t 6)⟩,
  ⟨(some 75), none, .mv (.t 7)⟩,
  ⟨(some 76), none, .call (.c (.fn 75 [] [])) [(.t 73), (.t 74), (.c (.i .i64 1)), (.t 75)]⟩,
  ⟨(some 77), none, .mv (.t 0)⟩,
  ⟨(some 78), none, .mv (.t 6)⟩,
  ⟨(some 79), none, .mv (.t 7)⟩,
  ⟨(some 80), none, .call (.c (.fn 75 [] [])) [(.t 77), (.t 78), (.c (.i .i64 2)), (.t 79)]⟩,
  ⟨(some 8), none, .mv (.t 76)⟩,
  ⟨(some 9), none, .mv (.t 80)⟩]
abbrev c64b14 : AC := (.seq (.seq (.reg c64r6) (.cond (.t 30) .skip (.exit 2))) (.blk 3 (.seq (.blk 4 (.seq (.head 10 c64r7) (.cond (.t 34) (.seq (.reg c64r8) (.reg c64r9)) (.seq (.head 10 c64r10) (.cond (.t 58) (.reg c64r11) (.reg c64r12)))))) (.reg c64r13))))
def c64r15 : List AOper := [
  ⟨(some 15), none, .mv (.t 7)⟩,
  ⟨(some 16), none, .bin false .add (.t 15) (.c (.i .i64 1))⟩,
  ⟨(some 7), none, .mv (.t 16)⟩]
abbrev c64b16 : AC := (.seq (.seq (.reg c64r4) (.cond (.t 14) .skip (.exit 0))) (.seq (.blk 1 (.seq (.reg c64r5) (.blk 2 (.loop c64b14)))) (.reg c64r15)))
def c64r17 : List AOper := [
  ⟨(some 81), none, .mv (.t 5)⟩,
  ⟨(some 4), none, .mv (.t 81)⟩]
abbrev c64 : AC := (.seq (.reg c64r0) (.seq (.reg c64r1) (.seq (.reg c64r2) (.seq (.seq (.reg c64r3) (.blk 0 (.loop c64b16))) (.seq (.reg c64r17) .ret)))))
def q64 : List ARes := [.t 4]
theorem fn64 : fnOf Try.prog 64 = some (c64, q64, 82) := by kernel_rfl

/-! 65: pantoscope/pantoscoperef04.most · slots 46 · [0 l, 1 tol, 2 l, 3 tol, 5 partner, 6 i, 7 n, 8 i] -/
def c65r0 : List AOper := [
  ⟨(some 4), none, .mv (.c (.i .i64 0))⟩]
def c65r1 : List AOper := [
  ⟨(some 9), none, .mv (.t 0)⟩,
  ⟨(some 10), none, .len (.t 9)⟩,
  ⟨(some 11), none, .mks 1 8 [.i .i64 0] (.t 10) (.t 10)⟩,
  ⟨(some 5), none, .mv (.t 11)⟩]
def c65r2 : List AOper := [
  ⟨(some 6), none, .mv (.c (.i .i64 0))⟩]
def c65r3 : List AOper := [
  ⟨(some 12), none, .mv (.t 6)⟩,
  ⟨(some 13), none, .mv (.t 0)⟩,
  ⟨(some 14), none, .len (.t 13)⟩,
  ⟨(some 15), none, .bin false .lss (.t 12) (.t 14)⟩]
def c65r4 : List AOper := [
  ⟨(some 18), none, .mv (.t 5)⟩,
  ⟨(some 19), none, .mv (.t 6)⟩,
  ⟨(some 20), none, .ia 1 (.t 18) (.t 19)⟩,
  ⟨none, none, .sto none (.t 20) (.c (.i .i64 (-1)))⟩]
def c65r5 : List AOper := [
  ⟨(some 16), none, .mv (.t 6)⟩,
  ⟨(some 17), none, .bin false .add (.t 16) (.c (.i .i64 1))⟩,
  ⟨(some 6), none, .mv (.t 17)⟩]
abbrev c65b6 : AC := (.seq (.seq (.reg c65r3) (.cond (.t 15) .skip (.exit 0))) (.seq (.blk 1 (.reg c65r4)) (.reg c65r5)))
def c65r7 : List AOper := [
  ⟨(some 7), none, .mv (.c (.i .i64 0))⟩]
def c65r8 : List AOper := [
  ⟨(some 8), none, .mv (.c (.i .i64 0))⟩]
def c65r9 : List AOper := [
  ⟨(some 21), none, .mv (.t 8)⟩,
  ⟨(some 22), none, .mv (.t 0)⟩,
  ⟨(some 23), none, .len (.t 22)⟩,
  ⟨(some 24), none, .bin false .lss (.t 21) (.t 23)⟩]
def c65r10 : List AOper := [
  ⟨(some 27), none, .mv (.t 0)⟩,
  ⟨(some 28), none, .mv (.t 8)⟩,
  ⟨(some 29), none, .ia 4 (.t 27) (.t 28)⟩,
  ⟨(some 30), none, .fa (.t 29) 1⟩,
  ⟨(some 31), none, .ld none (.t 30)⟩,
  ⟨(some 32), none, .bin false .eql (.t 31) (.c (.i .i64 1))⟩,
  ⟨(some 33), none, .mv (.t 32)⟩,
  ⟨(some 34), (some (33, true)), .mv (.t 0)⟩,
  ⟨(some 35), (some (33, true)), .mv (.t 1)⟩,
  ⟨(some 36), (some (33, true)), .mv (.t 5)⟩,
  ⟨(some 37), (some (33, true)), .mv (.t 0)⟩,
  ⟨(some 38), (some (33, true)), .len (.t 37)⟩,
  ⟨(some 39), (some (33, true)), .mks 1 1 [.b false] (.t 38) (.t 38)⟩,
  ⟨(some 40), (some (33, true)), .mv (.t 8)⟩,
  ⟨(some 41), (some (33, true)), .call (.c (.fn 76 [] [])) [(.t 34), (.t 35), (.t 36), (.t 39), (.t 40)]⟩,
  ⟨(some 42), none, .pick (.t 33) (.t 41) (.c (.b false))⟩]
def c65r11 : List AOper := [
  ⟨(some 43), none, .mv (.t 7)⟩,
  ⟨(some 44), none, .bin false .add (.t 43) (.c (.i .i64 1))⟩,
  ⟨(some 7), none, .mv (.t 44)⟩]
def c65r12 : List AOper := [
  ⟨(some 25), none, .mv (.t 8)⟩,
  ⟨(some 26), none, .bin false .add (.t 25) (.c (.i .i64 1))⟩,
  ⟨(some 8), none, .mv (.t 26)⟩]
abbrev c65b13 : AC := (.seq (.seq (.reg c65r9) (.cond (.t 24) .skip (.exit 2))) (.seq (.blk 3 (.seq (.reg c65r10) (.cond (.t 42) (.reg c65r11) .skip))) (.reg c65r12)))
def c65r14 : List AOper := [
  ⟨(some 45), none, .mv (.t 7)⟩,
  ⟨(some 4), none, .mv (.t 45)⟩]
abbrev c65 : AC := (.seq (.reg c65r0) (.seq (.reg c65r1) (.seq (.seq (.reg c65r2) (.blk 0 (.loop c65b6))) (.seq (.reg c65r7) (.seq (.seq (.reg c65r8) (.blk 2 (.loop c65b13))) (.seq (.reg c65r14) .ret))))))
def q65 : List ARes := [.t 4]
theorem fn65 : fnOf Try.prog 65 = some (c65, q65, 46) := by kernel_rfl

/-! 66: pantoscope/temple.loose · slots 31 · [0 h, 1 f, 2 n, 3 least, 4 h, 5 f, 6 n, 7 least] -/
def c66r0 : List AOper := [
  ⟨(some 4), none, .box (.t 0)⟩,
  ⟨(some 8), none, .mv (.c (.i .i64 0))⟩]
def c66r1 : List AOper := [
  ⟨(some 10), none, .ld (some 4) (.t 4)⟩,
  ⟨(some 11), none, .call (.c (.fn 45 [] [])) [(.t 10)]⟩,
  ⟨(some 12), none, .not (.t 11)⟩,
  ⟨(some 9), none, .mv (.t 12)⟩]
def c66r2 : List AOper := [
  ⟨(some 8), none, .mv (.c (.i .i64 41))⟩]
def c66r3 : List AOper := [
  ⟨(some 14), none, .mv (.t 1)⟩,
  ⟨(some 15), none, .fa (.t 4) 1⟩,
  ⟨(some 16), none, .ld none (.t 15)⟩,
  ⟨(some 17), none, .call (.c (.fn 71 [] [])) [(.c (.i .i64 0)), (.t 14), (.t 16)]⟩,
  ⟨(some 18), none, .not (.t 17)⟩,
  ⟨(some 19), none, .mv (.t 18)⟩,
  ⟨(some 20), (some (19, false)), .mv (.t 2)⟩,
  ⟨(some 21), (some (19, false)), .call (.c (.fn 71 [] [])) [(.c (.i .i64 0)), (.t 20), (.c (.i .i64 100000))]⟩,
  ⟨(some 22), (some (19, false)), .not (.t 21)⟩,
  ⟨(some 23), none, .pick (.t 19) (.c (.b true)) (.t 22)⟩,
  ⟨(some 24), none, .mv (.t 23)⟩,
  ⟨(some 25), (some (24, false)), .mv (.t 3)⟩,
  ⟨(some 26), (some (24, false)), .fa (.t 4) 1⟩,
  ⟨(some 27), (some (24, false)), .ld none (.t 26)⟩,
  ⟨(some 28), (some (24, false)), .call (.c (.fn 71 [] [])) [(.c (.i .i64 0)), (.t 25), (.t 27)]⟩,
  ⟨(some 29), (some (24, false)), .not (.t 28)⟩,
  ⟨(some 30), none, .pick (.t 24) (.c (.b true)) (.t 29)⟩,
  ⟨(some 13), none, .mv (.t 30)⟩]
def c66r4 : List AOper := [
  ⟨(some 8), none, .mv (.c (.i .i64 2))⟩]
def c66r5 : List AOper := [
  ⟨(some 8), none, .mv (.c (.i .i64 0))⟩]
abbrev c66 : AC := (.seq (.reg c66r0) (.seq (.blk 0 (.seq (.reg c66r1) (.cond (.t 9) (.seq (.reg c66r2) .ret) (.seq (.reg c66r3) (.cond (.t 13) (.seq (.reg c66r4) .ret) .skip))))) (.seq (.reg c66r5) .ret)))
def q66 : List ARes := [.t 8]
theorem fn66 : fnOf Try.prog 66 = some (c66, q66, 31) := by kernel_rfl

/-! 67: (pantoscope/temple.hinge).opened · slots 22 · [0 h, 1 h, 3 whole] -/
def c67r0 : List AOper := [
  ⟨(some 1), none, .box (.t 0)⟩,
  ⟨(some 2), none, .mv (.c (.i .i64 0))⟩]
def c67r1 : List AOper := [
  ⟨(some 4), none, .fa (.t 1) 0⟩,
  ⟨(some 5), none, .fa (.t 4) 0⟩,
  ⟨(some 6), none, .ld none (.t 5)⟩,
  ⟨(some 7), none, .bin false .mul (.c (.i .i64 1000)) (.t 6)⟩,
  ⟨(some 3), none, .mv (.t 7)⟩]
def c67r2 : List AOper := [
  ⟨(some 8), none, .fa (.t 1) 4⟩,
  ⟨(some 9), none, .ld none (.t 8)⟩,
  ⟨(some 10), none, .fa (.t 1) 4⟩,
  ⟨(some 11), none, .ld none (.t 10)⟩,
  ⟨(some 12), none, .fa (.t 1) 0⟩,
  ⟨(some 13), none, .fa (.t 12) 2⟩,
  ⟨(some 14), none, .ld none (.t 13)⟩,
  ⟨(some 15), none, .bin false .mul (.t 11) (.t 14)⟩,
  ⟨(some 16), none, .mv (.t 3)⟩,
  ⟨(some 17), none, .bin false .add (.t 15) (.t 16)⟩,
  ⟨(some 18), none, .bin false .sub (.t 17) (.c (.i .i64 1))⟩,
  ⟨(some 19), none, .mv (.t 3)⟩,
  ⟨(some 20), none, .bin false .quo (.t 18) (.t 19)⟩,
  ⟨(some 21), none, .bin false .sub (.t 9) (.t 20)⟩,
  ⟨(some 2), none, .mv (.t 21)⟩]
abbrev c67 : AC := (.seq (.reg c67r0) (.seq (.reg c67r1) (.seq (.head 13 c67r2) .ret)))
def q67 : List ARes := [.t 2]
theorem fn67 : fnOf Try.prog 67 = some (c67, q67, 22) := by kernel_rfl

/-! 68: pantoscope/pantoscoperef04.apart · slots 16 · [0 a, 1 b, 2 a, 3 b] -/
def c68r0 : List AOper := [
  ⟨(some 2), none, .box (.t 0)⟩,
  ⟨(some 3), none, .box (.t 1)⟩,
  ⟨(some 4), none, .mv (.c (.i .i64 0))⟩]
def c68r1 : List AOper := [
  ⟨(some 5), none, .fa (.t 2) 2⟩,
  ⟨(some 6), none, .ld none (.t 5)⟩,
  ⟨(some 7), none, .fa (.t 3) 2⟩,
  ⟨(some 8), none, .ld none (.t 7)⟩,
  ⟨(some 9), none, .bin false .sub (.t 6) (.t 8)⟩,
  ⟨(some 10), none, .fa (.t 3) 2⟩,
  ⟨(some 11), none, .ld none (.t 10)⟩,
  ⟨(some 12), none, .fa (.t 2) 2⟩,
  ⟨(some 13), none, .ld none (.t 12)⟩,
  ⟨(some 14), none, .bin false .sub (.t 11) (.t 13)⟩,
  ⟨(some 15), none, .mm true (.t 9) [(.t 14)]⟩,
  ⟨(some 4), none, .mv (.t 15)⟩]
abbrev c68 : AC := (.seq (.reg c68r0) (.seq (.reg c68r1) .ret))
def q68 : List ARes := [.t 4]
theorem fn68 : fnOf Try.prog 68 = some (c68, q68, 16) := by kernel_rfl

/-! 69: pantoscope/temple.Check$1 · slots 10 · [0 a, 1 b, 3 a, 4 b] -/
def c69r0 : List AOper := [
  ⟨(some 3), none, .box (.t 0)⟩,
  ⟨(some 4), none, .box (.t 1)⟩,
  ⟨(some 5), none, .mv (.c (.b false))⟩]
def c69r1 : List AOper := [
  ⟨(some 6), none, .ld (some 4) (.t 3)⟩,
  ⟨(some 7), none, .ld (some 4) (.t 4)⟩,
  ⟨(some 8), none, .ld none (.t 2)⟩,
  ⟨(some 9), none, .call (.c (.fn 52 [] [])) [(.t 6), (.t 7), (.t 8)]⟩,
  ⟨(some 5), none, .mv (.t 9)⟩]
abbrev c69 : AC := (.seq (.reg c69r0) (.seq (.reg c69r1) .ret))
def q69 : List ARes := [.t 5]
theorem fn69 : fnOf Try.prog 69 = some (c69, q69, 10) := by kernel_rfl

/-! 70: (pantoscope/temple.hinge).tightened · slots 13 · [0 h, 1 h] -/
def c70r0 : List AOper := [
  ⟨(some 1), none, .box (.t 0)⟩,
  ⟨(some 2), none, .mv (.c (.i .i64 0))⟩]
def c70r1 : List AOper := [
  ⟨(some 3), none, .fa (.t 1) 4⟩,
  ⟨(some 4), none, .ld none (.t 3)⟩,
  ⟨(some 5), none, .fa (.t 1) 0⟩,
  ⟨(some 6), none, .fa (.t 5) 3⟩,
  ⟨(some 7), none, .ld none (.t 6)⟩,
  ⟨(some 8), none, .bin false .add (.t 4) (.t 7)⟩,
  ⟨(some 9), none, .fa (.t 1) 0⟩,
  ⟨(some 10), none, .fa (.t 9) 1⟩,
  ⟨(some 11), none, .ld none (.t 10)⟩,
  ⟨(some 12), none, .mm false (.t 8) [(.t 11)]⟩,
  ⟨(some 2), none, .mv (.t 12)⟩]
abbrev c70 : AC := (.seq (.reg c70r0) (.seq (.reg c70r1) .ret))
def q70 : List ARes := [.t 2]
theorem fn70 : fnOf Try.prog 70 = some (c70, q70, 13) := by kernel_rfl

/-! 71: pantoscope/temple.between · slots 15 · [0 low, 1 n, 2 high, 3 low, 4 n, 5 high] -/
def c71r0 : List AOper := [
  ⟨(some 6), none, .mv (.c (.b false))⟩]
def c71r1 : List AOper := [
  ⟨(some 7), none, .mv (.t 0)⟩,
  ⟨(some 8), none, .mv (.t 1)⟩,
  ⟨(some 9), none, .bin false .leq (.t 7) (.t 8)⟩,
  ⟨(some 10), none, .mv (.t 9)⟩,
  ⟨(some 11), (some (10, true)), .mv (.t 1)⟩,
  ⟨(some 12), (some (10, true)), .mv (.t 2)⟩,
  ⟨(some 13), (some (10, true)), .bin false .leq (.t 11) (.t 12)⟩,
  ⟨(some 14), none, .pick (.t 10) (.t 13) (.c (.b false))⟩,
  ⟨(some 6), none, .mv (.t 14)⟩]
abbrev c71 : AC := (.seq (.reg c71r0) (.seq (.reg c71r1) .ret))
def q71 : List ARes := [.t 6]
theorem fn71 : fnOf Try.prog 71 = some (c71, q71, 15) := by kernel_rfl

/-! 72: pantoscope/pantoscoperef04.friction · slots 16 · [0 h, 1 f, 2 h, 3 f] -/
def c72r0 : List AOper := [
  ⟨(some 2), none, .box (.t 0)⟩,
  ⟨(some 4), none, .mv (.c (.i .i64 0))⟩]
def c72r1 : List AOper := [
  ⟨(some 5), none, .ld (some 4) (.t 2)⟩,
  ⟨(some 6), none, .call (.c (.fn 34 [] [])) [(.t 5)]⟩,
  ⟨(some 7), none, .not (.t 6)⟩]
def c72r2 : List AOper := [
  ⟨(some 4), none, .mv (.c (.i .i64 41))⟩]
def c72r3 : List AOper := [
  ⟨(some 8), none, .mv (.t 1)⟩,
  ⟨(some 9), none, .bin false .lss (.t 8) (.c (.i .i64 0))⟩,
  ⟨(some 10), none, .mv (.t 9)⟩,
  ⟨(some 11), (some (10, false)), .mv (.t 1)⟩,
  ⟨(some 12), (some (10, false)), .fa (.t 2) 1⟩,
  ⟨(some 13), (some (10, false)), .ld none (.t 12)⟩,
  ⟨(some 14), (some (10, false)), .bin false .gtr (.t 11) (.t 13)⟩,
  ⟨(some 15), none, .pick (.t 10) (.c (.b true)) (.t 14)⟩]
def c72r4 : List AOper := [
  ⟨(some 4), none, .mv (.c (.i .i64 2))⟩]
def c72r5 : List AOper := [
  ⟨(some 4), none, .mv (.c (.i .i64 0))⟩]
abbrev c72 : AC := (.seq (.reg c72r0) (.seq (.seq (.reg c72r1) (.cond (.t 7) (.seq (.reg c72r2) .ret) .skip)) (.seq (.seq (.reg c72r3) (.cond (.t 15) (.seq (.reg c72r4) .ret) .skip)) (.seq (.reg c72r5) .ret))))
def q72 : List ARes := [.t 4]
theorem fn72 : fnOf Try.prog 72 = some (c72, q72, 16) := by kernel_rfl

/-! 73: pantoscope/pantoscoperef04.opened · slots 20 · [0 h, 1 f, 2 h, 3 f, 5 by] -/
def c73r0 : List AOper := [
  ⟨(some 2), none, .box (.t 0)⟩,
  ⟨(some 4), none, .mv (.c (.i .i64 0))⟩]
def c73r1 : List AOper := [
  ⟨(some 6), none, .fa (.t 2) 0⟩,
  ⟨(some 7), none, .ld none (.t 6)⟩,
  ⟨(some 8), none, .bin false .mul (.c (.i .i64 1000)) (.t 7)⟩,
  ⟨(some 5), none, .mv (.t 8)⟩]
def c73r2 : List AOper := [
  ⟨(some 9), none, .mv (.t 1)⟩,
  ⟨(some 10), none, .mv (.t 1)⟩,
  ⟨(some 11), none, .fa (.t 2) 2⟩,
  ⟨(some 12), none, .ld none (.t 11)⟩,
  ⟨(some 13), none, .bin false .mul (.t 10) (.t 12)⟩,
  ⟨(some 14), none, .mv (.t 5)⟩,
  ⟨(some 15), none, .bin false .add (.t 13) (.t 14)⟩,
  ⟨(some 16), none, .bin false .sub (.t 15) (.c (.i .i64 1))⟩,
  ⟨(some 17), none, .mv (.t 5)⟩,
  ⟨(some 18), none, .bin false .quo (.t 16) (.t 17)⟩,
  ⟨(some 19), none, .bin false .sub (.t 9) (.t 18)⟩,
  ⟨(some 4), none, .mv (.t 19)⟩]
abbrev c73 : AC := (.seq (.reg c73r0) (.seq (.reg c73r1) (.seq (.reg c73r2) .ret)))
def q73 : List ARes := [.t 4]
theorem fn73 : fnOf Try.prog 73 = some (c73, q73, 20) := by kernel_rfl

/-! 74: pantoscope/temple.side · slots 37 · [0 l, 1 side, 2 colour, 3 l, 4 side, 5 colour, 7 out, 8 i, 9 t] -/
def c74r0 : List AOper := [
  ⟨(some 6), none, .mv (.c (.sl 0 0 0 0))⟩]
def c74r1 : List AOper := [
  ⟨(some 7), none, .mv (.c (.sl 0 0 0 0))⟩]
def c74r2 : List AOper := [
  ⟨(some 10), none, .mv (.t 0)⟩,
  ⟨(some 11), none, .len (.t 10)⟩,
  ⟨(some 12), none, .mv (.c (.i .i64 0))⟩]
def c74r3 : List AOper := [
  ⟨(some 13), none, .bin false .lss (.t 12) (.t 11)⟩]
def c74r4 : List AOper := [
  ⟨(some 14), none, .mv (.t 12)⟩,
  ⟨(some 15), none, .ia 4 (.t 10) (.t 12)⟩,
  ⟨(some 16), none, .ld (some 4) (.t 15)⟩,
  ⟨(some 9), none, .alloc [.i .i64 0, .i .i64 0, .i .i64 0, .i .i64 0]⟩,
  ⟨(some 8), none, .mv (.t 14)⟩,
  ⟨none, none, .sto (some 4) (.t 9) (.t 16)⟩]
def c74r5 : List AOper := [
  ⟨(some 17), none, .fa (.t 9) 1⟩,
  ⟨(some 18), none, .ld none (.t 17)⟩,
  ⟨(some 19), none, .mv (.t 1)⟩,
  ⟨(some 20), none, .bin false .eql (.t 18) (.t 19)⟩,
  ⟨(some 21), none, .mv (.t 20)⟩,
  ⟨(some 22), (some (21, true)), .fa (.t 9) 3⟩,
  ⟨(some 23), (some (21, true)), .ld none (.t 22)⟩,
  ⟨(some 24), (some (21, true)), .mv (.t 2)⟩,
  ⟨(some 25), (some (21, true)), .bin false .eql (.t 23) (.t 24)⟩,
  ⟨(some 26), none, .pick (.t 21) (.t 25) (.c (.b false))⟩]
def c74r6 : List AOper := [
  ⟨(some 27), none, .mv (.t 7)⟩,
  ⟨(some 28), none, .mv (.t 8)⟩,
  ⟨(some 29), none, .bsl 1 [.i .i64 0] [(0, 1, (.t 28))]⟩,
  ⟨(some 30), none, .app 1 8 (.t 27) (.t 29)⟩,
  ⟨(some 7), none, .mv (.t 30)⟩]
def c74r7 : List AOper := [
  ⟨(some 31), none, .bin false .add (.t 12) (.c (.i .i64 1))⟩,
  ⟨(some 12), none, .mv (.t 31)⟩]
abbrev c74b8 : AC := (.seq (.reg c74r3) (.seq (.cond (.t 13) .skip (.exit 0)) (.seq (.blk 1 (.seq (.reg c74r4) (.seq (.reg c74r5) (.cond (.t 26) (.reg c74r6) .skip)))) (.reg c74r7))))
def c74r9 : List AOper := [
  ⟨(some 32), none, .mv (.t 7)⟩,
  ⟨(some 33), none, .mv (.t 0)⟩,
  ⟨(some 34), none, .call (.c (.fn 78 [] [])) [(.t 33)]⟩,
  ⟨(some 35), none, .call (.c (.fn 77 [] [])) [(.t 32), (.t 34)]⟩]
def c74r10 : List AOper := [
  ⟨(some 36), none, .mv (.t 7)⟩,
  ⟨(some 6), none, .mv (.t 36)⟩]
abbrev c74 : AC := (.seq (.reg c74r0) (.seq (.reg c74r1) (.seq (.seq (.reg c74r2) (.blk 0 (.loop c74b8))) (.seq (.reg c74r9) (.seq (.reg c74r10) .ret)))))
def q74 : List ARes := [.t 6]
theorem fn74 : fnOf Try.prog 74 = some (c74, q74, 37) := by kernel_rfl

/-! 75: pantoscope/pantoscoperef04.least · slots 82 · [0 l, 1 gone, 2 side, 3 colour, 4 l, 5 gone, 6 side, 7 colour, 9 best, 10 i] -/
def c75r0 : List AOper := [
  ⟨(some 8), none, .mv (.c (.i .i64 0))⟩]
def c75r1 : List AOper := [
  ⟨(some 9), none, .mv (.c (.i .i64 (-1)))⟩]
def c75r2 : List AOper := [
  ⟨(some 10), none, .mv (.c (.i .i64 0))⟩]
def c75r3 : List AOper := [
  ⟨(some 11), none, .mv (.t 10)⟩,
  ⟨(some 12), none, .mv (.t 0)⟩,
  ⟨(some 13), none, .len (.t 12)⟩,
  ⟨(some 14), none, .bin false .lss (.t 11) (.t 13)⟩]
def c75r4 : List AOper := [
  ⟨(some 17), none, .mv (.t 1)⟩,
  ⟨(some 18), none, .mv (.t 10)⟩,
  ⟨(some 19), none, .ia 1 (.t 17) (.t 18)⟩,
  ⟨(some 20), none, .ld none (.t 19)⟩,
  ⟨(some 21), none, .mv (.t 20)⟩,
  ⟨(some 22), (some (21, false)), .mv (.t 0)⟩,
  ⟨(some 23), (some (21, false)), .mv (.t 10)⟩,
  ⟨(some 24), (some (21, false)), .ia 4 (.t 22) (.t 23)⟩,
  ⟨(some 25), (some (21, false)), .fa (.t 24) 1⟩,
  ⟨(some 26), (some (21, false)), .ld none (.t 25)⟩,
  ⟨(some 27), (some (21, false)), .mv (.t 2)⟩,
  ⟨(some 28), (some (21, false)), .bin false .neq (.t 26) (.t 27)⟩,
  ⟨(some 29), none, .pick (.t 21) (.c (.b true)) (.t 28)⟩,
  ⟨(some 30), none, .mv (.t 29)⟩,
  ⟨(some 31), (some (30, false)), .mv (.t 0)⟩,
  ⟨(some 32), (some (30, false)), .mv (.t 10)⟩,
  ⟨(some 33), (some (30, false)), .ia 4 (.t 31) (.t 32)⟩,
  ⟨(some 34), (some (30, false)), .fa (.t 33) 3⟩,
  ⟨(some 35), (some (30, false)), .ld none (.t 34)⟩,
  ⟨(some 36), (some (30, false)), .mv (.t 3)⟩,
  ⟨(some 37), (some (30, false)), .bin false .neq (.t 35) (.t 36)⟩,
  ⟨(some 38), none, .pick (.t 30) (.c (.b true)) (.t 37)⟩]
def c75r5 : List AOper := [
  ⟨(some 39), none, .mv (.t 9)⟩,
  ⟨(some 40), none, .bin false .lss (.t 39) (.c (.i .i64 0))⟩,
  ⟨(some 41), none, .mv (.t 40)⟩,
  ⟨(some 42), (some (41, false)), .mv (.t 0)⟩,
  ⟨(some 43), (some (41, false)), .mv (.t 10)⟩,
  ⟨(some 44), (some (41, false)), .ia 4 (.t 42) (.t 43)⟩,
  ⟨(some 45), (some (41, false)), .fa (.t 44) 2⟩,
  ⟨(some 46), (some (41, false)), .ld none (.t 45)⟩,
  ⟨(some 47), (some (41, false)), .mv (.t 0)⟩,
  ⟨(some 48), (some (41, false)), .mv (.t 9)⟩,
  ⟨(some 49), (some (41, false)), .ia 4 (.t 47) (.t 48)⟩,
  ⟨(some 50), (some (41, false)), .fa (.t 49) 2⟩,
  ⟨(some 51), (some (41, false)), .ld none (.t 50)⟩,
  ⟨(some 52), (some (41, false)), .bin false .lss (.t 46) (.t 51)⟩,
  ⟨(some 53), none, .pick (.t 41) (.c (.b true)) (.t 52)⟩,
  ⟨(some 54), none, .mv (.t 53)⟩,
  ⟨(some 55), (some (54, false)), .mv (.t 0)⟩,
  ⟨(some 56), (some (54, false)), .mv (.t 10)⟩,
  ⟨(some 57), (some (54, false)), .ia 4 (.t 55) (.t 56)⟩,
  ⟨(some 58), (some (54, false)), .fa (.t 57) 2⟩,
  ⟨(some 59), (some (54, false)), .ld none (.t 58)⟩,
  ⟨(some 60), (some (54, false)), .mv (.t 0)⟩,
  ⟨(some 61), (some (54, false)), .mv (.t 9)⟩,
  ⟨(some 62), (some (54, false)), .ia 4 (.t 60) (.t 61)⟩,
  ⟨(some 63), (some (54, false)), .fa (.t 62) 2⟩,
  ⟨(some 64), (some (54, false)), .ld none (.t 63)⟩,
  ⟨(some 65), (some (54, false)), .bin false .eql (.t 59) (.t 64)⟩,
  ⟨(some 66), (some (54, false)), .mv (.t 65)⟩,
  ⟨(some 67), (some (66, true)), .mv (.t 0)⟩,
  ⟨(some 68), (some (66, true)), .mv (.t 10)⟩,
  ⟨(some 69), (some (66, true)), .ia 4 (.t 67) (.t 68)⟩,
  ⟨(some 70), (some (66, true)), .fa (.t 69) 0⟩,
  ⟨(some 71), (some (66, true)), .ld none (.t 70)⟩,
  ⟨(some 72), (some (66, true)), .mv (.t 0)⟩,
  ⟨(some 73), (some (66, true)), .mv (.t 9)⟩,
  ⟨(some 74), (some (66, true)), .ia 4 (.t 72) (.t 73)⟩,
  ⟨(some 75), (some (66, true)), .fa (.t 74) 0⟩,
  ⟨(some 76), (some (66, true)), .ld none (.t 75)⟩,
  ⟨(some 77), (some (66, true)), .bin false .lss (.t 71) (.t 76)⟩,
  ⟨(some 78), (some (54, false)), .pick (.t 66) (.t 77) (.c (.b false))⟩,
  ⟨(some 79), none, .pick (.t 54) (.c (.b true)) (.t 78)⟩]
def c75r6 : List AOper := [
  ⟨(some 80), none, .mv (.t 10)⟩,
  ⟨(some 9), none, .mv (.t 80)⟩]
def c75r7 : List AOper := [
  ⟨(some 15), none, .mv (.t 10)⟩,
  ⟨(some 16), none, .bin false .add (.t 15) (.c (.i .i64 1))⟩,
  ⟨(some 10), none, .mv (.t 16)⟩]
abbrev c75b8 : AC := (.seq (.seq (.reg c75r3) (.cond (.t 14) .skip (.exit 0))) (.seq (.blk 1 (.seq (.seq (.reg c75r4) (.cond (.t 38) (.exit 1) .skip)) (.seq (.head 38 c75r5) (.cond (.t 79) (.reg c75r6) .skip)))) (.reg c75r7)))
def c75r9 : List AOper := [
  ⟨(some 81), none, .mv (.t 9)⟩,
  ⟨(some 8), none, .mv (.t 81)⟩]
abbrev c75 : AC := (.seq (.reg c75r0) (.seq (.reg c75r1) (.seq (.seq (.reg c75r2) (.blk 0 (.loop c75b8))) (.seq (.reg c75r9) .ret))))
def q75 : List ARes := [.t 8]
theorem fn75 : fnOf Try.prog 75 = some (c75, q75, 82) := by kernel_rfl

/-! 76: pantoscope/pantoscoperef04.found · slots 58 · [0 l, 1 tol, 2 partner, 3 seen, 4 i, 5 l, 6 tol, 7 partner, 8 seen, 9 i, 11 k] -/
def c76r0 : List AOper := [
  ⟨(some 10), none, .mv (.c (.b false))⟩]
def c76r1 : List AOper := [
  ⟨(some 11), none, .mv (.c (.i .i64 0))⟩]
def c76r2 : List AOper := [
  ⟨(some 12), none, .mv (.t 11)⟩,
  ⟨(some 13), none, .mv (.t 0)⟩,
  ⟨(some 14), none, .len (.t 13)⟩,
  ⟨(some 15), none, .bin false .lss (.t 12) (.t 14)⟩]
def c76r3 : List AOper := [
  ⟨(some 18), none, .mv (.t 3)⟩,
  ⟨(some 19), none, .mv (.t 11)⟩,
  ⟨(some 20), none, .ia 1 (.t 18) (.t 19)⟩,
  ⟨(some 21), none, .ld none (.t 20)⟩,
  ⟨(some 22), none, .mv (.t 21)⟩,
  ⟨(some 23), (some (22, false)), .mv (.t 0)⟩,
  ⟨(some 24), (some (22, false)), .mv (.t 4)⟩,
  ⟨(some 25), (some (22, false)), .ia 4 (.t 23) (.t 24)⟩,
  ⟨(some 26), (some (22, false)), .ld (some 4) (.t 25)⟩,
  ⟨(some 27), (some (22, false)), .mv (.t 0)⟩,
  ⟨(some 28), (some (22, false)), .mv (.t 11)⟩,
  ⟨(some 29), (some (22, false)), .ia 4 (.t 27) (.t 28)⟩,
  ⟨(some 30), (some (22, false)), .ld (some 4) (.t 29)⟩,
  ⟨(some 31), (some (22, false)), .mv (.t 1)⟩,
  ⟨(some 32), (some (22, false)), .call (.c (.fn 57 [] [])) [(.t 26), (.t 30), (.t 31)]⟩,
  ⟨(some 33), (some (22, false)), .not (.t 32)⟩,
  ⟨(some 34), none, .pick (.t 22) (.c (.b true)) (.t 33)⟩]
def c76r4 : List AOper := [
  ⟨(some 35), none, .mv (.t 3)⟩,
  ⟨(some 36), none, .mv (.t 11)⟩,
  ⟨(some 37), none, .ia 1 (.t 35) (.t 36)⟩,
  ⟨none, none, .sto none (.t 37) (.c (.b true))⟩]
def c76r5 : List AOper := [
  ⟨(some 38), none, .mv (.t 2)⟩,
  ⟨(some 39), none, .mv (.t 11)⟩,
  ⟨(some 40), none, .ia 1 (.t 38) (.t 39)⟩,
  ⟨(some 41), none, .ld none (.t 40)⟩,
  ⟨(some 42), none, .bin false .lss (.t 41) (.c (.i .i64 0))⟩,
  ⟨(some 43), none, .mv (.t 42)⟩,
  ⟨(some 44), (some (43, false)), .mv (.t 0)⟩,
  ⟨(some 45), (some (43, false)), .mv (.t 1)⟩,
  ⟨(some 46), (some (43, false)), .mv (.t 2)⟩,
  ⟨(some 47), (some (43, false)), .mv (.t 3)⟩,
  ⟨(some 48), (some (43, false)), .mv (.t 2)⟩,
  ⟨(some 49), (some (43, false)), .mv (.t 11)⟩,
  ⟨(some 50), (some (43, false)), .ia 1 (.t 48) (.t 49)⟩,
  ⟨(some 51), (some (43, false)), .ld none (.t 50)⟩,
  ⟨(some 52), (some (43, false)), .call (.c (.fn 76 [] [])) [(.t 44), (.t 45), (.t 46), (.t 47), (.t 51)]⟩,
  ⟨(some 53), none, .pick (.t 43) (.c (.b true)) (.t 52)⟩]
def c76r6 : List AOper := [
  ⟨(some 54), none, .mv (.t 2)⟩,
  ⟨(some 55), none, .mv (.t 11)⟩,
  ⟨(some 56), none, .mv (.t 4)⟩,
  ⟨(some 57), none, .ia 1 (.t 54) (.t 55)⟩,
  ⟨none, none, .sto none (.t 57) (.t 56)⟩]
def c76r7 : List AOper := [
  ⟨(some 10), none, .mv (.c (.b true))⟩]
def c76r8 : List AOper := [
  ⟨(some 16), none, .mv (.t 11)⟩,
  ⟨(some 17), none, .bin false .add (.t 16) (.c (.i .i64 1))⟩,
  ⟨(some 11), none, .mv (.t 17)⟩]
abbrev c76b9 : AC := (.seq (.seq (.reg c76r2) (.cond (.t 15) .skip (.exit 0))) (.seq (.blk 1 (.seq (.seq (.head 14 c76r3) (.cond (.t 34) (.exit 1) .skip)) (.seq (.reg c76r4) (.seq (.reg c76r5) (.cond (.t 53) (.seq (.reg c76r6) (.seq (.reg c76r7) .ret)) .skip))))) (.reg c76r8)))
def c76r10 : List AOper := [
  ⟨(some 10), none, .mv (.c (.b false))⟩]
abbrev c76 : AC := (.seq (.reg c76r0) (.seq (.seq (.reg c76r1) (.blk 0 (.loop c76b9))) (.seq (.reg c76r10) .ret)))
def q76 : List ARes := [.t 10]
theorem fn76 : fnOf Try.prog 76 = some (c76, q76, 58) := by kernel_rfl

/-! 77: slices.SortFunc[[]int,int] · slots 14 · [0 x, 1 cmp, 2 x, 3 cmp, 4 n] -/
def c77r0 : List AOper := [
  ⟨(some 5), none, .mv (.t 0)⟩,
  ⟨(some 6), none, .len (.t 5)⟩,
  ⟨(some 4), none, .mv (.t 6)⟩]
def c77r1 : List AOper := [
  ⟨(some 7), none, .mv (.t 0)⟩,
  ⟨(some 8), none, .mv (.t 4)⟩,
  ⟨(some 9), none, .mv (.t 4)⟩,
  ⟨(some 10), none, .conv .u64 (.t 9)⟩,
  ⟨(some 11), none, .call (.c (.fn 80 [] [])) [(.t 10)]⟩,
  ⟨(some 12), none, .mv (.t 1)⟩,
  ⟨(some 13), none, .call (.c (.fn 79 [] [])) [(.t 7), (.c (.i .i64 0)), (.t 8), (.t 11), (.t 12)]⟩]
abbrev c77 : AC := (.seq (.reg c77r0) (.reg c77r1))
def q77 : List ARes := []
theorem fn77 : fnOf Try.prog 77 = some (c77, q77, 14) := by kernel_rfl

/-! 78: pantoscope/temple.shorter · slots 4 · [0 l, 1 l] -/
def c78r0 : List AOper := [
  ⟨(some 1), none, .box (.t 0)⟩,
  ⟨(some 2), none, .mv (.c (.nilf))⟩]
def c78r1 : List AOper := [
  ⟨(some 3), none, .mkf 81 [] [(.t 1)]⟩,
  ⟨(some 2), none, .mv (.t 3)⟩]
abbrev c78 : AC := (.seq (.reg c78r0) (.seq (.reg c78r1) .ret))
def q78 : List ARes := [.t 2]
theorem fn78 : fnOf Try.prog 78 = some (c78, q78, 4) := by kernel_rfl

/-! 81: pantoscope/temple.shorter$1 · slots 30 · [0 i, 1 k, 3 i, 4 k] -/
def c81r0 : List AOper := [
  ⟨(some 5), none, .mv (.c (.i .i64 0))⟩]
def c81r1 : List AOper := [
  ⟨(some 6), none, .ld none (.t 2)⟩,
  ⟨(some 7), none, .mv (.t 0)⟩,
  ⟨(some 8), none, .ia 4 (.t 6) (.t 7)⟩,
  ⟨(some 9), none, .fa (.t 8) 2⟩,
  ⟨(some 10), none, .ld none (.t 9)⟩,
  ⟨(some 11), none, .ld none (.t 2)⟩,
  ⟨(some 12), none, .mv (.t 1)⟩,
  ⟨(some 13), none, .ia 4 (.t 11) (.t 12)⟩,
  ⟨(some 14), none, .fa (.t 13) 2⟩,
  ⟨(some 15), none, .ld none (.t 14)⟩,
  ⟨(some 16), none, .call (.c (.fn 83 [] [])) [(.t 10), (.t 15)]⟩,
  ⟨(some 17), none, .ld none (.t 2)⟩,
  ⟨(some 18), none, .mv (.t 0)⟩,
  ⟨(some 19), none, .ia 4 (.t 17) (.t 18)⟩,
  ⟨(some 20), none, .fa (.t 19) 0⟩,
  ⟨(some 21), none, .ld none (.t 20)⟩,
  ⟨(some 22), none, .ld none (.t 2)⟩,
  ⟨(some 23), none, .mv (.t 1)⟩,
  ⟨(some 24), none, .ia 4 (.t 22) (.t 23)⟩,
  ⟨(some 25), none, .fa (.t 24) 0⟩,
  ⟨(some 26), none, .ld none (.t 25)⟩,
  ⟨(some 27), none, .call (.c (.fn 83 [] [])) [(.t 21), (.t 26)]⟩,
  ⟨(some 28), none, .bsl 1 [.i .i64 0, .i .i64 0] [(0, 1, (.t 16)), (1, 1, (.t 27))]⟩,
  ⟨(some 29), none, .call (.c (.fn 82 [] [])) [(.t 28)]⟩,
  ⟨(some 5), none, .mv (.t 29)⟩]
abbrev c81 : AC := (.seq (.reg c81r0) (.seq (.head 21 c81r1) .ret))
def q81 : List ARes := [.t 5]
theorem fn81 : fnOf Try.prog 81 = some (c81, q81, 30) := by kernel_rfl

/-! 82: cmp.Or[int] · slots 18 · [0 vals, 1 vals, 3 zero, 4 _, 5 val] -/
def c82r0 : List AOper := [
  ⟨(some 2), none, .mv (.c (.i .i64 0))⟩]
def c82r1 : List AOper := [
  ⟨(some 3), none, .mv (.c (.i .i64 0))⟩]
def c82r2 : List AOper := [
  ⟨(some 6), none, .mv (.t 0)⟩,
  ⟨(some 7), none, .len (.t 6)⟩,
  ⟨(some 8), none, .mv (.c (.i .i64 0))⟩]
def c82r3 : List AOper := [
  ⟨(some 9), none, .bin false .lss (.t 8) (.t 7)⟩]
def c82r4 : List AOper := [
  ⟨(some 10), none, .ia 1 (.t 6) (.t 8)⟩,
  ⟨(some 11), none, .ld none (.t 10)⟩,
  ⟨(some 5), none, .mv (.t 11)⟩]
def c82r5 : List AOper := [
  ⟨(some 12), none, .mv (.t 5)⟩,
  ⟨(some 13), none, .mv (.t 3)⟩,
  ⟨(some 14), none, .bin false .neq (.t 12) (.t 13)⟩]
def c82r6 : List AOper := [
  ⟨(some 15), none, .mv (.t 5)⟩,
  ⟨(some 2), none, .mv (.t 15)⟩]
def c82r7 : List AOper := [
  ⟨(some 16), none, .bin false .add (.t 8) (.c (.i .i64 1))⟩,
  ⟨(some 8), none, .mv (.t 16)⟩]
abbrev c82b8 : AC := (.seq (.reg c82r3) (.seq (.cond (.t 9) .skip (.exit 0)) (.seq (.blk 1 (.seq (.reg c82r4) (.seq (.reg c82r5) (.cond (.t 14) (.seq (.reg c82r6) .ret) .skip)))) (.reg c82r7))))
def c82r9 : List AOper := [
  ⟨(some 17), none, .mv (.t 3)⟩,
  ⟨(some 2), none, .mv (.t 17)⟩]
abbrev c82 : AC := (.seq (.reg c82r0) (.seq (.reg c82r1) (.seq (.seq (.reg c82r2) (.blk 0 (.loop c82b8))) (.seq (.reg c82r9) .ret))))
def q82 : List ARes := [.t 2]
theorem fn82 : fnOf Try.prog 82 = some (c82, q82, 18) := by kernel_rfl

/-! 83: cmp.Compare[int] · slots 20 · [0 x, 1 y, 2 x, 3 y, 5 xNaN, 6 yNaN] -/
def c83r0 : List AOper := [
  ⟨(some 4), none, .mv (.c (.i .i64 0))⟩]
def c83r1 : List AOper := [
  ⟨(some 7), none, .mv (.t 0)⟩,
  ⟨(some 8), none, .call (.c (.fn 94 [] [])) [(.t 7)]⟩,
  ⟨(some 5), none, .mv (.t 8)⟩]
def c83r2 : List AOper := [
  ⟨(some 9), none, .mv (.t 1)⟩,
  ⟨(some 10), none, .call (.c (.fn 94 [] [])) [(.t 9)]⟩,
  ⟨(some 6), none, .mv (.t 10)⟩]
def c83r3 : List AOper := [
  ⟨(some 11), none, .mv (.t 5)⟩]
def c83r4 : List AOper := [
  ⟨(some 12), none, .mv (.t 6)⟩]
def c83r5 : List AOper := [
  ⟨(some 4), none, .mv (.c (.i .i64 0))⟩]
def c83r6 : List AOper := [
  ⟨(some 4), none, .mv (.c (.i .i64 (-1)))⟩]
def c83r7 : List AOper := [
  ⟨(some 13), none, .mv (.t 6)⟩]
def c83r8 : List AOper := [
  ⟨(some 4), none, .mv (.c (.i .i64 1))⟩]
def c83r9 : List AOper := [
  ⟨(some 14), none, .mv (.t 0)⟩,
  ⟨(some 15), none, .mv (.t 1)⟩,
  ⟨(some 16), none, .bin false .lss (.t 14) (.t 15)⟩]
def c83r10 : List AOper := [
  ⟨(some 4), none, .mv (.c (.i .i64 (-1)))⟩]
def c83r11 : List AOper := [
  ⟨(some 17), none, .mv (.t 0)⟩,
  ⟨(some 18), none, .mv (.t 1)⟩,
  ⟨(some 19), none, .bin false .gtr (.t 17) (.t 18)⟩]
def c83r12 : List AOper := [
  ⟨(some 4), none, .mv (.c (.i .i64 1))⟩]
def c83r13 : List AOper := [
  ⟨(some 4), none, .mv (.c (.i .i64 0))⟩]
abbrev c83 : AC := (.seq (.reg c83r0) (.seq (.reg c83r1) (.seq (.reg c83r2) (.seq (.seq (.reg c83r3) (.cond (.t 11) (.seq (.seq (.reg c83r4) (.cond (.t 12) (.seq (.reg c83r5) .ret) .skip)) (.seq (.reg c83r6) .ret)) .skip)) (.seq (.seq (.reg c83r7) (.cond (.t 13) (.seq (.reg c83r8) .ret) .skip)) (.seq (.seq (.reg c83r9) (.cond (.t 16) (.seq (.reg c83r10) .ret) .skip)) (.seq (.seq (.reg c83r11) (.cond (.t 19) (.seq (.reg c83r12) .ret) .skip)) (.seq (.reg c83r13) .ret))))))))
def q83 : List ARes := [.t 4]
theorem fn83 : fnOf Try.prog 83 = some (c83, q83, 20) := by kernel_rfl

/-! 94: cmp.isNaN[int] · slots 6 · [0 x, 1 x] -/
def c94r0 : List AOper := [
  ⟨(some 2), none, .mv (.c (.b false))⟩]
def c94r1 : List AOper := [
  ⟨(some 3), none, .mv (.t 0)⟩,
  ⟨(some 4), none, .mv (.t 0)⟩,
  ⟨(some 5), none, .bin false .neq (.t 3) (.t 4)⟩,
  ⟨(some 2), none, .mv (.t 5)⟩]
abbrev c94 : AC := (.seq (.reg c94r0) (.seq (.reg c94r1) .ret))
def q94 : List ARes := [.t 2]
theorem fn94 : fnOf Try.prog 94 = some (c94, q94, 6) := by kernel_rfl

end Go.Proofs.Ytbhkbaapfioijaa
