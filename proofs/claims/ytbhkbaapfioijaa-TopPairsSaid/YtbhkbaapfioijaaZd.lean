/- What the proof of the law needs: the abstract machine, the functions as it reads them, their contracts, part 4. -/
import Derived.Test.YtbhkbaapfioijaaZc
import Derived.Test.YtbhkbaapfioijaaProg
import Derived.KernelRfl
namespace Go.Proofs.Ytbhkbaapfioijaa
open Go Go.Am Go.Proofs
/-! 3: pantoscope/pantoscopetop.TopPairs · slots 214 · [0 l, 1 tols, 2 l, 3 tols, 5 last, 6 most, 7 tol, 8 i, 9 n, 10 e, 11 p, 12 f, 13 g, 14 h, 15 is, 16 j, 17 worst, 18 j, 19 k, 20 t, 21 j, 22 colour, 23 left, 24 right, 25 i, 26 _, 27 e] -/
def c3r0 : List AOper := [
  ⟨(some 3), none, .box (.t 1)⟩,
  ⟨(some 4), none, .mv (.c (.b false))⟩]
def c3r1 : List AOper := [
  ⟨(some 28), none, .mv (.t 0)⟩,
  ⟨(some 29), none, .len (.t 28)⟩,
  ⟨(some 30), none, .bin false .gtr (.t 29) (.c (.i .i64 16))⟩,
  ⟨(some 31), none, .mv (.t 30)⟩,
  ⟨(some 32), (some (31, false)), .mv (.t 0)⟩,
  ⟨(some 33), (some (31, false)), .call (.c (.fn 14 [] [])) [(.t 32)]⟩,
  ⟨(some 34), (some (31, false)), .not (.t 33)⟩,
  ⟨(some 35), none, .pick (.t 31) (.c (.b true)) (.t 34)⟩]
def c3r2 : List AOper := [
  ⟨(some 36), none, .call (.c (.fn 15 [] [])) []⟩,
  ⟨(some 4), none, .mv (.t 36)⟩]
def c3r3 : List AOper := [
  ⟨(some 5), none, .mv (.c (.i .i64 (-1)))⟩,
  ⟨(some 6), none, .mv (.c (.i .i64 0))⟩]
def c3r4 : List AOper := [
  ⟨(some 7), none, .mv (.c (.i .i64 0))⟩]
def c3r5 : List AOper := [
  ⟨(some 8), none, .mv (.c (.i .i64 0))⟩]
def c3r6 : List AOper := [
  ⟨(some 37), none, .mv (.t 8)⟩,
  ⟨(some 38), none, .bin false .lss (.t 37) (.c (.i .i64 3))⟩]
def c3r7 : List AOper := [
  ⟨(some 41), none, .mv (.t 7)⟩,
  ⟨(some 42), none, .mv (.t 8)⟩,
  ⟨(some 43), none, .iap 3 1 (.t 3) (.t 42)⟩,
  ⟨(some 44), none, .ld none (.t 43)⟩,
  ⟨(some 45), none, .conv .i64 (.t 44)⟩,
  ⟨(some 46), none, .bin false .rem (.t 45) (.c (.i .i64 400))⟩,
  ⟨(some 47), none, .bin false .add (.t 41) (.t 46)⟩,
  ⟨(some 48), none, .mm false (.t 47) [(.c (.i .i64 1000))]⟩,
  ⟨(some 7), none, .mv (.t 48)⟩]
def c3r8 : List AOper := [
  ⟨(some 50), none, .mv (.t 0)⟩,
  ⟨(some 51), none, .mv (.t 7)⟩,
  ⟨(some 52), none, .call (.c (.fn 16 [] [])) [(.t 50), (.t 51)]⟩,
  ⟨(some 49), none, .mv (.t 52)⟩,
  ⟨(some 53), none, .ext (.t 49) 0⟩,
  ⟨(some 54), none, .ext (.t 49) 1⟩,
  ⟨(some 9), none, .mv (.t 53)⟩,
  ⟨(some 10), none, .mv (.t 54)⟩]
def c3r9 : List AOper := [
  ⟨(some 56), none, .mv (.t 0)⟩,
  ⟨(some 57), none, .mv (.t 7)⟩,
  ⟨(some 58), none, .call (.c (.fn 17 [] [])) [(.t 56), (.t 57)]⟩,
  ⟨(some 55), none, .mv (.t 58)⟩,
  ⟨(some 59), none, .ext (.t 55) 0⟩,
  ⟨(some 60), none, .ext (.t 55) 1⟩,
  ⟨(some 11), none, .mv (.t 59)⟩,
  ⟨(some 12), none, .mv (.t 60)⟩]
def c3r10 : List AOper := [
  ⟨(some 62), none, .mv (.t 0)⟩,
  ⟨(some 63), none, .mv (.t 7)⟩,
  ⟨(some 64), none, .call (.c (.fn 18 [] [])) [(.t 62), (.t 63)]⟩,
  ⟨(some 61), none, .mv (.t 64)⟩,
  ⟨(some 65), none, .ext (.t 61) 0⟩,
  ⟨(some 66), none, .ext (.t 61) 1⟩,
  ⟨(some 13), none, .mv (.t 65)⟩,
  ⟨(some 14), none, .mv (.t 66)⟩]
def c3r11 : List AOper := [
  ⟨(some 67), none, .mv (.t 10)⟩,
  ⟨(some 68), none, .bin false .neq (.t 67) (.c (.i .i64 0))⟩,
  ⟨(some 69), none, .mv (.t 68)⟩,
  ⟨(some 70), (some (69, false)), .mv (.t 12)⟩,
  ⟨(some 71), (some (69, false)), .bin false .neq (.t 70) (.c (.i .i64 0))⟩,
  ⟨(some 72), none, .pick (.t 69) (.c (.b true)) (.t 71)⟩,
  ⟨(some 73), none, .mv (.t 72)⟩,
  ⟨(some 74), (some (73, false)), .mv (.t 14)⟩,
  ⟨(some 75), (some (73, false)), .bin false .neq (.t 74) (.c (.i .i64 0))⟩,
  ⟨(some 76), none, .pick (.t 73) (.c (.b true)) (.t 75)⟩,
  ⟨(some 77), none, .mv (.t 76)⟩,
  ⟨(some 78), (some (77, false)), .mv (.t 11)⟩,
  ⟨(some 79), (some (77, false)), .len (.t 78)⟩,
  ⟨(some 80), (some (77, false)), .mv (.t 9)⟩,
  ⟨(some 81), (some (77, false)), .bin false .neq (.t 79) (.t 80)⟩,
  ⟨(some 82), none, .pick (.t 77) (.c (.b true)) (.t 81)⟩,
  ⟨(some 83), none, .mv (.t 82)⟩,
  ⟨(some 84), (some (83, false)), .mv (.t 13)⟩,
  ⟨(some 85), (some (83, false)), .len (.t 84)⟩,
  ⟨(some 86), (some (83, false)), .mv (.t 9)⟩,
  ⟨(some 87), (some (83, false)), .bin false .neq (.t 85) (.t 86)⟩,
  ⟨(some 88), none, .pick (.t 83) (.c (.b true)) (.t 87)⟩,
  ⟨(some 89), none, .mv (.t 88)⟩,
  ⟨(some 90), (some (89, false)), .mv (.t 9)⟩,
  ⟨(some 91), (some (89, false)), .mv (.t 5)⟩,
  ⟨(some 92), (some (89, false)), .bin false .lss (.t 90) (.t 91)⟩,
  ⟨(some 93), none, .pick (.t 89) (.c (.b true)) (.t 92)⟩,
  ⟨(some 94), none, .mv (.t 93)⟩,
  ⟨(some 95), (some (94, false)), .mv (.t 0)⟩,
  ⟨(some 96), (some (94, false)), .mv (.t 7)⟩,
  ⟨(some 97), (some (94, false)), .mv (.t 11)⟩,
  ⟨(some 98), (some (94, false)), .call (.c (.fn 19 [] [])) [(.t 95), (.t 96), (.t 97)]⟩,
  ⟨(some 99), (some (94, false)), .bin false .neq (.t 98) (.c (.i .i64 0))⟩,
  ⟨(some 100), none, .pick (.t 94) (.c (.b true)) (.t 99)⟩]
def c3r12 : List AOper := [
  ⟨(some 4), none, .mv (.c (.b false))⟩]
def c3r13 : List AOper := [
  ⟨(some 102), none, .mv (.t 0)⟩,
  ⟨(some 103), none, .mv (.t 7)⟩,
  ⟨(some 104), none, .mv (.t 13)⟩,
  ⟨(some 105), none, .call (.c (.fn 20 [] [])) [(.t 102), (.t 103), (.t 104)]⟩,
  ⟨(some 101), none, .mv (.t 105)⟩,
  ⟨(some 106), none, .ext (.t 101) 0⟩,
  ⟨(some 107), none, .ext (.t 101) 1⟩,
  ⟨(some 15), none, .mv (.t 106)⟩,
  ⟨(some 16), none, .mv (.t 107)⟩]
def c3r14 : List AOper := [
  ⟨(some 108), none, .mv (.t 15)⟩,
  ⟨(some 109), none, .not (.t 108)⟩,
  ⟨(some 110), none, .mv (.t 109)⟩,
  ⟨(some 111), (some (110, false)), .mv (.t 16)⟩,
  ⟨(some 112), (some (110, false)), .bin false .neq (.t 111) (.c (.i .i64 0))⟩,
  ⟨(some 113), none, .pick (.t 110) (.c (.b true)) (.t 112)⟩]
def c3r15 : List AOper := [
  ⟨(some 4), none, .mv (.c (.b false))⟩]
def c3r16 : List AOper := [
  ⟨(some 115), none, .mv (.t 0)⟩,
  ⟨(some 116), none, .mv (.t 11)⟩,
  ⟨(some 117), none, .call (.c (.fn 21 [] [])) [(.t 115), (.t 116)]⟩,
  ⟨(some 114), none, .mv (.t 117)⟩,
  ⟨(some 118), none, .ext (.t 114) 0⟩,
  ⟨(some 119), none, .ext (.t 114) 1⟩,
  ⟨(some 17), none, .mv (.t 118)⟩,
  ⟨(some 18), none, .mv (.t 119)⟩]
def c3r17 : List AOper := [
  ⟨(some 120), none, .mv (.t 18)⟩,
  ⟨(some 121), none, .bin false .neq (.t 120) (.c (.i .i64 0))⟩,
  ⟨(some 122), none, .mv (.t 121)⟩,
  ⟨(some 123), (some (122, false)), .mv (.t 17)⟩,
  ⟨(some 124), (some (122, false)), .mv (.t 7)⟩,
  ⟨(some 125), (some (122, false)), .bin false .gtr (.t 123) (.t 124)⟩,
  ⟨(some 126), none, .pick (.t 122) (.c (.b true)) (.t 125)⟩]
def c3r18 : List AOper := [
  ⟨(some 4), none, .mv (.c (.b false))⟩]
def c3r19 : List AOper := [
  ⟨(some 127), none, .mv (.t 5)⟩,
  ⟨(some 128), none, .bin false .add (.t 127) (.c (.i .i64 1))⟩,
  ⟨(some 19), none, .mv (.t 128)⟩]
def c3r20 : List AOper := [
  ⟨(some 129), none, .mv (.t 19)⟩,
  ⟨(some 130), none, .mv (.t 9)⟩,
  ⟨(some 131), none, .bin false .leq (.t 129) (.t 130)⟩]
def c3r21 : List AOper := [
  ⟨(some 135), none, .mv (.t 0)⟩,
  ⟨(some 136), none, .mv (.t 19)⟩,
  ⟨(some 137), none, .call (.c (.fn 22 [] [])) [(.t 135), (.t 136)]⟩,
  ⟨(some 134), none, .mv (.t 137)⟩,
  ⟨(some 138), none, .ext (.t 134) 0⟩,
  ⟨(some 139), none, .ext (.t 134) 1⟩,
  ⟨(some 20), none, .mv (.t 138)⟩,
  ⟨(some 21), none, .mv (.t 139)⟩]
def c3r22 : List AOper := [
  ⟨(some 140), none, .mv (.t 21)⟩,
  ⟨(some 141), none, .bin false .neq (.t 140) (.c (.i .i64 0))⟩,
  ⟨(some 142), none, .mv (.t 141)⟩,
  ⟨(some 143), (some (142, false)), .mv (.t 20)⟩,
  ⟨(some 144), (some (142, false)), .mv (.t 7)⟩,
  ⟨(some 145), (some (142, false)), .bin false .gtr (.t 143) (.t 144)⟩,
  ⟨(some 146), none, .pick (.t 142) (.c (.b true)) (.t 145)⟩]
def c3r23 : List AOper := [
  ⟨(some 4), none, .mv (.c (.b false))⟩]
def c3r24 : List AOper := [
  ⟨(some 132), none, .mv (.t 19)⟩,
  ⟨(some 133), none, .bin false .add (.t 132) (.c (.i .i64 1))⟩,
  ⟨(some 19), none, .mv (.t 133)⟩]
abbrev c3b25 : AC := (.seq (.seq (.reg c3r20) (.cond (.t 131) .skip (.exit 2))) (.seq (.blk 3 (.seq (.reg c3r21) (.seq (.reg c3r22) (.cond (.t 146) (.seq (.reg c3r23) .ret) .skip)))) (.reg c3r24)))
def c3r26 : List AOper := [
  ⟨(some 147), none, .mv (.t 9)⟩,
  ⟨(some 5), none, .mv (.t 147)⟩]
def c3r27 : List AOper := [
  ⟨(some 39), none, .mv (.t 8)⟩,
  ⟨(some 40), none, .bin false .add (.t 39) (.c (.i .i64 1))⟩,
  ⟨(some 8), none, .mv (.t 40)⟩]
abbrev c3b28 : AC := (.seq (.seq (.reg c3r6) (.cond (.t 38) .skip (.exit 0))) (.seq (.blk 1 (.seq (.reg c3r7) (.seq (.reg c3r8) (.seq (.reg c3r9) (.seq (.reg c3r10) (.seq (.seq (.reg c3r11) (.cond (.t 100) (.seq (.reg c3r12) .ret) .skip)) (.seq (.seq (.reg c3r13) (.seq (.reg c3r14) (.cond (.t 113) (.seq (.reg c3r15) .ret) .skip))) (.seq (.reg c3r16) (.seq (.seq (.reg c3r17) (.cond (.t 126) (.seq (.reg c3r18) .ret) .skip)) (.seq (.seq (.reg c3r19) (.blk 2 (.loop c3b25))) (.reg c3r26))))))))))) (.reg c3r27)))
def c3r29 : List AOper := [
  ⟨(some 22), none, .mv (.c (.i .i64 1))⟩]
def c3r30 : List AOper := [
  ⟨(some 148), none, .mv (.t 22)⟩,
  ⟨(some 149), none, .bin false .leq (.t 148) (.c (.i .i64 9))⟩]
def c3r31 : List AOper := [
  ⟨(some 23), none, .mv (.c (.i .i64 0))⟩,
  ⟨(some 24), none, .mv (.c (.i .i64 0))⟩]
def c3r32 : List AOper := [
  ⟨(some 25), none, .mv (.c (.i .i64 0))⟩]
def c3r33 : List AOper := [
  ⟨(some 152), none, .mv (.t 25)⟩,
  ⟨(some 153), none, .mv (.t 0)⟩,
  ⟨(some 154), none, .len (.t 153)⟩,
  ⟨(some 155), none, .bin false .lss (.t 152) (.t 154)⟩]
def c3r34 : List AOper := [
  ⟨(some 158), none, .mv (.t 0)⟩,
  ⟨(some 159), none, .mv (.t 25)⟩,
  ⟨(some 160), none, .ia 4 (.t 158) (.t 159)⟩,
  ⟨(some 161), none, .fa (.t 160) 3⟩,
  ⟨(some 162), none, .ld none (.t 161)⟩,
  ⟨(some 163), none, .mv (.t 22)⟩,
  ⟨(some 164), none, .bin false .eql (.t 162) (.t 163)⟩,
  ⟨(some 165), none, .mv (.t 164)⟩,
  ⟨(some 166), (some (165, true)), .mv (.t 0)⟩,
  ⟨(some 167), (some (165, true)), .mv (.t 25)⟩,
  ⟨(some 168), (some (165, true)), .ia 4 (.t 166) (.t 167)⟩,
  ⟨(some 169), (some (165, true)), .fa (.t 168) 1⟩,
  ⟨(some 170), (some (165, true)), .ld none (.t 169)⟩,
  ⟨(some 171), (some (165, true)), .bin false .eql (.t 170) (.c (.i .i64 1))⟩,
  ⟨(some 172), none, .pick (.t 165) (.t 171) (.c (.b false))⟩]
def c3r35 : List AOper := [
  ⟨(some 173), none, .mv (.t 23)⟩,
  ⟨(some 174), none, .bin false .add (.t 173) (.c (.i .i64 1))⟩,
  ⟨(some 23), none, .mv (.t 174)⟩]
def c3r36 : List AOper := [
  ⟨(some 175), none, .mv (.t 0)⟩,
  ⟨(some 176), none, .mv (.t 25)⟩,
  ⟨(some 177), none, .ia 4 (.t 175) (.t 176)⟩,
  ⟨(some 178), none, .fa (.t 177) 3⟩,
  ⟨(some 179), none, .ld none (.t 178)⟩,
  ⟨(some 180), none, .mv (.t 22)⟩,
  ⟨(some 181), none, .bin false .eql (.t 179) (.t 180)⟩,
  ⟨(some 182), none, .mv (.t 181)⟩,
  ⟨(some 183), (some (182, true)), .mv (.t 0)⟩,
  ⟨(some 184), (some (182, true)), .mv (.t 25)⟩,
  ⟨(some 185), (some (182, true)), .ia 4 (.t 183) (.t 184)⟩,
  ⟨(some 186), (some (182, true)), .fa (.t 185) 1⟩,
  ⟨(some 187), (some (182, true)), .ld none (.t 186)⟩,
  ⟨(some 188), (some (182, true)), .bin false .eql (.t 187) (.c (.i .i64 2))⟩,
  ⟨(some 189), none, .pick (.t 182) (.t 188) (.c (.b false))⟩]
def c3r37 : List AOper := [
  ⟨(some 190), none, .mv (.t 24)⟩,
  ⟨(some 191), none, .bin false .add (.t 190) (.c (.i .i64 1))⟩,
  ⟨(some 24), none, .mv (.t 191)⟩]
def c3r38 : List AOper := [
  ⟨(some 156), none, .mv (.t 25)⟩,
  ⟨(some 157), none, .bin false .add (.t 156) (.c (.i .i64 1))⟩,
  ⟨(some 25), none, .mv (.t 157)⟩]
abbrev c3b39 : AC := (.seq (.seq (.reg c3r33) (.cond (.t 155) .skip (.exit 6))) (.seq (.blk 7 (.seq (.seq (.reg c3r34) (.cond (.t 172) (.reg c3r35) .skip)) (.seq (.reg c3r36) (.cond (.t 189) (.reg c3r37) .skip)))) (.reg c3r38)))
def c3r40 : List AOper := [
  ⟨(some 192), none, .mv (.t 6)⟩,
  ⟨(some 193), none, .mv (.t 23)⟩,
  ⟨(some 194), none, .mv (.t 24)⟩,
  ⟨(some 195), none, .mm false (.t 193) [(.t 194)]⟩,
  ⟨(some 196), none, .bin false .add (.t 192) (.t 195)⟩,
  ⟨(some 6), none, .mv (.t 196)⟩]
def c3r41 : List AOper := [
  ⟨(some 150), none, .mv (.t 22)⟩,
  ⟨(some 151), none, .bin false .add (.t 150) (.c (.i .i64 1))⟩,
  ⟨(some 22), none, .mv (.t 151)⟩]
abbrev c3b42 : AC := (.seq (.seq (.reg c3r30) (.cond (.t 149) .skip (.exit 4))) (.seq (.blk 5 (.seq (.reg c3r31) (.seq (.seq (.reg c3r32) (.blk 6 (.loop c3b39))) (.reg c3r40)))) (.reg c3r41)))
def c3r43 : List AOper := [
  ⟨(some 198), none, .mv (.t 0)⟩,
  ⟨(some 199), none, .mv (.t 6)⟩,
  ⟨(some 200), none, .bin false .add (.t 199) (.c (.i .i64 1))⟩,
  ⟨(some 201), none, .call (.c (.fn 22 [] [])) [(.t 198), (.t 200)]⟩,
  ⟨(some 197), none, .mv (.t 201)⟩,
  ⟨(some 202), none, .ext (.t 197) 0⟩,
  ⟨(some 203), none, .ext (.t 197) 1⟩,
  ⟨(some 26), none, .mv (.t 202)⟩,
  ⟨(some 27), none, .mv (.t 203)⟩]
def c3r44 : List AOper := [
  ⟨(some 204), none, .mv (.t 5)⟩,
  ⟨(some 205), none, .mv (.t 6)⟩,
  ⟨(some 206), none, .bin false .leq (.t 204) (.t 205)⟩,
  ⟨(some 207), none, .mv (.t 206)⟩,
  ⟨(some 208), (some (207, true)), .mv (.t 27)⟩,
  ⟨(some 209), (some (207, true)), .bin false .eql (.t 208) (.c (.i .i64 4))⟩,
  ⟨(some 210), none, .pick (.t 207) (.t 209) (.c (.b false))⟩,
  ⟨(some 211), none, .mv (.t 210)⟩,
  ⟨(some 212), (some (211, true)), .call (.c (.fn 15 [] [])) []⟩,
  ⟨(some 213), none, .pick (.t 211) (.t 212) (.c (.b false))⟩,
  ⟨(some 4), none, .mv (.t 213)⟩]
abbrev c3 : AC := (.seq (.reg c3r0) (.seq (.seq (.reg c3r1) (.cond (.t 35) (.seq (.reg c3r2) .ret) .skip)) (.seq (.reg c3r3) (.seq (.reg c3r4) (.seq (.seq (.reg c3r5) (.blk 0 (.loop c3b28))) (.seq (.seq (.reg c3r29) (.blk 4 (.loop c3b42))) (.seq (.reg c3r43) (.seq (.reg c3r44) .ret))))))))
def q3 : List ARes := [.t 4]
theorem fn3 : fnOf Try.prog 3 = some (c3, q3, 214) := by kernel_rfl
/-! 4: pantoscope/pantoscopelaw04.TempleMore · slots 139 · [0 l, 1 more, 2 at, 3 l, 4 more, 5 at, 7 tol, 8 turn, 9 n, 10 e, 11 turned, 12 i, 13 m, 14 f, 15 k, 16 g, 17 longer, 18 k, 19 g] -/
def c4r0 : List AOper := [
  ⟨(some 4), none, .box (.t 1)⟩,
  ⟨(some 5), none, .box (.t 2)⟩,
  ⟨(some 6), none, .mv (.c (.b false))⟩]
def c4r1 : List AOper := [
  ⟨(some 20), none, .iap 2 1 (.t 5) (.c (.i .i64 0))⟩,
  ⟨(some 21), none, .ld none (.t 20)⟩,
  ⟨(some 22), none, .iap 2 1 (.t 5) (.c (.i .i64 1))⟩,
  ⟨(some 23), none, .ld none (.t 22)⟩,
  ⟨(some 24), none, .conv .u64 (.t 23)⟩,
  ⟨(some 25), none, .bin false .rem (.t 24) (.c (.i .u64 100))⟩,
  ⟨(some 26), none, .conv .i64 (.t 25)⟩,
  ⟨(some 7), none, .mv (.t 21)⟩,
  ⟨(some 8), none, .mv (.t 26)⟩]
def c4r2 : List AOper := [
  ⟨(some 27), none, .mv (.t 0)⟩,
  ⟨(some 28), none, .call (.c (.fn 23 [] [])) [(.t 27), (.c (.i .i64 40))]⟩,
  ⟨(some 29), none, .mv (.t 28)⟩,
  ⟨(some 30), (some (29, false)), .mv (.t 0)⟩,
  ⟨(some 31), (some (29, false)), .call (.c (.fn 14 [] [])) [(.t 30)]⟩,
  ⟨(some 32), (some (29, false)), .not (.t 31)⟩,
  ⟨(some 33), none, .pick (.t 29) (.c (.b true)) (.t 32)⟩,
  ⟨(some 34), none, .mv (.t 33)⟩,
  ⟨(some 35), (some (34, false)), .mv (.t 7)⟩,
  ⟨(some 36), (some (34, false)), .bin false .lss (.t 35) (.c (.i .i64 0))⟩,
  ⟨(some 37), none, .pick (.t 34) (.c (.b true)) (.t 36)⟩,
  ⟨(some 38), none, .mv (.t 37)⟩,
  ⟨(some 39), (some (38, false)), .mv (.t 7)⟩,
  ⟨(some 40), (some (38, false)), .bin false .gtr (.t 39) (.c (.i .i64 1000))⟩,
  ⟨(some 41), none, .pick (.t 38) (.c (.b true)) (.t 40)⟩]
def c4r3 : List AOper := [
  ⟨(some 42), none, .call (.c (.fn 24 [] [])) []⟩,
  ⟨(some 6), none, .mv (.t 42)⟩]
def c4r4 : List AOper := [
  ⟨(some 44), none, .mv (.t 0)⟩,
  ⟨(some 45), none, .mv (.t 7)⟩,
  ⟨(some 46), none, .call (.c (.fn 16 [] [])) [(.t 44), (.t 45)]⟩,
  ⟨(some 43), none, .mv (.t 46)⟩,
  ⟨(some 47), none, .ext (.t 43) 0⟩,
  ⟨(some 48), none, .ext (.t 43) 1⟩,
  ⟨(some 9), none, .mv (.t 47)⟩,
  ⟨(some 10), none, .mv (.t 48)⟩]
def c4r5 : List AOper := [
  ⟨(some 49), none, .mv (.t 10)⟩,
  ⟨(some 50), none, .bin false .neq (.t 49) (.c (.i .i64 0))⟩]
def c4r6 : List AOper := [
  ⟨(some 6), none, .mv (.c (.b false))⟩]
def c4r7 : List AOper := [
  ⟨(some 11), none, .mv (.c (.sl 0 0 0 0))⟩]
def c4r8 : List AOper := [
  ⟨(some 12), none, .mv (.c (.i .i64 0))⟩]
def c4r9 : List AOper := [
  ⟨(some 51), none, .mv (.t 12)⟩,
  ⟨(some 52), none, .mv (.t 0)⟩,
  ⟨(some 53), none, .len (.t 52)⟩,
  ⟨(some 54), none, .bin false .lss (.t 51) (.t 53)⟩]
def c4r10 : List AOper := [
  ⟨(some 57), none, .mv (.t 11)⟩,
  ⟨(some 58), none, .mv (.t 0)⟩,
  ⟨(some 59), none, .mv (.t 0)⟩,
  ⟨(some 60), none, .len (.t 59)⟩,
  ⟨(some 61), none, .bin false .sub (.t 60) (.c (.i .i64 1))⟩,
  ⟨(some 62), none, .mv (.t 12)⟩,
  ⟨(some 63), none, .mv (.t 8)⟩,
  ⟨(some 64), none, .bin false .add (.t 62) (.t 63)⟩,
  ⟨(some 65), none, .mv (.t 0)⟩,
  ⟨(some 66), none, .len (.t 65)⟩,
  ⟨(some 67), none, .bin false .rem (.t 64) (.t 66)⟩,
  ⟨(some 68), none, .bin false .sub (.t 61) (.t 67)⟩,
  ⟨(some 69), none, .ia 4 (.t 58) (.t 68)⟩,
  ⟨(some 70), none, .ld (some 4) (.t 69)⟩,
  ⟨(some 71), none, .bsl 4 [.i .i64 0, .i .i64 0, .i .i64 0, .i .i64 0] [(0, 4, (.t 70))]⟩,
  ⟨(some 72), none, .app 4 32 (.t 57) (.t 71)⟩,
  ⟨(some 11), none, .mv (.t 72)⟩]
def c4r11 : List AOper := [
  ⟨(some 55), none, .mv (.t 12)⟩,
  ⟨(some 56), none, .bin false .add (.t 55) (.c (.i .i64 1))⟩,
  ⟨(some 12), none, .mv (.t 56)⟩]
abbrev c4b12 : AC := (.seq (.seq (.reg c4r9) (.cond (.t 54) .skip (.exit 0))) (.seq (.blk 1 (.reg c4r10)) (.reg c4r11)))
def c4r13 : List AOper := [
  ⟨(some 74), none, .mv (.t 11)⟩,
  ⟨(some 75), none, .mv (.t 7)⟩,
  ⟨(some 76), none, .call (.c (.fn 16 [] [])) [(.t 74), (.t 75)]⟩,
  ⟨(some 73), none, .mv (.t 76)⟩,
  ⟨(some 77), none, .ext (.t 73) 0⟩,
  ⟨(some 78), none, .ext (.t 73) 1⟩,
  ⟨(some 13), none, .mv (.t 77)⟩,
  ⟨(some 14), none, .mv (.t 78)⟩]
def c4r14 : List AOper := [
  ⟨(some 79), none, .mv (.t 14)⟩,
  ⟨(some 80), none, .bin false .neq (.t 79) (.c (.i .i64 0))⟩,
  ⟨(some 81), none, .mv (.t 80)⟩,
  ⟨(some 82), (some (81, false)), .mv (.t 13)⟩,
  ⟨(some 83), (some (81, false)), .mv (.t 9)⟩,
  ⟨(some 84), (some (81, false)), .bin false .neq (.t 82) (.t 83)⟩,
  ⟨(some 85), none, .pick (.t 81) (.c (.b true)) (.t 84)⟩]
def c4r15 : List AOper := [
  ⟨(some 6), none, .mv (.c (.b false))⟩]
def c4r16 : List AOper := [
  ⟨(some 86), none, .mv (.t 7)⟩,
  ⟨(some 87), none, .bin false .lss (.t 86) (.c (.i .i64 1000))⟩]
def c4r17 : List AOper := [
  ⟨(some 89), none, .mv (.t 0)⟩,
  ⟨(some 90), none, .mv (.t 7)⟩,
  ⟨(some 91), none, .bin false .add (.t 90) (.c (.i .i64 1))⟩,
  ⟨(some 92), none, .call (.c (.fn 16 [] [])) [(.t 89), (.t 91)]⟩,
  ⟨(some 88), none, .mv (.t 92)⟩,
  ⟨(some 93), none, .ext (.t 88) 0⟩,
  ⟨(some 94), none, .ext (.t 88) 1⟩,
  ⟨(some 15), none, .mv (.t 93)⟩,
  ⟨(some 16), none, .mv (.t 94)⟩]
def c4r18 : List AOper := [
  ⟨(some 95), none, .mv (.t 16)⟩,
  ⟨(some 96), none, .bin false .neq (.t 95) (.c (.i .i64 0))⟩,
  ⟨(some 97), none, .mv (.t 96)⟩,
  ⟨(some 98), (some (97, false)), .mv (.t 15)⟩,
  ⟨(some 99), (some (97, false)), .mv (.t 9)⟩,
  ⟨(some 100), (some (97, false)), .bin false .lss (.t 98) (.t 99)⟩,
  ⟨(some 101), none, .pick (.t 97) (.c (.b true)) (.t 100)⟩]
def c4r19 : List AOper := [
  ⟨(some 6), none, .mv (.c (.b false))⟩]
def c4r20 : List AOper := [
  ⟨(some 17), none, .mv (.c (.sl 0 0 0 0))⟩]
def c4r21 : List AOper := [
  ⟨(some 102), none, .mv (.t 17)⟩,
  ⟨(some 103), none, .mv (.t 0)⟩,
  ⟨(some 104), none, .app 4 32 (.t 102) (.t 103)⟩,
  ⟨(some 17), none, .mv (.t 104)⟩]
def c4r22 : List AOper := [
  ⟨(some 105), none, .mv (.t 17)⟩,
  ⟨(some 106), none, .ld (some 4) (.t 4)⟩,
  ⟨(some 107), none, .bsl 4 [.i .i64 0, .i .i64 0, .i .i64 0, .i .i64 0] [(0, 4, (.t 106))]⟩,
  ⟨(some 108), none, .app 4 32 (.t 105) (.t 107)⟩,
  ⟨(some 17), none, .mv (.t 108)⟩]
def c4r23 : List AOper := [
  ⟨(some 110), none, .mv (.t 17)⟩,
  ⟨(some 111), none, .mv (.t 7)⟩,
  ⟨(some 112), none, .call (.c (.fn 16 [] [])) [(.t 110), (.t 111)]⟩,
  ⟨(some 109), none, .mv (.t 112)⟩,
  ⟨(some 113), none, .ext (.t 109) 0⟩,
  ⟨(some 114), none, .ext (.t 109) 1⟩,
  ⟨(some 18), none, .mv (.t 113)⟩,
  ⟨(some 19), none, .mv (.t 114)⟩]
def c4r24 : List AOper := [
  ⟨(some 115), none, .mv (.t 17)⟩,
  ⟨(some 116), none, .call (.c (.fn 14 [] [])) [(.t 115)]⟩,
  ⟨(some 117), none, .not (.t 116)⟩]
def c4r25 : List AOper := [
  ⟨(some 118), none, .mv (.t 19)⟩,
  ⟨(some 119), none, .bin false .eql (.t 118) (.c (.i .i64 40))⟩,
  ⟨(some 120), none, .mv (.t 119)⟩,
  ⟨(some 121), (some (120, true)), .call (.c (.fn 24 [] [])) []⟩,
  ⟨(some 122), none, .pick (.t 120) (.t 121) (.c (.b false))⟩,
  ⟨(some 6), none, .mv (.t 122)⟩]
def c4r26 : List AOper := [
  ⟨(some 123), none, .mv (.t 19)⟩,
  ⟨(some 124), none, .bin false .eql (.t 123) (.c (.i .i64 0))⟩,
  ⟨(some 125), none, .mv (.t 124)⟩,
  ⟨(some 126), (some (125, true)), .mv (.t 18)⟩,
  ⟨(some 127), (some (125, true)), .mv (.t 9)⟩,
  ⟨(some 128), (some (125, true)), .bin false .eql (.t 126) (.t 127)⟩,
  ⟨(some 129), (some (125, true)), .mv (.t 128)⟩,
  ⟨(some 130), (some (129, false)), .mv (.t 18)⟩,
  ⟨(some 131), (some (129, false)), .mv (.t 9)⟩,
  ⟨(some 132), (some (129, false)), .bin false .add (.t 131) (.c (.i .i64 1))⟩,
  ⟨(some 133), (some (129, false)), .bin false .eql (.t 130) (.t 132)⟩,
  ⟨(some 134), (some (125, true)), .pick (.t 129) (.c (.b true)) (.t 133)⟩,
  ⟨(some 135), none, .pick (.t 125) (.t 134) (.c (.b false))⟩,
  ⟨(some 136), none, .mv (.t 135)⟩,
  ⟨(some 137), (some (136, true)), .call (.c (.fn 24 [] [])) []⟩,
  ⟨(some 138), none, .pick (.t 136) (.t 137) (.c (.b false))⟩,
  ⟨(some 6), none, .mv (.t 138)⟩]
abbrev c4 : AC := (.seq (.reg c4r0) (.seq (.head 8 c4r1) (.seq (.seq (.reg c4r2) (.cond (.t 41) (.seq (.reg c4r3) .ret) .skip)) (.seq (.reg c4r4) (.seq (.seq (.reg c4r5) (.cond (.t 50) (.seq (.reg c4r6) .ret) .skip)) (.seq (.reg c4r7) (.seq (.seq (.reg c4r8) (.blk 0 (.loop c4b12))) (.seq (.reg c4r13) (.seq (.seq (.reg c4r14) (.cond (.t 85) (.seq (.reg c4r15) .ret) .skip)) (.seq (.seq (.reg c4r16) (.cond (.t 87) (.seq (.reg c4r17) (.seq (.reg c4r18) (.cond (.t 101) (.seq (.reg c4r19) .ret) .skip))) .skip)) (.seq (.reg c4r20) (.seq (.reg c4r21) (.seq (.reg c4r22) (.seq (.reg c4r23) (.seq (.seq (.reg c4r24) (.cond (.t 117) (.seq (.reg c4r25) .ret) .skip)) (.seq (.reg c4r26) .ret))))))))))))))))
def q4 : List ARes := [.t 6]
/-! 5: pantoscope/pantoscopelaw04.TempleValid · slots 52 · [0 l, 1 two, 2 tol, 3 l, 4 two, 5 tol, 7 a, 8 b, 9 x, 10 e, 11 y, 12 f] -/
def c5r0 : List AOper := [
  ⟨(some 4), none, .box (.t 1)⟩,
  ⟨(some 6), none, .mv (.c (.b false))⟩]
def c5r1 : List AOper := [
  ⟨(some 13), none, .iap 2 4 (.t 4) (.c (.i .i64 0))⟩,
  ⟨(some 14), none, .ld (some 4) (.t 13)⟩,
  ⟨(some 15), none, .iap 2 4 (.t 4) (.c (.i .i64 1))⟩,
  ⟨(some 16), none, .ld (some 4) (.t 15)⟩,
  ⟨(some 7), none, .alloc [.i .i64 0, .i .i64 0, .i .i64 0, .i .i64 0]⟩,
  ⟨(some 8), none, .alloc [.i .i64 0, .i .i64 0, .i .i64 0, .i .i64 0]⟩,
  ⟨none, none, .sto (some 4) (.t 7) (.t 14)⟩,
  ⟨none, none, .sto (some 4) (.t 8) (.t 16)⟩]
def c5r2 : List AOper := [
  ⟨(some 17), none, .mv (.t 0)⟩,
  ⟨(some 18), none, .call (.c (.fn 23 [] [])) [(.t 17), (.c (.i .i64 70))]⟩]
def c5r3 : List AOper := [
  ⟨(some 19), none, .call (.c (.fn 24 [] [])) []⟩,
  ⟨(some 6), none, .mv (.t 19)⟩]
def c5r4 : List AOper := [
  ⟨(some 21), none, .ld (some 4) (.t 7)⟩,
  ⟨(some 22), none, .ld (some 4) (.t 8)⟩,
  ⟨(some 23), none, .mv (.t 2)⟩,
  ⟨(some 24), none, .call (.c (.fn 25 [] [])) [(.t 21), (.t 22), (.t 23)]⟩,
  ⟨(some 20), none, .mv (.t 24)⟩,
  ⟨(some 25), none, .ext (.t 20) 0⟩,
  ⟨(some 26), none, .ext (.t 20) 1⟩,
  ⟨(some 9), none, .mv (.t 25)⟩,
  ⟨(some 10), none, .mv (.t 26)⟩]
def c5r5 : List AOper := [
  ⟨(some 28), none, .ld (some 4) (.t 7)⟩,
  ⟨(some 29), none, .ld (some 4) (.t 8)⟩,
  ⟨(some 30), none, .mv (.t 2)⟩,
  ⟨(some 31), none, .call (.c (.fn 26 [] [])) [(.t 28), (.t 29), (.t 30)]⟩,
  ⟨(some 27), none, .mv (.t 31)⟩,
  ⟨(some 32), none, .ext (.t 27) 0⟩,
  ⟨(some 33), none, .ext (.t 27) 1⟩,
  ⟨(some 11), none, .mv (.t 32)⟩,
  ⟨(some 12), none, .mv (.t 33)⟩]
def c5r6 : List AOper := [
  ⟨(some 34), none, .mv (.t 0)⟩,
  ⟨(some 35), none, .call (.c (.fn 27 [] [])) [(.t 34)]⟩,
  ⟨(some 36), none, .mv (.t 0)⟩,
  ⟨(some 37), none, .call (.c (.fn 14 [] [])) [(.t 36)]⟩,
  ⟨(some 38), none, .bin true .eql (.t 35) (.t 37)⟩,
  ⟨(some 39), none, .mv (.t 38)⟩,
  ⟨(some 40), (some (39, true)), .mv (.t 9)⟩,
  ⟨(some 41), (some (39, true)), .mv (.t 11)⟩,
  ⟨(some 42), (some (39, true)), .bin true .eql (.t 40) (.t 41)⟩,
  ⟨(some 43), none, .pick (.t 39) (.t 42) (.c (.b false))⟩,
  ⟨(some 44), none, .mv (.t 43)⟩,
  ⟨(some 45), (some (44, true)), .mv (.t 10)⟩,
  ⟨(some 46), (some (44, true)), .mv (.t 12)⟩,
  ⟨(some 47), (some (44, true)), .bin false .eql (.t 45) (.t 46)⟩,
  ⟨(some 48), none, .pick (.t 44) (.t 47) (.c (.b false))⟩,
  ⟨(some 49), none, .mv (.t 48)⟩,
  ⟨(some 50), (some (49, true)), .call (.c (.fn 24 [] [])) []⟩,
  ⟨(some 51), none, .pick (.t 49) (.t 50) (.c (.b false))⟩,
  ⟨(some 6), none, .mv (.t 51)⟩]
abbrev c5 : AC := (.seq (.reg c5r0) (.seq (.head 7 c5r1) (.seq (.seq (.reg c5r2) (.cond (.t 18) (.seq (.reg c5r3) .ret) .skip)) (.seq (.reg c5r4) (.seq (.reg c5r5) (.seq (.reg c5r6) .ret))))))
def q5 : List ARes := [.t 6]
/-! 6: pantoscope/pantoscopelaw04.TempleMatches · slots 87 · [0 l, 1 tol, 2 l, 3 tol, 5 p, 6 e, 7 q, 8 f, 9 n, 10 g, 11 m, 12 h, 13 r, 14 i, 15 s, 16 j] -/
def c6r0 : List AOper := [
  ⟨(some 4), none, .mv (.c (.b false))⟩]
def c6r1 : List AOper := [
  ⟨(some 17), none, .mv (.t 0)⟩,
  ⟨(some 18), none, .call (.c (.fn 23 [] [])) [(.t 17), (.c (.i .i64 40))]⟩]
def c6r2 : List AOper := [
  ⟨(some 19), none, .call (.c (.fn 24 [] [])) []⟩,
  ⟨(some 4), none, .mv (.t 19)⟩]
def c6r3 : List AOper := [
  ⟨(some 21), none, .mv (.t 0)⟩,
  ⟨(some 22), none, .mv (.t 1)⟩,
  ⟨(some 23), none, .call (.c (.fn 17 [] [])) [(.t 21), (.t 22)]⟩,
  ⟨(some 20), none, .mv (.t 23)⟩,
  ⟨(some 24), none, .ext (.t 20) 0⟩,
  ⟨(some 25), none, .ext (.t 20) 1⟩,
  ⟨(some 5), none, .mv (.t 24)⟩,
  ⟨(some 6), none, .mv (.t 25)⟩]
def c6r4 : List AOper := [
  ⟨(some 27), none, .mv (.t 0)⟩,
  ⟨(some 28), none, .mv (.t 1)⟩,
  ⟨(some 29), none, .call (.c (.fn 28 [] [])) [(.t 27), (.t 28)]⟩,
  ⟨(some 26), none, .mv (.t 29)⟩,
  ⟨(some 30), none, .ext (.t 26) 0⟩,
  ⟨(some 31), none, .ext (.t 26) 1⟩,
  ⟨(some 7), none, .mv (.t 30)⟩,
  ⟨(some 8), none, .mv (.t 31)⟩]
def c6r5 : List AOper := [
  ⟨(some 33), none, .mv (.t 0)⟩,
  ⟨(some 34), none, .mv (.t 1)⟩,
  ⟨(some 35), none, .call (.c (.fn 16 [] [])) [(.t 33), (.t 34)]⟩,
  ⟨(some 32), none, .mv (.t 35)⟩,
  ⟨(some 36), none, .ext (.t 32) 0⟩,
  ⟨(some 37), none, .ext (.t 32) 1⟩,
  ⟨(some 9), none, .mv (.t 36)⟩,
  ⟨(some 10), none, .mv (.t 37)⟩]
def c6r6 : List AOper := [
  ⟨(some 39), none, .mv (.t 0)⟩,
  ⟨(some 40), none, .mv (.t 1)⟩,
  ⟨(some 41), none, .call (.c (.fn 29 [] [])) [(.t 39), (.t 40)]⟩,
  ⟨(some 38), none, .mv (.t 41)⟩,
  ⟨(some 42), none, .ext (.t 38) 0⟩,
  ⟨(some 43), none, .ext (.t 38) 1⟩,
  ⟨(some 11), none, .mv (.t 42)⟩,
  ⟨(some 12), none, .mv (.t 43)⟩]
def c6r7 : List AOper := [
  ⟨(some 45), none, .mv (.t 0)⟩,
  ⟨(some 46), none, .mv (.t 1)⟩,
  ⟨(some 47), none, .call (.c (.fn 30 [] [])) [(.t 45), (.t 46)]⟩,
  ⟨(some 44), none, .mv (.t 47)⟩,
  ⟨(some 48), none, .ext (.t 44) 0⟩,
  ⟨(some 49), none, .ext (.t 44) 1⟩,
  ⟨(some 13), none, .mv (.t 48)⟩,
  ⟨(some 14), none, .mv (.t 49)⟩]
def c6r8 : List AOper := [
  ⟨(some 51), none, .mv (.t 0)⟩,
  ⟨(some 52), none, .mv (.t 1)⟩,
  ⟨(some 53), none, .call (.c (.fn 31 [] [])) [(.t 51), (.t 52)]⟩,
  ⟨(some 50), none, .mv (.t 53)⟩,
  ⟨(some 54), none, .ext (.t 50) 0⟩,
  ⟨(some 55), none, .ext (.t 50) 1⟩,
  ⟨(some 15), none, .mv (.t 54)⟩,
  ⟨(some 16), none, .mv (.t 55)⟩]
def c6r9 : List AOper := [
  ⟨(some 56), none, .mv (.t 5)⟩,
  ⟨(some 57), none, .mv (.t 7)⟩,
  ⟨(some 58), none, .call (.c (.fn 32 [] [])) [(.t 56), (.t 57)]⟩,
  ⟨(some 59), none, .mv (.t 58)⟩,
  ⟨(some 60), (some (59, true)), .mv (.t 6)⟩,
  ⟨(some 61), (some (59, true)), .mv (.t 8)⟩,
  ⟨(some 62), (some (59, true)), .bin false .eql (.t 60) (.t 61)⟩,
  ⟨(some 63), none, .pick (.t 59) (.t 62) (.c (.b false))⟩,
  ⟨(some 64), none, .mv (.t 63)⟩,
  ⟨(some 65), (some (64, true)), .mv (.t 9)⟩,
  ⟨(some 66), (some (64, true)), .mv (.t 11)⟩,
  ⟨(some 67), (some (64, true)), .bin false .eql (.t 65) (.t 66)⟩,
  ⟨(some 68), none, .pick (.t 64) (.t 67) (.c (.b false))⟩,
  ⟨(some 69), none, .mv (.t 68)⟩,
  ⟨(some 70), (some (69, true)), .mv (.t 10)⟩,
  ⟨(some 71), (some (69, true)), .mv (.t 12)⟩,
  ⟨(some 72), (some (69, true)), .bin false .eql (.t 70) (.t 71)⟩,
  ⟨(some 73), none, .pick (.t 69) (.t 72) (.c (.b false))⟩,
  ⟨(some 74), none, .mv (.t 73)⟩,
  ⟨(some 75), (some (74, true)), .mv (.t 13)⟩,
  ⟨(some 76), (some (74, true)), .mv (.t 15)⟩,
  ⟨(some 77), (some (74, true)), .call (.c (.fn 33 [] [])) [(.t 75), (.t 76)]⟩,
  ⟨(some 78), none, .pick (.t 74) (.t 77) (.c (.b false))⟩,
  ⟨(some 79), none, .mv (.t 78)⟩,
  ⟨(some 80), (some (79, true)), .mv (.t 14)⟩,
  ⟨(some 81), (some (79, true)), .mv (.t 16)⟩,
  ⟨(some 82), (some (79, true)), .bin false .eql (.t 80) (.t 81)⟩,
  ⟨(some 83), none, .pick (.t 79) (.t 82) (.c (.b false))⟩,
  ⟨(some 84), none, .mv (.t 83)⟩,
  ⟨(some 85), (some (84, true)), .call (.c (.fn 24 [] [])) []⟩,
  ⟨(some 86), none, .pick (.t 84) (.t 85) (.c (.b false))⟩,
  ⟨(some 4), none, .mv (.t 86)⟩]
abbrev c6 : AC := (.seq (.reg c6r0) (.seq (.seq (.reg c6r1) (.cond (.t 18) (.seq (.reg c6r2) .ret) .skip)) (.seq (.reg c6r3) (.seq (.reg c6r4) (.seq (.reg c6r5) (.seq (.reg c6r6) (.seq (.reg c6r7) (.seq (.reg c6r8) (.seq (.reg c6r9) .ret)))))))))
def q6 : List ARes := [.t 4]
/-! 7: pantoscope/pantoscopelaw04.TempleWears · slots 138 · [0 h, 1 f, 2 n, 3 h, 4 f, 5 n, 7 a, 8 e, 9 b, 10 g, 11 c, 12 i, 13 d, 14 j] -/
def c7r0 : List AOper := [
  ⟨(some 3), none, .box (.t 0)⟩,
  ⟨(some 4), none, .box (.t 1)⟩,
  ⟨(some 5), none, .box (.t 2)⟩,
  ⟨(some 6), none, .mv (.c (.b false))⟩]
def c7r1 : List AOper := [
  ⟨(some 15), none, .ld (some 4) (.t 3)⟩,
  ⟨(some 16), none, .call (.c (.fn 34 [] [])) [(.t 15)]⟩,
  ⟨(some 17), none, .not (.t 16)⟩,
  ⟨(some 18), none, .mv (.t 17)⟩,
  ⟨(some 19), (some (18, false)), .iap 2 1 (.t 5) (.c (.i .i64 0))⟩,
  ⟨(some 20), (some (18, false)), .ld none (.t 19)⟩,
  ⟨(some 21), (some (18, false)), .bin false .lss (.t 20) (.c (.i .i64 0))⟩,
  ⟨(some 22), none, .pick (.t 18) (.c (.b true)) (.t 21)⟩,
  ⟨(some 23), none, .mv (.t 22)⟩,
  ⟨(some 24), (some (23, false)), .iap 2 1 (.t 5) (.c (.i .i64 1))⟩,
  ⟨(some 25), (some (23, false)), .ld none (.t 24)⟩,
  ⟨(some 26), (some (23, false)), .bin false .lss (.t 25) (.c (.i .i64 0))⟩,
  ⟨(some 27), none, .pick (.t 23) (.c (.b true)) (.t 26)⟩,
  ⟨(some 28), none, .mv (.t 27)⟩,
  ⟨(some 29), (some (28, false)), .iap 2 1 (.t 5) (.c (.i .i64 0))⟩,
  ⟨(some 30), (some (28, false)), .ld none (.t 29)⟩,
  ⟨(some 31), (some (28, false)), .bin false .gtr (.t 30) (.c (.i .i64 2000))⟩,
  ⟨(some 32), none, .pick (.t 28) (.c (.b true)) (.t 31)⟩,
  ⟨(some 33), none, .mv (.t 32)⟩,
  ⟨(some 34), (some (33, false)), .iap 2 1 (.t 5) (.c (.i .i64 1))⟩,
  ⟨(some 35), (some (33, false)), .ld none (.t 34)⟩,
  ⟨(some 36), (some (33, false)), .bin false .gtr (.t 35) (.c (.i .i64 2000))⟩,
  ⟨(some 37), none, .pick (.t 33) (.c (.b true)) (.t 36)⟩,
  ⟨(some 38), none, .mv (.t 37)⟩,
  ⟨(some 39), (some (38, false)), .iap 2 1 (.t 4) (.c (.i .i64 0))⟩,
  ⟨(some 40), (some (38, false)), .ld none (.t 39)⟩,
  ⟨(some 41), (some (38, false)), .bin false .lss (.t 40) (.c (.i .i64 0))⟩,
  ⟨(some 42), none, .pick (.t 38) (.c (.b true)) (.t 41)⟩,
  ⟨(some 43), none, .mv (.t 42)⟩,
  ⟨(some 44), (some (43, false)), .iap 2 1 (.t 4) (.c (.i .i64 0))⟩,
  ⟨(some 45), (some (43, false)), .ld none (.t 44)⟩,
  ⟨(some 46), (some (43, false)), .iap 2 1 (.t 4) (.c (.i .i64 1))⟩,
  ⟨(some 47), (some (43, false)), .ld none (.t 46)⟩,
  ⟨(some 48), (some (43, false)), .bin false .gtr (.t 45) (.t 47)⟩,
  ⟨(some 49), none, .pick (.t 43) (.c (.b true)) (.t 48)⟩,
  ⟨(some 50), none, .mv (.t 49)⟩,
  ⟨(some 51), (some (50, false)), .iap 2 1 (.t 4) (.c (.i .i64 1))⟩,
  ⟨(some 52), (some (50, false)), .ld none (.t 51)⟩,
  ⟨(some 53), (some (50, false)), .fa (.t 3) 1⟩,
  ⟨(some 54), (some (50, false)), .ld none (.t 53)⟩,
  ⟨(some 55), (some (50, false)), .bin false .gtr (.t 52) (.t 54)⟩,
  ⟨(some 56), none, .pick (.t 50) (.c (.b true)) (.t 55)⟩]
def c7r2 : List AOper := [
  ⟨(some 57), none, .call (.c (.fn 24 [] [])) []⟩,
  ⟨(some 6), none, .mv (.t 57)⟩]
def c7r3 : List AOper := [
  ⟨(some 59), none, .ld (some 4) (.t 3)⟩,
  ⟨(some 60), none, .iap 2 1 (.t 4) (.c (.i .i64 0))⟩,
  ⟨(some 61), none, .ld none (.t 60)⟩,
  ⟨(some 62), none, .iap 2 1 (.t 5) (.c (.i .i64 0))⟩,
  ⟨(some 63), none, .ld none (.t 62)⟩,
  ⟨(some 64), none, .call (.c (.fn 35 [] [])) [(.t 59), (.t 61), (.t 63)]⟩,
  ⟨(some 58), none, .mv (.t 64)⟩,
  ⟨(some 65), none, .ext (.t 58) 0⟩,
  ⟨(some 66), none, .ext (.t 58) 1⟩,
  ⟨(some 7), none, .mv (.t 65)⟩,
  ⟨(some 8), none, .mv (.t 66)⟩]
def c7r4 : List AOper := [
  ⟨(some 68), none, .ld (some 4) (.t 3)⟩,
  ⟨(some 69), none, .iap 2 1 (.t 4) (.c (.i .i64 1))⟩,
  ⟨(some 70), none, .ld none (.t 69)⟩,
  ⟨(some 71), none, .iap 2 1 (.t 5) (.c (.i .i64 0))⟩,
  ⟨(some 72), none, .ld none (.t 71)⟩,
  ⟨(some 73), none, .call (.c (.fn 35 [] [])) [(.t 68), (.t 70), (.t 72)]⟩,
  ⟨(some 67), none, .mv (.t 73)⟩,
  ⟨(some 74), none, .ext (.t 67) 0⟩,
  ⟨(some 75), none, .ext (.t 67) 1⟩,
  ⟨(some 9), none, .mv (.t 74)⟩,
  ⟨(some 10), none, .mv (.t 75)⟩]
def c7r5 : List AOper := [
  ⟨(some 77), none, .ld (some 4) (.t 3)⟩,
  ⟨(some 78), none, .mv (.t 7)⟩,
  ⟨(some 79), none, .iap 2 1 (.t 5) (.c (.i .i64 1))⟩,
  ⟨(some 80), none, .ld none (.t 79)⟩,
  ⟨(some 81), none, .call (.c (.fn 35 [] [])) [(.t 77), (.t 78), (.t 80)]⟩,
  ⟨(some 76), none, .mv (.t 81)⟩,
  ⟨(some 82), none, .ext (.t 76) 0⟩,
  ⟨(some 83), none, .ext (.t 76) 1⟩,
  ⟨(some 11), none, .mv (.t 82)⟩,
  ⟨(some 12), none, .mv (.t 83)⟩]
def c7r6 : List AOper := [
  ⟨(some 85), none, .ld (some 4) (.t 3)⟩,
  ⟨(some 86), none, .iap 2 1 (.t 4) (.c (.i .i64 0))⟩,
  ⟨(some 87), none, .ld none (.t 86)⟩,
  ⟨(some 88), none, .iap 2 1 (.t 5) (.c (.i .i64 0))⟩,
  ⟨(some 89), none, .ld none (.t 88)⟩,
  ⟨(some 90), none, .iap 2 1 (.t 5) (.c (.i .i64 1))⟩,
  ⟨(some 91), none, .ld none (.t 90)⟩,
  ⟨(some 92), none, .bin false .add (.t 89) (.t 91)⟩,
  ⟨(some 93), none, .call (.c (.fn 35 [] [])) [(.t 85), (.t 87), (.t 92)]⟩,
  ⟨(some 84), none, .mv (.t 93)⟩,
  ⟨(some 94), none, .ext (.t 84) 0⟩,
  ⟨(some 95), none, .ext (.t 84) 1⟩,
  ⟨(some 13), none, .mv (.t 94)⟩,
  ⟨(some 14), none, .mv (.t 95)⟩]
def c7r7 : List AOper := [
  ⟨(some 96), none, .mv (.t 8)⟩,
  ⟨(some 97), none, .bin false .eql (.t 96) (.c (.i .i64 0))⟩,
  ⟨(some 98), none, .mv (.t 97)⟩,
  ⟨(some 99), (some (98, true)), .mv (.t 10)⟩,
  ⟨(some 100), (some (98, true)), .bin false .eql (.t 99) (.c (.i .i64 0))⟩,
  ⟨(some 101), none, .pick (.t 98) (.t 100) (.c (.b false))⟩,
  ⟨(some 102), none, .mv (.t 101)⟩,
  ⟨(some 103), (some (102, true)), .mv (.t 12)⟩,
  ⟨(some 104), (some (102, true)), .bin false .eql (.t 103) (.c (.i .i64 0))⟩,
  ⟨(some 105), none, .pick (.t 102) (.t 104) (.c (.b false))⟩,
  ⟨(some 106), none, .mv (.t 105)⟩,
  ⟨(some 107), (some (106, true)), .mv (.t 14)⟩,
  ⟨(some 108), (some (106, true)), .bin false .eql (.t 107) (.c (.i .i64 0))⟩,
  ⟨(some 109), none, .pick (.t 106) (.t 108) (.c (.b false))⟩,
  ⟨(some 110), none, .mv (.t 109)⟩,
  ⟨(some 111), (some (110, true)), .mv (.t 7)⟩,
  ⟨(some 112), (some (110, true)), .mv (.t 9)⟩,
  ⟨(some 113), (some (110, true)), .bin false .leq (.t 111) (.t 112)⟩,
  ⟨(some 114), none, .pick (.t 110) (.t 113) (.c (.b false))⟩,
  ⟨(some 115), none, .mv (.t 114)⟩,
  ⟨(some 116), (some (115, true)), .mv (.t 7)⟩,
  ⟨(some 117), (some (115, true)), .iap 2 1 (.t 4) (.c (.i .i64 0))⟩,
  ⟨(some 118), (some (115, true)), .ld none (.t 117)⟩,
  ⟨(some 119), (some (115, true)), .bin false .leq (.t 116) (.t 118)⟩,
  ⟨(some 120), none, .pick (.t 115) (.t 119) (.c (.b false))⟩,
  ⟨(some 121), none, .mv (.t 120)⟩,
  ⟨(some 122), (some (121, true)), .mv (.t 7)⟩,
  ⟨(some 123), (some (121, true)), .bin false .geq (.t 122) (.c (.i .i64 0))⟩,
  ⟨(some 124), none, .pick (.t 121) (.t 123) (.c (.b false))⟩,
  ⟨(some 125), none, .mv (.t 124)⟩,
  ⟨(some 126), (some (125, true)), .mv (.t 11)⟩,
  ⟨(some 127), (some (125, true)), .mv (.t 13)⟩,
  ⟨(some 128), (some (125, true)), .bin false .eql (.t 126) (.t 127)⟩,
  ⟨(some 129), none, .pick (.t 125) (.t 128) (.c (.b false))⟩,
  ⟨(some 130), none, .mv (.t 129)⟩,
  ⟨(some 131), (some (130, true)), .mv (.t 11)⟩,
  ⟨(some 132), (some (130, true)), .mv (.t 7)⟩,
  ⟨(some 133), (some (130, true)), .bin false .leq (.t 131) (.t 132)⟩,
  ⟨(some 134), none, .pick (.t 130) (.t 133) (.c (.b false))⟩,
  ⟨(some 135), none, .mv (.t 134)⟩,
  ⟨(some 136), (some (135, true)), .call (.c (.fn 24 [] [])) []⟩,
  ⟨(some 137), none, .pick (.t 135) (.t 136) (.c (.b false))⟩,
  ⟨(some 6), none, .mv (.t 137)⟩]
abbrev c7 : AC := (.seq (.reg c7r0) (.seq (.seq (.reg c7r1) (.cond (.t 56) (.seq (.reg c7r2) .ret) .skip)) (.seq (.reg c7r3) (.seq (.reg c7r4) (.seq (.reg c7r5) (.seq (.reg c7r6) (.seq (.reg c7r7) .ret)))))))
def q7 : List ARes := [.t 6]
/-! 8: pantoscope/pantoscopelaw04.TempleTolerances · slots 71 · [0 l, 1 n, 2 l, 3 n, 5 t, 6 e, 7 u, 8 f, 9 m, 10 g, 11 k, 12 h] -/
def c8r0 : List AOper := [
  ⟨(some 4), none, .mv (.c (.b false))⟩]
def c8r1 : List AOper := [
  ⟨(some 13), none, .mv (.t 0)⟩,
  ⟨(some 14), none, .call (.c (.fn 23 [] [])) [(.t 13), (.c (.i .i64 24))]⟩]
def c8r2 : List AOper := [
  ⟨(some 15), none, .call (.c (.fn 24 [] [])) []⟩,
  ⟨(some 4), none, .mv (.t 15)⟩]
def c8r3 : List AOper := [
  ⟨(some 17), none, .mv (.t 0)⟩,
  ⟨(some 18), none, .mv (.t 1)⟩,
  ⟨(some 19), none, .call (.c (.fn 22 [] [])) [(.t 17), (.t 18)]⟩,
  ⟨(some 16), none, .mv (.t 19)⟩,
  ⟨(some 20), none, .ext (.t 16) 0⟩,
  ⟨(some 21), none, .ext (.t 16) 1⟩,
  ⟨(some 5), none, .mv (.t 20)⟩,
  ⟨(some 6), none, .mv (.t 21)⟩]
def c8r4 : List AOper := [
  ⟨(some 23), none, .mv (.t 0)⟩,
  ⟨(some 24), none, .mv (.t 1)⟩,
  ⟨(some 25), none, .call (.c (.fn 36 [] [])) [(.t 23), (.t 24)]⟩,
  ⟨(some 22), none, .mv (.t 25)⟩,
  ⟨(some 26), none, .ext (.t 22) 0⟩,
  ⟨(some 27), none, .ext (.t 22) 1⟩,
  ⟨(some 7), none, .mv (.t 26)⟩,
  ⟨(some 8), none, .mv (.t 27)⟩]
def c8r5 : List AOper := [
  ⟨(some 28), none, .mv (.t 5)⟩,
  ⟨(some 29), none, .mv (.t 7)⟩,
  ⟨(some 30), none, .bin false .neq (.t 28) (.t 29)⟩,
  ⟨(some 31), none, .mv (.t 30)⟩,
  ⟨(some 32), (some (31, false)), .mv (.t 6)⟩,
  ⟨(some 33), (some (31, false)), .mv (.t 8)⟩,
  ⟨(some 34), (some (31, false)), .bin false .neq (.t 32) (.t 33)⟩,
  ⟨(some 35), none, .pick (.t 31) (.c (.b true)) (.t 34)⟩,
  ⟨(some 36), none, .mv (.t 35)⟩,
  ⟨(some 37), (some (36, false)), .call (.c (.fn 24 [] [])) []⟩,
  ⟨(some 38), (some (36, false)), .not (.t 37)⟩,
  ⟨(some 39), none, .pick (.t 36) (.c (.b true)) (.t 38)⟩]
def c8r6 : List AOper := [
  ⟨(some 4), none, .mv (.c (.b false))⟩]
def c8r7 : List AOper := [
  ⟨(some 40), none, .mv (.t 6)⟩,
  ⟨(some 41), none, .bin false .neq (.t 40) (.c (.i .i64 0))⟩]
def c8r8 : List AOper := [
  ⟨(some 4), none, .mv (.c (.b true))⟩]
def c8r9 : List AOper := [
  ⟨(some 43), none, .mv (.t 0)⟩,
  ⟨(some 44), none, .mv (.t 5)⟩,
  ⟨(some 45), none, .call (.c (.fn 16 [] [])) [(.t 43), (.t 44)]⟩,
  ⟨(some 42), none, .mv (.t 45)⟩,
  ⟨(some 46), none, .ext (.t 42) 0⟩,
  ⟨(some 47), none, .ext (.t 42) 1⟩,
  ⟨(some 9), none, .mv (.t 46)⟩,
  ⟨(some 10), none, .mv (.t 47)⟩]
def c8r10 : List AOper := [
  ⟨(some 48), none, .mv (.t 10)⟩,
  ⟨(some 49), none, .bin false .neq (.t 48) (.c (.i .i64 0))⟩,
  ⟨(some 50), none, .mv (.t 49)⟩,
  ⟨(some 51), (some (50, false)), .mv (.t 9)⟩,
  ⟨(some 52), (some (50, false)), .mv (.t 1)⟩,
  ⟨(some 53), (some (50, false)), .bin false .lss (.t 51) (.t 52)⟩,
  ⟨(some 54), none, .pick (.t 50) (.c (.b true)) (.t 53)⟩]
def c8r11 : List AOper := [
  ⟨(some 4), none, .mv (.c (.b false))⟩]
def c8r12 : List AOper := [
  ⟨(some 55), none, .mv (.t 5)⟩,
  ⟨(some 56), none, .bin false .eql (.t 55) (.c (.i .i64 0))⟩]
def c8r13 : List AOper := [
  ⟨(some 4), none, .mv (.c (.b true))⟩]
def c8r14 : List AOper := [
  ⟨(some 58), none, .mv (.t 0)⟩,
  ⟨(some 59), none, .mv (.t 5)⟩,
  ⟨(some 60), none, .bin false .sub (.t 59) (.c (.i .i64 1))⟩,
  ⟨(some 61), none, .call (.c (.fn 16 [] [])) [(.t 58), (.t 60)]⟩,
  ⟨(some 57), none, .mv (.t 61)⟩,
  ⟨(some 62), none, .ext (.t 57) 0⟩,
  ⟨(some 63), none, .ext (.t 57) 1⟩,
  ⟨(some 11), none, .mv (.t 62)⟩,
  ⟨(some 12), none, .mv (.t 63)⟩]
def c8r15 : List AOper := [
  ⟨(some 64), none, .mv (.t 12)⟩,
  ⟨(some 65), none, .bin false .eql (.t 64) (.c (.i .i64 0))⟩,
  ⟨(some 66), none, .mv (.t 65)⟩,
  ⟨(some 67), (some (66, true)), .mv (.t 11)⟩,
  ⟨(some 68), (some (66, true)), .mv (.t 1)⟩,
  ⟨(some 69), (some (66, true)), .bin false .lss (.t 67) (.t 68)⟩,
  ⟨(some 70), none, .pick (.t 66) (.t 69) (.c (.b false))⟩,
  ⟨(some 4), none, .mv (.t 70)⟩]
abbrev c8 : AC := (.seq (.reg c8r0) (.seq (.seq (.reg c8r1) (.cond (.t 14) (.seq (.reg c8r2) .ret) .skip)) (.seq (.reg c8r3) (.seq (.reg c8r4) (.seq (.seq (.reg c8r5) (.cond (.t 39) (.seq (.reg c8r6) .ret) .skip)) (.seq (.seq (.reg c8r7) (.cond (.t 41) (.seq (.reg c8r8) .ret) .skip)) (.seq (.reg c8r9) (.seq (.seq (.reg c8r10) (.cond (.t 54) (.seq (.reg c8r11) .ret) .skip)) (.seq (.seq (.reg c8r12) (.cond (.t 56) (.seq (.reg c8r13) .ret) .skip)) (.seq (.reg c8r14) (.seq (.reg c8r15) .ret)))))))))))
def q8 : List ARes := [.t 4]
/-! 14: pantoscope/pantoscoperef04.Valid · slots 36 · [0 l, 1 l, 3 i, 4 k] -/
def c14r0 : List AOper := [
  ⟨(some 2), none, .mv (.c (.b false))⟩]
def c14r1 : List AOper := [
  ⟨(some 5), none, .mv (.t 0)⟩,
  ⟨(some 6), none, .len (.t 5)⟩,
  ⟨(some 7), none, .bin false .gtr (.t 6) (.c (.i .i64 60))⟩]
def c14r2 : List AOper := [
  ⟨(some 2), none, .mv (.c (.b false))⟩]
def c14r3 : List AOper := [
  ⟨(some 3), none, .mv (.c (.i .i64 0))⟩]
def c14r4 : List AOper := [
  ⟨(some 8), none, .mv (.t 3)⟩,
  ⟨(some 9), none, .mv (.t 0)⟩,
  ⟨(some 10), none, .len (.t 9)⟩,
  ⟨(some 11), none, .bin false .lss (.t 8) (.t 10)⟩]
def c14r5 : List AOper := [
  ⟨(some 14), none, .mv (.t 0)⟩,
  ⟨(some 15), none, .mv (.t 3)⟩,
  ⟨(some 16), none, .ia 4 (.t 14) (.t 15)⟩,
  ⟨(some 17), none, .ld (some 4) (.t 16)⟩,
  ⟨(some 18), none, .call (.c (.fn 48 [] [])) [(.t 17)]⟩,
  ⟨(some 19), none, .not (.t 18)⟩]
def c14r6 : List AOper := [
  ⟨(some 2), none, .mv (.c (.b false))⟩]
def c14r7 : List AOper := [
  ⟨(some 4), none, .mv (.c (.i .i64 0))⟩]
def c14r8 : List AOper := [
  ⟨(some 20), none, .mv (.t 4)⟩,
  ⟨(some 21), none, .mv (.t 3)⟩,
  ⟨(some 22), none, .bin false .lss (.t 20) (.t 21)⟩]
def c14r9 : List AOper := [
  ⟨(some 25), none, .mv (.t 0)⟩,
  ⟨(some 26), none, .mv (.t 4)⟩,
  ⟨(some 27), none, .ia 4 (.t 25) (.t 26)⟩,
  ⟨(some 28), none, .fa (.t 27) 0⟩,
  ⟨(some 29), none, .ld none (.t 28)⟩,
  ⟨(some 30), none, .mv (.t 0)⟩,
  ⟨(some 31), none, .mv (.t 3)⟩,
  ⟨(some 32), none, .ia 4 (.t 30) (.t 31)⟩,
  ⟨(some 33), none, .fa (.t 32) 0⟩,
  ⟨(some 34), none, .ld none (.t 33)⟩,
  ⟨(some 35), none, .bin false .eql (.t 29) (.t 34)⟩]
def c14r10 : List AOper := [
  ⟨(some 2), none, .mv (.c (.b false))⟩]
def c14r11 : List AOper := [
  ⟨(some 23), none, .mv (.t 4)⟩,
  ⟨(some 24), none, .bin false .add (.t 23) (.c (.i .i64 1))⟩,
  ⟨(some 4), none, .mv (.t 24)⟩]
abbrev c14b12 : AC := (.seq (.seq (.reg c14r8) (.cond (.t 22) .skip (.exit 2))) (.seq (.blk 3 (.seq (.head 10 c14r9) (.cond (.t 35) (.seq (.reg c14r10) .ret) .skip))) (.reg c14r11)))
def c14r13 : List AOper := [
  ⟨(some 12), none, .mv (.t 3)⟩,
  ⟨(some 13), none, .bin false .add (.t 12) (.c (.i .i64 1))⟩,
  ⟨(some 3), none, .mv (.t 13)⟩]
abbrev c14b14 : AC := (.seq (.seq (.reg c14r4) (.cond (.t 11) .skip (.exit 0))) (.seq (.blk 1 (.seq (.seq (.reg c14r5) (.cond (.t 19) (.seq (.reg c14r6) .ret) .skip)) (.seq (.reg c14r7) (.blk 2 (.loop c14b12))))) (.reg c14r13)))
def c14r15 : List AOper := [
  ⟨(some 2), none, .mv (.c (.b true))⟩]
abbrev c14 : AC := (.seq (.reg c14r0) (.seq (.seq (.reg c14r1) (.cond (.t 7) (.seq (.reg c14r2) .ret) .skip)) (.seq (.seq (.reg c14r3) (.blk 0 (.loop c14b14))) (.seq (.reg c14r15) .ret))))
def q14 : List ARes := [.t 2]
theorem fn14 : fnOf Try.prog 14 = some (c14, q14, 36) := by kernel_rfl
/-! 15: pantoscope/pantoscopetop.paired · slots 18 · [1 l, 2 n, 3 e] -/
def c15r0 : List AOper := [
  ⟨(some 0), none, .mv (.c (.b false))⟩]
def c15r1 : List AOper := [
  ⟨(some 4), none, .bld [.i .i64 0, .i .i64 0, .i .i64 0, .i .i64 0] [(0, 1, (.c (.i .i64 1))), (1, 1, (.c (.i .i64 1))), (2, 1, (.c (.i .i64 10))), (3, 1, (.c (.i .i64 1)))]⟩,
  ⟨(some 5), none, .bld [.i .i64 0, .i .i64 0, .i .i64 0, .i .i64 0] [(0, 1, (.c (.i .i64 2))), (1, 1, (.c (.i .i64 2))), (2, 1, (.c (.i .i64 10))), (3, 1, (.c (.i .i64 1)))]⟩,
  ⟨(some 6), none, .bsl 4 [.i .i64 0, .i .i64 0, .i .i64 0, .i .i64 0, .i .i64 0, .i .i64 0, .i .i64 0, .i .i64 0] [(0, 4, (.t 4)), (4, 4, (.t 5))]⟩,
  ⟨(some 1), none, .mv (.t 6)⟩]
def c15r2 : List AOper := [
  ⟨(some 8), none, .mv (.t 1)⟩,
  ⟨(some 9), none, .call (.c (.fn 16 [] [])) [(.t 8), (.c (.i .i64 0))]⟩,
  ⟨(some 7), none, .mv (.t 9)⟩,
  ⟨(some 10), none, .ext (.t 7) 0⟩,
  ⟨(some 11), none, .ext (.t 7) 1⟩,
  ⟨(some 2), none, .mv (.t 10)⟩,
  ⟨(some 3), none, .mv (.t 11)⟩]
def c15r3 : List AOper := [
  ⟨(some 12), none, .mv (.t 3)⟩,
  ⟨(some 13), none, .bin false .eql (.t 12) (.c (.i .i64 0))⟩,
  ⟨(some 14), none, .mv (.t 13)⟩,
  ⟨(some 15), (some (14, true)), .mv (.t 2)⟩,
  ⟨(some 16), (some (14, true)), .bin false .eql (.t 15) (.c (.i .i64 1))⟩,
  ⟨(some 17), none, .pick (.t 14) (.t 16) (.c (.b false))⟩,
  ⟨(some 0), none, .mv (.t 17)⟩]
abbrev c15 : AC := (.seq (.reg c15r0) (.seq (.reg c15r1) (.seq (.reg c15r2) (.seq (.reg c15r3) .ret))))
def q15 : List ARes := [.t 0]
theorem fn15 : fnOf Try.prog 15 = some (c15, q15, 18) := by kernel_rfl
/-! 16: pantoscope/temple.Most · slots 17 · [0 l, 1 tol, 2 l, 3 tol, 6 pairs, 7 e] -/
def c16r0 : List AOper := [
  ⟨(some 4), none, .mv (.c (.i .i64 0))⟩,
  ⟨(some 5), none, .mv (.c (.i .i64 0))⟩]
def c16r1 : List AOper := [
  ⟨(some 9), none, .mv (.t 0)⟩,
  ⟨(some 10), none, .mv (.t 1)⟩,
  ⟨(some 11), none, .call (.c (.fn 17 [] [])) [(.t 9), (.t 10)]⟩,
  ⟨(some 8), none, .mv (.t 11)⟩,
  ⟨(some 12), none, .ext (.t 8) 0⟩,
  ⟨(some 13), none, .ext (.t 8) 1⟩,
  ⟨(some 6), none, .mv (.t 12)⟩,
  ⟨(some 7), none, .mv (.t 13)⟩]
def c16r2 : List AOper := [
  ⟨(some 14), none, .mv (.t 6)⟩,
  ⟨(some 15), none, .len (.t 14)⟩,
  ⟨(some 16), none, .mv (.t 7)⟩,
  ⟨(some 4), none, .mv (.t 15)⟩,
  ⟨(some 5), none, .mv (.t 16)⟩]
abbrev c16 : AC := (.seq (.reg c16r0) (.seq (.reg c16r1) (.seq (.reg c16r2) .ret)))
def q16 : List ARes := [.t 4, .t 5]
theorem fn16 : fnOf Try.prog 16 = some (c16, q16, 17) := by kernel_rfl
/-! 17: pantoscope/temple.Match · slots 16 · [0 l, 1 tol, 2 l, 3 tol, 6 e] -/
def c17r0 : List AOper := [
  ⟨(some 4), none, .mv (.c (.sl 0 0 0 0))⟩,
  ⟨(some 5), none, .mv (.c (.i .i64 0))⟩]
def c17r1 : List AOper := [
  ⟨(some 7), none, .mv (.t 0)⟩,
  ⟨(some 8), none, .mv (.t 1)⟩,
  ⟨(some 9), none, .call (.c (.fn 49 [] [])) [(.t 7), (.t 8)]⟩,
  ⟨(some 6), none, .mv (.t 9)⟩]
def c17r2 : List AOper := [
  ⟨(some 10), none, .mv (.t 6)⟩,
  ⟨(some 11), none, .bin false .neq (.t 10) (.c (.i .i64 0))⟩]
def c17r3 : List AOper := [
  ⟨(some 12), none, .mv (.t 6)⟩,
  ⟨(some 4), none, .mv (.c (.sl 0 0 0 0))⟩,
  ⟨(some 5), none, .mv (.t 12)⟩]
def c17r4 : List AOper := [
  ⟨(some 13), none, .mv (.t 0)⟩,
  ⟨(some 14), none, .mv (.t 1)⟩,
  ⟨(some 15), none, .call (.c (.fn 50 [] [])) [(.t 13), (.t 14)]⟩,
  ⟨(some 4), none, .mv (.t 15)⟩,
  ⟨(some 5), none, .mv (.c (.i .i64 0))⟩]
abbrev c17 : AC := (.seq (.reg c17r0) (.seq (.seq (.reg c17r1) (.seq (.reg c17r2) (.cond (.t 11) (.seq (.reg c17r3) .ret) .skip))) (.seq (.reg c17r4) .ret)))
def q17 : List ARes := [.t 4, .t 5]
theorem fn17 : fnOf Try.prog 17 = some (c17, q17, 16) := by kernel_rfl
/-! 18: pantoscope/temple.Guard · slots 97 · [0 l, 1 tol, 2 l, 3 tol, 6 pairs, 7 e, 8 partner, 9 paired, 10 _, 11 p, 12 reached, 13 visit, 14 i, 15 t, 16 out, 17 i, 18 t] -/
def c18r0 : List AOper := [
  ⟨(some 2), none, .box (.t 0)⟩,
  ⟨(some 3), none, .box (.t 1)⟩,
  ⟨(some 4), none, .mv (.c (.sl 0 0 0 0))⟩,
  ⟨(some 5), none, .mv (.c (.i .i64 0))⟩]
def c18r1 : List AOper := [
  ⟨(some 20), none, .ld none (.t 2)⟩,
  ⟨(some 21), none, .ld none (.t 3)⟩,
  ⟨(some 22), none, .call (.c (.fn 17 [] [])) [(.t 20), (.t 21)]⟩,
  ⟨(some 19), none, .mv (.t 22)⟩,
  ⟨(some 23), none, .ext (.t 19) 0⟩,
  ⟨(some 24), none, .ext (.t 19) 1⟩,
  ⟨(some 6), none, .mv (.t 23)⟩,
  ⟨(some 7), none, .mv (.t 24)⟩]
def c18r2 : List AOper := [
  ⟨(some 25), none, .mv (.t 7)⟩,
  ⟨(some 26), none, .bin false .neq (.t 25) (.c (.i .i64 0))⟩]
def c18r3 : List AOper := [
  ⟨(some 27), none, .mv (.t 7)⟩,
  ⟨(some 4), none, .mv (.c (.sl 0 0 0 0))⟩,
  ⟨(some 5), none, .mv (.t 27)⟩]
def c18r4 : List AOper := [
  ⟨(some 28), none, .mkm⟩,
  ⟨(some 8), none, .alloc [.nilm]⟩,
  ⟨none, none, .sto none (.t 8) (.t 28)⟩]
def c18r5 : List AOper := [
  ⟨(some 29), none, .mkm⟩,
  ⟨(some 9), none, .mv (.t 29)⟩]
def c18r6 : List AOper := [
  ⟨(some 30), none, .mv (.t 6)⟩,
  ⟨(some 31), none, .len (.t 30)⟩,
  ⟨(some 32), none, .mv (.c (.i .i64 0))⟩]
def c18r7 : List AOper := [
  ⟨(some 33), none, .bin false .lss (.t 32) (.t 31)⟩]
def c18r8 : List AOper := [
  ⟨(some 34), none, .ia 2 (.t 30) (.t 32)⟩,
  ⟨(some 35), none, .ld (some 2) (.t 34)⟩,
  ⟨(some 11), none, .alloc [.i .i64 0, .i .i64 0]⟩,
  ⟨none, none, .sto (some 2) (.t 11) (.t 35)⟩]
def c18r9 : List AOper := [
  ⟨(some 36), none, .ld none (.t 8)⟩,
  ⟨(some 37), none, .iap 2 1 (.t 11) (.c (.i .i64 1))⟩,
  ⟨(some 38), none, .ld none (.t 37)⟩,
  ⟨(some 39), none, .iap 2 1 (.t 11) (.c (.i .i64 0))⟩,
  ⟨(some 40), none, .ld none (.t 39)⟩,
  ⟨none, none, .mup none (.t 36) (.t 38) (.t 40)⟩]
def c18r10 : List AOper := [
  ⟨(some 41), none, .mv (.t 9)⟩,
  ⟨(some 42), none, .iap 2 1 (.t 11) (.c (.i .i64 0))⟩,
  ⟨(some 43), none, .ld none (.t 42)⟩,
  ⟨none, none, .mup none (.t 41) (.t 43) (.c (.b true))⟩]
def c18r11 : List AOper := [
  ⟨(some 44), none, .bin false .add (.t 32) (.c (.i .i64 1))⟩,
  ⟨(some 32), none, .mv (.t 44)⟩]
abbrev c18b12 : AC := (.seq (.reg c18r7) (.seq (.cond (.t 33) .skip (.exit 0)) (.seq (.blk 1 (.seq (.reg c18r8) (.seq (.reg c18r9) (.reg c18r10)))) (.reg c18r11))))
def c18r13 : List AOper := [
  ⟨(some 45), none, .ld none (.t 2)⟩,
  ⟨(some 46), none, .len (.t 45)⟩,
  ⟨(some 47), none, .mks 1 1 [.b false] (.t 46) (.t 46)⟩,
  ⟨(some 12), none, .alloc [.sl 0 0 0 0]⟩,
  ⟨none, none, .sto none (.t 12) (.t 47)⟩]
def c18r14 : List AOper := [
  ⟨(some 13), none, .alloc [.nilf]⟩]
def c18r15 : List AOper := [
  ⟨(some 48), none, .mkf 51 [] [(.t 12), (.t 2), (.t 3), (.t 8), (.t 13)]⟩,
  ⟨none, none, .sto none (.t 13) (.t 48)⟩]
def c18r16 : List AOper := [
  ⟨(some 49), none, .ld none (.t 2)⟩,
  ⟨(some 50), none, .len (.t 49)⟩,
  ⟨(some 51), none, .mv (.c (.i .i64 0))⟩]
def c18r17 : List AOper := [
  ⟨(some 52), none, .bin false .lss (.t 51) (.t 50)⟩]
def c18r18 : List AOper := [
  ⟨(some 53), none, .mv (.t 51)⟩,
  ⟨(some 54), none, .ia 4 (.t 49) (.t 51)⟩,
  ⟨(some 55), none, .ld (some 4) (.t 54)⟩,
  ⟨(some 15), none, .alloc [.i .i64 0, .i .i64 0, .i .i64 0, .i .i64 0]⟩,
  ⟨(some 14), none, .mv (.t 53)⟩,
  ⟨none, none, .sto (some 4) (.t 15) (.t 55)⟩]
def c18r19 : List AOper := [
  ⟨(some 56), none, .fa (.t 15) 1⟩,
  ⟨(some 57), none, .ld none (.t 56)⟩,
  ⟨(some 58), none, .bin false .eql (.t 57) (.c (.i .i64 1))⟩,
  ⟨(some 59), none, .mv (.t 58)⟩,
  ⟨(some 60), (some (59, true)), .mv (.t 9)⟩,
  ⟨(some 61), (some (59, true)), .mv (.t 14)⟩,
  ⟨(some 62), (some (59, true)), .mlk none (.b false) false (.t 60) (.t 61)⟩,
  ⟨(some 63), (some (59, true)), .not (.t 62)⟩,
  ⟨(some 64), none, .pick (.t 59) (.t 63) (.c (.b false))⟩,
  ⟨(some 65), none, .mv (.t 64)⟩,
  ⟨(some 66), (some (65, true)), .ld none (.t 12)⟩,
  ⟨(some 67), (some (65, true)), .mv (.t 14)⟩,
  ⟨(some 68), (some (65, true)), .ia 1 (.t 66) (.t 67)⟩,
  ⟨(some 69), (some (65, true)), .ld none (.t 68)⟩,
  ⟨(some 70), (some (65, true)), .not (.t 69)⟩,
  ⟨(some 71), none, .pick (.t 65) (.t 70) (.c (.b false))⟩]
def c18r20 : List AOper := [
  ⟨(some 72), none, .ld none (.t 13)⟩,
  ⟨(some 73), none, .mv (.t 14)⟩,
  ⟨(some 74), none, .call (.t 72) [(.t 73)]⟩]
def c18r21 : List AOper := [
  ⟨(some 75), none, .bin false .add (.t 51) (.c (.i .i64 1))⟩,
  ⟨(some 51), none, .mv (.t 75)⟩]
abbrev c18b22 : AC := (.seq (.reg c18r17) (.seq (.cond (.t 52) .skip (.exit 2)) (.seq (.blk 3 (.seq (.reg c18r18) (.seq (.reg c18r19) (.cond (.t 71) (.reg c18r20) .skip)))) (.reg c18r21))))
def c18r23 : List AOper := [
  ⟨(some 16), none, .mv (.c (.sl 0 0 0 0))⟩]
def c18r24 : List AOper := [
  ⟨(some 76), none, .ld none (.t 2)⟩,
  ⟨(some 77), none, .len (.t 76)⟩,
  ⟨(some 78), none, .mv (.c (.i .i64 0))⟩]
def c18r25 : List AOper := [
  ⟨(some 79), none, .bin false .lss (.t 78) (.t 77)⟩]
def c18r26 : List AOper := [
  ⟨(some 80), none, .mv (.t 78)⟩,
  ⟨(some 81), none, .ia 4 (.t 76) (.t 78)⟩,
  ⟨(some 82), none, .ld (some 4) (.t 81)⟩,
  ⟨(some 18), none, .alloc [.i .i64 0, .i .i64 0, .i .i64 0, .i .i64 0]⟩,
  ⟨(some 17), none, .mv (.t 80)⟩,
  ⟨none, none, .sto (some 4) (.t 18) (.t 82)⟩]
def c18r27 : List AOper := [
  ⟨(some 83), none, .fa (.t 18) 1⟩,
  ⟨(some 84), none, .ld none (.t 83)⟩,
  ⟨(some 85), none, .bin false .eql (.t 84) (.c (.i .i64 2))⟩,
  ⟨(some 86), none, .ld none (.t 12)⟩,
  ⟨(some 87), none, .mv (.t 17)⟩,
  ⟨(some 88), none, .ia 1 (.t 86) (.t 87)⟩,
  ⟨(some 89), none, .ld none (.t 88)⟩,
  ⟨(some 90), none, .bin true .eql (.t 85) (.t 89)⟩]
def c18r28 : List AOper := [
  ⟨(some 91), none, .mv (.t 16)⟩,
  ⟨(some 92), none, .mv (.t 17)⟩,
  ⟨(some 93), none, .bsl 1 [.i .i64 0] [(0, 1, (.t 92))]⟩,
  ⟨(some 94), none, .app 1 8 (.t 91) (.t 93)⟩,
  ⟨(some 16), none, .mv (.t 94)⟩]
def c18r29 : List AOper := [
  ⟨(some 95), none, .bin false .add (.t 78) (.c (.i .i64 1))⟩,
  ⟨(some 78), none, .mv (.t 95)⟩]
abbrev c18b30 : AC := (.seq (.reg c18r25) (.seq (.cond (.t 79) .skip (.exit 4)) (.seq (.blk 5 (.seq (.reg c18r26) (.seq (.head 7 c18r27) (.cond (.t 90) (.reg c18r28) .skip)))) (.reg c18r29))))
def c18r31 : List AOper := [
  ⟨(some 96), none, .mv (.t 16)⟩,
  ⟨(some 4), none, .mv (.t 96)⟩,
  ⟨(some 5), none, .mv (.c (.i .i64 0))⟩]
abbrev c18 : AC := (.seq (.reg c18r0) (.seq (.reg c18r1) (.seq (.seq (.reg c18r2) (.cond (.t 26) (.seq (.reg c18r3) .ret) .skip)) (.seq (.reg c18r4) (.seq (.reg c18r5) (.seq (.seq (.reg c18r6) (.blk 0 (.loop c18b12))) (.seq (.reg c18r13) (.seq (.reg c18r14) (.seq (.reg c18r15) (.seq (.seq (.reg c18r16) (.blk 2 (.loop c18b22))) (.seq (.reg c18r23) (.seq (.seq (.reg c18r24) (.blk 4 (.loop c18b30))) (.seq (.reg c18r31) .ret)))))))))))))
def q18 : List ARes := [.t 4, .t 5]
theorem fn18 : fnOf Try.prog 18 = some (c18, q18, 97) := by kernel_rfl
/-! 19: pantoscope/pantoscoperef04.Check · slots 17 · [0 l, 1 tol, 2 pairs, 3 l, 4 tol, 5 pairs] -/
def c19r0 : List AOper := [
  ⟨(some 6), none, .mv (.c (.i .i64 0))⟩]
def c19r1 : List AOper := [
  ⟨(some 7), none, .mv (.t 0)⟩,
  ⟨(some 8), none, .call (.c (.fn 14 [] [])) [(.t 7)]⟩,
  ⟨(some 9), none, .not (.t 8)⟩]
def c19r2 : List AOper := [
  ⟨(some 6), none, .mv (.c (.i .i64 40))⟩]
def c19r3 : List AOper := [
  ⟨(some 10), none, .mv (.t 1)⟩,
  ⟨(some 11), none, .call (.c (.fn 53 [] [])) [(.t 10)]⟩,
  ⟨(some 12), none, .not (.t 11)⟩]
def c19r4 : List AOper := [
  ⟨(some 6), none, .mv (.c (.i .i64 2))⟩]
def c19r5 : List AOper := [
  ⟨(some 13), none, .mv (.t 0)⟩,
  ⟨(some 14), none, .mv (.t 1)⟩,
  ⟨(some 15), none, .mv (.t 2)⟩,
  ⟨(some 16), none, .call (.c (.fn 54 [] [])) [(.t 13), (.t 14), (.t 15)]⟩,
  ⟨(some 6), none, .mv (.t 16)⟩]
abbrev c19 : AC := (.seq (.reg c19r0) (.seq (.seq (.reg c19r1) (.cond (.t 9) (.seq (.reg c19r2) .ret) .skip)) (.seq (.seq (.reg c19r3) (.cond (.t 12) (.seq (.reg c19r4) .ret) .skip)) (.seq (.reg c19r5) .ret))))
def q19 : List ARes := [.t 6]
theorem fn19 : fnOf Try.prog 19 = some (c19, q19, 17) := by kernel_rfl
/-! 20: pantoscope/pantoscoperef04.IsGuard · slots 85 · [0 l, 1 tol, 2 list, 3 l, 4 tol, 5 list, 8 e, 9 in, 10 i, 11 i, 12 k] -/
def c20r0 : List AOper := [
  ⟨(some 6), none, .mv (.c (.b false))⟩,
  ⟨(some 7), none, .mv (.c (.i .i64 0))⟩]
def c20r1 : List AOper := [
  ⟨(some 13), none, .mv (.t 0)⟩,
  ⟨(some 14), none, .mv (.t 1)⟩,
  ⟨(some 15), none, .call (.c (.fn 55 [] [])) [(.t 13), (.t 14)]⟩,
  ⟨(some 8), none, .mv (.t 15)⟩]
def c20r2 : List AOper := [
  ⟨(some 16), none, .mv (.t 8)⟩,
  ⟨(some 17), none, .bin false .neq (.t 16) (.c (.i .i64 0))⟩]
def c20r3 : List AOper := [
  ⟨(some 18), none, .mv (.t 8)⟩,
  ⟨(some 6), none, .mv (.c (.b false))⟩,
  ⟨(some 7), none, .mv (.t 18)⟩]
def c20r4 : List AOper := [
  ⟨(some 19), none, .mv (.t 0)⟩,
  ⟨(some 20), none, .len (.t 19)⟩,
  ⟨(some 21), none, .mks 1 1 [.b false] (.t 20) (.t 20)⟩,
  ⟨(some 9), none, .mv (.t 21)⟩]
def c20r5 : List AOper := [
  ⟨(some 10), none, .mv (.c (.i .i64 0))⟩]
def c20r6 : List AOper := [
  ⟨(some 22), none, .mv (.t 10)⟩,
  ⟨(some 23), none, .mv (.t 2)⟩,
  ⟨(some 24), none, .len (.t 23)⟩,
  ⟨(some 25), none, .bin false .lss (.t 22) (.t 24)⟩]
def c20r7 : List AOper := [
  ⟨(some 28), none, .mv (.t 0)⟩,
  ⟨(some 29), none, .mv (.t 2)⟩,
  ⟨(some 30), none, .mv (.t 10)⟩,
  ⟨(some 31), none, .ia 1 (.t 29) (.t 30)⟩,
  ⟨(some 32), none, .ld none (.t 31)⟩,
  ⟨(some 33), none, .call (.c (.fn 56 [] [])) [(.t 28), (.t 32)]⟩,
  ⟨(some 34), none, .not (.t 33)⟩,
  ⟨(some 35), none, .mv (.t 34)⟩,
  ⟨(some 36), (some (35, false)), .mv (.t 9)⟩,
  ⟨(some 37), (some (35, false)), .mv (.t 2)⟩,
  ⟨(some 38), (some (35, false)), .mv (.t 10)⟩,
  ⟨(some 39), (some (35, false)), .ia 1 (.t 37) (.t 38)⟩,
  ⟨(some 40), (some (35, false)), .ld none (.t 39)⟩,
  ⟨(some 41), (some (35, false)), .ia 1 (.t 36) (.t 40)⟩,
  ⟨(some 42), (some (35, false)), .ld none (.t 41)⟩,
  ⟨(some 43), none, .pick (.t 35) (.c (.b true)) (.t 42)⟩]
def c20r8 : List AOper := [
  ⟨(some 6), none, .mv (.c (.b false))⟩,
  ⟨(some 7), none, .mv (.c (.i .i64 2))⟩]
def c20r9 : List AOper := [
  ⟨(some 44), none, .mv (.t 9)⟩,
  ⟨(some 45), none, .mv (.t 2)⟩,
  ⟨(some 46), none, .mv (.t 10)⟩,
  ⟨(some 47), none, .ia 1 (.t 45) (.t 46)⟩,
  ⟨(some 48), none, .ld none (.t 47)⟩,
  ⟨(some 49), none, .ia 1 (.t 44) (.t 48)⟩,
  ⟨none, none, .sto none (.t 49) (.c (.b true))⟩]
def c20r10 : List AOper := [
  ⟨(some 26), none, .mv (.t 10)⟩,
  ⟨(some 27), none, .bin false .add (.t 26) (.c (.i .i64 1))⟩,
  ⟨(some 10), none, .mv (.t 27)⟩]
abbrev c20b11 : AC := (.seq (.seq (.reg c20r6) (.cond (.t 25) .skip (.exit 0))) (.seq (.blk 1 (.seq (.seq (.reg c20r7) (.cond (.t 43) (.seq (.reg c20r8) .ret) .skip)) (.reg c20r9))) (.reg c20r10)))
def c20r12 : List AOper := [
  ⟨(some 11), none, .mv (.c (.i .i64 0))⟩]
def c20r13 : List AOper := [
  ⟨(some 50), none, .mv (.t 11)⟩,
  ⟨(some 51), none, .mv (.t 0)⟩,
  ⟨(some 52), none, .len (.t 51)⟩,
  ⟨(some 53), none, .bin false .lss (.t 50) (.t 52)⟩]
def c20r14 : List AOper := [
  ⟨(some 12), none, .mv (.c (.i .i64 0))⟩]
def c20r15 : List AOper := [
  ⟨(some 56), none, .mv (.t 12)⟩,
  ⟨(some 57), none, .mv (.t 11)⟩,
  ⟨(some 58), none, .bin false .lss (.t 56) (.t 57)⟩]
def c20r16 : List AOper := [
  ⟨(some 61), none, .mv (.t 0)⟩,
  ⟨(some 62), none, .mv (.t 11)⟩,
  ⟨(some 63), none, .ia 4 (.t 61) (.t 62)⟩,
  ⟨(some 64), none, .ld (some 4) (.t 63)⟩,
  ⟨(some 65), none, .mv (.t 0)⟩,
  ⟨(some 66), none, .mv (.t 12)⟩,
  ⟨(some 67), none, .ia 4 (.t 65) (.t 66)⟩,
  ⟨(some 68), none, .ld (some 4) (.t 67)⟩,
  ⟨(some 69), none, .mv (.t 1)⟩,
  ⟨(some 70), none, .call (.c (.fn 57 [] [])) [(.t 64), (.t 68), (.t 69)]⟩,
  ⟨(some 71), none, .mv (.t 70)⟩,
  ⟨(some 72), (some (71, true)), .mv (.t 9)⟩,
  ⟨(some 73), (some (71, true)), .mv (.t 11)⟩,
  ⟨(some 74), (some (71, true)), .ia 1 (.t 72) (.t 73)⟩,
  ⟨(some 75), (some (71, true)), .ld none (.t 74)⟩,
  ⟨(some 76), (some (71, true)), .not (.t 75)⟩,
  ⟨(some 77), none, .pick (.t 71) (.t 76) (.c (.b false))⟩,
  ⟨(some 78), none, .mv (.t 77)⟩,
  ⟨(some 79), (some (78, true)), .mv (.t 9)⟩,
  ⟨(some 80), (some (78, true)), .mv (.t 12)⟩,
  ⟨(some 81), (some (78, true)), .ia 1 (.t 79) (.t 80)⟩,
  ⟨(some 82), (some (78, true)), .ld none (.t 81)⟩,
  ⟨(some 83), (some (78, true)), .not (.t 82)⟩,
  ⟨(some 84), none, .pick (.t 78) (.t 83) (.c (.b false))⟩]
def c20r17 : List AOper := [
  ⟨(some 6), none, .mv (.c (.b false))⟩,
  ⟨(some 7), none, .mv (.c (.i .i64 0))⟩]
def c20r18 : List AOper := [
  ⟨(some 59), none, .mv (.t 12)⟩,
  ⟨(some 60), none, .bin false .add (.t 59) (.c (.i .i64 1))⟩,
  ⟨(some 12), none, .mv (.t 60)⟩]
abbrev c20b19 : AC := (.seq (.seq (.reg c20r15) (.cond (.t 58) .skip (.exit 4))) (.seq (.blk 5 (.seq (.head 20 c20r16) (.cond (.t 84) (.seq (.reg c20r17) .ret) .skip))) (.reg c20r18)))
def c20r20 : List AOper := [
  ⟨(some 54), none, .mv (.t 11)⟩,
  ⟨(some 55), none, .bin false .add (.t 54) (.c (.i .i64 1))⟩,
  ⟨(some 11), none, .mv (.t 55)⟩]
abbrev c20b21 : AC := (.seq (.seq (.reg c20r13) (.cond (.t 53) .skip (.exit 2))) (.seq (.blk 3 (.seq (.reg c20r14) (.blk 4 (.loop c20b19)))) (.reg c20r20)))
def c20r22 : List AOper := [
  ⟨(some 6), none, .mv (.c (.b true))⟩,
  ⟨(some 7), none, .mv (.c (.i .i64 0))⟩]
abbrev c20 : AC := (.seq (.reg c20r0) (.seq (.reg c20r1) (.seq (.seq (.reg c20r2) (.cond (.t 17) (.seq (.reg c20r3) .ret) .skip)) (.seq (.reg c20r4) (.seq (.seq (.reg c20r5) (.blk 0 (.loop c20b11))) (.seq (.seq (.reg c20r12) (.blk 2 (.loop c20b21))) (.seq (.reg c20r22) .ret)))))))
def q20 : List ARes := [.t 6, .t 7]
theorem fn20 : fnOf Try.prog 20 = some (c20, q20, 85) := by kernel_rfl
/-! 21: pantoscope/temple.Worst · slots 40 · [0 l, 1 pairs, 2 l, 3 pairs, 6 e, 7 worst, 8 _, 9 p] -/
def c21r0 : List AOper := [
  ⟨(some 4), none, .mv (.c (.i .i64 0))⟩,
  ⟨(some 5), none, .mv (.c (.i .i64 0))⟩]
def c21r1 : List AOper := [
  ⟨(some 10), none, .mv (.t 0)⟩,
  ⟨(some 11), none, .call (.c (.fn 27 [] [])) [(.t 10)]⟩,
  ⟨(some 12), none, .not (.t 11)⟩]
def c21r2 : List AOper := [
  ⟨(some 4), none, .mv (.c (.i .i64 0))⟩,
  ⟨(some 5), none, .mv (.c (.i .i64 40))⟩]
def c21r3 : List AOper := [
  ⟨(some 13), none, .mv (.t 0)⟩,
  ⟨(some 14), none, .mv (.t 1)⟩,
  ⟨(some 15), none, .call (.c (.fn 58 [] [])) [(.t 13), (.t 14), (.c (.fn 59 [] []))]⟩,
  ⟨(some 6), none, .mv (.t 15)⟩]
def c21r4 : List AOper := [
  ⟨(some 16), none, .mv (.t 6)⟩,
  ⟨(some 17), none, .bin false .neq (.t 16) (.c (.i .i64 0))⟩]
def c21r5 : List AOper := [
  ⟨(some 18), none, .mv (.t 6)⟩,
  ⟨(some 4), none, .mv (.c (.i .i64 0))⟩,
  ⟨(some 5), none, .mv (.t 18)⟩]
def c21r6 : List AOper := [
  ⟨(some 7), none, .mv (.c (.i .i64 0))⟩]
def c21r7 : List AOper := [
  ⟨(some 19), none, .mv (.t 1)⟩,
  ⟨(some 20), none, .len (.t 19)⟩,
  ⟨(some 21), none, .mv (.c (.i .i64 0))⟩]
def c21r8 : List AOper := [
  ⟨(some 22), none, .bin false .lss (.t 21) (.t 20)⟩]
def c21r9 : List AOper := [
  ⟨(some 23), none, .ia 2 (.t 19) (.t 21)⟩,
  ⟨(some 24), none, .ld (some 2) (.t 23)⟩,
  ⟨(some 9), none, .alloc [.i .i64 0, .i .i64 0]⟩,
  ⟨none, none, .sto (some 2) (.t 9) (.t 24)⟩]
def c21r10 : List AOper := [
  ⟨(some 25), none, .mv (.t 7)⟩,
  ⟨(some 26), none, .mv (.t 0)⟩,
  ⟨(some 27), none, .iap 2 1 (.t 9) (.c (.i .i64 0))⟩,
  ⟨(some 28), none, .ld none (.t 27)⟩,
  ⟨(some 29), none, .ia 4 (.t 26) (.t 28)⟩,
  ⟨(some 30), none, .ld (some 4) (.t 29)⟩,
  ⟨(some 31), none, .mv (.t 0)⟩,
  ⟨(some 32), none, .iap 2 1 (.t 9) (.c (.i .i64 1))⟩,
  ⟨(some 33), none, .ld none (.t 32)⟩,
  ⟨(some 34), none, .ia 4 (.t 31) (.t 33)⟩,
  ⟨(some 35), none, .ld (some 4) (.t 34)⟩,
  ⟨(some 36), none, .call (.c (.fn 60 [] [])) [(.t 30), (.t 35)]⟩,
  ⟨(some 37), none, .mm true (.t 25) [(.t 36)]⟩,
  ⟨(some 7), none, .mv (.t 37)⟩]
def c21r11 : List AOper := [
  ⟨(some 38), none, .bin false .add (.t 21) (.c (.i .i64 1))⟩,
  ⟨(some 21), none, .mv (.t 38)⟩]
abbrev c21b12 : AC := (.seq (.reg c21r8) (.seq (.cond (.t 22) .skip (.exit 0)) (.seq (.blk 1 (.seq (.reg c21r9) (.head 12 c21r10))) (.reg c21r11))))
def c21r13 : List AOper := [
  ⟨(some 39), none, .mv (.t 7)⟩,
  ⟨(some 4), none, .mv (.t 39)⟩,
  ⟨(some 5), none, .mv (.c (.i .i64 0))⟩]
abbrev c21 : AC := (.seq (.reg c21r0) (.seq (.seq (.reg c21r1) (.cond (.t 12) (.seq (.reg c21r2) .ret) .skip)) (.seq (.seq (.reg c21r3) (.seq (.reg c21r4) (.cond (.t 17) (.seq (.reg c21r5) .ret) .skip))) (.seq (.reg c21r6) (.seq (.seq (.reg c21r7) (.blk 0 (.loop c21b12))) (.seq (.reg c21r13) .ret))))))
def q21 : List ARes := [.t 4, .t 5]
theorem fn21 : fnOf Try.prog 21 = some (c21, q21, 40) := by kernel_rfl
/-! 22: pantoscope/temple.Tolerance · slots 19 · [0 l, 1 n, 2 l, 3 n, 6 tol] -/
def c22r0 : List AOper := [
  ⟨(some 2), none, .box (.t 0)⟩,
  ⟨(some 3), none, .box (.t 1)⟩,
  ⟨(some 4), none, .mv (.c (.i .i64 0))⟩,
  ⟨(some 5), none, .mv (.c (.i .i64 0))⟩]
def c22r1 : List AOper := [
  ⟨(some 8), none, .ld none (.t 2)⟩,
  ⟨(some 9), none, .call (.c (.fn 27 [] [])) [(.t 8)]⟩,
  ⟨(some 10), none, .not (.t 9)⟩,
  ⟨(some 7), none, .mv (.t 10)⟩]
def c22r2 : List AOper := [
  ⟨(some 4), none, .mv (.c (.i .i64 0))⟩,
  ⟨(some 5), none, .mv (.c (.i .i64 40))⟩]
def c22r3 : List AOper := [
  ⟨(some 12), none, .ld none (.t 3)⟩,
  ⟨(some 13), none, .bin false .lss (.t 12) (.c (.i .i64 0))⟩,
  ⟨(some 11), none, .mv (.t 13)⟩]
def c22r4 : List AOper := [
  ⟨(some 4), none, .mv (.c (.i .i64 0))⟩,
  ⟨(some 5), none, .mv (.c (.i .i64 2))⟩]
def c22r5 : List AOper := [
  ⟨(some 14), none, .mkf 62 [] [(.t 2), (.t 3)]⟩,
  ⟨(some 15), none, .call (.c (.fn 61 [] [])) [(.c (.i .i64 1001)), (.t 14)]⟩,
  ⟨(some 6), none, .mv (.t 15)⟩]
def c22r6 : List AOper := [
  ⟨(some 16), none, .mv (.t 6)⟩,
  ⟨(some 17), none, .bin false .gtr (.t 16) (.c (.i .i64 1000))⟩]
def c22r7 : List AOper := [
  ⟨(some 4), none, .mv (.c (.i .i64 0))⟩,
  ⟨(some 5), none, .mv (.c (.i .i64 4))⟩]
def c22r8 : List AOper := [
  ⟨(some 18), none, .mv (.t 6)⟩,
  ⟨(some 4), none, .mv (.t 18)⟩,
  ⟨(some 5), none, .mv (.c (.i .i64 0))⟩]
abbrev c22 : AC := (.seq (.reg c22r0) (.seq (.blk 0 (.seq (.reg c22r1) (.cond (.t 7) (.seq (.reg c22r2) .ret) (.seq (.reg c22r3) (.cond (.t 11) (.seq (.reg c22r4) .ret) .skip))))) (.seq (.reg c22r5) (.seq (.seq (.reg c22r6) (.cond (.t 17) (.seq (.reg c22r7) .ret) .skip)) (.seq (.reg c22r8) .ret)))))
def q22 : List ARes := [.t 4, .t 5]
theorem fn22 : fnOf Try.prog 22 = some (c22, q22, 19) := by kernel_rfl
/-! 27: pantoscope/temple.Valid · slots 29 · [0 l, 1 l, 3 had, 4 _, 5 t] -/
def c27r0 : List AOper := [
  ⟨(some 2), none, .mv (.c (.b false))⟩]
def c27r1 : List AOper := [
  ⟨(some 6), none, .mv (.t 0)⟩,
  ⟨(some 7), none, .len (.t 6)⟩,
  ⟨(some 8), none, .bin false .gtr (.t 7) (.c (.i .i64 60))⟩]
def c27r2 : List AOper := [
  ⟨(some 2), none, .mv (.c (.b false))⟩]
def c27r3 : List AOper := [
  ⟨(some 9), none, .mkm⟩,
  ⟨(some 3), none, .mv (.t 9)⟩]
def c27r4 : List AOper := [
  ⟨(some 10), none, .mv (.t 0)⟩,
  ⟨(some 11), none, .len (.t 10)⟩,
  ⟨(some 12), none, .mv (.c (.i .i64 0))⟩]
def c27r5 : List AOper := [
  ⟨(some 13), none, .bin false .lss (.t 12) (.t 11)⟩]
def c27r6 : List AOper := [
  ⟨(some 14), none, .ia 4 (.t 10) (.t 12)⟩,
  ⟨(some 15), none, .ld (some 4) (.t 14)⟩,
  ⟨(some 5), none, .alloc [.i .i64 0, .i .i64 0, .i .i64 0, .i .i64 0]⟩,
  ⟨none, none, .sto (some 4) (.t 5) (.t 15)⟩]
def c27r7 : List AOper := [
  ⟨(some 16), none, .ld (some 4) (.t 5)⟩,
  ⟨(some 17), none, .call (.c (.fn 63 [] [])) [(.t 16)]⟩,
  ⟨(some 18), none, .not (.t 17)⟩,
  ⟨(some 19), none, .mv (.t 18)⟩,
  ⟨(some 20), (some (19, false)), .mv (.t 3)⟩,
  ⟨(some 21), (some (19, false)), .fa (.t 5) 0⟩,
  ⟨(some 22), (some (19, false)), .ld none (.t 21)⟩,
  ⟨(some 23), (some (19, false)), .mlk none (.b false) false (.t 20) (.t 22)⟩,
  ⟨(some 24), none, .pick (.t 19) (.c (.b true)) (.t 23)⟩]
def c27r8 : List AOper := [
  ⟨(some 2), none, .mv (.c (.b false))⟩]
def c27r9 : List AOper := [
  ⟨(some 25), none, .mv (.t 3)⟩,
  ⟨(some 26), none, .fa (.t 5) 0⟩,
  ⟨(some 27), none, .ld none (.t 26)⟩,
  ⟨none, none, .mup none (.t 25) (.t 27) (.c (.b true))⟩]
def c27r10 : List AOper := [
  ⟨(some 28), none, .bin false .add (.t 12) (.c (.i .i64 1))⟩,
  ⟨(some 12), none, .mv (.t 28)⟩]
abbrev c27b11 : AC := (.seq (.reg c27r5) (.seq (.cond (.t 13) .skip (.exit 0)) (.seq (.blk 1 (.seq (.reg c27r6) (.seq (.seq (.reg c27r7) (.cond (.t 24) (.seq (.reg c27r8) .ret) .skip)) (.reg c27r9)))) (.reg c27r10))))
def c27r12 : List AOper := [
  ⟨(some 2), none, .mv (.c (.b true))⟩]
abbrev c27 : AC := (.seq (.reg c27r0) (.seq (.seq (.reg c27r1) (.cond (.t 8) (.seq (.reg c27r2) .ret) .skip)) (.seq (.reg c27r3) (.seq (.seq (.reg c27r4) (.blk 0 (.loop c27b11))) (.seq (.reg c27r12) .ret)))))
def q27 : List ARes := [.t 2]
theorem fn27 : fnOf Try.prog 27 = some (c27, q27, 29) := by kernel_rfl
/-! 48: pantoscope/pantoscoperef04.validTemple · slots 41 · [0 t, 1 t] -/
def c48r0 : List AOper := [
  ⟨(some 1), none, .box (.t 0)⟩,
  ⟨(some 2), none, .mv (.c (.b false))⟩]
def c48r1 : List AOper := [
  ⟨(some 3), none, .fa (.t 1) 0⟩,
  ⟨(some 4), none, .ld none (.t 3)⟩,
  ⟨(some 5), none, .bin false .geq (.t 4) (.c (.i .i64 1))⟩,
  ⟨(some 6), none, .mv (.t 5)⟩,
  ⟨(some 7), (some (6, true)), .fa (.t 1) 0⟩,
  ⟨(some 8), (some (6, true)), .ld none (.t 7)⟩,
  ⟨(some 9), (some (6, true)), .bin false .leq (.t 8) (.c (.i .i64 1000000000))⟩,
  ⟨(some 10), none, .pick (.t 6) (.t 9) (.c (.b false))⟩,
  ⟨(some 11), none, .mv (.t 10)⟩,
  ⟨(some 12), (some (11, true)), .fa (.t 1) 1⟩,
  ⟨(some 13), (some (11, true)), .ld none (.t 12)⟩,
  ⟨(some 14), (some (11, true)), .bin false .eql (.t 13) (.c (.i .i64 1))⟩,
  ⟨(some 15), (some (11, true)), .mv (.t 14)⟩,
  ⟨(some 16), (some (15, false)), .fa (.t 1) 1⟩,
  ⟨(some 17), (some (15, false)), .ld none (.t 16)⟩,
  ⟨(some 18), (some (15, false)), .bin false .eql (.t 17) (.c (.i .i64 2))⟩,
  ⟨(some 19), (some (11, true)), .pick (.t 15) (.c (.b true)) (.t 18)⟩,
  ⟨(some 20), none, .pick (.t 11) (.t 19) (.c (.b false))⟩,
  ⟨(some 21), none, .mv (.t 20)⟩,
  ⟨(some 22), (some (21, true)), .fa (.t 1) 2⟩,
  ⟨(some 23), (some (21, true)), .ld none (.t 22)⟩,
  ⟨(some 24), (some (21, true)), .bin false .geq (.t 23) (.c (.i .i64 1))⟩,
  ⟨(some 25), none, .pick (.t 21) (.t 24) (.c (.b false))⟩,
  ⟨(some 26), none, .mv (.t 25)⟩,
  ⟨(some 27), (some (26, true)), .fa (.t 1) 2⟩,
  ⟨(some 28), (some (26, true)), .ld none (.t 27)⟩,
  ⟨(some 29), (some (26, true)), .bin false .leq (.t 28) (.c (.i .i64 2000))⟩,
  ⟨(some 30), none, .pick (.t 26) (.t 29) (.c (.b false))⟩,
  ⟨(some 31), none, .mv (.t 30)⟩,
  ⟨(some 32), (some (31, true)), .fa (.t 1) 3⟩,
  ⟨(some 33), (some (31, true)), .ld none (.t 32)⟩,
  ⟨(some 34), (some (31, true)), .bin false .geq (.t 33) (.c (.i .i64 1))⟩,
  ⟨(some 35), none, .pick (.t 31) (.t 34) (.c (.b false))⟩,
  ⟨(some 36), none, .mv (.t 35)⟩,
  ⟨(some 37), (some (36, true)), .fa (.t 1) 3⟩,
  ⟨(some 38), (some (36, true)), .ld none (.t 37)⟩,
  ⟨(some 39), (some (36, true)), .bin false .leq (.t 38) (.c (.i .i64 9))⟩,
  ⟨(some 40), none, .pick (.t 36) (.t 39) (.c (.b false))⟩,
  ⟨(some 2), none, .mv (.t 40)⟩]
abbrev c48 : AC := (.seq (.reg c48r0) (.seq (.reg c48r1) .ret))
def q48 : List ARes := [.t 2]
theorem fn48 : fnOf Try.prog 48 = some (c48, q48, 41) := by kernel_rfl
/-! 49: pantoscope/temple.asked · slots 13 · [0 l, 1 tol, 2 l, 3 tol] -/
def c49r0 : List AOper := [
  ⟨(some 4), none, .mv (.c (.i .i64 0))⟩]
def c49r1 : List AOper := [
  ⟨(some 6), none, .mv (.t 0)⟩,
  ⟨(some 7), none, .call (.c (.fn 27 [] [])) [(.t 6)]⟩,
  ⟨(some 8), none, .not (.t 7)⟩,
  ⟨(some 5), none, .mv (.t 8)⟩]
def c49r2 : List AOper := [
  ⟨(some 4), none, .mv (.c (.i .i64 40))⟩]
def c49r3 : List AOper := [
  ⟨(some 10), none, .mv (.t 1)⟩,
  ⟨(some 11), none, .call (.c (.fn 71 [] [])) [(.c (.i .i64 0)), (.t 10), (.c (.i .i64 1000))]⟩,
  ⟨(some 12), none, .not (.t 11)⟩,
  ⟨(some 9), none, .mv (.t 12)⟩]
def c49r4 : List AOper := [
  ⟨(some 4), none, .mv (.c (.i .i64 2))⟩]
def c49r5 : List AOper := [
  ⟨(some 4), none, .mv (.c (.i .i64 0))⟩]
abbrev c49 : AC := (.seq (.reg c49r0) (.seq (.blk 0 (.seq (.reg c49r1) (.cond (.t 5) (.seq (.reg c49r2) .ret) (.seq (.reg c49r3) (.cond (.t 9) (.seq (.reg c49r4) .ret) .skip))))) (.seq (.reg c49r5) .ret)))
def q49 : List ARes := [.t 4]
theorem fn49 : fnOf Try.prog 49 = some (c49, q49, 13) := by kernel_rfl
/-! 50: pantoscope/temple.match · slots 72 · [0 l, 1 tol, 2 l, 3 tol, 5 out, 6 colour, 7 left, 8 right, 9 a, 10 b] -/
def c50r0 : List AOper := [
  ⟨(some 4), none, .mv (.c (.sl 0 0 0 0))⟩]
def c50r1 : List AOper := [
  ⟨(some 5), none, .mv (.c (.sl 0 0 0 0))⟩]
def c50r2 : List AOper := [
  ⟨(some 6), none, .mv (.c (.i .i64 1))⟩]
def c50r3 : List AOper := [
  ⟨(some 11), none, .mv (.t 6)⟩,
  ⟨(some 12), none, .bin false .leq (.t 11) (.c (.i .i64 9))⟩]
def c50r4 : List AOper := [
  ⟨(some 15), none, .mv (.t 0)⟩,
  ⟨(some 16), none, .mv (.t 6)⟩,
  ⟨(some 17), none, .call (.c (.fn 74 [] [])) [(.t 15), (.c (.i .i64 1)), (.t 16)]⟩,
  ⟨(some 18), none, .mv (.t 0)⟩,
  ⟨(some 19), none, .mv (.t 6)⟩,
  ⟨(some 20), none, .call (.c (.fn 74 [] [])) [(.t 18), (.c (.i .i64 2)), (.t 19)]⟩,
  ⟨(some 7), none, .mv (.t 17)⟩,
  ⟨(some 8), none, .mv (.t 20)⟩]
def c50r5 : List AOper := [
  ⟨(some 21), none, .mv (.t 7)⟩,
  ⟨(some 22), none, .len (.t 21)⟩,
  ⟨(some 23), none, .bin false .gtr (.t 22) (.c (.i .i64 0))⟩,
  ⟨(some 24), none, .mv (.t 23)⟩,
  ⟨(some 25), (some (24, true)), .mv (.t 8)⟩,
  ⟨(some 26), (some (24, true)), .len (.t 25)⟩,
  ⟨(some 27), (some (24, true)), .bin false .gtr (.t 26) (.c (.i .i64 0))⟩,
  ⟨(some 28), none, .pick (.t 24) (.t 27) (.c (.b false))⟩]
def c50r6 : List AOper := [
  ⟨(some 29), none, .mv (.t 0)⟩,
  ⟨(some 30), none, .mv (.t 7)⟩,
  ⟨(some 31), none, .ia 1 (.t 30) (.c (.i .i64 0))⟩,
  ⟨(some 32), none, .ld none (.t 31)⟩,
  ⟨(some 33), none, .ia 4 (.t 29) (.t 32)⟩,
  ⟨(some 34), none, .ld (some 4) (.t 33)⟩,
  ⟨(some 35), none, .mv (.t 0)⟩,
  ⟨(some 36), none, .mv (.t 8)⟩,
  ⟨(some 37), none, .ia 1 (.t 36) (.c (.i .i64 0))⟩,
  ⟨(some 38), none, .ld none (.t 37)⟩,
  ⟨(some 39), none, .ia 4 (.t 35) (.t 38)⟩,
  ⟨(some 40), none, .ld (some 4) (.t 39)⟩,
  ⟨(some 9), none, .alloc [.i .i64 0, .i .i64 0, .i .i64 0, .i .i64 0]⟩,
  ⟨(some 10), none, .alloc [.i .i64 0, .i .i64 0, .i .i64 0, .i .i64 0]⟩,
  ⟨none, none, .sto (some 4) (.t 9) (.t 34)⟩,
  ⟨none, none, .sto (some 4) (.t 10) (.t 40)⟩]
def c50r7 : List AOper := [
  ⟨(some 44), none, .ld (some 4) (.t 9)⟩,
  ⟨(some 45), none, .ld (some 4) (.t 10)⟩,
  ⟨(some 46), none, .call (.c (.fn 60 [] [])) [(.t 44), (.t 45)]⟩,
  ⟨(some 47), none, .mv (.t 1)⟩,
  ⟨(some 48), none, .bin false .leq (.t 46) (.t 47)⟩,
  ⟨(some 43), none, .mv (.t 48)⟩]
def c50r8 : List AOper := [
  ⟨(some 49), none, .mv (.t 5)⟩,
  ⟨(some 50), none, .mv (.t 7)⟩,
  ⟨(some 51), none, .ia 1 (.t 50) (.c (.i .i64 0))⟩,
  ⟨(some 52), none, .ld none (.t 51)⟩,
  ⟨(some 53), none, .mv (.t 8)⟩,
  ⟨(some 54), none, .ia 1 (.t 53) (.c (.i .i64 0))⟩,
  ⟨(some 55), none, .ld none (.t 54)⟩,
  ⟨(some 56), none, .bld [.i .i64 0, .i .i64 0] [(0, 1, (.t 52)), (1, 1, (.t 55))]⟩,
  ⟨(some 57), none, .bsl 2 [.i .i64 0, .i .i64 0] [(0, 2, (.t 56))]⟩,
  ⟨(some 58), none, .app 2 16 (.t 49) (.t 57)⟩,
  ⟨(some 5), none, .mv (.t 58)⟩]
def c50r9 : List AOper := [
  ⟨(some 59), none, .mv (.t 7)⟩,
  ⟨(some 60), none, .sli 1 (.t 59) (some (.c (.i .i64 1))) none⟩,
  ⟨(some 61), none, .mv (.t 8)⟩,
  ⟨(some 62), none, .sli 1 (.t 61) (some (.c (.i .i64 1))) none⟩,
  ⟨(some 7), none, .mv (.t 60)⟩,
  ⟨(some 8), none, .mv (.t 62)⟩]
def c50r10 : List AOper := [
  ⟨(some 64), none, .fa (.t 9) 2⟩,
  ⟨(some 65), none, .ld none (.t 64)⟩,
  ⟨(some 66), none, .fa (.t 10) 2⟩,
  ⟨(some 67), none, .ld none (.t 66)⟩,
  ⟨(some 68), none, .bin false .lss (.t 65) (.t 67)⟩,
  ⟨(some 63), none, .mv (.t 68)⟩]
def c50r11 : List AOper := [
  ⟨(some 69), none, .mv (.t 7)⟩,
  ⟨(some 70), none, .sli 1 (.t 69) (some (.c (.i .i64 1))) none⟩,
  ⟨(some 7), none, .mv (.t 70)⟩]
def c50r12 : List AOper := [
  ⟨(some 41), none, .mv (.t 8)⟩,
  ⟨(some 42), none, .sli 1 (.t 41) (some (.c (.i .i64 1))) none⟩,
  ⟨(some 8), none, .mv (.t 42)⟩]
abbrev c50b13 : AC := (.seq (.seq (.reg c50r5) (.cond (.t 28) .skip (.exit 2))) (.blk 3 (.seq (.head 15 c50r6) (.blk 4 (.seq (.reg c50r7) (.cond (.t 43) (.seq (.head 9 c50r8) (.head 5 c50r9)) (.seq (.reg c50r10) (.cond (.t 63) (.reg c50r11) (.reg c50r12)))))))))
def c50r14 : List AOper := [
  ⟨(some 13), none, .mv (.t 6)⟩,
  ⟨(some 14), none, .bin false .add (.t 13) (.c (.i .i64 1))⟩,
  ⟨(some 6), none, .mv (.t 14)⟩]
abbrev c50b15 : AC := (.seq (.seq (.reg c50r3) (.cond (.t 12) .skip (.exit 0))) (.seq (.blk 1 (.seq (.reg c50r4) (.blk 2 (.loop c50b13)))) (.reg c50r14)))
def c50r16 : List AOper := [
  ⟨(some 71), none, .mv (.t 5)⟩,
  ⟨(some 4), none, .mv (.t 71)⟩]
abbrev c50 : AC := (.seq (.reg c50r0) (.seq (.reg c50r1) (.seq (.seq (.reg c50r2) (.blk 0 (.loop c50b15))) (.seq (.reg c50r16) .ret))))
def q50 : List ARes := [.t 4]
theorem fn50 : fnOf Try.prog 50 = some (c50, q50, 72) := by kernel_rfl
/-! 51: pantoscope/temple.Guard$1 · slots 56 · [0 left, 6 left, 7 k, 8 back, 9 ok] -/
def c51r0 : List AOper := [
  ⟨(some 10), none, .ld none (.t 1)⟩,
  ⟨(some 11), none, .mv (.t 0)⟩,
  ⟨(some 12), none, .ia 1 (.t 10) (.t 11)⟩,
  ⟨none, none, .sto none (.t 12) (.c (.b true))⟩]
def c51r1 : List AOper := [
  ⟨(some 13), none, .ld none (.t 2)⟩,
  ⟨(some 14), none, .len (.t 13)⟩,
  ⟨(some 15), none, .mv (.c (.i .i64 0))⟩]
def c51r2 : List AOper := [
  ⟨(some 16), none, .bin false .lss (.t 15) (.t 14)⟩]
def c51r3 : List AOper := [
  ⟨(some 17), none, .mv (.t 15)⟩,
  ⟨(some 7), none, .mv (.t 17)⟩]
def c51r4 : List AOper := [
  ⟨(some 18), none, .ld none (.t 1)⟩,
  ⟨(some 19), none, .mv (.t 7)⟩,
  ⟨(some 20), none, .ia 1 (.t 18) (.t 19)⟩,
  ⟨(some 21), none, .ld none (.t 20)⟩,
  ⟨(some 22), none, .mv (.t 21)⟩,
  ⟨(some 23), (some (22, false)), .ld none (.t 2)⟩,
  ⟨(some 24), (some (22, false)), .mv (.t 0)⟩,
  ⟨(some 25), (some (22, false)), .ia 4 (.t 23) (.t 24)⟩,
  ⟨(some 26), (some (22, false)), .ld (some 4) (.t 25)⟩,
  ⟨(some 27), (some (22, false)), .ld none (.t 2)⟩,
  ⟨(some 28), (some (22, false)), .mv (.t 7)⟩,
  ⟨(some 29), (some (22, false)), .ia 4 (.t 27) (.t 28)⟩,
  ⟨(some 30), (some (22, false)), .ld (some 4) (.t 29)⟩,
  ⟨(some 31), (some (22, false)), .ld none (.t 3)⟩,
  ⟨(some 32), (some (22, false)), .call (.c (.fn 52 [] [])) [(.t 26), (.t 30), (.t 31)]⟩,
  ⟨(some 33), (some (22, false)), .not (.t 32)⟩,
  ⟨(some 34), none, .pick (.t 22) (.c (.b true)) (.t 33)⟩]
def c51r5 : List AOper := [
  ⟨(some 35), none, .ld none (.t 1)⟩,
  ⟨(some 36), none, .mv (.t 7)⟩,
  ⟨(some 37), none, .ia 1 (.t 35) (.t 36)⟩,
  ⟨none, none, .sto none (.t 37) (.c (.b true))⟩]
def c51r6 : List AOper := [
  ⟨(some 39), none, .ld none (.t 4)⟩,
  ⟨(some 40), none, .mv (.t 7)⟩,
  ⟨(some 41), none, .mlk none (.i .i64 0) true (.t 39) (.t 40)⟩,
  ⟨(some 38), none, .mv (.t 41)⟩,
  ⟨(some 42), none, .ext (.t 38) 0⟩,
  ⟨(some 43), none, .ext (.t 38) 1⟩,
  ⟨(some 8), none, .mv (.t 42)⟩,
  ⟨(some 9), none, .mv (.t 43)⟩]
def c51r7 : List AOper := [
  ⟨(some 44), none, .mv (.t 9)⟩,
  ⟨(some 45), none, .mv (.t 44)⟩,
  ⟨(some 46), (some (45, true)), .ld none (.t 1)⟩,
  ⟨(some 47), (some (45, true)), .mv (.t 8)⟩,
  ⟨(some 48), (some (45, true)), .ia 1 (.t 46) (.t 47)⟩,
  ⟨(some 49), (some (45, true)), .ld none (.t 48)⟩,
  ⟨(some 50), (some (45, true)), .not (.t 49)⟩,
  ⟨(some 51), none, .pick (.t 45) (.t 50) (.c (.b false))⟩]
def c51r8 : List AOper := [
  ⟨(some 52), none, .ld none (.t 5)⟩,
  ⟨(some 53), none, .mv (.t 8)⟩,
  ⟨(some 54), none, .call (.t 52) [(.t 53)]⟩]
def c51r9 : List AOper := [
  ⟨(some 55), none, .bin false .add (.t 15) (.c (.i .i64 1))⟩,
  ⟨(some 15), none, .mv (.t 55)⟩]
abbrev c51b10 : AC := (.seq (.reg c51r2) (.seq (.cond (.t 16) .skip (.exit 0)) (.seq (.blk 1 (.seq (.reg c51r3) (.seq (.seq (.head 14 c51r4) (.cond (.t 34) (.exit 1) .skip)) (.seq (.reg c51r5) (.seq (.reg c51r6) (.seq (.reg c51r7) (.cond (.t 51) (.reg c51r8) .skip))))))) (.reg c51r9))))
abbrev c51 : AC := (.seq (.reg c51r0) (.seq (.reg c51r1) (.blk 0 (.loop c51b10))))
def q51 : List ARes := []
theorem fn51 : fnOf Try.prog 51 = some (c51, q51, 56) := by kernel_rfl
/-! 52: pantoscope/temple.can · slots 17 · [0 a, 1 b, 2 tol, 3 a, 4 b, 5 tol] -/
def c52r0 : List AOper := [
  ⟨(some 3), none, .box (.t 0)⟩,
  ⟨(some 4), none, .box (.t 1)⟩,
  ⟨(some 6), none, .mv (.c (.b false))⟩]
def c52r1 : List AOper := [
  ⟨(some 7), none, .ld (some 4) (.t 3)⟩,
  ⟨(some 8), none, .ld (some 4) (.t 4)⟩,
  ⟨(some 9), none, .call (.c (.fn 59 [] [])) [(.t 7), (.t 8)]⟩,
  ⟨(some 10), none, .mv (.t 9)⟩,
  ⟨(some 11), (some (10, true)), .ld (some 4) (.t 3)⟩,
  ⟨(some 12), (some (10, true)), .ld (some 4) (.t 4)⟩,
  ⟨(some 13), (some (10, true)), .call (.c (.fn 60 [] [])) [(.t 11), (.t 12)]⟩,
  ⟨(some 14), (some (10, true)), .mv (.t 2)⟩,
  ⟨(some 15), (some (10, true)), .bin false .leq (.t 13) (.t 14)⟩,
  ⟨(some 16), none, .pick (.t 10) (.t 15) (.c (.b false))⟩,
  ⟨(some 6), none, .mv (.t 16)⟩]
abbrev c52 : AC := (.seq (.reg c52r0) (.seq (.reg c52r1) .ret))
def q52 : List ARes := [.t 6]
theorem fn52 : fnOf Try.prog 52 = some (c52, q52, 17) := by kernel_rfl
/-! 53: pantoscope/pantoscoperef04.tolerated · slots 9 · [0 tol, 1 tol] -/
def c53r0 : List AOper := [
  ⟨(some 2), none, .mv (.c (.b false))⟩]
def c53r1 : List AOper := [
  ⟨(some 3), none, .mv (.t 0)⟩,
  ⟨(some 4), none, .bin false .geq (.t 3) (.c (.i .i64 0))⟩,
  ⟨(some 5), none, .mv (.t 4)⟩,
  ⟨(some 6), (some (5, true)), .mv (.t 0)⟩,
  ⟨(some 7), (some (5, true)), .bin false .leq (.t 6) (.c (.i .i64 1000))⟩,
  ⟨(some 8), none, .pick (.t 5) (.t 7) (.c (.b false))⟩,
  ⟨(some 2), none, .mv (.t 8)⟩]
abbrev c53 : AC := (.seq (.reg c53r0) (.seq (.reg c53r1) .ret))
def q53 : List ARes := [.t 2]
theorem fn53 : fnOf Try.prog 53 = some (c53, q53, 9) := by kernel_rfl
/-! 54: pantoscope/pantoscoperef04.judged · slots 103 · [0 l, 1 tol, 2 pairs, 3 l, 4 tol, 5 pairs, 7 i, 8 used, 9 i, 10 p, 11 q] -/
def c54r0 : List AOper := [
  ⟨(some 6), none, .mv (.c (.i .i64 0))⟩]
def c54r1 : List AOper := [
  ⟨(some 7), none, .mv (.c (.i .i64 0))⟩]
def c54r2 : List AOper := [
  ⟨(some 12), none, .mv (.t 7)⟩,
  ⟨(some 13), none, .mv (.t 2)⟩,
  ⟨(some 14), none, .len (.t 13)⟩,
  ⟨(some 15), none, .bin false .lss (.t 12) (.t 14)⟩]
def c54r3 : List AOper := [
  ⟨(some 18), none, .mv (.t 0)⟩,
  ⟨(some 19), none, .mv (.t 2)⟩,
  ⟨(some 20), none, .mv (.t 7)⟩,
  ⟨(some 21), none, .ia 2 (.t 19) (.t 20)⟩,
  ⟨(some 22), none, .iap 2 1 (.t 21) (.c (.i .i64 0))⟩,
  ⟨(some 23), none, .ld none (.t 22)⟩,
  ⟨(some 24), none, .call (.c (.fn 56 [] [])) [(.t 18), (.t 23)]⟩,
  ⟨(some 25), none, .not (.t 24)⟩,
  ⟨(some 26), none, .mv (.t 25)⟩,
  ⟨(some 27), (some (26, false)), .mv (.t 0)⟩,
  ⟨(some 28), (some (26, false)), .mv (.t 2)⟩,
  ⟨(some 29), (some (26, false)), .mv (.t 7)⟩,
  ⟨(some 30), (some (26, false)), .ia 2 (.t 28) (.t 29)⟩,
  ⟨(some 31), (some (26, false)), .iap 2 1 (.t 30) (.c (.i .i64 1))⟩,
  ⟨(some 32), (some (26, false)), .ld none (.t 31)⟩,
  ⟨(some 33), (some (26, false)), .call (.c (.fn 56 [] [])) [(.t 27), (.t 32)]⟩,
  ⟨(some 34), (some (26, false)), .not (.t 33)⟩,
  ⟨(some 35), none, .pick (.t 26) (.c (.b true)) (.t 34)⟩]
def c54r4 : List AOper := [
  ⟨(some 6), none, .mv (.c (.i .i64 2))⟩]
def c54r5 : List AOper := [
  ⟨(some 16), none, .mv (.t 7)⟩,
  ⟨(some 17), none, .bin false .add (.t 16) (.c (.i .i64 1))⟩,
  ⟨(some 7), none, .mv (.t 17)⟩]
abbrev c54b6 : AC := (.seq (.seq (.reg c54r2) (.cond (.t 15) .skip (.exit 0))) (.seq (.blk 1 (.seq (.reg c54r3) (.cond (.t 35) (.seq (.reg c54r4) .ret) .skip))) (.reg c54r5)))
def c54r7 : List AOper := [
  ⟨(some 36), none, .mv (.t 0)⟩,
  ⟨(some 37), none, .len (.t 36)⟩,
  ⟨(some 38), none, .mks 1 1 [.b false] (.t 37) (.t 37)⟩,
  ⟨(some 8), none, .mv (.t 38)⟩]
def c54r8 : List AOper := [
  ⟨(some 9), none, .mv (.c (.i .i64 0))⟩]
def c54r9 : List AOper := [
  ⟨(some 39), none, .mv (.t 9)⟩,
  ⟨(some 40), none, .mv (.t 2)⟩,
  ⟨(some 41), none, .len (.t 40)⟩,
  ⟨(some 42), none, .bin false .lss (.t 39) (.t 41)⟩]
def c54r10 : List AOper := [
  ⟨(some 45), none, .mv (.t 2)⟩,
  ⟨(some 46), none, .mv (.t 9)⟩,
  ⟨(some 47), none, .ia 2 (.t 45) (.t 46)⟩,
  ⟨(some 48), none, .iap 2 1 (.t 47) (.c (.i .i64 0))⟩,
  ⟨(some 49), none, .ld none (.t 48)⟩,
  ⟨(some 50), none, .mv (.t 2)⟩,
  ⟨(some 51), none, .mv (.t 9)⟩,
  ⟨(some 52), none, .ia 2 (.t 50) (.t 51)⟩,
  ⟨(some 53), none, .iap 2 1 (.t 52) (.c (.i .i64 1))⟩,
  ⟨(some 54), none, .ld none (.t 53)⟩,
  ⟨(some 10), none, .mv (.t 49)⟩,
  ⟨(some 11), none, .mv (.t 54)⟩]
def c54r11 : List AOper := [
  ⟨(some 55), none, .mv (.t 8)⟩,
  ⟨(some 56), none, .mv (.t 10)⟩,
  ⟨(some 57), none, .ia 1 (.t 55) (.t 56)⟩,
  ⟨(some 58), none, .ld none (.t 57)⟩,
  ⟨(some 59), none, .mv (.t 58)⟩,
  ⟨(some 60), (some (59, false)), .mv (.t 8)⟩,
  ⟨(some 61), (some (59, false)), .mv (.t 11)⟩,
  ⟨(some 62), (some (59, false)), .ia 1 (.t 60) (.t 61)⟩,
  ⟨(some 63), (some (59, false)), .ld none (.t 62)⟩,
  ⟨(some 64), none, .pick (.t 59) (.c (.b true)) (.t 63)⟩,
  ⟨(some 65), none, .mv (.t 64)⟩,
  ⟨(some 66), (some (65, false)), .mv (.t 10)⟩,
  ⟨(some 67), (some (65, false)), .mv (.t 11)⟩,
  ⟨(some 68), (some (65, false)), .bin false .eql (.t 66) (.t 67)⟩,
  ⟨(some 69), none, .pick (.t 65) (.c (.b true)) (.t 68)⟩]
def c54r12 : List AOper := [
  ⟨(some 6), none, .mv (.c (.i .i64 43))⟩]
def c54r13 : List AOper := [
  ⟨(some 70), none, .mv (.t 8)⟩,
  ⟨(some 71), none, .mv (.t 10)⟩,
  ⟨(some 72), none, .mv (.t 8)⟩,
  ⟨(some 73), none, .mv (.t 11)⟩,
  ⟨(some 74), none, .ia 1 (.t 70) (.t 71)⟩,
  ⟨none, none, .sto none (.t 74) (.c (.b true))⟩,
  ⟨(some 75), none, .ia 1 (.t 72) (.t 73)⟩,
  ⟨none, none, .sto none (.t 75) (.c (.b true))⟩]
def c54r14 : List AOper := [
  ⟨(some 76), none, .mv (.t 0)⟩,
  ⟨(some 77), none, .mv (.t 10)⟩,
  ⟨(some 78), none, .ia 4 (.t 76) (.t 77)⟩,
  ⟨(some 79), none, .fa (.t 78) 1⟩,
  ⟨(some 80), none, .ld none (.t 79)⟩,
  ⟨(some 81), none, .bin false .neq (.t 80) (.c (.i .i64 1))⟩,
  ⟨(some 82), none, .mv (.t 81)⟩,
  ⟨(some 83), (some (82, false)), .mv (.t 0)⟩,
  ⟨(some 84), (some (82, false)), .mv (.t 11)⟩,
  ⟨(some 85), (some (82, false)), .ia 4 (.t 83) (.t 84)⟩,
  ⟨(some 86), (some (82, false)), .fa (.t 85) 1⟩,
  ⟨(some 87), (some (82, false)), .ld none (.t 86)⟩,
  ⟨(some 88), (some (82, false)), .bin false .neq (.t 87) (.c (.i .i64 2))⟩,
  ⟨(some 89), none, .pick (.t 82) (.c (.b true)) (.t 88)⟩,
  ⟨(some 90), none, .mv (.t 89)⟩,
  ⟨(some 91), (some (90, false)), .mv (.t 0)⟩,
  ⟨(some 92), (some (90, false)), .mv (.t 10)⟩,
  ⟨(some 93), (some (90, false)), .ia 4 (.t 91) (.t 92)⟩,
  ⟨(some 94), (some (90, false)), .ld (some 4) (.t 93)⟩,
  ⟨(some 95), (some (90, false)), .mv (.t 0)⟩,
  ⟨(some 96), (some (90, false)), .mv (.t 11)⟩,
  ⟨(some 97), (some (90, false)), .ia 4 (.t 95) (.t 96)⟩,
  ⟨(some 98), (some (90, false)), .ld (some 4) (.t 97)⟩,
  ⟨(some 99), (some (90, false)), .mv (.t 1)⟩,
  ⟨(some 100), (some (90, false)), .call (.c (.fn 57 [] [])) [(.t 94), (.t 98), (.t 99)]⟩,
  ⟨(some 101), (some (90, false)), .not (.t 100)⟩,
  ⟨(some 102), none, .pick (.t 90) (.c (.b true)) (.t 101)⟩]
def c54r15 : List AOper := [
  ⟨(some 6), none, .mv (.c (.i .i64 42))⟩]
def c54r16 : List AOper := [
  ⟨(some 43), none, .mv (.t 9)⟩,
  ⟨(some 44), none, .bin false .add (.t 43) (.c (.i .i64 1))⟩,
  ⟨(some 9), none, .mv (.t 44)⟩]
abbrev c54b17 : AC := (.seq (.seq (.reg c54r9) (.cond (.t 42) .skip (.exit 2))) (.seq (.blk 3 (.seq (.head 11 c54r10) (.seq (.seq (.reg c54r11) (.cond (.t 69) (.seq (.reg c54r12) .ret) .skip)) (.seq (.reg c54r13) (.seq (.head 24 c54r14) (.cond (.t 102) (.seq (.reg c54r15) .ret) .skip)))))) (.reg c54r16)))
def c54r18 : List AOper := [
  ⟨(some 6), none, .mv (.c (.i .i64 0))⟩]
abbrev c54 : AC := (.seq (.reg c54r0) (.seq (.seq (.reg c54r1) (.blk 0 (.loop c54b6))) (.seq (.reg c54r7) (.seq (.seq (.reg c54r8) (.blk 2 (.loop c54b17))) (.seq (.reg c54r18) .ret)))))
def q54 : List ARes := [.t 6]
theorem fn54 : fnOf Try.prog 54 = some (c54, q54, 103) := by kernel_rfl
/-! 55: pantoscope/pantoscoperef04.asked · slots 11 · [0 l, 1 tol, 2 l, 3 tol] -/
def c55r0 : List AOper := [
  ⟨(some 4), none, .mv (.c (.i .i64 0))⟩]
def c55r1 : List AOper := [
  ⟨(some 5), none, .mv (.t 0)⟩,
  ⟨(some 6), none, .call (.c (.fn 14 [] [])) [(.t 5)]⟩,
  ⟨(some 7), none, .not (.t 6)⟩]
def c55r2 : List AOper := [
  ⟨(some 4), none, .mv (.c (.i .i64 40))⟩]
def c55r3 : List AOper := [
  ⟨(some 8), none, .mv (.t 1)⟩,
  ⟨(some 9), none, .call (.c (.fn 53 [] [])) [(.t 8)]⟩,
  ⟨(some 10), none, .not (.t 9)⟩]
def c55r4 : List AOper := [
  ⟨(some 4), none, .mv (.c (.i .i64 2))⟩]
def c55r5 : List AOper := [
  ⟨(some 4), none, .mv (.c (.i .i64 0))⟩]
abbrev c55 : AC := (.seq (.reg c55r0) (.seq (.seq (.reg c55r1) (.cond (.t 7) (.seq (.reg c55r2) .ret) .skip)) (.seq (.seq (.reg c55r3) (.cond (.t 10) (.seq (.reg c55r4) .ret) .skip)) (.seq (.reg c55r5) .ret))))
def q55 : List ARes := [.t 4]
theorem fn55 : fnOf Try.prog 55 = some (c55, q55, 11) := by kernel_rfl
/-! 56: pantoscope/pantoscoperef04.isIndex · slots 13 · [0 l, 1 i, 2 l, 3 i] -/
def c56r0 : List AOper := [
  ⟨(some 4), none, .mv (.c (.b false))⟩]
def c56r1 : List AOper := [
  ⟨(some 5), none, .mv (.t 1)⟩,
  ⟨(some 6), none, .bin false .geq (.t 5) (.c (.i .i64 0))⟩,
  ⟨(some 7), none, .mv (.t 6)⟩,
  ⟨(some 8), (some (7, true)), .mv (.t 1)⟩,
  ⟨(some 9), (some (7, true)), .mv (.t 0)⟩,
  ⟨(some 10), (some (7, true)), .len (.t 9)⟩,
  ⟨(some 11), (some (7, true)), .bin false .lss (.t 8) (.t 10)⟩,
  ⟨(some 12), none, .pick (.t 7) (.t 11) (.c (.b false))⟩,
  ⟨(some 4), none, .mv (.t 12)⟩]
abbrev c56 : AC := (.seq (.reg c56r0) (.seq (.reg c56r1) .ret))
def q56 : List ARes := [.t 4]
theorem fn56 : fnOf Try.prog 56 = some (c56, q56, 13) := by kernel_rfl
/-! 57: pantoscope/pantoscoperef04.can · slots 26 · [0 a, 1 b, 2 tol, 3 a, 4 b, 5 tol] -/
def c57r0 : List AOper := [
  ⟨(some 3), none, .box (.t 0)⟩,
  ⟨(some 4), none, .box (.t 1)⟩,
  ⟨(some 6), none, .mv (.c (.b false))⟩]
def c57r1 : List AOper := [
  ⟨(some 7), none, .fa (.t 3) 1⟩,
  ⟨(some 8), none, .ld none (.t 7)⟩,
  ⟨(some 9), none, .fa (.t 4) 1⟩,
  ⟨(some 10), none, .ld none (.t 9)⟩,
  ⟨(some 11), none, .bin false .neq (.t 8) (.t 10)⟩,
  ⟨(some 12), none, .mv (.t 11)⟩,
  ⟨(some 13), (some (12, true)), .fa (.t 3) 3⟩,
  ⟨(some 14), (some (12, true)), .ld none (.t 13)⟩,
  ⟨(some 15), (some (12, true)), .fa (.t 4) 3⟩,
  ⟨(some 16), (some (12, true)), .ld none (.t 15)⟩,
  ⟨(some 17), (some (12, true)), .bin false .eql (.t 14) (.t 16)⟩,
  ⟨(some 18), none, .pick (.t 12) (.t 17) (.c (.b false))⟩,
  ⟨(some 19), none, .mv (.t 18)⟩,
  ⟨(some 20), (some (19, true)), .ld (some 4) (.t 3)⟩,
  ⟨(some 21), (some (19, true)), .ld (some 4) (.t 4)⟩,
  ⟨(some 22), (some (19, true)), .call (.c (.fn 68 [] [])) [(.t 20), (.t 21)]⟩,
  ⟨(some 23), (some (19, true)), .mv (.t 2)⟩,
  ⟨(some 24), (some (19, true)), .bin false .leq (.t 22) (.t 23)⟩,
  ⟨(some 25), none, .pick (.t 19) (.t 24) (.c (.b false))⟩,
  ⟨(some 6), none, .mv (.t 25)⟩]
abbrev c57 : AC := (.seq (.reg c57r0) (.seq (.reg c57r1) .ret))
def q57 : List ARes := [.t 6]
theorem fn57 : fnOf Try.prog 57 = some (c57, q57, 26) := by kernel_rfl
/-! 58: pantoscope/temple.judged · slots 88 · [0 l, 1 pairs, 2 good, 3 l, 4 pairs, 5 good, 7 _, 8 p, 9 had, 10 _, 11 p, 12 a, 13 b] -/
def c58r0 : List AOper := [
  ⟨(some 6), none, .mv (.c (.i .i64 0))⟩]
def c58r1 : List AOper := [
  ⟨(some 14), none, .mv (.t 1)⟩,
  ⟨(some 15), none, .len (.t 14)⟩,
  ⟨(some 16), none, .mv (.c (.i .i64 0))⟩]
def c58r2 : List AOper := [
  ⟨(some 17), none, .bin false .lss (.t 16) (.t 15)⟩]
def c58r3 : List AOper := [
  ⟨(some 18), none, .ia 2 (.t 14) (.t 16)⟩,
  ⟨(some 19), none, .ld (some 2) (.t 18)⟩,
  ⟨(some 8), none, .alloc [.i .i64 0, .i .i64 0]⟩,
  ⟨none, none, .sto (some 2) (.t 8) (.t 19)⟩]
def c58r4 : List AOper := [
  ⟨(some 20), none, .iap 2 1 (.t 8) (.c (.i .i64 0))⟩,
  ⟨(some 21), none, .ld none (.t 20)⟩,
  ⟨(some 22), none, .mv (.t 0)⟩,
  ⟨(some 23), none, .len (.t 22)⟩,
  ⟨(some 24), none, .bin false .sub (.t 23) (.c (.i .i64 1))⟩,
  ⟨(some 25), none, .call (.c (.fn 71 [] [])) [(.c (.i .i64 0)), (.t 21), (.t 24)]⟩,
  ⟨(some 26), none, .not (.t 25)⟩,
  ⟨(some 27), none, .mv (.t 26)⟩,
  ⟨(some 28), (some (27, false)), .iap 2 1 (.t 8) (.c (.i .i64 1))⟩,
  ⟨(some 29), (some (27, false)), .ld none (.t 28)⟩,
  ⟨(some 30), (some (27, false)), .mv (.t 0)⟩,
  ⟨(some 31), (some (27, false)), .len (.t 30)⟩,
  ⟨(some 32), (some (27, false)), .bin false .sub (.t 31) (.c (.i .i64 1))⟩,
  ⟨(some 33), (some (27, false)), .call (.c (.fn 71 [] [])) [(.c (.i .i64 0)), (.t 29), (.t 32)]⟩,
  ⟨(some 34), (some (27, false)), .not (.t 33)⟩,
  ⟨(some 35), none, .pick (.t 27) (.c (.b true)) (.t 34)⟩]
def c58r5 : List AOper := [
  ⟨(some 6), none, .mv (.c (.i .i64 2))⟩]
def c58r6 : List AOper := [
  ⟨(some 36), none, .bin false .add (.t 16) (.c (.i .i64 1))⟩,
  ⟨(some 16), none, .mv (.t 36)⟩]
abbrev c58b7 : AC := (.seq (.reg c58r2) (.seq (.cond (.t 17) .skip (.exit 0)) (.seq (.blk 1 (.seq (.reg c58r3) (.seq (.reg c58r4) (.cond (.t 35) (.seq (.reg c58r5) .ret) .skip)))) (.reg c58r6))))
def c58r8 : List AOper := [
  ⟨(some 37), none, .mkm⟩,
  ⟨(some 9), none, .mv (.t 37)⟩]
def c58r9 : List AOper := [
  ⟨(some 38), none, .mv (.t 1)⟩,
  ⟨(some 39), none, .len (.t 38)⟩,
  ⟨(some 40), none, .mv (.c (.i .i64 0))⟩]
def c58r10 : List AOper := [
  ⟨(some 41), none, .bin false .lss (.t 40) (.t 39)⟩]
def c58r11 : List AOper := [
  ⟨(some 42), none, .ia 2 (.t 38) (.t 40)⟩,
  ⟨(some 43), none, .ld (some 2) (.t 42)⟩,
  ⟨(some 11), none, .alloc [.i .i64 0, .i .i64 0]⟩,
  ⟨none, none, .sto (some 2) (.t 11) (.t 43)⟩]
def c58r12 : List AOper := [
  ⟨(some 44), none, .mv (.t 9)⟩,
  ⟨(some 45), none, .iap 2 1 (.t 11) (.c (.i .i64 0))⟩,
  ⟨(some 46), none, .ld none (.t 45)⟩,
  ⟨(some 47), none, .mlk none (.b false) false (.t 44) (.t 46)⟩,
  ⟨(some 48), none, .mv (.t 47)⟩,
  ⟨(some 49), (some (48, false)), .mv (.t 9)⟩,
  ⟨(some 50), (some (48, false)), .iap 2 1 (.t 11) (.c (.i .i64 1))⟩,
  ⟨(some 51), (some (48, false)), .ld none (.t 50)⟩,
  ⟨(some 52), (some (48, false)), .mlk none (.b false) false (.t 49) (.t 51)⟩,
  ⟨(some 53), none, .pick (.t 48) (.c (.b true)) (.t 52)⟩,
  ⟨(some 54), none, .mv (.t 53)⟩,
  ⟨(some 55), (some (54, false)), .iap 2 1 (.t 11) (.c (.i .i64 0))⟩,
  ⟨(some 56), (some (54, false)), .ld none (.t 55)⟩,
  ⟨(some 57), (some (54, false)), .iap 2 1 (.t 11) (.c (.i .i64 1))⟩,
  ⟨(some 58), (some (54, false)), .ld none (.t 57)⟩,
  ⟨(some 59), (some (54, false)), .bin false .eql (.t 56) (.t 58)⟩,
  ⟨(some 60), none, .pick (.t 54) (.c (.b true)) (.t 59)⟩]
def c58r13 : List AOper := [
  ⟨(some 6), none, .mv (.c (.i .i64 43))⟩]
def c58r14 : List AOper := [
  ⟨(some 61), none, .mv (.t 0)⟩,
  ⟨(some 62), none, .iap 2 1 (.t 11) (.c (.i .i64 0))⟩,
  ⟨(some 63), none, .ld none (.t 62)⟩,
  ⟨(some 64), none, .ia 4 (.t 61) (.t 63)⟩,
  ⟨(some 65), none, .ld (some 4) (.t 64)⟩,
  ⟨(some 66), none, .mv (.t 0)⟩,
  ⟨(some 67), none, .iap 2 1 (.t 11) (.c (.i .i64 1))⟩,
  ⟨(some 68), none, .ld none (.t 67)⟩,
  ⟨(some 69), none, .ia 4 (.t 66) (.t 68)⟩,
  ⟨(some 70), none, .ld (some 4) (.t 69)⟩,
  ⟨(some 12), none, .alloc [.i .i64 0, .i .i64 0, .i .i64 0, .i .i64 0]⟩,
  ⟨(some 13), none, .alloc [.i .i64 0, .i .i64 0, .i .i64 0, .i .i64 0]⟩,
  ⟨none, none, .sto (some 4) (.t 12) (.t 65)⟩,
  ⟨none, none, .sto (some 4) (.t 13) (.t 70)⟩]
def c58r15 : List AOper := [
  ⟨(some 71), none, .fa (.t 12) 1⟩,
  ⟨(some 72), none, .ld none (.t 71)⟩,
  ⟨(some 73), none, .bin false .neq (.t 72) (.c (.i .i64 1))⟩,
  ⟨(some 74), none, .mv (.t 73)⟩,
  ⟨(some 75), (some (74, false)), .mv (.t 2)⟩,
  ⟨(some 76), (some (74, false)), .ld (some 4) (.t 12)⟩,
  ⟨(some 77), (some (74, false)), .ld (some 4) (.t 13)⟩,
  ⟨(some 78), (some (74, false)), .call (.t 75) [(.t 76), (.t 77)]⟩,
  ⟨(some 79), (some (74, false)), .not (.t 78)⟩,
  ⟨(some 80), none, .pick (.t 74) (.c (.b true)) (.t 79)⟩]
def c58r16 : List AOper := [
  ⟨(some 6), none, .mv (.c (.i .i64 42))⟩]
def c58r17 : List AOper := [
  ⟨(some 81), none, .mv (.t 9)⟩,
  ⟨(some 82), none, .iap 2 1 (.t 11) (.c (.i .i64 0))⟩,
  ⟨(some 83), none, .ld none (.t 82)⟩,
  ⟨(some 84), none, .mv (.t 9)⟩,
  ⟨(some 85), none, .iap 2 1 (.t 11) (.c (.i .i64 1))⟩,
  ⟨(some 86), none, .ld none (.t 85)⟩,
  ⟨none, none, .mup none (.t 81) (.t 83) (.c (.b true))⟩,
  ⟨none, none, .mup none (.t 84) (.t 86) (.c (.b true))⟩]
def c58r18 : List AOper := [
  ⟨(some 87), none, .bin false .add (.t 40) (.c (.i .i64 1))⟩,
  ⟨(some 40), none, .mv (.t 87)⟩]
abbrev c58b19 : AC := (.seq (.reg c58r10) (.seq (.cond (.t 41) .skip (.exit 2)) (.seq (.blk 3 (.seq (.reg c58r11) (.seq (.seq (.reg c58r12) (.cond (.t 60) (.seq (.reg c58r13) .ret) .skip)) (.seq (.head 13 c58r14) (.seq (.seq (.reg c58r15) (.cond (.t 80) (.seq (.reg c58r16) .ret) .skip)) (.head 7 c58r17)))))) (.reg c58r18))))
def c58r20 : List AOper := [
  ⟨(some 6), none, .mv (.c (.i .i64 0))⟩]
abbrev c58 : AC := (.seq (.reg c58r0) (.seq (.seq (.reg c58r1) (.blk 0 (.loop c58b7))) (.seq (.reg c58r8) (.seq (.seq (.reg c58r9) (.blk 2 (.loop c58b19))) (.seq (.reg c58r20) .ret)))))
def q58 : List ARes := [.t 6]
theorem fn58 : fnOf Try.prog 58 = some (c58, q58, 88) := by kernel_rfl
/-! 59: pantoscope/temple.mates · slots 17 · [0 a, 1 b, 2 a, 3 b] -/
def c59r0 : List AOper := [
  ⟨(some 2), none, .box (.t 0)⟩,
  ⟨(some 3), none, .box (.t 1)⟩,
  ⟨(some 4), none, .mv (.c (.b false))⟩]
def c59r1 : List AOper := [
  ⟨(some 5), none, .fa (.t 2) 1⟩,
  ⟨(some 6), none, .ld none (.t 5)⟩,
  ⟨(some 7), none, .fa (.t 3) 1⟩,
  ⟨(some 8), none, .ld none (.t 7)⟩,
  ⟨(some 9), none, .bin false .neq (.t 6) (.t 8)⟩,
  ⟨(some 10), none, .mv (.t 9)⟩,
  ⟨(some 11), (some (10, true)), .fa (.t 2) 3⟩,
  ⟨(some 12), (some (10, true)), .ld none (.t 11)⟩,
  ⟨(some 13), (some (10, true)), .fa (.t 3) 3⟩,
  ⟨(some 14), (some (10, true)), .ld none (.t 13)⟩,
  ⟨(some 15), (some (10, true)), .bin false .eql (.t 12) (.t 14)⟩,
  ⟨(some 16), none, .pick (.t 10) (.t 15) (.c (.b false))⟩,
  ⟨(some 4), none, .mv (.t 16)⟩]
abbrev c59 : AC := (.seq (.reg c59r0) (.seq (.reg c59r1) .ret))
def q59 : List ARes := [.t 4]
theorem fn59 : fnOf Try.prog 59 = some (c59, q59, 17) := by kernel_rfl
/-! 60: pantoscope/temple.apart · slots 16 · [0 a, 1 b, 2 a, 3 b] -/
def c60r0 : List AOper := [
  ⟨(some 2), none, .box (.t 0)⟩,
  ⟨(some 3), none, .box (.t 1)⟩,
  ⟨(some 4), none, .mv (.c (.i .i64 0))⟩]
def c60r1 : List AOper := [
  ⟨(some 5), none, .fa (.t 2) 2⟩,
  ⟨(some 6), none, .ld none (.t 5)⟩,
  ⟨(some 7), none, .fa (.t 3) 2⟩,
  ⟨(some 8), none, .ld none (.t 7)⟩,
  ⟨(some 9), none, .bin false .sub (.t 6) (.t 8)⟩,
  ⟨(some 10), none, .fa (.t 3) 2⟩,
  ⟨(some 11), none, .ld none (.t 10)⟩,
  ⟨(some 12), none, .fa (.t 2) 2⟩,
  ⟨(some 13), none, .ld none (.t 12)⟩,
  ⟨(some 14), none, .bin false .sub (.t 11) (.t 13)⟩,
  ⟨(some 15), none, .mm true (.t 9) [(.t 14)]⟩,
  ⟨(some 4), none, .mv (.t 15)⟩]
abbrev c60 : AC := (.seq (.reg c60r0) (.seq (.reg c60r1) .ret))
def q60 : List ARes := [.t 4]
theorem fn60 : fnOf Try.prog 60 = some (c60, q60, 16) := by kernel_rfl
/-! 61: sort.Search · slots 26 · [0 n, 1 f, 2 n, 3 f, 5 i, 6 j, 7 h] -/
def c61r0 : List AOper := [
  ⟨(some 4), none, .mv (.c (.i .i64 0))⟩]
def c61r1 : List AOper := [
  ⟨(some 8), none, .mv (.t 0)⟩,
  ⟨(some 5), none, .mv (.c (.i .i64 0))⟩,
  ⟨(some 6), none, .mv (.t 8)⟩]
def c61r2 : List AOper := [
  ⟨(some 9), none, .mv (.t 5)⟩,
  ⟨(some 10), none, .mv (.t 6)⟩,
  ⟨(some 11), none, .bin false .lss (.t 9) (.t 10)⟩]
def c61r3 : List AOper := [
  ⟨(some 12), none, .mv (.t 5)⟩,
  ⟨(some 13), none, .mv (.t 6)⟩,
  ⟨(some 14), none, .bin false .add (.t 12) (.t 13)⟩,
  ⟨(some 15), none, .conv .u64 (.t 14)⟩,
  ⟨(some 16), none, .bin false .shr (.t 15) (.c (.i .u64 1))⟩,
  ⟨(some 17), none, .conv .i64 (.t 16)⟩,
  ⟨(some 7), none, .mv (.t 17)⟩]
def c61r4 : List AOper := [
  ⟨(some 18), none, .mv (.t 1)⟩,
  ⟨(some 19), none, .mv (.t 7)⟩,
  ⟨(some 20), none, .call (.t 18) [(.t 19)]⟩,
  ⟨(some 21), none, .not (.t 20)⟩]
def c61r5 : List AOper := [
  ⟨(some 22), none, .mv (.t 7)⟩,
  ⟨(some 23), none, .bin false .add (.t 22) (.c (.i .i64 1))⟩,
  ⟨(some 5), none, .mv (.t 23)⟩]
def c61r6 : List AOper := [
  ⟨(some 24), none, .mv (.t 7)⟩,
  ⟨(some 6), none, .mv (.t 24)⟩]
abbrev c61b7 : AC := (.seq (.seq (.reg c61r2) (.cond (.t 11) .skip (.exit 0))) (.blk 1 (.seq (.reg c61r3) (.seq (.reg c61r4) (.cond (.t 21) (.reg c61r5) (.reg c61r6))))))
def c61r8 : List AOper := [
  ⟨(some 25), none, .mv (.t 5)⟩,
  ⟨(some 4), none, .mv (.t 25)⟩]
abbrev c61 : AC := (.seq (.reg c61r0) (.seq (.reg c61r1) (.seq (.blk 0 (.loop c61b7)) (.seq (.reg c61r8) .ret))))
def q61 : List ARes := [.t 4]
theorem fn61 : fnOf Try.prog 61 = some (c61, q61, 26) := by kernel_rfl
/-! 62: pantoscope/temple.Tolerance$1 · slots 11 · [0 t, 3 t] -/
def c62r0 : List AOper := [
  ⟨(some 4), none, .mv (.c (.b false))⟩]
def c62r1 : List AOper := [
  ⟨(some 5), none, .ld none (.t 1)⟩,
  ⟨(some 6), none, .mv (.t 0)⟩,
  ⟨(some 7), none, .call (.c (.fn 50 [] [])) [(.t 5), (.t 6)]⟩,
  ⟨(some 8), none, .len (.t 7)⟩,
  ⟨(some 9), none, .ld none (.t 2)⟩,
  ⟨(some 10), none, .bin false .geq (.t 8) (.t 9)⟩,
  ⟨(some 4), none, .mv (.t 10)⟩]
abbrev c62 : AC := (.seq (.reg c62r0) (.seq (.head 5 c62r1) .ret))
def q62 : List ARes := [.t 4]
theorem fn62 : fnOf Try.prog 62 = some (c62, q62, 11) := by kernel_rfl
/-! 63: pantoscope/temple.right · slots 21 · [0 t, 1 t] -/
def c63r0 : List AOper := [
  ⟨(some 1), none, .box (.t 0)⟩,
  ⟨(some 2), none, .mv (.c (.b false))⟩]
def c63r1 : List AOper := [
  ⟨(some 3), none, .fa (.t 1) 0⟩,
  ⟨(some 4), none, .ld none (.t 3)⟩,
  ⟨(some 5), none, .call (.c (.fn 71 [] [])) [(.c (.i .i64 1)), (.t 4), (.c (.i .i64 1000000000))]⟩,
  ⟨(some 6), none, .mv (.t 5)⟩,
  ⟨(some 7), (some (6, true)), .fa (.t 1) 1⟩,
  ⟨(some 8), (some (6, true)), .ld none (.t 7)⟩,
  ⟨(some 9), (some (6, true)), .call (.c (.fn 71 [] [])) [(.c (.i .i64 1)), (.t 8), (.c (.i .i64 2))]⟩,
  ⟨(some 10), none, .pick (.t 6) (.t 9) (.c (.b false))⟩,
  ⟨(some 11), none, .mv (.t 10)⟩,
  ⟨(some 12), (some (11, true)), .fa (.t 1) 2⟩,
  ⟨(some 13), (some (11, true)), .ld none (.t 12)⟩,
  ⟨(some 14), (some (11, true)), .call (.c (.fn 71 [] [])) [(.c (.i .i64 1)), (.t 13), (.c (.i .i64 2000))]⟩,
  ⟨(some 15), none, .pick (.t 11) (.t 14) (.c (.b false))⟩,
  ⟨(some 16), none, .mv (.t 15)⟩,
  ⟨(some 17), (some (16, true)), .fa (.t 1) 3⟩,
  ⟨(some 18), (some (16, true)), .ld none (.t 17)⟩,
  ⟨(some 19), (some (16, true)), .call (.c (.fn 71 [] [])) [(.c (.i .i64 1)), (.t 18), (.c (.i .i64 9))]⟩,
  ⟨(some 20), none, .pick (.t 16) (.t 19) (.c (.b false))⟩,
  ⟨(some 2), none, .mv (.t 20)⟩]
abbrev c63 : AC := (.seq (.reg c63r0) (.seq (.reg c63r1) .ret))
def q63 : List ARes := [.t 2]
theorem fn63 : fnOf Try.prog 63 = some (c63, q63, 21) := by kernel_rfl
/-! 68: pantoscope/pantoscoperef04.apart · slots 16 · [0 a, 1 b, 2 a, 3 b] -/
def c68r0 : List AOper := [
  ⟨(some 2), none, .box (.t 0)⟩,
  ⟨(some 3), none, .box (.t 1)⟩,
  ⟨(some 4), none, .mv (.c (.i .i64 0))⟩]
def c68r1 : List AOper := [
  ⟨(some 5), none, .fa (.t 2) 2⟩,
  ⟨(some 6), none, .ld none (.t 5)⟩,
  ⟨(some 7), none, .fa (.t 3) 2⟩,
  ⟨(some 8), none, .ld none (.t 7)⟩,
  ⟨(some 9), none, .bin false .sub (.t 6) (.t 8)⟩,
  ⟨(some 10), none, .fa (.t 3) 2⟩,
  ⟨(some 11), none, .ld none (.t 10)⟩,
  ⟨(some 12), none, .fa (.t 2) 2⟩,
  ⟨(some 13), none, .ld none (.t 12)⟩,
  ⟨(some 14), none, .bin false .sub (.t 11) (.t 13)⟩,
  ⟨(some 15), none, .mm true (.t 9) [(.t 14)]⟩,
  ⟨(some 4), none, .mv (.t 15)⟩]
abbrev c68 : AC := (.seq (.reg c68r0) (.seq (.reg c68r1) .ret))
def q68 : List ARes := [.t 4]
theorem fn68 : fnOf Try.prog 68 = some (c68, q68, 16) := by kernel_rfl
/-! 71: pantoscope/temple.between · slots 15 · [0 low, 1 n, 2 high, 3 low, 4 n, 5 high] -/
def c71r0 : List AOper := [
  ⟨(some 6), none, .mv (.c (.b false))⟩]
def c71r1 : List AOper := [
  ⟨(some 7), none, .mv (.t 0)⟩,
  ⟨(some 8), none, .mv (.t 1)⟩,
  ⟨(some 9), none, .bin false .leq (.t 7) (.t 8)⟩,
  ⟨(some 10), none, .mv (.t 9)⟩,
  ⟨(some 11), (some (10, true)), .mv (.t 1)⟩,
  ⟨(some 12), (some (10, true)), .mv (.t 2)⟩,
  ⟨(some 13), (some (10, true)), .bin false .leq (.t 11) (.t 12)⟩,
  ⟨(some 14), none, .pick (.t 10) (.t 13) (.c (.b false))⟩,
  ⟨(some 6), none, .mv (.t 14)⟩]
abbrev c71 : AC := (.seq (.reg c71r0) (.seq (.reg c71r1) .ret))
def q71 : List ARes := [.t 6]
theorem fn71 : fnOf Try.prog 71 = some (c71, q71, 15) := by kernel_rfl
/-! 74: pantoscope/temple.side · slots 37 · [0 l, 1 side, 2 colour, 3 l, 4 side, 5 colour, 7 out, 8 i, 9 t] -/
def c74r0 : List AOper := [
  ⟨(some 6), none, .mv (.c (.sl 0 0 0 0))⟩]
def c74r1 : List AOper := [
  ⟨(some 7), none, .mv (.c (.sl 0 0 0 0))⟩]
def c74r2 : List AOper := [
  ⟨(some 10), none, .mv (.t 0)⟩,
  ⟨(some 11), none, .len (.t 10)⟩,
  ⟨(some 12), none, .mv (.c (.i .i64 0))⟩]
def c74r3 : List AOper := [
  ⟨(some 13), none, .bin false .lss (.t 12) (.t 11)⟩]
def c74r4 : List AOper := [
  ⟨(some 14), none, .mv (.t 12)⟩,
  ⟨(some 15), none, .ia 4 (.t 10) (.t 12)⟩,
  ⟨(some 16), none, .ld (some 4) (.t 15)⟩,
  ⟨(some 9), none, .alloc [.i .i64 0, .i .i64 0, .i .i64 0, .i .i64 0]⟩,
  ⟨(some 8), none, .mv (.t 14)⟩,
  ⟨none, none, .sto (some 4) (.t 9) (.t 16)⟩]
def c74r5 : List AOper := [
  ⟨(some 17), none, .fa (.t 9) 1⟩,
  ⟨(some 18), none, .ld none (.t 17)⟩,
  ⟨(some 19), none, .mv (.t 1)⟩,
  ⟨(some 20), none, .bin false .eql (.t 18) (.t 19)⟩,
  ⟨(some 21), none, .mv (.t 20)⟩,
  ⟨(some 22), (some (21, true)), .fa (.t 9) 3⟩,
  ⟨(some 23), (some (21, true)), .ld none (.t 22)⟩,
  ⟨(some 24), (some (21, true)), .mv (.t 2)⟩,
  ⟨(some 25), (some (21, true)), .bin false .eql (.t 23) (.t 24)⟩,
  ⟨(some 26), none, .pick (.t 21) (.t 25) (.c (.b false))⟩]
def c74r6 : List AOper := [
  ⟨(some 27), none, .mv (.t 7)⟩,
  ⟨(some 28), none, .mv (.t 8)⟩,
  ⟨(some 29), none, .bsl 1 [.i .i64 0] [(0, 1, (.t 28))]⟩,
  ⟨(some 30), none, .app 1 8 (.t 27) (.t 29)⟩,
  ⟨(some 7), none, .mv (.t 30)⟩]
def c74r7 : List AOper := [
  ⟨(some 31), none, .bin false .add (.t 12) (.c (.i .i64 1))⟩,
  ⟨(some 12), none, .mv (.t 31)⟩]
abbrev c74b8 : AC := (.seq (.reg c74r3) (.seq (.cond (.t 13) .skip (.exit 0)) (.seq (.blk 1 (.seq (.reg c74r4) (.seq (.reg c74r5) (.cond (.t 26) (.reg c74r6) .skip)))) (.reg c74r7))))
def c74r9 : List AOper := [
  ⟨(some 32), none, .mv (.t 7)⟩,
  ⟨(some 33), none, .mv (.t 0)⟩,
  ⟨(some 34), none, .call (.c (.fn 78 [] [])) [(.t 33)]⟩,
  ⟨(some 35), none, .call (.c (.fn 77 [] [])) [(.t 32), (.t 34)]⟩]
def c74r10 : List AOper := [
  ⟨(some 36), none, .mv (.t 7)⟩,
  ⟨(some 6), none, .mv (.t 36)⟩]
abbrev c74 : AC := (.seq (.reg c74r0) (.seq (.reg c74r1) (.seq (.seq (.reg c74r2) (.blk 0 (.loop c74b8))) (.seq (.reg c74r9) (.seq (.reg c74r10) .ret)))))
def q74 : List ARes := [.t 6]
theorem fn74 : fnOf Try.prog 74 = some (c74, q74, 37) := by kernel_rfl
def q77 : List ARes := []
/-! 78: pantoscope/temple.shorter · slots 4 · [0 l, 1 l] -/
def c78r0 : List AOper := [
  ⟨(some 1), none, .box (.t 0)⟩,
  ⟨(some 2), none, .mv (.c (.nilf))⟩]
def c78r1 : List AOper := [
  ⟨(some 3), none, .mkf 81 [] [(.t 1)]⟩,
  ⟨(some 2), none, .mv (.t 3)⟩]
abbrev c78 : AC := (.seq (.reg c78r0) (.seq (.reg c78r1) .ret))
def q78 : List ARes := [.t 2]
theorem fn78 : fnOf Try.prog 78 = some (c78, q78, 4) := by kernel_rfl
/-! 81: pantoscope/temple.shorter$1 · slots 30 · [0 i, 1 k, 3 i, 4 k] -/
def c81r0 : List AOper := [
  ⟨(some 5), none, .mv (.c (.i .i64 0))⟩]
def c81r1 : List AOper := [
  ⟨(some 6), none, .ld none (.t 2)⟩,
  ⟨(some 7), none, .mv (.t 0)⟩,
  ⟨(some 8), none, .ia 4 (.t 6) (.t 7)⟩,
  ⟨(some 9), none, .fa (.t 8) 2⟩,
  ⟨(some 10), none, .ld none (.t 9)⟩,
  ⟨(some 11), none, .ld none (.t 2)⟩,
  ⟨(some 12), none, .mv (.t 1)⟩,
  ⟨(some 13), none, .ia 4 (.t 11) (.t 12)⟩,
  ⟨(some 14), none, .fa (.t 13) 2⟩,
  ⟨(some 15), none, .ld none (.t 14)⟩,
  ⟨(some 16), none, .call (.c (.fn 83 [] [])) [(.t 10), (.t 15)]⟩,
  ⟨(some 17), none, .ld none (.t 2)⟩,
  ⟨(some 18), none, .mv (.t 0)⟩,
  ⟨(some 19), none, .ia 4 (.t 17) (.t 18)⟩,
  ⟨(some 20), none, .fa (.t 19) 0⟩,
  ⟨(some 21), none, .ld none (.t 20)⟩,
  ⟨(some 22), none, .ld none (.t 2)⟩,
  ⟨(some 23), none, .mv (.t 1)⟩,
  ⟨(some 24), none, .ia 4 (.t 22) (.t 23)⟩,
  ⟨(some 25), none, .fa (.t 24) 0⟩,
  ⟨(some 26), none, .ld none (.t 25)⟩,
  ⟨(some 27), none, .call (.c (.fn 83 [] [])) [(.t 21), (.t 26)]⟩,
  ⟨(some 28), none, .bsl 1 [.i .i64 0, .i .i64 0] [(0, 1, (.t 16)), (1, 1, (.t 27))]⟩,
  ⟨(some 29), none, .call (.c (.fn 82 [] [])) [(.t 28)]⟩,
  ⟨(some 5), none, .mv (.t 29)⟩]
abbrev c81 : AC := (.seq (.reg c81r0) (.seq (.head 21 c81r1) .ret))
def q81 : List ARes := [.t 5]
theorem fn81 : fnOf Try.prog 81 = some (c81, q81, 30) := by kernel_rfl
/-! 82: cmp.Or[int] · slots 18 · [0 vals, 1 vals, 3 zero, 4 _, 5 val] -/
def c82r0 : List AOper := [
  ⟨(some 2), none, .mv (.c (.i .i64 0))⟩]
def c82r1 : List AOper := [
  ⟨(some 3), none, .mv (.c (.i .i64 0))⟩]
def c82r2 : List AOper := [
  ⟨(some 6), none, .mv (.t 0)⟩,
  ⟨(some 7), none, .len (.t 6)⟩,
  ⟨(some 8), none, .mv (.c (.i .i64 0))⟩]
def c82r3 : List AOper := [
  ⟨(some 9), none, .bin false .lss (.t 8) (.t 7)⟩]
def c82r4 : List AOper := [
  ⟨(some 10), none, .ia 1 (.t 6) (.t 8)⟩,
  ⟨(some 11), none, .ld none (.t 10)⟩,
  ⟨(some 5), none, .mv (.t 11)⟩]
def c82r5 : List AOper := [
  ⟨(some 12), none, .mv (.t 5)⟩,
  ⟨(some 13), none, .mv (.t 3)⟩,
  ⟨(some 14), none, .bin false .neq (.t 12) (.t 13)⟩]
def c82r6 : List AOper := [
  ⟨(some 15), none, .mv (.t 5)⟩,
  ⟨(some 2), none, .mv (.t 15)⟩]
def c82r7 : List AOper := [
  ⟨(some 16), none, .bin false .add (.t 8) (.c (.i .i64 1))⟩,
  ⟨(some 8), none, .mv (.t 16)⟩]
abbrev c82b8 : AC := (.seq (.reg c82r3) (.seq (.cond (.t 9) .skip (.exit 0)) (.seq (.blk 1 (.seq (.reg c82r4) (.seq (.reg c82r5) (.cond (.t 14) (.seq (.reg c82r6) .ret) .skip)))) (.reg c82r7))))
def c82r9 : List AOper := [
  ⟨(some 17), none, .mv (.t 3)⟩,
  ⟨(some 2), none, .mv (.t 17)⟩]
abbrev c82 : AC := (.seq (.reg c82r0) (.seq (.reg c82r1) (.seq (.seq (.reg c82r2) (.blk 0 (.loop c82b8))) (.seq (.reg c82r9) .ret))))
def q82 : List ARes := [.t 2]
theorem fn82 : fnOf Try.prog 82 = some (c82, q82, 18) := by kernel_rfl
/-! 83: cmp.Compare[int] · slots 20 · [0 x, 1 y, 2 x, 3 y, 5 xNaN, 6 yNaN] -/
def c83r0 : List AOper := [
  ⟨(some 4), none, .mv (.c (.i .i64 0))⟩]
def c83r1 : List AOper := [
  ⟨(some 7), none, .mv (.t 0)⟩,
  ⟨(some 8), none, .call (.c (.fn 94 [] [])) [(.t 7)]⟩,
  ⟨(some 5), none, .mv (.t 8)⟩]
def c83r2 : List AOper := [
  ⟨(some 9), none, .mv (.t 1)⟩,
  ⟨(some 10), none, .call (.c (.fn 94 [] [])) [(.t 9)]⟩,
  ⟨(some 6), none, .mv (.t 10)⟩]
def c83r3 : List AOper := [
  ⟨(some 11), none, .mv (.t 5)⟩]
def c83r4 : List AOper := [
  ⟨(some 12), none, .mv (.t 6)⟩]
def c83r5 : List AOper := [
  ⟨(some 4), none, .mv (.c (.i .i64 0))⟩]
def c83r6 : List AOper := [
  ⟨(some 4), none, .mv (.c (.i .i64 (-1)))⟩]
def c83r7 : List AOper := [
  ⟨(some 13), none, .mv (.t 6)⟩]
def c83r8 : List AOper := [
  ⟨(some 4), none, .mv (.c (.i .i64 1))⟩]
def c83r9 : List AOper := [
  ⟨(some 14), none, .mv (.t 0)⟩,
  ⟨(some 15), none, .mv (.t 1)⟩,
  ⟨(some 16), none, .bin false .lss (.t 14) (.t 15)⟩]
def c83r10 : List AOper := [
  ⟨(some 4), none, .mv (.c (.i .i64 (-1)))⟩]
def c83r11 : List AOper := [
  ⟨(some 17), none, .mv (.t 0)⟩,
  ⟨(some 18), none, .mv (.t 1)⟩,
  ⟨(some 19), none, .bin false .gtr (.t 17) (.t 18)⟩]
def c83r12 : List AOper := [
  ⟨(some 4), none, .mv (.c (.i .i64 1))⟩]
def c83r13 : List AOper := [
  ⟨(some 4), none, .mv (.c (.i .i64 0))⟩]
abbrev c83 : AC := (.seq (.reg c83r0) (.seq (.reg c83r1) (.seq (.reg c83r2) (.seq (.seq (.reg c83r3) (.cond (.t 11) (.seq (.seq (.reg c83r4) (.cond (.t 12) (.seq (.reg c83r5) .ret) .skip)) (.seq (.reg c83r6) .ret)) .skip)) (.seq (.seq (.reg c83r7) (.cond (.t 13) (.seq (.reg c83r8) .ret) .skip)) (.seq (.seq (.reg c83r9) (.cond (.t 16) (.seq (.reg c83r10) .ret) .skip)) (.seq (.seq (.reg c83r11) (.cond (.t 19) (.seq (.reg c83r12) .ret) .skip)) (.seq (.reg c83r13) .ret))))))))
def q83 : List ARes := [.t 4]
theorem fn83 : fnOf Try.prog 83 = some (c83, q83, 20) := by kernel_rfl
/-! 94: cmp.isNaN[int] · slots 6 · [0 x, 1 x] -/
def c94r0 : List AOper := [
  ⟨(some 2), none, .mv (.c (.b false))⟩]
def c94r1 : List AOper := [
  ⟨(some 3), none, .mv (.t 0)⟩,
  ⟨(some 4), none, .mv (.t 0)⟩,
  ⟨(some 5), none, .bin false .neq (.t 3) (.t 4)⟩,
  ⟨(some 2), none, .mv (.t 5)⟩]
abbrev c94 : AC := (.seq (.reg c94r0) (.seq (.reg c94r1) .ret))
def q94 : List ARes := [.t 2]
theorem fn94 : fnOf Try.prog 94 = some (c94, q94, 6) := by kernel_rfl
end Go.Proofs.Ytbhkbaapfioijaa
set_option linter.unusedVariables false
set_option linter.unusedSimpArgs false
namespace Go.Proofs.Ytbhkbaapfioijaa
open Go Go.Am Go.Proofs
/-! ### Small functions -/
theorem pc71 (a b c : Int) : PC Try.prog 71 [.i .i64 a, .i .i64 b, .i .i64 c] (.b (decide (a ≤ b) && decide (b ≤ c))) := by
  refine pc_fn fn71 (by simp only [AV.plains, AV.plain, il_plain, bl_plain, Bool.and_true, Bool.true_and, Bool.and_self]) (by simp only [AV.plains, AV.plain, il_plain, bl_plain, Bool.and_true, Bool.true_and, Bool.and_self]) (Nat.le_of_ble_eq_true rfl) ?_
  rw [initSt3]
  repeat' first
    | with_reducible refine k_seq ?_
    | with_reducible refine k_skip ?_
    | with_reducible refine k_blkS ?_
    | with_reducible refine k_blkR ?_
    | with_reducible refine k_blkC ?_
    | with_reducible refine k_blkH ?_
    | with_reducible refine k_blkB ?_
    | with_reducible refine k_blkK ?_
    | with_reducible refine k_blkE ?_
    | with_reducible refine k_reg ?_
    | with_reducible refine r_done ?_
    | with_reducible refine s_go (by simp (disch := omega) only [c71r0, c71r1, EV0, EV1, EV2, EV3, EV4, EV5, EV6, EV7, EV8, VALS, plug, ite_same, decide_true, decide_false, eq_self, ↓reduceIte, reduceCtorEq, Nat.reduceAdd, Nat.reduceEqDiff, Nat.reduceLT, Nat.reduceLeDiff, Nat.reduceMul, Nat.reduceSub, Nat.reduceDiv, Int.reduceToNat, Int.reduceAdd, Int.reduceSub, Int.reduceMul, Int.reduceNeg, Int.reduceEq, Int.reduceLT, Int.reduceLE]; with_reducible rfl) ?_
    | ((with_reducible refine chk_r ?_); refine r_callF (by simp only [CA, Nat.reduceEqDiff, ↓reduceIte]; rfl) (by exact rfl) (by simp only [CA, Nat.reduceEqDiff, ↓reduceIte]; rfl) rfl ?_)
    | (with_reducible refine k_condP (by simp only [GA, Nat.reduceEqDiff, ↓reduceIte]; rfl) (by first | (simp only [BO]; rfl) | rfl) (fun ht => ?_) (fun ht => ?_) <;> try (first | exact False.elim ht | exact absurd rfl ht | exact absurd trivial ht | exact Bool.noConfusion ht))
    | (with_reducible refine k_ret ?_; repeat with_reducible (first | refine ret_thru ?_ | refine ret_blk ?_ | refine fin ?_))
    | (with_reducible refine k_exit ?_; repeat with_reducible (first | refine thru ?_ | refine out_blk ?_ | refine pass (by decide) ?_))
    | (refine post1 ?_; simp only [GA, Nat.reduceEqDiff, ↓reduceIte])
    | (refine post2 ?_; simp only [GA, Nat.reduceEqDiff, ↓reduceIte])
    | (refine post3 ?_; simp only [GA, Nat.reduceEqDiff, ↓reduceIte])
    | (refine postc (by simp only [GA, Nat.reduceEqDiff, ↓reduceIte]; rfl) (by simp (disch := omega) only [c71r0, c71r1, EV0, EV1, EV2, EV3, EV4, EV5, EV6, EV7, EV8, VALS, plug, ite_same, decide_true, decide_false, eq_self, ↓reduceIte, reduceCtorEq, Nat.reduceAdd, Nat.reduceEqDiff, Nat.reduceLT, Nat.reduceLeDiff, Nat.reduceMul, Nat.reduceSub, Nat.reduceDiv, Int.reduceToNat, Int.reduceAdd, Int.reduceSub, Int.reduceMul, Int.reduceNeg, Int.reduceEq, Int.reduceLT, Int.reduceLE]; rfl) ?_)
    | refine post0 ?_
  all_goals first | exact ends_of | exact ends_eq rfl
/-! ### Hinges -/
structure H where
  bar : Int
  st : Int
  wear : Int
  ti : Int
/-- the friction behind one more opening -/
def op (h : H) (f : Int) : Int := f - (f * h.wear + 1000 * h.bar - 1) / (1000 * h.bar)
/-- .. behind so many -/
def ops (h : H) (f : Int) : Nat → Int
  | 0 => f
  | n + 1 => op h (ops h f n)
end Go.Proofs.Ytbhkbaapfioijaa
set_option linter.unusedVariables false
set_option linter.unusedSimpArgs false
namespace Go.Proofs.Ytbhkbaapfioijaa
open Go Go.Am Go.Proofs
/-! ### Life -/
/-- the first number from k on, of n, with p -/
def fst (p : Nat → Bool) : Nat → Nat → Option Nat
  | 0, _ => none
  | n + 1, k => if p k then some k else fst p n (k + 1)
end Go.Proofs.Ytbhkbaapfioijaa
set_option linter.unusedVariables false
set_option linter.unusedSimpArgs false
namespace Go.Proofs.Ytbhkbaapfioijaa
open Go Go.Am Go.Proofs
/-! ### Temples -/
structure T where
  num : Int
  side : Int
  len : Int
  col : Int
def eT (t : T) : List AV := [.i .i64 t.num, .i .i64 t.side, .i .i64 t.len, .i .i64 t.col]
def T0 : T := ⟨0, 0, 0, 0⟩
theorem eT_len (t : T) : (eT t).length = 4 := rfl
theorem eT_plain (t : T) : AV.plains (eT t) = true := rfl
theorem flT_plain (l : List T) : AV.plains (fl eT l) = true := fl_plain eT_plain l
theorem rdT {l : List T} {j : Nat} (h : j < l.length) : rd (fl eT l) (j * 4) (some 4) = some (.ag (eT (l.getD j T0))) := fl_rd eT_len T0 h
theorem getT {l : List T} {j c : Nat} (h : j < l.length) (hc : c < 4) : (fl eT l)[j * 4 + c]? = (eT (l.getD j T0))[c]? := fl_get eT_len T0 h hc
theorem getT0 {l : List T} {j : Nat} (h : j < l.length) : (fl eT l)[j * 4]? = some (.i .i64 (l.getD j T0).num) := getT (c := 0) h (by omega)
theorem getT1 {l : List T} {j : Nat} (h : j < l.length) : (fl eT l)[j * 4 + 1]? = some (.i .i64 (l.getD j T0).side) := getT h (by omega)
theorem getT2 {l : List T} {j : Nat} (h : j < l.length) : (fl eT l)[j * 4 + 2]? = some (.i .i64 (l.getD j T0).len) := getT h (by omega)
theorem getT3 {l : List T} {j : Nat} (h : j < l.length) : (fl eT l)[j * 4 + 3]? = some (.i .i64 (l.getD j T0).col) := getT h (by omega)
abbrev vT (l : List T) : AV := .vs l.length (fl eT l)
def vt (t : T) : Bool := decide (1 ≤ t.num ∧ t.num ≤ 1000000000 ∧ 1 ≤ t.side ∧ t.side ≤ 2 ∧ 1 ≤ t.len ∧ t.len ≤ 2000 ∧ 1 ≤ t.col ∧ t.col ≤ 9)
theorem pc63 (t : T) : PC Try.prog 63 [.ag (eT t)] (.b (vt t)) := by
  refine pc_fn fn63 (by simp only [AV.plains, AV.plain, il_plain, bl_plain, Bool.and_true, Bool.true_and, Bool.and_self, eT_plain]) (by simp only [AV.plains, AV.plain, il_plain, bl_plain, Bool.and_true, Bool.true_and, Bool.and_self, eT_plain]) (Nat.le_of_ble_eq_true rfl) ?_
  rw [initSt1]
  repeat' first
    | with_reducible refine k_seq ?_
    | with_reducible refine k_skip ?_
    | with_reducible refine k_blkS ?_
    | with_reducible refine k_blkR ?_
    | with_reducible refine k_blkC ?_
    | with_reducible refine k_blkH ?_
    | with_reducible refine k_blkB ?_
    | with_reducible refine k_blkK ?_
    | with_reducible refine k_blkE ?_
    | with_reducible refine k_reg ?_
    | with_reducible refine r_done ?_
    | with_reducible refine s_go (by simp (disch := omega) only [eT, c63r0, c63r1, EV0, EV1, EV2, EV3, EV4, EV5, EV6, EV7, EV8, VALS, plug, ite_same, decide_true, decide_false, eq_self, ↓reduceIte, reduceCtorEq, Nat.reduceAdd, Nat.reduceEqDiff, Nat.reduceLT, Nat.reduceLeDiff, Nat.reduceMul, Nat.reduceSub, Nat.reduceDiv, Int.reduceToNat, Int.reduceAdd, Int.reduceSub, Int.reduceMul, Int.reduceNeg, Int.reduceEq, Int.reduceLT, Int.reduceLE]; with_reducible rfl) ?_
    | ((with_reducible refine chk_r ?_); refine r_callF (by simp only [CA, Nat.reduceEqDiff, ↓reduceIte]; rfl) (by exact rfl) (by simp only [CA, Nat.reduceEqDiff, ↓reduceIte]; rfl) rfl ?_)
    | ((with_reducible refine chk_r ?_); refine r_callP (by simp only [CA, Nat.reduceEqDiff, ↓reduceIte]; rfl) (by simp only [CA, Nat.reduceEqDiff, ↓reduceIte]; rfl) (by first | exact pc71 _ _ _ _) rfl ?_)
    | ((with_reducible refine chk_r ?_); refine r_callG (by simp only [CA, Nat.reduceEqDiff, ↓reduceIte]; rfl) (by simp only [CA, Nat.reduceEqDiff, ↓reduceIte]; rfl) (by simp only [CA, Nat.reduceEqDiff, ↓reduceIte]; rfl) (by intro hg; (try simp only [BO] at hg); first | exact pc71 _ _ _ _) rfl ?_)
    | (with_reducible refine k_condP (by simp only [GA, Nat.reduceEqDiff, ↓reduceIte]; rfl) (by first | (simp only [BO]; rfl) | rfl) (fun ht => ?_) (fun ht => ?_) <;> try (first | exact False.elim ht | exact absurd rfl ht | exact absurd trivial ht | exact Bool.noConfusion ht))
    | (with_reducible refine k_ret ?_; repeat with_reducible (first | refine ret_thru ?_ | refine ret_blk ?_ | refine fin ?_))
    | (with_reducible refine k_exit ?_; repeat with_reducible (first | refine thru ?_ | refine out_blk ?_ | refine pass (by decide) ?_))
    | (refine post1 ?_; simp only [GA, Nat.reduceEqDiff, ↓reduceIte])
    | (refine post2 ?_; simp only [GA, Nat.reduceEqDiff, ↓reduceIte])
    | (refine post3 ?_; simp only [GA, Nat.reduceEqDiff, ↓reduceIte])
    | (refine postc (by simp only [GA, Nat.reduceEqDiff, ↓reduceIte]; rfl) (by simp (disch := omega) only [eT, c63r0, c63r1, EV0, EV1, EV2, EV3, EV4, EV5, EV6, EV7, EV8, VALS, plug, ite_same, decide_true, decide_false, eq_self, ↓reduceIte, reduceCtorEq, Nat.reduceAdd, Nat.reduceEqDiff, Nat.reduceLT, Nat.reduceLeDiff, Nat.reduceMul, Nat.reduceSub, Nat.reduceDiv, Int.reduceToNat, Int.reduceAdd, Int.reduceSub, Int.reduceMul, Int.reduceNeg, Int.reduceEq, Int.reduceLT, Int.reduceLE]; rfl) ?_)
    | refine post0 ?_
  refine ends_eq (b_eq ?_); rw [Bool.eq_iff_iff]
  simp [vt]
  omega
theorem pc48 (t : T) : PC Try.prog 48 [.ag (eT t)] (.b (vt t)) := by
  refine pc_fn fn48 (by simp only [AV.plains, AV.plain, il_plain, bl_plain, Bool.and_true, Bool.true_and, Bool.and_self, eT_plain]) (by simp only [AV.plains, AV.plain, il_plain, bl_plain, Bool.and_true, Bool.true_and, Bool.and_self, eT_plain]) (Nat.le_of_ble_eq_true rfl) ?_
  rw [initSt1]
  repeat' first
    | with_reducible refine k_seq ?_
    | with_reducible refine k_skip ?_
    | with_reducible refine k_blkS ?_
    | with_reducible refine k_blkR ?_
    | with_reducible refine k_blkC ?_
    | with_reducible refine k_blkH ?_
    | with_reducible refine k_blkB ?_
    | with_reducible refine k_blkK ?_
    | with_reducible refine k_blkE ?_
    | with_reducible refine k_reg ?_
    | with_reducible refine r_done ?_
    | with_reducible refine s_go (by simp (disch := omega) only [eT, c48r0, c48r1, EV0, EV1, EV2, EV3, EV4, EV5, EV6, EV7, EV8, VALS, plug, ite_same, decide_true, decide_false, eq_self, ↓reduceIte, reduceCtorEq, Nat.reduceAdd, Nat.reduceEqDiff, Nat.reduceLT, Nat.reduceLeDiff, Nat.reduceMul, Nat.reduceSub, Nat.reduceDiv, Int.reduceToNat, Int.reduceAdd, Int.reduceSub, Int.reduceMul, Int.reduceNeg, Int.reduceEq, Int.reduceLT, Int.reduceLE]; with_reducible rfl) ?_
    | ((with_reducible refine chk_r ?_); refine r_callF (by simp only [CA, Nat.reduceEqDiff, ↓reduceIte]; rfl) (by exact rfl) (by simp only [CA, Nat.reduceEqDiff, ↓reduceIte]; rfl) rfl ?_)
    | (with_reducible refine k_condP (by simp only [GA, Nat.reduceEqDiff, ↓reduceIte]; rfl) (by first | (simp only [BO]; rfl) | rfl) (fun ht => ?_) (fun ht => ?_) <;> try (first | exact False.elim ht | exact absurd rfl ht | exact absurd trivial ht | exact Bool.noConfusion ht))
    | (with_reducible refine k_ret ?_; repeat with_reducible (first | refine ret_thru ?_ | refine ret_blk ?_ | refine fin ?_))
    | (with_reducible refine k_exit ?_; repeat with_reducible (first | refine thru ?_ | refine out_blk ?_ | refine pass (by decide) ?_))
    | (refine post1 ?_; simp only [GA, Nat.reduceEqDiff, ↓reduceIte])
    | (refine post2 ?_; simp only [GA, Nat.reduceEqDiff, ↓reduceIte])
    | (refine post3 ?_; simp only [GA, Nat.reduceEqDiff, ↓reduceIte])
    | (refine postc (by simp only [GA, Nat.reduceEqDiff, ↓reduceIte]; rfl) (by simp (disch := omega) only [eT, c48r0, c48r1, EV0, EV1, EV2, EV3, EV4, EV5, EV6, EV7, EV8, VALS, plug, ite_same, decide_true, decide_false, eq_self, ↓reduceIte, reduceCtorEq, Nat.reduceAdd, Nat.reduceEqDiff, Nat.reduceLT, Nat.reduceLeDiff, Nat.reduceMul, Nat.reduceSub, Nat.reduceDiv, Int.reduceToNat, Int.reduceAdd, Int.reduceSub, Int.reduceMul, Int.reduceNeg, Int.reduceEq, Int.reduceLT, Int.reduceLE]; rfl) ?_)
    | refine post0 ?_
  refine ends_eq (b_eq ?_); rw [Bool.eq_iff_iff]
  simp [vt]
  omega
/-- the first k are valid, with different numbers -/
def vk (l : List T) (k : Nat) : Prop := (∀ i, i < k → vt (l.getD i T0) = true) ∧ ∀ i j, i < j → j < k → (l.getD i T0).num ≠ (l.getD j T0).num
def VL (l : List T) : Prop := l.length ≤ 60 ∧ vk l l.length
noncomputable def vl (l : List T) : Bool := @decide (VL l) (Classical.propDecidable _)
theorem vk_mono {l : List T} {k m : Nat} (h : vk l k) (hm : m ≤ k) : vk l m := ⟨fun i hi => h.1 i (by omega), fun i j hi hj => h.2 i j hi (by omega)⟩
theorem vl_t {l : List T} (h : VL l) : vl l = true := by unfold vl; exact @decide_eq_true _ (Classical.propDecidable _) h
theorem vl_f {l : List T} (h : ¬ VL l) : vl l = false := by unfold vl; exact @decide_eq_false _ (Classical.propDecidable _) h
theorem vl_iff {l : List T} : vl l = true ↔ VL l := by unfold vl; exact @decide_eq_true_iff _ (Classical.propDecidable _)
theorem vk_succ {l : List T} {k : Nat} : vk l (k + 1) ↔ vk l k ∧ vt (l.getD k T0) = true ∧ ∀ i, i < k → (l.getD i T0).num ≠ (l.getD k T0).num := by
  constructor
  · intro h; exact ⟨vk_mono h (by omega), h.1 k (by omega), fun i hi => h.2 i k hi (by omega)⟩
  · rintro ⟨h1, h2, h3⟩
    refine ⟨fun i hi => ?_, fun i j hi hj => ?_⟩
    · by_cases e : i = k
      · subst e; exact h2
      · exact h1.1 i (by omega)
    · by_cases e : j = k
      · subst e; exact h3 i hi
      · exact h1.2 i j hi (by omega)
theorem pc27 (l : List T) (hl : l.length ≤ 9223372036854775807) : PC Try.prog 27 [vT l] (.b (vl l)) := by
  refine pc_fn fn27 (by simp only [AV.plains, AV.plain, il_plain, bl_plain, Bool.and_true, Bool.true_and, Bool.and_self, flT_plain]) (by simp only [AV.plains, AV.plain, il_plain, bl_plain, Bool.and_true, Bool.true_and, Bool.and_self, flT_plain]) (Nat.le_of_ble_eq_true rfl) ?_
  rw [initSt1]
  by_cases h6 : (60 : Int) < l.length
  · rw [vl_f (fun h => by have := h.1; omega)]
    repeat' first
      | with_reducible refine k_seq ?_
      | with_reducible refine k_skip ?_
      | with_reducible refine k_blkS ?_
      | with_reducible refine k_blkR ?_
      | with_reducible refine k_blkC ?_
      | with_reducible refine k_blkH ?_
      | with_reducible refine k_blkB ?_
      | with_reducible refine k_blkK ?_
      | with_reducible refine k_blkE ?_
      | with_reducible refine k_reg ?_
      | with_reducible refine r_done ?_
      | with_reducible refine s_go (by simp (disch := omega) only [h6, c27r0, c27r1, c27r2, c27r3, c27r4, c27r5, c27r6, c27r7, c27r8, c27r9, c27r10, c27r12, EV0, EV1, EV2, EV3, EV4, EV5, EV6, EV7, EV8, VALS, plug, ite_same, decide_true, decide_false, eq_self, ↓reduceIte, reduceCtorEq, Nat.reduceAdd, Nat.reduceEqDiff, Nat.reduceLT, Nat.reduceLeDiff, Nat.reduceMul, Nat.reduceSub, Nat.reduceDiv, Int.reduceToNat, Int.reduceAdd, Int.reduceSub, Int.reduceMul, Int.reduceNeg, Int.reduceEq, Int.reduceLT, Int.reduceLE]; with_reducible rfl) ?_
      | ((with_reducible refine chk_r ?_); refine r_callF (by simp only [CA, Nat.reduceEqDiff, ↓reduceIte]; rfl) (by exact rfl) (by simp only [CA, Nat.reduceEqDiff, ↓reduceIte]; rfl) rfl ?_)
      | (with_reducible refine k_condP (by simp only [GA, Nat.reduceEqDiff, ↓reduceIte]; rfl) (by first | (simp only [BO]; rfl) | rfl) (fun ht => ?_) (fun ht => ?_) <;> try (first | exact False.elim ht | exact absurd rfl ht | exact absurd trivial ht | exact Bool.noConfusion ht))
      | (with_reducible refine k_ret ?_; repeat with_reducible (first | refine ret_thru ?_ | refine ret_blk ?_ | refine fin ?_))
      | (with_reducible refine k_exit ?_; repeat with_reducible (first | refine thru ?_ | refine out_blk ?_ | refine pass (by decide) ?_))
      | (refine post1 ?_; simp only [GA, Nat.reduceEqDiff, ↓reduceIte])
      | (refine post2 ?_; simp only [GA, Nat.reduceEqDiff, ↓reduceIte])
      | (refine post3 ?_; simp only [GA, Nat.reduceEqDiff, ↓reduceIte])
      | (refine postc (by simp only [GA, Nat.reduceEqDiff, ↓reduceIte]; rfl) (by simp (disch := omega) only [h6, c27r0, c27r1, c27r2, c27r3, c27r4, c27r5, c27r6, c27r7, c27r8, c27r9, c27r10, c27r12, EV0, EV1, EV2, EV3, EV4, EV5, EV6, EV7, EV8, VALS, plug, ite_same, decide_true, decide_false, eq_self, ↓reduceIte, reduceCtorEq, Nat.reduceAdd, Nat.reduceEqDiff, Nat.reduceLT, Nat.reduceLeDiff, Nat.reduceMul, Nat.reduceSub, Nat.reduceDiv, Int.reduceToNat, Int.reduceAdd, Int.reduceSub, Int.reduceMul, Int.reduceNeg, Int.reduceEq, Int.reduceLT, Int.reduceLE]; rfl) ?_)
      | refine post0 ?_
    all_goals first | exact ends_of | exact ends_eq rfl
  · repeat' first
      | with_reducible refine k_seq ?_
      | with_reducible refine k_skip ?_
      | with_reducible refine k_blkS ?_
      | with_reducible refine k_blkR ?_
      | with_reducible refine k_blkC ?_
      | with_reducible refine k_blkH ?_
      | with_reducible refine k_blkB ?_
      | with_reducible refine k_blkK ?_
      | with_reducible refine k_blkE ?_
      | with_reducible refine k_reg ?_
      | with_reducible refine r_done ?_
      | with_reducible refine s_go (by simp (disch := omega) only [h6, c27r0, c27r1, c27r2, c27r3, c27r4, c27r5, c27r6, c27r7, c27r8, c27r9, c27r10, c27r12, EV0, EV1, EV2, EV3, EV4, EV5, EV6, EV7, EV8, VALS, plug, ite_same, decide_true, decide_false, eq_self, ↓reduceIte, reduceCtorEq, Nat.reduceAdd, Nat.reduceEqDiff, Nat.reduceLT, Nat.reduceLeDiff, Nat.reduceMul, Nat.reduceSub, Nat.reduceDiv, Int.reduceToNat, Int.reduceAdd, Int.reduceSub, Int.reduceMul, Int.reduceNeg, Int.reduceEq, Int.reduceLT, Int.reduceLE]; with_reducible rfl) ?_
      | ((with_reducible refine chk_r ?_); refine r_callF (by simp only [CA, Nat.reduceEqDiff, ↓reduceIte]; rfl) (by exact rfl) (by simp only [CA, Nat.reduceEqDiff, ↓reduceIte]; rfl) rfl ?_)
      | (with_reducible refine k_condP (by simp only [GA, Nat.reduceEqDiff, ↓reduceIte]; rfl) (by first | (simp only [BO]; rfl) | rfl) (fun ht => ?_) (fun ht => ?_) <;> try (first | exact False.elim ht | exact absurd rfl ht | exact absurd trivial ht | exact Bool.noConfusion ht))
      | (with_reducible refine k_ret ?_; repeat with_reducible (first | refine ret_thru ?_ | refine ret_blk ?_ | refine fin ?_))
      | (with_reducible refine k_exit ?_; repeat with_reducible (first | refine thru ?_ | refine out_blk ?_ | refine pass (by decide) ?_))
      | (refine post1 ?_; simp only [GA, Nat.reduceEqDiff, ↓reduceIte])
      | (refine post2 ?_; simp only [GA, Nat.reduceEqDiff, ↓reduceIte])
      | (refine post3 ?_; simp only [GA, Nat.reduceEqDiff, ↓reduceIte])
      | (refine postc (by simp only [GA, Nat.reduceEqDiff, ↓reduceIte]; rfl) (by simp (disch := omega) only [h6, c27r0, c27r1, c27r2, c27r3, c27r4, c27r5, c27r6, c27r7, c27r8, c27r9, c27r10, c27r12, EV0, EV1, EV2, EV3, EV4, EV5, EV6, EV7, EV8, VALS, plug, ite_same, decide_true, decide_false, eq_self, ↓reduceIte, reduceCtorEq, Nat.reduceAdd, Nat.reduceEqDiff, Nat.reduceLT, Nat.reduceLeDiff, Nat.reduceMul, Nat.reduceSub, Nat.reduceDiv, Int.reduceToNat, Int.reduceAdd, Int.reduceSub, Int.reduceMul, Int.reduceNeg, Int.reduceEq, Int.reduceLT, Int.reduceLE]; rfl) ?_)
      | refine post0 ?_
    refine k_blk (k_loopS (X := Nat × List (AV × AV)) [3, 10, 11, 12] l.length (fun k x => [(3, .mp x.1), (10, vT l), (11, .i .i64 l.length), (12, .i .i64 (k : Int))])
      (fun k x h => h.m x.1 = some (.map x.2) ∧ vk l k ∧ MFi x.2 (setOf fun n => ∃ i, i < k ∧ (l.getD i T0).num = n)) (_, _) (by simp only [Am.keep, List.map_cons, List.map_nil, GA, Nat.reduceEqDiff, ↓reduceIte]; try rfl) ⟨by simp (disch := omega) only [c27r0, c27r1, c27r2, c27r3, c27r4, c27r5, c27r6, c27r7, c27r8, c27r9, c27r10, c27r12, EV0, EV1, EV2, EV3, EV4, EV5, EV6, EV7, EV8, VALS, plug, ite_same, decide_true, decide_false, eq_self, ↓reduceIte, reduceCtorEq, Nat.reduceAdd, Nat.reduceEqDiff, Nat.reduceLT, Nat.reduceLeDiff, Nat.reduceMul, Nat.reduceSub, Nat.reduceDiv, Int.reduceToNat, Int.reduceAdd, Int.reduceSub, Int.reduceMul, Int.reduceNeg, Int.reduceEq, Int.reduceLT, Int.reduceLE] <;> rfl, ?_, ?_⟩ ?_)
    · exact ⟨fun i hi => by omega, fun i j _ hj => by omega⟩
    · exact MFi.set_nil fun a ⟨i, hi, _⟩ => by omega
    rintro k ⟨tk, es⟩ h hk ⟨hm, hv, hf⟩ ok pos
    simp only at hm hf ⊢
    have htk := ok.m hm
    have lk := MFi.set_lk hf
    obtain ⟨u1, u2⟩ := MFi.up hf (l.getD k T0).num (.b true)
    have q := pc63 (l.getD k T0)
    have rT := fun hlt => rdT (l := l) (j := k) hlt
    by_cases hlt : k < l.length
    · have rT := rdT hlt
      have hlt' : (k : Int) < l.length := by omega
      have stop : ¬ vk l (k + 1) → vl l = false := fun hn => vl_f fun h => hn (vk_mono h.2 (by omega))
      simp only [eT] at q rT
      cases hvt : vt (l.getD k T0) with
      | false =>
        rw [hvt] at q
        repeat' first
          | with_reducible refine k_seq ?_
          | with_reducible refine k_skip ?_
          | with_reducible refine k_blkS ?_
          | with_reducible refine k_blkR ?_
          | with_reducible refine k_blkC ?_
          | with_reducible refine k_blkH ?_
          | with_reducible refine k_blkB ?_
          | with_reducible refine k_blkK ?_
          | with_reducible refine k_blkE ?_
          | with_reducible refine k_reg ?_
          | with_reducible refine r_done ?_
          | with_reducible refine s_go (by simp (disch := omega) only [hm, rT, hlt', lk, u1, c27r0, c27r1, c27r2, c27r3, c27r4, c27r5, c27r6, c27r7, c27r8, c27r9, c27r10, c27r12, EV0, EV1, EV2, EV3, EV4, EV5, EV6, EV7, EV8, VALS, plug, ite_same, decide_true, decide_false, eq_self, ↓reduceIte, reduceCtorEq, Nat.reduceAdd, Nat.reduceEqDiff, Nat.reduceLT, Nat.reduceLeDiff, Nat.reduceMul, Nat.reduceSub, Nat.reduceDiv, Int.reduceToNat, Int.reduceAdd, Int.reduceSub, Int.reduceMul, Int.reduceNeg, Int.reduceEq, Int.reduceLT, Int.reduceLE]; with_reducible rfl) ?_
          | ((with_reducible refine chk_r ?_); refine r_callF (by simp only [CA, Nat.reduceEqDiff, ↓reduceIte]; rfl) (by exact rfl) (by simp only [CA, Nat.reduceEqDiff, ↓reduceIte]; rfl) rfl ?_)
          | ((with_reducible refine chk_r ?_); refine r_callP (by simp only [CA, Nat.reduceEqDiff, ↓reduceIte]; rfl) (by simp only [CA, Nat.reduceEqDiff, ↓reduceIte]; rfl) (by first | exact q _) rfl ?_)
          | (with_reducible refine k_condP (by simp only [GA, Nat.reduceEqDiff, ↓reduceIte]; rfl) (by first | (simp only [BO]; rfl) | rfl) (fun ht => ?_) (fun ht => ?_) <;> try (first | exact False.elim ht | exact absurd rfl ht | exact absurd trivial ht | exact Bool.noConfusion ht))
          | (with_reducible refine k_ret ?_; repeat with_reducible (first | refine ret_thru ?_ | refine ret_blk ?_ | refine fin ?_))
          | (with_reducible refine k_exit ?_; repeat with_reducible (first | refine thru ?_ | refine out_blk ?_ | refine pass (by decide) ?_))
          | (refine post1 ?_; simp only [GA, Nat.reduceEqDiff, ↓reduceIte])
          | (refine post2 ?_; simp only [GA, Nat.reduceEqDiff, ↓reduceIte])
          | (refine post3 ?_; simp only [GA, Nat.reduceEqDiff, ↓reduceIte])
          | (refine postc (by simp only [GA, Nat.reduceEqDiff, ↓reduceIte]; rfl) (by simp (disch := omega) only [hm, rT, hlt', lk, u1, c27r0, c27r1, c27r2, c27r3, c27r4, c27r5, c27r6, c27r7, c27r8, c27r9, c27r10, c27r12, EV0, EV1, EV2, EV3, EV4, EV5, EV6, EV7, EV8, VALS, plug, ite_same, decide_true, decide_false, eq_self, ↓reduceIte, reduceCtorEq, Nat.reduceAdd, Nat.reduceEqDiff, Nat.reduceLT, Nat.reduceLeDiff, Nat.reduceMul, Nat.reduceSub, Nat.reduceDiv, Int.reduceToNat, Int.reduceAdd, Int.reduceSub, Int.reduceMul, Int.reduceNeg, Int.reduceEq, Int.reduceLT, Int.reduceLE]; rfl) ?_)
          | refine post0 ?_
        all_goals (rw [stop fun h => by rw [(vk_succ.1 h).2.1] at hvt; cases hvt]; exact ends_of)
      | true =>
        rw [hvt] at q
        repeat' first
          | with_reducible refine k_seq ?_
          | with_reducible refine k_skip ?_
          | with_reducible refine k_blkS ?_
          | with_reducible refine k_blkR ?_
          | with_reducible refine k_blkC ?_
          | with_reducible refine k_blkH ?_
          | with_reducible refine k_blkB ?_
          | with_reducible refine k_blkK ?_
          | with_reducible refine k_blkE ?_
          | with_reducible refine k_reg ?_
          | with_reducible refine r_done ?_
          | with_reducible refine s_go (by simp (disch := omega) only [hm, rT, hlt', lk, u1, c27r0, c27r1, c27r2, c27r3, c27r4, c27r5, c27r6, c27r7, c27r8, c27r9, c27r10, c27r12, EV0, EV1, EV2, EV3, EV4, EV5, EV6, EV7, EV8, VALS, plug, ite_same, decide_true, decide_false, eq_self, ↓reduceIte, reduceCtorEq, Nat.reduceAdd, Nat.reduceEqDiff, Nat.reduceLT, Nat.reduceLeDiff, Nat.reduceMul, Nat.reduceSub, Nat.reduceDiv, Int.reduceToNat, Int.reduceAdd, Int.reduceSub, Int.reduceMul, Int.reduceNeg, Int.reduceEq, Int.reduceLT, Int.reduceLE]; with_reducible rfl) ?_
          | ((with_reducible refine chk_r ?_); refine r_callF (by simp only [CA, Nat.reduceEqDiff, ↓reduceIte]; rfl) (by exact rfl) (by simp only [CA, Nat.reduceEqDiff, ↓reduceIte]; rfl) rfl ?_)
          | ((with_reducible refine chk_r ?_); refine r_callP (by simp only [CA, Nat.reduceEqDiff, ↓reduceIte]; rfl) (by simp only [CA, Nat.reduceEqDiff, ↓reduceIte]; rfl) (by first | exact q _) rfl ?_)
          | (with_reducible refine k_condP (by simp only [GA, Nat.reduceEqDiff, ↓reduceIte]; rfl) (by first | (simp only [BO]; rfl) | rfl) (fun ht => ?_) (fun ht => ?_) <;> try (first | exact False.elim ht | exact absurd rfl ht | exact absurd trivial ht | exact Bool.noConfusion ht))
          | (with_reducible refine k_ret ?_; repeat with_reducible (first | refine ret_thru ?_ | refine ret_blk ?_ | refine fin ?_))
          | (with_reducible refine k_exit ?_; repeat with_reducible (first | refine thru ?_ | refine out_blk ?_ | refine pass (by decide) ?_))
          | (refine post1 ?_; simp only [GA, Nat.reduceEqDiff, ↓reduceIte])
          | (refine post2 ?_; simp only [GA, Nat.reduceEqDiff, ↓reduceIte])
          | (refine post3 ?_; simp only [GA, Nat.reduceEqDiff, ↓reduceIte])
          | (refine postc (by simp only [GA, Nat.reduceEqDiff, ↓reduceIte]; rfl) (by simp (disch := omega) only [hm, rT, hlt', lk, u1, c27r0, c27r1, c27r2, c27r3, c27r4, c27r5, c27r6, c27r7, c27r8, c27r9, c27r10, c27r12, EV0, EV1, EV2, EV3, EV4, EV5, EV6, EV7, EV8, VALS, plug, ite_same, decide_true, decide_false, eq_self, ↓reduceIte, reduceCtorEq, Nat.reduceAdd, Nat.reduceEqDiff, Nat.reduceLT, Nat.reduceLeDiff, Nat.reduceMul, Nat.reduceSub, Nat.reduceDiv, Int.reduceToNat, Int.reduceAdd, Int.reduceSub, Int.reduceMul, Int.reduceNeg, Int.reduceEq, Int.reduceLT, Int.reduceLE]; rfl) ?_)
          | refine post0 ?_
        · obtain ⟨i, hi, e⟩ := ht
          rw [stop fun h => (vk_succ.1 h).2.2 i hi e]
          exact ends_of
        · refine ⟨hlt, ⟨tk, _⟩, (by simp only [Am.keep, List.map_cons, List.map_nil, GA, Nat.reduceEqDiff, ↓reduceIte]; try rfl), by simp (disch := omega) only [c27r0, c27r1, c27r2, c27r3, c27r4, c27r5, c27r6, c27r7, c27r8, c27r9, c27r10, c27r12, EV0, EV1, EV2, EV3, EV4, EV5, EV6, EV7, EV8, VALS, plug, ite_same, decide_true, decide_false, eq_self, ↓reduceIte, reduceCtorEq, Nat.reduceAdd, Nat.reduceEqDiff, Nat.reduceLT, Nat.reduceLeDiff, Nat.reduceMul, Nat.reduceSub, Nat.reduceDiv, Int.reduceToNat, Int.reduceAdd, Int.reduceSub, Int.reduceMul, Int.reduceNeg, Int.reduceEq, Int.reduceLT, Int.reduceLE] <;> rfl, vk_succ.2 ⟨hv, hvt, fun i hi e => ht ⟨i, hi, e⟩⟩, MFi.set_up hf _ _ fun b => ⟨fun ⟨i, hi, e⟩ => ?_, fun hb => ?_⟩⟩
          · by_cases hk : i = k
            · subst hk; exact .inl e.symm
            · exact .inr ⟨i, by omega, e⟩
          · rcases hb with rfl | ⟨i, hi, e⟩
            · exact ⟨k, by omega, rfl⟩
            · exact ⟨i, by omega, e⟩
    · have hlt' : ¬ (k : Int) < l.length := by omega
      obtain rfl : k = l.length := by omega
      repeat' first
        | with_reducible refine k_seq ?_
        | with_reducible refine k_skip ?_
        | with_reducible refine k_blkS ?_
        | with_reducible refine k_blkR ?_
        | with_reducible refine k_blkC ?_
        | with_reducible refine k_blkH ?_
        | with_reducible refine k_blkB ?_
        | with_reducible refine k_blkK ?_
        | with_reducible refine k_blkE ?_
        | with_reducible refine k_reg ?_
        | with_reducible refine r_done ?_
        | with_reducible refine s_go (by simp (disch := omega) only [hlt', c27r0, c27r1, c27r2, c27r3, c27r4, c27r5, c27r6, c27r7, c27r8, c27r9, c27r10, c27r12, EV0, EV1, EV2, EV3, EV4, EV5, EV6, EV7, EV8, VALS, plug, ite_same, decide_true, decide_false, eq_self, ↓reduceIte, reduceCtorEq, Nat.reduceAdd, Nat.reduceEqDiff, Nat.reduceLT, Nat.reduceLeDiff, Nat.reduceMul, Nat.reduceSub, Nat.reduceDiv, Int.reduceToNat, Int.reduceAdd, Int.reduceSub, Int.reduceMul, Int.reduceNeg, Int.reduceEq, Int.reduceLT, Int.reduceLE]; with_reducible rfl) ?_
        | ((with_reducible refine chk_r ?_); refine r_callF (by simp only [CA, Nat.reduceEqDiff, ↓reduceIte]; rfl) (by exact rfl) (by simp only [CA, Nat.reduceEqDiff, ↓reduceIte]; rfl) rfl ?_)
        | (with_reducible refine k_condP (by simp only [GA, Nat.reduceEqDiff, ↓reduceIte]; rfl) (by first | (simp only [BO]; rfl) | rfl) (fun ht => ?_) (fun ht => ?_) <;> try (first | exact False.elim ht | exact absurd rfl ht | exact absurd trivial ht | exact Bool.noConfusion ht))
        | (with_reducible refine k_ret ?_; repeat with_reducible (first | refine ret_thru ?_ | refine ret_blk ?_ | refine fin ?_))
        | (with_reducible refine k_exit ?_; repeat with_reducible (first | refine thru ?_ | refine out_blk ?_ | refine pass (by decide) ?_))
        | (refine post1 ?_; simp only [GA, Nat.reduceEqDiff, ↓reduceIte])
        | (refine post2 ?_; simp only [GA, Nat.reduceEqDiff, ↓reduceIte])
        | (refine post3 ?_; simp only [GA, Nat.reduceEqDiff, ↓reduceIte])
        | (refine postc (by simp only [GA, Nat.reduceEqDiff, ↓reduceIte]; rfl) (by simp (disch := omega) only [hlt', c27r0, c27r1, c27r2, c27r3, c27r4, c27r5, c27r6, c27r7, c27r8, c27r9, c27r10, c27r12, EV0, EV1, EV2, EV3, EV4, EV5, EV6, EV7, EV8, VALS, plug, ite_same, decide_true, decide_false, eq_self, ↓reduceIte, reduceCtorEq, Nat.reduceAdd, Nat.reduceEqDiff, Nat.reduceLT, Nat.reduceLeDiff, Nat.reduceMul, Nat.reduceSub, Nat.reduceDiv, Int.reduceToNat, Int.reduceAdd, Int.reduceSub, Int.reduceMul, Int.reduceNeg, Int.reduceEq, Int.reduceLT, Int.reduceLE]; rfl) ?_)
        | refine post0 ?_
      rw [vl_t ⟨by omega, hv⟩]
      exact ends_of
theorem pc14 (l : List T) (hl : l.length ≤ 9223372036854775807) : PC Try.prog 14 [vT l] (.b (vl l)) := by
  refine pc_fn fn14 (by simp only [AV.plains, AV.plain, il_plain, bl_plain, Bool.and_true, Bool.true_and, Bool.and_self, flT_plain]) (by simp only [AV.plains, AV.plain, il_plain, bl_plain, Bool.and_true, Bool.true_and, Bool.and_self, flT_plain]) (Nat.le_of_ble_eq_true rfl) ?_
  rw [initSt1]
  by_cases h6 : (60 : Int) < l.length
  · rw [vl_f (fun h => by have := h.1; omega)]
    repeat' first
      | with_reducible refine k_seq ?_
      | with_reducible refine k_skip ?_
      | with_reducible refine k_blkS ?_
      | with_reducible refine k_blkR ?_
      | with_reducible refine k_blkC ?_
      | with_reducible refine k_blkH ?_
      | with_reducible refine k_blkB ?_
      | with_reducible refine k_blkK ?_
      | with_reducible refine k_blkE ?_
      | with_reducible refine k_reg ?_
      | with_reducible refine k_head (by with_unfolding_all rfl) ?_
      | with_reducible refine k_headS ?_
      | (with_reducible refine SepK.mk ?_ ?_; (refine sepQ_P ?_; simp [sepQ, sepG, AOp.late, AOp.free, AOp.xs, AOp.isAl, tokNe, AV.tok, stS_get, strip, AX.val, c14r0, c14r1, c14r2, c14r3, c14r4, c14r5, c14r6, c14r7, c14r8, c14r9, c14r10, c14r11, c14r13, c14r15, GA]; try omega))
      | with_reducible refine r_done ?_
      | with_reducible refine hr_done ?_
      | with_reducible refine s_go (by simp (disch := omega) only [h6, c14r0, c14r1, c14r2, c14r3, c14r4, c14r5, c14r6, c14r7, c14r8, c14r9, c14r10, c14r11, c14r13, c14r15, EV0, EV1, EV2, EV3, EV4, EV5, EV6, EV7, EV8, VALS, plug, ite_same, decide_true, decide_false, eq_self, ↓reduceIte, reduceCtorEq, Nat.reduceAdd, Nat.reduceEqDiff, Nat.reduceLT, Nat.reduceLeDiff, Nat.reduceMul, Nat.reduceSub, Nat.reduceDiv, Int.reduceToNat, Int.reduceAdd, Int.reduceSub, Int.reduceMul, Int.reduceNeg, Int.reduceEq, Int.reduceLT, Int.reduceLE]; with_reducible rfl) ?_
      | with_reducible refine h_go (by with_unfolding_all rfl) (by simp (disch := omega) only [h6, c14r0, c14r1, c14r2, c14r3, c14r4, c14r5, c14r6, c14r7, c14r8, c14r9, c14r10, c14r11, c14r13, c14r15, EV0, EV1, EV2, EV3, EV4, EV5, EV6, EV7, EV8, VALS, plug, ite_same, decide_true, decide_false, eq_self, ↓reduceIte, reduceCtorEq, Nat.reduceAdd, Nat.reduceEqDiff, Nat.reduceLT, Nat.reduceLeDiff, Nat.reduceMul, Nat.reduceSub, Nat.reduceDiv, Int.reduceToNat, Int.reduceAdd, Int.reduceSub, Int.reduceMul, Int.reduceNeg, Int.reduceEq, Int.reduceLT, Int.reduceLE]; with_reducible rfl) ?_
      | ((with_reducible refine chk_r ?_); refine r_callF (by simp only [CA, Nat.reduceEqDiff, ↓reduceIte]; rfl) (by exact rfl) (by simp only [CA, Nat.reduceEqDiff, ↓reduceIte]; rfl) rfl ?_)
      | ((with_reducible refine chk_h ?_); refine hr_callF (by simp only [CA, Nat.reduceEqDiff, ↓reduceIte]; rfl) (by exact rfl) (by simp only [CA, Nat.reduceEqDiff, ↓reduceIte]; rfl) rfl ?_)
      | ((with_reducible refine chk_h ?_); refine hr_app (by simp (disch := omega) only [h6, c14r0, c14r1, c14r2, c14r3, c14r4, c14r5, c14r6, c14r7, c14r8, c14r9, c14r10, c14r11, c14r13, c14r15, EV0, EV1, EV2, EV3, EV4, EV5, EV6, EV7, EV8, VALS, plug, ite_same, decide_true, decide_false, eq_self, ↓reduceIte, reduceCtorEq, Nat.reduceAdd, Nat.reduceEqDiff, Nat.reduceLT, Nat.reduceLeDiff, Nat.reduceMul, Nat.reduceSub, Nat.reduceDiv, Int.reduceToNat, Int.reduceAdd, Int.reduceSub, Int.reduceMul, Int.reduceNeg, Int.reduceEq, Int.reduceLT, Int.reduceLE]; with_reducible rfl) rfl ?_)
      | (with_reducible refine k_condP (by simp only [GA, Nat.reduceEqDiff, ↓reduceIte]; rfl) (by first | (simp only [BO]; rfl) | rfl) (fun ht => ?_) (fun ht => ?_) <;> try (first | exact False.elim ht | exact absurd rfl ht | exact absurd trivial ht | exact Bool.noConfusion ht))
      | (with_reducible refine k_ret ?_; repeat with_reducible (first | refine ret_thru ?_ | refine ret_blk ?_ | refine fin ?_))
      | (with_reducible refine k_exit ?_; repeat with_reducible (first | refine thru ?_ | refine out_blk ?_ | refine pass (by decide) ?_))
      | (refine post1 ?_; simp only [GA, Nat.reduceEqDiff, ↓reduceIte])
      | (refine post2 ?_; simp only [GA, Nat.reduceEqDiff, ↓reduceIte])
      | (refine post3 ?_; simp only [GA, Nat.reduceEqDiff, ↓reduceIte])
      | (refine postc (by simp only [GA, Nat.reduceEqDiff, ↓reduceIte]; rfl) (by simp (disch := omega) only [h6, c14r0, c14r1, c14r2, c14r3, c14r4, c14r5, c14r6, c14r7, c14r8, c14r9, c14r10, c14r11, c14r13, c14r15, EV0, EV1, EV2, EV3, EV4, EV5, EV6, EV7, EV8, VALS, plug, ite_same, decide_true, decide_false, eq_self, ↓reduceIte, reduceCtorEq, Nat.reduceAdd, Nat.reduceEqDiff, Nat.reduceLT, Nat.reduceLeDiff, Nat.reduceMul, Nat.reduceSub, Nat.reduceDiv, Int.reduceToNat, Int.reduceAdd, Int.reduceSub, Int.reduceMul, Int.reduceNeg, Int.reduceEq, Int.reduceLT, Int.reduceLE]; rfl) ?_)
      | refine post0 ?_
    all_goals first | exact ends_of | exact ends_eq rfl
  · repeat' first
      | with_reducible refine k_seq ?_
      | with_reducible refine k_skip ?_
      | with_reducible refine k_blkS ?_
      | with_reducible refine k_blkR ?_
      | with_reducible refine k_blkC ?_
      | with_reducible refine k_blkH ?_
      | with_reducible refine k_blkB ?_
      | with_reducible refine k_blkK ?_
      | with_reducible refine k_blkE ?_
      | with_reducible refine k_reg ?_
      | with_reducible refine k_head (by with_unfolding_all rfl) ?_
      | with_reducible refine k_headS ?_
      | (with_reducible refine SepK.mk ?_ ?_; (refine sepQ_P ?_; simp [sepQ, sepG, AOp.late, AOp.free, AOp.xs, AOp.isAl, tokNe, AV.tok, stS_get, strip, AX.val, c14r0, c14r1, c14r2, c14r3, c14r4, c14r5, c14r6, c14r7, c14r8, c14r9, c14r10, c14r11, c14r13, c14r15, GA]; try omega))
      | with_reducible refine r_done ?_
      | with_reducible refine hr_done ?_
      | with_reducible refine s_go (by simp (disch := omega) only [h6, c14r0, c14r1, c14r2, c14r3, c14r4, c14r5, c14r6, c14r7, c14r8, c14r9, c14r10, c14r11, c14r13, c14r15, EV0, EV1, EV2, EV3, EV4, EV5, EV6, EV7, EV8, VALS, plug, ite_same, decide_true, decide_false, eq_self, ↓reduceIte, reduceCtorEq, Nat.reduceAdd, Nat.reduceEqDiff, Nat.reduceLT, Nat.reduceLeDiff, Nat.reduceMul, Nat.reduceSub, Nat.reduceDiv, Int.reduceToNat, Int.reduceAdd, Int.reduceSub, Int.reduceMul, Int.reduceNeg, Int.reduceEq, Int.reduceLT, Int.reduceLE]; with_reducible rfl) ?_
      | with_reducible refine h_go (by with_unfolding_all rfl) (by simp (disch := omega) only [h6, c14r0, c14r1, c14r2, c14r3, c14r4, c14r5, c14r6, c14r7, c14r8, c14r9, c14r10, c14r11, c14r13, c14r15, EV0, EV1, EV2, EV3, EV4, EV5, EV6, EV7, EV8, VALS, plug, ite_same, decide_true, decide_false, eq_self, ↓reduceIte, reduceCtorEq, Nat.reduceAdd, Nat.reduceEqDiff, Nat.reduceLT, Nat.reduceLeDiff, Nat.reduceMul, Nat.reduceSub, Nat.reduceDiv, Int.reduceToNat, Int.reduceAdd, Int.reduceSub, Int.reduceMul, Int.reduceNeg, Int.reduceEq, Int.reduceLT, Int.reduceLE]; with_reducible rfl) ?_
      | ((with_reducible refine chk_r ?_); refine r_callF (by simp only [CA, Nat.reduceEqDiff, ↓reduceIte]; rfl) (by exact rfl) (by simp only [CA, Nat.reduceEqDiff, ↓reduceIte]; rfl) rfl ?_)
      | ((with_reducible refine chk_h ?_); refine hr_callF (by simp only [CA, Nat.reduceEqDiff, ↓reduceIte]; rfl) (by exact rfl) (by simp only [CA, Nat.reduceEqDiff, ↓reduceIte]; rfl) rfl ?_)
      | ((with_reducible refine chk_h ?_); refine hr_app (by simp (disch := omega) only [h6, c14r0, c14r1, c14r2, c14r3, c14r4, c14r5, c14r6, c14r7, c14r8, c14r9, c14r10, c14r11, c14r13, c14r15, EV0, EV1, EV2, EV3, EV4, EV5, EV6, EV7, EV8, VALS, plug, ite_same, decide_true, decide_false, eq_self, ↓reduceIte, reduceCtorEq, Nat.reduceAdd, Nat.reduceEqDiff, Nat.reduceLT, Nat.reduceLeDiff, Nat.reduceMul, Nat.reduceSub, Nat.reduceDiv, Int.reduceToNat, Int.reduceAdd, Int.reduceSub, Int.reduceMul, Int.reduceNeg, Int.reduceEq, Int.reduceLT, Int.reduceLE]; with_reducible rfl) rfl ?_)
      | (with_reducible refine k_condP (by simp only [GA, Nat.reduceEqDiff, ↓reduceIte]; rfl) (by first | (simp only [BO]; rfl) | rfl) (fun ht => ?_) (fun ht => ?_) <;> try (first | exact False.elim ht | exact absurd rfl ht | exact absurd trivial ht | exact Bool.noConfusion ht))
      | (with_reducible refine k_ret ?_; repeat with_reducible (first | refine ret_thru ?_ | refine ret_blk ?_ | refine fin ?_))
      | (with_reducible refine k_exit ?_; repeat with_reducible (first | refine thru ?_ | refine out_blk ?_ | refine pass (by decide) ?_))
      | (refine post1 ?_; simp only [GA, Nat.reduceEqDiff, ↓reduceIte])
      | (refine post2 ?_; simp only [GA, Nat.reduceEqDiff, ↓reduceIte])
      | (refine post3 ?_; simp only [GA, Nat.reduceEqDiff, ↓reduceIte])
      | (refine postc (by simp only [GA, Nat.reduceEqDiff, ↓reduceIte]; rfl) (by simp (disch := omega) only [h6, c14r0, c14r1, c14r2, c14r3, c14r4, c14r5, c14r6, c14r7, c14r8, c14r9, c14r10, c14r11, c14r13, c14r15, EV0, EV1, EV2, EV3, EV4, EV5, EV6, EV7, EV8, VALS, plug, ite_same, decide_true, decide_false, eq_self, ↓reduceIte, reduceCtorEq, Nat.reduceAdd, Nat.reduceEqDiff, Nat.reduceLT, Nat.reduceLeDiff, Nat.reduceMul, Nat.reduceSub, Nat.reduceDiv, Int.reduceToNat, Int.reduceAdd, Int.reduceSub, Int.reduceMul, Int.reduceNeg, Int.reduceEq, Int.reduceLT, Int.reduceLE]; rfl) ?_)
      | refine post0 ?_
    refine k_blk (k_loopS (X := Unit) [0, 3] l.length (fun k x => [(0, vT l), (3, .i .i64 (k : Int))]) (fun k x h => vk l k) () (by simp only [Am.keep, List.map_cons, List.map_nil, GA, Nat.reduceEqDiff, ↓reduceIte]; try rfl) ⟨fun i hi => by omega, fun i j _ hj => by omega⟩ ?_)
    rintro k ⟨⟩ h hk hv ok pos
    have q := pc48 (l.getD k T0)
    by_cases hlt : k < l.length
    · have rT := rdT hlt
      have g0 := getT0 hlt
      have hlt' : (k : Int) < l.length := by omega
      have stop : ¬ vk l (k + 1) → vl l = false := fun hn => vl_f fun h => hn (vk_mono h.2 (by omega))
      simp only [eT] at q rT
      cases hvt : vt (l.getD k T0) with
      | false =>
        rw [hvt] at q
        repeat' first
          | with_reducible refine k_seq ?_
          | with_reducible refine k_skip ?_
          | with_reducible refine k_blkS ?_
          | with_reducible refine k_blkR ?_
          | with_reducible refine k_blkC ?_
          | with_reducible refine k_blkH ?_
          | with_reducible refine k_blkB ?_
          | with_reducible refine k_blkK ?_
          | with_reducible refine k_blkE ?_
          | with_reducible refine k_reg ?_
          | with_reducible refine k_head (by with_unfolding_all rfl) ?_
          | with_reducible refine k_headS ?_
          | (with_reducible refine SepK.mk ?_ ?_; (refine sepQ_P ?_; simp [sepQ, sepG, AOp.late, AOp.free, AOp.xs, AOp.isAl, tokNe, AV.tok, stS_get, strip, AX.val, c14r0, c14r1, c14r2, c14r3, c14r4, c14r5, c14r6, c14r7, c14r8, c14r9, c14r10, c14r11, c14r13, c14r15, GA]; try omega))
          | with_reducible refine r_done ?_
          | with_reducible refine hr_done ?_
          | with_reducible refine s_go (by simp (disch := omega) only [rT, hlt', c14r0, c14r1, c14r2, c14r3, c14r4, c14r5, c14r6, c14r7, c14r8, c14r9, c14r10, c14r11, c14r13, c14r15, EV0, EV1, EV2, EV3, EV4, EV5, EV6, EV7, EV8, VALS, plug, ite_same, decide_true, decide_false, eq_self, ↓reduceIte, reduceCtorEq, Nat.reduceAdd, Nat.reduceEqDiff, Nat.reduceLT, Nat.reduceLeDiff, Nat.reduceMul, Nat.reduceSub, Nat.reduceDiv, Int.reduceToNat, Int.reduceAdd, Int.reduceSub, Int.reduceMul, Int.reduceNeg, Int.reduceEq, Int.reduceLT, Int.reduceLE]; with_reducible rfl) ?_
          | with_reducible refine h_go (by with_unfolding_all rfl) (by simp (disch := omega) only [rT, hlt', c14r0, c14r1, c14r2, c14r3, c14r4, c14r5, c14r6, c14r7, c14r8, c14r9, c14r10, c14r11, c14r13, c14r15, EV0, EV1, EV2, EV3, EV4, EV5, EV6, EV7, EV8, VALS, plug, ite_same, decide_true, decide_false, eq_self, ↓reduceIte, reduceCtorEq, Nat.reduceAdd, Nat.reduceEqDiff, Nat.reduceLT, Nat.reduceLeDiff, Nat.reduceMul, Nat.reduceSub, Nat.reduceDiv, Int.reduceToNat, Int.reduceAdd, Int.reduceSub, Int.reduceMul, Int.reduceNeg, Int.reduceEq, Int.reduceLT, Int.reduceLE]; with_reducible rfl) ?_
          | ((with_reducible refine chk_r ?_); refine r_callF (by simp only [CA, Nat.reduceEqDiff, ↓reduceIte]; rfl) (by exact rfl) (by simp only [CA, Nat.reduceEqDiff, ↓reduceIte]; rfl) rfl ?_)
          | ((with_reducible refine chk_h ?_); refine hr_callF (by simp only [CA, Nat.reduceEqDiff, ↓reduceIte]; rfl) (by exact rfl) (by simp only [CA, Nat.reduceEqDiff, ↓reduceIte]; rfl) rfl ?_)
          | ((with_reducible refine chk_r ?_); refine r_callP (by simp only [CA, Nat.reduceEqDiff, ↓reduceIte]; rfl) (by simp only [CA, Nat.reduceEqDiff, ↓reduceIte]; rfl) (by first | exact q _) rfl ?_)
          | ((with_reducible refine chk_h ?_); refine hr_callP (by simp only [CA, Nat.reduceEqDiff, ↓reduceIte]; rfl) (by simp only [CA, Nat.reduceEqDiff, ↓reduceIte]; rfl) (by first | exact q _) rfl ?_)
          | ((with_reducible refine chk_h ?_); refine hr_callP1 (by simp only [CA, Nat.reduceEqDiff, ↓reduceIte]; rfl) (by simp only [CA, Nat.reduceEqDiff, ↓reduceIte]; rfl) (by simp (disch := omega) only [CA, Nat.reduceEqDiff, ↓reduceIte, firstTok_nil, firstTok_sl, firstTok_sl0, firstTok_i, firstTok_b, firstTok_ag, firstTok_p, firstTok_s]; rfl) (by first | exact q _) rfl ?_)
          | ((with_reducible refine chk_h ?_); refine hr_app (by simp (disch := omega) only [rT, hlt', c14r0, c14r1, c14r2, c14r3, c14r4, c14r5, c14r6, c14r7, c14r8, c14r9, c14r10, c14r11, c14r13, c14r15, EV0, EV1, EV2, EV3, EV4, EV5, EV6, EV7, EV8, VALS, plug, ite_same, decide_true, decide_false, eq_self, ↓reduceIte, reduceCtorEq, Nat.reduceAdd, Nat.reduceEqDiff, Nat.reduceLT, Nat.reduceLeDiff, Nat.reduceMul, Nat.reduceSub, Nat.reduceDiv, Int.reduceToNat, Int.reduceAdd, Int.reduceSub, Int.reduceMul, Int.reduceNeg, Int.reduceEq, Int.reduceLT, Int.reduceLE]; with_reducible rfl) rfl ?_)
          | (with_reducible refine k_condP (by simp only [GA, Nat.reduceEqDiff, ↓reduceIte]; rfl) (by first | (simp only [BO]; rfl) | rfl) (fun ht => ?_) (fun ht => ?_) <;> try (first | exact False.elim ht | exact absurd rfl ht | exact absurd trivial ht | exact Bool.noConfusion ht))
          | (with_reducible refine k_ret ?_; repeat with_reducible (first | refine ret_thru ?_ | refine ret_blk ?_ | refine fin ?_))
          | (with_reducible refine k_exit ?_; repeat with_reducible (first | refine thru ?_ | refine out_blk ?_ | refine pass (by decide) ?_))
          | (refine post1 ?_; simp only [GA, Nat.reduceEqDiff, ↓reduceIte])
          | (refine post2 ?_; simp only [GA, Nat.reduceEqDiff, ↓reduceIte])
          | (refine post3 ?_; simp only [GA, Nat.reduceEqDiff, ↓reduceIte])
          | (refine postc (by simp only [GA, Nat.reduceEqDiff, ↓reduceIte]; rfl) (by simp (disch := omega) only [rT, hlt', c14r0, c14r1, c14r2, c14r3, c14r4, c14r5, c14r6, c14r7, c14r8, c14r9, c14r10, c14r11, c14r13, c14r15, EV0, EV1, EV2, EV3, EV4, EV5, EV6, EV7, EV8, VALS, plug, ite_same, decide_true, decide_false, eq_self, ↓reduceIte, reduceCtorEq, Nat.reduceAdd, Nat.reduceEqDiff, Nat.reduceLT, Nat.reduceLeDiff, Nat.reduceMul, Nat.reduceSub, Nat.reduceDiv, Int.reduceToNat, Int.reduceAdd, Int.reduceSub, Int.reduceMul, Int.reduceNeg, Int.reduceEq, Int.reduceLT, Int.reduceLE]; rfl) ?_)
          | refine post0 ?_
        all_goals (rw [stop fun h => by rw [(vk_succ.1 h).2.1] at hvt; cases hvt]; exact ends_of)
      | true =>
        rw [hvt] at q
        repeat' first
          | with_reducible refine k_seq ?_
          | with_reducible refine k_skip ?_
          | with_reducible refine k_blkS ?_
          | with_reducible refine k_blkR ?_
          | with_reducible refine k_blkC ?_
          | with_reducible refine k_blkH ?_
          | with_reducible refine k_blkB ?_
          | with_reducible refine k_blkK ?_
          | with_reducible refine k_blkE ?_
          | with_reducible refine k_reg ?_
          | with_reducible refine k_head (by with_unfolding_all rfl) ?_
          | with_reducible refine k_headS ?_
          | (with_reducible refine SepK.mk ?_ ?_; (refine sepQ_P ?_; simp [sepQ, sepG, AOp.late, AOp.free, AOp.xs, AOp.isAl, tokNe, AV.tok, stS_get, strip, AX.val, c14r0, c14r1, c14r2, c14r3, c14r4, c14r5, c14r6, c14r7, c14r8, c14r9, c14r10, c14r11, c14r13, c14r15, GA]; try omega))
          | with_reducible refine r_done ?_
          | with_reducible refine hr_done ?_
          | with_reducible refine s_go (by simp (disch := omega) only [rT, hlt', c14r0, c14r1, c14r2, c14r3, c14r4, c14r5, c14r6, c14r7, c14r8, c14r9, c14r10, c14r11, c14r13, c14r15, EV0, EV1, EV2, EV3, EV4, EV5, EV6, EV7, EV8, VALS, plug, ite_same, decide_true, decide_false, eq_self, ↓reduceIte, reduceCtorEq, Nat.reduceAdd, Nat.reduceEqDiff, Nat.reduceLT, Nat.reduceLeDiff, Nat.reduceMul, Nat.reduceSub, Nat.reduceDiv, Int.reduceToNat, Int.reduceAdd, Int.reduceSub, Int.reduceMul, Int.reduceNeg, Int.reduceEq, Int.reduceLT, Int.reduceLE]; with_reducible rfl) ?_
          | with_reducible refine h_go (by with_unfolding_all rfl) (by simp (disch := omega) only [rT, hlt', c14r0, c14r1, c14r2, c14r3, c14r4, c14r5, c14r6, c14r7, c14r8, c14r9, c14r10, c14r11, c14r13, c14r15, EV0, EV1, EV2, EV3, EV4, EV5, EV6, EV7, EV8, VALS, plug, ite_same, decide_true, decide_false, eq_self, ↓reduceIte, reduceCtorEq, Nat.reduceAdd, Nat.reduceEqDiff, Nat.reduceLT, Nat.reduceLeDiff, Nat.reduceMul, Nat.reduceSub, Nat.reduceDiv, Int.reduceToNat, Int.reduceAdd, Int.reduceSub, Int.reduceMul, Int.reduceNeg, Int.reduceEq, Int.reduceLT, Int.reduceLE]; with_reducible rfl) ?_
          | ((with_reducible refine chk_r ?_); refine r_callF (by simp only [CA, Nat.reduceEqDiff, ↓reduceIte]; rfl) (by exact rfl) (by simp only [CA, Nat.reduceEqDiff, ↓reduceIte]; rfl) rfl ?_)
          | ((with_reducible refine chk_h ?_); refine hr_callF (by simp only [CA, Nat.reduceEqDiff, ↓reduceIte]; rfl) (by exact rfl) (by simp only [CA, Nat.reduceEqDiff, ↓reduceIte]; rfl) rfl ?_)
          | ((with_reducible refine chk_r ?_); refine r_callP (by simp only [CA, Nat.reduceEqDiff, ↓reduceIte]; rfl) (by simp only [CA, Nat.reduceEqDiff, ↓reduceIte]; rfl) (by first | exact q _) rfl ?_)
          | ((with_reducible refine chk_h ?_); refine hr_callP (by simp only [CA, Nat.reduceEqDiff, ↓reduceIte]; rfl) (by simp only [CA, Nat.reduceEqDiff, ↓reduceIte]; rfl) (by first | exact q _) rfl ?_)
          | ((with_reducible refine chk_h ?_); refine hr_callP1 (by simp only [CA, Nat.reduceEqDiff, ↓reduceIte]; rfl) (by simp only [CA, Nat.reduceEqDiff, ↓reduceIte]; rfl) (by simp (disch := omega) only [CA, Nat.reduceEqDiff, ↓reduceIte, firstTok_nil, firstTok_sl, firstTok_sl0, firstTok_i, firstTok_b, firstTok_ag, firstTok_p, firstTok_s]; rfl) (by first | exact q _) rfl ?_)
          | ((with_reducible refine chk_h ?_); refine hr_app (by simp (disch := omega) only [rT, hlt', c14r0, c14r1, c14r2, c14r3, c14r4, c14r5, c14r6, c14r7, c14r8, c14r9, c14r10, c14r11, c14r13, c14r15, EV0, EV1, EV2, EV3, EV4, EV5, EV6, EV7, EV8, VALS, plug, ite_same, decide_true, decide_false, eq_self, ↓reduceIte, reduceCtorEq, Nat.reduceAdd, Nat.reduceEqDiff, Nat.reduceLT, Nat.reduceLeDiff, Nat.reduceMul, Nat.reduceSub, Nat.reduceDiv, Int.reduceToNat, Int.reduceAdd, Int.reduceSub, Int.reduceMul, Int.reduceNeg, Int.reduceEq, Int.reduceLT, Int.reduceLE]; with_reducible rfl) rfl ?_)
          | (with_reducible refine k_condP (by simp only [GA, Nat.reduceEqDiff, ↓reduceIte]; rfl) (by first | (simp only [BO]; rfl) | rfl) (fun ht => ?_) (fun ht => ?_) <;> try (first | exact False.elim ht | exact absurd rfl ht | exact absurd trivial ht | exact Bool.noConfusion ht))
          | (with_reducible refine k_ret ?_; repeat with_reducible (first | refine ret_thru ?_ | refine ret_blk ?_ | refine fin ?_))
          | (with_reducible refine k_exit ?_; repeat with_reducible (first | refine thru ?_ | refine out_blk ?_ | refine pass (by decide) ?_))
          | (refine post1 ?_; simp only [GA, Nat.reduceEqDiff, ↓reduceIte])
          | (refine post2 ?_; simp only [GA, Nat.reduceEqDiff, ↓reduceIte])
          | (refine post3 ?_; simp only [GA, Nat.reduceEqDiff, ↓reduceIte])
          | (refine postc (by simp only [GA, Nat.reduceEqDiff, ↓reduceIte]; rfl) (by simp (disch := omega) only [rT, hlt', c14r0, c14r1, c14r2, c14r3, c14r4, c14r5, c14r6, c14r7, c14r8, c14r9, c14r10, c14r11, c14r13, c14r15, EV0, EV1, EV2, EV3, EV4, EV5, EV6, EV7, EV8, VALS, plug, ite_same, decide_true, decide_false, eq_self, ↓reduceIte, reduceCtorEq, Nat.reduceAdd, Nat.reduceEqDiff, Nat.reduceLT, Nat.reduceLeDiff, Nat.reduceMul, Nat.reduceSub, Nat.reduceDiv, Int.reduceToNat, Int.reduceAdd, Int.reduceSub, Int.reduceMul, Int.reduceNeg, Int.reduceEq, Int.reduceLT, Int.reduceLE]; rfl) ?_)
          | refine post0 ?_
        refine k_blk (k_loopS (X := Unit) [0, 3, 4] k (fun j x => [(0, vT l), (3, .i .i64 (k : Int)), (4, .i .i64 (j : Int))]) (fun j x h => ∀ i, i < j → (l.getD i T0).num ≠ (l.getD k T0).num) () (by simp only [Am.keep, List.map_cons, List.map_nil, GA, Nat.reduceEqDiff, ↓reduceIte]; try rfl) (fun i hi => by omega) ?_)
        rintro j ⟨⟩ h hj hd ok pos
        have jT := fun hj : j < k => getT0 (l := l) (j := j) (by omega)
        by_cases hjk : j < k
        · have hjk' : (j : Int) < k := by omega
          have jT := jT hjk
          repeat' first
            | with_reducible refine k_seq ?_
            | with_reducible refine k_skip ?_
            | with_reducible refine k_blkS ?_
            | with_reducible refine k_blkR ?_
            | with_reducible refine k_blkC ?_
            | with_reducible refine k_blkH ?_
            | with_reducible refine k_blkB ?_
            | with_reducible refine k_blkK ?_
            | with_reducible refine k_blkE ?_
            | with_reducible refine k_reg ?_
            | with_reducible refine k_head (by with_unfolding_all rfl) ?_
            | with_reducible refine k_headS ?_
            | (with_reducible refine SepK.mk ?_ ?_; (refine sepQ_P ?_; simp [sepQ, sepG, AOp.late, AOp.free, AOp.xs, AOp.isAl, tokNe, AV.tok, stS_get, strip, AX.val, c14r0, c14r1, c14r2, c14r3, c14r4, c14r5, c14r6, c14r7, c14r8, c14r9, c14r10, c14r11, c14r13, c14r15, GA]; try omega))
            | with_reducible refine r_done ?_
            | with_reducible refine hr_done ?_
            | with_reducible refine s_go (by simp (disch := omega) only [hjk', jT, g0, c14r0, c14r1, c14r2, c14r3, c14r4, c14r5, c14r6, c14r7, c14r8, c14r9, c14r10, c14r11, c14r13, c14r15, EV0, EV1, EV2, EV3, EV4, EV5, EV6, EV7, EV8, VALS, plug, ite_same, decide_true, decide_false, eq_self, ↓reduceIte, reduceCtorEq, Nat.reduceAdd, Nat.reduceEqDiff, Nat.reduceLT, Nat.reduceLeDiff, Nat.reduceMul, Nat.reduceSub, Nat.reduceDiv, Int.reduceToNat, Int.reduceAdd, Int.reduceSub, Int.reduceMul, Int.reduceNeg, Int.reduceEq, Int.reduceLT, Int.reduceLE]; with_reducible rfl) ?_
            | with_reducible refine h_go (by with_unfolding_all rfl) (by simp (disch := omega) only [hjk', jT, g0, c14r0, c14r1, c14r2, c14r3, c14r4, c14r5, c14r6, c14r7, c14r8, c14r9, c14r10, c14r11, c14r13, c14r15, EV0, EV1, EV2, EV3, EV4, EV5, EV6, EV7, EV8, VALS, plug, ite_same, decide_true, decide_false, eq_self, ↓reduceIte, reduceCtorEq, Nat.reduceAdd, Nat.reduceEqDiff, Nat.reduceLT, Nat.reduceLeDiff, Nat.reduceMul, Nat.reduceSub, Nat.reduceDiv, Int.reduceToNat, Int.reduceAdd, Int.reduceSub, Int.reduceMul, Int.reduceNeg, Int.reduceEq, Int.reduceLT, Int.reduceLE]; with_reducible rfl) ?_
            | ((with_reducible refine chk_r ?_); refine r_callF (by simp only [CA, Nat.reduceEqDiff, ↓reduceIte]; rfl) (by exact rfl) (by simp only [CA, Nat.reduceEqDiff, ↓reduceIte]; rfl) rfl ?_)
            | ((with_reducible refine chk_h ?_); refine hr_callF (by simp only [CA, Nat.reduceEqDiff, ↓reduceIte]; rfl) (by exact rfl) (by simp only [CA, Nat.reduceEqDiff, ↓reduceIte]; rfl) rfl ?_)
            | ((with_reducible refine chk_h ?_); refine hr_app (by simp (disch := omega) only [hjk', jT, g0, c14r0, c14r1, c14r2, c14r3, c14r4, c14r5, c14r6, c14r7, c14r8, c14r9, c14r10, c14r11, c14r13, c14r15, EV0, EV1, EV2, EV3, EV4, EV5, EV6, EV7, EV8, VALS, plug, ite_same, decide_true, decide_false, eq_self, ↓reduceIte, reduceCtorEq, Nat.reduceAdd, Nat.reduceEqDiff, Nat.reduceLT, Nat.reduceLeDiff, Nat.reduceMul, Nat.reduceSub, Nat.reduceDiv, Int.reduceToNat, Int.reduceAdd, Int.reduceSub, Int.reduceMul, Int.reduceNeg, Int.reduceEq, Int.reduceLT, Int.reduceLE]; with_reducible rfl) rfl ?_)
            | (with_reducible refine k_condP (by simp only [GA, Nat.reduceEqDiff, ↓reduceIte]; rfl) (by first | (simp only [BO]; rfl) | rfl) (fun ht => ?_) (fun ht => ?_) <;> try (first | exact False.elim ht | exact absurd rfl ht | exact absurd trivial ht | exact Bool.noConfusion ht))
            | (with_reducible refine k_ret ?_; repeat with_reducible (first | refine ret_thru ?_ | refine ret_blk ?_ | refine fin ?_))
            | (with_reducible refine k_exit ?_; repeat with_reducible (first | refine thru ?_ | refine out_blk ?_ | refine pass (by decide) ?_))
            | (refine post1 ?_; simp only [GA, Nat.reduceEqDiff, ↓reduceIte])
            | (refine post2 ?_; simp only [GA, Nat.reduceEqDiff, ↓reduceIte])
            | (refine post3 ?_; simp only [GA, Nat.reduceEqDiff, ↓reduceIte])
            | (refine postc (by simp only [GA, Nat.reduceEqDiff, ↓reduceIte]; rfl) (by simp (disch := omega) only [hjk', jT, g0, c14r0, c14r1, c14r2, c14r3, c14r4, c14r5, c14r6, c14r7, c14r8, c14r9, c14r10, c14r11, c14r13, c14r15, EV0, EV1, EV2, EV3, EV4, EV5, EV6, EV7, EV8, VALS, plug, ite_same, decide_true, decide_false, eq_self, ↓reduceIte, reduceCtorEq, Nat.reduceAdd, Nat.reduceEqDiff, Nat.reduceLT, Nat.reduceLeDiff, Nat.reduceMul, Nat.reduceSub, Nat.reduceDiv, Int.reduceToNat, Int.reduceAdd, Int.reduceSub, Int.reduceMul, Int.reduceNeg, Int.reduceEq, Int.reduceLT, Int.reduceLE]; rfl) ?_)
            | refine post0 ?_
          · rw [stop fun h => (vk_succ.1 h).2.2 j hjk ht]
            exact ends_of
          · refine ⟨hjk, (), (by simp only [Am.keep, List.map_cons, List.map_nil, GA, Nat.reduceEqDiff, ↓reduceIte]; try rfl), fun i hi => ?_⟩
            by_cases e : i = j
            · subst e; exact ht
            · exact hd i (by omega)
        · obtain rfl : j = k := by omega
          have hjk' : ¬ (j : Int) < j := by omega
          repeat' first
            | with_reducible refine k_seq ?_
            | with_reducible refine k_skip ?_
            | with_reducible refine k_blkS ?_
            | with_reducible refine k_blkR ?_
            | with_reducible refine k_blkC ?_
            | with_reducible refine k_blkH ?_
            | with_reducible refine k_blkB ?_
            | with_reducible refine k_blkK ?_
            | with_reducible refine k_blkE ?_
            | with_reducible refine k_reg ?_
            | with_reducible refine k_head (by with_unfolding_all rfl) ?_
            | with_reducible refine k_headS ?_
            | (with_reducible refine SepK.mk ?_ ?_; (refine sepQ_P ?_; simp [sepQ, sepG, AOp.late, AOp.free, AOp.xs, AOp.isAl, tokNe, AV.tok, stS_get, strip, AX.val, c14r0, c14r1, c14r2, c14r3, c14r4, c14r5, c14r6, c14r7, c14r8, c14r9, c14r10, c14r11, c14r13, c14r15, GA]; try omega))
            | with_reducible refine r_done ?_
            | with_reducible refine hr_done ?_
            | with_reducible refine s_go (by simp (disch := omega) only [hjk', c14r0, c14r1, c14r2, c14r3, c14r4, c14r5, c14r6, c14r7, c14r8, c14r9, c14r10, c14r11, c14r13, c14r15, EV0, EV1, EV2, EV3, EV4, EV5, EV6, EV7, EV8, VALS, plug, ite_same, decide_true, decide_false, eq_self, ↓reduceIte, reduceCtorEq, Nat.reduceAdd, Nat.reduceEqDiff, Nat.reduceLT, Nat.reduceLeDiff, Nat.reduceMul, Nat.reduceSub, Nat.reduceDiv, Int.reduceToNat, Int.reduceAdd, Int.reduceSub, Int.reduceMul, Int.reduceNeg, Int.reduceEq, Int.reduceLT, Int.reduceLE]; with_reducible rfl) ?_
            | with_reducible refine h_go (by with_unfolding_all rfl) (by simp (disch := omega) only [hjk', c14r0, c14r1, c14r2, c14r3, c14r4, c14r5, c14r6, c14r7, c14r8, c14r9, c14r10, c14r11, c14r13, c14r15, EV0, EV1, EV2, EV3, EV4, EV5, EV6, EV7, EV8, VALS, plug, ite_same, decide_true, decide_false, eq_self, ↓reduceIte, reduceCtorEq, Nat.reduceAdd, Nat.reduceEqDiff, Nat.reduceLT, Nat.reduceLeDiff, Nat.reduceMul, Nat.reduceSub, Nat.reduceDiv, Int.reduceToNat, Int.reduceAdd, Int.reduceSub, Int.reduceMul, Int.reduceNeg, Int.reduceEq, Int.reduceLT, Int.reduceLE]; with_reducible rfl) ?_
            | ((with_reducible refine chk_r ?_); refine r_callF (by simp only [CA, Nat.reduceEqDiff, ↓reduceIte]; rfl) (by exact rfl) (by simp only [CA, Nat.reduceEqDiff, ↓reduceIte]; rfl) rfl ?_)
            | ((with_reducible refine chk_h ?_); refine hr_callF (by simp only [CA, Nat.reduceEqDiff, ↓reduceIte]; rfl) (by exact rfl) (by simp only [CA, Nat.reduceEqDiff, ↓reduceIte]; rfl) rfl ?_)
            | ((with_reducible refine chk_h ?_); refine hr_app (by simp (disch := omega) only [hjk', c14r0, c14r1, c14r2, c14r3, c14r4, c14r5, c14r6, c14r7, c14r8, c14r9, c14r10, c14r11, c14r13, c14r15, EV0, EV1, EV2, EV3, EV4, EV5, EV6, EV7, EV8, VALS, plug, ite_same, decide_true, decide_false, eq_self, ↓reduceIte, reduceCtorEq, Nat.reduceAdd, Nat.reduceEqDiff, Nat.reduceLT, Nat.reduceLeDiff, Nat.reduceMul, Nat.reduceSub, Nat.reduceDiv, Int.reduceToNat, Int.reduceAdd, Int.reduceSub, Int.reduceMul, Int.reduceNeg, Int.reduceEq, Int.reduceLT, Int.reduceLE]; with_reducible rfl) rfl ?_)
            | (with_reducible refine k_condP (by simp only [GA, Nat.reduceEqDiff, ↓reduceIte]; rfl) (by first | (simp only [BO]; rfl) | rfl) (fun ht => ?_) (fun ht => ?_) <;> try (first | exact False.elim ht | exact absurd rfl ht | exact absurd trivial ht | exact Bool.noConfusion ht))
            | (with_reducible refine k_ret ?_; repeat with_reducible (first | refine ret_thru ?_ | refine ret_blk ?_ | refine fin ?_))
            | (with_reducible refine k_exit ?_; repeat with_reducible (first | refine thru ?_ | refine out_blk ?_ | refine pass (by decide) ?_))
            | (refine post1 ?_; simp only [GA, Nat.reduceEqDiff, ↓reduceIte])
            | (refine post2 ?_; simp only [GA, Nat.reduceEqDiff, ↓reduceIte])
            | (refine post3 ?_; simp only [GA, Nat.reduceEqDiff, ↓reduceIte])
            | (refine postc (by simp only [GA, Nat.reduceEqDiff, ↓reduceIte]; rfl) (by simp (disch := omega) only [hjk', c14r0, c14r1, c14r2, c14r3, c14r4, c14r5, c14r6, c14r7, c14r8, c14r9, c14r10, c14r11, c14r13, c14r15, EV0, EV1, EV2, EV3, EV4, EV5, EV6, EV7, EV8, VALS, plug, ite_same, decide_true, decide_false, eq_self, ↓reduceIte, reduceCtorEq, Nat.reduceAdd, Nat.reduceEqDiff, Nat.reduceLT, Nat.reduceLeDiff, Nat.reduceMul, Nat.reduceSub, Nat.reduceDiv, Int.reduceToNat, Int.reduceAdd, Int.reduceSub, Int.reduceMul, Int.reduceNeg, Int.reduceEq, Int.reduceLT, Int.reduceLE]; rfl) ?_)
            | refine post0 ?_
          exact ⟨hlt, (), (by simp only [Am.keep, List.map_cons, List.map_nil, GA, Nat.reduceEqDiff, ↓reduceIte]; try rfl), vk_succ.2 ⟨hv, hvt, hd⟩⟩
    · have hlt' : ¬ (k : Int) < l.length := by omega
      obtain rfl : k = l.length := by omega
      repeat' first
        | with_reducible refine k_seq ?_
        | with_reducible refine k_skip ?_
        | with_reducible refine k_blkS ?_
        | with_reducible refine k_blkR ?_
        | with_reducible refine k_blkC ?_
        | with_reducible refine k_blkH ?_
        | with_reducible refine k_blkB ?_
        | with_reducible refine k_blkK ?_
        | with_reducible refine k_blkE ?_
        | with_reducible refine k_reg ?_
        | with_reducible refine k_head (by with_unfolding_all rfl) ?_
        | with_reducible refine k_headS ?_
        | (with_reducible refine SepK.mk ?_ ?_; (refine sepQ_P ?_; simp [sepQ, sepG, AOp.late, AOp.free, AOp.xs, AOp.isAl, tokNe, AV.tok, stS_get, strip, AX.val, c14r0, c14r1, c14r2, c14r3, c14r4, c14r5, c14r6, c14r7, c14r8, c14r9, c14r10, c14r11, c14r13, c14r15, GA]; try omega))
        | with_reducible refine r_done ?_
        | with_reducible refine hr_done ?_
        | with_reducible refine s_go (by simp (disch := omega) only [hlt', c14r0, c14r1, c14r2, c14r3, c14r4, c14r5, c14r6, c14r7, c14r8, c14r9, c14r10, c14r11, c14r13, c14r15, EV0, EV1, EV2, EV3, EV4, EV5, EV6, EV7, EV8, VALS, plug, ite_same, decide_true, decide_false, eq_self, ↓reduceIte, reduceCtorEq, Nat.reduceAdd, Nat.reduceEqDiff, Nat.reduceLT, Nat.reduceLeDiff, Nat.reduceMul, Nat.reduceSub, Nat.reduceDiv, Int.reduceToNat, Int.reduceAdd, Int.reduceSub, Int.reduceMul, Int.reduceNeg, Int.reduceEq, Int.reduceLT, Int.reduceLE]; with_reducible rfl) ?_
        | with_reducible refine h_go (by with_unfolding_all rfl) (by simp (disch := omega) only [hlt', c14r0, c14r1, c14r2, c14r3, c14r4, c14r5, c14r6, c14r7, c14r8, c14r9, c14r10, c14r11, c14r13, c14r15, EV0, EV1, EV2, EV3, EV4, EV5, EV6, EV7, EV8, VALS, plug, ite_same, decide_true, decide_false, eq_self, ↓reduceIte, reduceCtorEq, Nat.reduceAdd, Nat.reduceEqDiff, Nat.reduceLT, Nat.reduceLeDiff, Nat.reduceMul, Nat.reduceSub, Nat.reduceDiv, Int.reduceToNat, Int.reduceAdd, Int.reduceSub, Int.reduceMul, Int.reduceNeg, Int.reduceEq, Int.reduceLT, Int.reduceLE]; with_reducible rfl) ?_
        | ((with_reducible refine chk_r ?_); refine r_callF (by simp only [CA, Nat.reduceEqDiff, ↓reduceIte]; rfl) (by exact rfl) (by simp only [CA, Nat.reduceEqDiff, ↓reduceIte]; rfl) rfl ?_)
        | ((with_reducible refine chk_h ?_); refine hr_callF (by simp only [CA, Nat.reduceEqDiff, ↓reduceIte]; rfl) (by exact rfl) (by simp only [CA, Nat.reduceEqDiff, ↓reduceIte]; rfl) rfl ?_)
        | ((with_reducible refine chk_h ?_); refine hr_app (by simp (disch := omega) only [hlt', c14r0, c14r1, c14r2, c14r3, c14r4, c14r5, c14r6, c14r7, c14r8, c14r9, c14r10, c14r11, c14r13, c14r15, EV0, EV1, EV2, EV3, EV4, EV5, EV6, EV7, EV8, VALS, plug, ite_same, decide_true, decide_false, eq_self, ↓reduceIte, reduceCtorEq, Nat.reduceAdd, Nat.reduceEqDiff, Nat.reduceLT, Nat.reduceLeDiff, Nat.reduceMul, Nat.reduceSub, Nat.reduceDiv, Int.reduceToNat, Int.reduceAdd, Int.reduceSub, Int.reduceMul, Int.reduceNeg, Int.reduceEq, Int.reduceLT, Int.reduceLE]; with_reducible rfl) rfl ?_)
        | (with_reducible refine k_condP (by simp only [GA, Nat.reduceEqDiff, ↓reduceIte]; rfl) (by first | (simp only [BO]; rfl) | rfl) (fun ht => ?_) (fun ht => ?_) <;> try (first | exact False.elim ht | exact absurd rfl ht | exact absurd trivial ht | exact Bool.noConfusion ht))
        | (with_reducible refine k_ret ?_; repeat with_reducible (first | refine ret_thru ?_ | refine ret_blk ?_ | refine fin ?_))
        | (with_reducible refine k_exit ?_; repeat with_reducible (first | refine thru ?_ | refine out_blk ?_ | refine pass (by decide) ?_))
        | (refine post1 ?_; simp only [GA, Nat.reduceEqDiff, ↓reduceIte])
        | (refine post2 ?_; simp only [GA, Nat.reduceEqDiff, ↓reduceIte])
        | (refine post3 ?_; simp only [GA, Nat.reduceEqDiff, ↓reduceIte])
        | (refine postc (by simp only [GA, Nat.reduceEqDiff, ↓reduceIte]; rfl) (by simp (disch := omega) only [hlt', c14r0, c14r1, c14r2, c14r3, c14r4, c14r5, c14r6, c14r7, c14r8, c14r9, c14r10, c14r11, c14r13, c14r15, EV0, EV1, EV2, EV3, EV4, EV5, EV6, EV7, EV8, VALS, plug, ite_same, decide_true, decide_false, eq_self, ↓reduceIte, reduceCtorEq, Nat.reduceAdd, Nat.reduceEqDiff, Nat.reduceLT, Nat.reduceLeDiff, Nat.reduceMul, Nat.reduceSub, Nat.reduceDiv, Int.reduceToNat, Int.reduceAdd, Int.reduceSub, Int.reduceMul, Int.reduceNeg, Int.reduceEq, Int.reduceLT, Int.reduceLE]; rfl) ?_)
        | refine post0 ?_
      rw [vl_t ⟨by omega, hv⟩]
      exact ends_of
end Go.Proofs.Ytbhkbaapfioijaa
set_option linter.unusedVariables false
set_option linter.unusedSimpArgs false
namespace Go.Proofs.Ytbhkbaapfioijaa
open Go Go.Am Go.Proofs
theorem vt_len {t : T} (h : vt t = true) : 1 ≤ t.len ∧ t.len ≤ 2000 ∧ 1 ≤ t.side ∧ t.side ≤ 2 ∧ 1 ≤ t.num ∧ t.num ≤ 1000000000 ∧ 1 ≤ t.col ∧ t.col ≤ 9 := by
  simp only [vt, decide_eq_true_eq] at h; omega
/-- the error of a list and a tolerance -/
noncomputable def asked (l : List T) (tol : Int) : Int := if vl l = false then 40 else if ¬ (0 ≤ tol ∧ tol ≤ 1000) then 2 else 0
theorem asked_ok {l : List T} {tol : Int} (h : asked l tol = 0) : VL l ∧ 0 ≤ tol ∧ tol ≤ 1000 := by
  unfold asked at h
  split at h
  · cases h
  · rename_i hv
    split at h
    · cases h
    · exact ⟨vl_iff.1 (by simpa using hv), by omega⟩
theorem asked_yes {l : List T} {tol : Int} (h : VL l) (h2 : 0 ≤ tol ∧ tol ≤ 1000) : asked l tol = 0 := by
  unfold asked; rw [vl_t h, if_neg (by simp), if_neg (by omega)]
theorem asked_bad {l : List T} {tol : Int} (h : ¬ VL l) : asked l tol = 40 := by unfold asked; rw [vl_f h, if_pos rfl]
theorem asked_arg {l : List T} {tol : Int} (h : VL l) (h2 : ¬ (0 ≤ tol ∧ tol ≤ 1000)) : asked l tol = 2 := by unfold asked; rw [vl_t h, if_neg (by simp), if_pos h2]
theorem VL.len {l : List T} (h : VL l) : l.length ≤ 60 := h.1
theorem VL.t {l : List T} (h : VL l) {i : Nat} (hi : i < l.length) : vt (l.getD i T0) = true := h.2.1 i hi
theorem pc49 (l : List T) (hl : l.length ≤ 9223372036854775807) (tol : Int) : PC Try.prog 49 [vT l, .i .i64 tol] (.i .i64 (asked l tol)) := by
  refine pc_fn fn49 (by simp only [AV.plains, AV.plain, il_plain, bl_plain, Bool.and_true, Bool.true_and, Bool.and_self, flT_plain]) (by simp only [AV.plains, AV.plain, il_plain, bl_plain, Bool.and_true, Bool.true_and, Bool.and_self, flT_plain]) (Nat.le_of_ble_eq_true rfl) ?_
  rw [initSt2]
  have q := pc27 l hl
  cases hv : vl l with
  | false =>
    rw [hv] at q
    repeat' first
      | with_reducible refine k_seq ?_
      | with_reducible refine k_skip ?_
      | with_reducible refine k_blkS ?_
      | with_reducible refine k_blkR ?_
      | with_reducible refine k_blkC ?_
      | with_reducible refine k_blkH ?_
      | with_reducible refine k_blkB ?_
      | with_reducible refine k_blkK ?_
      | with_reducible refine k_blkE ?_
      | with_reducible refine k_reg ?_
      | with_reducible refine r_done ?_
      | with_reducible refine s_go (by simp (disch := omega) only [c49r0, c49r1, c49r2, c49r3, c49r4, c49r5, EV0, EV1, EV2, EV3, EV4, EV5, EV6, EV7, EV8, VALS, plug, ite_same, decide_true, decide_false, eq_self, ↓reduceIte, reduceCtorEq, Nat.reduceAdd, Nat.reduceEqDiff, Nat.reduceLT, Nat.reduceLeDiff, Nat.reduceMul, Nat.reduceSub, Nat.reduceDiv, Int.reduceToNat, Int.reduceAdd, Int.reduceSub, Int.reduceMul, Int.reduceNeg, Int.reduceEq, Int.reduceLT, Int.reduceLE]; with_reducible rfl) ?_
      | ((with_reducible refine chk_r ?_); refine r_callF (by simp only [CA, Nat.reduceEqDiff, ↓reduceIte]; rfl) (by exact rfl) (by simp only [CA, Nat.reduceEqDiff, ↓reduceIte]; rfl) rfl ?_)
      | ((with_reducible refine chk_r ?_); refine r_callP (by simp only [CA, Nat.reduceEqDiff, ↓reduceIte]; rfl) (by simp only [CA, Nat.reduceEqDiff, ↓reduceIte]; rfl) (by first | exact q _ | exact pc71 _ _ _ _) rfl ?_)
      | (with_reducible refine k_condP (by simp only [GA, Nat.reduceEqDiff, ↓reduceIte]; rfl) (by first | (simp only [BO]; rfl) | rfl) (fun ht => ?_) (fun ht => ?_) <;> try (first | exact False.elim ht | exact absurd rfl ht | exact absurd trivial ht | exact Bool.noConfusion ht))
      | (with_reducible refine k_ret ?_; repeat with_reducible (first | refine ret_thru ?_ | refine ret_blk ?_ | refine fin ?_))
      | (with_reducible refine k_exit ?_; repeat with_reducible (first | refine thru ?_ | refine out_blk ?_ | refine pass (by decide) ?_))
      | (refine post1 ?_; simp only [GA, Nat.reduceEqDiff, ↓reduceIte])
      | (refine post2 ?_; simp only [GA, Nat.reduceEqDiff, ↓reduceIte])
      | (refine post3 ?_; simp only [GA, Nat.reduceEqDiff, ↓reduceIte])
      | (refine postc (by simp only [GA, Nat.reduceEqDiff, ↓reduceIte]; rfl) (by simp (disch := omega) only [c49r0, c49r1, c49r2, c49r3, c49r4, c49r5, EV0, EV1, EV2, EV3, EV4, EV5, EV6, EV7, EV8, VALS, plug, ite_same, decide_true, decide_false, eq_self, ↓reduceIte, reduceCtorEq, Nat.reduceAdd, Nat.reduceEqDiff, Nat.reduceLT, Nat.reduceLeDiff, Nat.reduceMul, Nat.reduceSub, Nat.reduceDiv, Int.reduceToNat, Int.reduceAdd, Int.reduceSub, Int.reduceMul, Int.reduceNeg, Int.reduceEq, Int.reduceLT, Int.reduceLE]; rfl) ?_)
      | refine post0 ?_
    all_goals (refine ends_eq (i_eq ?_); unfold asked; rw [if_pos hv])
  | true =>
    rw [hv] at q
    repeat' first
      | with_reducible refine k_seq ?_
      | with_reducible refine k_skip ?_
      | with_reducible refine k_blkS ?_
      | with_reducible refine k_blkR ?_
      | with_reducible refine k_blkC ?_
      | with_reducible refine k_blkH ?_
      | with_reducible refine k_blkB ?_
      | with_reducible refine k_blkK ?_
      | with_reducible refine k_blkE ?_
      | with_reducible refine k_reg ?_
      | with_reducible refine r_done ?_
      | with_reducible refine s_go (by simp (disch := omega) only [c49r0, c49r1, c49r2, c49r3, c49r4, c49r5, EV0, EV1, EV2, EV3, EV4, EV5, EV6, EV7, EV8, VALS, plug, ite_same, decide_true, decide_false, eq_self, ↓reduceIte, reduceCtorEq, Nat.reduceAdd, Nat.reduceEqDiff, Nat.reduceLT, Nat.reduceLeDiff, Nat.reduceMul, Nat.reduceSub, Nat.reduceDiv, Int.reduceToNat, Int.reduceAdd, Int.reduceSub, Int.reduceMul, Int.reduceNeg, Int.reduceEq, Int.reduceLT, Int.reduceLE]; with_reducible rfl) ?_
      | ((with_reducible refine chk_r ?_); refine r_callF (by simp only [CA, Nat.reduceEqDiff, ↓reduceIte]; rfl) (by exact rfl) (by simp only [CA, Nat.reduceEqDiff, ↓reduceIte]; rfl) rfl ?_)
      | ((with_reducible refine chk_r ?_); refine r_callP (by simp only [CA, Nat.reduceEqDiff, ↓reduceIte]; rfl) (by simp only [CA, Nat.reduceEqDiff, ↓reduceIte]; rfl) (by first | exact q _ | exact pc71 _ _ _ _) rfl ?_)
      | (with_reducible refine k_condP (by simp only [GA, Nat.reduceEqDiff, ↓reduceIte]; rfl) (by first | (simp only [BO]; rfl) | rfl) (fun ht => ?_) (fun ht => ?_) <;> try (first | exact False.elim ht | exact absurd rfl ht | exact absurd trivial ht | exact Bool.noConfusion ht))
      | (with_reducible refine k_ret ?_; repeat with_reducible (first | refine ret_thru ?_ | refine ret_blk ?_ | refine fin ?_))
      | (with_reducible refine k_exit ?_; repeat with_reducible (first | refine thru ?_ | refine out_blk ?_ | refine pass (by decide) ?_))
      | (refine post1 ?_; simp only [GA, Nat.reduceEqDiff, ↓reduceIte])
      | (refine post2 ?_; simp only [GA, Nat.reduceEqDiff, ↓reduceIte])
      | (refine post3 ?_; simp only [GA, Nat.reduceEqDiff, ↓reduceIte])
      | (refine postc (by simp only [GA, Nat.reduceEqDiff, ↓reduceIte]; rfl) (by simp (disch := omega) only [c49r0, c49r1, c49r2, c49r3, c49r4, c49r5, EV0, EV1, EV2, EV3, EV4, EV5, EV6, EV7, EV8, VALS, plug, ite_same, decide_true, decide_false, eq_self, ↓reduceIte, reduceCtorEq, Nat.reduceAdd, Nat.reduceEqDiff, Nat.reduceLT, Nat.reduceLeDiff, Nat.reduceMul, Nat.reduceSub, Nat.reduceDiv, Int.reduceToNat, Int.reduceAdd, Int.reduceSub, Int.reduceMul, Int.reduceNeg, Int.reduceEq, Int.reduceLT, Int.reduceLE]; rfl) ?_)
      | refine post0 ?_
    all_goals (refine ends_eq (i_eq ?_); unfold asked; rw [if_neg (by simp [hv])])
    all_goals first | rw [if_pos (by omega)] | rw [if_neg (by omega)]
theorem pc53 (tol : Int) : PC Try.prog 53 [.i .i64 tol] (.b (decide (0 ≤ tol ∧ tol ≤ 1000))) := by
  refine pc_fn fn53 (by simp only [AV.plains, AV.plain, il_plain, bl_plain, Bool.and_true, Bool.true_and, Bool.and_self]) (by simp only [AV.plains, AV.plain, il_plain, bl_plain, Bool.and_true, Bool.true_and, Bool.and_self]) (Nat.le_of_ble_eq_true rfl) ?_
  rw [initSt1]
  repeat' first
    | with_reducible refine k_seq ?_
    | with_reducible refine k_skip ?_
    | with_reducible refine k_blkS ?_
    | with_reducible refine k_blkR ?_
    | with_reducible refine k_blkC ?_
    | with_reducible refine k_blkH ?_
    | with_reducible refine k_blkB ?_
    | with_reducible refine k_blkK ?_
    | with_reducible refine k_blkE ?_
    | with_reducible refine k_reg ?_
    | with_reducible refine r_done ?_
    | with_reducible refine s_go (by simp (disch := omega) only [c53r0, c53r1, EV0, EV1, EV2, EV3, EV4, EV5, EV6, EV7, EV8, VALS, plug, ite_same, decide_true, decide_false, eq_self, ↓reduceIte, reduceCtorEq, Nat.reduceAdd, Nat.reduceEqDiff, Nat.reduceLT, Nat.reduceLeDiff, Nat.reduceMul, Nat.reduceSub, Nat.reduceDiv, Int.reduceToNat, Int.reduceAdd, Int.reduceSub, Int.reduceMul, Int.reduceNeg, Int.reduceEq, Int.reduceLT, Int.reduceLE]; with_reducible rfl) ?_
    | ((with_reducible refine chk_r ?_); refine r_callF (by simp only [CA, Nat.reduceEqDiff, ↓reduceIte]; rfl) (by exact rfl) (by simp only [CA, Nat.reduceEqDiff, ↓reduceIte]; rfl) rfl ?_)
    | (with_reducible refine k_condP (by simp only [GA, Nat.reduceEqDiff, ↓reduceIte]; rfl) (by first | (simp only [BO]; rfl) | rfl) (fun ht => ?_) (fun ht => ?_) <;> try (first | exact False.elim ht | exact absurd rfl ht | exact absurd trivial ht | exact Bool.noConfusion ht))
    | (with_reducible refine k_ret ?_; repeat with_reducible (first | refine ret_thru ?_ | refine ret_blk ?_ | refine fin ?_))
    | (with_reducible refine k_exit ?_; repeat with_reducible (first | refine thru ?_ | refine out_blk ?_ | refine pass (by decide) ?_))
    | (refine post1 ?_; simp only [GA, Nat.reduceEqDiff, ↓reduceIte])
    | (refine post2 ?_; simp only [GA, Nat.reduceEqDiff, ↓reduceIte])
    | (refine post3 ?_; simp only [GA, Nat.reduceEqDiff, ↓reduceIte])
    | (refine postc (by simp only [GA, Nat.reduceEqDiff, ↓reduceIte]; rfl) (by simp (disch := omega) only [c53r0, c53r1, EV0, EV1, EV2, EV3, EV4, EV5, EV6, EV7, EV8, VALS, plug, ite_same, decide_true, decide_false, eq_self, ↓reduceIte, reduceCtorEq, Nat.reduceAdd, Nat.reduceEqDiff, Nat.reduceLT, Nat.reduceLeDiff, Nat.reduceMul, Nat.reduceSub, Nat.reduceDiv, Int.reduceToNat, Int.reduceAdd, Int.reduceSub, Int.reduceMul, Int.reduceNeg, Int.reduceEq, Int.reduceLT, Int.reduceLE]; rfl) ?_)
    | refine post0 ?_
  refine ends_eq (b_eq ?_); rw [Bool.eq_iff_iff]
  simp
theorem pc55 (l : List T) (hl : l.length ≤ 9223372036854775807) (tol : Int) : PC Try.prog 55 [vT l, .i .i64 tol] (.i .i64 (asked l tol)) := by
  refine pc_fn fn55 (by simp only [AV.plains, AV.plain, il_plain, bl_plain, Bool.and_true, Bool.true_and, Bool.and_self, flT_plain]) (by simp only [AV.plains, AV.plain, il_plain, bl_plain, Bool.and_true, Bool.true_and, Bool.and_self, flT_plain]) (Nat.le_of_ble_eq_true rfl) ?_
  rw [initSt2]
  have q := pc14 l hl
  have q2 := pc53 tol
  cases hv : vl l with
  | false =>
    rw [hv] at q
    repeat' first
      | with_reducible refine k_seq ?_
      | with_reducible refine k_skip ?_
      | with_reducible refine k_blkS ?_
      | with_reducible refine k_blkR ?_
      | with_reducible refine k_blkC ?_
      | with_reducible refine k_blkH ?_
      | with_reducible refine k_blkB ?_
      | with_reducible refine k_blkK ?_
      | with_reducible refine k_blkE ?_
      | with_reducible refine k_reg ?_
      | with_reducible refine r_done ?_
      | with_reducible refine s_go (by simp (disch := omega) only [c55r0, c55r1, c55r2, c55r3, c55r4, c55r5, EV0, EV1, EV2, EV3, EV4, EV5, EV6, EV7, EV8, VALS, plug, ite_same, decide_true, decide_false, eq_self, ↓reduceIte, reduceCtorEq, Nat.reduceAdd, Nat.reduceEqDiff, Nat.reduceLT, Nat.reduceLeDiff, Nat.reduceMul, Nat.reduceSub, Nat.reduceDiv, Int.reduceToNat, Int.reduceAdd, Int.reduceSub, Int.reduceMul, Int.reduceNeg, Int.reduceEq, Int.reduceLT, Int.reduceLE]; with_reducible rfl) ?_
      | ((with_reducible refine chk_r ?_); refine r_callF (by simp only [CA, Nat.reduceEqDiff, ↓reduceIte]; rfl) (by exact rfl) (by simp only [CA, Nat.reduceEqDiff, ↓reduceIte]; rfl) rfl ?_)
      | ((with_reducible refine chk_r ?_); refine r_callP (by simp only [CA, Nat.reduceEqDiff, ↓reduceIte]; rfl) (by simp only [CA, Nat.reduceEqDiff, ↓reduceIte]; rfl) (by first | exact q _ | exact q2 _) rfl ?_)
      | (with_reducible refine k_condP (by simp only [GA, Nat.reduceEqDiff, ↓reduceIte]; rfl) (by first | (simp only [BO]; rfl) | rfl) (fun ht => ?_) (fun ht => ?_) <;> try (first | exact False.elim ht | exact absurd rfl ht | exact absurd trivial ht | exact Bool.noConfusion ht))
      | (with_reducible refine k_ret ?_; repeat with_reducible (first | refine ret_thru ?_ | refine ret_blk ?_ | refine fin ?_))
      | (with_reducible refine k_exit ?_; repeat with_reducible (first | refine thru ?_ | refine out_blk ?_ | refine pass (by decide) ?_))
      | (refine post1 ?_; simp only [GA, Nat.reduceEqDiff, ↓reduceIte])
      | (refine post2 ?_; simp only [GA, Nat.reduceEqDiff, ↓reduceIte])
      | (refine post3 ?_; simp only [GA, Nat.reduceEqDiff, ↓reduceIte])
      | (refine postc (by simp only [GA, Nat.reduceEqDiff, ↓reduceIte]; rfl) (by simp (disch := omega) only [c55r0, c55r1, c55r2, c55r3, c55r4, c55r5, EV0, EV1, EV2, EV3, EV4, EV5, EV6, EV7, EV8, VALS, plug, ite_same, decide_true, decide_false, eq_self, ↓reduceIte, reduceCtorEq, Nat.reduceAdd, Nat.reduceEqDiff, Nat.reduceLT, Nat.reduceLeDiff, Nat.reduceMul, Nat.reduceSub, Nat.reduceDiv, Int.reduceToNat, Int.reduceAdd, Int.reduceSub, Int.reduceMul, Int.reduceNeg, Int.reduceEq, Int.reduceLT, Int.reduceLE]; rfl) ?_)
      | refine post0 ?_
    all_goals (refine ends_eq (i_eq ?_); unfold asked; rw [if_pos hv])
  | true =>
    rw [hv] at q
    repeat' first
      | with_reducible refine k_seq ?_
      | with_reducible refine k_skip ?_
      | with_reducible refine k_blkS ?_
      | with_reducible refine k_blkR ?_
      | with_reducible refine k_blkC ?_
      | with_reducible refine k_blkH ?_
      | with_reducible refine k_blkB ?_
      | with_reducible refine k_blkK ?_
      | with_reducible refine k_blkE ?_
      | with_reducible refine k_reg ?_
      | with_reducible refine r_done ?_
      | with_reducible refine s_go (by simp (disch := omega) only [c55r0, c55r1, c55r2, c55r3, c55r4, c55r5, EV0, EV1, EV2, EV3, EV4, EV5, EV6, EV7, EV8, VALS, plug, ite_same, decide_true, decide_false, eq_self, ↓reduceIte, reduceCtorEq, Nat.reduceAdd, Nat.reduceEqDiff, Nat.reduceLT, Nat.reduceLeDiff, Nat.reduceMul, Nat.reduceSub, Nat.reduceDiv, Int.reduceToNat, Int.reduceAdd, Int.reduceSub, Int.reduceMul, Int.reduceNeg, Int.reduceEq, Int.reduceLT, Int.reduceLE]; with_reducible rfl) ?_
      | ((with_reducible refine chk_r ?_); refine r_callF (by simp only [CA, Nat.reduceEqDiff, ↓reduceIte]; rfl) (by exact rfl) (by simp only [CA, Nat.reduceEqDiff, ↓reduceIte]; rfl) rfl ?_)
      | ((with_reducible refine chk_r ?_); refine r_callP (by simp only [CA, Nat.reduceEqDiff, ↓reduceIte]; rfl) (by simp only [CA, Nat.reduceEqDiff, ↓reduceIte]; rfl) (by first | exact q _ | exact q2 _) rfl ?_)
      | (with_reducible refine k_condP (by simp only [GA, Nat.reduceEqDiff, ↓reduceIte]; rfl) (by first | (simp only [BO]; rfl) | rfl) (fun ht => ?_) (fun ht => ?_) <;> try (first | exact False.elim ht | exact absurd rfl ht | exact absurd trivial ht | exact Bool.noConfusion ht))
      | (with_reducible refine k_ret ?_; repeat with_reducible (first | refine ret_thru ?_ | refine ret_blk ?_ | refine fin ?_))
      | (with_reducible refine k_exit ?_; repeat with_reducible (first | refine thru ?_ | refine out_blk ?_ | refine pass (by decide) ?_))
      | (refine post1 ?_; simp only [GA, Nat.reduceEqDiff, ↓reduceIte])
      | (refine post2 ?_; simp only [GA, Nat.reduceEqDiff, ↓reduceIte])
      | (refine post3 ?_; simp only [GA, Nat.reduceEqDiff, ↓reduceIte])
      | (refine postc (by simp only [GA, Nat.reduceEqDiff, ↓reduceIte]; rfl) (by simp (disch := omega) only [c55r0, c55r1, c55r2, c55r3, c55r4, c55r5, EV0, EV1, EV2, EV3, EV4, EV5, EV6, EV7, EV8, VALS, plug, ite_same, decide_true, decide_false, eq_self, ↓reduceIte, reduceCtorEq, Nat.reduceAdd, Nat.reduceEqDiff, Nat.reduceLT, Nat.reduceLeDiff, Nat.reduceMul, Nat.reduceSub, Nat.reduceDiv, Int.reduceToNat, Int.reduceAdd, Int.reduceSub, Int.reduceMul, Int.reduceNeg, Int.reduceEq, Int.reduceLT, Int.reduceLE]; rfl) ?_)
      | refine post0 ?_
    all_goals (refine ends_eq (i_eq ?_); unfold asked; rw [if_neg (by simp [hv])])
    all_goals first | rw [if_pos (by omega)] | rw [if_neg (by omega)]
def mates (a b : T) : Bool := decide (a.side ≠ b.side ∧ a.col = b.col)
def apart (a b : T) : Int := max (a.len - b.len) (b.len - a.len)
def can (a b : T) (tol : Int) : Bool := mates a b && decide (apart a b ≤ tol)
theorem pc59 (a b : T) : PC Try.prog 59 [.ag (eT a), .ag (eT b)] (.b (mates a b)) := by
  refine pc_fn fn59 (by simp only [AV.plains, AV.plain, il_plain, bl_plain, Bool.and_true, Bool.true_and, Bool.and_self, eT_plain]) (by simp only [AV.plains, AV.plain, il_plain, bl_plain, Bool.and_true, Bool.true_and, Bool.and_self, eT_plain]) (Nat.le_of_ble_eq_true rfl) ?_
  rw [initSt2]
  repeat' first
    | with_reducible refine k_seq ?_
    | with_reducible refine k_skip ?_
    | with_reducible refine k_blkS ?_
    | with_reducible refine k_blkR ?_
    | with_reducible refine k_blkC ?_
    | with_reducible refine k_blkH ?_
    | with_reducible refine k_blkB ?_
    | with_reducible refine k_blkK ?_
    | with_reducible refine k_blkE ?_
    | with_reducible refine k_reg ?_
    | with_reducible refine r_done ?_
    | with_reducible refine s_go (by simp (disch := omega) only [eT, c59r0, c59r1, EV0, EV1, EV2, EV3, EV4, EV5, EV6, EV7, EV8, VALS, plug, ite_same, decide_true, decide_false, eq_self, ↓reduceIte, reduceCtorEq, Nat.reduceAdd, Nat.reduceEqDiff, Nat.reduceLT, Nat.reduceLeDiff, Nat.reduceMul, Nat.reduceSub, Nat.reduceDiv, Int.reduceToNat, Int.reduceAdd, Int.reduceSub, Int.reduceMul, Int.reduceNeg, Int.reduceEq, Int.reduceLT, Int.reduceLE]; with_reducible rfl) ?_
    | ((with_reducible refine chk_r ?_); refine r_callF (by simp only [CA, Nat.reduceEqDiff, ↓reduceIte]; rfl) (by exact rfl) (by simp only [CA, Nat.reduceEqDiff, ↓reduceIte]; rfl) rfl ?_)
    | (with_reducible refine k_condP (by simp only [GA, Nat.reduceEqDiff, ↓reduceIte]; rfl) (by first | (simp only [BO]; rfl) | rfl) (fun ht => ?_) (fun ht => ?_) <;> try (first | exact False.elim ht | exact absurd rfl ht | exact absurd trivial ht | exact Bool.noConfusion ht))
    | (with_reducible refine k_ret ?_; repeat with_reducible (first | refine ret_thru ?_ | refine ret_blk ?_ | refine fin ?_))
    | (with_reducible refine k_exit ?_; repeat with_reducible (first | refine thru ?_ | refine out_blk ?_ | refine pass (by decide) ?_))
    | (refine post1 ?_; simp only [GA, Nat.reduceEqDiff, ↓reduceIte])
    | (refine post2 ?_; simp only [GA, Nat.reduceEqDiff, ↓reduceIte])
    | (refine post3 ?_; simp only [GA, Nat.reduceEqDiff, ↓reduceIte])
    | (refine postc (by simp only [GA, Nat.reduceEqDiff, ↓reduceIte]; rfl) (by simp (disch := omega) only [eT, c59r0, c59r1, EV0, EV1, EV2, EV3, EV4, EV5, EV6, EV7, EV8, VALS, plug, ite_same, decide_true, decide_false, eq_self, ↓reduceIte, reduceCtorEq, Nat.reduceAdd, Nat.reduceEqDiff, Nat.reduceLT, Nat.reduceLeDiff, Nat.reduceMul, Nat.reduceSub, Nat.reduceDiv, Int.reduceToNat, Int.reduceAdd, Int.reduceSub, Int.reduceMul, Int.reduceNeg, Int.reduceEq, Int.reduceLT, Int.reduceLE]; rfl) ?_)
    | refine post0 ?_
  refine ends_eq (b_eq ?_); rw [Bool.eq_iff_iff]
  simp [mates]
theorem pc60 (a b : T) (ha : vt a = true) (hb : vt b = true) : PC Try.prog 60 [.ag (eT a), .ag (eT b)] (.i .i64 (apart a b)) := by
  refine pc_fn fn60 (by simp only [AV.plains, AV.plain, il_plain, bl_plain, Bool.and_true, Bool.true_and, Bool.and_self, eT_plain]) (by simp only [AV.plains, AV.plain, il_plain, bl_plain, Bool.and_true, Bool.true_and, Bool.and_self, eT_plain]) (Nat.le_of_ble_eq_true rfl) ?_
  rw [initSt2]
  have := vt_len ha
  have := vt_len hb
  repeat' first
    | with_reducible refine k_seq ?_
    | with_reducible refine k_skip ?_
    | with_reducible refine k_blkS ?_
    | with_reducible refine k_blkR ?_
    | with_reducible refine k_blkC ?_
    | with_reducible refine k_blkH ?_
    | with_reducible refine k_blkB ?_
    | with_reducible refine k_blkK ?_
    | with_reducible refine k_blkE ?_
    | with_reducible refine k_reg ?_
    | with_reducible refine r_done ?_
    | with_reducible refine s_go (by simp (disch := omega) only [eT, c60r0, c60r1, EV0, EV1, EV2, EV3, EV4, EV5, EV6, EV7, EV8, VALS, plug, ite_same, decide_true, decide_false, eq_self, ↓reduceIte, reduceCtorEq, Nat.reduceAdd, Nat.reduceEqDiff, Nat.reduceLT, Nat.reduceLeDiff, Nat.reduceMul, Nat.reduceSub, Nat.reduceDiv, Int.reduceToNat, Int.reduceAdd, Int.reduceSub, Int.reduceMul, Int.reduceNeg, Int.reduceEq, Int.reduceLT, Int.reduceLE]; with_reducible rfl) ?_
    | ((with_reducible refine chk_r ?_); refine r_callF (by simp only [CA, Nat.reduceEqDiff, ↓reduceIte]; rfl) (by exact rfl) (by simp only [CA, Nat.reduceEqDiff, ↓reduceIte]; rfl) rfl ?_)
    | (with_reducible refine k_condP (by simp only [GA, Nat.reduceEqDiff, ↓reduceIte]; rfl) (by first | (simp only [BO]; rfl) | rfl) (fun ht => ?_) (fun ht => ?_) <;> try (first | exact False.elim ht | exact absurd rfl ht | exact absurd trivial ht | exact Bool.noConfusion ht))
    | (with_reducible refine k_ret ?_; repeat with_reducible (first | refine ret_thru ?_ | refine ret_blk ?_ | refine fin ?_))
    | (with_reducible refine k_exit ?_; repeat with_reducible (first | refine thru ?_ | refine out_blk ?_ | refine pass (by decide) ?_))
    | (refine post1 ?_; simp only [GA, Nat.reduceEqDiff, ↓reduceIte])
    | (refine post2 ?_; simp only [GA, Nat.reduceEqDiff, ↓reduceIte])
    | (refine post3 ?_; simp only [GA, Nat.reduceEqDiff, ↓reduceIte])
    | (refine postc (by simp only [GA, Nat.reduceEqDiff, ↓reduceIte]; rfl) (by simp (disch := omega) only [eT, c60r0, c60r1, EV0, EV1, EV2, EV3, EV4, EV5, EV6, EV7, EV8, VALS, plug, ite_same, decide_true, decide_false, eq_self, ↓reduceIte, reduceCtorEq, Nat.reduceAdd, Nat.reduceEqDiff, Nat.reduceLT, Nat.reduceLeDiff, Nat.reduceMul, Nat.reduceSub, Nat.reduceDiv, Int.reduceToNat, Int.reduceAdd, Int.reduceSub, Int.reduceMul, Int.reduceNeg, Int.reduceEq, Int.reduceLT, Int.reduceLE]; rfl) ?_)
    | refine post0 ?_
  all_goals first | exact ends_of | exact ends_eq rfl
theorem pc68 (a b : T) (ha : vt a = true) (hb : vt b = true) : PC Try.prog 68 [.ag (eT a), .ag (eT b)] (.i .i64 (apart a b)) := by
  refine pc_fn fn68 (by simp only [AV.plains, AV.plain, il_plain, bl_plain, Bool.and_true, Bool.true_and, Bool.and_self, eT_plain]) (by simp only [AV.plains, AV.plain, il_plain, bl_plain, Bool.and_true, Bool.true_and, Bool.and_self, eT_plain]) (Nat.le_of_ble_eq_true rfl) ?_
  rw [initSt2]
  have := vt_len ha
  have := vt_len hb
  repeat' first
    | with_reducible refine k_seq ?_
    | with_reducible refine k_skip ?_
    | with_reducible refine k_blkS ?_
    | with_reducible refine k_blkR ?_
    | with_reducible refine k_blkC ?_
    | with_reducible refine k_blkH ?_
    | with_reducible refine k_blkB ?_
    | with_reducible refine k_blkK ?_
    | with_reducible refine k_blkE ?_
    | with_reducible refine k_reg ?_
    | with_reducible refine r_done ?_
    | with_reducible refine s_go (by simp (disch := omega) only [eT, c68r0, c68r1, EV0, EV1, EV2, EV3, EV4, EV5, EV6, EV7, EV8, VALS, plug, ite_same, decide_true, decide_false, eq_self, ↓reduceIte, reduceCtorEq, Nat.reduceAdd, Nat.reduceEqDiff, Nat.reduceLT, Nat.reduceLeDiff, Nat.reduceMul, Nat.reduceSub, Nat.reduceDiv, Int.reduceToNat, Int.reduceAdd, Int.reduceSub, Int.reduceMul, Int.reduceNeg, Int.reduceEq, Int.reduceLT, Int.reduceLE]; with_reducible rfl) ?_
    | ((with_reducible refine chk_r ?_); refine r_callF (by simp only [CA, Nat.reduceEqDiff, ↓reduceIte]; rfl) (by exact rfl) (by simp only [CA, Nat.reduceEqDiff, ↓reduceIte]; rfl) rfl ?_)
    | (with_reducible refine k_condP (by simp only [GA, Nat.reduceEqDiff, ↓reduceIte]; rfl) (by first | (simp only [BO]; rfl) | rfl) (fun ht => ?_) (fun ht => ?_) <;> try (first | exact False.elim ht | exact absurd rfl ht | exact absurd trivial ht | exact Bool.noConfusion ht))
    | (with_reducible refine k_ret ?_; repeat with_reducible (first | refine ret_thru ?_ | refine ret_blk ?_ | refine fin ?_))
    | (with_reducible refine k_exit ?_; repeat with_reducible (first | refine thru ?_ | refine out_blk ?_ | refine pass (by decide) ?_))
    | (refine post1 ?_; simp only [GA, Nat.reduceEqDiff, ↓reduceIte])
    | (refine post2 ?_; simp only [GA, Nat.reduceEqDiff, ↓reduceIte])
    | (refine post3 ?_; simp only [GA, Nat.reduceEqDiff, ↓reduceIte])
    | (refine postc (by simp only [GA, Nat.reduceEqDiff, ↓reduceIte]; rfl) (by simp (disch := omega) only [eT, c68r0, c68r1, EV0, EV1, EV2, EV3, EV4, EV5, EV6, EV7, EV8, VALS, plug, ite_same, decide_true, decide_false, eq_self, ↓reduceIte, reduceCtorEq, Nat.reduceAdd, Nat.reduceEqDiff, Nat.reduceLT, Nat.reduceLeDiff, Nat.reduceMul, Nat.reduceSub, Nat.reduceDiv, Int.reduceToNat, Int.reduceAdd, Int.reduceSub, Int.reduceMul, Int.reduceNeg, Int.reduceEq, Int.reduceLT, Int.reduceLE]; rfl) ?_)
    | refine post0 ?_
  all_goals first | exact ends_of | exact ends_eq rfl
theorem pc52 (a b : T) (ha : vt a = true) (hb : vt b = true) (tol : Int) : PC Try.prog 52 [.ag (eT a), .ag (eT b), .i .i64 tol] (.b (can a b tol)) := by
  refine pc_fn fn52 (by simp only [AV.plains, AV.plain, il_plain, bl_plain, Bool.and_true, Bool.true_and, Bool.and_self, eT_plain]) (by simp only [AV.plains, AV.plain, il_plain, bl_plain, Bool.and_true, Bool.true_and, Bool.and_self, eT_plain]) (Nat.le_of_ble_eq_true rfl) ?_
  rw [initSt3]
  have q1 := pc59 a b
  have q2 := pc60 a b ha hb
  simp only [eT] at q1 q2 ⊢
  repeat' first
    | with_reducible refine k_seq ?_
    | with_reducible refine k_skip ?_
    | with_reducible refine k_blkS ?_
    | with_reducible refine k_blkR ?_
    | with_reducible refine k_blkC ?_
    | with_reducible refine k_blkH ?_
    | with_reducible refine k_blkB ?_
    | with_reducible refine k_blkK ?_
    | with_reducible refine k_blkE ?_
    | with_reducible refine k_reg ?_
    | with_reducible refine r_done ?_
    | with_reducible refine s_go (by simp (disch := omega) only [c52r0, c52r1, EV0, EV1, EV2, EV3, EV4, EV5, EV6, EV7, EV8, VALS, plug, ite_same, decide_true, decide_false, eq_self, ↓reduceIte, reduceCtorEq, Nat.reduceAdd, Nat.reduceEqDiff, Nat.reduceLT, Nat.reduceLeDiff, Nat.reduceMul, Nat.reduceSub, Nat.reduceDiv, Int.reduceToNat, Int.reduceAdd, Int.reduceSub, Int.reduceMul, Int.reduceNeg, Int.reduceEq, Int.reduceLT, Int.reduceLE]; with_reducible rfl) ?_
    | ((with_reducible refine chk_r ?_); refine r_callF (by simp only [CA, Nat.reduceEqDiff, ↓reduceIte]; rfl) (by exact rfl) (by simp only [CA, Nat.reduceEqDiff, ↓reduceIte]; rfl) rfl ?_)
    | ((with_reducible refine chk_r ?_); refine r_callP (by simp only [CA, Nat.reduceEqDiff, ↓reduceIte]; rfl) (by simp only [CA, Nat.reduceEqDiff, ↓reduceIte]; rfl) (by first | exact q1 _ | exact q2 _) rfl ?_)
    | ((with_reducible refine chk_r ?_); refine r_callG (by simp only [CA, Nat.reduceEqDiff, ↓reduceIte]; rfl) (by simp only [CA, Nat.reduceEqDiff, ↓reduceIte]; rfl) (by simp only [CA, Nat.reduceEqDiff, ↓reduceIte]; rfl) (by intro hg; (try simp only [BO] at hg); first | exact q1 _ | exact q2 _) rfl ?_)
    | (with_reducible refine k_condP (by simp only [GA, Nat.reduceEqDiff, ↓reduceIte]; rfl) (by first | (simp only [BO]; rfl) | rfl) (fun ht => ?_) (fun ht => ?_) <;> try (first | exact False.elim ht | exact absurd rfl ht | exact absurd trivial ht | exact Bool.noConfusion ht))
    | (with_reducible refine k_ret ?_; repeat with_reducible (first | refine ret_thru ?_ | refine ret_blk ?_ | refine fin ?_))
    | (with_reducible refine k_exit ?_; repeat with_reducible (first | refine thru ?_ | refine out_blk ?_ | refine pass (by decide) ?_))
    | (refine post1 ?_; simp only [GA, Nat.reduceEqDiff, ↓reduceIte])
    | (refine post2 ?_; simp only [GA, Nat.reduceEqDiff, ↓reduceIte])
    | (refine post3 ?_; simp only [GA, Nat.reduceEqDiff, ↓reduceIte])
    | (refine postc (by simp only [GA, Nat.reduceEqDiff, ↓reduceIte]; rfl) (by simp (disch := omega) only [c52r0, c52r1, EV0, EV1, EV2, EV3, EV4, EV5, EV6, EV7, EV8, VALS, plug, ite_same, decide_true, decide_false, eq_self, ↓reduceIte, reduceCtorEq, Nat.reduceAdd, Nat.reduceEqDiff, Nat.reduceLT, Nat.reduceLeDiff, Nat.reduceMul, Nat.reduceSub, Nat.reduceDiv, Int.reduceToNat, Int.reduceAdd, Int.reduceSub, Int.reduceMul, Int.reduceNeg, Int.reduceEq, Int.reduceLT, Int.reduceLE]; rfl) ?_)
    | refine post0 ?_
  all_goals first | exact ends_of | exact ends_eq rfl
theorem pc57 (a b : T) (ha : vt a = true) (hb : vt b = true) (tol : Int) : PC Try.prog 57 [.ag (eT a), .ag (eT b), .i .i64 tol] (.b (can a b tol)) := by
  refine pc_fn fn57 (by simp only [AV.plains, AV.plain, il_plain, bl_plain, Bool.and_true, Bool.true_and, Bool.and_self, eT_plain]) (by simp only [AV.plains, AV.plain, il_plain, bl_plain, Bool.and_true, Bool.true_and, Bool.and_self, eT_plain]) (Nat.le_of_ble_eq_true rfl) ?_
  rw [initSt3]
  have q2 := pc68 a b ha hb
  simp only [eT] at q2 ⊢
  repeat' first
    | with_reducible refine k_seq ?_
    | with_reducible refine k_skip ?_
    | with_reducible refine k_blkS ?_
    | with_reducible refine k_blkR ?_
    | with_reducible refine k_blkC ?_
    | with_reducible refine k_blkH ?_
    | with_reducible refine k_blkB ?_
    | with_reducible refine k_blkK ?_
    | with_reducible refine k_blkE ?_
    | with_reducible refine k_reg ?_
    | with_reducible refine r_done ?_
    | with_reducible refine s_go (by simp (disch := omega) only [c57r0, c57r1, EV0, EV1, EV2, EV3, EV4, EV5, EV6, EV7, EV8, VALS, plug, ite_same, decide_true, decide_false, eq_self, ↓reduceIte, reduceCtorEq, Nat.reduceAdd, Nat.reduceEqDiff, Nat.reduceLT, Nat.reduceLeDiff, Nat.reduceMul, Nat.reduceSub, Nat.reduceDiv, Int.reduceToNat, Int.reduceAdd, Int.reduceSub, Int.reduceMul, Int.reduceNeg, Int.reduceEq, Int.reduceLT, Int.reduceLE]; with_reducible rfl) ?_
    | ((with_reducible refine chk_r ?_); refine r_callF (by simp only [CA, Nat.reduceEqDiff, ↓reduceIte]; rfl) (by exact rfl) (by simp only [CA, Nat.reduceEqDiff, ↓reduceIte]; rfl) rfl ?_)
    | ((with_reducible refine chk_r ?_); refine r_callP (by simp only [CA, Nat.reduceEqDiff, ↓reduceIte]; rfl) (by simp only [CA, Nat.reduceEqDiff, ↓reduceIte]; rfl) (by first | exact q2 _) rfl ?_)
    | ((with_reducible refine chk_r ?_); refine r_callG (by simp only [CA, Nat.reduceEqDiff, ↓reduceIte]; rfl) (by simp only [CA, Nat.reduceEqDiff, ↓reduceIte]; rfl) (by simp only [CA, Nat.reduceEqDiff, ↓reduceIte]; rfl) (by intro hg; (try simp only [BO] at hg); first | exact q2 _) rfl ?_)
    | (with_reducible refine k_condP (by simp only [GA, Nat.reduceEqDiff, ↓reduceIte]; rfl) (by first | (simp only [BO]; rfl) | rfl) (fun ht => ?_) (fun ht => ?_) <;> try (first | exact False.elim ht | exact absurd rfl ht | exact absurd trivial ht | exact Bool.noConfusion ht))
    | (with_reducible refine k_ret ?_; repeat with_reducible (first | refine ret_thru ?_ | refine ret_blk ?_ | refine fin ?_))
    | (with_reducible refine k_exit ?_; repeat with_reducible (first | refine thru ?_ | refine out_blk ?_ | refine pass (by decide) ?_))
    | (refine post1 ?_; simp only [GA, Nat.reduceEqDiff, ↓reduceIte])
    | (refine post2 ?_; simp only [GA, Nat.reduceEqDiff, ↓reduceIte])
    | (refine post3 ?_; simp only [GA, Nat.reduceEqDiff, ↓reduceIte])
    | (refine postc (by simp only [GA, Nat.reduceEqDiff, ↓reduceIte]; rfl) (by simp (disch := omega) only [c57r0, c57r1, EV0, EV1, EV2, EV3, EV4, EV5, EV6, EV7, EV8, VALS, plug, ite_same, decide_true, decide_false, eq_self, ↓reduceIte, reduceCtorEq, Nat.reduceAdd, Nat.reduceEqDiff, Nat.reduceLT, Nat.reduceLeDiff, Nat.reduceMul, Nat.reduceSub, Nat.reduceDiv, Int.reduceToNat, Int.reduceAdd, Int.reduceSub, Int.reduceMul, Int.reduceNeg, Int.reduceEq, Int.reduceLT, Int.reduceLE]; rfl) ?_)
    | refine post0 ?_
  refine ends_eq (b_eq ?_); rw [Bool.eq_iff_iff]
  simp [can, mates]
end Go.Proofs.Ytbhkbaapfioijaa
namespace Go.Proofs.Ytbhkbaapfioijaa
open Go Go.Shelf Go.Proofs
def sortL_ren : Go.Shelf.Ren := ⟨fun | 6 => 77 | 15 => 80 | 14 => 79 | 28 => 92 | 29 => 93 | 20 => 84 | 21 => 85 | 22 => 86 | 23 => 87 | 24 => 88 | 25 => 89 | 26 => 90 | 27 => 91 | 46 => 95 | 47 => 96 | 48 => 97 | 49 => 98 | 50 => 99 | 57 => 100 | n => n, fun | 22 => 33 | 24 => 3 | 25 => 94 | 3 => 3 | 39 => 44 | 0 => 0 | 53 => 107 | 55 => 109 | 4 => 4 | 46 => 101 | 45 => 100 | 50 => 76 | 5 => 5 | 9 => 9 | 66 => 110 | 70 => 114 | 76 => 116 | 77 => 117 | n => n, fun | n => n⟩
theorem sortL : Go.Proofs.SlLaysF.n6 Try.prog sortL_ren := {
  mixed := by kernel_rfl
  f6 := ⟨Try.f77.name, by decide, Try.func77.trans (congrArg some (by kernel_rfl))⟩
  f14 := ⟨Try.f79.name, by decide, Try.func79.trans (congrArg some (by kernel_rfl))⟩
  f15 := Try.func80.trans (congrArg some (by kernel_rfl))
  f20 := ⟨Try.f84.name, by decide, Try.func84.trans (congrArg some (by kernel_rfl))⟩
  f21 := ⟨Try.f85.name, by decide, Try.func85.trans (congrArg some (by kernel_rfl))⟩
  f22 := ⟨Try.f86.name, by decide, Try.func86.trans (congrArg some (by kernel_rfl))⟩
  f23 := ⟨Try.f87.name, by decide, Try.func87.trans (congrArg some (by kernel_rfl))⟩
  f24 := ⟨Try.f88.name, by decide, Try.func88.trans (congrArg some (by kernel_rfl))⟩
  f25 := ⟨Try.f89.name, by decide, Try.func89.trans (congrArg some (by kernel_rfl))⟩
  f26 := ⟨Try.f90.name, by decide, Try.func90.trans (congrArg some (by kernel_rfl))⟩
  f27 := ⟨Try.f91.name, by decide, Try.func91.trans (congrArg some (by kernel_rfl))⟩
  f28 := Try.func92.trans (congrArg some (by kernel_rfl))
  f29 := Try.func93.trans (congrArg some (by kernel_rfl))
  f46 := ⟨Try.f95.name, by decide, Try.func95.trans (congrArg some (by kernel_rfl))⟩
  f47 := Try.func96.trans (congrArg some (by kernel_rfl))
  f48 := Try.func97.trans (congrArg some (by kernel_rfl))
  f49 := ⟨Try.f98.name, by decide, Try.func98.trans (congrArg some (by kernel_rfl))⟩
  f50 := ⟨Try.f99.name, by decide, Try.func99.trans (congrArg some (by kernel_rfl))⟩
  f57 := ⟨Try.f100.name, by decide, Try.func100.trans (congrArg some (by kernel_rfl))⟩
  t0 := Try.underlying0
  a0 := Try.isAgg0
  z0 := Try.sizeOf0
  v0 := Try.zeroValue0
  t3 := Try.underlying3
  a3 := Try.isAgg3
  z3 := Try.sizeOf3
  v3 := Try.zeroValue3
  t4 := Try.underlying4
  a4 := Try.isAgg4
  z4 := Try.sizeOf4
  v4 := Try.zeroValue4
  t5 := Try.underlying5
  a5 := Try.isAgg5
  z5 := Try.sizeOf5
  v5 := Try.zeroValue5
  t9 := Try.underlying9
  a9 := Try.isAgg9
  z9 := Try.sizeOf9
  v9 := Try.zeroValue9
  t22 := Try.underlying33
  a22 := Try.isAgg33
  z22 := Try.sizeOf33
  v22 := Try.zeroValue33
  a24 := Try.isAgg3
  z24 := Try.sizeOf3
  t25 := Try.underlying94
  a25 := Try.isAgg94
  z25 := Try.sizeOf94
  v25 := Try.zeroValue94
  t39 := Try.underlying44
  a39 := Try.isAgg44
  z39 := Try.sizeOf44
  v39 := Try.zeroValue44
  t45 := Try.underlying100
  a45 := Try.isAgg100
  z45 := Try.sizeOf100
  v45 := Try.zeroValue100
  t46 := Try.underlying101
  a46 := Try.isAgg101
  z46 := Try.sizeOf101
  v46 := Try.zeroValue101
  t50 := Try.underlying76
  a50 := Try.isAgg76
  z50 := Try.sizeOf76
  v50 := Try.zeroValue76
  t53 := Try.underlying107
  a53 := Try.isAgg107
  z53 := Try.sizeOf107
  v53 := Try.zeroValue107
  t55 := Try.underlying109
  a55 := Try.isAgg109
  z55 := Try.sizeOf109
  v55 := Try.zeroValue109
  t66 := Try.underlying110
  a66 := Try.isAgg110
  z66 := Try.sizeOf110
  v66 := Try.zeroValue110
  t70 := Try.underlying114
  a70 := Try.isAgg114
  z70 := Try.sizeOf114
  v70 := Try.zeroValue114
  t76 := Try.underlying116
  a76 := Try.isAgg116
  z76 := Try.sizeOf116
  v76 := Try.zeroValue116
  t77 := Try.underlying117
  a77 := Try.isAgg117
  z77 := Try.sizeOf117
  v77 := Try.zeroValue117 }
end Go.Proofs.Ytbhkbaapfioijaa
set_option linter.unusedVariables false
set_option linter.unusedSimpArgs false
namespace Go.Proofs.Ytbhkbaapfioijaa
open Go Go.Am Go.Proofs
/-! ### The order of a side -/
theorem pc94 (x : Int) : PC Try.prog 94 [.i .i64 x] (.b false) := by
  refine pc_fn fn94 (by simp only [AV.plains, AV.plain, il_plain, bl_plain, Bool.and_true, Bool.true_and, Bool.and_self]) (by simp only [AV.plains, AV.plain, il_plain, bl_plain, Bool.and_true, Bool.true_and, Bool.and_self]) (Nat.le_of_ble_eq_true rfl) ?_
  rw [initSt1]
  repeat' first
    | with_reducible refine k_seq ?_
    | with_reducible refine k_skip ?_
    | with_reducible refine k_blkS ?_
    | with_reducible refine k_blkR ?_
    | with_reducible refine k_blkC ?_
    | with_reducible refine k_blkH ?_
    | with_reducible refine k_blkB ?_
    | with_reducible refine k_blkK ?_
    | with_reducible refine k_blkE ?_
    | with_reducible refine k_reg ?_
    | with_reducible refine r_done ?_
    | with_reducible refine s_go (by simp (disch := omega) only [c94r0, c94r1, EV0, EV1, EV2, EV3, EV4, EV5, EV6, EV7, EV8, VALS, plug, ite_same, decide_true, decide_false, eq_self, ↓reduceIte, reduceCtorEq, Nat.reduceAdd, Nat.reduceEqDiff, Nat.reduceLT, Nat.reduceLeDiff, Nat.reduceMul, Nat.reduceSub, Nat.reduceDiv, Int.reduceToNat, Int.reduceAdd, Int.reduceSub, Int.reduceMul, Int.reduceNeg, Int.reduceEq, Int.reduceLT, Int.reduceLE]; with_reducible rfl) ?_
    | ((with_reducible refine chk_r ?_); refine r_callF (by simp only [CA, Nat.reduceEqDiff, ↓reduceIte]; rfl) (by exact rfl) (by simp only [CA, Nat.reduceEqDiff, ↓reduceIte]; rfl) rfl ?_)
    | (with_reducible refine k_condP (by simp only [GA, Nat.reduceEqDiff, ↓reduceIte]; rfl) (by first | (simp only [BO]; rfl) | rfl) (fun ht => ?_) (fun ht => ?_) <;> try (first | exact False.elim ht | exact absurd rfl ht | exact absurd trivial ht | exact Bool.noConfusion ht))
    | (with_reducible refine k_ret ?_; repeat with_reducible (first | refine ret_thru ?_ | refine ret_blk ?_ | refine fin ?_))
    | (with_reducible refine k_exit ?_; repeat with_reducible (first | refine thru ?_ | refine out_blk ?_ | refine pass (by decide) ?_))
    | (refine post1 ?_; simp only [GA, Nat.reduceEqDiff, ↓reduceIte])
    | (refine post2 ?_; simp only [GA, Nat.reduceEqDiff, ↓reduceIte])
    | (refine post3 ?_; simp only [GA, Nat.reduceEqDiff, ↓reduceIte])
    | (refine postc (by simp only [GA, Nat.reduceEqDiff, ↓reduceIte]; rfl) (by simp (disch := omega) only [c94r0, c94r1, EV0, EV1, EV2, EV3, EV4, EV5, EV6, EV7, EV8, VALS, plug, ite_same, decide_true, decide_false, eq_self, ↓reduceIte, reduceCtorEq, Nat.reduceAdd, Nat.reduceEqDiff, Nat.reduceLT, Nat.reduceLeDiff, Nat.reduceMul, Nat.reduceSub, Nat.reduceDiv, Int.reduceToNat, Int.reduceAdd, Int.reduceSub, Int.reduceMul, Int.reduceNeg, Int.reduceEq, Int.reduceLT, Int.reduceLE]; rfl) ?_)
    | refine post0 ?_
  all_goals refine ends_eq (b_eq (by simp))
def cmpI (x y : Int) : Int := if x < y then -1 else if y < x then 1 else 0
theorem pc83 (x y : Int) : PC Try.prog 83 [.i .i64 x, .i .i64 y] (.i .i64 (cmpI x y)) := by
  refine pc_fn fn83 (by simp only [AV.plains, AV.plain, il_plain, bl_plain, Bool.and_true, Bool.true_and, Bool.and_self]) (by simp only [AV.plains, AV.plain, il_plain, bl_plain, Bool.and_true, Bool.true_and, Bool.and_self]) (Nat.le_of_ble_eq_true rfl) ?_
  rw [initSt2]
  repeat' first
    | with_reducible refine k_seq ?_
    | with_reducible refine k_skip ?_
    | with_reducible refine k_blkS ?_
    | with_reducible refine k_blkR ?_
    | with_reducible refine k_blkC ?_
    | with_reducible refine k_blkH ?_
    | with_reducible refine k_blkB ?_
    | with_reducible refine k_blkK ?_
    | with_reducible refine k_blkE ?_
    | with_reducible refine k_reg ?_
    | with_reducible refine r_done ?_
    | with_reducible refine s_go (by simp (disch := omega) only [c83r0, c83r1, c83r2, c83r3, c83r4, c83r5, c83r6, c83r7, c83r8, c83r9, c83r10, c83r11, c83r12, c83r13, EV0, EV1, EV2, EV3, EV4, EV5, EV6, EV7, EV8, VALS, plug, ite_same, decide_true, decide_false, eq_self, ↓reduceIte, reduceCtorEq, Nat.reduceAdd, Nat.reduceEqDiff, Nat.reduceLT, Nat.reduceLeDiff, Nat.reduceMul, Nat.reduceSub, Nat.reduceDiv, Int.reduceToNat, Int.reduceAdd, Int.reduceSub, Int.reduceMul, Int.reduceNeg, Int.reduceEq, Int.reduceLT, Int.reduceLE]; with_reducible rfl) ?_
    | ((with_reducible refine chk_r ?_); refine r_callF (by simp only [CA, Nat.reduceEqDiff, ↓reduceIte]; rfl) (by exact rfl) (by simp only [CA, Nat.reduceEqDiff, ↓reduceIte]; rfl) rfl ?_)
    | ((with_reducible refine chk_r ?_); refine r_callP (by simp only [CA, Nat.reduceEqDiff, ↓reduceIte]; rfl) (by simp only [CA, Nat.reduceEqDiff, ↓reduceIte]; rfl) (by first | exact pc94 _ _) rfl ?_)
    | (with_reducible refine k_condP (by simp only [GA, Nat.reduceEqDiff, ↓reduceIte]; rfl) (by first | (simp only [BO]; rfl) | rfl) (fun ht => ?_) (fun ht => ?_) <;> try (first | exact False.elim ht | exact absurd rfl ht | exact absurd trivial ht | exact Bool.noConfusion ht))
    | (with_reducible refine k_ret ?_; repeat with_reducible (first | refine ret_thru ?_ | refine ret_blk ?_ | refine fin ?_))
    | (with_reducible refine k_exit ?_; repeat with_reducible (first | refine thru ?_ | refine out_blk ?_ | refine pass (by decide) ?_))
    | (refine post1 ?_; simp only [GA, Nat.reduceEqDiff, ↓reduceIte])
    | (refine post2 ?_; simp only [GA, Nat.reduceEqDiff, ↓reduceIte])
    | (refine post3 ?_; simp only [GA, Nat.reduceEqDiff, ↓reduceIte])
    | (refine postc (by simp only [GA, Nat.reduceEqDiff, ↓reduceIte]; rfl) (by simp (disch := omega) only [c83r0, c83r1, c83r2, c83r3, c83r4, c83r5, c83r6, c83r7, c83r8, c83r9, c83r10, c83r11, c83r12, c83r13, EV0, EV1, EV2, EV3, EV4, EV5, EV6, EV7, EV8, VALS, plug, ite_same, decide_true, decide_false, eq_self, ↓reduceIte, reduceCtorEq, Nat.reduceAdd, Nat.reduceEqDiff, Nat.reduceLT, Nat.reduceLeDiff, Nat.reduceMul, Nat.reduceSub, Nat.reduceDiv, Int.reduceToNat, Int.reduceAdd, Int.reduceSub, Int.reduceMul, Int.reduceNeg, Int.reduceEq, Int.reduceLT, Int.reduceLE]; rfl) ?_)
    | refine post0 ?_
  all_goals (refine ends_eq (i_eq ?_); unfold cmpI)
  · rw [if_pos (by assumption)]
  · rw [if_neg (by assumption), if_pos (by assumption)]
  · rw [if_neg (by assumption), if_neg (by assumption)]
/-- the first that is not 0 -/
def orI : List Int → Int
  | [] => 0
  | x :: l => if x ≠ 0 then x else orI l
theorem orI_drop {l : List Int} {k : Nat} (h : k < l.length) : orI (l.drop k) = if l.getD k 0 ≠ 0 then l.getD k 0 else orI (l.drop (k + 1)) := by
  rw [List.drop_eq_getElem_cons h]; simp [orI, h]
theorem pc82 (l : List Int) (hl : l.length ≤ 9223372036854775807) : PC Try.prog 82 [vi l] (.i .i64 (orI l)) := by
  refine pc_fn fn82 (by simp only [AV.plains, AV.plain, il_plain, bl_plain, Bool.and_true, Bool.true_and, Bool.and_self]) (by simp only [AV.plains, AV.plain, il_plain, bl_plain, Bool.and_true, Bool.true_and, Bool.and_self]) (Nat.le_of_ble_eq_true rfl) ?_
  rw [initSt1]
  repeat' first
    | with_reducible refine k_seq ?_
    | with_reducible refine k_skip ?_
    | with_reducible refine k_blkS ?_
    | with_reducible refine k_blkR ?_
    | with_reducible refine k_blkC ?_
    | with_reducible refine k_blkH ?_
    | with_reducible refine k_blkB ?_
    | with_reducible refine k_blkK ?_
    | with_reducible refine k_blkE ?_
    | with_reducible refine k_reg ?_
    | with_reducible refine r_done ?_
    | with_reducible refine s_go (by simp (disch := omega) only [c82r0, c82r1, c82r2, c82r3, c82r4, c82r5, c82r6, c82r7, c82r9, EV0, EV1, EV2, EV3, EV4, EV5, EV6, EV7, EV8, VALS, plug, ite_same, decide_true, decide_false, eq_self, ↓reduceIte, reduceCtorEq, Nat.reduceAdd, Nat.reduceEqDiff, Nat.reduceLT, Nat.reduceLeDiff, Nat.reduceMul, Nat.reduceSub, Nat.reduceDiv, Int.reduceToNat, Int.reduceAdd, Int.reduceSub, Int.reduceMul, Int.reduceNeg, Int.reduceEq, Int.reduceLT, Int.reduceLE]; with_reducible rfl) ?_
    | ((with_reducible refine chk_r ?_); refine r_callF (by simp only [CA, Nat.reduceEqDiff, ↓reduceIte]; rfl) (by exact rfl) (by simp only [CA, Nat.reduceEqDiff, ↓reduceIte]; rfl) rfl ?_)
    | (with_reducible refine k_condP (by simp only [GA, Nat.reduceEqDiff, ↓reduceIte]; rfl) (by first | (simp only [BO]; rfl) | rfl) (fun ht => ?_) (fun ht => ?_) <;> try (first | exact False.elim ht | exact absurd rfl ht | exact absurd trivial ht | exact Bool.noConfusion ht))
    | (with_reducible refine k_ret ?_; repeat with_reducible (first | refine ret_thru ?_ | refine ret_blk ?_ | refine fin ?_))
    | (with_reducible refine k_exit ?_; repeat with_reducible (first | refine thru ?_ | refine out_blk ?_ | refine pass (by decide) ?_))
    | (refine post1 ?_; simp only [GA, Nat.reduceEqDiff, ↓reduceIte])
    | (refine post2 ?_; simp only [GA, Nat.reduceEqDiff, ↓reduceIte])
    | (refine post3 ?_; simp only [GA, Nat.reduceEqDiff, ↓reduceIte])
    | (refine postc (by simp only [GA, Nat.reduceEqDiff, ↓reduceIte]; rfl) (by simp (disch := omega) only [c82r0, c82r1, c82r2, c82r3, c82r4, c82r5, c82r6, c82r7, c82r9, EV0, EV1, EV2, EV3, EV4, EV5, EV6, EV7, EV8, VALS, plug, ite_same, decide_true, decide_false, eq_self, ↓reduceIte, reduceCtorEq, Nat.reduceAdd, Nat.reduceEqDiff, Nat.reduceLT, Nat.reduceLeDiff, Nat.reduceMul, Nat.reduceSub, Nat.reduceDiv, Int.reduceToNat, Int.reduceAdd, Int.reduceSub, Int.reduceMul, Int.reduceNeg, Int.reduceEq, Int.reduceLT, Int.reduceLE]; rfl) ?_)
    | refine post0 ?_
  refine k_blk (k_loopS (X := Unit) [3, 6, 7, 8] l.length (fun k x => [(3, .i .i64 0), (6, vi l), (7, .i .i64 l.length), (8, .i .i64 (k : Int))]) (fun k x h => orI l = orI (l.drop k)) () (by simp only [Am.keep, List.map_cons, List.map_nil, GA, Nat.reduceEqDiff, ↓reduceIte]; try rfl) (by simp) ?_)
  rintro k ⟨⟩ h hk hv ok pos
  repeat' first
    | with_reducible refine k_seq ?_
    | with_reducible refine k_skip ?_
    | with_reducible refine k_blkS ?_
    | with_reducible refine k_blkR ?_
    | with_reducible refine k_blkC ?_
    | with_reducible refine k_blkH ?_
    | with_reducible refine k_blkB ?_
    | with_reducible refine k_blkK ?_
    | with_reducible refine k_blkE ?_
    | with_reducible refine k_reg ?_
    | with_reducible refine r_done ?_
    | with_reducible refine s_go (by simp (disch := omega) only [c82r0, c82r1, c82r2, c82r3, c82r4, c82r5, c82r6, c82r7, c82r9, EV0, EV1, EV2, EV3, EV4, EV5, EV6, EV7, EV8, VALS, plug, ite_same, decide_true, decide_false, eq_self, ↓reduceIte, reduceCtorEq, Nat.reduceAdd, Nat.reduceEqDiff, Nat.reduceLT, Nat.reduceLeDiff, Nat.reduceMul, Nat.reduceSub, Nat.reduceDiv, Int.reduceToNat, Int.reduceAdd, Int.reduceSub, Int.reduceMul, Int.reduceNeg, Int.reduceEq, Int.reduceLT, Int.reduceLE]; with_reducible rfl) ?_
    | ((with_reducible refine chk_r ?_); refine r_callF (by simp only [CA, Nat.reduceEqDiff, ↓reduceIte]; rfl) (by exact rfl) (by simp only [CA, Nat.reduceEqDiff, ↓reduceIte]; rfl) rfl ?_)
    | (with_reducible refine k_condP (by simp only [GA, Nat.reduceEqDiff, ↓reduceIte]; rfl) (by first | (simp only [BO]; rfl) | rfl) (fun ht => ?_) (fun ht => ?_) <;> try (first | exact False.elim ht | exact absurd rfl ht | exact absurd trivial ht | exact Bool.noConfusion ht))
    | (with_reducible refine k_ret ?_; repeat with_reducible (first | refine ret_thru ?_ | refine ret_blk ?_ | refine fin ?_))
    | (with_reducible refine k_exit ?_; repeat with_reducible (first | refine thru ?_ | refine out_blk ?_ | refine pass (by decide) ?_))
    | (refine post1 ?_; simp only [GA, Nat.reduceEqDiff, ↓reduceIte])
    | (refine post2 ?_; simp only [GA, Nat.reduceEqDiff, ↓reduceIte])
    | (refine post3 ?_; simp only [GA, Nat.reduceEqDiff, ↓reduceIte])
    | (refine postc (by simp only [GA, Nat.reduceEqDiff, ↓reduceIte]; rfl) (by simp (disch := omega) only [c82r0, c82r1, c82r2, c82r3, c82r4, c82r5, c82r6, c82r7, c82r9, EV0, EV1, EV2, EV3, EV4, EV5, EV6, EV7, EV8, VALS, plug, ite_same, decide_true, decide_false, eq_self, ↓reduceIte, reduceCtorEq, Nat.reduceAdd, Nat.reduceEqDiff, Nat.reduceLT, Nat.reduceLeDiff, Nat.reduceMul, Nat.reduceSub, Nat.reduceDiv, Int.reduceToNat, Int.reduceAdd, Int.reduceSub, Int.reduceMul, Int.reduceNeg, Int.reduceEq, Int.reduceLT, Int.reduceLE]; rfl) ?_)
    | refine post0 ?_
  · rw [hv, orI_drop (by omega), if_pos (by assumption)]; exact ends_of
  · refine ⟨by omega, (), (by simp only [Am.keep, List.map_cons, List.map_nil, GA, Nat.reduceEqDiff, ↓reduceIte]; try rfl), ?_⟩
    rw [hv, orI_drop (by omega), if_neg (by assumption)]
  · rw [hv, show k = l.length by omega, List.drop_length]; exact ends_of
/-- which temple comes first -/
def cmpT (l : List T) (i k : Nat) : Int := orI [cmpI (l.getD i T0).len (l.getD k T0).len, cmpI (l.getD i T0).num (l.getD k T0).num]
theorem pc81 (l : List T) (i k : Nat) (hi : i < l.length) (hk : k < l.length) : PC Try.prog 81 [.i .i64 i, .i .i64 k, .pv [vT l] 0] (.i .i64 (cmpT l i k)) := by
  refine pc_fn fn81 (by simp only [AV.plains, AV.plain, il_plain, bl_plain, Bool.and_true, Bool.true_and, Bool.and_self, flT_plain]) (by simp only [AV.plains, AV.plain, il_plain, bl_plain, Bool.and_true, Bool.true_and, Bool.and_self, flT_plain]) (Nat.le_of_ble_eq_true rfl) ?_
  rw [initSt3]
  have a0 := getT0 hi
  have a2 := getT2 hi
  have b0 := getT0 hk
  have b2 := getT2 hk
  have q := fun x y => (pc82 [x, y] (by simp) : PC Try.prog 82 [.vs 2 [.i .i64 x, .i .i64 y]] _)
  have hi' : (i : Int) < l.length := by omega
  have hk' : (k : Int) < l.length := by omega
  repeat' first
    | with_reducible refine k_seq ?_
    | with_reducible refine k_skip ?_
    | with_reducible refine k_blkS ?_
    | with_reducible refine k_blkR ?_
    | with_reducible refine k_blkC ?_
    | with_reducible refine k_blkH ?_
    | with_reducible refine k_blkB ?_
    | with_reducible refine k_blkK ?_
    | with_reducible refine k_blkE ?_
    | with_reducible refine k_reg ?_
    | with_reducible refine k_head (by with_unfolding_all rfl) ?_
    | with_reducible refine k_headS ?_
    | (with_reducible refine SepK.mk ?_ ?_; (refine sepQ_P ?_; simp [sepQ, sepG, AOp.late, AOp.free, AOp.xs, AOp.isAl, tokNe, AV.tok, stS_get, strip, AX.val, c81r0, c81r1, GA]; try omega))
    | with_reducible refine r_done ?_
    | with_reducible refine hr_done ?_
    | with_reducible refine s_go (by simp (disch := omega) only [a0, a2, b0, b2, hi', hk', c81r0, c81r1, EV0, EV1, EV2, EV3, EV4, EV5, EV6, EV7, EV8, VALS, plug, ite_same, decide_true, decide_false, eq_self, ↓reduceIte, reduceCtorEq, Nat.reduceAdd, Nat.reduceEqDiff, Nat.reduceLT, Nat.reduceLeDiff, Nat.reduceMul, Nat.reduceSub, Nat.reduceDiv, Int.reduceToNat, Int.reduceAdd, Int.reduceSub, Int.reduceMul, Int.reduceNeg, Int.reduceEq, Int.reduceLT, Int.reduceLE]; with_reducible rfl) ?_
    | with_reducible refine h_go (by with_unfolding_all rfl) (by simp (disch := omega) only [a0, a2, b0, b2, hi', hk', c81r0, c81r1, EV0, EV1, EV2, EV3, EV4, EV5, EV6, EV7, EV8, VALS, plug, ite_same, decide_true, decide_false, eq_self, ↓reduceIte, reduceCtorEq, Nat.reduceAdd, Nat.reduceEqDiff, Nat.reduceLT, Nat.reduceLeDiff, Nat.reduceMul, Nat.reduceSub, Nat.reduceDiv, Int.reduceToNat, Int.reduceAdd, Int.reduceSub, Int.reduceMul, Int.reduceNeg, Int.reduceEq, Int.reduceLT, Int.reduceLE]; with_reducible rfl) ?_
    | ((with_reducible refine chk_r ?_); refine r_callF (by simp only [CA, Nat.reduceEqDiff, ↓reduceIte]; rfl) (by exact rfl) (by simp only [CA, Nat.reduceEqDiff, ↓reduceIte]; rfl) rfl ?_)
    | ((with_reducible refine chk_h ?_); refine hr_callF (by simp only [CA, Nat.reduceEqDiff, ↓reduceIte]; rfl) (by exact rfl) (by simp only [CA, Nat.reduceEqDiff, ↓reduceIte]; rfl) rfl ?_)
    | ((with_reducible refine chk_r ?_); refine r_callP (by simp only [CA, Nat.reduceEqDiff, ↓reduceIte]; rfl) (by simp only [CA, Nat.reduceEqDiff, ↓reduceIte]; rfl) (by first | exact pc83 _ _ _ | ((refine PC.at (q ?x ?y) rfl ?F; case F => (refine .cons (.row (by simp (disch := omega) only [c81r0, c81r1, EV0, EV1, EV2, EV3, EV4, EV5, EV6, EV7, EV8, VALS, plug, ite_same, decide_true, decide_false, eq_self, ↓reduceIte, reduceCtorEq, Nat.reduceAdd, Nat.reduceEqDiff, Nat.reduceLT, Nat.reduceLeDiff, Nat.reduceMul, Nat.reduceSub, Nat.reduceDiv, Int.reduceToNat, Int.reduceAdd, Int.reduceSub, Int.reduceMul, Int.reduceNeg, Int.reduceEq, Int.reduceLT, Int.reduceLE] <;> rfl) rfl) .nil)); all_goals fail)) rfl ?_)
    | ((with_reducible refine chk_h ?_); refine hr_callP (by simp only [CA, Nat.reduceEqDiff, ↓reduceIte]; rfl) (by simp only [CA, Nat.reduceEqDiff, ↓reduceIte]; rfl) (by first | exact pc83 _ _ _ | ((refine PC.at (q ?x ?y) rfl ?F; case F => (refine .cons (.row (by simp (disch := omega) only [c81r0, c81r1, EV0, EV1, EV2, EV3, EV4, EV5, EV6, EV7, EV8, VALS, plug, ite_same, decide_true, decide_false, eq_self, ↓reduceIte, reduceCtorEq, Nat.reduceAdd, Nat.reduceEqDiff, Nat.reduceLT, Nat.reduceLeDiff, Nat.reduceMul, Nat.reduceSub, Nat.reduceDiv, Int.reduceToNat, Int.reduceAdd, Int.reduceSub, Int.reduceMul, Int.reduceNeg, Int.reduceEq, Int.reduceLT, Int.reduceLE] <;> rfl) rfl) .nil)); all_goals fail)) rfl ?_)
    | ((with_reducible refine chk_h ?_); refine hr_callP1 (by simp only [CA, Nat.reduceEqDiff, ↓reduceIte]; rfl) (by simp only [CA, Nat.reduceEqDiff, ↓reduceIte]; rfl) (by simp (disch := omega) only [CA, Nat.reduceEqDiff, ↓reduceIte, firstTok_nil, firstTok_sl, firstTok_sl0, firstTok_i, firstTok_b, firstTok_ag, firstTok_p, firstTok_s]; rfl) (by first | exact pc83 _ _ _ | ((refine PC.at (q ?x ?y) rfl ?F; case F => (refine .cons (.row (by simp (disch := omega) only [c81r0, c81r1, EV0, EV1, EV2, EV3, EV4, EV5, EV6, EV7, EV8, VALS, plug, ite_same, decide_true, decide_false, eq_self, ↓reduceIte, reduceCtorEq, Nat.reduceAdd, Nat.reduceEqDiff, Nat.reduceLT, Nat.reduceLeDiff, Nat.reduceMul, Nat.reduceSub, Nat.reduceDiv, Int.reduceToNat, Int.reduceAdd, Int.reduceSub, Int.reduceMul, Int.reduceNeg, Int.reduceEq, Int.reduceLT, Int.reduceLE] <;> rfl) rfl) .nil)); all_goals fail)) rfl ?_)
    | ((with_reducible refine chk_h ?_); refine hr_app (by simp (disch := omega) only [a0, a2, b0, b2, hi', hk', c81r0, c81r1, EV0, EV1, EV2, EV3, EV4, EV5, EV6, EV7, EV8, VALS, plug, ite_same, decide_true, decide_false, eq_self, ↓reduceIte, reduceCtorEq, Nat.reduceAdd, Nat.reduceEqDiff, Nat.reduceLT, Nat.reduceLeDiff, Nat.reduceMul, Nat.reduceSub, Nat.reduceDiv, Int.reduceToNat, Int.reduceAdd, Int.reduceSub, Int.reduceMul, Int.reduceNeg, Int.reduceEq, Int.reduceLT, Int.reduceLE]; with_reducible rfl) rfl ?_)
    | (with_reducible refine k_condP (by simp only [GA, Nat.reduceEqDiff, ↓reduceIte]; rfl) (by first | (simp only [BO]; rfl) | rfl) (fun ht => ?_) (fun ht => ?_) <;> try (first | exact False.elim ht | exact absurd rfl ht | exact absurd trivial ht | exact Bool.noConfusion ht))
    | (with_reducible refine k_ret ?_; repeat with_reducible (first | refine ret_thru ?_ | refine ret_blk ?_ | refine fin ?_))
    | (with_reducible refine k_exit ?_; repeat with_reducible (first | refine thru ?_ | refine out_blk ?_ | refine pass (by decide) ?_))
    | (refine post1 ?_; simp only [GA, Nat.reduceEqDiff, ↓reduceIte])
    | (refine post2 ?_; simp only [GA, Nat.reduceEqDiff, ↓reduceIte])
    | (refine post3 ?_; simp only [GA, Nat.reduceEqDiff, ↓reduceIte])
    | (refine postc (by simp only [GA, Nat.reduceEqDiff, ↓reduceIte]; rfl) (by simp (disch := omega) only [a0, a2, b0, b2, hi', hk', c81r0, c81r1, EV0, EV1, EV2, EV3, EV4, EV5, EV6, EV7, EV8, VALS, plug, ite_same, decide_true, decide_false, eq_self, ↓reduceIte, reduceCtorEq, Nat.reduceAdd, Nat.reduceEqDiff, Nat.reduceLT, Nat.reduceLeDiff, Nat.reduceMul, Nat.reduceSub, Nat.reduceDiv, Int.reduceToNat, Int.reduceAdd, Int.reduceSub, Int.reduceMul, Int.reduceNeg, Int.reduceEq, Int.reduceLT, Int.reduceLE]; rfl) ?_)
    | refine post0 ?_
  all_goals first | exact ends_of | exact ends_eq rfl
theorem pc78 (l : List T) : PC Try.prog 78 [vT l] (.fn 81 [] [.pv [vT l] 0]) := by
  refine pc_fn fn78 (by simp only [AV.plains, AV.plain, il_plain, bl_plain, Bool.and_true, Bool.true_and, Bool.and_self, flT_plain]) (by simp only [AV.plains, AV.plain, il_plain, bl_plain, Bool.and_true, Bool.true_and, Bool.and_self, flT_plain]) (Nat.le_of_ble_eq_true rfl) ?_
  rw [initSt1]
  repeat' first
    | with_reducible refine k_seq ?_
    | with_reducible refine k_skip ?_
    | with_reducible refine k_blkS ?_
    | with_reducible refine k_blkR ?_
    | with_reducible refine k_blkC ?_
    | with_reducible refine k_blkH ?_
    | with_reducible refine k_blkB ?_
    | with_reducible refine k_blkK ?_
    | with_reducible refine k_blkE ?_
    | with_reducible refine k_reg ?_
    | with_reducible refine r_done ?_
    | with_reducible refine s_go (by simp (disch := omega) only [c78r0, c78r1, EV0, EV1, EV2, EV3, EV4, EV5, EV6, EV7, EV8, VALS, plug, ite_same, decide_true, decide_false, eq_self, ↓reduceIte, reduceCtorEq, Nat.reduceAdd, Nat.reduceEqDiff, Nat.reduceLT, Nat.reduceLeDiff, Nat.reduceMul, Nat.reduceSub, Nat.reduceDiv, Int.reduceToNat, Int.reduceAdd, Int.reduceSub, Int.reduceMul, Int.reduceNeg, Int.reduceEq, Int.reduceLT, Int.reduceLE]; with_reducible rfl) ?_
    | ((with_reducible refine chk_r ?_); refine r_callF (by simp only [CA, Nat.reduceEqDiff, ↓reduceIte]; rfl) (by exact rfl) (by simp only [CA, Nat.reduceEqDiff, ↓reduceIte]; rfl) rfl ?_)
    | (with_reducible refine k_condP (by simp only [GA, Nat.reduceEqDiff, ↓reduceIte]; rfl) (by first | (simp only [BO]; rfl) | rfl) (fun ht => ?_) (fun ht => ?_) <;> try (first | exact False.elim ht | exact absurd rfl ht | exact absurd trivial ht | exact Bool.noConfusion ht))
    | (with_reducible refine k_ret ?_; repeat with_reducible (first | refine ret_thru ?_ | refine ret_blk ?_ | refine fin ?_))
    | (with_reducible refine k_exit ?_; repeat with_reducible (first | refine thru ?_ | refine out_blk ?_ | refine pass (by decide) ?_))
    | (refine post1 ?_; simp only [GA, Nat.reduceEqDiff, ↓reduceIte])
    | (refine post2 ?_; simp only [GA, Nat.reduceEqDiff, ↓reduceIte])
    | (refine post3 ?_; simp only [GA, Nat.reduceEqDiff, ↓reduceIte])
    | (refine postc (by simp only [GA, Nat.reduceEqDiff, ↓reduceIte]; rfl) (by simp (disch := omega) only [c78r0, c78r1, EV0, EV1, EV2, EV3, EV4, EV5, EV6, EV7, EV8, VALS, plug, ite_same, decide_true, decide_false, eq_self, ↓reduceIte, reduceCtorEq, Nat.reduceAdd, Nat.reduceEqDiff, Nat.reduceLT, Nat.reduceLeDiff, Nat.reduceMul, Nat.reduceSub, Nat.reduceDiv, Int.reduceToNat, Int.reduceAdd, Int.reduceSub, Int.reduceMul, Int.reduceNeg, Int.reduceEq, Int.reduceLT, Int.reduceLE]; rfl) ?_)
    | refine post0 ?_
  exact ⟨_, .step (t := 1) (cs := [vT l]) (by simp (disch := omega) only [c78r0, c78r1, EV0, EV1, EV2, EV3, EV4, EV5, EV6, EV7, EV8, VALS, plug, ite_same, decide_true, decide_false, eq_self, ↓reduceIte, reduceCtorEq, Nat.reduceAdd, Nat.reduceEqDiff, Nat.reduceLT, Nat.reduceLeDiff, Nat.reduceMul, Nat.reduceSub, Nat.reduceDiv, Int.reduceToNat, Int.reduceAdd, Int.reduceSub, Int.reduceMul, Int.reduceNeg, Int.reduceEq, Int.reduceLT, Int.reduceLE] <;> rfl) (FrzH.kill _ _ _) (.fn .nil (.cons .p .nil)) .done⟩
end Go.Proofs.Ytbhkbaapfioijaa
set_option linter.unusedVariables false
set_option linter.unusedSimpArgs false
namespace Go.Proofs.Ytbhkbaapfioijaa
open Go Go.Am Go.Proofs Go.Sort
/-! ### A side -/
def nl (l : List Nat) : List AV := l.map fun (n : Nat) => AV.i .i64 (n : Int)
theorem nl_len (l : List Nat) : (nl l).length = l.length := by simp [nl]
theorem nl_snoc (l : List Nat) (x : Nat) : nl l ++ [.i .i64 (x : Int)] = nl (l ++ [x]) := by simp [nl]
theorem nl_plain (l : List Nat) : AV.plains (nl l) = true := plains_all fun x hx => by
  simp only [nl, List.mem_map] at hx
  obtain ⟨y, _, rfl⟩ := hx; rfl
def ltT (l : List T) (i k : Nat) : Bool := decide ((l.getD i T0).len < (l.getD k T0).len ∨ ((l.getD i T0).len = (l.getD k T0).len ∧ (l.getD i T0).num < (l.getD k T0).num))
theorem cmpT_lt (l : List T) (i k : Nat) : decide (cmpT l i k < 0) = ltT l i k := by
  unfold cmpT ltT orI orI orI cmpI
  rw [Bool.eq_iff_iff]
  simp only [decide_eq_true_eq]
  repeat' split
  all_goals omega
def onside (l : List T) (s c : Int) (i : Nat) : Bool := decide ((l.getD i T0).side = s ∧ (l.getD i T0).col = c)
def sfil (l : List T) (s c : Int) (k : Nat) : List Nat := (List.range k).filter (onside l s c)
theorem sfil_succ (l : List T) (s c : Int) (k : Nat) : sfil l s c (k + 1) = if onside l s c k = true then sfil l s c k ++ [k] else sfil l s c k := by
  unfold sfil
  rw [List.range_succ, List.filter_append]
  cases h : onside l s c k <;> simp [h]
theorem sfil_len (l : List T) (s c : Int) (k : Nat) : (sfil l s c k).length ≤ k := by
  unfold sfil
  exact Nat.le_trans (List.length_filter_le _ _) (by simp)
/-- the temples of a side and a colour, the shortest first -/
def sideL (l : List T) (s c : Int) : List Nat := (sfil l s c l.length).mergeSort fun i k => !ltT l k i
abbrev Ix (n : Nat) := { i : Nat // i < n }
theorem swoT (l : List T) : SWO (ltOf fun (x y : Ix l.length) => cmpT l x.1 y.1) where
  irrefl x := by simp only [ltOf, cmpT_lt, ltT]; simp
  trans x y z h1 h2 := by
    simp only [ltOf, cmpT_lt, ltT, decide_eq_true_eq] at *; omega
  ntrans x y z h1 h2 := by
    simp only [ltOf, cmpT_lt, ltT, decide_eq_false_iff_not] at *; omega
theorem encIx (n : Nat) : Enc1 (α := Ix n) (fun x => .i .i64 (x.1 : Int)) (fun x => .int .i64 (x.1 : Int)) := ⟨fun ι x v => by simp only [VRel], fun _ => rfl, fun _ => rfl⟩
/-- slices.SortFunc at indexes of a valid list -/
theorem sortT {l : List T} (hv : VL l) {h : AH} {t a : Nat} {ns : List Nat} (hm : h.m t = some (.cells true (nl ns))) (hn : ∀ i ∈ ns, i < l.length) (hlen : ns.length < 4611686018427387904) :
    ACalls Try.prog 77 [.sl t 0 ns.length a, .fn 81 [] [.pv [vT l] 0]] h fun r h' => r = .tu [] ∧ h' = h.set t (.cells true (nl (ns.mergeSort fun i k => !ltT l k i))) := by
  by_cases h0 : l.length = 0
  · -- no indexes at all
    have : ns = [] := by
      cases ns with
      | nil => rfl
      | cons x r => have := hn x (by simp); omega
    subst this
    refine ACalls.mono (sort_none sortL 81 [.pv [vT l] 0] h t 0 a) fun r h' ⟨e1, e2⟩ => ⟨e1, ?_⟩
    rw [e2, List.mergeSort_nil, set_self hm]
  · haveI : Inhabited (Ix l.length) := ⟨⟨0, by omega⟩⟩
    let d : List (Ix l.length) := ns.attachWith (· < l.length) hn
    have hd : d.map Subtype.val = ns := List.attachWith_map_subtype_val _
    have hd2 : d.map (fun x => AV.i .i64 (x.1 : Int)) = nl ns := by
      rw [← hd]; simp only [nl, List.map_map]; rfl
    have := sort_one sortL (encIx l.length) (swoT l) (fun x y h1 h2 => ?_) (g := 81) (caps := [.pv [vT l] 0]) (by simp only [AV.plains, AV.plain, il_plain, bl_plain, Bool.and_true, Bool.true_and, Bool.and_self, flT_plain]) (fun x y => pc81 l x.1 y.1 x.2 y.2) (h := h) (t := t) (a := a) (d := d) (by rw [hd2]; exact hm) (by simpa [d] using hlen)
    · have hl : d.length = ns.length := by rw [← hd]; simp
      rw [hl] at this
      refine ACalls.mono this fun r h' ⟨e1, e2⟩ => ⟨e1, ?_⟩
      rw [e2]
      have e3 : (d.mergeSort fun x y => !(ltOf (fun (x y : Ix l.length) => cmpT l x.1 y.1)) y x).map Subtype.val = ns.mergeSort fun i k => !ltT l k i := by
        rw [← hd]
        exact List.map_mergeSort fun a _ b _ => by simp only [ltOf, cmpT_lt]
      rw [← e3]; simp only [nl, List.map_map]; rfl
    · simp only [ltOf, cmpT_lt, ltT, decide_eq_false_iff_not] at h1 h2
      by_cases e : x.1 = y.1
      · exact Subtype.ext e
      · exfalso
        rcases Nat.lt_or_gt_of_ne e with q | q
        · have := hv.2.2 x.1 y.1 q y.2; omega
        · have := hv.2.2 y.1 x.1 q x.2; omega
theorem pc74 (l : List T) (hv : VL l) (s c : Int) : PC Try.prog 74 [vT l, .i .i64 s, .i .i64 c] (.vs (sideL l s c).length (nl (sideL l s c))) := by
  refine pc_fn fn74 (by simp only [AV.plains, AV.plain, il_plain, bl_plain, Bool.and_true, Bool.true_and, Bool.and_self, flT_plain, nl_plain]) (by simp only [AV.plains, AV.plain, il_plain, bl_plain, Bool.and_true, Bool.true_and, Bool.and_self, flT_plain, nl_plain]) (Nat.le_of_ble_eq_true rfl) ?_
  rw [initSt3]
  have hl := hv.len
  have q78 := pc78 l
  repeat' first
    | with_reducible refine k_seq ?_
    | with_reducible refine k_skip ?_
    | with_reducible refine k_blkS ?_
    | with_reducible refine k_blkR ?_
    | with_reducible refine k_blkC ?_
    | with_reducible refine k_blkH ?_
    | with_reducible refine k_blkB ?_
    | with_reducible refine k_blkK ?_
    | with_reducible refine k_blkE ?_
    | with_reducible refine k_reg ?_
    | with_reducible refine r_done ?_
    | with_reducible refine s_go (by simp (disch := omega) only [c74r0, c74r1, c74r2, c74r3, c74r4, c74r5, c74r6, c74r7, c74r9, c74r10, EV0, EV1, EV2, EV3, EV4, EV5, EV6, EV7, EV8, VALS, plug, ite_same, decide_true, decide_false, eq_self, ↓reduceIte, reduceCtorEq, Nat.reduceAdd, Nat.reduceEqDiff, Nat.reduceLT, Nat.reduceLeDiff, Nat.reduceMul, Nat.reduceSub, Nat.reduceDiv, Int.reduceToNat, Int.reduceAdd, Int.reduceSub, Int.reduceMul, Int.reduceNeg, Int.reduceEq, Int.reduceLT, Int.reduceLE]; with_reducible rfl) ?_
    | ((with_reducible refine chk_r ?_); refine r_callF (by simp only [CA, Nat.reduceEqDiff, ↓reduceIte]; rfl) (by exact rfl) (by simp only [CA, Nat.reduceEqDiff, ↓reduceIte]; rfl) rfl ?_)
    | (with_reducible refine k_condP (by simp only [GA, Nat.reduceEqDiff, ↓reduceIte]; rfl) (by first | (simp only [BO]; rfl) | rfl) (fun ht => ?_) (fun ht => ?_) <;> try (first | exact False.elim ht | exact absurd rfl ht | exact absurd trivial ht | exact Bool.noConfusion ht))
    | (with_reducible refine k_ret ?_; repeat with_reducible (first | refine ret_thru ?_ | refine ret_blk ?_ | refine fin ?_))
    | (with_reducible refine k_exit ?_; repeat with_reducible (first | refine thru ?_ | refine out_blk ?_ | refine pass (by decide) ?_))
    | (refine post1 ?_; simp only [GA, Nat.reduceEqDiff, ↓reduceIte])
    | (refine post2 ?_; simp only [GA, Nat.reduceEqDiff, ↓reduceIte])
    | (refine post3 ?_; simp only [GA, Nat.reduceEqDiff, ↓reduceIte])
    | (refine postc (by simp only [GA, Nat.reduceEqDiff, ↓reduceIte]; rfl) (by simp (disch := omega) only [c74r0, c74r1, c74r2, c74r3, c74r4, c74r5, c74r6, c74r7, c74r9, c74r10, EV0, EV1, EV2, EV3, EV4, EV5, EV6, EV7, EV8, VALS, plug, ite_same, decide_true, decide_false, eq_self, ↓reduceIte, reduceCtorEq, Nat.reduceAdd, Nat.reduceEqDiff, Nat.reduceLT, Nat.reduceLeDiff, Nat.reduceMul, Nat.reduceSub, Nat.reduceDiv, Int.reduceToNat, Int.reduceAdd, Int.reduceSub, Int.reduceMul, Int.reduceNeg, Int.reduceEq, Int.reduceLT, Int.reduceLE]; rfl) ?_)
    | refine post0 ?_
  refine w_virt 1 7 rfl ?_
  refine k_blk (k_loopS (X := Nat) [0, 1, 2, 7, 10, 11, 12] l.length (fun k x => [(0, vT l), (1, .i .i64 s), (2, .i .i64 c), (7, .sl x 0 (sfil l s c k).length 1), (10, vT l), (11, .i .i64 l.length), (12, .i .i64 (k : Int))])
    (fun k x h => x ≠ 0 ∧ h.m x = some (.cells true (nl (sfil l s c k)))) _ (by simp only [Am.keep, List.map_cons, List.map_nil, GA, Nat.reduceEqDiff, ↓reduceIte]; try rfl) ⟨?_, by simp (disch := omega) only [c74r0, c74r1, c74r2, c74r3, c74r4, c74r5, c74r6, c74r7, c74r9, c74r10, EV0, EV1, EV2, EV3, EV4, EV5, EV6, EV7, EV8, VALS, plug, ite_same, decide_true, decide_false, eq_self, ↓reduceIte, reduceCtorEq, Nat.reduceAdd, Nat.reduceEqDiff, Nat.reduceLT, Nat.reduceLeDiff, Nat.reduceMul, Nat.reduceSub, Nat.reduceDiv, Int.reduceToNat, Int.reduceAdd, Int.reduceSub, Int.reduceMul, Int.reduceNeg, Int.reduceEq, Int.reduceLT, Int.reduceLE] <;> rfl⟩ ?_)
  · decide
  rintro k x h hk ⟨hx, hm⟩ ok pos
  have hx' := ok.m hm
  have hfl := sfil_len l s c k
  by_cases hlt : k < l.length
  · have rT := rdT hlt
    have hlt' : (k : Int) < l.length := by omega
    simp only [eT] at rT
    have e1 : onside l s c k = (decide ((l.getD k T0).side = s) && decide ((l.getD k T0).col = c)) := by simp [onside]
    have fs := sfil_succ l s c k
    repeat' first
      | with_reducible refine k_seq ?_
      | with_reducible refine k_skip ?_
      | with_reducible refine k_blkS ?_
      | with_reducible refine k_blkR ?_
      | with_reducible refine k_blkC ?_
      | with_reducible refine k_blkH ?_
      | with_reducible refine k_blkB ?_
      | with_reducible refine k_blkK ?_
      | with_reducible refine k_blkE ?_
      | with_reducible refine k_reg ?_
      | with_reducible refine r_done ?_
      | with_reducible refine s_go (by simp (disch := omega) only [rT, hlt', hm, hx, nl_len, nl_snoc, c74r0, c74r1, c74r2, c74r3, c74r4, c74r5, c74r6, c74r7, c74r9, c74r10, EV0, EV1, EV2, EV3, EV4, EV5, EV6, EV7, EV8, VALS, plug, ite_same, decide_true, decide_false, eq_self, ↓reduceIte, reduceCtorEq, Nat.reduceAdd, Nat.reduceEqDiff, Nat.reduceLT, Nat.reduceLeDiff, Nat.reduceMul, Nat.reduceSub, Nat.reduceDiv, Int.reduceToNat, Int.reduceAdd, Int.reduceSub, Int.reduceMul, Int.reduceNeg, Int.reduceEq, Int.reduceLT, Int.reduceLE]; with_reducible rfl) ?_
      | ((with_reducible refine chk_r ?_); refine r_callF (by simp only [CA, Nat.reduceEqDiff, ↓reduceIte]; rfl) (by exact rfl) (by simp only [CA, Nat.reduceEqDiff, ↓reduceIte]; rfl) rfl ?_)
      | (with_reducible refine k_condP (by simp only [GA, Nat.reduceEqDiff, ↓reduceIte]; rfl) (by first | (simp only [BO]; rfl) | rfl) (fun ht => ?_) (fun ht => ?_) <;> try (first | exact False.elim ht | exact absurd rfl ht | exact absurd trivial ht | exact Bool.noConfusion ht))
      | (with_reducible refine k_ret ?_; repeat with_reducible (first | refine ret_thru ?_ | refine ret_blk ?_ | refine fin ?_))
      | (with_reducible refine k_exit ?_; repeat with_reducible (first | refine thru ?_ | refine out_blk ?_ | refine pass (by decide) ?_))
      | (refine post1 ?_; simp only [GA, Nat.reduceEqDiff, ↓reduceIte])
      | (refine post2 ?_; simp only [GA, Nat.reduceEqDiff, ↓reduceIte])
      | (refine post3 ?_; simp only [GA, Nat.reduceEqDiff, ↓reduceIte])
      | (refine postc (by simp only [GA, Nat.reduceEqDiff, ↓reduceIte]; rfl) (by simp (disch := omega) only [rT, hlt', hm, hx, nl_len, nl_snoc, c74r0, c74r1, c74r2, c74r3, c74r4, c74r5, c74r6, c74r7, c74r9, c74r10, EV0, EV1, EV2, EV3, EV4, EV5, EV6, EV7, EV8, VALS, plug, ite_same, decide_true, decide_false, eq_self, ↓reduceIte, reduceCtorEq, Nat.reduceAdd, Nat.reduceEqDiff, Nat.reduceLT, Nat.reduceLeDiff, Nat.reduceMul, Nat.reduceSub, Nat.reduceDiv, Int.reduceToNat, Int.reduceAdd, Int.reduceSub, Int.reduceMul, Int.reduceNeg, Int.reduceEq, Int.reduceLT, Int.reduceLE]; rfl) ?_)
      | refine post0 ?_
    · rw [e1, if_pos (by first | assumption | (simp only [Bool.and_eq_true, Bool.or_eq_true, decide_eq_true_eq]; assumption))] at fs
      rw [fs]
      refine ⟨hlt, ?tk, ?g1, ?g2, ?g3⟩
      case g1 =>
        simp only [Am.keep, List.map_cons, List.map_nil, GA, Nat.reduceEqDiff, ↓reduceIte, List.length_append, List.length_cons, List.length_nil, Nat.zero_add]
        rfl
      case g2 => omega
      case g3 => simp (disch := omega) only [c74r0, c74r1, c74r2, c74r3, c74r4, c74r5, c74r6, c74r7, c74r9, c74r10, EV0, EV1, EV2, EV3, EV4, EV5, EV6, EV7, EV8, VALS, plug, ite_same, decide_true, decide_false, eq_self, ↓reduceIte, reduceCtorEq, Nat.reduceAdd, Nat.reduceEqDiff, Nat.reduceLT, Nat.reduceLeDiff, Nat.reduceMul, Nat.reduceSub, Nat.reduceDiv, Int.reduceToNat, Int.reduceAdd, Int.reduceSub, Int.reduceMul, Int.reduceNeg, Int.reduceEq, Int.reduceLT, Int.reduceLE] <;> rfl
    · rw [e1, if_neg (by first | assumption | (simp only [Bool.and_eq_true, Bool.or_eq_true, decide_eq_true_eq]; assumption))] at fs
      rw [fs]
      exact ⟨hlt, x, (by simp only [Am.keep, List.map_cons, List.map_nil, GA, Nat.reduceEqDiff, ↓reduceIte]; try rfl), hx, by simp (disch := omega) only [hm, c74r0, c74r1, c74r2, c74r3, c74r4, c74r5, c74r6, c74r7, c74r9, c74r10, EV0, EV1, EV2, EV3, EV4, EV5, EV6, EV7, EV8, VALS, plug, ite_same, decide_true, decide_false, eq_self, ↓reduceIte, reduceCtorEq, Nat.reduceAdd, Nat.reduceEqDiff, Nat.reduceLT, Nat.reduceLeDiff, Nat.reduceMul, Nat.reduceSub, Nat.reduceDiv, Int.reduceToNat, Int.reduceAdd, Int.reduceSub, Int.reduceMul, Int.reduceNeg, Int.reduceEq, Int.reduceLT, Int.reduceLE]⟩
  · obtain rfl : k = l.length := by omega
    have hlt' : ¬ (l.length : Int) < l.length := by omega
    have q77 := fun h hm => sortT hv (h := h) (t := x) (a := 1) (ns := sfil l s c l.length) hm (fun i hi => by simp only [sfil, List.mem_filter, List.mem_range] at hi; exact hi.1) (by omega)
    repeat' first
      | with_reducible refine k_seq ?_
      | with_reducible refine k_skip ?_
      | with_reducible refine k_blkS ?_
      | with_reducible refine k_blkR ?_
      | with_reducible refine k_blkC ?_
      | with_reducible refine k_blkH ?_
      | with_reducible refine k_blkB ?_
      | with_reducible refine k_blkK ?_
      | with_reducible refine k_blkE ?_
      | with_reducible refine k_reg ?_
      | with_reducible refine r_done ?_
      | with_reducible refine s_go (by simp (disch := omega) only [hlt', c74r0, c74r1, c74r2, c74r3, c74r4, c74r5, c74r6, c74r7, c74r9, c74r10, EV0, EV1, EV2, EV3, EV4, EV5, EV6, EV7, EV8, VALS, plug, ite_same, decide_true, decide_false, eq_self, ↓reduceIte, reduceCtorEq, Nat.reduceAdd, Nat.reduceEqDiff, Nat.reduceLT, Nat.reduceLeDiff, Nat.reduceMul, Nat.reduceSub, Nat.reduceDiv, Int.reduceToNat, Int.reduceAdd, Int.reduceSub, Int.reduceMul, Int.reduceNeg, Int.reduceEq, Int.reduceLT, Int.reduceLE]; with_reducible rfl) ?_
      | ((with_reducible refine chk_r ?_); refine r_callF (by simp only [CA, Nat.reduceEqDiff, ↓reduceIte]; rfl) (by exact rfl) (by simp only [CA, Nat.reduceEqDiff, ↓reduceIte]; rfl) rfl ?_)
      | ((with_reducible refine chk_r ?_); refine r_callP (by simp only [CA, Nat.reduceEqDiff, ↓reduceIte]; rfl) (by simp only [CA, Nat.reduceEqDiff, ↓reduceIte]; rfl) (by first | exact q78 _) rfl ?_)
      | ((with_reducible refine chk_r ?_); refine r_callX (by simp only [CA, Nat.reduceEqDiff, ↓reduceIte]; rfl) (by simp only [CA, Nat.reduceEqDiff, ↓reduceIte]; rfl) (by first | exact q77 _ (by simp (disch := omega) only [hm, c74r0, c74r1, c74r2, c74r3, c74r4, c74r5, c74r6, c74r7, c74r9, c74r10, EV0, EV1, EV2, EV3, EV4, EV5, EV6, EV7, EV8, VALS, plug, ite_same, decide_true, decide_false, eq_self, ↓reduceIte, reduceCtorEq, Nat.reduceAdd, Nat.reduceEqDiff, Nat.reduceLT, Nat.reduceLeDiff, Nat.reduceMul, Nat.reduceSub, Nat.reduceDiv, Int.reduceToNat, Int.reduceAdd, Int.reduceSub, Int.reduceMul, Int.reduceNeg, Int.reduceEq, Int.reduceLT, Int.reduceLE] <;> rfl)) rfl ?_)
      | (with_reducible refine k_condP (by simp only [GA, Nat.reduceEqDiff, ↓reduceIte]; rfl) (by first | (simp only [BO]; rfl) | rfl) (fun ht => ?_) (fun ht => ?_) <;> try (first | exact False.elim ht | exact absurd rfl ht | exact absurd trivial ht | exact Bool.noConfusion ht))
      | (with_reducible refine k_ret ?_; repeat with_reducible (first | refine ret_thru ?_ | refine ret_blk ?_ | refine fin ?_))
      | (with_reducible refine k_exit ?_; repeat with_reducible (first | refine thru ?_ | refine out_blk ?_ | refine pass (by decide) ?_))
      | (refine post1 ?_; simp only [GA, Nat.reduceEqDiff, ↓reduceIte])
      | (refine post2 ?_; simp only [GA, Nat.reduceEqDiff, ↓reduceIte])
      | (refine post3 ?_; simp only [GA, Nat.reduceEqDiff, ↓reduceIte])
      | (refine postc (by simp only [GA, Nat.reduceEqDiff, ↓reduceIte]; rfl) (by simp (disch := omega) only [hlt', c74r0, c74r1, c74r2, c74r3, c74r4, c74r5, c74r6, c74r7, c74r9, c74r10, EV0, EV1, EV2, EV3, EV4, EV5, EV6, EV7, EV8, VALS, plug, ite_same, decide_true, decide_false, eq_self, ↓reduceIte, reduceCtorEq, Nat.reduceAdd, Nat.reduceEqDiff, Nat.reduceLT, Nat.reduceLeDiff, Nat.reduceMul, Nat.reduceSub, Nat.reduceDiv, Int.reduceToNat, Int.reduceAdd, Int.reduceSub, Int.reduceMul, Int.reduceNeg, Int.reduceEq, Int.reduceLT, Int.reduceLE]; rfl) ?_)
      | refine post0 ?_
    rintro r h' ⟨rfl, rfl⟩
    repeat' first
      | with_reducible refine k_seq ?_
      | with_reducible refine k_skip ?_
      | with_reducible refine k_blkS ?_
      | with_reducible refine k_blkR ?_
      | with_reducible refine k_blkC ?_
      | with_reducible refine k_blkH ?_
      | with_reducible refine k_blkB ?_
      | with_reducible refine k_blkK ?_
      | with_reducible refine k_blkE ?_
      | with_reducible refine k_reg ?_
      | with_reducible refine r_done ?_
      | with_reducible refine s_go (by simp (disch := omega) only [c74r0, c74r1, c74r2, c74r3, c74r4, c74r5, c74r6, c74r7, c74r9, c74r10, EV0, EV1, EV2, EV3, EV4, EV5, EV6, EV7, EV8, VALS, plug, ite_same, decide_true, decide_false, eq_self, ↓reduceIte, reduceCtorEq, Nat.reduceAdd, Nat.reduceEqDiff, Nat.reduceLT, Nat.reduceLeDiff, Nat.reduceMul, Nat.reduceSub, Nat.reduceDiv, Int.reduceToNat, Int.reduceAdd, Int.reduceSub, Int.reduceMul, Int.reduceNeg, Int.reduceEq, Int.reduceLT, Int.reduceLE]; with_reducible rfl) ?_
      | ((with_reducible refine chk_r ?_); refine r_callF (by simp only [CA, Nat.reduceEqDiff, ↓reduceIte]; rfl) (by exact rfl) (by simp only [CA, Nat.reduceEqDiff, ↓reduceIte]; rfl) rfl ?_)
      | (with_reducible refine k_condP (by simp only [GA, Nat.reduceEqDiff, ↓reduceIte]; rfl) (by first | (simp only [BO]; rfl) | rfl) (fun ht => ?_) (fun ht => ?_) <;> try (first | exact False.elim ht | exact absurd rfl ht | exact absurd trivial ht | exact Bool.noConfusion ht))
      | (with_reducible refine k_ret ?_; repeat with_reducible (first | refine ret_thru ?_ | refine ret_blk ?_ | refine fin ?_))
      | (with_reducible refine k_exit ?_; repeat with_reducible (first | refine thru ?_ | refine out_blk ?_ | refine pass (by decide) ?_))
      | (refine post1 ?_; simp only [GA, Nat.reduceEqDiff, ↓reduceIte])
      | (refine post2 ?_; simp only [GA, Nat.reduceEqDiff, ↓reduceIte])
      | (refine post3 ?_; simp only [GA, Nat.reduceEqDiff, ↓reduceIte])
      | (refine postc (by simp only [GA, Nat.reduceEqDiff, ↓reduceIte]; rfl) (by simp (disch := omega) only [c74r0, c74r1, c74r2, c74r3, c74r4, c74r5, c74r6, c74r7, c74r9, c74r10, EV0, EV1, EV2, EV3, EV4, EV5, EV6, EV7, EV8, VALS, plug, ite_same, decide_true, decide_false, eq_self, ↓reduceIte, reduceCtorEq, Nat.reduceAdd, Nat.reduceEqDiff, Nat.reduceLT, Nat.reduceLeDiff, Nat.reduceMul, Nat.reduceSub, Nat.reduceDiv, Int.reduceToNat, Int.reduceAdd, Int.reduceSub, Int.reduceMul, Int.reduceNeg, Int.reduceEq, Int.reduceLT, Int.reduceLE]; rfl) ?_)
      | refine post0 ?_
    have hms : (sideL l s c).length = (sfil l s c l.length).length := List.length_mergeSort _
    rw [hms]
    exact ends_sl (k := 1) (by simp (disch := omega) only [c74r0, c74r1, c74r2, c74r3, c74r4, c74r5, c74r6, c74r7, c74r9, c74r10, EV0, EV1, EV2, EV3, EV4, EV5, EV6, EV7, EV8, VALS, plug, ite_same, decide_true, decide_false, eq_self, ↓reduceIte, reduceCtorEq, Nat.reduceAdd, Nat.reduceEqDiff, Nat.reduceLT, Nat.reduceLeDiff, Nat.reduceMul, Nat.reduceSub, Nat.reduceDiv, Int.reduceToNat, Int.reduceAdd, Int.reduceSub, Int.reduceMul, Int.reduceNeg, Int.reduceEq, Int.reduceLT, Int.reduceLE] <;> rfl) (by rw [nl_len, hms]; omega)
end Go.Proofs.Ytbhkbaapfioijaa
