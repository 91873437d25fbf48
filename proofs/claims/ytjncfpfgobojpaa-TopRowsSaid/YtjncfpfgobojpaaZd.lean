/- What the proof of the law needs: the abstract machine, the functions as it reads them, their contracts, part 4. -/
import Derived.Test.YtjncfpfgobojpaaZc
import Derived.Test.YtjncfpfgobojpaaProg
import Derived.KernelRfl
namespace Go.Proofs.Ytjncfpfgobojpaa
open Go Go.Am Go.Proofs
def c3r0 : List AOper := [
 ⟨(some 2), none, .mv (.c (.b false))⟩]
def c3r1 : List AOper := [
 ⟨(some 11), none, .mv (.t 0)⟩,
 ⟨(some 12), none, .call (.c (.fn 16 [] [])) [(.t 11), (.c (.i .i64 50))]⟩]
def c3r2 : List AOper := [
 ⟨(some 13), none, .call (.c (.fn 17 [] [])) []⟩,
 ⟨(some 2), none, .mv (.t 13)⟩]
def c3r3 : List AOper := [
 ⟨(some 15), none, .mv (.t 0)⟩,
 ⟨(some 16), none, .call (.c (.fn 18 [] [])) [(.t 15)]⟩,
 ⟨(some 14), none, .mv (.t 16)⟩,
 ⟨(some 17), none, .ext (.t 14) 0⟩,
 ⟨(some 18), none, .ext (.t 14) 1⟩,
 ⟨(some 3), none, .mv (.t 17)⟩,
 ⟨(some 4), none, .mv (.t 18)⟩]
def c3r4 : List AOper := [
 ⟨(some 20), none, .mv (.t 0)⟩,
 ⟨(some 21), none, .call (.c (.fn 19 [] [])) [(.t 20)]⟩,
 ⟨(some 19), none, .mv (.t 21)⟩,
 ⟨(some 22), none, .ext (.t 19) 0⟩,
 ⟨(some 23), none, .ext (.t 19) 1⟩,
 ⟨(some 5), none, .mv (.t 22)⟩,
 ⟨(some 6), none, .mv (.t 23)⟩]
def c3r5 : List AOper := [
 ⟨(some 25), none, .mv (.t 0)⟩,
 ⟨(some 26), none, .call (.c (.fn 20 [] [])) [(.t 25)]⟩,
 ⟨(some 24), none, .mv (.t 26)⟩,
 ⟨(some 27), none, .ext (.t 24) 0⟩,
 ⟨(some 28), none, .ext (.t 24) 1⟩,
 ⟨(some 7), none, .mv (.t 27)⟩,
 ⟨(some 8), none, .mv (.t 28)⟩]
def c3r6 : List AOper := [
 ⟨(some 30), none, .mv (.t 0)⟩,
 ⟨(some 31), none, .call (.c (.fn 21 [] [])) [(.t 30)]⟩,
 ⟨(some 29), none, .mv (.t 31)⟩,
 ⟨(some 32), none, .ext (.t 29) 0⟩,
 ⟨(some 33), none, .ext (.t 29) 1⟩,
 ⟨(some 9), none, .mv (.t 32)⟩,
 ⟨(some 10), none, .mv (.t 33)⟩]
def c3r7 : List AOper := [
 ⟨(some 34), none, .mv (.t 3)⟩,
 ⟨(some 35), none, .mv (.t 5)⟩,
 ⟨(some 36), none, .call (.c (.fn 22 [] [])) [(.t 34), (.t 35)]⟩,
 ⟨(some 37), none, .mv (.t 36)⟩,
 ⟨(some 38), (some (37, true)), .mv (.t 4)⟩,
 ⟨(some 39), (some (37, true)), .mv (.t 6)⟩,
 ⟨(some 40), (some (37, true)), .bin false .eql (.t 38) (.t 39)⟩,
 ⟨(some 41), none, .pick (.t 37) (.t 40) (.c (.b false))⟩,
 ⟨(some 42), none, .mv (.t 41)⟩,
 ⟨(some 43), (some (42, true)), .mv (.t 7)⟩,
 ⟨(some 44), (some (42, true)), .mv (.t 9)⟩,
 ⟨(some 45), (some (42, true)), .bin false .eql (.t 43) (.t 44)⟩,
 ⟨(some 46), none, .pick (.t 42) (.t 45) (.c (.b false))⟩,
 ⟨(some 47), none, .mv (.t 46)⟩,
 ⟨(some 48), (some (47, true)), .mv (.t 8)⟩,
 ⟨(some 49), (some (47, true)), .mv (.t 10)⟩,
 ⟨(some 50), (some (47, true)), .bin false .eql (.t 48) (.t 49)⟩,
 ⟨(some 51), none, .pick (.t 47) (.t 50) (.c (.b false))⟩,
 ⟨(some 52), none, .mv (.t 51)⟩,
 ⟨(some 53), (some (52, true)), .call (.c (.fn 17 [] [])) []⟩,
 ⟨(some 54), none, .pick (.t 52) (.t 53) (.c (.b false))⟩,
 ⟨(some 2), none, .mv (.t 54)⟩]
abbrev c3 : AC := (.seq (.reg c3r0) (.seq (.seq (.reg c3r1) (.cond (.t 12) (.seq (.reg c3r2) .ret) .skip)) (.seq (.reg c3r3) (.seq (.reg c3r4) (.seq (.reg c3r5) (.seq (.reg c3r6) (.seq (.reg c3r7) .ret)))))))
def q3 : List ARes := [.t 2]
def c4r0 : List AOper := [
 ⟨(some 4), none, .box (.t 1)⟩,
 ⟨(some 6), none, .mv (.c (.b false))⟩]
def c4r1 : List AOper := [
 ⟨(some 16), none, .mv (.t 0)⟩,
 ⟨(some 17), none, .call (.c (.fn 16 [] [])) [(.t 16), (.c (.i .i64 39))]⟩,
 ⟨(some 18), none, .mv (.t 17)⟩,
 ⟨(some 19), (some (18, false)), .mv (.t 0)⟩,
 ⟨(some 20), (some (18, false)), .call (.c (.fn 23 [] [])) [(.t 19)]⟩,
 ⟨(some 21), (some (18, false)), .not (.t 20)⟩,
 ⟨(some 22), none, .pick (.t 18) (.c (.b true)) (.t 21)⟩]
def c4r2 : List AOper := [
 ⟨(some 23), none, .call (.c (.fn 17 [] [])) []⟩,
 ⟨(some 6), none, .mv (.t 23)⟩]
def c4r3 : List AOper := [
 ⟨(some 25), none, .mv (.t 0)⟩,
 ⟨(some 26), none, .call (.c (.fn 20 [] [])) [(.t 25)]⟩,
 ⟨(some 24), none, .mv (.t 26)⟩,
 ⟨(some 27), none, .ext (.t 24) 0⟩,
 ⟨(some 28), none, .ext (.t 24) 1⟩,
 ⟨(some 7), none, .mv (.t 27)⟩,
 ⟨(some 8), none, .mv (.t 28)⟩]
def c4r4 : List AOper := [
 ⟨(some 9), none, .mv (.c (.sl 0 0 0 0))⟩]
def c4r5 : List AOper := [
 ⟨(some 10), none, .mv (.c (.b false))⟩]
def c4r6 : List AOper := [
 ⟨(some 11), none, .mv (.c (.i .i64 0))⟩]
def c4r7 : List AOper := [
 ⟨(some 29), none, .mv (.t 11)⟩,
 ⟨(some 30), none, .mv (.t 0)⟩,
 ⟨(some 31), none, .len (.t 30)⟩,
 ⟨(some 32), none, .bin false .lss (.t 29) (.t 31)⟩]
def c4r8 : List AOper := [
 ⟨(some 35), none, .mv (.t 9)⟩,
 ⟨(some 36), none, .mv (.t 0)⟩,
 ⟨(some 37), none, .mv (.t 0)⟩,
 ⟨(some 38), none, .len (.t 37)⟩,
 ⟨(some 39), none, .bin false .sub (.t 38) (.c (.i .i64 1))⟩,
 ⟨(some 40), none, .mv (.t 11)⟩,
 ⟨(some 41), none, .mv (.t 2)⟩,
 ⟨(some 42), none, .conv .i64 (.t 41)⟩,
 ⟨(some 43), none, .bin false .add (.t 40) (.t 42)⟩,
 ⟨(some 44), none, .mv (.t 0)⟩,
 ⟨(some 45), none, .len (.t 44)⟩,
 ⟨(some 46), none, .bin false .rem (.t 43) (.t 45)⟩,
 ⟨(some 47), none, .bin false .sub (.t 39) (.t 46)⟩,
 ⟨(some 48), none, .ia 7 (.t 36) (.t 47)⟩,
 ⟨(some 49), none, .ld (some 7) (.t 48)⟩,
 ⟨(some 50), none, .bsl 7 [.i .i64 0, .i .i64 0, .i .i64 0, .i .i64 0, .i .i64 0, .i .i64 0, .i .i64 0] [(0, 7, (.t 49))]⟩,
 ⟨(some 51), none, .app 7 56 (.t 35) (.t 50)⟩,
 ⟨(some 9), none, .mv (.t 51)⟩]
def c4r9 : List AOper := [
 ⟨(some 52), none, .mv (.t 10)⟩,
 ⟨(some 53), none, .mv (.t 52)⟩,
 ⟨(some 54), (some (53, false)), .mv (.t 0)⟩,
 ⟨(some 55), (some (53, false)), .mv (.t 11)⟩,
 ⟨(some 56), (some (53, false)), .ia 7 (.t 54) (.t 55)⟩,
 ⟨(some 57), (some (53, false)), .fa (.t 56) 1⟩,
 ⟨(some 58), (some (53, false)), .ld none (.t 57)⟩,
 ⟨(some 59), (some (53, false)), .fa (.t 4) 1⟩,
 ⟨(some 60), (some (53, false)), .ld none (.t 59)⟩,
 ⟨(some 61), (some (53, false)), .bin false .eql (.t 58) (.t 60)⟩,
 ⟨(some 62), (some (53, false)), .mv (.t 61)⟩,
 ⟨(some 63), (some (62, true)), .mv (.t 0)⟩,
 ⟨(some 64), (some (62, true)), .mv (.t 11)⟩,
 ⟨(some 65), (some (62, true)), .ia 7 (.t 63) (.t 64)⟩,
 ⟨(some 66), (some (62, true)), .fa (.t 65) 2⟩,
 ⟨(some 67), (some (62, true)), .ld none (.t 66)⟩,
 ⟨(some 68), (some (62, true)), .fa (.t 4) 2⟩,
 ⟨(some 69), (some (62, true)), .ld none (.t 68)⟩,
 ⟨(some 70), (some (62, true)), .bin false .eql (.t 67) (.t 69)⟩,
 ⟨(some 71), (some (53, false)), .pick (.t 62) (.t 70) (.c (.b false))⟩,
 ⟨(some 72), none, .pick (.t 53) (.c (.b true)) (.t 71)⟩,
 ⟨(some 10), none, .mv (.t 72)⟩]
def c4r10 : List AOper := [
 ⟨(some 33), none, .mv (.t 11)⟩,
 ⟨(some 34), none, .bin false .add (.t 33) (.c (.i .i64 1))⟩,
 ⟨(some 11), none, .mv (.t 34)⟩]
abbrev c4b11 : AC := (.seq (.seq (.reg c4r7) (.cond (.t 32) .skip (.exit 0))) (.seq (.blk 1 (.seq (.reg c4r8) (.head 18 c4r9))) (.reg c4r10)))
def c4r12 : List AOper := [
 ⟨(some 74), none, .mv (.t 9)⟩,
 ⟨(some 75), none, .call (.c (.fn 20 [] [])) [(.t 74)]⟩,
 ⟨(some 73), none, .mv (.t 75)⟩,
 ⟨(some 76), none, .ext (.t 73) 0⟩,
 ⟨(some 77), none, .ext (.t 73) 1⟩,
 ⟨(some 12), none, .mv (.t 76)⟩,
 ⟨(some 13), none, .mv (.t 77)⟩]
def c4r13 : List AOper := [
 ⟨(some 78), none, .mv (.t 8)⟩,
 ⟨(some 79), none, .bin false .neq (.t 78) (.c (.i .i64 0))⟩,
 ⟨(some 80), none, .mv (.t 79)⟩,
 ⟨(some 81), (some (80, false)), .mv (.t 13)⟩,
 ⟨(some 82), (some (80, false)), .bin false .neq (.t 81) (.c (.i .i64 0))⟩,
 ⟨(some 83), none, .pick (.t 80) (.c (.b true)) (.t 82)⟩,
 ⟨(some 84), none, .mv (.t 83)⟩,
 ⟨(some 85), (some (84, false)), .mv (.t 7)⟩,
 ⟨(some 86), (some (84, false)), .mv (.t 12)⟩,
 ⟨(some 87), (some (84, false)), .bin false .neq (.t 85) (.t 86)⟩,
 ⟨(some 88), none, .pick (.t 84) (.c (.b true)) (.t 87)⟩]
def c4r14 : List AOper := [
 ⟨(some 6), none, .mv (.c (.b false))⟩]
def c4r15 : List AOper := [
 ⟨(some 89), none, .mv (.t 9)⟩,
 ⟨(some 90), none, .ld (some 7) (.t 4)⟩,
 ⟨(some 91), none, .bsl 7 [.i .i64 0, .i .i64 0, .i .i64 0, .i .i64 0, .i .i64 0, .i .i64 0, .i .i64 0] [(0, 7, (.t 90))]⟩,
 ⟨(some 92), none, .app 7 56 (.t 89) (.t 91)⟩,
 ⟨(some 9), none, .mv (.t 92)⟩]
def c4r16 : List AOper := [
 ⟨(some 94), none, .mv (.t 9)⟩,
 ⟨(some 95), none, .call (.c (.fn 20 [] [])) [(.t 94)]⟩,
 ⟨(some 93), none, .mv (.t 95)⟩,
 ⟨(some 96), none, .ext (.t 93) 0⟩,
 ⟨(some 97), none, .ext (.t 93) 1⟩,
 ⟨(some 14), none, .mv (.t 96)⟩,
 ⟨(some 15), none, .mv (.t 97)⟩]
def c4r17 : List AOper := [
 ⟨(some 98), none, .mv (.t 9)⟩,
 ⟨(some 99), none, .call (.c (.fn 23 [] [])) [(.t 98)]⟩,
 ⟨(some 100), none, .not (.t 99)⟩]
def c4r18 : List AOper := [
 ⟨(some 101), none, .mv (.t 15)⟩,
 ⟨(some 102), none, .bin false .eql (.t 101) (.c (.i .i64 60))⟩,
 ⟨(some 103), none, .mv (.t 102)⟩,
 ⟨(some 104), (some (103, true)), .mv (.t 14)⟩,
 ⟨(some 105), (some (103, true)), .bin false .eql (.t 104) (.c (.i .i64 0))⟩,
 ⟨(some 106), none, .pick (.t 103) (.t 105) (.c (.b false))⟩,
 ⟨(some 107), none, .mv (.t 106)⟩,
 ⟨(some 108), (some (107, true)), .call (.c (.fn 17 [] [])) []⟩,
 ⟨(some 109), none, .pick (.t 107) (.t 108) (.c (.b false))⟩,
 ⟨(some 6), none, .mv (.t 109)⟩]
def c4r19 : List AOper := [
 ⟨(some 110), none, .mv (.t 15)⟩,
 ⟨(some 111), none, .bin false .eql (.t 110) (.c (.i .i64 0))⟩,
 ⟨(some 112), none, .mv (.t 111)⟩,
 ⟨(some 113), (some (112, true)), .mv (.t 14)⟩,
 ⟨(some 114), (some (112, true)), .mv (.t 7)⟩,
 ⟨(some 115), (some (112, true)), .bin false .eql (.t 113) (.t 114)⟩,
 ⟨(some 116), (some (112, true)), .mv (.t 115)⟩,
 ⟨(some 117), (some (116, false)), .mv (.t 14)⟩,
 ⟨(some 118), (some (116, false)), .mv (.t 7)⟩,
 ⟨(some 119), (some (116, false)), .bin false .add (.t 118) (.c (.i .i64 1))⟩,
 ⟨(some 120), (some (116, false)), .bin false .eql (.t 117) (.t 119)⟩,
 ⟨(some 121), (some (116, false)), .mv (.t 120)⟩,
 ⟨(some 122), (some (121, true)), .mv (.t 10)⟩,
 ⟨(some 123), (some (121, true)), .not (.t 122)⟩,
 ⟨(some 124), (some (116, false)), .pick (.t 121) (.t 123) (.c (.b false))⟩,
 ⟨(some 125), (some (112, true)), .pick (.t 116) (.c (.b true)) (.t 124)⟩,
 ⟨(some 126), none, .pick (.t 112) (.t 125) (.c (.b false))⟩,
 ⟨(some 127), none, .mv (.t 126)⟩,
 ⟨(some 128), (some (127, true)), .call (.c (.fn 17 [] [])) []⟩,
 ⟨(some 129), none, .pick (.t 127) (.t 128) (.c (.b false))⟩,
 ⟨(some 6), none, .mv (.t 129)⟩]
abbrev c4 : AC := (.seq (.reg c4r0) (.seq (.seq (.reg c4r1) (.cond (.t 22) (.seq (.reg c4r2) .ret) .skip)) (.seq (.reg c4r3) (.seq (.reg c4r4) (.seq (.reg c4r5) (.seq (.seq (.reg c4r6) (.blk 0 (.loop c4b11))) (.seq (.reg c4r12) (.seq (.seq (.reg c4r13) (.cond (.t 88) (.seq (.reg c4r14) .ret) .skip)) (.seq (.reg c4r15) (.seq (.reg c4r16) (.seq (.seq (.reg c4r17) (.cond (.t 100) (.seq (.reg c4r18) .ret) .skip)) (.seq (.reg c4r19) .ret))))))))))))
def q4 : List ARes := [.t 6]
def c5r0 : List AOper := [
 ⟨(some 4), none, .box (.t 1)⟩,
 ⟨(some 5), none, .box (.t 2)⟩,
 ⟨(some 6), none, .mv (.c (.b false))⟩]
def c5r1 : List AOper := [
 ⟨(some 11), none, .mv (.t 0)⟩,
 ⟨(some 12), none, .call (.c (.fn 16 [] [])) [(.t 11), (.c (.i .i64 50))]⟩]
def c5r2 : List AOper := [
 ⟨(some 13), none, .call (.c (.fn 17 [] [])) []⟩,
 ⟨(some 6), none, .mv (.t 13)⟩]
def c5r3 : List AOper := [
 ⟨(some 15), none, .ld (some 7) (.t 4)⟩,
 ⟨(some 16), none, .ld (some 7) (.t 5)⟩,
 ⟨(some 17), none, .call (.c (.fn 24 [] [])) [(.t 15), (.t 16)]⟩,
 ⟨(some 14), none, .mv (.t 17)⟩,
 ⟨(some 18), none, .ext (.t 14) 0⟩,
 ⟨(some 19), none, .ext (.t 14) 1⟩,
 ⟨(some 7), none, .mv (.t 18)⟩,
 ⟨(some 8), none, .mv (.t 19)⟩]
def c5r4 : List AOper := [
 ⟨(some 21), none, .ld (some 7) (.t 4)⟩,
 ⟨(some 22), none, .ld (some 7) (.t 5)⟩,
 ⟨(some 23), none, .call (.c (.fn 25 [] [])) [(.t 21), (.t 22)]⟩,
 ⟨(some 20), none, .mv (.t 23)⟩,
 ⟨(some 24), none, .ext (.t 20) 0⟩,
 ⟨(some 25), none, .ext (.t 20) 1⟩,
 ⟨(some 9), none, .mv (.t 24)⟩,
 ⟨(some 10), none, .mv (.t 25)⟩]
def c5r5 : List AOper := [
 ⟨(some 26), none, .mv (.t 0)⟩,
 ⟨(some 27), none, .call (.c (.fn 26 [] [])) [(.t 26)]⟩,
 ⟨(some 28), none, .mv (.t 0)⟩,
 ⟨(some 29), none, .call (.c (.fn 23 [] [])) [(.t 28)]⟩,
 ⟨(some 30), none, .bin true .eql (.t 27) (.t 29)⟩,
 ⟨(some 31), none, .mv (.t 30)⟩,
 ⟨(some 32), (some (31, true)), .mv (.t 7)⟩,
 ⟨(some 33), (some (31, true)), .mv (.t 9)⟩,
 ⟨(some 34), (some (31, true)), .bin true .eql (.t 32) (.t 33)⟩,
 ⟨(some 35), none, .pick (.t 31) (.t 34) (.c (.b false))⟩,
 ⟨(some 36), none, .mv (.t 35)⟩,
 ⟨(some 37), (some (36, true)), .mv (.t 8)⟩,
 ⟨(some 38), (some (36, true)), .mv (.t 10)⟩,
 ⟨(some 39), (some (36, true)), .bin false .eql (.t 37) (.t 38)⟩,
 ⟨(some 40), none, .pick (.t 36) (.t 39) (.c (.b false))⟩,
 ⟨(some 41), none, .mv (.t 40)⟩,
 ⟨(some 42), (some (41, true)), .call (.c (.fn 17 [] [])) []⟩,
 ⟨(some 43), none, .pick (.t 41) (.t 42) (.c (.b false))⟩,
 ⟨(some 6), none, .mv (.t 43)⟩]
abbrev c5 : AC := (.seq (.reg c5r0) (.seq (.seq (.reg c5r1) (.cond (.t 12) (.seq (.reg c5r2) .ret) .skip)) (.seq (.reg c5r3) (.seq (.reg c5r4) (.seq (.reg c5r5) .ret)))))
def q5 : List ARes := [.t 6]
def c6r0 : List AOper := [
 ⟨(some 6), none, .mv (.c (.b false))⟩]
def c6r1 : List AOper := [
 ⟨(some 13), none, .mv (.t 0)⟩,
 ⟨(some 14), none, .call (.c (.fn 16 [] [])) [(.t 13), (.c (.i .i64 50))]⟩]
def c6r2 : List AOper := [
 ⟨(some 15), none, .call (.c (.fn 17 [] [])) []⟩,
 ⟨(some 6), none, .mv (.t 15)⟩]
def c6r3 : List AOper := [
 ⟨(some 17), none, .mv (.t 0)⟩,
 ⟨(some 18), none, .mv (.t 1)⟩,
 ⟨(some 19), none, .mv (.t 2)⟩,
 ⟨(some 20), none, .call (.c (.fn 27 [] [])) [(.t 17), (.t 18), (.t 19)]⟩,
 ⟨(some 16), none, .mv (.t 20)⟩,
 ⟨(some 21), none, .ext (.t 16) 0⟩,
 ⟨(some 22), none, .ext (.t 16) 1⟩,
 ⟨(some 7), none, .mv (.t 21)⟩,
 ⟨(some 8), none, .mv (.t 22)⟩]
def c6r4 : List AOper := [
 ⟨(some 24), none, .mv (.t 0)⟩,
 ⟨(some 25), none, .mv (.t 1)⟩,
 ⟨(some 26), none, .mv (.t 2)⟩,
 ⟨(some 27), none, .call (.c (.fn 28 [] [])) [(.t 24), (.t 25), (.t 26)]⟩,
 ⟨(some 23), none, .mv (.t 27)⟩,
 ⟨(some 28), none, .ext (.t 23) 0⟩,
 ⟨(some 29), none, .ext (.t 23) 1⟩,
 ⟨(some 9), none, .mv (.t 28)⟩,
 ⟨(some 10), none, .mv (.t 29)⟩]
def c6r5 : List AOper := [
 ⟨(some 30), none, .mv (.t 7)⟩,
 ⟨(some 31), none, .mv (.t 9)⟩,
 ⟨(some 32), none, .bin false .neq (.t 30) (.t 31)⟩,
 ⟨(some 33), none, .mv (.t 32)⟩,
 ⟨(some 34), (some (33, false)), .mv (.t 8)⟩,
 ⟨(some 35), (some (33, false)), .mv (.t 10)⟩,
 ⟨(some 36), (some (33, false)), .bin false .neq (.t 34) (.t 35)⟩,
 ⟨(some 37), none, .pick (.t 33) (.c (.b true)) (.t 36)⟩,
 ⟨(some 38), none, .mv (.t 37)⟩,
 ⟨(some 39), (some (38, false)), .call (.c (.fn 17 [] [])) []⟩,
 ⟨(some 40), (some (38, false)), .not (.t 39)⟩,
 ⟨(some 41), none, .pick (.t 38) (.c (.b true)) (.t 40)⟩]
def c6r6 : List AOper := [
 ⟨(some 6), none, .mv (.c (.b false))⟩]
def c6r7 : List AOper := [
 ⟨(some 42), none, .mv (.t 8)⟩,
 ⟨(some 43), none, .bin false .neq (.t 42) (.c (.i .i64 0))⟩,
 ⟨(some 44), none, .mv (.t 43)⟩,
 ⟨(some 45), (some (44, false)), .mv (.t 1)⟩,
 ⟨(some 46), (some (44, false)), .bin false .eql (.t 45) (.c (.i .i64 8))⟩,
 ⟨(some 47), none, .pick (.t 44) (.c (.b true)) (.t 46)⟩]
def c6r8 : List AOper := [
 ⟨(some 6), none, .mv (.c (.b true))⟩]
def c6r9 : List AOper := [
 ⟨(some 49), none, .mv (.t 0)⟩,
 ⟨(some 50), none, .mv (.t 1)⟩,
 ⟨(some 51), none, .bin false .add (.t 50) (.c (.i .i64 1))⟩,
 ⟨(some 52), none, .mv (.t 2)⟩,
 ⟨(some 53), none, .call (.c (.fn 27 [] [])) [(.t 49), (.t 51), (.t 52)]⟩,
 ⟨(some 48), none, .mv (.t 53)⟩,
 ⟨(some 54), none, .ext (.t 48) 0⟩,
 ⟨(some 55), none, .ext (.t 48) 1⟩,
 ⟨(some 11), none, .mv (.t 54)⟩,
 ⟨(some 12), none, .mv (.t 55)⟩]
def c6r10 : List AOper := [
 ⟨(some 56), none, .mv (.t 12)⟩,
 ⟨(some 57), none, .bin false .eql (.t 56) (.c (.i .i64 0))⟩,
 ⟨(some 58), none, .mv (.t 57)⟩,
 ⟨(some 59), (some (58, true)), .mv (.t 11)⟩,
 ⟨(some 60), (some (58, true)), .mv (.t 7)⟩,
 ⟨(some 61), (some (58, true)), .bin false .leq (.t 59) (.t 60)⟩,
 ⟨(some 62), none, .pick (.t 58) (.t 61) (.c (.b false))⟩,
 ⟨(some 6), none, .mv (.t 62)⟩]
abbrev c6 : AC := (.seq (.reg c6r0) (.seq (.seq (.reg c6r1) (.cond (.t 14) (.seq (.reg c6r2) .ret) .skip)) (.seq (.reg c6r3) (.seq (.reg c6r4) (.seq (.seq (.reg c6r5) (.cond (.t 41) (.seq (.reg c6r6) .ret) .skip)) (.seq (.seq (.reg c6r7) (.cond (.t 47) (.seq (.reg c6r8) .ret) .skip)) (.seq (.reg c6r9) (.seq (.reg c6r10) .ret))))))))
def q6 : List ARes := [.t 6]
def c7r0 : List AOper := [
 ⟨(some 4), none, .box (.t 1)⟩,
 ⟨(some 5), none, .box (.t 2)⟩,
 ⟨(some 6), none, .mv (.c (.b false))⟩]
def c7r1 : List AOper := [
 ⟨(some 13), none, .iap 2 1 (.t 5) (.c (.i .i64 0))⟩,
 ⟨(some 14), none, .ld none (.t 13)⟩,
 ⟨(some 15), none, .iap 2 1 (.t 5) (.c (.i .i64 1))⟩,
 ⟨(some 16), none, .ld none (.t 15)⟩,
 ⟨(some 7), none, .mv (.t 14)⟩,
 ⟨(some 8), none, .mv (.t 16)⟩]
def c7r2 : List AOper := [
 ⟨(some 17), none, .mv (.t 0)⟩,
 ⟨(some 18), none, .call (.c (.fn 16 [] [])) [(.t 17), (.c (.i .i64 50))]⟩]
def c7r3 : List AOper := [
 ⟨(some 19), none, .call (.c (.fn 17 [] [])) []⟩,
 ⟨(some 6), none, .mv (.t 19)⟩]
def c7r4 : List AOper := [
 ⟨(some 21), none, .mv (.t 0)⟩,
 ⟨(some 22), none, .ld (some 4) (.t 4)⟩,
 ⟨(some 23), none, .mv (.t 7)⟩,
 ⟨(some 24), none, .mv (.t 8)⟩,
 ⟨(some 25), none, .call (.c (.fn 29 [] [])) [(.t 21), (.t 22), (.t 23), (.t 24)]⟩,
 ⟨(some 20), none, .mv (.t 25)⟩,
 ⟨(some 26), none, .ext (.t 20) 0⟩,
 ⟨(some 27), none, .ext (.t 20) 1⟩,
 ⟨(some 9), none, .mv (.t 26)⟩,
 ⟨(some 10), none, .mv (.t 27)⟩]
def c7r5 : List AOper := [
 ⟨(some 29), none, .mv (.t 0)⟩,
 ⟨(some 30), none, .ld (some 4) (.t 4)⟩,
 ⟨(some 31), none, .mv (.t 7)⟩,
 ⟨(some 32), none, .mv (.t 8)⟩,
 ⟨(some 33), none, .call (.c (.fn 30 [] [])) [(.t 29), (.t 30), (.t 31), (.t 32)]⟩,
 ⟨(some 28), none, .mv (.t 33)⟩,
 ⟨(some 34), none, .ext (.t 28) 0⟩,
 ⟨(some 35), none, .ext (.t 28) 1⟩,
 ⟨(some 11), none, .mv (.t 34)⟩,
 ⟨(some 12), none, .mv (.t 35)⟩]
def c7r6 : List AOper := [
 ⟨(some 36), none, .mv (.t 9)⟩,
 ⟨(some 37), none, .mv (.t 11)⟩,
 ⟨(some 38), none, .bin false .eql (.t 36) (.t 37)⟩,
 ⟨(some 39), none, .mv (.t 38)⟩,
 ⟨(some 40), (some (39, true)), .mv (.t 10)⟩,
 ⟨(some 41), (some (39, true)), .mv (.t 12)⟩,
 ⟨(some 42), (some (39, true)), .bin false .eql (.t 40) (.t 41)⟩,
 ⟨(some 43), none, .pick (.t 39) (.t 42) (.c (.b false))⟩,
 ⟨(some 44), none, .mv (.t 43)⟩,
 ⟨(some 45), (some (44, true)), .call (.c (.fn 17 [] [])) []⟩,
 ⟨(some 46), none, .pick (.t 44) (.t 45) (.c (.b false))⟩,
 ⟨(some 6), none, .mv (.t 46)⟩]
abbrev c7 : AC := (.seq (.reg c7r0) (.seq (.head 5 c7r1) (.seq (.seq (.reg c7r2) (.cond (.t 18) (.seq (.reg c7r3) .ret) .skip)) (.seq (.reg c7r4) (.seq (.reg c7r5) (.seq (.reg c7r6) .ret))))))
def q7 : List ARes := [.t 6]
def c8r0 : List AOper := [
 ⟨(some 3), none, .box (.t 0)⟩,
 ⟨(some 4), none, .box (.t 1)⟩,
 ⟨(some 6), none, .mv (.c (.b false))⟩]
def c8r1 : List AOper := [
 ⟨(some 17), none, .iap 2 1 (.t 4) (.c (.i .i64 0))⟩,
 ⟨(some 18), none, .ld none (.t 17)⟩,
 ⟨(some 19), none, .iap 2 1 (.t 4) (.c (.i .i64 1))⟩,
 ⟨(some 20), none, .ld none (.t 19)⟩,
 ⟨(some 7), none, .mv (.t 18)⟩,
 ⟨(some 8), none, .mv (.t 20)⟩]
def c8r2 : List AOper := [
 ⟨(some 21), none, .ld (some 7) (.t 3)⟩,
 ⟨(some 22), none, .bsl 7 [.i .i64 0, .i .i64 0, .i .i64 0, .i .i64 0, .i .i64 0, .i .i64 0, .i .i64 0] [(0, 7, (.t 21))]⟩,
 ⟨(some 9), none, .mv (.t 22)⟩]
def c8r3 : List AOper := [
 ⟨(some 23), none, .mv (.t 9)⟩,
 ⟨(some 24), none, .call (.c (.fn 23 [] [])) [(.t 23)]⟩,
 ⟨(some 25), none, .not (.t 24)⟩,
 ⟨(some 26), none, .mv (.t 25)⟩,
 ⟨(some 27), (some (26, false)), .mv (.t 7)⟩,
 ⟨(some 28), (some (26, false)), .bin false .lss (.t 27) (.c (.i .i64 0))⟩,
 ⟨(some 29), none, .pick (.t 26) (.c (.b true)) (.t 28)⟩,
 ⟨(some 30), none, .mv (.t 29)⟩,
 ⟨(some 31), (some (30, false)), .mv (.t 7)⟩,
 ⟨(some 32), (some (30, false)), .bin false .gtr (.t 31) (.c (.i .i64 100))⟩,
 ⟨(some 33), none, .pick (.t 30) (.c (.b true)) (.t 32)⟩,
 ⟨(some 34), none, .mv (.t 33)⟩,
 ⟨(some 35), (some (34, false)), .mv (.t 8)⟩,
 ⟨(some 36), (some (34, false)), .bin false .lss (.t 35) (.c (.i .i64 0))⟩,
 ⟨(some 37), none, .pick (.t 34) (.c (.b true)) (.t 36)⟩,
 ⟨(some 38), none, .mv (.t 37)⟩,
 ⟨(some 39), (some (38, false)), .mv (.t 8)⟩,
 ⟨(some 40), (some (38, false)), .bin false .gtr (.t 39) (.c (.i .i64 1000000))⟩,
 ⟨(some 41), none, .pick (.t 38) (.c (.b true)) (.t 40)⟩]
def c8r4 : List AOper := [
 ⟨(some 42), none, .call (.c (.fn 17 [] [])) []⟩,
 ⟨(some 6), none, .mv (.t 42)⟩]
def c8r5 : List AOper := [
 ⟨(some 43), none, .mv (.t 8)⟩,
 ⟨(some 44), none, .mv (.t 8)⟩,
 ⟨(some 45), none, .fa (.t 3) 3⟩,
 ⟨(some 46), none, .iap 4 1 (.t 45) (.c (.i .i64 0))⟩,
 ⟨(some 47), none, .ld none (.t 46)⟩,
 ⟨(some 48), none, .bin false .add (.t 44) (.t 47)⟩,
 ⟨(some 49), none, .fa (.t 3) 3⟩,
 ⟨(some 50), none, .iap 4 1 (.t 49) (.c (.i .i64 1))⟩,
 ⟨(some 51), none, .ld none (.t 50)⟩,
 ⟨(some 52), none, .bin false .add (.t 48) (.t 51)⟩,
 ⟨(some 53), none, .fa (.t 3) 3⟩,
 ⟨(some 54), none, .iap 4 1 (.t 53) (.c (.i .i64 2))⟩,
 ⟨(some 55), none, .ld none (.t 54)⟩,
 ⟨(some 56), none, .bin false .add (.t 52) (.t 55)⟩,
 ⟨(some 57), none, .fa (.t 3) 3⟩,
 ⟨(some 58), none, .iap 4 1 (.t 57) (.c (.i .i64 3))⟩,
 ⟨(some 59), none, .ld none (.t 58)⟩,
 ⟨(some 60), none, .bin false .add (.t 56) (.t 59)⟩,
 ⟨(some 61), none, .mv (.t 2)⟩,
 ⟨(some 62), none, .bld [.i .i64 0, .i .i64 0, .i .i64 0, .b false] [(1, 1, (.t 43)), (2, 1, (.t 60)), (3, 1, (.t 61))]⟩,
 ⟨(some 10), none, .alloc [.i .i64 0, .i .i64 0, .i .i64 0, .b false]⟩,
 ⟨none, none, .sto (some 4) (.t 10) (.t 62)⟩]
def c8r6 : List AOper := [
 ⟨(some 63), none, .mv (.t 2)⟩]
def c8r7 : List AOper := [
 ⟨(some 64), none, .fa (.t 10) 2⟩,
 ⟨(some 65), none, .ld none (.t 64)⟩,
 ⟨(some 66), none, .mv (.t 7)⟩,
 ⟨(some 67), none, .bin false .add (.t 65) (.t 66)⟩,
 ⟨(some 68), none, .fa (.t 10) 2⟩,
 ⟨none, none, .sto none (.t 68) (.t 67)⟩]
def c8r8 : List AOper := [
 ⟨(some 11), none, .alloc [.i .i64 0, .i .i64 0, .i .i64 0, .i .i64 0, .i .i64 0, .i .i64 0]⟩]
def c8r9 : List AOper := [
 ⟨(some 12), none, .mv (.c (.i .i64 0))⟩]
def c8r10 : List AOper := [
 ⟨(some 69), none, .mv (.t 8)⟩,
 ⟨(some 70), none, .bin false .sub (.t 69) (.c (.i .i64 1))⟩,
 ⟨(some 13), none, .mv (.t 70)⟩]
def c8r11 : List AOper := [
 ⟨(some 71), none, .mv (.t 13)⟩,
 ⟨(some 72), none, .fa (.t 10) 2⟩,
 ⟨(some 73), none, .ld none (.t 72)⟩,
 ⟨(some 74), none, .bin false .leq (.t 71) (.t 73)⟩]
def c8r12 : List AOper := [
 ⟨(some 78), none, .mv (.t 9)⟩,
 ⟨(some 79), none, .ld (some 4) (.t 10)⟩,
 ⟨(some 80), none, .mv (.t 7)⟩,
 ⟨(some 81), none, .mv (.t 13)⟩,
 ⟨(some 82), none, .call (.c (.fn 29 [] [])) [(.t 78), (.t 79), (.t 80), (.t 81)]⟩,
 ⟨(some 77), none, .mv (.t 82)⟩,
 ⟨(some 83), none, .ext (.t 77) 0⟩,
 ⟨(some 84), none, .ext (.t 77) 1⟩,
 ⟨(some 14), none, .mv (.t 83)⟩,
 ⟨(some 15), none, .mv (.t 84)⟩]
def c8r13 : List AOper := [
 ⟨(some 85), none, .mv (.t 15)⟩,
 ⟨(some 86), none, .bin false .neq (.t 85) (.c (.i .i64 0))⟩,
 ⟨(some 87), none, .mv (.t 86)⟩,
 ⟨(some 88), (some (87, false)), .mv (.t 14)⟩,
 ⟨(some 89), (some (87, false)), .bin false .lss (.t 88) (.c (.i .i64 0))⟩,
 ⟨(some 90), none, .pick (.t 87) (.c (.b true)) (.t 89)⟩,
 ⟨(some 91), none, .mv (.t 90)⟩,
 ⟨(some 92), (some (91, false)), .mv (.t 14)⟩,
 ⟨(some 93), (some (91, false)), .bin false .gtr (.t 92) (.c (.i .i64 5))⟩,
 ⟨(some 94), none, .pick (.t 91) (.c (.b true)) (.t 93)⟩]
def c8r14 : List AOper := [
 ⟨(some 6), none, .mv (.c (.b false))⟩]
def c8r15 : List AOper := [
 ⟨(some 95), none, .mv (.t 14)⟩,
 ⟨(some 96), none, .bin false .eql (.t 95) (.c (.i .i64 5))⟩,
 ⟨(some 97), none, .mv (.t 13)⟩,
 ⟨(some 98), none, .mv (.t 8)⟩,
 ⟨(some 99), none, .bin false .lss (.t 97) (.t 98)⟩,
 ⟨(some 100), none, .mv (.t 99)⟩,
 ⟨(some 101), (some (100, false)), .mv (.t 13)⟩,
 ⟨(some 102), (some (100, false)), .fa (.t 10) 2⟩,
 ⟨(some 103), (some (100, false)), .ld none (.t 102)⟩,
 ⟨(some 104), (some (100, false)), .bin false .geq (.t 101) (.t 103)⟩,
 ⟨(some 105), none, .pick (.t 100) (.c (.b true)) (.t 104)⟩,
 ⟨(some 106), none, .bin true .neq (.t 96) (.t 105)⟩]
def c8r16 : List AOper := [
 ⟨(some 6), none, .mv (.c (.b false))⟩]
def c8r17 : List AOper := [
 ⟨(some 107), none, .mv (.t 14)⟩,
 ⟨(some 108), none, .bin false .lss (.t 107) (.c (.i .i64 5))⟩,
 ⟨(some 109), none, .mv (.t 108)⟩,
 ⟨(some 110), (some (109, true)), .mv (.t 14)⟩,
 ⟨(some 111), (some (109, true)), .mv (.t 12)⟩,
 ⟨(some 112), (some (109, true)), .bin false .lss (.t 110) (.t 111)⟩,
 ⟨(some 113), none, .pick (.t 109) (.t 112) (.c (.b false))⟩]
def c8r18 : List AOper := [
 ⟨(some 6), none, .mv (.c (.b false))⟩]
def c8r19 : List AOper := [
 ⟨(some 114), none, .mv (.t 14)⟩,
 ⟨(some 115), none, .bin false .lss (.t 114) (.c (.i .i64 5))⟩]
def c8r20 : List AOper := [
 ⟨(some 116), none, .mv (.t 14)⟩,
 ⟨(some 12), none, .mv (.t 116)⟩]
def c8r21 : List AOper := [
 ⟨(some 117), none, .mv (.t 14)⟩,
 ⟨(some 118), none, .iap 6 1 (.t 11) (.t 117)⟩,
 ⟨(some 119), none, .ld none (.t 118)⟩,
 ⟨(some 120), none, .bin false .add (.t 119) (.c (.i .i64 1))⟩,
 ⟨(some 121), none, .iap 6 1 (.t 11) (.t 117)⟩,
 ⟨none, none, .sto none (.t 121) (.t 120)⟩]
def c8r22 : List AOper := [
 ⟨(some 75), none, .mv (.t 13)⟩,
 ⟨(some 76), none, .bin false .add (.t 75) (.c (.i .i64 1))⟩,
 ⟨(some 13), none, .mv (.t 76)⟩]
abbrev c8b23 : AC := (.seq (.seq (.reg c8r11) (.cond (.t 74) .skip (.exit 0))) (.seq (.blk 1 (.seq (.reg c8r12) (.seq (.seq (.reg c8r13) (.cond (.t 94) (.seq (.reg c8r14) .ret) .skip)) (.seq (.seq (.reg c8r15) (.cond (.t 106) (.seq (.reg c8r16) .ret) .skip)) (.seq (.seq (.reg c8r17) (.cond (.t 113) (.seq (.reg c8r18) .ret) .skip)) (.seq (.seq (.reg c8r19) (.cond (.t 115) (.reg c8r20) .skip)) (.reg c8r21))))))) (.reg c8r22)))
def c8r24 : List AOper := [
 ⟨(some 16), none, .mv (.c (.i .i64 0))⟩]
def c8r25 : List AOper := [
 ⟨(some 122), none, .mv (.t 16)⟩,
 ⟨(some 123), none, .bin false .lss (.t 122) (.c (.i .i64 4))⟩]
def c8r26 : List AOper := [
 ⟨(some 126), none, .mv (.t 16)⟩,
 ⟨(some 127), none, .bin false .add (.t 126) (.c (.i .i64 1))⟩,
 ⟨(some 128), none, .iap 6 1 (.t 11) (.t 127)⟩,
 ⟨(some 129), none, .ld none (.t 128)⟩,
 ⟨(some 130), none, .mv (.t 16)⟩,
 ⟨(some 131), none, .fa (.t 3) 3⟩,
 ⟨(some 132), none, .iap 4 1 (.t 131) (.t 130)⟩,
 ⟨(some 133), none, .ld none (.t 132)⟩,
 ⟨(some 134), none, .bin false .neq (.t 129) (.t 133)⟩]
def c8r27 : List AOper := [
 ⟨(some 6), none, .mv (.c (.b false))⟩]
def c8r28 : List AOper := [
 ⟨(some 124), none, .mv (.t 16)⟩,
 ⟨(some 125), none, .bin false .add (.t 124) (.c (.i .i64 1))⟩,
 ⟨(some 16), none, .mv (.t 125)⟩]
abbrev c8b29 : AC := (.seq (.seq (.reg c8r25) (.cond (.t 123) .skip (.exit 2))) (.seq (.blk 3 (.seq (.head 8 c8r26) (.cond (.t 134) (.seq (.reg c8r27) .ret) .skip))) (.reg c8r28)))
def c8r30 : List AOper := [
 ⟨(some 135), none, .iap 6 1 (.t 11) (.c (.i .i64 0))⟩,
 ⟨(some 136), none, .ld none (.t 135)⟩,
 ⟨(some 137), none, .mv (.t 7)⟩,
 ⟨(some 138), none, .bin false .eql (.t 136) (.t 137)⟩,
 ⟨(some 139), none, .mv (.t 138)⟩,
 ⟨(some 140), (some (139, false)), .mv (.t 2)⟩,
 ⟨(some 141), (some (139, false)), .not (.t 140)⟩,
 ⟨(some 142), (some (139, false)), .mv (.t 141)⟩,
 ⟨(some 143), (some (142, true)), .iap 6 1 (.t 11) (.c (.i .i64 0))⟩,
 ⟨(some 144), (some (142, true)), .ld none (.t 143)⟩,
 ⟨(some 145), (some (142, true)), .bin false .eql (.t 144) (.c (.i .i64 0))⟩,
 ⟨(some 146), (some (139, false)), .pick (.t 142) (.t 145) (.c (.b false))⟩,
 ⟨(some 147), none, .pick (.t 139) (.c (.b true)) (.t 146)⟩,
 ⟨(some 148), none, .mv (.t 147)⟩,
 ⟨(some 149), (some (148, true)), .call (.c (.fn 17 [] [])) []⟩,
 ⟨(some 150), none, .pick (.t 148) (.t 149) (.c (.b false))⟩,
 ⟨(some 6), none, .mv (.t 150)⟩]
abbrev c8 : AC := (.seq (.reg c8r0) (.seq (.head 5 c8r1) (.seq (.reg c8r2) (.seq (.seq (.reg c8r3) (.cond (.t 41) (.seq (.reg c8r4) .ret) .skip)) (.seq (.reg c8r5) (.seq (.seq (.reg c8r6) (.cond (.t 63) (.reg c8r7) .skip)) (.seq (.reg c8r8) (.seq (.reg c8r9) (.seq (.seq (.reg c8r10) (.blk 0 (.loop c8b23))) (.seq (.seq (.reg c8r24) (.blk 2 (.loop c8b29))) (.seq (.reg c8r30) .ret)))))))))))
def q8 : List ARes := [.t 6]
def c9r0 : List AOper := [
 ⟨(some 4), none, .mv (.c (.b false))⟩]
def c9r1 : List AOper := [
 ⟨(some 13), none, .mv (.t 0)⟩,
 ⟨(some 14), none, .call (.c (.fn 16 [] [])) [(.t 13), (.c (.i .i64 50))]⟩,
 ⟨(some 15), none, .mv (.t 14)⟩,
 ⟨(some 16), (some (15, false)), .mv (.t 1)⟩,
 ⟨(some 17), (some (15, false)), .len (.t 16)⟩,
 ⟨(some 18), (some (15, false)), .bin false .gtr (.t 17) (.c (.i .i64 60))⟩,
 ⟨(some 19), none, .pick (.t 15) (.c (.b true)) (.t 18)⟩]
def c9r2 : List AOper := [
 ⟨(some 20), none, .call (.c (.fn 17 [] [])) []⟩,
 ⟨(some 4), none, .mv (.t 20)⟩]
def c9r3 : List AOper := [
 ⟨(some 22), none, .mv (.t 0)⟩,
 ⟨(some 23), none, .mv (.t 1)⟩,
 ⟨(some 24), none, .call (.c (.fn 31 [] [])) [(.t 22), (.t 23)]⟩,
 ⟨(some 21), none, .mv (.t 24)⟩,
 ⟨(some 25), none, .ext (.t 21) 0⟩,
 ⟨(some 26), none, .ext (.t 21) 1⟩,
 ⟨(some 5), none, .mv (.t 25)⟩,
 ⟨(some 6), none, .mv (.t 26)⟩]
def c9r4 : List AOper := [
 ⟨(some 28), none, .mv (.t 0)⟩,
 ⟨(some 29), none, .mv (.t 1)⟩,
 ⟨(some 30), none, .call (.c (.fn 32 [] [])) [(.t 28), (.t 29)]⟩,
 ⟨(some 27), none, .mv (.t 30)⟩,
 ⟨(some 31), none, .ext (.t 27) 0⟩,
 ⟨(some 32), none, .ext (.t 27) 1⟩,
 ⟨(some 7), none, .mv (.t 31)⟩,
 ⟨(some 8), none, .mv (.t 32)⟩]
def c9r5 : List AOper := [
 ⟨(some 34), none, .mv (.t 0)⟩,
 ⟨(some 35), none, .mv (.t 1)⟩,
 ⟨(some 36), none, .call (.c (.fn 33 [] [])) [(.t 34), (.t 35)]⟩,
 ⟨(some 33), none, .mv (.t 36)⟩,
 ⟨(some 37), none, .ext (.t 33) 0⟩,
 ⟨(some 38), none, .ext (.t 33) 1⟩,
 ⟨(some 9), none, .mv (.t 37)⟩,
 ⟨(some 10), none, .mv (.t 38)⟩]
def c9r6 : List AOper := [
 ⟨(some 40), none, .mv (.t 0)⟩,
 ⟨(some 41), none, .mv (.t 1)⟩,
 ⟨(some 42), none, .call (.c (.fn 34 [] [])) [(.t 40), (.t 41)]⟩,
 ⟨(some 39), none, .mv (.t 42)⟩,
 ⟨(some 43), none, .ext (.t 39) 0⟩,
 ⟨(some 44), none, .ext (.t 39) 1⟩,
 ⟨(some 11), none, .mv (.t 43)⟩,
 ⟨(some 12), none, .mv (.t 44)⟩]
def c9r7 : List AOper := [
 ⟨(some 45), none, .mv (.t 5)⟩,
 ⟨(some 46), none, .mv (.t 7)⟩,
 ⟨(some 47), none, .bin true .eql (.t 45) (.t 46)⟩,
 ⟨(some 48), none, .mv (.t 47)⟩,
 ⟨(some 49), (some (48, true)), .mv (.t 6)⟩,
 ⟨(some 50), (some (48, true)), .mv (.t 8)⟩,
 ⟨(some 51), (some (48, true)), .bin false .eql (.t 49) (.t 50)⟩,
 ⟨(some 52), none, .pick (.t 48) (.t 51) (.c (.b false))⟩,
 ⟨(some 53), none, .mv (.t 52)⟩,
 ⟨(some 54), (some (53, true)), .mv (.t 9)⟩,
 ⟨(some 55), (some (53, true)), .mv (.t 11)⟩,
 ⟨(some 56), (some (53, true)), .bin false .eql (.t 54) (.t 55)⟩,
 ⟨(some 57), none, .pick (.t 53) (.t 56) (.c (.b false))⟩,
 ⟨(some 58), none, .mv (.t 57)⟩,
 ⟨(some 59), (some (58, true)), .mv (.t 10)⟩,
 ⟨(some 60), (some (58, true)), .mv (.t 12)⟩,
 ⟨(some 61), (some (58, true)), .bin false .eql (.t 59) (.t 60)⟩,
 ⟨(some 62), none, .pick (.t 58) (.t 61) (.c (.b false))⟩,
 ⟨(some 63), none, .mv (.t 62)⟩,
 ⟨(some 64), (some (63, true)), .call (.c (.fn 17 [] [])) []⟩,
 ⟨(some 65), none, .pick (.t 63) (.t 64) (.c (.b false))⟩,
 ⟨(some 4), none, .mv (.t 65)⟩]
abbrev c9 : AC := (.seq (.reg c9r0) (.seq (.seq (.reg c9r1) (.cond (.t 19) (.seq (.reg c9r2) .ret) .skip)) (.seq (.reg c9r3) (.seq (.reg c9r4) (.seq (.reg c9r5) (.seq (.reg c9r6) (.seq (.reg c9r7) .ret)))))))
def c15r0 : List AOper := [
 ⟨(some 3), none, .box (.t 1)⟩,
 ⟨(some 4), none, .mv (.c (.b false))⟩]
def c15r1 : List AOper := [
 ⟨(some 30), none, .mv (.t 0)⟩,
 ⟨(some 31), none, .len (.t 30)⟩,
 ⟨(some 32), none, .bin false .gtr (.t 31) (.c (.i .i64 16))⟩,
 ⟨(some 33), none, .mv (.t 32)⟩,
 ⟨(some 34), (some (33, false)), .mv (.t 0)⟩,
 ⟨(some 35), (some (33, false)), .call (.c (.fn 23 [] [])) [(.t 34)]⟩,
 ⟨(some 36), (some (33, false)), .not (.t 35)⟩,
 ⟨(some 37), none, .pick (.t 33) (.c (.b true)) (.t 36)⟩]
def c15r2 : List AOper := [
 ⟨(some 38), none, .call (.c (.fn 50 [] [])) []⟩,
 ⟨(some 4), none, .mv (.t 38)⟩]
def c15r3 : List AOper := [
 ⟨(some 39), none, .iap 2 1 (.t 3) (.c (.i .i64 0))⟩,
 ⟨(some 40), none, .ld none (.t 39)⟩,
 ⟨(some 41), none, .conv .i64 (.t 40)⟩,
 ⟨(some 42), none, .bin false .rem (.t 41) (.c (.i .i64 8))⟩,
 ⟨(some 43), none, .bin false .add (.c (.i .i64 1)) (.t 42)⟩,
 ⟨(some 44), none, .iap 2 1 (.t 3) (.c (.i .i64 1))⟩,
 ⟨(some 45), none, .ld none (.t 44)⟩,
 ⟨(some 46), none, .conv .i64 (.t 45)⟩,
 ⟨(some 47), none, .bin false .rem (.t 46) (.c (.i .i64 101))⟩,
 ⟨(some 5), none, .mv (.t 43)⟩,
 ⟨(some 6), none, .mv (.t 47)⟩]
def c15r4 : List AOper := [
 ⟨(some 7), none, .mv (.c (.i .i64 0))⟩]
def c15r5 : List AOper := [
 ⟨(some 8), none, .mv (.c (.i .i64 1))⟩]
def c15r6 : List AOper := [
 ⟨(some 48), none, .mv (.t 8)⟩,
 ⟨(some 49), none, .mv (.t 0)⟩,
 ⟨(some 50), none, .len (.t 49)⟩,
 ⟨(some 51), none, .bin false .leq (.t 48) (.t 50)⟩]
def c15r7 : List AOper := [
 ⟨(some 54), none, .bsl 7 [] []⟩,
 ⟨(some 55), none, .mv (.t 0)⟩,
 ⟨(some 56), none, .mv (.t 8)⟩,
 ⟨(some 57), none, .sli 7 (.t 55) none (some (.t 56))⟩,
 ⟨(some 58), none, .app 7 56 (.t 54) (.t 57)⟩,
 ⟨(some 9), none, .mv (.t 58)⟩]
def c15r8 : List AOper := [
 ⟨(some 60), none, .mv (.t 9)⟩,
 ⟨(some 61), none, .call (.c (.fn 20 [] [])) [(.t 60)]⟩,
 ⟨(some 59), none, .mv (.t 61)⟩,
 ⟨(some 62), none, .ext (.t 59) 0⟩,
 ⟨(some 63), none, .ext (.t 59) 1⟩,
 ⟨(some 10), none, .mv (.t 62)⟩,
 ⟨(some 11), none, .mv (.t 63)⟩]
def c15r9 : List AOper := [
 ⟨(some 65), none, .mv (.t 9)⟩,
 ⟨(some 66), none, .call (.c (.fn 18 [] [])) [(.t 65)]⟩,
 ⟨(some 64), none, .mv (.t 66)⟩,
 ⟨(some 67), none, .ext (.t 64) 0⟩,
 ⟨(some 68), none, .ext (.t 64) 1⟩,
 ⟨(some 12), none, .mv (.t 67)⟩,
 ⟨(some 13), none, .mv (.t 68)⟩]
def c15r10 : List AOper := [
 ⟨(some 70), none, .mv (.t 9)⟩,
 ⟨(some 71), none, .call (.c (.fn 49 [] [])) [(.t 70)]⟩,
 ⟨(some 69), none, .mv (.t 71)⟩,
 ⟨(some 72), none, .ext (.t 69) 0⟩,
 ⟨(some 73), none, .ext (.t 69) 1⟩,
 ⟨(some 14), none, .mv (.t 72)⟩,
 ⟨(some 15), none, .mv (.t 73)⟩]
def c15r11 : List AOper := [
 ⟨(some 74), none, .mv (.t 11)⟩,
 ⟨(some 75), none, .bin false .neq (.t 74) (.c (.i .i64 0))⟩,
 ⟨(some 76), none, .mv (.t 75)⟩,
 ⟨(some 77), (some (76, false)), .mv (.t 13)⟩,
 ⟨(some 78), (some (76, false)), .bin false .neq (.t 77) (.c (.i .i64 0))⟩,
 ⟨(some 79), none, .pick (.t 76) (.c (.b true)) (.t 78)⟩,
 ⟨(some 80), none, .mv (.t 79)⟩,
 ⟨(some 81), (some (80, false)), .mv (.t 15)⟩,
 ⟨(some 82), (some (80, false)), .bin false .neq (.t 81) (.c (.i .i64 0))⟩,
 ⟨(some 83), none, .pick (.t 80) (.c (.b true)) (.t 82)⟩,
 ⟨(some 84), none, .mv (.t 83)⟩,
 ⟨(some 85), (some (84, false)), .mv (.t 12)⟩,
 ⟨(some 86), (some (84, false)), .len (.t 85)⟩,
 ⟨(some 87), (some (84, false)), .mv (.t 10)⟩,
 ⟨(some 88), (some (84, false)), .bin false .neq (.t 86) (.t 87)⟩,
 ⟨(some 89), none, .pick (.t 84) (.c (.b true)) (.t 88)⟩,
 ⟨(some 90), none, .mv (.t 89)⟩,
 ⟨(some 91), (some (90, false)), .mv (.t 14)⟩,
 ⟨(some 92), (some (90, false)), .len (.t 91)⟩,
 ⟨(some 93), (some (90, false)), .mv (.t 10)⟩,
 ⟨(some 94), (some (90, false)), .bin false .neq (.t 92) (.t 93)⟩,
 ⟨(some 95), none, .pick (.t 90) (.c (.b true)) (.t 94)⟩,
 ⟨(some 96), none, .mv (.t 95)⟩,
 ⟨(some 97), (some (96, false)), .mv (.t 10)⟩,
 ⟨(some 98), (some (96, false)), .mv (.t 7)⟩,
 ⟨(some 99), (some (96, false)), .bin false .lss (.t 97) (.t 98)⟩,
 ⟨(some 100), none, .pick (.t 96) (.c (.b true)) (.t 99)⟩,
 ⟨(some 101), none, .mv (.t 100)⟩,
 ⟨(some 102), (some (101, false)), .mv (.t 10)⟩,
 ⟨(some 103), (some (101, false)), .mv (.t 7)⟩,
 ⟨(some 104), (some (101, false)), .bin false .add (.t 103) (.c (.i .i64 1))⟩,
 ⟨(some 105), (some (101, false)), .bin false .gtr (.t 102) (.t 104)⟩,
 ⟨(some 106), none, .pick (.t 101) (.c (.b true)) (.t 105)⟩,
 ⟨(some 107), none, .mv (.t 106)⟩,
 ⟨(some 108), (some (107, false)), .mv (.t 9)⟩,
 ⟨(some 109), (some (107, false)), .mv (.t 12)⟩,
 ⟨(some 110), (some (107, false)), .call (.c (.fn 36 [] [])) [(.t 108), (.t 109)]⟩,
 ⟨(some 111), (some (107, false)), .bin false .neq (.t 110) (.c (.i .i64 0))⟩,
 ⟨(some 112), none, .pick (.t 107) (.c (.b true)) (.t 111)⟩]
def c15r12 : List AOper := [
 ⟨(some 4), none, .mv (.c (.b false))⟩]
def c15r13 : List AOper := [
 ⟨(some 114), none, .mv (.t 9)⟩,
 ⟨(some 115), none, .mv (.t 14)⟩,
 ⟨(some 116), none, .call (.c (.fn 32 [] [])) [(.t 114), (.t 115)]⟩,
 ⟨(some 113), none, .mv (.t 116)⟩,
 ⟨(some 117), none, .ext (.t 113) 0⟩,
 ⟨(some 118), none, .ext (.t 113) 1⟩,
 ⟨(some 16), none, .mv (.t 117)⟩,
 ⟨(some 17), none, .mv (.t 118)⟩]
def c15r14 : List AOper := [
 ⟨(some 119), none, .mv (.t 16)⟩,
 ⟨(some 120), none, .not (.t 119)⟩,
 ⟨(some 121), none, .mv (.t 120)⟩,
 ⟨(some 122), (some (121, false)), .mv (.t 17)⟩,
 ⟨(some 123), (some (121, false)), .bin false .neq (.t 122) (.c (.i .i64 0))⟩,
 ⟨(some 124), none, .pick (.t 121) (.c (.b true)) (.t 123)⟩]
def c15r15 : List AOper := [
 ⟨(some 4), none, .mv (.c (.b false))⟩]
def c15r16 : List AOper := [
 ⟨(some 125), none, .mv (.t 10)⟩,
 ⟨(some 7), none, .mv (.t 125)⟩]
def c15r17 : List AOper := [
 ⟨(some 52), none, .mv (.t 8)⟩,
 ⟨(some 53), none, .bin false .add (.t 52) (.c (.i .i64 1))⟩,
 ⟨(some 8), none, .mv (.t 53)⟩]
abbrev c15b18 : AC := (.seq (.seq (.reg c15r6) (.cond (.t 51) .skip (.exit 0))) (.seq (.blk 1 (.seq (.reg c15r7) (.seq (.reg c15r8) (.seq (.reg c15r9) (.seq (.reg c15r10) (.seq (.seq (.reg c15r11) (.cond (.t 112) (.seq (.reg c15r12) .ret) .skip)) (.seq (.seq (.reg c15r13) (.seq (.reg c15r14) (.cond (.t 124) (.seq (.reg c15r15) .ret) .skip))) (.reg c15r16)))))))) (.reg c15r17)))
def c15r19 : List AOper := [
 ⟨(some 127), none, .mv (.t 0)⟩,
 ⟨(some 128), none, .call (.c (.fn 18 [] [])) [(.t 127)]⟩,
 ⟨(some 126), none, .mv (.t 128)⟩,
 ⟨(some 129), none, .ext (.t 126) 0⟩,
 ⟨(some 130), none, .ext (.t 126) 1⟩,
 ⟨(some 18), none, .mv (.t 129)⟩,
 ⟨(some 19), none, .mv (.t 130)⟩]
def c15r20 : List AOper := [
 ⟨(some 132), none, .mv (.t 0)⟩,
 ⟨(some 133), none, .mv (.t 18)⟩,
 ⟨(some 134), none, .mv (.t 5)⟩,
 ⟨(some 135), none, .mv (.t 6)⟩,
 ⟨(some 136), none, .call (.c (.fn 38 [] [])) [(.t 132), (.t 133), (.t 134), (.t 135)]⟩,
 ⟨(some 131), none, .mv (.t 136)⟩,
 ⟨(some 137), none, .ext (.t 131) 0⟩,
 ⟨(some 138), none, .ext (.t 131) 1⟩,
 ⟨(some 20), none, .mv (.t 137)⟩,
 ⟨(some 21), none, .mv (.t 138)⟩]
def c15r21 : List AOper := [
 ⟨(some 140), none, .mv (.t 0)⟩,
 ⟨(some 141), none, .mv (.t 18)⟩,
 ⟨(some 142), none, .mv (.t 6)⟩,
 ⟨(some 143), none, .call (.c (.fn 38 [] [])) [(.t 140), (.t 141), (.c (.i .i64 1)), (.t 142)]⟩,
 ⟨(some 139), none, .mv (.t 143)⟩,
 ⟨(some 144), none, .ext (.t 139) 0⟩,
 ⟨(some 145), none, .ext (.t 139) 1⟩,
 ⟨(some 22), none, .mv (.t 144)⟩,
 ⟨(some 23), none, .mv (.t 145)⟩]
def c15r22 : List AOper := [
 ⟨(some 146), none, .mv (.t 19)⟩,
 ⟨(some 147), none, .bin false .neq (.t 146) (.c (.i .i64 0))⟩,
 ⟨(some 148), none, .mv (.t 147)⟩,
 ⟨(some 149), (some (148, false)), .mv (.t 21)⟩,
 ⟨(some 150), (some (148, false)), .bin false .neq (.t 149) (.c (.i .i64 0))⟩,
 ⟨(some 151), none, .pick (.t 148) (.c (.b true)) (.t 150)⟩,
 ⟨(some 152), none, .mv (.t 151)⟩,
 ⟨(some 153), (some (152, false)), .mv (.t 23)⟩,
 ⟨(some 154), (some (152, false)), .bin false .neq (.t 153) (.c (.i .i64 0))⟩,
 ⟨(some 155), none, .pick (.t 152) (.c (.b true)) (.t 154)⟩]
def c15r23 : List AOper := [
 ⟨(some 4), none, .mv (.c (.b false))⟩]
def c15r24 : List AOper := [
 ⟨(some 156), none, .mv (.t 6)⟩,
 ⟨(some 157), none, .mv (.t 18)⟩,
 ⟨(some 158), none, .len (.t 157)⟩,
 ⟨(some 159), none, .bin false .mul (.t 156) (.t 158)⟩,
 ⟨(some 24), none, .mv (.t 159)⟩]
def c15r25 : List AOper := [
 ⟨(some 25), none, .mv (.c (.i .i64 0))⟩]
def c15r26 : List AOper := [
 ⟨(some 160), none, .mv (.t 25)⟩,
 ⟨(some 161), none, .mv (.t 0)⟩,
 ⟨(some 162), none, .len (.t 161)⟩,
 ⟨(some 163), none, .bin false .lss (.t 160) (.t 162)⟩]
def c15r27 : List AOper := [
 ⟨(some 167), none, .mv (.t 0)⟩,
 ⟨(some 168), none, .mv (.t 25)⟩,
 ⟨(some 169), none, .bsl 1 [.i .i64 0] [(0, 1, (.t 168))]⟩,
 ⟨(some 170), none, .call (.c (.fn 33 [] [])) [(.t 167), (.t 169)]⟩,
 ⟨(some 166), none, .mv (.t 170)⟩,
 ⟨(some 171), none, .ext (.t 166) 0⟩,
 ⟨(some 172), none, .ext (.t 166) 1⟩,
 ⟨(some 26), none, .mv (.t 171)⟩,
 ⟨(some 27), none, .mv (.t 172)⟩]
def c15r28 : List AOper := [
 ⟨(some 173), none, .mv (.t 27)⟩,
 ⟨(some 174), none, .bin false .neq (.t 173) (.c (.i .i64 0))⟩]
def c15r29 : List AOper := [
 ⟨(some 4), none, .mv (.c (.b false))⟩]
def c15r30 : List AOper := [
 ⟨(some 175), none, .mv (.t 24)⟩,
 ⟨(some 176), none, .mv (.t 26)⟩,
 ⟨(some 177), none, .bin false .add (.t 175) (.t 176)⟩,
 ⟨(some 24), none, .mv (.t 177)⟩]
def c15r31 : List AOper := [
 ⟨(some 164), none, .mv (.t 25)⟩,
 ⟨(some 165), none, .bin false .add (.t 164) (.c (.i .i64 1))⟩,
 ⟨(some 25), none, .mv (.t 165)⟩]
abbrev c15b32 : AC := (.seq (.seq (.reg c15r26) (.cond (.t 163) .skip (.exit 2))) (.seq (.blk 3 (.seq (.reg c15r27) (.seq (.seq (.reg c15r28) (.cond (.t 174) (.seq (.reg c15r29) .ret) .skip)) (.reg c15r30)))) (.reg c15r31)))
def c15r33 : List AOper := [
 ⟨(some 179), none, .mv (.t 22)⟩,
 ⟨(some 180), none, .call (.c (.fn 44 [] [])) [(.t 179)]⟩,
 ⟨(some 178), none, .mv (.t 180)⟩,
 ⟨(some 181), none, .ext (.t 178) 0⟩,
 ⟨(some 182), none, .ext (.t 178) 1⟩,
 ⟨(some 28), none, .mv (.t 181)⟩,
 ⟨(some 29), none, .mv (.t 182)⟩]
def c15r34 : List AOper := [
 ⟨(some 183), none, .mv (.t 29)⟩,
 ⟨(some 184), none, .bin false .eql (.t 183) (.c (.i .i64 0))⟩,
 ⟨(some 185), none, .mv (.t 184)⟩,
 ⟨(some 186), (some (185, true)), .mv (.t 28)⟩,
 ⟨(some 187), (some (185, true)), .mv (.t 24)⟩,
 ⟨(some 188), (some (185, true)), .bin false .eql (.t 186) (.t 187)⟩,
 ⟨(some 189), none, .pick (.t 185) (.t 188) (.c (.b false))⟩,
 ⟨(some 190), none, .mv (.t 189)⟩,
 ⟨(some 191), (some (190, true)), .mv (.t 0)⟩,
 ⟨(some 192), (some (190, true)), .mv (.t 5)⟩,
 ⟨(some 193), (some (190, true)), .mv (.t 6)⟩,
 ⟨(some 194), (some (190, true)), .mv (.t 20)⟩,
 ⟨(some 195), (some (190, true)), .mv (.t 18)⟩,
 ⟨(some 196), (some (190, true)), .len (.t 195)⟩,
 ⟨(some 197), (some (190, true)), .mv (.t 24)⟩,
 ⟨(some 198), (some (190, true)), .call (.c (.fn 51 [] [])) [(.t 191), (.t 192), (.t 193), (.t 194), (.t 196), (.t 197)]⟩,
 ⟨(some 199), none, .pick (.t 190) (.t 198) (.c (.b false))⟩,
 ⟨(some 200), none, .mv (.t 199)⟩,
 ⟨(some 201), (some (200, true)), .call (.c (.fn 50 [] [])) []⟩,
 ⟨(some 202), none, .pick (.t 200) (.t 201) (.c (.b false))⟩,
 ⟨(some 4), none, .mv (.t 202)⟩]
abbrev c15 : AC := (.seq (.reg c15r0) (.seq (.seq (.reg c15r1) (.cond (.t 37) (.seq (.reg c15r2) .ret) .skip)) (.seq (.head 10 c15r3) (.seq (.reg c15r4) (.seq (.seq (.reg c15r5) (.blk 0 (.loop c15b18))) (.seq (.reg c15r19) (.seq (.reg c15r20) (.seq (.reg c15r21) (.seq (.seq (.reg c15r22) (.cond (.t 155) (.seq (.reg c15r23) .ret) .skip)) (.seq (.reg c15r24) (.seq (.seq (.reg c15r25) (.blk 2 (.loop c15b32))) (.seq (.reg c15r33) (.seq (.reg c15r34) .ret)))))))))))))
def q15 : List ARes := [.t 4]
theorem fn15 : fnOf Try.prog 15 = some (c15, q15, 203) := by kernel_rfl
def c18r0 : List AOper := [
 ⟨(some 2), none, .mv (.c (.sl 0 0 0 0))⟩,
 ⟨(some 3), none, .mv (.c (.i .i64 0))⟩]
def c18r1 : List AOper := [
 ⟨(some 6), none, .mv (.t 0)⟩,
 ⟨(some 7), none, .call (.c (.fn 26 [] [])) [(.t 6)]⟩,
 ⟨(some 8), none, .not (.t 7)⟩]
def c18r2 : List AOper := [
 ⟨(some 2), none, .mv (.c (.sl 0 0 0 0))⟩,
 ⟨(some 3), none, .mv (.c (.i .i64 60))⟩]
def c18r3 : List AOper := [
 ⟨(some 10), none, .mv (.t 0)⟩,
 ⟨(some 11), none, .call (.c (.fn 52 [] [])) [(.t 10)]⟩,
 ⟨(some 9), none, .mv (.t 11)⟩,
 ⟨(some 12), none, .ext (.t 9) 0⟩,
 ⟨(some 13), none, .ext (.t 9) 1⟩,
 ⟨(some 4), none, .mv (.t 12)⟩,
 ⟨(some 5), none, .mv (.t 13)⟩]
def c18r4 : List AOper := [
 ⟨(some 14), none, .mv (.t 4)⟩,
 ⟨(some 2), none, .mv (.t 14)⟩,
 ⟨(some 3), none, .mv (.c (.i .i64 0))⟩]
abbrev c18 : AC := (.seq (.reg c18r0) (.seq (.seq (.reg c18r1) (.cond (.t 8) (.seq (.reg c18r2) .ret) .skip)) (.seq (.reg c18r3) (.seq (.reg c18r4) .ret))))
def q18 : List ARes := [.t 2, .t 3]
theorem fn18 : fnOf Try.prog 18 = some (c18, q18, 15) := by kernel_rfl
def c20r0 : List AOper := [
 ⟨(some 2), none, .mv (.c (.i .i64 0))⟩,
 ⟨(some 3), none, .mv (.c (.i .i64 0))⟩]
def c20r1 : List AOper := [
 ⟨(some 7), none, .mv (.t 0)⟩,
 ⟨(some 8), none, .call (.c (.fn 18 [] [])) [(.t 7)]⟩,
 ⟨(some 6), none, .mv (.t 8)⟩,
 ⟨(some 9), none, .ext (.t 6) 0⟩,
 ⟨(some 10), none, .ext (.t 6) 1⟩,
 ⟨(some 4), none, .mv (.t 9)⟩,
 ⟨(some 5), none, .mv (.t 10)⟩]
def c20r2 : List AOper := [
 ⟨(some 11), none, .mv (.t 4)⟩,
 ⟨(some 12), none, .len (.t 11)⟩,
 ⟨(some 13), none, .mv (.t 5)⟩,
 ⟨(some 2), none, .mv (.t 12)⟩,
 ⟨(some 3), none, .mv (.t 13)⟩]
abbrev c20 : AC := (.seq (.reg c20r0) (.seq (.reg c20r1) (.seq (.reg c20r2) .ret)))
def q20 : List ARes := [.t 2, .t 3]
theorem fn20 : fnOf Try.prog 20 = some (c20, q20, 14) := by kernel_rfl
def c23r0 : List AOper := [
 ⟨(some 2), none, .mv (.c (.b false))⟩]
def c23r1 : List AOper := [
 ⟨(some 5), none, .mv (.t 0)⟩,
 ⟨(some 6), none, .len (.t 5)⟩,
 ⟨(some 7), none, .bin false .gtr (.t 6) (.c (.i .i64 40))⟩]
def c23r2 : List AOper := [
 ⟨(some 2), none, .mv (.c (.b false))⟩]
def c23r3 : List AOper := [
 ⟨(some 3), none, .mv (.c (.i .i64 0))⟩]
def c23r4 : List AOper := [
 ⟨(some 8), none, .mv (.t 3)⟩,
 ⟨(some 9), none, .mv (.t 0)⟩,
 ⟨(some 10), none, .len (.t 9)⟩,
 ⟨(some 11), none, .bin false .lss (.t 8) (.t 10)⟩]
def c23r5 : List AOper := [
 ⟨(some 14), none, .mv (.t 0)⟩,
 ⟨(some 15), none, .mv (.t 3)⟩,
 ⟨(some 16), none, .ia 7 (.t 14) (.t 15)⟩,
 ⟨(some 17), none, .ld (some 7) (.t 16)⟩,
 ⟨(some 18), none, .call (.c (.fn 56 [] [])) [(.t 17)]⟩,
 ⟨(some 19), none, .not (.t 18)⟩]
def c23r6 : List AOper := [
 ⟨(some 2), none, .mv (.c (.b false))⟩]
def c23r7 : List AOper := [
 ⟨(some 4), none, .mv (.c (.i .i64 0))⟩]
def c23r8 : List AOper := [
 ⟨(some 20), none, .mv (.t 4)⟩,
 ⟨(some 21), none, .mv (.t 3)⟩,
 ⟨(some 22), none, .bin false .lss (.t 20) (.t 21)⟩]
def c23r9 : List AOper := [
 ⟨(some 25), none, .mv (.t 0)⟩,
 ⟨(some 26), none, .mv (.t 4)⟩,
 ⟨(some 27), none, .ia 7 (.t 25) (.t 26)⟩,
 ⟨(some 28), none, .fa (.t 27) 0⟩,
 ⟨(some 29), none, .ld none (.t 28)⟩,
 ⟨(some 30), none, .mv (.t 0)⟩,
 ⟨(some 31), none, .mv (.t 3)⟩,
 ⟨(some 32), none, .ia 7 (.t 30) (.t 31)⟩,
 ⟨(some 33), none, .fa (.t 32) 0⟩,
 ⟨(some 34), none, .ld none (.t 33)⟩,
 ⟨(some 35), none, .bin false .eql (.t 29) (.t 34)⟩]
def c23r10 : List AOper := [
 ⟨(some 2), none, .mv (.c (.b false))⟩]
def c23r11 : List AOper := [
 ⟨(some 23), none, .mv (.t 4)⟩,
 ⟨(some 24), none, .bin false .add (.t 23) (.c (.i .i64 1))⟩,
 ⟨(some 4), none, .mv (.t 24)⟩]
abbrev c23b12 : AC := (.seq (.seq (.reg c23r8) (.cond (.t 22) .skip (.exit 2))) (.seq (.blk 3 (.seq (.head 10 c23r9) (.cond (.t 35) (.seq (.reg c23r10) .ret) .skip))) (.reg c23r11)))
def c23r13 : List AOper := [
 ⟨(some 12), none, .mv (.t 3)⟩,
 ⟨(some 13), none, .bin false .add (.t 12) (.c (.i .i64 1))⟩,
 ⟨(some 3), none, .mv (.t 13)⟩]
abbrev c23b14 : AC := (.seq (.seq (.reg c23r4) (.cond (.t 11) .skip (.exit 0))) (.seq (.blk 1 (.seq (.seq (.reg c23r5) (.cond (.t 19) (.seq (.reg c23r6) .ret) .skip)) (.seq (.reg c23r7) (.blk 2 (.loop c23b12))))) (.reg c23r13)))
def c23r15 : List AOper := [
 ⟨(some 2), none, .mv (.c (.b true))⟩]
abbrev c23 : AC := (.seq (.reg c23r0) (.seq (.seq (.reg c23r1) (.cond (.t 7) (.seq (.reg c23r2) .ret) .skip)) (.seq (.seq (.reg c23r3) (.blk 0 (.loop c23b14))) (.seq (.reg c23r15) .ret))))
def q23 : List ARes := [.t 2]
theorem fn23 : fnOf Try.prog 23 = some (c23, q23, 36) := by kernel_rfl
def c26r0 : List AOper := [
 ⟨(some 2), none, .mv (.c (.b false))⟩]
def c26r1 : List AOper := [
 ⟨(some 6), none, .mv (.t 0)⟩,
 ⟨(some 7), none, .len (.t 6)⟩,
 ⟨(some 8), none, .bin false .gtr (.t 7) (.c (.i .i64 40))⟩]
def c26r2 : List AOper := [
 ⟨(some 2), none, .mv (.c (.b false))⟩]
def c26r3 : List AOper := [
 ⟨(some 9), none, .mkm⟩,
 ⟨(some 3), none, .mv (.t 9)⟩]
def c26r4 : List AOper := [
 ⟨(some 10), none, .mv (.t 0)⟩,
 ⟨(some 11), none, .len (.t 10)⟩,
 ⟨(some 12), none, .mv (.c (.i .i64 0))⟩]
def c26r5 : List AOper := [
 ⟨(some 13), none, .bin false .lss (.t 12) (.t 11)⟩]
def c26r6 : List AOper := [
 ⟨(some 14), none, .ia 7 (.t 10) (.t 12)⟩,
 ⟨(some 15), none, .ld (some 7) (.t 14)⟩,
 ⟨(some 5), none, .alloc [.i .i64 0, .i .i64 0, .i .i64 0, .i .i64 0, .i .i64 0, .i .i64 0, .i .i64 0]⟩,
 ⟨none, none, .sto (some 7) (.t 5) (.t 15)⟩]
def c26r7 : List AOper := [
 ⟨(some 16), none, .ld (some 7) (.t 5)⟩,
 ⟨(some 17), none, .call (.c (.fn 57 [] [])) [(.t 16)]⟩,
 ⟨(some 18), none, .not (.t 17)⟩,
 ⟨(some 19), none, .mv (.t 18)⟩,
 ⟨(some 20), (some (19, false)), .mv (.t 3)⟩,
 ⟨(some 21), (some (19, false)), .fa (.t 5) 0⟩,
 ⟨(some 22), (some (19, false)), .ld none (.t 21)⟩,
 ⟨(some 23), (some (19, false)), .mlk none (.b false) false (.t 20) (.t 22)⟩,
 ⟨(some 24), none, .pick (.t 19) (.c (.b true)) (.t 23)⟩]
def c26r8 : List AOper := [
 ⟨(some 2), none, .mv (.c (.b false))⟩]
def c26r9 : List AOper := [
 ⟨(some 25), none, .mv (.t 3)⟩,
 ⟨(some 26), none, .fa (.t 5) 0⟩,
 ⟨(some 27), none, .ld none (.t 26)⟩,
 ⟨none, none, .mup none (.t 25) (.t 27) (.c (.b true))⟩]
def c26r10 : List AOper := [
 ⟨(some 28), none, .bin false .add (.t 12) (.c (.i .i64 1))⟩,
 ⟨(some 12), none, .mv (.t 28)⟩]
abbrev c26b11 : AC := (.seq (.reg c26r5) (.seq (.cond (.t 13) .skip (.exit 0)) (.seq (.blk 1 (.seq (.reg c26r6) (.seq (.seq (.reg c26r7) (.cond (.t 24) (.seq (.reg c26r8) .ret) .skip)) (.reg c26r9)))) (.reg c26r10))))
def c26r12 : List AOper := [
 ⟨(some 2), none, .mv (.c (.b true))⟩]
abbrev c26 : AC := (.seq (.reg c26r0) (.seq (.seq (.reg c26r1) (.cond (.t 8) (.seq (.reg c26r2) .ret) .skip)) (.seq (.reg c26r3) (.seq (.seq (.reg c26r4) (.blk 0 (.loop c26b11))) (.seq (.reg c26r12) .ret)))))
def q26 : List ARes := [.t 2]
theorem fn26 : fnOf Try.prog 26 = some (c26, q26, 29) := by kernel_rfl
def c27r0 : List AOper := [
 ⟨(some 6), none, .mv (.c (.i .i64 0))⟩,
 ⟨(some 7), none, .mv (.c (.i .i64 0))⟩]
def c27r1 : List AOper := [
 ⟨(some 15), none, .mv (.t 0)⟩,
 ⟨(some 16), none, .call (.c (.fn 26 [] [])) [(.t 15)]⟩,
 ⟨(some 17), none, .not (.t 16)⟩,
 ⟨(some 14), none, .mv (.t 17)⟩]
def c27r2 : List AOper := [
 ⟨(some 6), none, .mv (.c (.i .i64 0))⟩,
 ⟨(some 7), none, .mv (.c (.i .i64 60))⟩]
def c27r3 : List AOper := [
 ⟨(some 19), none, .mv (.t 1)⟩,
 ⟨(some 20), none, .mv (.t 2)⟩,
 ⟨(some 21), none, .call (.c (.fn 59 [] [])) [(.t 19), (.t 20)]⟩,
 ⟨(some 22), none, .not (.t 21)⟩,
 ⟨(some 18), none, .mv (.t 22)⟩]
def c27r4 : List AOper := [
 ⟨(some 6), none, .mv (.c (.i .i64 0))⟩,
 ⟨(some 7), none, .mv (.c (.i .i64 2))⟩]
def c27r5 : List AOper := [
 ⟨(some 24), none, .mv (.t 0)⟩,
 ⟨(some 25), none, .len (.t 24)⟩,
 ⟨(some 26), none, .bin false .eql (.t 25) (.c (.i .i64 0))⟩,
 ⟨(some 23), none, .mv (.t 26)⟩]
def c27r6 : List AOper := [
 ⟨(some 6), none, .mv (.c (.i .i64 0))⟩,
 ⟨(some 7), none, .mv (.c (.i .i64 0))⟩]
def c27r7 : List AOper := [
 ⟨(some 8), none, .mv (.c (.i .i64 0))⟩,
 ⟨(some 9), none, .mv (.c (.i .i64 0))⟩]
def c27r8 : List AOper := [
 ⟨(some 27), none, .mv (.t 0)⟩,
 ⟨(some 28), none, .len (.t 27)⟩,
 ⟨(some 29), none, .mv (.c (.i .i64 0))⟩]
def c27r9 : List AOper := [
 ⟨(some 30), none, .bin false .lss (.t 29) (.t 28)⟩]
def c27r10 : List AOper := [
 ⟨(some 31), none, .ia 7 (.t 27) (.t 29)⟩,
 ⟨(some 32), none, .ld (some 7) (.t 31)⟩,
 ⟨(some 11), none, .alloc [.i .i64 0, .i .i64 0, .i .i64 0, .i .i64 0, .i .i64 0, .i .i64 0, .i .i64 0]⟩,
 ⟨none, none, .sto (some 7) (.t 11) (.t 32)⟩]
def c27r11 : List AOper := [
 ⟨(some 33), none, .mv (.t 8)⟩,
 ⟨(some 34), none, .ld (some 7) (.t 11)⟩,
 ⟨(some 35), none, .call (.c (.fn 60 [] [])) [(.t 34)]⟩,
 ⟨(some 36), none, .bin false .add (.t 33) (.t 35)⟩,
 ⟨(some 8), none, .mv (.t 36)⟩]
def c27r12 : List AOper := [
 ⟨(some 37), none, .mv (.t 9)⟩,
 ⟨(some 38), none, .ld (some 7) (.t 11)⟩,
 ⟨(some 39), none, .call (.c (.fn 60 [] [])) [(.t 38)]⟩,
 ⟨(some 40), none, .mm true (.t 37) [(.t 39)]⟩,
 ⟨(some 9), none, .mv (.t 40)⟩]
def c27r13 : List AOper := [
 ⟨(some 41), none, .bin false .add (.t 29) (.c (.i .i64 1))⟩,
 ⟨(some 29), none, .mv (.t 41)⟩]
abbrev c27b14 : AC := (.seq (.reg c27r9) (.seq (.cond (.t 30) .skip (.exit 1)) (.seq (.blk 2 (.seq (.reg c27r10) (.seq (.reg c27r11) (.reg c27r12)))) (.reg c27r13))))
def c27r15 : List AOper := [
 ⟨(some 42), none, .mv (.t 8)⟩,
 ⟨(some 43), none, .mv (.t 2)⟩,
 ⟨(some 44), none, .bin false .add (.t 42) (.t 43)⟩,
 ⟨(some 12), none, .mv (.t 44)⟩]
def c27r16 : List AOper := [
 ⟨(some 13), none, .mv (.c (.i .i64 1))⟩]
def c27r17 : List AOper := [
 ⟨(some 45), none, .mv (.t 13)⟩,
 ⟨(some 46), none, .mv (.t 1)⟩,
 ⟨(some 47), none, .mv (.t 0)⟩,
 ⟨(some 48), none, .len (.t 47)⟩,
 ⟨(some 49), none, .mm false (.t 46) [(.t 48)]⟩,
 ⟨(some 50), none, .bin false .leq (.t 45) (.t 49)⟩]
def c27r18 : List AOper := [
 ⟨(some 53), none, .mv (.t 12)⟩,
 ⟨(some 54), none, .mv (.t 8)⟩,
 ⟨(some 55), none, .mv (.t 13)⟩,
 ⟨(some 56), none, .mv (.t 2)⟩,
 ⟨(some 57), none, .bin false .mul (.t 55) (.t 56)⟩,
 ⟨(some 58), none, .bin false .add (.t 54) (.t 57)⟩,
 ⟨(some 59), none, .mv (.t 13)⟩,
 ⟨(some 60), none, .bin false .add (.t 58) (.t 59)⟩,
 ⟨(some 61), none, .bin false .sub (.t 60) (.c (.i .i64 1))⟩,
 ⟨(some 62), none, .mv (.t 13)⟩,
 ⟨(some 63), none, .bin false .quo (.t 61) (.t 62)⟩,
 ⟨(some 64), none, .mm false (.t 53) [(.t 63)]⟩,
 ⟨(some 12), none, .mv (.t 64)⟩]
def c27r19 : List AOper := [
 ⟨(some 51), none, .mv (.t 13)⟩,
 ⟨(some 52), none, .bin false .add (.t 51) (.c (.i .i64 1))⟩,
 ⟨(some 13), none, .mv (.t 52)⟩]
abbrev c27b20 : AC := (.seq (.seq (.reg c27r17) (.cond (.t 50) .skip (.exit 3))) (.seq (.blk 4 (.reg c27r18)) (.reg c27r19)))
def c27r21 : List AOper := [
 ⟨(some 65), none, .mv (.t 12)⟩,
 ⟨(some 66), none, .mv (.t 9)⟩,
 ⟨(some 67), none, .mv (.t 2)⟩,
 ⟨(some 68), none, .bin false .add (.t 66) (.t 67)⟩,
 ⟨(some 69), none, .mm true (.t 65) [(.t 68)]⟩,
 ⟨(some 6), none, .mv (.t 69)⟩,
 ⟨(some 7), none, .mv (.c (.i .i64 0))⟩]
abbrev c27 : AC := (.seq (.reg c27r0) (.seq (.blk 0 (.seq (.reg c27r1) (.cond (.t 14) (.seq (.reg c27r2) .ret) (.seq (.reg c27r3) (.cond (.t 18) (.seq (.reg c27r4) .ret) (.seq (.reg c27r5) (.cond (.t 23) (.seq (.reg c27r6) .ret) .skip))))))) (.seq (.reg c27r7) (.seq (.seq (.reg c27r8) (.blk 1 (.loop c27b14))) (.seq (.reg c27r15) (.seq (.seq (.reg c27r16) (.blk 3 (.loop c27b20))) (.seq (.reg c27r21) .ret)))))))
def q27 : List ARes := [.t 6, .t 7]
theorem fn27 : fnOf Try.prog 27 = some (c27, q27, 70) := by kernel_rfl
def c32r0 : List AOper := [
 ⟨(some 4), none, .mv (.c (.b false))⟩,
 ⟨(some 5), none, .mv (.c (.i .i64 0))⟩]
def c32r1 : List AOper := [
 ⟨(some 8), none, .mv (.t 0)⟩,
 ⟨(some 9), none, .call (.c (.fn 23 [] [])) [(.t 8)]⟩,
 ⟨(some 10), none, .not (.t 9)⟩]
def c32r2 : List AOper := [
 ⟨(some 4), none, .mv (.c (.b false))⟩,
 ⟨(some 5), none, .mv (.c (.i .i64 60))⟩]
def c32r3 : List AOper := [
 ⟨(some 11), none, .mv (.t 0)⟩,
 ⟨(some 12), none, .mv (.t 1)⟩,
 ⟨(some 13), none, .call (.c (.fn 70 [] [])) [(.t 11), (.t 12)]⟩,
 ⟨(some 14), none, .not (.t 13)⟩]
def c32r4 : List AOper := [
 ⟨(some 4), none, .mv (.c (.b false))⟩,
 ⟨(some 5), none, .mv (.c (.i .i64 2))⟩]
def c32r5 : List AOper := [
 ⟨(some 6), none, .mv (.c (.i .i64 0))⟩]
def c32r6 : List AOper := [
 ⟨(some 15), none, .mv (.t 6)⟩,
 ⟨(some 16), none, .mv (.t 1)⟩,
 ⟨(some 17), none, .len (.t 16)⟩,
 ⟨(some 18), none, .bin false .lss (.t 15) (.t 17)⟩]
def c32r7 : List AOper := [
 ⟨(some 7), none, .mv (.c (.i .i64 0))⟩]
def c32r8 : List AOper := [
 ⟨(some 21), none, .mv (.t 7)⟩,
 ⟨(some 22), none, .mv (.t 6)⟩,
 ⟨(some 23), none, .bin false .lss (.t 21) (.t 22)⟩]
def c32r9 : List AOper := [
 ⟨(some 26), none, .mv (.t 0)⟩,
 ⟨(some 27), none, .mv (.t 1)⟩,
 ⟨(some 28), none, .mv (.t 6)⟩,
 ⟨(some 29), none, .ia 1 (.t 27) (.t 28)⟩,
 ⟨(some 30), none, .ld none (.t 29)⟩,
 ⟨(some 31), none, .ia 7 (.t 26) (.t 30)⟩,
 ⟨(some 32), none, .ld (some 7) (.t 31)⟩,
 ⟨(some 33), none, .mv (.t 0)⟩,
 ⟨(some 34), none, .mv (.t 1)⟩,
 ⟨(some 35), none, .mv (.t 7)⟩,
 ⟨(some 36), none, .ia 1 (.t 34) (.t 35)⟩,
 ⟨(some 37), none, .ld none (.t 36)⟩,
 ⟨(some 38), none, .ia 7 (.t 33) (.t 37)⟩,
 ⟨(some 39), none, .ld (some 7) (.t 38)⟩,
 ⟨(some 40), none, .call (.c (.fn 71 [] [])) [(.t 32), (.t 39)]⟩,
 ⟨(some 41), none, .not (.t 40)⟩]
def c32r10 : List AOper := [
 ⟨(some 4), none, .mv (.c (.b false))⟩,
 ⟨(some 5), none, .mv (.c (.i .i64 0))⟩]
def c32r11 : List AOper := [
 ⟨(some 24), none, .mv (.t 7)⟩,
 ⟨(some 25), none, .bin false .add (.t 24) (.c (.i .i64 1))⟩,
 ⟨(some 7), none, .mv (.t 25)⟩]
abbrev c32b12 : AC := (.seq (.seq (.reg c32r8) (.cond (.t 23) .skip (.exit 2))) (.seq (.blk 3 (.seq (.head 14 c32r9) (.cond (.t 41) (.seq (.reg c32r10) .ret) .skip))) (.reg c32r11)))
def c32r13 : List AOper := [
 ⟨(some 19), none, .mv (.t 6)⟩,
 ⟨(some 20), none, .bin false .add (.t 19) (.c (.i .i64 1))⟩,
 ⟨(some 6), none, .mv (.t 20)⟩]
abbrev c32b14 : AC := (.seq (.seq (.reg c32r6) (.cond (.t 18) .skip (.exit 0))) (.seq (.blk 1 (.seq (.reg c32r7) (.blk 2 (.loop c32b12)))) (.reg c32r13)))
def c32r15 : List AOper := [
 ⟨(some 4), none, .mv (.c (.b true))⟩,
 ⟨(some 5), none, .mv (.c (.i .i64 0))⟩]
abbrev c32 : AC := (.seq (.reg c32r0) (.seq (.seq (.reg c32r1) (.cond (.t 10) (.seq (.reg c32r2) .ret) .skip)) (.seq (.seq (.reg c32r3) (.cond (.t 14) (.seq (.reg c32r4) .ret) .skip)) (.seq (.seq (.reg c32r5) (.blk 0 (.loop c32b14))) (.seq (.reg c32r15) .ret)))))
def q32 : List ARes := [.t 4, .t 5]
theorem fn32 : fnOf Try.prog 32 = some (c32, q32, 42) := by kernel_rfl
def c33r0 : List AOper := [
 ⟨(some 4), none, .mv (.c (.i .i64 0))⟩,
 ⟨(some 5), none, .mv (.c (.i .i64 0))⟩]
def c33r1 : List AOper := [
 ⟨(some 10), none, .mv (.t 0)⟩,
 ⟨(some 11), none, .mv (.t 1)⟩,
 ⟨(some 12), none, .call (.c (.fn 69 [] [])) [(.t 10), (.t 11)]⟩,
 ⟨(some 6), none, .mv (.t 12)⟩]
def c33r2 : List AOper := [
 ⟨(some 13), none, .mv (.t 6)⟩,
 ⟨(some 14), none, .bin false .neq (.t 13) (.c (.i .i64 0))⟩]
def c33r3 : List AOper := [
 ⟨(some 15), none, .mv (.t 6)⟩,
 ⟨(some 4), none, .mv (.c (.i .i64 0))⟩,
 ⟨(some 5), none, .mv (.t 15)⟩]
def c33r4 : List AOper := [
 ⟨(some 7), none, .mv (.c (.i .i64 0))⟩]
def c33r5 : List AOper := [
 ⟨(some 16), none, .mv (.t 1)⟩,
 ⟨(some 17), none, .len (.t 16)⟩,
 ⟨(some 18), none, .mv (.c (.i .i64 0))⟩]
def c33r6 : List AOper := [
 ⟨(some 19), none, .bin false .lss (.t 18) (.t 17)⟩]
def c33r7 : List AOper := [
 ⟨(some 20), none, .ia 1 (.t 16) (.t 18)⟩,
 ⟨(some 21), none, .ld none (.t 20)⟩,
 ⟨(some 9), none, .mv (.t 21)⟩]
def c33r8 : List AOper := [
 ⟨(some 22), none, .mv (.t 7)⟩,
 ⟨(some 23), none, .mv (.t 0)⟩,
 ⟨(some 24), none, .mv (.t 9)⟩,
 ⟨(some 25), none, .ia 7 (.t 23) (.t 24)⟩,
 ⟨(some 26), none, .ld (some 7) (.t 25)⟩,
 ⟨(some 27), none, .call (.c (.fn 60 [] [])) [(.t 26)]⟩,
 ⟨(some 28), none, .bin false .add (.t 22) (.t 27)⟩,
 ⟨(some 7), none, .mv (.t 28)⟩]
def c33r9 : List AOper := [
 ⟨(some 29), none, .bin false .add (.t 18) (.c (.i .i64 1))⟩,
 ⟨(some 18), none, .mv (.t 29)⟩]
abbrev c33b10 : AC := (.seq (.reg c33r6) (.seq (.cond (.t 19) .skip (.exit 0)) (.seq (.blk 1 (.seq (.reg c33r7) (.reg c33r8))) (.reg c33r9))))
def c33r11 : List AOper := [
 ⟨(some 30), none, .mv (.t 7)⟩,
 ⟨(some 4), none, .mv (.t 30)⟩,
 ⟨(some 5), none, .mv (.c (.i .i64 0))⟩]
abbrev c33 : AC := (.seq (.reg c33r0) (.seq (.seq (.reg c33r1) (.seq (.reg c33r2) (.cond (.t 14) (.seq (.reg c33r3) .ret) .skip))) (.seq (.reg c33r4) (.seq (.seq (.reg c33r5) (.blk 0 (.loop c33b10))) (.seq (.reg c33r11) .ret)))))
def q33 : List ARes := [.t 4, .t 5]
theorem fn33 : fnOf Try.prog 33 = some (c33, q33, 31) := by kernel_rfl
def c36r0 : List AOper := [
 ⟨(some 2), none, .box (.t 0)⟩,
 ⟨(some 4), none, .mv (.c (.i .i64 0))⟩]
def c36r1 : List AOper := [
 ⟨(some 13), none, .ld none (.t 2)⟩,
 ⟨(some 14), none, .call (.c (.fn 26 [] [])) [(.t 13)]⟩,
 ⟨(some 15), none, .not (.t 14)⟩]
def c36r2 : List AOper := [
 ⟨(some 4), none, .mv (.c (.i .i64 60))⟩]
def c36r3 : List AOper := [
 ⟨(some 16), none, .mv (.t 1)⟩,
 ⟨(some 17), none, .call (.c (.fn 72 [] [])) [(.t 16)]⟩,
 ⟨(some 5), none, .mv (.t 17)⟩]
def c36r4 : List AOper := [
 ⟨(some 18), none, .mv (.t 5)⟩,
 ⟨(some 19), none, .mkf 74 [] [(.t 2)]⟩,
 ⟨(some 20), none, .call (.c (.fn 73 [] [])) [(.t 18), (.t 19)]⟩]
def c36r5 : List AOper := [
 ⟨(some 4), none, .mv (.c (.i .i64 2))⟩]
def c36r6 : List AOper := [
 ⟨(some 21), none, .ld none (.t 2)⟩,
 ⟨(some 22), none, .len (.t 21)⟩,
 ⟨(some 23), none, .mks 1 1 [.b false] (.t 22) (.t 22)⟩,
 ⟨(some 6), none, .mv (.t 23)⟩]
def c36r7 : List AOper := [
 ⟨(some 24), none, .mv (.t 5)⟩,
 ⟨(some 25), none, .len (.t 24)⟩,
 ⟨(some 26), none, .mv (.c (.i .i64 0))⟩]
def c36r8 : List AOper := [
 ⟨(some 27), none, .bin false .lss (.t 26) (.t 25)⟩]
def c36r9 : List AOper := [
 ⟨(some 28), none, .ia 1 (.t 24) (.t 26)⟩,
 ⟨(some 29), none, .ld none (.t 28)⟩,
 ⟨(some 8), none, .mv (.t 29)⟩]
def c36r10 : List AOper := [
 ⟨(some 30), none, .mv (.t 6)⟩,
 ⟨(some 31), none, .mv (.t 8)⟩,
 ⟨(some 32), none, .ia 1 (.t 30) (.t 31)⟩,
 ⟨(some 33), none, .ld none (.t 32)⟩]
def c36r11 : List AOper := [
 ⟨(some 4), none, .mv (.c (.i .i64 43))⟩]
def c36r12 : List AOper := [
 ⟨(some 34), none, .mv (.t 6)⟩,
 ⟨(some 35), none, .mv (.t 8)⟩,
 ⟨(some 36), none, .ia 1 (.t 34) (.t 35)⟩,
 ⟨none, none, .sto none (.t 36) (.c (.b true))⟩]
def c36r13 : List AOper := [
 ⟨(some 37), none, .bin false .add (.t 26) (.c (.i .i64 1))⟩,
 ⟨(some 26), none, .mv (.t 37)⟩]
abbrev c36b14 : AC := (.seq (.reg c36r8) (.seq (.cond (.t 27) .skip (.exit 0)) (.seq (.blk 1 (.seq (.reg c36r9) (.seq (.seq (.reg c36r10) (.cond (.t 33) (.seq (.reg c36r11) .ret) .skip)) (.reg c36r12)))) (.reg c36r13))))
def c36r15 : List AOper := [
 ⟨(some 9), none, .mv (.c (.b false))⟩]
def c36r16 : List AOper := [
 ⟨(some 38), none, .mv (.t 1)⟩,
 ⟨(some 39), none, .len (.t 38)⟩,
 ⟨(some 40), none, .mv (.c (.i .i64 0))⟩]
def c36r17 : List AOper := [
 ⟨(some 41), none, .bin false .lss (.t 40) (.t 39)⟩]
def c36r18 : List AOper := [
 ⟨(some 42), none, .ia 1 (.t 38) (.t 40)⟩,
 ⟨(some 43), none, .ld none (.t 42)⟩,
 ⟨(some 11), none, .mv (.t 43)⟩]
def c36r19 : List AOper := [
 ⟨(some 44), none, .mv (.t 9)⟩,
 ⟨(some 45), none, .mv (.t 44)⟩,
 ⟨(some 46), (some (45, false)), .mv (.t 11)⟩,
 ⟨(some 47), (some (45, false)), .len (.t 46)⟩,
 ⟨(some 48), (some (45, false)), .bin false .eql (.t 47) (.c (.i .i64 0))⟩,
 ⟨(some 49), none, .pick (.t 45) (.c (.b true)) (.t 48)⟩,
 ⟨(some 9), none, .mv (.t 49)⟩]
def c36r20 : List AOper := [
 ⟨(some 12), none, .mv (.c (.i .i64 1))⟩]
def c36r21 : List AOper := [
 ⟨(some 50), none, .mv (.t 12)⟩,
 ⟨(some 51), none, .mv (.t 11)⟩,
 ⟨(some 52), none, .len (.t 51)⟩,
 ⟨(some 53), none, .bin false .lss (.t 50) (.t 52)⟩]
def c36r22 : List AOper := [
 ⟨(some 56), none, .ld none (.t 2)⟩,
 ⟨(some 57), none, .mv (.t 11)⟩,
 ⟨(some 58), none, .mv (.t 12)⟩,
 ⟨(some 59), none, .bin false .sub (.t 58) (.c (.i .i64 1))⟩,
 ⟨(some 60), none, .ia 1 (.t 57) (.t 59)⟩,
 ⟨(some 61), none, .ld none (.t 60)⟩,
 ⟨(some 62), none, .ia 7 (.t 56) (.t 61)⟩,
 ⟨(some 63), none, .ld (some 7) (.t 62)⟩,
 ⟨(some 64), none, .ld none (.t 2)⟩,
 ⟨(some 65), none, .mv (.t 11)⟩,
 ⟨(some 66), none, .mv (.t 12)⟩,
 ⟨(some 67), none, .ia 1 (.t 65) (.t 66)⟩,
 ⟨(some 68), none, .ld none (.t 67)⟩,
 ⟨(some 69), none, .ia 7 (.t 64) (.t 68)⟩,
 ⟨(some 70), none, .ld (some 7) (.t 69)⟩,
 ⟨(some 71), none, .call (.c (.fn 58 [] [])) [(.t 63), (.t 70)]⟩,
 ⟨(some 72), none, .not (.t 71)⟩]
def c36r23 : List AOper := [
 ⟨(some 4), none, .mv (.c (.i .i64 61))⟩]
def c36r24 : List AOper := [
 ⟨(some 54), none, .mv (.t 12)⟩,
 ⟨(some 55), none, .bin false .add (.t 54) (.c (.i .i64 1))⟩,
 ⟨(some 12), none, .mv (.t 55)⟩]
abbrev c36b25 : AC := (.seq (.seq (.reg c36r21) (.cond (.t 53) .skip (.exit 4))) (.seq (.blk 5 (.seq (.head 15 c36r22) (.cond (.t 72) (.seq (.reg c36r23) .ret) .skip))) (.reg c36r24)))
def c36r26 : List AOper := [
 ⟨(some 73), none, .bin false .add (.t 40) (.c (.i .i64 1))⟩,
 ⟨(some 40), none, .mv (.t 73)⟩]
abbrev c36b27 : AC := (.seq (.reg c36r17) (.seq (.cond (.t 41) .skip (.exit 2)) (.seq (.blk 3 (.seq (.reg c36r18) (.seq (.reg c36r19) (.seq (.reg c36r20) (.blk 4 (.loop c36b25)))))) (.reg c36r26))))
def c36r28 : List AOper := [
 ⟨(some 74), none, .mv (.t 9)⟩,
 ⟨(some 75), none, .mv (.t 74)⟩,
 ⟨(some 76), (some (75, false)), .mv (.t 6)⟩,
 ⟨(some 77), (some (75, false)), .call (.c (.fn 75 [] [])) [(.t 76), (.c (.b false))]⟩,
 ⟨(some 78), none, .pick (.t 75) (.c (.b true)) (.t 77)⟩]
def c36r29 : List AOper := [
 ⟨(some 4), none, .mv (.c (.i .i64 4))⟩]
def c36r30 : List AOper := [
 ⟨(some 4), none, .mv (.c (.i .i64 0))⟩]
abbrev c36 : AC := (.seq (.reg c36r0) (.seq (.seq (.reg c36r1) (.cond (.t 15) (.seq (.reg c36r2) .ret) .skip)) (.seq (.reg c36r3) (.seq (.seq (.reg c36r4) (.cond (.t 20) (.seq (.reg c36r5) .ret) .skip)) (.seq (.reg c36r6) (.seq (.seq (.reg c36r7) (.blk 0 (.loop c36b14))) (.seq (.reg c36r15) (.seq (.seq (.reg c36r16) (.blk 2 (.loop c36b27))) (.seq (.seq (.reg c36r28) (.cond (.t 78) (.seq (.reg c36r29) .ret) .skip)) (.seq (.reg c36r30) .ret))))))))))
def q36 : List ARes := [.t 4]
theorem fn36 : fnOf Try.prog 36 = some (c36, q36, 79) := by kernel_rfl
def c38r0 : List AOper := [
 ⟨(some 8), none, .mv (.c (.sl 0 0 0 0))⟩,
 ⟨(some 9), none, .mv (.c (.i .i64 0))⟩]
def c38r1 : List AOper := [
 ⟨(some 19), none, .mv (.t 0)⟩,
 ⟨(some 20), none, .mv (.t 1)⟩,
 ⟨(some 21), none, .call (.c (.fn 36 [] [])) [(.t 19), (.t 20)]⟩,
 ⟨(some 10), none, .mv (.t 21)⟩]
def c38r2 : List AOper := [
 ⟨(some 22), none, .mv (.t 10)⟩,
 ⟨(some 23), none, .bin false .neq (.t 22) (.c (.i .i64 0))⟩]
def c38r3 : List AOper := [
 ⟨(some 24), none, .mv (.t 10)⟩,
 ⟨(some 8), none, .mv (.c (.sl 0 0 0 0))⟩,
 ⟨(some 9), none, .mv (.t 24)⟩]
def c38r4 : List AOper := [
 ⟨(some 25), none, .mv (.t 2)⟩,
 ⟨(some 26), none, .mv (.t 3)⟩,
 ⟨(some 27), none, .call (.c (.fn 59 [] [])) [(.t 25), (.t 26)]⟩,
 ⟨(some 28), none, .not (.t 27)⟩]
def c38r5 : List AOper := [
 ⟨(some 8), none, .mv (.c (.sl 0 0 0 0))⟩,
 ⟨(some 9), none, .mv (.c (.i .i64 2))⟩]
def c38r6 : List AOper := [
 ⟨(some 29), none, .mv (.t 2)⟩,
 ⟨(some 30), none, .mks 1 24 [.sl 0 0 0 0] (.t 29) (.t 29)⟩,
 ⟨(some 11), none, .mv (.t 30)⟩]
def c38r7 : List AOper := [
 ⟨(some 31), none, .mv (.t 2)⟩,
 ⟨(some 32), none, .mks 1 8 [.i .i64 0] (.t 31) (.t 31)⟩,
 ⟨(some 12), none, .mv (.t 32)⟩]
def c38r8 : List AOper := [
 ⟨(some 33), none, .mv (.t 1)⟩,
 ⟨(some 34), none, .len (.t 33)⟩,
 ⟨(some 35), none, .mv (.c (.i .i64 0))⟩]
def c38r9 : List AOper := [
 ⟨(some 36), none, .bin false .lss (.t 35) (.t 34)⟩]
def c38r10 : List AOper := [
 ⟨(some 37), none, .ia 1 (.t 33) (.t 35)⟩,
 ⟨(some 38), none, .ld none (.t 37)⟩,
 ⟨(some 14), none, .mv (.t 38)⟩]
def c38r11 : List AOper := [
 ⟨(some 39), none, .mv (.t 12)⟩,
 ⟨(some 40), none, .mv (.t 12)⟩,
 ⟨(some 41), none, .call (.c (.fn 77 [] [])) [(.t 40)]⟩,
 ⟨(some 42), none, .call (.c (.fn 76 [] [])) [(.t 39), (.t 41)]⟩,
 ⟨(some 15), none, .mv (.t 42)⟩]
def c38r12 : List AOper := [
 ⟨(some 43), none, .mv (.t 14)⟩,
 ⟨(some 44), none, .len (.t 43)⟩,
 ⟨(some 45), none, .mv (.c (.i .i64 0))⟩]
def c38r13 : List AOper := [
 ⟨(some 46), none, .bin false .lss (.t 45) (.t 44)⟩]
def c38r14 : List AOper := [
 ⟨(some 47), none, .mv (.t 45)⟩,
 ⟨(some 48), none, .ia 1 (.t 43) (.t 45)⟩,
 ⟨(some 49), none, .ld none (.t 48)⟩,
 ⟨(some 16), none, .mv (.t 47)⟩,
 ⟨(some 17), none, .mv (.t 49)⟩]
def c38r15 : List AOper := [
 ⟨(some 50), none, .mv (.t 17)⟩,
 ⟨(some 51), none, .mv (.t 12)⟩,
 ⟨(some 52), none, .mv (.t 15)⟩,
 ⟨(some 53), none, .ia 1 (.t 51) (.t 52)⟩,
 ⟨(some 54), none, .ld none (.t 53)⟩,
 ⟨(some 55), none, .mv (.t 12)⟩,
 ⟨(some 56), none, .mv (.t 15)⟩,
 ⟨(some 57), none, .ia 1 (.t 55) (.t 56)⟩,
 ⟨(some 58), none, .ld none (.t 57)⟩,
 ⟨(some 59), none, .mv (.t 0)⟩,
 ⟨(some 60), none, .mv (.t 17)⟩,
 ⟨(some 61), none, .ia 7 (.t 59) (.t 60)⟩,
 ⟨(some 62), none, .ld (some 7) (.t 61)⟩,
 ⟨(some 63), none, .call (.c (.fn 60 [] [])) [(.t 62)]⟩,
 ⟨(some 64), none, .bin false .add (.t 58) (.t 63)⟩,
 ⟨(some 65), none, .mv (.t 16)⟩,
 ⟨(some 66), none, .bin false .eql (.t 65) (.c (.i .i64 0))⟩,
 ⟨(some 67), none, .bld [.i .i64 0, .i .i64 0, .i .i64 0, .b false] [(0, 1, (.t 50)), (1, 1, (.t 54)), (2, 1, (.t 64)), (3, 1, (.t 66))]⟩,
 ⟨(some 18), none, .alloc [.i .i64 0, .i .i64 0, .i .i64 0, .b false]⟩,
 ⟨none, none, .sto (some 4) (.t 18) (.t 67)⟩]
def c38r16 : List AOper := [
 ⟨(some 68), none, .fa (.t 18) 3⟩,
 ⟨(some 69), none, .ld none (.t 68)⟩]
def c38r17 : List AOper := [
 ⟨(some 70), none, .fa (.t 18) 2⟩,
 ⟨(some 71), none, .ld none (.t 70)⟩,
 ⟨(some 72), none, .mv (.t 3)⟩,
 ⟨(some 73), none, .bin false .add (.t 71) (.t 72)⟩,
 ⟨(some 74), none, .fa (.t 18) 2⟩,
 ⟨none, none, .sto none (.t 74) (.t 73)⟩]
def c38r18 : List AOper := [
 ⟨(some 75), none, .mv (.t 11)⟩,
 ⟨(some 76), none, .mv (.t 15)⟩,
 ⟨(some 77), none, .mv (.t 11)⟩,
 ⟨(some 78), none, .mv (.t 15)⟩,
 ⟨(some 79), none, .ia 1 (.t 77) (.t 78)⟩,
 ⟨(some 80), none, .ld none (.t 79)⟩,
 ⟨(some 81), none, .ld (some 4) (.t 18)⟩,
 ⟨(some 82), none, .bsl 4 [.i .i64 0, .i .i64 0, .i .i64 0, .b false] [(0, 4, (.t 81))]⟩,
 ⟨(some 83), none, .app 4 32 (.t 80) (.t 82)⟩,
 ⟨(some 84), none, .ia 1 (.t 75) (.t 76)⟩,
 ⟨none, none, .sto none (.t 84) (.t 83)⟩]
def c38r19 : List AOper := [
 ⟨(some 85), none, .mv (.t 12)⟩,
 ⟨(some 86), none, .mv (.t 15)⟩,
 ⟨(some 87), none, .fa (.t 18) 2⟩,
 ⟨(some 88), none, .ld none (.t 87)⟩,
 ⟨(some 89), none, .ia 1 (.t 85) (.t 86)⟩,
 ⟨none, none, .sto none (.t 89) (.t 88)⟩]
def c38r20 : List AOper := [
 ⟨(some 90), none, .bin false .add (.t 45) (.c (.i .i64 1))⟩,
 ⟨(some 45), none, .mv (.t 90)⟩]
abbrev c38b21 : AC := (.seq (.reg c38r13) (.seq (.cond (.t 46) .skip (.exit 2)) (.seq (.blk 3 (.seq (.reg c38r14) (.seq (.head 19 c38r15) (.seq (.seq (.reg c38r16) (.cond (.t 69) (.reg c38r17) .skip)) (.seq (.head 8 c38r18) (.reg c38r19)))))) (.reg c38r20))))
def c38r22 : List AOper := [
 ⟨(some 91), none, .bin false .add (.t 35) (.c (.i .i64 1))⟩,
 ⟨(some 35), none, .mv (.t 91)⟩]
abbrev c38b23 : AC := (.seq (.reg c38r9) (.seq (.cond (.t 36) .skip (.exit 0)) (.seq (.blk 1 (.seq (.reg c38r10) (.seq (.reg c38r11) (.seq (.reg c38r12) (.blk 2 (.loop c38b21)))))) (.reg c38r22))))
def c38r24 : List AOper := [
 ⟨(some 92), none, .mv (.t 11)⟩,
 ⟨(some 8), none, .mv (.t 92)⟩,
 ⟨(some 9), none, .mv (.c (.i .i64 0))⟩]
abbrev c38 : AC := (.seq (.reg c38r0) (.seq (.seq (.reg c38r1) (.seq (.reg c38r2) (.cond (.t 23) (.seq (.reg c38r3) .ret) .skip))) (.seq (.seq (.reg c38r4) (.cond (.t 28) (.seq (.reg c38r5) .ret) .skip)) (.seq (.reg c38r6) (.seq (.reg c38r7) (.seq (.seq (.reg c38r8) (.blk 0 (.loop c38b23))) (.seq (.reg c38r24) .ret)))))))
def q38 : List ARes := [.t 8, .t 9]
theorem fn38 : fnOf Try.prog 38 = some (c38, q38, 93) := by kernel_rfl
def c41r0 : List AOper := [
 ⟨(some 2), none, .mv (.c (.b false))⟩]
def c41r1 : List AOper := [
 ⟨(some 3), none, .mv (.c (.i .i64 0))⟩]
def c41r2 : List AOper := [
 ⟨(some 4), none, .mv (.t 3)⟩,
 ⟨(some 5), none, .mv (.t 0)⟩,
 ⟨(some 6), none, .len (.t 5)⟩,
 ⟨(some 7), none, .bin false .lss (.t 4) (.t 6)⟩]
def c41r3 : List AOper := [
 ⟨(some 10), none, .mv (.t 0)⟩,
 ⟨(some 11), none, .mv (.t 3)⟩,
 ⟨(some 12), none, .ia 1 (.t 10) (.t 11)⟩,
 ⟨(some 13), none, .ld none (.t 12)⟩,
 ⟨(some 14), none, .len (.t 13)⟩,
 ⟨(some 15), none, .bin false .gtr (.t 14) (.c (.i .i64 110))⟩]
def c41r4 : List AOper := [
 ⟨(some 2), none, .mv (.c (.b true))⟩]
def c41r5 : List AOper := [
 ⟨(some 8), none, .mv (.t 3)⟩,
 ⟨(some 9), none, .bin false .add (.t 8) (.c (.i .i64 1))⟩,
 ⟨(some 3), none, .mv (.t 9)⟩]
abbrev c41b6 : AC := (.seq (.seq (.reg c41r2) (.cond (.t 7) .skip (.exit 0))) (.seq (.blk 1 (.seq (.reg c41r3) (.cond (.t 15) (.seq (.reg c41r4) .ret) .skip))) (.reg c41r5)))
def c41r7 : List AOper := [
 ⟨(some 16), none, .mv (.t 0)⟩,
 ⟨(some 17), none, .len (.t 16)⟩,
 ⟨(some 18), none, .bin false .gtr (.t 17) (.c (.i .i64 12))⟩,
 ⟨(some 2), none, .mv (.t 18)⟩]
abbrev c41 : AC := (.seq (.reg c41r0) (.seq (.seq (.reg c41r1) (.blk 0 (.loop c41b6))) (.seq (.reg c41r7) .ret)))
def q41 : List ARes := [.t 2]
theorem fn41 : fnOf Try.prog 41 = some (c41, q41, 19) := by kernel_rfl
def c42r0 : List AOper := [
 ⟨(some 6), none, .mv (.c (.i .i64 0))⟩,
 ⟨(some 7), none, .mv (.c (.i .i64 0))⟩,
 ⟨(some 8), none, .mv (.c (.i .i64 0))⟩]
def c42r1 : List AOper := [
 ⟨(some 16), none, .mv (.t 0)⟩,
 ⟨(some 17), none, .call (.c (.fn 26 [] [])) [(.t 16)]⟩,
 ⟨(some 18), none, .not (.t 17)⟩,
 ⟨(some 15), none, .mv (.t 18)⟩]
def c42r2 : List AOper := [
 ⟨(some 6), none, .mv (.c (.i .i64 0))⟩,
 ⟨(some 7), none, .mv (.c (.i .i64 0))⟩,
 ⟨(some 8), none, .mv (.c (.i .i64 60))⟩]
def c42r3 : List AOper := [
 ⟨(some 20), none, .mv (.t 1)⟩,
 ⟨(some 21), none, .call (.c (.fn 63 [] [])) [(.c (.i .i64 0)), (.t 20), (.c (.i .i64 100))]⟩,
 ⟨(some 22), none, .not (.t 21)⟩,
 ⟨(some 23), none, .mv (.t 22)⟩,
 ⟨(some 24), (some (23, false)), .mv (.t 2)⟩,
 ⟨(some 25), (some (23, false)), .call (.c (.fn 78 [] [])) [(.t 24)]⟩,
 ⟨(some 26), none, .pick (.t 23) (.c (.b true)) (.t 25)⟩,
 ⟨(some 19), none, .mv (.t 26)⟩]
def c42r4 : List AOper := [
 ⟨(some 6), none, .mv (.c (.i .i64 0))⟩,
 ⟨(some 7), none, .mv (.c (.i .i64 0))⟩,
 ⟨(some 8), none, .mv (.c (.i .i64 2))⟩]
def c42r5 : List AOper := [
 ⟨(some 27), none, .mv (.t 0)⟩,
 ⟨(some 28), none, .mv (.t 1)⟩,
 ⟨(some 29), none, .mv (.t 0)⟩,
 ⟨(some 30), none, .len (.t 29)⟩,
 ⟨(some 31), none, .mks 1 1 [.b false] (.t 30) (.t 30)⟩,
 ⟨(some 32), none, .bld [.sl 0 0 0 0, .i .i64 0, .sl 0 0 0 0] [(0, 1, (.t 27)), (1, 1, (.t 28)), (2, 1, (.t 31))]⟩,
 ⟨(some 33), none, .box (.t 32)⟩,
 ⟨(some 9), none, .mv (.t 33)⟩]
def c42r6 : List AOper := [
 ⟨(some 34), none, .mv (.t 2)⟩,
 ⟨(some 35), none, .len (.t 34)⟩,
 ⟨(some 36), none, .mv (.c (.i .i64 0))⟩]
def c42r7 : List AOper := [
 ⟨(some 37), none, .bin false .lss (.t 36) (.t 35)⟩]
def c42r8 : List AOper := [
 ⟨(some 38), none, .mv (.t 36)⟩,
 ⟨(some 39), none, .ia 1 (.t 34) (.t 36)⟩,
 ⟨(some 40), none, .ld none (.t 39)⟩,
 ⟨(some 10), none, .mv (.t 38)⟩,
 ⟨(some 11), none, .mv (.t 40)⟩]
def c42r9 : List AOper := [
 ⟨(some 41), none, .mv (.t 11)⟩,
 ⟨(some 42), none, .len (.t 41)⟩,
 ⟨(some 43), none, .mv (.c (.i .i64 0))⟩]
def c42r10 : List AOper := [
 ⟨(some 44), none, .bin false .lss (.t 43) (.t 42)⟩]
def c42r11 : List AOper := [
 ⟨(some 45), none, .mv (.t 43)⟩,
 ⟨(some 46), none, .ia 4 (.t 41) (.t 43)⟩,
 ⟨(some 47), none, .ld (some 4) (.t 46)⟩,
 ⟨(some 13), none, .alloc [.i .i64 0, .i .i64 0, .i .i64 0, .b false]⟩,
 ⟨(some 12), none, .mv (.t 45)⟩,
 ⟨none, none, .sto (some 4) (.t 13) (.t 47)⟩]
def c42r12 : List AOper := [
 ⟨(some 48), none, .mv (.t 9)⟩,
 ⟨(some 49), none, .mv (.t 11)⟩,
 ⟨(some 50), none, .mv (.t 12)⟩,
 ⟨(some 51), none, .sli 4 (.t 49) none (some (.t 50))⟩,
 ⟨(some 52), none, .ld (some 4) (.t 13)⟩,
 ⟨(some 53), none, .call (.c (.fn 79 [] [])) [(.t 48), (.t 51), (.t 52)]⟩,
 ⟨(some 14), none, .mv (.t 53)⟩]
def c42r13 : List AOper := [
 ⟨(some 54), none, .mv (.t 14)⟩,
 ⟨(some 55), none, .bin false .neq (.t 54) (.c (.i .i64 0))⟩]
def c42r14 : List AOper := [
 ⟨(some 56), none, .mv (.t 10)⟩,
 ⟨(some 57), none, .mv (.t 12)⟩,
 ⟨(some 58), none, .mv (.t 14)⟩,
 ⟨(some 6), none, .mv (.t 56)⟩,
 ⟨(some 7), none, .mv (.t 57)⟩,
 ⟨(some 8), none, .mv (.t 58)⟩]
def c42r15 : List AOper := [
 ⟨(some 59), none, .bin false .add (.t 43) (.c (.i .i64 1))⟩,
 ⟨(some 43), none, .mv (.t 59)⟩]
abbrev c42b16 : AC := (.seq (.reg c42r10) (.seq (.cond (.t 44) .skip (.exit 3)) (.seq (.blk 4 (.seq (.reg c42r11) (.seq (.head 5 c42r12) (.seq (.reg c42r13) (.cond (.t 55) (.seq (.reg c42r14) .ret) .skip))))) (.reg c42r15))))
def c42r17 : List AOper := [
 ⟨(some 60), none, .bin false .add (.t 36) (.c (.i .i64 1))⟩,
 ⟨(some 36), none, .mv (.t 60)⟩]
abbrev c42b18 : AC := (.seq (.reg c42r7) (.seq (.cond (.t 37) .skip (.exit 1)) (.seq (.blk 2 (.seq (.reg c42r8) (.seq (.reg c42r9) (.blk 3 (.loop c42b16))))) (.reg c42r17))))
def c42r19 : List AOper := [
 ⟨(some 61), none, .mv (.t 9)⟩,
 ⟨(some 62), none, .nck (.t 61)⟩,
 ⟨(some 63), none, .fa (.t 62) 2⟩,
 ⟨(some 64), none, .ld none (.t 63)⟩,
 ⟨(some 65), none, .call (.c (.fn 75 [] [])) [(.t 64), (.c (.b false))]⟩]
def c42r20 : List AOper := [
 ⟨(some 6), none, .mv (.c (.i .i64 0))⟩,
 ⟨(some 7), none, .mv (.c (.i .i64 0))⟩,
 ⟨(some 8), none, .mv (.c (.i .i64 4))⟩]
def c42r21 : List AOper := [
 ⟨(some 6), none, .mv (.c (.i .i64 0))⟩,
 ⟨(some 7), none, .mv (.c (.i .i64 0))⟩,
 ⟨(some 8), none, .mv (.c (.i .i64 0))⟩]
abbrev c42 : AC := (.seq (.reg c42r0) (.seq (.blk 0 (.seq (.reg c42r1) (.cond (.t 15) (.seq (.reg c42r2) .ret) (.seq (.reg c42r3) (.cond (.t 19) (.seq (.reg c42r4) .ret) .skip))))) (.seq (.reg c42r5) (.seq (.seq (.reg c42r6) (.blk 1 (.loop c42b18))) (.seq (.seq (.reg c42r19) (.cond (.t 65) (.seq (.reg c42r20) .ret) .skip)) (.seq (.reg c42r21) .ret))))))
def q42 : List ARes := [.t 6, .t 7, .t 8]
theorem fn42 : fnOf Try.prog 42 = some (c42, q42, 66) := by kernel_rfl
def c44r0 : List AOper := [
 ⟨(some 2), none, .mv (.c (.i .i64 0))⟩,
 ⟨(some 3), none, .mv (.c (.i .i64 0))⟩]
def c44r1 : List AOper := [
 ⟨(some 5), none, .mv (.t 0)⟩,
 ⟨(some 6), none, .call (.c (.fn 78 [] [])) [(.t 5)]⟩]
def c44r2 : List AOper := [
 ⟨(some 2), none, .mv (.c (.i .i64 0))⟩,
 ⟨(some 3), none, .mv (.c (.i .i64 2))⟩]
def c44r3 : List AOper := [
 ⟨(some 7), none, .mv (.t 0)⟩,
 ⟨(some 8), none, .call (.c (.fn 81 [] [])) [(.t 7)]⟩,
 ⟨(some 4), none, .mv (.t 8)⟩]
def c44r4 : List AOper := [
 ⟨(some 9), none, .mv (.t 4)⟩,
 ⟨(some 10), none, .len (.t 9)⟩,
 ⟨(some 11), none, .bin false .eql (.t 10) (.c (.i .i64 0))⟩]
def c44r5 : List AOper := [
 ⟨(some 2), none, .mv (.c (.i .i64 0))⟩,
 ⟨(some 3), none, .mv (.c (.i .i64 0))⟩]
def c44r6 : List AOper := [
 ⟨(some 12), none, .mv (.t 4)⟩,
 ⟨(some 13), none, .call (.c (.fn 82 [] [])) [(.t 12), (.c (.fn 83 [] []))]⟩,
 ⟨(some 14), none, .fld (.t 13) 2 none⟩,
 ⟨(some 2), none, .mv (.t 14)⟩,
 ⟨(some 3), none, .mv (.c (.i .i64 0))⟩]
abbrev c44 : AC := (.seq (.reg c44r0) (.seq (.seq (.reg c44r1) (.cond (.t 6) (.seq (.reg c44r2) .ret) .skip)) (.seq (.reg c44r3) (.seq (.seq (.reg c44r4) (.cond (.t 11) (.seq (.reg c44r5) .ret) .skip)) (.seq (.reg c44r6) .ret)))))
def q44 : List ARes := [.t 2, .t 3]
theorem fn44 : fnOf Try.prog 44 = some (c44, q44, 15) := by kernel_rfl
def c46r0 : List AOper := [
 ⟨(some 2), none, .mv (.c (.i .i64 0))⟩,
 ⟨(some 3), none, .mv (.c (.i .i64 0))⟩]
def c46r1 : List AOper := [
 ⟨(some 7), none, .mv (.t 0)⟩,
 ⟨(some 8), none, .call (.c (.fn 78 [] [])) [(.t 7)]⟩]
def c46r2 : List AOper := [
 ⟨(some 2), none, .mv (.c (.i .i64 0))⟩,
 ⟨(some 3), none, .mv (.c (.i .i64 2))⟩]
def c46r3 : List AOper := [
 ⟨(some 4), none, .mv (.c (.i .i64 0))⟩]
def c46r4 : List AOper := [
 ⟨(some 9), none, .mv (.t 0)⟩,
 ⟨(some 10), none, .call (.c (.fn 81 [] [])) [(.t 9)]⟩,
 ⟨(some 11), none, .len (.t 10)⟩,
 ⟨(some 12), none, .mv (.c (.i .i64 0))⟩]
def c46r5 : List AOper := [
 ⟨(some 13), none, .bin false .lss (.t 12) (.t 11)⟩]
def c46r6 : List AOper := [
 ⟨(some 14), none, .ia 4 (.t 10) (.t 12)⟩,
 ⟨(some 15), none, .ld (some 4) (.t 14)⟩,
 ⟨(some 6), none, .alloc [.i .i64 0, .i .i64 0, .i .i64 0, .b false]⟩,
 ⟨none, none, .sto (some 4) (.t 6) (.t 15)⟩]
def c46r7 : List AOper := [
 ⟨(some 16), none, .fa (.t 6) 3⟩,
 ⟨(some 17), none, .ld none (.t 16)⟩]
def c46r8 : List AOper := [
 ⟨(some 18), none, .mv (.t 4)⟩,
 ⟨(some 19), none, .bin false .add (.t 18) (.c (.i .i64 1))⟩,
 ⟨(some 4), none, .mv (.t 19)⟩]
def c46r9 : List AOper := [
 ⟨(some 20), none, .bin false .add (.t 12) (.c (.i .i64 1))⟩,
 ⟨(some 12), none, .mv (.t 20)⟩]
abbrev c46b10 : AC := (.seq (.reg c46r5) (.seq (.cond (.t 13) .skip (.exit 0)) (.seq (.blk 1 (.seq (.reg c46r6) (.seq (.reg c46r7) (.cond (.t 17) (.reg c46r8) .skip)))) (.reg c46r9))))
def c46r11 : List AOper := [
 ⟨(some 21), none, .mv (.t 4)⟩,
 ⟨(some 2), none, .mv (.t 21)⟩,
 ⟨(some 3), none, .mv (.c (.i .i64 0))⟩]
abbrev c46 : AC := (.seq (.reg c46r0) (.seq (.seq (.reg c46r1) (.cond (.t 8) (.seq (.reg c46r2) .ret) .skip)) (.seq (.reg c46r3) (.seq (.seq (.reg c46r4) (.blk 0 (.loop c46b10))) (.seq (.reg c46r11) .ret)))))
def q46 : List ARes := [.t 2, .t 3]
theorem fn46 : fnOf Try.prog 46 = some (c46, q46, 22) := by kernel_rfl
def c49r0 : List AOper := [
 ⟨(some 2), none, .mv (.c (.sl 0 0 0 0))⟩,
 ⟨(some 3), none, .mv (.c (.i .i64 0))⟩]
def c49r1 : List AOper := [
 ⟨(some 8), none, .mv (.t 0)⟩,
 ⟨(some 9), none, .call (.c (.fn 26 [] [])) [(.t 8)]⟩,
 ⟨(some 10), none, .not (.t 9)⟩]
def c49r2 : List AOper := [
 ⟨(some 2), none, .mv (.c (.sl 0 0 0 0))⟩,
 ⟨(some 3), none, .mv (.c (.i .i64 60))⟩]
def c49r3 : List AOper := [
 ⟨(some 12), none, .mv (.t 0)⟩,
 ⟨(some 13), none, .call (.c (.fn 52 [] [])) [(.t 12)]⟩,
 ⟨(some 11), none, .mv (.t 13)⟩,
 ⟨(some 14), none, .ext (.t 11) 0⟩,
 ⟨(some 15), none, .ext (.t 11) 1⟩,
 ⟨(some 4), none, .mv (.t 14)⟩,
 ⟨(some 5), none, .mv (.t 15)⟩]
def c49r4 : List AOper := [
 ⟨(some 16), none, .mv (.t 4)⟩,
 ⟨(some 17), none, .len (.t 16)⟩,
 ⟨(some 18), none, .bin false .eql (.t 17) (.c (.i .i64 0))⟩]
def c49r5 : List AOper := [
 ⟨(some 2), none, .mv (.c (.sl 0 0 0 0))⟩,
 ⟨(some 3), none, .mv (.c (.i .i64 0))⟩]
def c49r6 : List AOper := [
 ⟨(some 6), none, .mv (.c (.sl 0 0 0 0))⟩]
def c49r7 : List AOper := [
 ⟨(some 19), none, .mv (.t 4)⟩,
 ⟨(some 20), none, .mv (.t 4)⟩,
 ⟨(some 21), none, .len (.t 20)⟩,
 ⟨(some 22), none, .bin false .sub (.t 21) (.c (.i .i64 1))⟩,
 ⟨(some 23), none, .ia 1 (.t 19) (.t 22)⟩,
 ⟨(some 24), none, .ld none (.t 23)⟩,
 ⟨(some 25), none, .ia 1 (.t 24) (.c (.i .i64 0))⟩,
 ⟨(some 26), none, .ld none (.t 25)⟩,
 ⟨(some 7), none, .mv (.t 26)⟩]
def c49r8 : List AOper := [
 ⟨(some 27), none, .mv (.t 7)⟩,
 ⟨(some 28), none, .bin false .geq (.t 27) (.c (.i .i64 0))⟩]
def c49r9 : List AOper := [
 ⟨(some 33), none, .mv (.t 6)⟩,
 ⟨(some 34), none, .mv (.t 7)⟩,
 ⟨(some 35), none, .bsl 1 [.i .i64 0] [(0, 1, (.t 34))]⟩,
 ⟨(some 36), none, .app 1 8 (.t 33) (.t 35)⟩,
 ⟨(some 6), none, .mv (.t 36)⟩]
def c49r10 : List AOper := [
 ⟨(some 29), none, .mv (.t 5)⟩,
 ⟨(some 30), none, .mv (.t 7)⟩,
 ⟨(some 31), none, .ia 1 (.t 29) (.t 30)⟩,
 ⟨(some 32), none, .ld none (.t 31)⟩,
 ⟨(some 7), none, .mv (.t 32)⟩]
abbrev c49b11 : AC := (.seq (.seq (.reg c49r8) (.cond (.t 28) .skip (.exit 0))) (.seq (.blk 1 (.reg c49r9)) (.reg c49r10)))
def c49r12 : List AOper := [
 ⟨(some 37), none, .mv (.t 6)⟩,
 ⟨(some 38), none, .call (.c (.fn 84 [] [])) [(.t 37)]⟩]
def c49r13 : List AOper := [
 ⟨(some 39), none, .mv (.t 6)⟩,
 ⟨(some 2), none, .mv (.t 39)⟩,
 ⟨(some 3), none, .mv (.c (.i .i64 0))⟩]
abbrev c49 : AC := (.seq (.reg c49r0) (.seq (.seq (.reg c49r1) (.cond (.t 10) (.seq (.reg c49r2) .ret) .skip)) (.seq (.reg c49r3) (.seq (.seq (.reg c49r4) (.cond (.t 18) (.seq (.reg c49r5) .ret) .skip)) (.seq (.reg c49r6) (.seq (.seq (.reg c49r7) (.blk 0 (.loop c49b11))) (.seq (.reg c49r12) (.seq (.reg c49r13) .ret))))))))
def q49 : List ARes := [.t 2, .t 3]
theorem fn49 : fnOf Try.prog 49 = some (c49, q49, 40) := by kernel_rfl
def c50r0 : List AOper := [
 ⟨(some 0), none, .mv (.c (.b false))⟩]
def c50r1 : List AOper := [
 ⟨(some 4), none, .bld [.i .i64 0, .i .i64 0, .i .i64 0, .i .i64 0, .i .i64 0, .i .i64 0, .i .i64 0] [(0, 1, (.c (.i .i64 1)))]⟩,
 ⟨(some 5), none, .bld [.i .i64 0, .i .i64 0, .i .i64 0, .i .i64 0, .i .i64 0, .i .i64 0, .i .i64 0] [(0, 1, (.c (.i .i64 2)))]⟩,
 ⟨(some 6), none, .bsl 7 [.i .i64 0, .i .i64 0, .i .i64 0, .i .i64 0, .i .i64 0, .i .i64 0, .i .i64 0, .i .i64 0, .i .i64 0, .i .i64 0, .i .i64 0, .i .i64 0, .i .i64 0, .i .i64 0] [(0, 7, (.t 4)), (7, 7, (.t 5))]⟩,
 ⟨(some 7), none, .call (.c (.fn 20 [] [])) [(.t 6)]⟩,
 ⟨(some 3), none, .mv (.t 7)⟩,
 ⟨(some 8), none, .ext (.t 3) 0⟩,
 ⟨(some 9), none, .ext (.t 3) 1⟩,
 ⟨(some 1), none, .mv (.t 8)⟩,
 ⟨(some 2), none, .mv (.t 9)⟩]
def c50r2 : List AOper := [
 ⟨(some 10), none, .mv (.t 2)⟩,
 ⟨(some 11), none, .bin false .eql (.t 10) (.c (.i .i64 0))⟩,
 ⟨(some 12), none, .mv (.t 11)⟩,
 ⟨(some 13), (some (12, true)), .mv (.t 1)⟩,
 ⟨(some 14), (some (12, true)), .bin false .eql (.t 13) (.c (.i .i64 1))⟩,
 ⟨(some 15), none, .pick (.t 12) (.t 14) (.c (.b false))⟩,
 ⟨(some 0), none, .mv (.t 15)⟩]
abbrev c50 : AC := (.seq (.reg c50r0) (.seq (.reg c50r1) (.seq (.reg c50r2) .ret)))
def q50 : List ARes := [.t 0]
theorem fn50 : fnOf Try.prog 50 = some (c50, q50, 16) := by kernel_rfl
def c51r0 : List AOper := [
 ⟨(some 12), none, .mv (.c (.b false))⟩]
def c51r1 : List AOper := [
 ⟨(some 23), none, .mv (.t 0)⟩,
 ⟨(some 24), none, .mv (.t 2)⟩,
 ⟨(some 25), none, .mv (.t 3)⟩,
 ⟨(some 26), none, .call (.c (.fn 42 [] [])) [(.t 23), (.t 24), (.t 25)]⟩,
 ⟨(some 22), none, .mv (.t 26)⟩,
 ⟨(some 27), none, .ext (.t 22) 0⟩,
 ⟨(some 28), none, .ext (.t 22) 1⟩,
 ⟨(some 29), none, .ext (.t 22) 2⟩,
 ⟨(some 13), none, .mv (.t 27)⟩,
 ⟨(some 14), none, .mv (.t 28)⟩,
 ⟨(some 15), none, .mv (.t 29)⟩]
def c51r2 : List AOper := [
 ⟨(some 31), none, .mv (.t 3)⟩,
 ⟨(some 32), none, .call (.c (.fn 46 [] [])) [(.t 31)]⟩,
 ⟨(some 30), none, .mv (.t 32)⟩,
 ⟨(some 33), none, .ext (.t 30) 0⟩,
 ⟨(some 34), none, .ext (.t 30) 1⟩,
 ⟨(some 16), none, .mv (.t 33)⟩,
 ⟨(some 17), none, .mv (.t 34)⟩]
def c51r3 : List AOper := [
 ⟨(some 36), none, .mv (.t 3)⟩,
 ⟨(some 37), none, .call (.c (.fn 44 [] [])) [(.t 36)]⟩,
 ⟨(some 35), none, .mv (.t 37)⟩,
 ⟨(some 38), none, .ext (.t 35) 0⟩,
 ⟨(some 39), none, .ext (.t 35) 1⟩,
 ⟨(some 18), none, .mv (.t 38)⟩,
 ⟨(some 19), none, .mv (.t 39)⟩]
def c51r4 : List AOper := [
 ⟨(some 41), none, .mv (.t 0)⟩,
 ⟨(some 42), none, .mv (.t 1)⟩,
 ⟨(some 43), none, .mv (.t 2)⟩,
 ⟨(some 44), none, .call (.c (.fn 27 [] [])) [(.t 41), (.t 42), (.t 43)]⟩,
 ⟨(some 40), none, .mv (.t 44)⟩,
 ⟨(some 45), none, .ext (.t 40) 0⟩,
 ⟨(some 46), none, .ext (.t 40) 1⟩,
 ⟨(some 20), none, .mv (.t 45)⟩,
 ⟨(some 21), none, .mv (.t 46)⟩]
def c51r5 : List AOper := [
 ⟨(some 47), none, .mv (.t 15)⟩,
 ⟨(some 48), none, .bin false .eql (.t 47) (.c (.i .i64 0))⟩,
 ⟨(some 49), none, .mv (.t 48)⟩,
 ⟨(some 50), (some (49, true)), .mv (.t 17)⟩,
 ⟨(some 51), (some (49, true)), .bin false .eql (.t 50) (.c (.i .i64 0))⟩,
 ⟨(some 52), none, .pick (.t 49) (.t 51) (.c (.b false))⟩,
 ⟨(some 53), none, .mv (.t 52)⟩,
 ⟨(some 54), (some (53, true)), .mv (.t 19)⟩,
 ⟨(some 55), (some (53, true)), .bin false .eql (.t 54) (.c (.i .i64 0))⟩,
 ⟨(some 56), none, .pick (.t 53) (.t 55) (.c (.b false))⟩,
 ⟨(some 57), none, .mv (.t 56)⟩,
 ⟨(some 58), (some (57, true)), .mv (.t 21)⟩,
 ⟨(some 59), (some (57, true)), .bin false .eql (.t 58) (.c (.i .i64 0))⟩,
 ⟨(some 60), none, .pick (.t 57) (.t 59) (.c (.b false))⟩,
 ⟨(some 61), none, .mv (.t 60)⟩,
 ⟨(some 62), (some (61, true)), .mv (.t 16)⟩,
 ⟨(some 63), (some (61, true)), .mv (.t 4)⟩,
 ⟨(some 64), (some (61, true)), .bin false .eql (.t 62) (.t 63)⟩,
 ⟨(some 65), none, .pick (.t 61) (.t 64) (.c (.b false))⟩,
 ⟨(some 66), none, .mv (.t 65)⟩,
 ⟨(some 67), (some (66, true)), .mv (.t 20)⟩,
 ⟨(some 68), (some (66, true)), .mv (.t 18)⟩,
 ⟨(some 69), (some (66, true)), .bin false .leq (.t 67) (.t 68)⟩,
 ⟨(some 70), none, .pick (.t 66) (.t 69) (.c (.b false))⟩,
 ⟨(some 71), none, .mv (.t 70)⟩,
 ⟨(some 72), (some (71, true)), .mv (.t 18)⟩,
 ⟨(some 73), (some (71, true)), .mv (.t 5)⟩,
 ⟨(some 74), (some (71, true)), .bin false .leq (.t 72) (.t 73)⟩,
 ⟨(some 75), none, .pick (.t 71) (.t 74) (.c (.b false))⟩,
 ⟨(some 76), none, .mv (.t 75)⟩,
 ⟨(some 77), (some (76, true)), .mv (.t 3)⟩,
 ⟨(some 78), (some (76, true)), .call (.c (.fn 41 [] [])) [(.t 77)]⟩,
 ⟨(some 79), (some (76, true)), .not (.t 78)⟩,
 ⟨(some 80), none, .pick (.t 76) (.t 79) (.c (.b false))⟩,
 ⟨(some 12), none, .mv (.t 80)⟩]
abbrev c51 : AC := (.seq (.reg c51r0) (.seq (.reg c51r1) (.seq (.reg c51r2) (.seq (.reg c51r3) (.seq (.reg c51r4) (.seq (.reg c51r5) .ret))))))
def q51 : List ARes := [.t 12]
theorem fn51 : fnOf Try.prog 51 = some (c51, q51, 81) := by kernel_rfl
def c52r0 : List AOper := [
 ⟨(some 1), none, .box (.t 0)⟩,
 ⟨(some 2), none, .mv (.c (.sl 0 0 0 0))⟩,
 ⟨(some 3), none, .mv (.c (.sl 0 0 0 0))⟩]
def c52r1 : List AOper := [
 ⟨(some 8), none, .ld none (.t 1)⟩,
 ⟨(some 9), none, .len (.t 8)⟩,
 ⟨(some 10), none, .mks 1 8 [.i .i64 0] (.t 9) (.t 9)⟩,
 ⟨(some 3), none, .mv (.t 10)⟩]
def c52r2 : List AOper := [
 ⟨(some 11), none, .ld none (.t 1)⟩,
 ⟨(some 12), none, .call (.c (.fn 85 [] [])) [(.t 11)]⟩,
 ⟨(some 13), none, .len (.t 12)⟩,
 ⟨(some 14), none, .mv (.c (.i .i64 0))⟩]
def c52r3 : List AOper := [
 ⟨(some 15), none, .bin false .lss (.t 14) (.t 13)⟩]
def c52r4 : List AOper := [
 ⟨(some 16), none, .ia 1 (.t 12) (.t 14)⟩,
 ⟨(some 17), none, .ld none (.t 16)⟩,
 ⟨(some 5), none, .alloc [.i .i64 0]⟩,
 ⟨none, none, .sto none (.t 5) (.t 17)⟩]
def c52r5 : List AOper := [
 ⟨(some 18), none, .mv (.t 2)⟩,
 ⟨(some 19), none, .mkf 87 [] [(.t 1), (.t 5)]⟩,
 ⟨(some 20), none, .call (.c (.fn 86 [] [])) [(.t 18), (.t 19)]⟩,
 ⟨(some 6), none, .mv (.t 20)⟩]
def c52r6 : List AOper := [
 ⟨(some 21), none, .mv (.t 6)⟩,
 ⟨(some 22), none, .bin false .lss (.t 21) (.c (.i .i64 0))⟩]
def c52r7 : List AOper := [
 ⟨(some 23), none, .mv (.t 2)⟩,
 ⟨(some 24), none, .len (.t 23)⟩,
 ⟨(some 6), none, .mv (.t 24)⟩]
def c52r8 : List AOper := [
 ⟨(some 25), none, .mv (.t 2)⟩,
 ⟨(some 26), none, .bsl 1 [.sl 0 0 0 0] [(0, 1, (.c (.sl 0 0 0 0)))]⟩,
 ⟨(some 27), none, .app 1 24 (.t 25) (.t 26)⟩,
 ⟨(some 2), none, .mv (.t 27)⟩]
def c52r9 : List AOper := [
 ⟨(some 28), none, .mv (.t 3)⟩,
 ⟨(some 29), none, .ld none (.t 5)⟩,
 ⟨(some 30), none, .ia 1 (.t 28) (.t 29)⟩,
 ⟨none, none, .sto none (.t 30) (.c (.i .i64 (-1)))⟩]
def c52r10 : List AOper := [
 ⟨(some 31), none, .mv (.t 6)⟩,
 ⟨(some 32), none, .bin false .gtr (.t 31) (.c (.i .i64 0))⟩]
def c52r11 : List AOper := [
 ⟨(some 33), none, .mv (.t 2)⟩,
 ⟨(some 34), none, .mv (.t 6)⟩,
 ⟨(some 35), none, .bin false .sub (.t 34) (.c (.i .i64 1))⟩,
 ⟨(some 36), none, .ia 1 (.t 33) (.t 35)⟩,
 ⟨(some 37), none, .ld none (.t 36)⟩,
 ⟨(some 7), none, .mv (.t 37)⟩]
def c52r12 : List AOper := [
 ⟨(some 38), none, .mv (.t 3)⟩,
 ⟨(some 39), none, .ld none (.t 5)⟩,
 ⟨(some 40), none, .mv (.t 7)⟩,
 ⟨(some 41), none, .mv (.t 7)⟩,
 ⟨(some 42), none, .len (.t 41)⟩,
 ⟨(some 43), none, .bin false .sub (.t 42) (.c (.i .i64 1))⟩,
 ⟨(some 44), none, .ia 1 (.t 40) (.t 43)⟩,
 ⟨(some 45), none, .ld none (.t 44)⟩,
 ⟨(some 46), none, .ia 1 (.t 38) (.t 39)⟩,
 ⟨none, none, .sto none (.t 46) (.t 45)⟩]
def c52r13 : List AOper := [
 ⟨(some 47), none, .mv (.t 2)⟩,
 ⟨(some 48), none, .mv (.t 6)⟩,
 ⟨(some 49), none, .mv (.t 2)⟩,
 ⟨(some 50), none, .mv (.t 6)⟩,
 ⟨(some 51), none, .ia 1 (.t 49) (.t 50)⟩,
 ⟨(some 52), none, .ld none (.t 51)⟩,
 ⟨(some 53), none, .ld none (.t 5)⟩,
 ⟨(some 54), none, .bsl 1 [.i .i64 0] [(0, 1, (.t 53))]⟩,
 ⟨(some 55), none, .app 1 8 (.t 52) (.t 54)⟩,
 ⟨(some 56), none, .ia 1 (.t 47) (.t 48)⟩,
 ⟨none, none, .sto none (.t 56) (.t 55)⟩]
def c52r14 : List AOper := [
 ⟨(some 57), none, .bin false .add (.t 14) (.c (.i .i64 1))⟩,
 ⟨(some 14), none, .mv (.t 57)⟩]
abbrev c52b15 : AC := (.seq (.reg c52r3) (.seq (.cond (.t 15) .skip (.exit 0)) (.seq (.blk 1 (.seq (.reg c52r4) (.seq (.reg c52r5) (.seq (.seq (.reg c52r6) (.cond (.t 22) (.seq (.reg c52r7) (.reg c52r8)) .skip)) (.seq (.reg c52r9) (.seq (.seq (.reg c52r10) (.cond (.t 32) (.seq (.reg c52r11) (.head 8 c52r12)) .skip)) (.head 8 c52r13))))))) (.reg c52r14))))
def c52r16 : List AOper := [
 ⟨(some 58), none, .mv (.t 2)⟩,
 ⟨(some 59), none, .mv (.t 3)⟩,
 ⟨(some 2), none, .mv (.t 58)⟩,
 ⟨(some 3), none, .mv (.t 59)⟩]
abbrev c52 : AC := (.seq (.reg c52r0) (.seq (.reg c52r1) (.seq (.seq (.reg c52r2) (.blk 0 (.loop c52b15))) (.seq (.reg c52r16) .ret))))
def q52 : List ARes := [.t 2, .t 3]
theorem fn52 : fnOf Try.prog 52 = some (c52, q52, 60) := by kernel_rfl
def c54r0 : List AOper := [
 ⟨(some 2), none, .box (.t 0)⟩,
 ⟨(some 3), none, .box (.t 1)⟩,
 ⟨(some 4), none, .mv (.c (.b false))⟩]
def c54r1 : List AOper := [
 ⟨(some 5), none, .fa (.t 3) 1⟩,
 ⟨(some 6), none, .ld none (.t 5)⟩,
 ⟨(some 7), none, .fa (.t 2) 1⟩,
 ⟨(some 8), none, .ld none (.t 7)⟩,
 ⟨(some 9), none, .bin false .geq (.t 6) (.t 8)⟩,
 ⟨(some 10), none, .mv (.t 9)⟩,
 ⟨(some 11), (some (10, true)), .fa (.t 3) 2⟩,
 ⟨(some 12), (some (10, true)), .ld none (.t 11)⟩,
 ⟨(some 13), (some (10, true)), .fa (.t 2) 2⟩,
 ⟨(some 14), (some (10, true)), .ld none (.t 13)⟩,
 ⟨(some 15), (some (10, true)), .bin false .geq (.t 12) (.t 14)⟩,
 ⟨(some 16), none, .pick (.t 10) (.t 15) (.c (.b false))⟩,
 ⟨(some 4), none, .mv (.t 16)⟩]
abbrev c54 : AC := (.seq (.reg c54r0) (.seq (.reg c54r1) .ret))
def q54 : List ARes := [.t 4]
theorem fn54 : fnOf Try.prog 54 = some (c54, q54, 17) := by kernel_rfl
def c56r0 : List AOper := [
 ⟨(some 1), none, .box (.t 0)⟩,
 ⟨(some 2), none, .mv (.c (.b false))⟩]
def c56r1 : List AOper := [
 ⟨(some 3), none, .mv (.c (.i .i64 0))⟩]
def c56r2 : List AOper := [
 ⟨(some 4), none, .mv (.t 3)⟩,
 ⟨(some 5), none, .bin false .lss (.t 4) (.c (.i .i64 4))⟩]
def c56r3 : List AOper := [
 ⟨(some 8), none, .mv (.t 3)⟩,
 ⟨(some 9), none, .fa (.t 1) 3⟩,
 ⟨(some 10), none, .iap 4 1 (.t 9) (.t 8)⟩,
 ⟨(some 11), none, .ld none (.t 10)⟩,
 ⟨(some 12), none, .bin false .lss (.t 11) (.c (.i .i64 0))⟩,
 ⟨(some 13), none, .mv (.t 12)⟩,
 ⟨(some 14), (some (13, false)), .mv (.t 3)⟩,
 ⟨(some 15), (some (13, false)), .fa (.t 1) 3⟩,
 ⟨(some 16), (some (13, false)), .iap 4 1 (.t 15) (.t 14)⟩,
 ⟨(some 17), (some (13, false)), .ld none (.t 16)⟩,
 ⟨(some 18), (some (13, false)), .bin false .gtr (.t 17) (.c (.i .i64 100))⟩,
 ⟨(some 19), none, .pick (.t 13) (.c (.b true)) (.t 18)⟩]
def c56r4 : List AOper := [
 ⟨(some 2), none, .mv (.c (.b false))⟩]
def c56r5 : List AOper := [
 ⟨(some 6), none, .mv (.t 3)⟩,
 ⟨(some 7), none, .bin false .add (.t 6) (.c (.i .i64 1))⟩,
 ⟨(some 3), none, .mv (.t 7)⟩]
abbrev c56b6 : AC := (.seq (.seq (.reg c56r2) (.cond (.t 5) .skip (.exit 0))) (.seq (.blk 1 (.seq (.reg c56r3) (.cond (.t 19) (.seq (.reg c56r4) .ret) .skip))) (.reg c56r5)))
def c56r7 : List AOper := [
 ⟨(some 20), none, .fa (.t 1) 0⟩,
 ⟨(some 21), none, .ld none (.t 20)⟩,
 ⟨(some 22), none, .bin false .geq (.t 21) (.c (.i .i64 1))⟩,
 ⟨(some 23), none, .mv (.t 22)⟩,
 ⟨(some 24), (some (23, true)), .fa (.t 1) 0⟩,
 ⟨(some 25), (some (23, true)), .ld none (.t 24)⟩,
 ⟨(some 26), (some (23, true)), .bin false .leq (.t 25) (.c (.i .i64 1000000000))⟩,
 ⟨(some 27), none, .pick (.t 23) (.t 26) (.c (.b false))⟩,
 ⟨(some 28), none, .mv (.t 27)⟩,
 ⟨(some 29), (some (28, true)), .fa (.t 1) 1⟩,
 ⟨(some 30), (some (28, true)), .ld none (.t 29)⟩,
 ⟨(some 31), (some (28, true)), .bin false .geq (.t 30) (.c (.i .i64 0))⟩,
 ⟨(some 32), none, .pick (.t 28) (.t 31) (.c (.b false))⟩,
 ⟨(some 33), none, .mv (.t 32)⟩,
 ⟨(some 34), (some (33, true)), .fa (.t 1) 1⟩,
 ⟨(some 35), (some (33, true)), .ld none (.t 34)⟩,
 ⟨(some 36), (some (33, true)), .bin false .leq (.t 35) (.c (.i .i64 9))⟩,
 ⟨(some 37), none, .pick (.t 33) (.t 36) (.c (.b false))⟩,
 ⟨(some 38), none, .mv (.t 37)⟩,
 ⟨(some 39), (some (38, true)), .fa (.t 1) 2⟩,
 ⟨(some 40), (some (38, true)), .ld none (.t 39)⟩,
 ⟨(some 41), (some (38, true)), .bin false .geq (.t 40) (.c (.i .i64 0))⟩,
 ⟨(some 42), none, .pick (.t 38) (.t 41) (.c (.b false))⟩,
 ⟨(some 43), none, .mv (.t 42)⟩,
 ⟨(some 44), (some (43, true)), .fa (.t 1) 2⟩,
 ⟨(some 45), (some (43, true)), .ld none (.t 44)⟩,
 ⟨(some 46), (some (43, true)), .bin false .leq (.t 45) (.c (.i .i64 9))⟩,
 ⟨(some 47), none, .pick (.t 43) (.t 46) (.c (.b false))⟩,
 ⟨(some 2), none, .mv (.t 47)⟩]
abbrev c56 : AC := (.seq (.reg c56r0) (.seq (.seq (.reg c56r1) (.blk 0 (.loop c56b6))) (.seq (.reg c56r7) .ret)))
def q56 : List ARes := [.t 2]
theorem fn56 : fnOf Try.prog 56 = some (c56, q56, 48) := by kernel_rfl
def c57r0 : List AOper := [
 ⟨(some 1), none, .box (.t 0)⟩,
 ⟨(some 2), none, .mv (.c (.b false))⟩]
def c57r1 : List AOper := [
 ⟨(some 5), none, .fa (.t 1) 3⟩,
 ⟨(some 6), none, .ld (some 4) (.t 5)⟩,
 ⟨(some 7), none, .mv (.c (.i .i64 0))⟩]
def c57r2 : List AOper := [
 ⟨(some 8), none, .bin false .lss (.t 7) (.c (.i .i64 4))⟩]
def c57r3 : List AOper := [
 ⟨(some 9), none, .iv 4 1 false (.t 6) (.t 7)⟩,
 ⟨(some 4), none, .mv (.t 9)⟩]
def c57r4 : List AOper := [
 ⟨(some 10), none, .mv (.t 4)⟩,
 ⟨(some 11), none, .call (.c (.fn 63 [] [])) [(.c (.i .i64 0)), (.t 10), (.c (.i .i64 100))]⟩,
 ⟨(some 12), none, .not (.t 11)⟩]
def c57r5 : List AOper := [
 ⟨(some 2), none, .mv (.c (.b false))⟩]
def c57r6 : List AOper := [
 ⟨(some 13), none, .bin false .add (.t 7) (.c (.i .i64 1))⟩,
 ⟨(some 7), none, .mv (.t 13)⟩]
abbrev c57b7 : AC := (.seq (.reg c57r2) (.seq (.cond (.t 8) .skip (.exit 0)) (.seq (.blk 1 (.seq (.reg c57r3) (.seq (.reg c57r4) (.cond (.t 12) (.seq (.reg c57r5) .ret) .skip)))) (.reg c57r6))))
def c57r8 : List AOper := [
 ⟨(some 14), none, .fa (.t 1) 0⟩,
 ⟨(some 15), none, .ld none (.t 14)⟩,
 ⟨(some 16), none, .call (.c (.fn 63 [] [])) [(.c (.i .i64 1)), (.t 15), (.c (.i .i64 1000000000))]⟩,
 ⟨(some 17), none, .mv (.t 16)⟩,
 ⟨(some 18), (some (17, true)), .fa (.t 1) 1⟩,
 ⟨(some 19), (some (17, true)), .ld none (.t 18)⟩,
 ⟨(some 20), (some (17, true)), .call (.c (.fn 63 [] [])) [(.c (.i .i64 0)), (.t 19), (.c (.i .i64 9))]⟩,
 ⟨(some 21), none, .pick (.t 17) (.t 20) (.c (.b false))⟩,
 ⟨(some 22), none, .mv (.t 21)⟩,
 ⟨(some 23), (some (22, true)), .fa (.t 1) 2⟩,
 ⟨(some 24), (some (22, true)), .ld none (.t 23)⟩,
 ⟨(some 25), (some (22, true)), .call (.c (.fn 63 [] [])) [(.c (.i .i64 0)), (.t 24), (.c (.i .i64 9))]⟩,
 ⟨(some 26), none, .pick (.t 22) (.t 25) (.c (.b false))⟩,
 ⟨(some 2), none, .mv (.t 26)⟩]
abbrev c57 : AC := (.seq (.reg c57r0) (.seq (.seq (.reg c57r1) (.blk 0 (.loop c57b7))) (.seq (.reg c57r8) .ret)))
def q57 : List ARes := [.t 2]
theorem fn57 : fnOf Try.prog 57 = some (c57, q57, 27) := by kernel_rfl
def c58r0 : List AOper := [
 ⟨(some 2), none, .box (.t 0)⟩,
 ⟨(some 3), none, .box (.t 1)⟩,
 ⟨(some 4), none, .mv (.c (.b false))⟩]
def c58r1 : List AOper := [
 ⟨(some 5), none, .fa (.t 2) 1⟩,
 ⟨(some 6), none, .ld none (.t 5)⟩,
 ⟨(some 7), none, .fa (.t 3) 1⟩,
 ⟨(some 8), none, .ld none (.t 7)⟩,
 ⟨(some 9), none, .bin false .leq (.t 6) (.t 8)⟩,
 ⟨(some 10), none, .mv (.t 9)⟩,
 ⟨(some 11), (some (10, true)), .fa (.t 2) 2⟩,
 ⟨(some 12), (some (10, true)), .ld none (.t 11)⟩,
 ⟨(some 13), (some (10, true)), .fa (.t 3) 2⟩,
 ⟨(some 14), (some (10, true)), .ld none (.t 13)⟩,
 ⟨(some 15), (some (10, true)), .bin false .leq (.t 12) (.t 14)⟩,
 ⟨(some 16), none, .pick (.t 10) (.t 15) (.c (.b false))⟩,
 ⟨(some 4), none, .mv (.t 16)⟩]
abbrev c58 : AC := (.seq (.reg c58r0) (.seq (.reg c58r1) .ret))
def q58 : List ARes := [.t 4]
theorem fn58 : fnOf Try.prog 58 = some (c58, q58, 17) := by kernel_rfl
def c59r0 : List AOper := [
 ⟨(some 4), none, .mv (.c (.b false))⟩]
def c59r1 : List AOper := [
 ⟨(some 5), none, .mv (.t 0)⟩,
 ⟨(some 6), none, .call (.c (.fn 63 [] [])) [(.c (.i .i64 1)), (.t 5), (.c (.i .i64 8))]⟩,
 ⟨(some 7), none, .mv (.t 6)⟩,
 ⟨(some 8), (some (7, true)), .mv (.t 1)⟩,
 ⟨(some 9), (some (7, true)), .call (.c (.fn 63 [] [])) [(.c (.i .i64 0)), (.t 8), (.c (.i .i64 100))]⟩,
 ⟨(some 10), none, .pick (.t 7) (.t 9) (.c (.b false))⟩,
 ⟨(some 4), none, .mv (.t 10)⟩]
abbrev c59 : AC := (.seq (.reg c59r0) (.seq (.reg c59r1) .ret))
def q59 : List ARes := [.t 4]
theorem fn59 : fnOf Try.prog 59 = some (c59, q59, 11) := by kernel_rfl
def c60r0 : List AOper := [
 ⟨(some 1), none, .box (.t 0)⟩,
 ⟨(some 2), none, .mv (.c (.i .i64 0))⟩]
def c60r1 : List AOper := [
 ⟨(some 3), none, .mv (.c (.i .i64 0))⟩]
def c60r2 : List AOper := [
 ⟨(some 6), none, .fa (.t 1) 3⟩,
 ⟨(some 7), none, .ld (some 4) (.t 6)⟩,
 ⟨(some 8), none, .mv (.c (.i .i64 0))⟩]
def c60r3 : List AOper := [
 ⟨(some 9), none, .bin false .lss (.t 8) (.c (.i .i64 4))⟩]
def c60r4 : List AOper := [
 ⟨(some 10), none, .iv 4 1 false (.t 7) (.t 8)⟩,
 ⟨(some 5), none, .mv (.t 10)⟩]
def c60r5 : List AOper := [
 ⟨(some 11), none, .mv (.t 3)⟩,
 ⟨(some 12), none, .mv (.t 5)⟩,
 ⟨(some 13), none, .bin false .add (.t 11) (.t 12)⟩,
 ⟨(some 3), none, .mv (.t 13)⟩]
def c60r6 : List AOper := [
 ⟨(some 14), none, .bin false .add (.t 8) (.c (.i .i64 1))⟩,
 ⟨(some 8), none, .mv (.t 14)⟩]
abbrev c60b7 : AC := (.seq (.reg c60r3) (.seq (.cond (.t 9) .skip (.exit 0)) (.seq (.blk 1 (.seq (.reg c60r4) (.reg c60r5))) (.reg c60r6))))
def c60r8 : List AOper := [
 ⟨(some 15), none, .mv (.t 3)⟩,
 ⟨(some 2), none, .mv (.t 15)⟩]
abbrev c60 : AC := (.seq (.reg c60r0) (.seq (.reg c60r1) (.seq (.seq (.reg c60r2) (.blk 0 (.loop c60b7))) (.seq (.reg c60r8) .ret))))
def q60 : List ARes := [.t 2]
theorem fn60 : fnOf Try.prog 60 = some (c60, q60, 16) := by kernel_rfl
def c63r0 : List AOper := [
 ⟨(some 6), none, .mv (.c (.b false))⟩]
def c63r1 : List AOper := [
 ⟨(some 7), none, .mv (.t 0)⟩,
 ⟨(some 8), none, .mv (.t 1)⟩,
 ⟨(some 9), none, .bin false .leq (.t 7) (.t 8)⟩,
 ⟨(some 10), none, .mv (.t 9)⟩,
 ⟨(some 11), (some (10, true)), .mv (.t 1)⟩,
 ⟨(some 12), (some (10, true)), .mv (.t 2)⟩,
 ⟨(some 13), (some (10, true)), .bin false .leq (.t 11) (.t 12)⟩,
 ⟨(some 14), none, .pick (.t 10) (.t 13) (.c (.b false))⟩,
 ⟨(some 6), none, .mv (.t 14)⟩]
abbrev c63 : AC := (.seq (.reg c63r0) (.seq (.reg c63r1) .ret))
def q63 : List ARes := [.t 6]
theorem fn63 : fnOf Try.prog 63 = some (c63, q63, 15) := by kernel_rfl
def c64r0 : List AOper := [
 ⟨(some 4), none, .mv (.c (.b false))⟩]
def c64r1 : List AOper := [
 ⟨(some 5), none, .mv (.t 1)⟩,
 ⟨(some 6), none, .mv (.t 0)⟩,
 ⟨(some 7), none, .len (.t 6)⟩,
 ⟨(some 8), none, .bin false .sub (.t 7) (.c (.i .i64 1))⟩,
 ⟨(some 9), none, .call (.c (.fn 63 [] [])) [(.c (.i .i64 0)), (.t 5), (.t 8)]⟩,
 ⟨(some 4), none, .mv (.t 9)⟩]
abbrev c64 : AC := (.seq (.reg c64r0) (.seq (.reg c64r1) .ret))
def q64 : List ARes := [.t 4]
theorem fn64 : fnOf Try.prog 64 = some (c64, q64, 10) := by kernel_rfl
def c65r0 : List AOper := [
 ⟨(some 2), none, .box (.t 0)⟩,
 ⟨(some 4), none, .mv (.c (.b false))⟩]
def c65r1 : List AOper := [
 ⟨(some 5), none, .fa (.t 2) 2⟩,
 ⟨(some 6), none, .ld none (.t 5)⟩,
 ⟨(some 7), none, .fa (.t 2) 1⟩,
 ⟨(some 8), none, .ld none (.t 7)⟩,
 ⟨(some 9), none, .bin false .geq (.t 6) (.t 8)⟩,
 ⟨(some 10), none, .mv (.t 9)⟩,
 ⟨(some 11), (some (10, true)), .fa (.t 2) 2⟩,
 ⟨(some 12), (some (10, true)), .ld none (.t 11)⟩,
 ⟨(some 13), (some (10, true)), .conv .u64 (.t 12)⟩,
 ⟨(some 14), (some (10, true)), .fa (.t 2) 1⟩,
 ⟨(some 15), (some (10, true)), .ld none (.t 14)⟩,
 ⟨(some 16), (some (10, true)), .conv .u64 (.t 15)⟩,
 ⟨(some 17), (some (10, true)), .bin false .sub (.t 13) (.t 16)⟩,
 ⟨(some 18), (some (10, true)), .mv (.t 1)⟩,
 ⟨(some 19), (some (10, true)), .conv .u64 (.t 18)⟩,
 ⟨(some 20), (some (10, true)), .bin false .eql (.t 17) (.t 19)⟩,
 ⟨(some 21), none, .pick (.t 10) (.t 20) (.c (.b false))⟩,
 ⟨(some 4), none, .mv (.t 21)⟩]
abbrev c65 : AC := (.seq (.reg c65r0) (.seq (.reg c65r1) .ret))
def q65 : List ARes := [.t 4]
theorem fn65 : fnOf Try.prog 65 = some (c65, q65, 22) := by kernel_rfl
def c66r0 : List AOper := [
 ⟨(some 3), none, .box (.t 0)⟩,
 ⟨(some 4), none, .box (.t 1)⟩,
 ⟨(some 6), none, .mv (.c (.i .i64 0))⟩]
def c66r1 : List AOper := [
 ⟨(some 8), none, .ld (some 7) (.t 3)⟩,
 ⟨(some 9), none, .call (.c (.fn 60 [] [])) [(.t 8)]⟩,
 ⟨(some 7), none, .mv (.t 9)⟩]
def c66r2 : List AOper := [
 ⟨(some 10), none, .fa (.t 4) 3⟩,
 ⟨(some 11), none, .ld none (.t 10)⟩]
def c66r3 : List AOper := [
 ⟨(some 12), none, .mv (.t 7)⟩,
 ⟨(some 13), none, .mv (.t 2)⟩,
 ⟨(some 14), none, .bin false .add (.t 12) (.t 13)⟩,
 ⟨(some 7), none, .mv (.t 14)⟩]
def c66r4 : List AOper := [
 ⟨(some 15), none, .mv (.t 7)⟩,
 ⟨(some 6), none, .mv (.t 15)⟩]
abbrev c66 : AC := (.seq (.reg c66r0) (.seq (.reg c66r1) (.seq (.seq (.reg c66r2) (.cond (.t 11) (.reg c66r3) .skip)) (.seq (.reg c66r4) .ret))))
def q66 : List ARes := [.t 6]
theorem fn66 : fnOf Try.prog 66 = some (c66, q66, 16) := by kernel_rfl
def c67r0 : List AOper := [
 ⟨(some 4), none, .mv (.c (.b false))⟩]
def c67r1 : List AOper := [
 ⟨(some 5), none, .mv (.t 1)⟩,
 ⟨(some 6), none, .bin false .geq (.t 5) (.c (.i .i64 0))⟩,
 ⟨(some 7), none, .mv (.t 6)⟩,
 ⟨(some 8), (some (7, true)), .mv (.t 1)⟩,
 ⟨(some 9), (some (7, true)), .mv (.t 0)⟩,
 ⟨(some 10), (some (7, true)), .len (.t 9)⟩,
 ⟨(some 11), (some (7, true)), .bin false .lss (.t 8) (.t 10)⟩,
 ⟨(some 12), none, .pick (.t 7) (.t 11) (.c (.b false))⟩,
 ⟨(some 4), none, .mv (.t 12)⟩]
abbrev c67 : AC := (.seq (.reg c67r0) (.seq (.reg c67r1) .ret))
def q67 : List ARes := [.t 4]
theorem fn67 : fnOf Try.prog 67 = some (c67, q67, 13) := by kernel_rfl
def c69r0 : List AOper := [
 ⟨(some 4), none, .mv (.c (.i .i64 0))⟩]
def c69r1 : List AOper := [
 ⟨(some 8), none, .mv (.t 0)⟩,
 ⟨(some 9), none, .call (.c (.fn 26 [] [])) [(.t 8)]⟩,
 ⟨(some 10), none, .not (.t 9)⟩]
def c69r2 : List AOper := [
 ⟨(some 4), none, .mv (.c (.i .i64 60))⟩]
def c69r3 : List AOper := [
 ⟨(some 11), none, .mv (.t 0)⟩,
 ⟨(some 12), none, .len (.t 11)⟩,
 ⟨(some 13), none, .mks 1 1 [.b false] (.t 12) (.t 12)⟩,
 ⟨(some 5), none, .mv (.t 13)⟩]
def c69r4 : List AOper := [
 ⟨(some 14), none, .mv (.t 1)⟩,
 ⟨(some 15), none, .len (.t 14)⟩,
 ⟨(some 16), none, .mv (.c (.i .i64 0))⟩]
def c69r5 : List AOper := [
 ⟨(some 17), none, .bin false .lss (.t 16) (.t 15)⟩]
def c69r6 : List AOper := [
 ⟨(some 18), none, .ia 1 (.t 14) (.t 16)⟩,
 ⟨(some 19), none, .ld none (.t 18)⟩,
 ⟨(some 7), none, .mv (.t 19)⟩]
def c69r7 : List AOper := [
 ⟨(some 20), none, .mv (.t 0)⟩,
 ⟨(some 21), none, .mv (.t 7)⟩,
 ⟨(some 22), none, .call (.c (.fn 64 [] [])) [(.t 20), (.t 21)]⟩,
 ⟨(some 23), none, .not (.t 22)⟩,
 ⟨(some 24), none, .mv (.t 23)⟩,
 ⟨(some 25), (some (24, false)), .mv (.t 5)⟩,
 ⟨(some 26), (some (24, false)), .mv (.t 7)⟩,
 ⟨(some 27), (some (24, false)), .ia 1 (.t 25) (.t 26)⟩,
 ⟨(some 28), (some (24, false)), .ld none (.t 27)⟩,
 ⟨(some 29), none, .pick (.t 24) (.c (.b true)) (.t 28)⟩]
def c69r8 : List AOper := [
 ⟨(some 4), none, .mv (.c (.i .i64 2))⟩]
def c69r9 : List AOper := [
 ⟨(some 30), none, .mv (.t 5)⟩,
 ⟨(some 31), none, .mv (.t 7)⟩,
 ⟨(some 32), none, .ia 1 (.t 30) (.t 31)⟩,
 ⟨none, none, .sto none (.t 32) (.c (.b true))⟩]
def c69r10 : List AOper := [
 ⟨(some 33), none, .bin false .add (.t 16) (.c (.i .i64 1))⟩,
 ⟨(some 16), none, .mv (.t 33)⟩]
abbrev c69b11 : AC := (.seq (.reg c69r5) (.seq (.cond (.t 17) .skip (.exit 0)) (.seq (.blk 1 (.seq (.reg c69r6) (.seq (.seq (.reg c69r7) (.cond (.t 29) (.seq (.reg c69r8) .ret) .skip)) (.reg c69r9)))) (.reg c69r10))))
def c69r12 : List AOper := [
 ⟨(some 4), none, .mv (.c (.i .i64 0))⟩]
abbrev c69 : AC := (.seq (.reg c69r0) (.seq (.seq (.reg c69r1) (.cond (.t 10) (.seq (.reg c69r2) .ret) .skip)) (.seq (.reg c69r3) (.seq (.seq (.reg c69r4) (.blk 0 (.loop c69b11))) (.seq (.reg c69r12) .ret)))))
def q69 : List ARes := [.t 4]
theorem fn69 : fnOf Try.prog 69 = some (c69, q69, 34) := by kernel_rfl
def c70r0 : List AOper := [
 ⟨(some 4), none, .mv (.c (.b false))⟩]
def c70r1 : List AOper := [
 ⟨(some 7), none, .mv (.t 0)⟩,
 ⟨(some 8), none, .len (.t 7)⟩,
 ⟨(some 9), none, .mks 1 1 [.b false] (.t 8) (.t 8)⟩,
 ⟨(some 5), none, .mv (.t 9)⟩]
def c70r2 : List AOper := [
 ⟨(some 6), none, .mv (.c (.i .i64 0))⟩]
def c70r3 : List AOper := [
 ⟨(some 10), none, .mv (.t 6)⟩,
 ⟨(some 11), none, .mv (.t 1)⟩,
 ⟨(some 12), none, .len (.t 11)⟩,
 ⟨(some 13), none, .bin false .lss (.t 10) (.t 12)⟩]
def c70r4 : List AOper := [
 ⟨(some 16), none, .mv (.t 0)⟩,
 ⟨(some 17), none, .mv (.t 1)⟩,
 ⟨(some 18), none, .mv (.t 6)⟩,
 ⟨(some 19), none, .ia 1 (.t 17) (.t 18)⟩,
 ⟨(some 20), none, .ld none (.t 19)⟩,
 ⟨(some 21), none, .call (.c (.fn 67 [] [])) [(.t 16), (.t 20)]⟩,
 ⟨(some 22), none, .not (.t 21)⟩,
 ⟨(some 23), none, .mv (.t 22)⟩,
 ⟨(some 24), (some (23, false)), .mv (.t 5)⟩,
 ⟨(some 25), (some (23, false)), .mv (.t 1)⟩,
 ⟨(some 26), (some (23, false)), .mv (.t 6)⟩,
 ⟨(some 27), (some (23, false)), .ia 1 (.t 25) (.t 26)⟩,
 ⟨(some 28), (some (23, false)), .ld none (.t 27)⟩,
 ⟨(some 29), (some (23, false)), .ia 1 (.t 24) (.t 28)⟩,
 ⟨(some 30), (some (23, false)), .ld none (.t 29)⟩,
 ⟨(some 31), none, .pick (.t 23) (.c (.b true)) (.t 30)⟩]
def c70r5 : List AOper := [
 ⟨(some 4), none, .mv (.c (.b false))⟩]
def c70r6 : List AOper := [
 ⟨(some 32), none, .mv (.t 5)⟩,
 ⟨(some 33), none, .mv (.t 1)⟩,
 ⟨(some 34), none, .mv (.t 6)⟩,
 ⟨(some 35), none, .ia 1 (.t 33) (.t 34)⟩,
 ⟨(some 36), none, .ld none (.t 35)⟩,
 ⟨(some 37), none, .ia 1 (.t 32) (.t 36)⟩,
 ⟨none, none, .sto none (.t 37) (.c (.b true))⟩]
def c70r7 : List AOper := [
 ⟨(some 14), none, .mv (.t 6)⟩,
 ⟨(some 15), none, .bin false .add (.t 14) (.c (.i .i64 1))⟩,
 ⟨(some 6), none, .mv (.t 15)⟩]
abbrev c70b8 : AC := (.seq (.seq (.reg c70r3) (.cond (.t 13) .skip (.exit 0))) (.seq (.blk 1 (.seq (.seq (.reg c70r4) (.cond (.t 31) (.seq (.reg c70r5) .ret) .skip)) (.reg c70r6))) (.reg c70r7)))
def c70r9 : List AOper := [
 ⟨(some 4), none, .mv (.c (.b true))⟩]
abbrev c70 : AC := (.seq (.reg c70r0) (.seq (.reg c70r1) (.seq (.seq (.reg c70r2) (.blk 0 (.loop c70b8))) (.seq (.reg c70r9) .ret))))
def q70 : List ARes := [.t 4]
theorem fn70 : fnOf Try.prog 70 = some (c70, q70, 38) := by kernel_rfl
def c71r0 : List AOper := [
 ⟨(some 2), none, .box (.t 0)⟩,
 ⟨(some 3), none, .box (.t 1)⟩,
 ⟨(some 4), none, .mv (.c (.b false))⟩]
def c71r1 : List AOper := [
 ⟨(some 5), none, .ld (some 7) (.t 2)⟩,
 ⟨(some 6), none, .ld (some 7) (.t 3)⟩,
 ⟨(some 7), none, .call (.c (.fn 54 [] [])) [(.t 5), (.t 6)]⟩,
 ⟨(some 8), none, .not (.t 7)⟩,
 ⟨(some 9), none, .mv (.t 8)⟩,
 ⟨(some 10), (some (9, true)), .ld (some 7) (.t 3)⟩,
 ⟨(some 11), (some (9, true)), .ld (some 7) (.t 2)⟩,
 ⟨(some 12), (some (9, true)), .call (.c (.fn 54 [] [])) [(.t 10), (.t 11)]⟩,
 ⟨(some 13), (some (9, true)), .not (.t 12)⟩,
 ⟨(some 14), none, .pick (.t 9) (.t 13) (.c (.b false))⟩,
 ⟨(some 4), none, .mv (.t 14)⟩]
abbrev c71 : AC := (.seq (.reg c71r0) (.seq (.reg c71r1) .ret))
def q71 : List ARes := [.t 4]
theorem fn71 : fnOf Try.prog 71 = some (c71, q71, 15) := by kernel_rfl
-- NOT READ WITHIN: region 7: operation slices.go:496 #[0, 1]
def c72r0 : List AOper := [
 ⟨(some 2), none, .mv (.c (.sl 0 0 0 0))⟩]
def c72r1 : List AOper := [
 ⟨(some 3), none, .mv (.c (.i .i64 0))⟩]
def c72r2 : List AOper := [
 ⟨(some 9), none, .mv (.t 0)⟩,
 ⟨(some 10), none, .len (.t 9)⟩,
 ⟨(some 11), none, .mv (.c (.i .i64 0))⟩]
def c72r3 : List AOper := [
 ⟨(some 12), none, .bin false .lss (.t 11) (.t 10)⟩]
def c72r4 : List AOper := [
 ⟨(some 13), none, .ia 1 (.t 9) (.t 11)⟩,
 ⟨(some 14), none, .ld none (.t 13)⟩,
 ⟨(some 5), none, .mv (.t 14)⟩]
def c72r5 : List AOper := [
 ⟨(some 15), none, .mv (.t 3)⟩,
 ⟨(some 16), none, .mv (.t 5)⟩,
 ⟨(some 17), none, .len (.t 16)⟩,
 ⟨(some 18), none, .bin false .add (.t 15) (.t 17)⟩,
 ⟨(some 3), none, .mv (.t 18)⟩]
def c72r6 : List AOper := [
 ⟨(some 19), none, .mv (.t 3)⟩,
 ⟨(some 20), none, .bin false .lss (.t 19) (.c (.i .i64 0))⟩]
def c72r7 : List AOper := [
 ⟨(some 22), none, .bin false .add (.t 11) (.c (.i .i64 1))⟩,
 ⟨(some 11), none, .mv (.t 22)⟩]
abbrev c72b8 : AC := (.seq (.reg c72r3) (.seq (.cond (.t 12) .skip (.exit 0)) (.seq (.blk 1 (.seq (.reg c72r4) (.seq (.reg c72r5) (.seq (.reg c72r6) (.cond (.t 20) .bad .skip))))) (.reg c72r7))))
def c72r9 : List AOper := [
 ⟨(some 23), none, .mv (.t 3)⟩,
 ⟨(some 24), none, .call (.c (.fn 88 [] [])) [(.c (.sl 0 0 0 0)), (.t 23)]⟩,
 ⟨(some 6), none, .mv (.t 24)⟩]
def c72r10 : List AOper := [
 ⟨(some 25), none, .mv (.t 0)⟩,
 ⟨(some 26), none, .len (.t 25)⟩,
 ⟨(some 27), none, .mv (.c (.i .i64 0))⟩]
def c72r11 : List AOper := [
 ⟨(some 28), none, .bin false .lss (.t 27) (.t 26)⟩]
def c72r12 : List AOper := [
 ⟨(some 29), none, .ia 1 (.t 25) (.t 27)⟩,
 ⟨(some 30), none, .ld none (.t 29)⟩,
 ⟨(some 8), none, .mv (.t 30)⟩]
def c72r13 : List AOper := [
 ⟨(some 31), none, .mv (.t 6)⟩,
 ⟨(some 32), none, .mv (.t 8)⟩,
 ⟨(some 33), none, .app 1 8 (.t 31) (.t 32)⟩,
 ⟨(some 6), none, .mv (.t 33)⟩]
def c72r14 : List AOper := [
 ⟨(some 34), none, .bin false .add (.t 27) (.c (.i .i64 1))⟩,
 ⟨(some 27), none, .mv (.t 34)⟩]
abbrev c72b15 : AC := (.seq (.reg c72r11) (.seq (.cond (.t 28) .skip (.exit 2)) (.seq (.blk 3 (.seq (.reg c72r12) (.reg c72r13))) (.reg c72r14))))
def c72r16 : List AOper := [
 ⟨(some 35), none, .mv (.t 6)⟩,
 ⟨(some 2), none, .mv (.t 35)⟩]
abbrev c72 : AC := (.seq (.reg c72r0) (.seq (.reg c72r1) (.seq (.seq (.reg c72r2) (.blk 0 (.loop c72b8))) (.seq (.reg c72r9) (.seq (.seq (.reg c72r10) (.blk 2 (.loop c72b15))) (.seq (.reg c72r16) .ret))))))
def q72 : List ARes := [.t 2]
theorem fn72 : fnOf Try.prog 72 = some (c72, q72, 36) := by kernel_rfl
def c73r0 : List AOper := [
 ⟨(some 4), none, .mv (.c (.b false))⟩]
def c73r1 : List AOper := [
 ⟨(some 5), none, .mv (.t 0)⟩,
 ⟨(some 6), none, .mv (.t 1)⟩,
 ⟨(some 7), none, .call (.c (.fn 89 [] [])) [(.t 5), (.t 6)]⟩,
 ⟨(some 8), none, .bin false .geq (.t 7) (.c (.i .i64 0))⟩,
 ⟨(some 4), none, .mv (.t 8)⟩]
abbrev c73 : AC := (.seq (.reg c73r0) (.seq (.reg c73r1) .ret))
def q73 : List ARes := [.t 4]
theorem fn73 : fnOf Try.prog 73 = some (c73, q73, 9) := by kernel_rfl
def c74r0 : List AOper := [
 ⟨(some 3), none, .mv (.c (.b false))⟩]
def c74r1 : List AOper := [
 ⟨(some 4), none, .ld none (.t 1)⟩,
 ⟨(some 5), none, .mv (.t 0)⟩,
 ⟨(some 6), none, .call (.c (.fn 64 [] [])) [(.t 4), (.t 5)]⟩,
 ⟨(some 7), none, .not (.t 6)⟩,
 ⟨(some 3), none, .mv (.t 7)⟩]
abbrev c74 : AC := (.seq (.reg c74r0) (.seq (.reg c74r1) .ret))
def q74 : List ARes := [.t 3]
theorem fn74 : fnOf Try.prog 74 = some (c74, q74, 8) := by kernel_rfl
def c75r0 : List AOper := [
 ⟨(some 4), none, .mv (.c (.b false))⟩]
def c75r1 : List AOper := [
 ⟨(some 5), none, .mv (.t 0)⟩,
 ⟨(some 6), none, .mv (.t 1)⟩,
 ⟨(some 7), none, .call (.c (.fn 90 [] [])) [(.t 5), (.t 6)]⟩,
 ⟨(some 8), none, .bin false .geq (.t 7) (.c (.i .i64 0))⟩,
 ⟨(some 4), none, .mv (.t 8)⟩]
abbrev c75 : AC := (.seq (.reg c75r0) (.seq (.reg c75r1) .ret))
def q75 : List ARes := [.t 4]
theorem fn75 : fnOf Try.prog 75 = some (c75, q75, 9) := by kernel_rfl
def c76r0 : List AOper := [
 ⟨(some 4), none, .mv (.c (.i .i64 0))⟩]
def c76r1 : List AOper := [
 ⟨(some 6), none, .mv (.t 0)⟩,
 ⟨(some 7), none, .len (.t 6)⟩,
 ⟨(some 8), none, .mv (.c (.i .i64 0))⟩]
def c76r2 : List AOper := [
 ⟨(some 9), none, .bin false .lss (.t 8) (.t 7)⟩]
def c76r3 : List AOper := [
 ⟨(some 10), none, .mv (.t 8)⟩,
 ⟨(some 5), none, .mv (.t 10)⟩]
def c76r4 : List AOper := [
 ⟨(some 11), none, .mv (.t 1)⟩,
 ⟨(some 12), none, .mv (.t 0)⟩,
 ⟨(some 13), none, .mv (.t 5)⟩,
 ⟨(some 14), none, .ia 1 (.t 12) (.t 13)⟩,
 ⟨(some 15), none, .ld none (.t 14)⟩,
 ⟨(some 16), none, .bin false .eql (.t 11) (.t 15)⟩]
def c76r5 : List AOper := [
 ⟨(some 17), none, .mv (.t 5)⟩,
 ⟨(some 4), none, .mv (.t 17)⟩]
def c76r6 : List AOper := [
 ⟨(some 18), none, .bin false .add (.t 8) (.c (.i .i64 1))⟩,
 ⟨(some 8), none, .mv (.t 18)⟩]
abbrev c76b7 : AC := (.seq (.reg c76r2) (.seq (.cond (.t 9) .skip (.exit 0)) (.seq (.blk 1 (.seq (.reg c76r3) (.seq (.reg c76r4) (.cond (.t 16) (.seq (.reg c76r5) .ret) .skip)))) (.reg c76r6))))
def c76r8 : List AOper := [
 ⟨(some 4), none, .mv (.c (.i .i64 (-1)))⟩]
abbrev c76 : AC := (.seq (.reg c76r0) (.seq (.seq (.reg c76r1) (.blk 0 (.loop c76b7))) (.seq (.reg c76r8) .ret)))
def q76 : List ARes := [.t 4]
theorem fn76 : fnOf Try.prog 76 = some (c76, q76, 19) := by kernel_rfl
-- NOT READ WITHIN: region 2: operation sort.go:67 #[0, 1]
def c77r0 : List AOper := [
 ⟨(some 2), none, .mv (.c (.i .i64 0))⟩]
def c77r1 : List AOper := [
 ⟨(some 5), none, .mv (.t 0)⟩,
 ⟨(some 6), none, .len (.t 5)⟩,
 ⟨(some 7), none, .bin false .lss (.t 6) (.c (.i .i64 1))⟩]
def c77r2 : List AOper := [
 ⟨(some 9), none, .mv (.t 0)⟩,
 ⟨(some 10), none, .ia 1 (.t 9) (.c (.i .i64 0))⟩,
 ⟨(some 11), none, .ld none (.t 10)⟩,
 ⟨(some 3), none, .mv (.t 11)⟩]
def c77r3 : List AOper := [
 ⟨(some 4), none, .mv (.c (.i .i64 1))⟩]
def c77r4 : List AOper := [
 ⟨(some 12), none, .mv (.t 4)⟩,
 ⟨(some 13), none, .mv (.t 0)⟩,
 ⟨(some 14), none, .len (.t 13)⟩,
 ⟨(some 15), none, .bin false .lss (.t 12) (.t 14)⟩]
def c77r5 : List AOper := [
 ⟨(some 18), none, .mv (.t 3)⟩,
 ⟨(some 19), none, .mv (.t 0)⟩,
 ⟨(some 20), none, .mv (.t 4)⟩,
 ⟨(some 21), none, .ia 1 (.t 19) (.t 20)⟩,
 ⟨(some 22), none, .ld none (.t 21)⟩,
 ⟨(some 23), none, .mm false (.t 18) [(.t 22)]⟩,
 ⟨(some 3), none, .mv (.t 23)⟩]
def c77r6 : List AOper := [
 ⟨(some 16), none, .mv (.t 4)⟩,
 ⟨(some 17), none, .bin false .add (.t 16) (.c (.i .i64 1))⟩,
 ⟨(some 4), none, .mv (.t 17)⟩]
abbrev c77b7 : AC := (.seq (.seq (.reg c77r4) (.cond (.t 15) .skip (.exit 0))) (.seq (.blk 1 (.reg c77r5)) (.reg c77r6)))
def c77r8 : List AOper := [
 ⟨(some 24), none, .mv (.t 3)⟩,
 ⟨(some 2), none, .mv (.t 24)⟩]
abbrev c77 : AC := (.seq (.reg c77r0) (.seq (.seq (.reg c77r1) (.cond (.t 7) .bad .skip)) (.seq (.reg c77r2) (.seq (.seq (.reg c77r3) (.blk 0 (.loop c77b7))) (.seq (.reg c77r8) .ret)))))
def q77 : List ARes := [.t 2]
theorem fn77 : fnOf Try.prog 77 = some (c77, q77, 25) := by kernel_rfl
def c78r0 : List AOper := [
 ⟨(some 2), none, .mv (.c (.b false))⟩]
def c78r1 : List AOper := [
 ⟨(some 3), none, .mv (.t 0)⟩,
 ⟨(some 4), none, .len (.t 3)⟩,
 ⟨(some 5), none, .bin false .gtr (.t 4) (.c (.i .i64 8))⟩,
 ⟨(some 6), none, .mv (.t 5)⟩,
 ⟨(some 7), (some (6, false)), .mv (.t 0)⟩,
 ⟨(some 8), (some (6, false)), .call (.c (.fn 91 [] [])) [(.t 7), (.c (.fn 92 [] []))]⟩,
 ⟨(some 9), none, .pick (.t 6) (.c (.b true)) (.t 8)⟩,
 ⟨(some 2), none, .mv (.t 9)⟩]
abbrev c78 : AC := (.seq (.reg c78r0) (.seq (.reg c78r1) .ret))
def q78 : List ARes := [.t 2]
theorem fn78 : fnOf Try.prog 78 = some (c78, q78, 10) := by kernel_rfl
def c79r0 : List AOper := [
 ⟨(some 5), none, .box (.t 2)⟩,
 ⟨(some 6), none, .mv (.c (.i .i64 0))⟩]
def c79r1 : List AOper := [
 ⟨(some 8), none, .mv (.t 0)⟩,
 ⟨(some 9), none, .nck (.t 8)⟩,
 ⟨(some 10), none, .fa (.t 9) 0⟩,
 ⟨(some 11), none, .ld none (.t 10)⟩,
 ⟨(some 12), none, .fa (.t 5) 0⟩,
 ⟨(some 13), none, .ld none (.t 12)⟩,
 ⟨(some 14), none, .call (.c (.fn 64 [] [])) [(.t 11), (.t 13)]⟩,
 ⟨(some 15), none, .not (.t 14)⟩,
 ⟨(some 16), none, .mv (.t 15)⟩,
 ⟨(some 17), (some (16, false)), .fa (.t 5) 1⟩,
 ⟨(some 18), (some (16, false)), .ld none (.t 17)⟩,
 ⟨(some 19), (some (16, false)), .bin false .lss (.t 18) (.c (.i .i64 0))⟩,
 ⟨(some 20), none, .pick (.t 16) (.c (.b true)) (.t 19)⟩,
 ⟨(some 7), none, .mv (.t 20)⟩]
def c79r2 : List AOper := [
 ⟨(some 6), none, .mv (.c (.i .i64 2))⟩]
def c79r3 : List AOper := [
 ⟨(some 22), none, .mv (.t 0)⟩,
 ⟨(some 23), none, .nck (.t 22)⟩,
 ⟨(some 24), none, .fa (.t 23) 2⟩,
 ⟨(some 25), none, .ld none (.t 24)⟩,
 ⟨(some 26), none, .fa (.t 5) 0⟩,
 ⟨(some 27), none, .ld none (.t 26)⟩,
 ⟨(some 28), none, .ia 1 (.t 25) (.t 27)⟩,
 ⟨(some 29), none, .ld none (.t 28)⟩,
 ⟨(some 21), none, .mv (.t 29)⟩]
def c79r4 : List AOper := [
 ⟨(some 6), none, .mv (.c (.i .i64 43))⟩]
def c79r5 : List AOper := [
 ⟨(some 31), none, .mv (.t 1)⟩,
 ⟨(some 32), none, .len (.t 31)⟩,
 ⟨(some 33), none, .bin false .gtr (.t 32) (.c (.i .i64 0))⟩,
 ⟨(some 34), none, .mv (.t 33)⟩,
 ⟨(some 35), (some (34, true)), .fa (.t 5) 1⟩,
 ⟨(some 36), (some (34, true)), .ld none (.t 35)⟩,
 ⟨(some 37), (some (34, true)), .mv (.t 1)⟩,
 ⟨(some 38), (some (34, true)), .mv (.t 1)⟩,
 ⟨(some 39), (some (34, true)), .len (.t 38)⟩,
 ⟨(some 40), (some (34, true)), .bin false .sub (.t 39) (.c (.i .i64 1))⟩,
 ⟨(some 41), (some (34, true)), .ia 4 (.t 37) (.t 40)⟩,
 ⟨(some 42), (some (34, true)), .fa (.t 41) 2⟩,
 ⟨(some 43), (some (34, true)), .ld none (.t 42)⟩,
 ⟨(some 44), (some (34, true)), .bin false .lss (.t 36) (.t 43)⟩,
 ⟨(some 45), none, .pick (.t 34) (.t 44) (.c (.b false))⟩,
 ⟨(some 30), none, .mv (.t 45)⟩]
def c79r6 : List AOper := [
 ⟨(some 6), none, .mv (.c (.i .i64 73))⟩]
def c79r7 : List AOper := [
 ⟨(some 47), none, .ld (some 4) (.t 5)⟩,
 ⟨(some 48), none, .mv (.t 0)⟩,
 ⟨(some 49), none, .nck (.t 48)⟩,
 ⟨(some 50), none, .fa (.t 49) 0⟩,
 ⟨(some 51), none, .ld none (.t 50)⟩,
 ⟨(some 52), none, .fa (.t 5) 0⟩,
 ⟨(some 53), none, .ld none (.t 52)⟩,
 ⟨(some 54), none, .ia 7 (.t 51) (.t 53)⟩,
 ⟨(some 55), none, .ld (some 7) (.t 54)⟩,
 ⟨(some 56), none, .ld (some 4) (.t 5)⟩,
 ⟨(some 57), none, .mv (.t 0)⟩,
 ⟨(some 58), none, .nck (.t 57)⟩,
 ⟨(some 59), none, .fa (.t 58) 1⟩,
 ⟨(some 60), none, .ld none (.t 59)⟩,
 ⟨(some 61), none, .call (.c (.fn 66 [] [])) [(.t 55), (.t 56), (.t 60)]⟩,
 ⟨(some 62), none, .call (.c (.fn 65 [] [])) [(.t 47), (.t 61)]⟩,
 ⟨(some 63), none, .not (.t 62)⟩,
 ⟨(some 46), none, .mv (.t 63)⟩]
def c79r8 : List AOper := [
 ⟨(some 6), none, .mv (.c (.i .i64 73))⟩]
def c79r9 : List AOper := [
 ⟨(some 65), none, .fa (.t 5) 3⟩,
 ⟨(some 66), none, .ld none (.t 65)⟩,
 ⟨(some 67), none, .not (.t 66)⟩,
 ⟨(some 68), none, .mv (.t 67)⟩,
 ⟨(some 69), (some (68, true)), .mv (.t 1)⟩,
 ⟨(some 70), (some (68, true)), .len (.t 69)⟩,
 ⟨(some 71), (some (68, true)), .bin false .eql (.t 70) (.c (.i .i64 0))⟩,
 ⟨(some 72), (some (68, true)), .mv (.t 71)⟩,
 ⟨(some 73), (some (72, false)), .mv (.t 0)⟩,
 ⟨(some 74), (some (72, false)), .nck (.t 73)⟩,
 ⟨(some 75), (some (72, false)), .fa (.t 74) 0⟩,
 ⟨(some 76), (some (72, false)), .ld none (.t 75)⟩,
 ⟨(some 77), (some (72, false)), .mv (.t 1)⟩,
 ⟨(some 78), (some (72, false)), .mv (.t 1)⟩,
 ⟨(some 79), (some (72, false)), .len (.t 78)⟩,
 ⟨(some 80), (some (72, false)), .bin false .sub (.t 79) (.c (.i .i64 1))⟩,
 ⟨(some 81), (some (72, false)), .ia 4 (.t 77) (.t 80)⟩,
 ⟨(some 82), (some (72, false)), .fa (.t 81) 0⟩,
 ⟨(some 83), (some (72, false)), .ld none (.t 82)⟩,
 ⟨(some 84), (some (72, false)), .ia 7 (.t 76) (.t 83)⟩,
 ⟨(some 85), (some (72, false)), .ld (some 7) (.t 84)⟩,
 ⟨(some 86), (some (72, false)), .mv (.t 0)⟩,
 ⟨(some 87), (some (72, false)), .nck (.t 86)⟩,
 ⟨(some 88), (some (72, false)), .fa (.t 87) 0⟩,
 ⟨(some 89), (some (72, false)), .ld none (.t 88)⟩,
 ⟨(some 90), (some (72, false)), .fa (.t 5) 0⟩,
 ⟨(some 91), (some (72, false)), .ld none (.t 90)⟩,
 ⟨(some 92), (some (72, false)), .ia 7 (.t 89) (.t 91)⟩,
 ⟨(some 93), (some (72, false)), .ld (some 7) (.t 92)⟩,
 ⟨(some 94), (some (72, false)), .call (.c (.fn 58 [] [])) [(.t 85), (.t 93)]⟩,
 ⟨(some 95), (some (72, false)), .not (.t 94)⟩,
 ⟨(some 96), (some (68, true)), .pick (.t 72) (.c (.b true)) (.t 95)⟩,
 ⟨(some 97), none, .pick (.t 68) (.t 96) (.c (.b false))⟩,
 ⟨(some 64), none, .mv (.t 97)⟩]
def c79r10 : List AOper := [
 ⟨(some 6), none, .mv (.c (.i .i64 61))⟩]
def c79r11 : List AOper := [
 ⟨(some 98), none, .mv (.t 0)⟩,
 ⟨(some 99), none, .nck (.t 98)⟩,
 ⟨(some 100), none, .fa (.t 99) 2⟩,
 ⟨(some 101), none, .ld none (.t 100)⟩,
 ⟨(some 102), none, .fa (.t 5) 0⟩,
 ⟨(some 103), none, .ld none (.t 102)⟩,
 ⟨(some 104), none, .ia 1 (.t 101) (.t 103)⟩,
 ⟨none, none, .sto none (.t 104) (.c (.b true))⟩]
def c79r12 : List AOper := [
 ⟨(some 6), none, .mv (.c (.i .i64 0))⟩]
abbrev c79 : AC := (.seq (.reg c79r0) (.seq (.blk 0 (.seq (.head 6 c79r1) (.cond (.t 7) (.seq (.reg c79r2) .ret) (.seq (.head 6 c79r3) (.cond (.t 21) (.seq (.reg c79r4) .ret) (.seq (.head 13 c79r5) (.cond (.t 30) (.seq (.reg c79r6) .ret) (.seq (.head 15 c79r7) (.cond (.t 46) (.seq (.reg c79r8) .ret) (.seq (.head 29 c79r9) (.cond (.t 64) (.seq (.reg c79r10) .ret) .skip))))))))))) (.seq (.head 6 c79r11) (.seq (.reg c79r12) .ret))))
def q79 : List ARes := [.t 6]
theorem fn79 : fnOf Try.prog 79 = some (c79, q79, 105) := by kernel_rfl
-- NOT READ WITHIN: region 7: operation slices.go:496 #[0, 1]
def c81r0 : List AOper := [
 ⟨(some 2), none, .mv (.c (.sl 0 0 0 0))⟩]
def c81r1 : List AOper := [
 ⟨(some 3), none, .mv (.c (.i .i64 0))⟩]
def c81r2 : List AOper := [
 ⟨(some 9), none, .mv (.t 0)⟩,
 ⟨(some 10), none, .len (.t 9)⟩,
 ⟨(some 11), none, .mv (.c (.i .i64 0))⟩]
def c81r3 : List AOper := [
 ⟨(some 12), none, .bin false .lss (.t 11) (.t 10)⟩]
def c81r4 : List AOper := [
 ⟨(some 13), none, .ia 1 (.t 9) (.t 11)⟩,
 ⟨(some 14), none, .ld none (.t 13)⟩,
 ⟨(some 5), none, .mv (.t 14)⟩]
def c81r5 : List AOper := [
 ⟨(some 15), none, .mv (.t 3)⟩,
 ⟨(some 16), none, .mv (.t 5)⟩,
 ⟨(some 17), none, .len (.t 16)⟩,
 ⟨(some 18), none, .bin false .add (.t 15) (.t 17)⟩,
 ⟨(some 3), none, .mv (.t 18)⟩]
def c81r6 : List AOper := [
 ⟨(some 19), none, .mv (.t 3)⟩,
 ⟨(some 20), none, .bin false .lss (.t 19) (.c (.i .i64 0))⟩]
def c81r7 : List AOper := [
 ⟨(some 22), none, .bin false .add (.t 11) (.c (.i .i64 1))⟩,
 ⟨(some 11), none, .mv (.t 22)⟩]
abbrev c81b8 : AC := (.seq (.reg c81r3) (.seq (.cond (.t 12) .skip (.exit 0)) (.seq (.blk 1 (.seq (.reg c81r4) (.seq (.reg c81r5) (.seq (.reg c81r6) (.cond (.t 20) .bad .skip))))) (.reg c81r7))))
def c81r9 : List AOper := [
 ⟨(some 23), none, .mv (.t 3)⟩,
 ⟨(some 24), none, .call (.c (.fn 93 [] [])) [(.c (.sl 0 0 0 0)), (.t 23)]⟩,
 ⟨(some 6), none, .mv (.t 24)⟩]
def c81r10 : List AOper := [
 ⟨(some 25), none, .mv (.t 0)⟩,
 ⟨(some 26), none, .len (.t 25)⟩,
 ⟨(some 27), none, .mv (.c (.i .i64 0))⟩]
def c81r11 : List AOper := [
 ⟨(some 28), none, .bin false .lss (.t 27) (.t 26)⟩]
def c81r12 : List AOper := [
 ⟨(some 29), none, .ia 1 (.t 25) (.t 27)⟩,
 ⟨(some 30), none, .ld none (.t 29)⟩,
 ⟨(some 8), none, .mv (.t 30)⟩]
def c81r13 : List AOper := [
 ⟨(some 31), none, .mv (.t 6)⟩,
 ⟨(some 32), none, .mv (.t 8)⟩,
 ⟨(some 33), none, .app 4 32 (.t 31) (.t 32)⟩,
 ⟨(some 6), none, .mv (.t 33)⟩]
def c81r14 : List AOper := [
 ⟨(some 34), none, .bin false .add (.t 27) (.c (.i .i64 1))⟩,
 ⟨(some 27), none, .mv (.t 34)⟩]
abbrev c81b15 : AC := (.seq (.reg c81r11) (.seq (.cond (.t 28) .skip (.exit 2)) (.seq (.blk 3 (.seq (.reg c81r12) (.reg c81r13))) (.reg c81r14))))
def c81r16 : List AOper := [
 ⟨(some 35), none, .mv (.t 6)⟩,
 ⟨(some 2), none, .mv (.t 35)⟩]
abbrev c81 : AC := (.seq (.reg c81r0) (.seq (.reg c81r1) (.seq (.seq (.reg c81r2) (.blk 0 (.loop c81b8))) (.seq (.reg c81r9) (.seq (.seq (.reg c81r10) (.blk 2 (.loop c81b15))) (.seq (.reg c81r16) .ret))))))
def q81 : List ARes := [.t 2]
theorem fn81 : fnOf Try.prog 81 = some (c81, q81, 36) := by kernel_rfl
-- NOT READ WITHIN: region 2: operation sort.go:111 #[0, 1]
def c82r0 : List AOper := [
 ⟨(some 4), none, .alloc [.i .i64 0, .i .i64 0, .i .i64 0, .b false]⟩]
def c82r1 : List AOper := [
 ⟨(some 7), none, .mv (.t 0)⟩,
 ⟨(some 8), none, .len (.t 7)⟩,
 ⟨(some 9), none, .bin false .lss (.t 8) (.c (.i .i64 1))⟩]
def c82r2 : List AOper := [
 ⟨(some 11), none, .mv (.t 0)⟩,
 ⟨(some 12), none, .ia 4 (.t 11) (.c (.i .i64 0))⟩,
 ⟨(some 13), none, .ld (some 4) (.t 12)⟩,
 ⟨(some 5), none, .alloc [.i .i64 0, .i .i64 0, .i .i64 0, .b false]⟩,
 ⟨none, none, .sto (some 4) (.t 5) (.t 13)⟩]
def c82r3 : List AOper := [
 ⟨(some 6), none, .mv (.c (.i .i64 1))⟩]
def c82r4 : List AOper := [
 ⟨(some 14), none, .mv (.t 6)⟩,
 ⟨(some 15), none, .mv (.t 0)⟩,
 ⟨(some 16), none, .len (.t 15)⟩,
 ⟨(some 17), none, .bin false .lss (.t 14) (.t 16)⟩]
def c82r5 : List AOper := [
 ⟨(some 20), none, .mv (.t 1)⟩,
 ⟨(some 21), none, .mv (.t 0)⟩,
 ⟨(some 22), none, .mv (.t 6)⟩,
 ⟨(some 23), none, .ia 4 (.t 21) (.t 22)⟩,
 ⟨(some 24), none, .ld (some 4) (.t 23)⟩,
 ⟨(some 25), none, .ld (some 4) (.t 5)⟩,
 ⟨(some 26), none, .call (.t 20) [(.t 24), (.t 25)]⟩,
 ⟨(some 27), none, .bin false .gtr (.t 26) (.c (.i .i64 0))⟩]
def c82r6 : List AOper := [
 ⟨(some 28), none, .mv (.t 0)⟩,
 ⟨(some 29), none, .mv (.t 6)⟩,
 ⟨(some 30), none, .ia 4 (.t 28) (.t 29)⟩,
 ⟨(some 31), none, .ld (some 4) (.t 30)⟩,
 ⟨none, none, .sto (some 4) (.t 5) (.t 31)⟩]
def c82r7 : List AOper := [
 ⟨(some 18), none, .mv (.t 6)⟩,
 ⟨(some 19), none, .bin false .add (.t 18) (.c (.i .i64 1))⟩,
 ⟨(some 6), none, .mv (.t 19)⟩]
abbrev c82b8 : AC := (.seq (.seq (.reg c82r4) (.cond (.t 17) .skip (.exit 0))) (.seq (.blk 1 (.seq (.head 6 c82r5) (.cond (.t 27) (.reg c82r6) .skip))) (.reg c82r7)))
def c82r9 : List AOper := [
 ⟨(some 32), none, .ld (some 4) (.t 5)⟩,
 ⟨none, none, .sto (some 4) (.t 4) (.t 32)⟩]
abbrev c82 : AC := (.seq (.reg c82r0) (.seq (.seq (.reg c82r1) (.cond (.t 9) .bad .skip)) (.seq (.reg c82r2) (.seq (.seq (.reg c82r3) (.blk 0 (.loop c82b8))) (.seq (.reg c82r9) .ret)))))
def q82 : List ARes := [.c 4 (some 4)]
theorem fn82 : fnOf Try.prog 82 = some (c82, q82, 33) := by kernel_rfl
def c83r0 : List AOper := [
 ⟨(some 2), none, .box (.t 0)⟩,
 ⟨(some 3), none, .box (.t 1)⟩,
 ⟨(some 4), none, .mv (.c (.i .i64 0))⟩]
def c83r1 : List AOper := [
 ⟨(some 6), none, .fa (.t 2) 2⟩,
 ⟨(some 7), none, .ld none (.t 6)⟩,
 ⟨(some 8), none, .fa (.t 3) 2⟩,
 ⟨(some 9), none, .ld none (.t 8)⟩,
 ⟨(some 10), none, .bin false .lss (.t 7) (.t 9)⟩,
 ⟨(some 5), none, .mv (.t 10)⟩]
def c83r2 : List AOper := [
 ⟨(some 4), none, .mv (.c (.i .i64 (-1)))⟩]
def c83r3 : List AOper := [
 ⟨(some 12), none, .fa (.t 2) 2⟩,
 ⟨(some 13), none, .ld none (.t 12)⟩,
 ⟨(some 14), none, .fa (.t 3) 2⟩,
 ⟨(some 15), none, .ld none (.t 14)⟩,
 ⟨(some 16), none, .bin false .gtr (.t 13) (.t 15)⟩,
 ⟨(some 11), none, .mv (.t 16)⟩]
def c83r4 : List AOper := [
 ⟨(some 4), none, .mv (.c (.i .i64 1))⟩]
def c83r5 : List AOper := [
 ⟨(some 4), none, .mv (.c (.i .i64 0))⟩]
abbrev c83 : AC := (.seq (.reg c83r0) (.seq (.blk 0 (.seq (.reg c83r1) (.cond (.t 5) (.seq (.reg c83r2) .ret) (.seq (.reg c83r3) (.cond (.t 11) (.seq (.reg c83r4) .ret) .skip))))) (.seq (.reg c83r5) .ret)))
def q83 : List ARes := [.t 4]
theorem fn83 : fnOf Try.prog 83 = some (c83, q83, 17) := by kernel_rfl
def c85r0 : List AOper := [
 ⟨(some 1), none, .box (.t 0)⟩,
 ⟨(some 2), none, .mv (.c (.sl 0 0 0 0))⟩]
def c85r1 : List AOper := [
 ⟨(some 3), none, .mv (.c (.sl 0 0 0 0))⟩]
def c85r2 : List AOper := [
 ⟨(some 5), none, .ld none (.t 1)⟩,
 ⟨(some 6), none, .len (.t 5)⟩,
 ⟨(some 7), none, .mv (.c (.i .i64 0))⟩]
def c85r3 : List AOper := [
 ⟨(some 8), none, .bin false .lss (.t 7) (.t 6)⟩]
def c85r4 : List AOper := [
 ⟨(some 9), none, .mv (.t 7)⟩,
 ⟨(some 4), none, .mv (.t 9)⟩]
def c85r5 : List AOper := [
 ⟨(some 10), none, .mv (.t 3)⟩,
 ⟨(some 11), none, .mv (.t 4)⟩,
 ⟨(some 12), none, .bsl 1 [.i .i64 0] [(0, 1, (.t 11))]⟩,
 ⟨(some 13), none, .app 1 8 (.t 10) (.t 12)⟩,
 ⟨(some 3), none, .mv (.t 13)⟩]
def c85r6 : List AOper := [
 ⟨(some 14), none, .bin false .add (.t 7) (.c (.i .i64 1))⟩,
 ⟨(some 7), none, .mv (.t 14)⟩]
abbrev c85b7 : AC := (.seq (.reg c85r3) (.seq (.cond (.t 8) .skip (.exit 0)) (.seq (.blk 1 (.seq (.reg c85r4) (.reg c85r5))) (.reg c85r6))))
def c85r8 : List AOper := [
 ⟨(some 15), none, .mv (.t 3)⟩,
 ⟨(some 16), none, .mkf 97 [] [(.t 1)]⟩,
 ⟨(some 17), none, .call (.c (.fn 96 [] [])) [(.t 15), (.t 16)]⟩]
def c85r9 : List AOper := [
 ⟨(some 18), none, .mv (.t 3)⟩,
 ⟨(some 2), none, .mv (.t 18)⟩]
abbrev c85 : AC := (.seq (.reg c85r0) (.seq (.reg c85r1) (.seq (.seq (.reg c85r2) (.blk 0 (.loop c85b7))) (.seq (.reg c85r8) (.seq (.reg c85r9) .ret)))))
def q85 : List ARes := [.t 2]
theorem fn85 : fnOf Try.prog 85 = some (c85, q85, 19) := by kernel_rfl
def c86r0 : List AOper := [
 ⟨(some 4), none, .mv (.c (.i .i64 0))⟩]
def c86r1 : List AOper := [
 ⟨(some 6), none, .mv (.t 0)⟩,
 ⟨(some 7), none, .len (.t 6)⟩,
 ⟨(some 8), none, .mv (.c (.i .i64 0))⟩]
def c86r2 : List AOper := [
 ⟨(some 9), none, .bin false .lss (.t 8) (.t 7)⟩]
def c86r3 : List AOper := [
 ⟨(some 10), none, .mv (.t 8)⟩,
 ⟨(some 5), none, .mv (.t 10)⟩]
def c86r4 : List AOper := [
 ⟨(some 11), none, .mv (.t 1)⟩,
 ⟨(some 12), none, .mv (.t 0)⟩,
 ⟨(some 13), none, .mv (.t 5)⟩,
 ⟨(some 14), none, .ia 1 (.t 12) (.t 13)⟩,
 ⟨(some 15), none, .ld none (.t 14)⟩,
 ⟨(some 16), none, .call (.t 11) [(.t 15)]⟩]
def c86r5 : List AOper := [
 ⟨(some 17), none, .mv (.t 5)⟩,
 ⟨(some 4), none, .mv (.t 17)⟩]
def c86r6 : List AOper := [
 ⟨(some 18), none, .bin false .add (.t 8) (.c (.i .i64 1))⟩,
 ⟨(some 8), none, .mv (.t 18)⟩]
abbrev c86b7 : AC := (.seq (.reg c86r2) (.seq (.cond (.t 9) .skip (.exit 0)) (.seq (.blk 1 (.seq (.reg c86r3) (.seq (.reg c86r4) (.cond (.t 16) (.seq (.reg c86r5) .ret) .skip)))) (.reg c86r6))))
def c86r8 : List AOper := [
 ⟨(some 4), none, .mv (.c (.i .i64 (-1)))⟩]
abbrev c86 : AC := (.seq (.reg c86r0) (.seq (.seq (.reg c86r1) (.blk 0 (.loop c86b7))) (.seq (.reg c86r8) .ret)))
def q86 : List ARes := [.t 4]
theorem fn86 : fnOf Try.prog 86 = some (c86, q86, 19) := by kernel_rfl
def c87r0 : List AOper := [
 ⟨(some 4), none, .mv (.c (.b false))⟩]
def c87r1 : List AOper := [
 ⟨(some 5), none, .ld none (.t 1)⟩,
 ⟨(some 6), none, .mv (.t 0)⟩,
 ⟨(some 7), none, .mv (.t 0)⟩,
 ⟨(some 8), none, .len (.t 7)⟩,
 ⟨(some 9), none, .bin false .sub (.t 8) (.c (.i .i64 1))⟩,
 ⟨(some 10), none, .ia 1 (.t 6) (.t 9)⟩,
 ⟨(some 11), none, .ld none (.t 10)⟩,
 ⟨(some 12), none, .ia 7 (.t 5) (.t 11)⟩,
 ⟨(some 13), none, .ld (some 7) (.t 12)⟩,
 ⟨(some 14), none, .ld none (.t 1)⟩,
 ⟨(some 15), none, .ld none (.t 2)⟩,
 ⟨(some 16), none, .ia 7 (.t 14) (.t 15)⟩,
 ⟨(some 17), none, .ld (some 7) (.t 16)⟩,
 ⟨(some 18), none, .call (.c (.fn 58 [] [])) [(.t 13), (.t 17)]⟩,
 ⟨(some 4), none, .mv (.t 18)⟩]
abbrev c87 : AC := (.seq (.reg c87r0) (.seq (.head 13 c87r1) .ret))
def q87 : List ARes := [.t 4]
theorem fn87 : fnOf Try.prog 87 = some (c87, q87, 19) := by kernel_rfl
def c89r0 : List AOper := [
 ⟨(some 4), none, .mv (.c (.i .i64 0))⟩]
def c89r1 : List AOper := [
 ⟨(some 6), none, .mv (.t 0)⟩,
 ⟨(some 7), none, .len (.t 6)⟩,
 ⟨(some 8), none, .mv (.c (.i .i64 0))⟩]
def c89r2 : List AOper := [
 ⟨(some 9), none, .bin false .lss (.t 8) (.t 7)⟩]
def c89r3 : List AOper := [
 ⟨(some 10), none, .mv (.t 8)⟩,
 ⟨(some 5), none, .mv (.t 10)⟩]
def c89r4 : List AOper := [
 ⟨(some 11), none, .mv (.t 1)⟩,
 ⟨(some 12), none, .mv (.t 0)⟩,
 ⟨(some 13), none, .mv (.t 5)⟩,
 ⟨(some 14), none, .ia 1 (.t 12) (.t 13)⟩,
 ⟨(some 15), none, .ld none (.t 14)⟩,
 ⟨(some 16), none, .call (.t 11) [(.t 15)]⟩]
def c89r5 : List AOper := [
 ⟨(some 17), none, .mv (.t 5)⟩,
 ⟨(some 4), none, .mv (.t 17)⟩]
def c89r6 : List AOper := [
 ⟨(some 18), none, .bin false .add (.t 8) (.c (.i .i64 1))⟩,
 ⟨(some 8), none, .mv (.t 18)⟩]
abbrev c89b7 : AC := (.seq (.reg c89r2) (.seq (.cond (.t 9) .skip (.exit 0)) (.seq (.blk 1 (.seq (.reg c89r3) (.seq (.reg c89r4) (.cond (.t 16) (.seq (.reg c89r5) .ret) .skip)))) (.reg c89r6))))
def c89r8 : List AOper := [
 ⟨(some 4), none, .mv (.c (.i .i64 (-1)))⟩]
abbrev c89 : AC := (.seq (.reg c89r0) (.seq (.seq (.reg c89r1) (.blk 0 (.loop c89b7))) (.seq (.reg c89r8) .ret)))
def q89 : List ARes := [.t 4]
theorem fn89 : fnOf Try.prog 89 = some (c89, q89, 19) := by kernel_rfl
def c90r0 : List AOper := [
 ⟨(some 4), none, .mv (.c (.i .i64 0))⟩]
def c90r1 : List AOper := [
 ⟨(some 6), none, .mv (.t 0)⟩,
 ⟨(some 7), none, .len (.t 6)⟩,
 ⟨(some 8), none, .mv (.c (.i .i64 0))⟩]
def c90r2 : List AOper := [
 ⟨(some 9), none, .bin false .lss (.t 8) (.t 7)⟩]
def c90r3 : List AOper := [
 ⟨(some 10), none, .mv (.t 8)⟩,
 ⟨(some 5), none, .mv (.t 10)⟩]
def c90r4 : List AOper := [
 ⟨(some 11), none, .mv (.t 1)⟩,
 ⟨(some 12), none, .mv (.t 0)⟩,
 ⟨(some 13), none, .mv (.t 5)⟩,
 ⟨(some 14), none, .ia 1 (.t 12) (.t 13)⟩,
 ⟨(some 15), none, .ld none (.t 14)⟩,
 ⟨(some 16), none, .bin true .eql (.t 11) (.t 15)⟩]
def c90r5 : List AOper := [
 ⟨(some 17), none, .mv (.t 5)⟩,
 ⟨(some 4), none, .mv (.t 17)⟩]
def c90r6 : List AOper := [
 ⟨(some 18), none, .bin false .add (.t 8) (.c (.i .i64 1))⟩,
 ⟨(some 8), none, .mv (.t 18)⟩]
abbrev c90b7 : AC := (.seq (.reg c90r2) (.seq (.cond (.t 9) .skip (.exit 0)) (.seq (.blk 1 (.seq (.reg c90r3) (.seq (.reg c90r4) (.cond (.t 16) (.seq (.reg c90r5) .ret) .skip)))) (.reg c90r6))))
def c90r8 : List AOper := [
 ⟨(some 4), none, .mv (.c (.i .i64 (-1)))⟩]
abbrev c90 : AC := (.seq (.reg c90r0) (.seq (.seq (.reg c90r1) (.blk 0 (.loop c90b7))) (.seq (.reg c90r8) .ret)))
def q90 : List ARes := [.t 4]
theorem fn90 : fnOf Try.prog 90 = some (c90, q90, 19) := by kernel_rfl
def c91r0 : List AOper := [
 ⟨(some 4), none, .mv (.c (.b false))⟩]
def c91r1 : List AOper := [
 ⟨(some 5), none, .mv (.t 0)⟩,
 ⟨(some 6), none, .mv (.t 1)⟩,
 ⟨(some 7), none, .call (.c (.fn 100 [] [])) [(.t 5), (.t 6)]⟩,
 ⟨(some 8), none, .bin false .geq (.t 7) (.c (.i .i64 0))⟩,
 ⟨(some 4), none, .mv (.t 8)⟩]
abbrev c91 : AC := (.seq (.reg c91r0) (.seq (.reg c91r1) .ret))
def q91 : List ARes := [.t 4]
theorem fn91 : fnOf Try.prog 91 = some (c91, q91, 9) := by kernel_rfl
def c92r0 : List AOper := [
 ⟨(some 2), none, .mv (.c (.b false))⟩]
def c92r1 : List AOper := [
 ⟨(some 3), none, .mv (.t 0)⟩,
 ⟨(some 4), none, .len (.t 3)⟩,
 ⟨(some 5), none, .bin false .gtr (.t 4) (.c (.i .i64 100))⟩,
 ⟨(some 2), none, .mv (.t 5)⟩]
abbrev c92 : AC := (.seq (.reg c92r0) (.seq (.reg c92r1) .ret))
def q92 : List ARes := [.t 2]
theorem fn92 : fnOf Try.prog 92 = some (c92, q92, 6) := by kernel_rfl
def q96 : List ARes := []
def c97r0 : List AOper := [
 ⟨(some 5), none, .mv (.c (.i .i64 0))⟩]
def c97r1 : List AOper := [
 ⟨(some 8), none, .ld none (.t 2)⟩,
 ⟨(some 9), none, .mv (.t 0)⟩,
 ⟨(some 10), none, .ia 7 (.t 8) (.t 9)⟩,
 ⟨(some 11), none, .ld (some 7) (.t 10)⟩,
 ⟨(some 12), none, .ld none (.t 2)⟩,
 ⟨(some 13), none, .mv (.t 1)⟩,
 ⟨(some 14), none, .ia 7 (.t 12) (.t 13)⟩,
 ⟨(some 15), none, .ld (some 7) (.t 14)⟩,
 ⟨(some 6), none, .alloc [.i .i64 0, .i .i64 0, .i .i64 0, .i .i64 0, .i .i64 0, .i .i64 0, .i .i64 0]⟩,
 ⟨(some 7), none, .alloc [.i .i64 0, .i .i64 0, .i .i64 0, .i .i64 0, .i .i64 0, .i .i64 0, .i .i64 0]⟩,
 ⟨none, none, .sto (some 7) (.t 6) (.t 11)⟩,
 ⟨none, none, .sto (some 7) (.t 7) (.t 15)⟩]
def c97r2 : List AOper := [
 ⟨(some 16), none, .fa (.t 6) 1⟩,
 ⟨(some 17), none, .ld none (.t 16)⟩,
 ⟨(some 18), none, .fa (.t 7) 1⟩,
 ⟨(some 19), none, .ld none (.t 18)⟩,
 ⟨(some 20), none, .call (.c (.fn 99 [] [])) [(.t 17), (.t 19)]⟩,
 ⟨(some 21), none, .fa (.t 6) 2⟩,
 ⟨(some 22), none, .ld none (.t 21)⟩,
 ⟨(some 23), none, .fa (.t 7) 2⟩,
 ⟨(some 24), none, .ld none (.t 23)⟩,
 ⟨(some 25), none, .call (.c (.fn 99 [] [])) [(.t 22), (.t 24)]⟩,
 ⟨(some 26), none, .fa (.t 6) 0⟩,
 ⟨(some 27), none, .ld none (.t 26)⟩,
 ⟨(some 28), none, .fa (.t 7) 0⟩,
 ⟨(some 29), none, .ld none (.t 28)⟩,
 ⟨(some 30), none, .call (.c (.fn 99 [] [])) [(.t 27), (.t 29)]⟩,
 ⟨(some 31), none, .bsl 1 [.i .i64 0, .i .i64 0, .i .i64 0] [(0, 1, (.t 20)), (1, 1, (.t 25)), (2, 1, (.t 30))]⟩,
 ⟨(some 32), none, .call (.c (.fn 98 [] [])) [(.t 31)]⟩,
 ⟨(some 5), none, .mv (.t 32)⟩]
abbrev c97 : AC := (.seq (.reg c97r0) (.seq (.head 11 c97r1) (.seq (.head 14 c97r2) .ret)))
def q97 : List ARes := [.t 5]
theorem fn97 : fnOf Try.prog 97 = some (c97, q97, 33) := by kernel_rfl
def c98r0 : List AOper := [
 ⟨(some 2), none, .mv (.c (.i .i64 0))⟩]
def c98r1 : List AOper := [
 ⟨(some 3), none, .mv (.c (.i .i64 0))⟩]
def c98r2 : List AOper := [
 ⟨(some 6), none, .mv (.t 0)⟩,
 ⟨(some 7), none, .len (.t 6)⟩,
 ⟨(some 8), none, .mv (.c (.i .i64 0))⟩]
def c98r3 : List AOper := [
 ⟨(some 9), none, .bin false .lss (.t 8) (.t 7)⟩]
def c98r4 : List AOper := [
 ⟨(some 10), none, .ia 1 (.t 6) (.t 8)⟩,
 ⟨(some 11), none, .ld none (.t 10)⟩,
 ⟨(some 5), none, .mv (.t 11)⟩]
def c98r5 : List AOper := [
 ⟨(some 12), none, .mv (.t 5)⟩,
 ⟨(some 13), none, .mv (.t 3)⟩,
 ⟨(some 14), none, .bin false .neq (.t 12) (.t 13)⟩]
def c98r6 : List AOper := [
 ⟨(some 15), none, .mv (.t 5)⟩,
 ⟨(some 2), none, .mv (.t 15)⟩]
def c98r7 : List AOper := [
 ⟨(some 16), none, .bin false .add (.t 8) (.c (.i .i64 1))⟩,
 ⟨(some 8), none, .mv (.t 16)⟩]
abbrev c98b8 : AC := (.seq (.reg c98r3) (.seq (.cond (.t 9) .skip (.exit 0)) (.seq (.blk 1 (.seq (.reg c98r4) (.seq (.reg c98r5) (.cond (.t 14) (.seq (.reg c98r6) .ret) .skip)))) (.reg c98r7))))
def c98r9 : List AOper := [
 ⟨(some 17), none, .mv (.t 3)⟩,
 ⟨(some 2), none, .mv (.t 17)⟩]
abbrev c98 : AC := (.seq (.reg c98r0) (.seq (.reg c98r1) (.seq (.seq (.reg c98r2) (.blk 0 (.loop c98b8))) (.seq (.reg c98r9) .ret))))
def q98 : List ARes := [.t 2]
theorem fn98 : fnOf Try.prog 98 = some (c98, q98, 18) := by kernel_rfl
def c99r0 : List AOper := [
 ⟨(some 4), none, .mv (.c (.i .i64 0))⟩]
def c99r1 : List AOper := [
 ⟨(some 7), none, .mv (.t 0)⟩,
 ⟨(some 8), none, .call (.c (.fn 113 [] [])) [(.t 7)]⟩,
 ⟨(some 5), none, .mv (.t 8)⟩]
def c99r2 : List AOper := [
 ⟨(some 9), none, .mv (.t 1)⟩,
 ⟨(some 10), none, .call (.c (.fn 113 [] [])) [(.t 9)]⟩,
 ⟨(some 6), none, .mv (.t 10)⟩]
def c99r3 : List AOper := [
 ⟨(some 11), none, .mv (.t 5)⟩]
def c99r4 : List AOper := [
 ⟨(some 12), none, .mv (.t 6)⟩]
def c99r5 : List AOper := [
 ⟨(some 4), none, .mv (.c (.i .i64 0))⟩]
def c99r6 : List AOper := [
 ⟨(some 4), none, .mv (.c (.i .i64 (-1)))⟩]
def c99r7 : List AOper := [
 ⟨(some 13), none, .mv (.t 6)⟩]
def c99r8 : List AOper := [
 ⟨(some 4), none, .mv (.c (.i .i64 1))⟩]
def c99r9 : List AOper := [
 ⟨(some 14), none, .mv (.t 0)⟩,
 ⟨(some 15), none, .mv (.t 1)⟩,
 ⟨(some 16), none, .bin false .lss (.t 14) (.t 15)⟩]
def c99r10 : List AOper := [
 ⟨(some 4), none, .mv (.c (.i .i64 (-1)))⟩]
def c99r11 : List AOper := [
 ⟨(some 17), none, .mv (.t 0)⟩,
 ⟨(some 18), none, .mv (.t 1)⟩,
 ⟨(some 19), none, .bin false .gtr (.t 17) (.t 18)⟩]
def c99r12 : List AOper := [
 ⟨(some 4), none, .mv (.c (.i .i64 1))⟩]
def c99r13 : List AOper := [
 ⟨(some 4), none, .mv (.c (.i .i64 0))⟩]
abbrev c99 : AC := (.seq (.reg c99r0) (.seq (.reg c99r1) (.seq (.reg c99r2) (.seq (.seq (.reg c99r3) (.cond (.t 11) (.seq (.seq (.reg c99r4) (.cond (.t 12) (.seq (.reg c99r5) .ret) .skip)) (.seq (.reg c99r6) .ret)) .skip)) (.seq (.seq (.reg c99r7) (.cond (.t 13) (.seq (.reg c99r8) .ret) .skip)) (.seq (.seq (.reg c99r9) (.cond (.t 16) (.seq (.reg c99r10) .ret) .skip)) (.seq (.seq (.reg c99r11) (.cond (.t 19) (.seq (.reg c99r12) .ret) .skip)) (.seq (.reg c99r13) .ret))))))))
def q99 : List ARes := [.t 4]
theorem fn99 : fnOf Try.prog 99 = some (c99, q99, 20) := by kernel_rfl
def c100r0 : List AOper := [
 ⟨(some 4), none, .mv (.c (.i .i64 0))⟩]
def c100r1 : List AOper := [
 ⟨(some 6), none, .mv (.t 0)⟩,
 ⟨(some 7), none, .len (.t 6)⟩,
 ⟨(some 8), none, .mv (.c (.i .i64 0))⟩]
def c100r2 : List AOper := [
 ⟨(some 9), none, .bin false .lss (.t 8) (.t 7)⟩]
def c100r3 : List AOper := [
 ⟨(some 10), none, .mv (.t 8)⟩,
 ⟨(some 5), none, .mv (.t 10)⟩]
def c100r4 : List AOper := [
 ⟨(some 11), none, .mv (.t 1)⟩,
 ⟨(some 12), none, .mv (.t 0)⟩,
 ⟨(some 13), none, .mv (.t 5)⟩,
 ⟨(some 14), none, .ia 1 (.t 12) (.t 13)⟩,
 ⟨(some 15), none, .ld none (.t 14)⟩,
 ⟨(some 16), none, .call (.t 11) [(.t 15)]⟩]
def c100r5 : List AOper := [
 ⟨(some 17), none, .mv (.t 5)⟩,
 ⟨(some 4), none, .mv (.t 17)⟩]
def c100r6 : List AOper := [
 ⟨(some 18), none, .bin false .add (.t 8) (.c (.i .i64 1))⟩,
 ⟨(some 8), none, .mv (.t 18)⟩]
abbrev c100b7 : AC := (.seq (.reg c100r2) (.seq (.cond (.t 9) .skip (.exit 0)) (.seq (.blk 1 (.seq (.reg c100r3) (.seq (.reg c100r4) (.cond (.t 16) (.seq (.reg c100r5) .ret) .skip)))) (.reg c100r6))))
def c100r8 : List AOper := [
 ⟨(some 4), none, .mv (.c (.i .i64 (-1)))⟩]
abbrev c100 : AC := (.seq (.reg c100r0) (.seq (.seq (.reg c100r1) (.blk 0 (.loop c100b7))) (.seq (.reg c100r8) .ret)))
def q100 : List ARes := [.t 4]
theorem fn100 : fnOf Try.prog 100 = some (c100, q100, 19) := by kernel_rfl
def c113r0 : List AOper := [
 ⟨(some 2), none, .mv (.c (.b false))⟩]
def c113r1 : List AOper := [
 ⟨(some 3), none, .mv (.t 0)⟩,
 ⟨(some 4), none, .mv (.t 0)⟩,
 ⟨(some 5), none, .bin false .neq (.t 3) (.t 4)⟩,
 ⟨(some 2), none, .mv (.t 5)⟩]
abbrev c113 : AC := (.seq (.reg c113r0) (.seq (.reg c113r1) .ret))
def q113 : List ARes := [.t 2]
theorem fn113 : fnOf Try.prog 113 = some (c113, q113, 6) := by kernel_rfl
end Go.Proofs.Ytjncfpfgobojpaa
set_option linter.unusedVariables false
set_option linter.unusedSimpArgs false
namespace Go.Am
abbrev Rw := Nat × List AV
def rS (k : Nat) (t : Nat) (p : Rw) : AV := .sl t 0 p.1 k
def rV (p : Rw) : AV := .vs p.1 p.2
def rC (k : Nat) (ts : List Nat) (rows : List Rw) : List AV := List.zipWith (rS k) ts rows
def rD (rows : List Rw) (i : Nat) : Rw := rows.getD i (0, [])
def tD (ts : List Nat) (i : Nat) : Nat := ts.getD i 0
structure Nest (h : AH) (k r : Nat) (ts : List Nat) (rows : List Rw) : Prop where
 ok : ∀ p ∈ rows, p.1 * k = p.2.length
 len : ts.length = rows.length
 nd : ts.Nodup
 nr : ∀ t ∈ ts, t ≠ 0 ∧ t ≠ r
 r0 : r ≠ 0
 hr : h.m r = some (.cells true (rC k ts rows))
 ht : ∀ i, i < rows.length → h.m (tD ts i) = some (.cells true (rD rows i).2)
section
variable {h h' : AH} {k r r' t n : Nat} {ts : List Nat} {rows : List Rw} {cs : List AV}
theorem rC_len (e : ts.length = rows.length) : (rC k ts rows).length = rows.length := by simp [rC, e]
theorem rC_get (e : ts.length = rows.length) {i : Nat} (hi : i < rows.length) : (rC k ts rows)[i]? = some (.sl (tD ts i) 0 (rD rows i).1 k) := by
 have h1 : i < ts.length := by omega
 simp [rC, rS, List.getElem?_zipWith, hi, h1, tD, rD]
theorem rC_snoc (e : ts.length = rows.length) : rC k ts rows ++ [.sl t 0 n k] = rC k (ts ++ [t]) (rows ++ [(n, cs)]) := by
 unfold rC
 rw [List.zipWith_append e]
 rfl
theorem rC_set (e : ts.length = rows.length) {i : Nat} : (rC k ts rows).set i (.sl t 0 n k) = rC k (ts.set i t) (rows.set i (n, cs)) := by
 unfold rC
 apply List.ext_getElem?
 intro j
 by_cases hi : j = i
 ·subst hi
  by_cases hj : j < rows.length
  ·have : j < ts.length := by omega
   have h3 : j < min ts.length rows.length := by omega
   simp [List.getElem?_set, List.getElem?_zipWith, hj, this, rS, h3]
  ·rw [List.getElem?_eq_none (by simp; omega), List.getElem?_eq_none (by simp; omega)]
 ·have hne : ¬ i = j := fun q => hi q.symm
  simp [List.getElem?_set, List.getElem?_zipWith, hne]
theorem Nest.mem (N : Nest h k r ts rows) {i : Nat} (hi : i < rows.length) : tD ts i ∈ ts := by
 have : i < ts.length := by have := N.len; omega
 simp [tD, this]
theorem Nest.row (N : Nest h k r ts rows) {i : Nat} (hi : i < rows.length) : h.m (tD ts i) = some (.cells true (rD rows i).2) := N.ht i hi
theorem Nest.cell (N : Nest h k r ts rows) {i : Nat} (hi : i < rows.length) : (rC k ts rows)[i]? = some (.sl (tD ts i) 0 (rD rows i).1 k) := rC_get N.len hi
theorem Nest.ne (N : Nest h k r ts rows) {i : Nat} (hi : i < rows.length) : tD ts i ≠ 0 ∧ tD ts i ≠ r := N.nr _ (N.mem hi)
theorem Nest.keep (N : Nest h k r ts rows) (F : ∀ t b, h.m t = some b → h'.m t = some b) : Nest h' k r ts rows :=
 ⟨N.ok, N.len, N.nd, N.nr, N.r0, F _ _ N.hr, fun i hi => F _ _ (N.ht i hi)⟩
theorem Nest.nil (hr : h.m r = some (.cells true [])) (r0 : r ≠ 0) : Nest h k r [] [] := ⟨fun p hp => by (cases hp), rfl, List.nodup_nil, fun t h => by (cases h), r0, hr, fun i hi => by simp at hi⟩
theorem Nest.snoc (N : Nest h k r ts rows) (hn : n * k = cs.length) (r0 : r' ≠ 0) (t0 : t ≠ 0) (tr : t ≠ r') (tn : t ∉ ts) (rn : r' ∉ ts) (hr : h'.m r' = some (.cells true (rC k ts rows ++ [.sl t 0 n k]))) (ht : h'.m t = some (.cells true cs))
 (F : ∀ s b, s ∈ ts → h.m s = some b → h'.m s = some b) : Nest h' k r' (ts ++ [t]) (rows ++ [(n, cs)]) where
 ok p hp := by
  rcases List.mem_append.1 hp with hp | hp
  ·exact N.ok p hp
  ·rw [List.mem_singleton] at hp; subst hp; exact hn
 len := by simp [N.len]
 nd := by
  rw [List.nodup_append]
  refine ⟨N.nd, by simp, fun a ha b hb e => ?_⟩
  rw [List.mem_singleton] at hb
  subst hb; subst e; exact tn ha
 nr s hs := by
  rcases List.mem_append.1 hs with hs | hs
  ·exact ⟨(N.nr s hs).1, fun e => rn (e ▸ hs)⟩
  ·rw [List.mem_singleton] at hs; subst hs; exact ⟨t0, tr⟩
 r0 := r0
 hr := by rw [hr, rC_snoc N.len]
 ht i hi := by
  simp only [List.length_append, List.length_cons, List.length_nil] at hi
  by_cases e : i < rows.length
  ·have e' : i < ts.length := by have := N.len; omega
   have h1 : tD (ts ++ [t]) i = tD ts i := by simp [tD, List.getD_eq_getElem?_getD, List.getElem?_append_left e']
   have h2 : rD (rows ++ [(n, cs)]) i = rD rows i := by simp [rD, List.getD_eq_getElem?_getD, List.getElem?_append_left e]
   rw [h1, h2]
   exact F _ _ (N.mem e) (N.ht i e)
  ·obtain rfl : i = rows.length := by omega
   have h1 : tD (ts ++ [t]) rows.length = t := by rw [← N.len]; simp [tD, List.getD_eq_getElem?_getD]
   have h2 : rD (rows ++ [(n, cs)]) rows.length = (n, cs) := by simp [rD, List.getD_eq_getElem?_getD]
   rw [h1, h2]; exact ht
theorem nodup_set {ts : List Nat} {i t : Nat} (h : ts.Nodup) (hn : t ∉ ts) : (ts.set i t).Nodup := by
 induction ts generalizing i with
 | nil => simp
 | cons a ts ih =>
   have h' := List.nodup_cons.1 h
   simp only [List.mem_cons, not_or] at hn
   cases i with
   | zero => rw [List.set_cons_zero]; exact List.nodup_cons.2 ⟨hn.2, h'.2⟩
   | succ i =>
     rw [List.set_cons_succ]
     refine List.nodup_cons.2 ⟨fun hm => ?_, ih h'.2 hn.2⟩
     rcases List.mem_or_eq_of_mem_set hm with q | q
     ·exact h'.1 q
     ·exact hn.1 q.symm
theorem Nest.put (N : Nest h k r ts rows) {i : Nat} (hi : i < rows.length) (hn : n * k = cs.length) (t0 : t ≠ 0) (tr : t ≠ r) (tn : t ∉ ts) (hr : h'.m r = some (.cells true ((rC k ts rows).set i (.sl t 0 n k)))) (ht : h'.m t = some (.cells true cs))
 (F : ∀ s b, s ∈ ts → s ≠ tD ts i → h.m s = some b → h'.m s = some b) : Nest h' k r (ts.set i t) (rows.set i (n, cs)) where
 ok p hp := by
  rcases List.mem_or_eq_of_mem_set hp with hp | rfl
  ·exact N.ok p hp
  ·exact hn
 len := by simp [N.len]
 nd := nodup_set N.nd tn
 nr s hs := by
  rcases List.mem_or_eq_of_mem_set hs with hs | rfl
  ·exact N.nr s hs
  ·exact ⟨t0, tr⟩
 r0 := N.r0
 hr := by rw [hr, rC_set N.len]
 ht j hj := by
  rw [List.length_set] at hj
  have hj' : j < ts.length := by have := N.len; omega
  have hi' : i < ts.length := by have := N.len; omega
  by_cases e : j = i
  ·subst e
   have h1 : tD (ts.set j t) j = t := by simp [tD, List.getD_eq_getElem?_getD, hj']
   have h2 : rD (rows.set j (n, cs)) j = (n, cs) := by simp [rD, List.getD_eq_getElem?_getD, hj]
   rw [h1, h2]; exact ht
  ·have ne : ¬ i = j := fun q => e q.symm
   have h1 : tD (ts.set i t) j = tD ts j := by simp [tD, List.getD_eq_getElem?_getD, List.getElem?_set, ne]
   have h2 : rD (rows.set i (n, cs)) j = rD rows j := by simp [rD, List.getD_eq_getElem?_getD, List.getElem?_set, ne]
   rw [h1, h2]
   refine F _ _ (N.mem hj) (fun q => ?_) (N.ht j hj)
   have q2 : ts[j] = ts[i] := by simpa [tD, hj', hi'] using q
   exact e ((List.getElem_inj N.nd).1 q2)
theorem Nows.of_get {h : AH} : ∀ {vs ws : List AV}, vs.length = ws.length → (∀ (i : Nat) (v w : AV), vs[i]? = some v → ws[i]? = some w → Now h v w) → Nows h vs ws
 | [], [], _, _ => .nil
 | [], _ :: _, e, _ => by simp at e
 | _ :: _, [], e, _ => by simp at e
 | v :: vs, w :: ws, e, g => .cons (g 0 v w rfl rfl) (Nows.of_get (by simpa using e) fun i a b ha hb => g (i + 1) a b (by simpa using ha) (by simpa using hb))
theorem Nest.now (N : Nest h k r ts rows) (hp : ∀ p ∈ rows, AV.plains p.2 = true) (a : Nat) : Now h (.sl r 0 rows.length a) (.vs rows.length (rows.map rV)) := by
 refine .sl (cs := rC k ts rows) (ds := rC k ts rows) (by simp [AH.row, N.hr]) (by rw [List.drop_zero, List.take_length]) (Nows.of_get (by rw [rC_len N.len, List.length_map]) fun i v w hv hw => ?_)
 by_cases hi : i < rows.length
 ·rw [N.cell hi] at hv
  cases hv
  simp only [List.getElem?_map, List.getElem?_eq_getElem hi, Option.map_some, Option.some.injEq] at hw
  subst hw
  have e : rD rows i = rows[i] := by simp [rD, hi]
  have ht := N.ht i hi
  rw [e] at ht ⊢
  exact Now.row (by simp [AH.row, ht]) (hp _ (List.getElem_mem hi))
 ·rw [List.getElem?_eq_none (by rw [List.length_map]; omega)] at hw
  cases hw
theorem FrzVs.of_map {α : Type} {t : Nat} {cs : List AV} {f g : α → AV} : ∀ {L : List α}, (∀ x ∈ L, FrzV t cs (f x) (g x)) → FrzVs t cs (L.map f) (L.map g)
 | [], _ => .nil
 | x :: L, h => .cons (h x (by simp)) (FrzVs.of_map fun y hy => h y (by simp [hy]))
def rJ (k : Nat) (ts : List Nat) (rows : List Rw) (j : Nat) : List AV := (List.range rows.length).map fun i => if i < j then rV (rD rows i) else rS k (tD ts i) (rD rows i)
theorem rJ_zero (e : ts.length = rows.length) : rJ k ts rows 0 = rC k ts rows := by
 apply List.ext_getElem?
 intro i
 by_cases hi : i < rows.length
 ·rw [rC_get e hi]
  simp [rJ, hi, rS]
 ·rw [List.getElem?_eq_none (by simp [rJ]; omega), List.getElem?_eq_none (by rw [rC_len e]; omega)]
theorem rJ_all : rJ k ts rows rows.length = rows.map rV := by
 apply List.ext_getElem?
 intro i
 by_cases hi : i < rows.length
 ·simp [rJ, hi, rD]
 ·rw [List.getElem?_eq_none (by simp [rJ]; omega), List.getElem?_eq_none (by simp; omega)]
theorem Nest.ends (N : Nest h k r ts rows) {v v2 tgt : AV} (hv : FrzV r (rows.map rV) v v2) (rest : ∀ h2, (∀ s b, s ≠ r → s ∉ ts → h.m s = some b → h2.m s = some b) → Ends tgt v2 h2) : Ends tgt v h := by
 have key : ∀ d j h1, j + d = rows.length → h1.m r = some (.cells true (rJ k ts rows j)) → (∀ i, j ≤ i → i < rows.length → h1.m (tD ts i) = some (.cells true (rD rows i).2)) → (∀ s b, s ≠ r → s ∉ ts → h.m s = some b → h1.m s = some b) → Ends tgt v h1 := by
  intro d
  induction d with
  | zero =>
    intro j h1 hj hr _ F
    obtain rfl : j = rows.length := by omega
    rw [rJ_all] at hr
    obtain ⟨h', R⟩ := rest (h1.kill r) fun s b hs hn hb => by simp [AH.kill, hs, F s b hs hn hb]
    exact ⟨h', .step hr (FrzH.kill _ _ _) hv R⟩
  | succ d ih =>
    intro j h1 hj hr ht F
    have jl : j < rows.length := by omega
    have hne := (N.ne jl).2
    have hcell := ht j (Nat.le_refl _) jl
    have hok : (rD rows j).1 * k = (rD rows j).2.length := N.ok _ (by simp [rD, jl])
    have fv : FrzVs (tD ts j) (rD rows j).2 (rJ k ts rows j) (rJ k ts rows (j + 1)) := by
     refine FrzVs.of_map fun i hi => ?_
     by_cases e : i = j
     ·subst e
      rw [if_neg (by omega), if_pos (by omega)]
      have := @FrzV.sl (tD ts i) (rD rows i).2 0 (rD rows i).1 k k (by omega)
      rwa [List.drop_zero, hok, List.take_length] at this
     ·by_cases q : i < j
      ·rw [if_pos q, if_pos (by omega)]; exact .same
      ·rw [if_neg q, if_neg (by omega)]; exact .same
    obtain ⟨h', R⟩ := ih (j + 1) ((h1.kill (tD ts j)).set r (.cells true (rJ k ts rows (j + 1)))) (by omega) (by simp [AH.set]) (fun i h1' h2' => by
     have e1 : tD ts i ≠ r := (N.ne h2').2
     have e2 : tD ts i ≠ tD ts j := fun q => by
      have a : i < ts.length := by have := N.len; omega
      have b : j < ts.length := by have := N.len; omega
      have q2 : ts[i] = ts[j] := by simpa [tD, a, b] using q
      have := (List.getElem_inj N.nd).1 q2
      omega
     simp [AH.set, AH.kill, e1, e2, ht i (by omega) h2']) (fun s b hs hn hb => by
     have : s ≠ tD ts j := fun e => hn (e ▸ N.mem jl)
     simp [AH.set, AH.kill, hs, this, F s b hs hn hb])
    exact ⟨h', .step hcell (FrzH.set (FrzH.kill _ _ _) (fun e => hne e.symm) hr fv) .same R⟩
 exact key rows.length 0 h (by omega) (by rw [rJ_zero N.len]; exact N.hr) (fun i _ hi => N.ht i hi) fun s b _ _ hb => hb
end
end Go.Am
set_option linter.unusedVariables false
set_option linter.unusedSimpArgs false
namespace Go.Proofs.Ytjncfpfgobojpaa
open Go Go.Am Go.Proofs
structure B where
 num : Int
 dark : Int
 grain : Int
 h0 : Int
 h1 : Int
 h2 : Int
 h3 : Int
def eB (b : B) : List AV := [.i .i64 b.num, .i .i64 b.dark, .i .i64 b.grain, .i .i64 b.h0, .i .i64 b.h1, .i .i64 b.h2, .i .i64 b.h3]
def B0 : B := ⟨0, 0, 0, 0, 0, 0, 0⟩
def vb (b : B) : Bool := decide ((0 ≤ b.h0 ∧ b.h0 ≤ 100) ∧ (0 ≤ b.h1 ∧ b.h1 ≤ 100) ∧ (0 ≤ b.h2 ∧ b.h2 ≤ 100) ∧ (0 ≤ b.h3 ∧ b.h3 ≤ 100) ∧ (1 ≤ b.num ∧ b.num ≤ 1000000000) ∧ (0 ≤ b.dark ∧ b.dark ≤ 9) ∧ 0 ≤ b.grain ∧ b.grain ≤ 9)
theorem vb_len {b : B} (h : vb b = true) : (0 ≤ b.h0 ∧ b.h0 ≤ 100) ∧ (0 ≤ b.h1 ∧ b.h1 ≤ 100) ∧ (0 ≤ b.h2 ∧ b.h2 ≤ 100) ∧ (0 ≤ b.h3 ∧ b.h3 ≤ 100) ∧ (1 ≤ b.num ∧ b.num ≤ 1000000000) ∧ (0 ≤ b.dark ∧ b.dark ≤ 9) ∧ 0 ≤ b.grain ∧ b.grain ≤ 9 := by simpa [vb] using h
abbrev bD (l : List B) (i : Nat) : B := l.getD i B0
def vk (l : List B) (k : Nat) : Prop := (∀ i, i < k → vb (bD l i) = true) ∧ ∀ i j, i < j → j < k → (bD l i).num ≠ (bD l j).num
def VL (l : List B) : Prop := l.length ≤ 40 ∧ vk l l.length
noncomputable def vl (l : List B) : Bool := @decide (VL l) (Classical.propDecidable _)
theorem vk_mono {l : List B} {k m : Nat} (h : vk l k) (hm : m ≤ k) : vk l m := ⟨fun i hi => h.1 i (by omega), fun i j hi hj => h.2 i j hi (by omega)⟩
theorem vl_t {l : List B} (h : VL l) : vl l = true := by unfold vl; exact @decide_eq_true _ (Classical.propDecidable _) h
theorem vl_f {l : List B} (h : ¬ VL l) : vl l = false := by unfold vl; exact @decide_eq_false _ (Classical.propDecidable _) h
theorem VL.len {l : List B} (h : VL l) : l.length ≤ 40 := h.1
theorem VL.b {l : List B} (h : VL l) {i : Nat} (hi : i < l.length) : vb (bD l i) = true := h.2.1 i hi
theorem vk_succ {l : List B} {k : Nat} : vk l (k + 1) ↔ vk l k ∧ vb (bD l k) = true ∧ ∀ i, i < k → (bD l i).num ≠ (bD l k).num := by
 constructor
 ·intro h; exact ⟨vk_mono h (by omega), h.1 k (by omega), fun i hi => h.2 i k hi (by omega)⟩
 ·rintro ⟨h1, h2, h3⟩
  refine ⟨fun i hi => ?_, fun i j hi hj => ?_⟩
  ·by_cases e : i = k
   ·subst e; exact h2
   ·exact h1.1 i (by omega)
  ·by_cases e : j = k
   ·subst e; exact h3 i hi
   ·exact h1.2 i j hi (by omega)
def mayB (a b : B) : Bool := decide (a.dark ≤ b.dark ∧ a.grain ≤ b.grain)
abbrev mayI (l : List B) (i k : Nat) : Bool := mayB (bD l i) (bD l k)
def ltB (l : List B) (i k : Nat) : Bool := decide ((bD l i).dark < (bD l k).dark ∨ ((bD l i).dark = (bD l k).dark ∧ ((bD l i).grain < (bD l k).grain ∨ ((bD l i).grain = (bD l k).grain ∧ (bD l i).num < (bD l k).num))))
def orderL (l : List B) : List Nat := (List.range l.length).mergeSort fun i k => !ltB l k i
theorem ltB_trans {l : List B} {a b c : Nat} (h1 : ltB l a b = false) (h2 : ltB l b c = false) : ltB l a c = false := by
 simp only [ltB, decide_eq_false_iff_not] at *; omega
theorem order_srt (l : List B) : (orderL l).Pairwise fun i k => ltB l k i = false := by
 have := List.pairwise_mergeSort (le := fun i k => !ltB l k i) (by
  intro a b c h1 h2
  simp only [Bool.not_eq_true'] at *
  exact ltB_trans h2 h1) (by
  intro a b
  simp only [ltB, Bool.or_eq_true, Bool.not_eq_true', decide_eq_false_iff_not]
  omega) (List.range l.length)
 exact this.imp fun h => by simpa using h
theorem order_perm (l : List B) : (orderL l).Perm (List.range l.length) := List.mergeSort_perm _ _
theorem order_len (l : List B) : (orderL l).length = l.length := by rw [(order_perm l).length_eq, List.length_range]
theorem order_nodup (l : List B) : (orderL l).Nodup := (order_perm l).nodup_iff.2 List.nodup_range
theorem order_mem {l : List B} {i : Nat} : i ∈ orderL l ↔ i < l.length := by rw [(order_perm l).mem_iff, List.mem_range]
theorem order_get {l : List B} {k : Nat} (h : k < l.length) : (orderL l).getD k 0 < l.length := by
 rw [← order_mem]
 have : k < (orderL l).length := by rw [order_len]; exact h
 simp [this]
theorem order_le {l : List B} {j k : Nat} (hj : j < k) (hk : k < l.length) : ltB l ((orderL l).getD k 0) ((orderL l).getD j 0) = false := by
 have h1 : k < (orderL l).length := by rw [order_len]; exact hk
 have h2 : j < (orderL l).length := by omega
 have := List.pairwise_iff_getElem.1 (order_srt l) j k h2 h1 hj
 simpa [h1, h2] using this
def lastN (r : List Nat) : Nat := r.getD (r.length - 1) 0
def fit (l : List B) : List (List Nat) → Nat → Nat
 | [], _ => 0
 | r :: rs, i => if mayI l (lastN r) i = true then 0 else fit l rs i + 1
def place (l : List B) (rows : List (List Nat)) (i : Nat) : List (List Nat) := if fit l rows i < rows.length then rows.set (fit l rows i) (rows.getD (fit l rows i) [] ++ [i]) else rows ++ [[i]]
def rowsK (l : List B) (k : Nat) : List (List Nat) := ((orderL l).take k).foldl (place l) []
def rowsL (l : List B) : List (List Nat) := rowsK l l.length
theorem rowsK_succ {l : List B} {k : Nat} (h : k < l.length) : rowsK l (k + 1) = place l (rowsK l k) ((orderL l).getD k 0) := by
 have h1 : k < (orderL l).length := by rw [order_len]; exact h
 unfold rowsK
 rw [List.take_succ_eq_append_getElem h1, List.foldl_append]
 simp [h1]
theorem fit_le (l : List B) (i : Nat) : ∀ rows : List (List Nat), fit l rows i ≤ rows.length
 | [] => Nat.le_refl _
 | r :: rs => by
   simp only [fit]
   split
   ·exact Nat.zero_le _
   ·have := fit_le l i rs; simp only [List.length_cons]; omega
theorem fit_no {l : List B} {i : Nat} : ∀ {rows : List (List Nat)} {j : Nat}, j < fit l rows i → mayI l (lastN (rows.getD j [])) i = false
 | [], j, h => by simp [fit] at h
 | r :: rs, j, h => by
   simp only [fit] at h
   split at h
   ·omega
   ·rename_i hn
    cases j with
    | zero => simpa using hn
    | succ j => simpa using fit_no (rows := rs) (j := j) (by omega)
theorem fit_yes {l : List B} {i : Nat} : ∀ {rows : List (List Nat)}, fit l rows i < rows.length → mayI l (lastN (rows.getD (fit l rows i) [])) i = true
 | [], h => by simp [fit] at h
 | r :: rs, h => by
   simp only [fit] at h ⊢
   split
   ·rename_i hy; simpa using hy
   ·rename_i hn
    rw [if_neg hn] at h
    simpa using fit_yes (rows := rs) (by simpa using h)
theorem place_len (l : List B) (rows : List (List Nat)) (i : Nat) : (place l rows i).length ≤ rows.length + 1 := by
 unfold place
 split <;> simp
theorem rowsK_len (l : List B) : ∀ {k : Nat}, k ≤ l.length → (rowsK l k).length ≤ k
 | 0, _ => by simp [rowsK]
 | k + 1, h => by
   rw [rowsK_succ (by omega)]
   have := place_len l (rowsK l k) ((orderL l).getD k 0)
   have := rowsK_len l (k := k) (by omega)
   omega
structure Rk (l : List B) (k : Nat) (rows : List (List Nat)) : Prop where
 ne : ∀ r ∈ rows, r ≠ []
 mem : ∀ r ∈ rows, ∀ x ∈ r, ∃ j, j < k ∧ (orderL l).getD j 0 = x
 dec : ∀ i j, i < j → j < rows.length → (bD l (lastN (rows.getD j []))).grain < (bD l (lastN (rows.getD i []))).grain
theorem last_mem {r : List Nat} (h : r ≠ []) : lastN r ∈ r := by
 have : 0 < r.length := List.length_pos_iff.2 h
 unfold lastN
 rw [getD_lt (by omega)]
 exact List.getElem_mem _
theorem last_snoc (r : List Nat) (x : Nat) : lastN (r ++ [x]) = x := by simp [lastN]
theorem mem_row {rows : List (List Nat)} {j : Nat} (h : j < rows.length) : rows.getD j [] ∈ rows := by rw [getD_lt h]; exact List.getElem_mem h
theorem row_set {rows : List (List Nat)} {i j : Nat} {r : List Nat} (hi : i < rows.length) : (rows.set i r).getD j [] = if j = i then r else rows.getD j [] := by
 by_cases e : j = i
 ·subst e; simp [List.getD_eq_getElem?_getD, hi]
 ·have : ¬ i = j := fun q => e q.symm
  simp [List.getD_eq_getElem?_getD, List.getElem?_set, this, e]
theorem row_snoc {rows : List (List Nat)} {j : Nat} {r : List Nat} : (rows ++ [r]).getD j [] = if j < rows.length then rows.getD j [] else if j = rows.length then r else [] := by
 split
 ·rename_i h; simp [List.getD_eq_getElem?_getD, List.getElem?_append_left h]
 ·split
  ·rename_i e; subst e; simp [List.getD_eq_getElem?_getD]
  ·rw [List.getD_eq_getElem?_getD, List.getElem?_eq_none (by simp; omega)]; rfl
theorem Rk.dark {l : List B} {k : Nat} {rows : List (List Nat)} (R : Rk l k rows) (hk : k < l.length) {j : Nat} (hj : j < rows.length) : (bD l (lastN (rows.getD j []))).dark ≤ (bD l ((orderL l).getD k 0)).dark ∧ lastN (rows.getD j []) < l.length := by
 obtain ⟨m, hm, e⟩ := R.mem _ (mem_row hj) _ (last_mem (R.ne _ (mem_row hj)))
 have := order_le hm hk
 rw [e] at this
 simp only [ltB, decide_eq_false_iff_not] at this
 exact ⟨by omega, by rw [← e]; exact order_get (by omega)⟩
theorem Rk.may {l : List B} {k : Nat} {rows : List (List Nat)} (R : Rk l k rows) (hk : k < l.length) {j : Nat} (hj : j < rows.length) : mayI l (lastN (rows.getD j [])) ((orderL l).getD k 0) = true ↔ (bD l (lastN (rows.getD j []))).grain ≤ (bD l ((orderL l).getD k 0)).grain := by
 have := (R.dark hk hj).1
 simp only [mayI, mayB, decide_eq_true_eq]
 exact ⟨fun h => h.2, fun h => ⟨this, h⟩⟩
theorem Rk.step {l : List B} {k : Nat} {rows : List (List Nat)} (R : Rk l k rows) (hk : k < l.length) : Rk l (k + 1) (place l rows ((orderL l).getD k 0)) := by
 have hg : ∀ j, j < fit l rows ((orderL l).getD k 0) → (bD l ((orderL l).getD k 0)).grain < (bD l (lastN (rows.getD j []))).grain := fun j hj => by
  have h1 := fit_le l ((orderL l).getD k 0) rows
  have h2 := fit_no hj
  have h3 := R.may hk (j := j) (by omega)
  rw [h2] at h3
  have : ¬ (bD l (lastN (rows.getD j []))).grain ≤ (bD l ((orderL l).getD k 0)).grain := fun q => by have := h3.2 q; cases this
  omega
 unfold place
 generalize hx : (orderL l).getD k 0 = x at *
 split
 ·rename_i h
  have hy := fit_yes h
  have h3 := R.may hk (j := fit l rows x) h
  rw [hx] at h3
  have h3 := h3.1 hy
  refine ⟨fun r hr => ?_, fun r hr y hy => ?_, fun i j hij hj => ?_⟩
  ·rcases List.mem_or_eq_of_mem_set hr with q | rfl
   ·exact R.ne r q
   ·simp
  ·have old : ∀ r ∈ rows, ∀ y ∈ r, ∃ j, j < k + 1 ∧ (orderL l).getD j 0 = y := fun r hr y hy => (R.mem r hr y hy).imp fun j ⟨a, b⟩ => ⟨by omega, b⟩
   rcases List.mem_or_eq_of_mem_set hr with q | rfl
   ·exact old r q y hy
   ·rcases List.mem_append.1 hy with q | q
    ·exact old _ (mem_row h) y q
    ·rw [List.mem_singleton] at q; subst q; exact ⟨k, by omega, hx⟩
  ·rw [List.length_set] at hj
   rw [row_set h, row_set h]
   by_cases e1 : j = fit l rows x
   ·subst e1
    rw [if_pos rfl, if_neg (by omega), last_snoc]
    exact hg i hij
   ·rw [if_neg e1]
    by_cases e2 : i = fit l rows x
    ·subst e2
     rw [if_pos rfl, last_snoc]
     have := R.dec _ j hij hj
     omega
    ·rw [if_neg e2]; exact R.dec i j hij hj
 ·rename_i h
  have hf : fit l rows x = rows.length := by have := fit_le l x rows; omega
  refine ⟨fun r hr => ?_, fun r hr y hy => ?_, fun i j hij hj => ?_⟩
  ·rcases List.mem_append.1 hr with q | q
   ·exact R.ne r q
   ·rw [List.mem_singleton] at q; subst q; simp
  ·rcases List.mem_append.1 hr with q | q
   ·exact (R.mem r q y hy).imp fun j ⟨a, b⟩ => ⟨by omega, b⟩
   ·rw [List.mem_singleton] at q; subst q
    rw [List.mem_singleton] at hy; subst hy; exact ⟨k, by omega, hx⟩
  ·simp only [List.length_append, List.length_cons, List.length_nil] at hj
   rw [row_snoc, row_snoc, if_pos (show i < rows.length by omega)]
   by_cases e : j < rows.length
   ·rw [if_pos e]; exact R.dec i j hij e
   ·rw [if_neg e, if_pos (by omega)]
    have : lastN [x] = x := rfl
    rw [this]
    exact hg i (by omega)
theorem rk {l : List B} : ∀ {k : Nat}, k ≤ l.length → Rk l k (rowsK l k)
 | 0, _ => ⟨fun r hr => by simp [rowsK] at hr, fun r hr => by simp [rowsK] at hr, fun i j _ hj => by simp [rowsK] at hj⟩
 | k + 1, h => by
   rw [rowsK_succ (by omega)]
   exact (rk (k := k) (by omega)).step (by omega)
def bf (l : List B) (rows : List (List Nat)) (x : Nat) : Nat → Int
 | 0 => -1
 | k + 1 => if mayI l (lastN (rows.getD k [])) x = true ∧ (bf l rows x k < 0 ∨ (bD l (lastN (rows.getD (bf l rows x k).toNat []))).grain < (bD l (lastN (rows.getD k []))).grain) then (k : Int) else bf l rows x k
end Go.Proofs.Ytjncfpfgobojpaa
set_option linter.unusedVariables false
set_option linter.unusedSimpArgs false
namespace Go.Proofs.Ytjncfpfgobojpaa
open Go Go.Am Go.Proofs
abbrev od (l : List B) (k : Nat) : Nat := (orderL l).getD k 0
abbrev oB (l : List B) (k : Nat) : B := bD l (od l k)
def rowAt (l : List B) (k : Nat) : Nat := fit l (rowsK l k) (od l k)
section
variable {l : List B} {i k : Nat}
theorem od_le (hi : i < k) (hk : k < l.length) : (oB l i).dark < (oB l k).dark ∨ ((oB l i).dark = (oB l k).dark ∧ (oB l i).grain ≤ (oB l k).grain) := by
 have := order_le hi hk
 simp only [ltB, decide_eq_false_iff_not] at this
 simp only [oB, od]
 omega
theorem rowAt_le (l : List B) (k : Nat) : rowAt l k ≤ (rowsK l k).length := fit_le _ _ _
theorem rowsK_at (hk : k < l.length) : rowsK l (k + 1) = if rowAt l k < (rowsK l k).length then (rowsK l k).set (rowAt l k) ((rowsK l k).getD (rowAt l k) [] ++ [od l k]) else rowsK l k ++ [[od l k]] := by
 rw [rowsK_succ hk]; rfl
theorem rowsK_get (hk : k < l.length) (j : Nat) : (rowsK l (k + 1)).getD j [] = if j = rowAt l k then (if rowAt l k < (rowsK l k).length then (rowsK l k).getD j [] ++ [od l k] else [od l k]) else (rowsK l k).getD j [] := by
 rw [rowsK_at hk]
 have hf := rowAt_le l k
 split
 ·rename_i h
  rw [row_set h]
  by_cases e : j = rowAt l k
  ·rw [if_pos e, if_pos e, e]
  ·rw [if_neg e, if_neg e]
 ·rename_i h
  rw [row_snoc]
  by_cases e : j = rowAt l k
  ·rw [if_pos e, if_neg (by omega), if_pos (by omega)]
  ·rw [if_neg e]
   by_cases q : j < (rowsK l k).length
   ·rw [if_pos q]
   ·rw [if_neg q, if_neg (by omega), List.getD_eq_getElem?_getD, List.getElem?_eq_none (by omega)]; rfl
theorem rowsK_len1 (hk : k < l.length) : (rowsK l (k + 1)).length = if rowAt l k < (rowsK l k).length then (rowsK l k).length else rowAt l k + 1 := by
 rw [rowsK_at hk]
 have hf := rowAt_le l k
 split
 ·rw [List.length_set]
 ·rw [List.length_append]
  simp only [List.length_cons, List.length_nil]
  omega
theorem rowAt_lt (hk : k < l.length) : rowAt l k < (rowsK l (k + 1)).length := by
 rw [rowsK_len1 hk]; split <;> omega
theorem rowsK_mono (hk : k < l.length) : (rowsK l k).length ≤ (rowsK l (k + 1)).length := by
 have hf := rowAt_le l k
 rw [rowsK_len1 hk]
 split
 ·exact Nat.le_refl _
 ·omega
theorem no_fit (hk : k < l.length) {j : Nat} (hj : j < rowAt l k) : (oB l k).grain < (bD l (lastN ((rowsK l k).getD j []))).grain := by
 have h1 := rowAt_le l k
 have h2 := fit_no (l := l) (i := od l k) (rows := rowsK l k) (j := j) hj
 have h3 := (rk (l := l) (k := k) (by omega)).may hk (j := j) (by omega)
 rw [h2] at h3
 have : ¬ (bD l (lastN ((rowsK l k).getD j []))).grain ≤ (oB l k).grain := fun q => by have := h3.2 q; cases this
 omega
theorem yes_fit (hk : k < l.length) {j : Nat} (hj : j < (rowsK l k).length) (hg : (bD l (lastN ((rowsK l k).getD j []))).grain ≤ (oB l k).grain) : rowAt l k ≤ j := by
 refine Classical.byContradiction fun h => ?_
 have := no_fit hk (j := j) (by omega)
 omega
theorem row_up (hk : k ≤ l.length) (hi : i < k) : rowAt l i < (rowsK l k).length ∧ (oB l i).grain ≤ (bD l (lastN ((rowsK l k).getD (rowAt l i) []))).grain := by
 induction k with
 | zero => omega
 | succ k ih =>
   have g := rowsK_get (l := l) (k := k) (by omega) (rowAt l i)
   by_cases e : i = k
   ·subst e
    refine ⟨rowAt_lt (by omega), ?_⟩
    rw [g, if_pos rfl]
    split
    ·rw [last_snoc]; exact Int.le_refl _
    ·exact Int.le_refl _
   ·obtain ⟨a, b⟩ := ih (by omega) (by omega)
    have m := rowsK_mono (l := l) (k := k) (by omega)
    refine ⟨by omega, ?_⟩
    rw [g]
    split
    ·rename_i q
     have hn : rowAt l k < (rowsK l k).length := by omega
     rw [if_pos hn, last_snoc]
     have hy := fit_yes (l := l) (i := od l k) (rows := rowsK l k) hn
     have h3 := (rk (l := l) (k := k) (by omega)).may (by omega) (j := rowAt l k) hn
     have h4 := h3.1 hy
     rw [q] at b
     simp only [oB, od] at *
     omega
    ·exact b
theorem row_own (hk : k ≤ l.length) {r : Nat} (hr : r < (rowsK l k).length) {x : Nat} (hx : x ∈ (rowsK l k).getD r []) : ∃ m, m < k ∧ od l m = x ∧ rowAt l m = r := by
 induction k with
 | zero => simp [rowsK] at hr
 | succ k ih =>
   rw [rowsK_get (by omega)] at hx
   have old : r < (rowsK l k).length → x ∈ (rowsK l k).getD r [] → ∃ m, m < k + 1 ∧ od l m = x ∧ rowAt l m = r := fun a b => (ih (by omega) a b).imp fun m ⟨c, d⟩ => ⟨by omega, d⟩
   split at hx
   ·rename_i e
    split at hx
    ·rename_i q
     rcases List.mem_append.1 hx with hx | hx
     ·exact old (by omega) hx
     ·rw [List.mem_singleton] at hx; exact ⟨k, by omega, hx.symm, e.symm⟩
    ·rw [List.mem_singleton] at hx; exact ⟨k, by omega, hx.symm, e.symm⟩
   ·rename_i e
    rw [rowsK_len1 (by omega)] at hr
    have hf := rowAt_le l k
    refine old ?_ hx
    split at hr
    ·exact hr
    ·omega
theorem apart_lt (hi : i < k) (hk : k < l.length) (hg : (oB l k).grain < (oB l i).grain) : rowAt l i < rowAt l k := by
 obtain ⟨a, b⟩ := row_up (l := l) (k := k) (i := i) (by omega) hi
 refine Classical.byContradiction fun h => ?_
 have hn : rowAt l k < (rowsK l k).length := by omega
 have hy := fit_yes (l := l) (i := od l k) (rows := rowsK l k) hn
 have h4 := ((rk (l := l) (k := k) (by omega)).may hk (j := rowAt l k) hn).1 hy
 have h5 : (bD l (lastN ((rowsK l k).getD (rowAt l i) []))).grain ≤ (bD l (lastN ((rowsK l k).getD (rowAt l k) []))).grain := by
  by_cases e : rowAt l i = rowAt l k
  ·rw [e]; exact Int.le_refl _
  ·have := (rk (l := l) (k := k) (by omega)).dec (rowAt l k) (rowAt l i) (by omega) a
   omega
 simp only [oB, od] at *
 omega
def undK (l : List B) (k : Nat) : Int := if rowAt l k = 0 then -1 else (lastN ((rowsK l k).getD (rowAt l k - 1) []) : Nat)
theorem und_some (hk : k < l.length) (h : rowAt l k ≠ 0) : ∃ m, m < k ∧ undK l k = (od l m : Nat) ∧ rowAt l m + 1 = rowAt l k ∧ (oB l m).dark < (oB l k).dark ∧ (oB l k).grain < (oB l m).grain := by
 have hf := rowAt_le l k
 have hr : rowAt l k - 1 < (rowsK l k).length := by omega
 have R := rk (l := l) (k := k) (by omega)
 have hx := last_mem (R.ne _ (mem_row hr))
 obtain ⟨m, h1, h2, h3⟩ := row_own (by omega) hr hx
 have hg := no_fit hk (j := rowAt l k - 1) (by omega)
 rw [← h2] at hg
 refine ⟨m, h1, by unfold undK; rw [if_neg h, ← h2], by omega, ?_, hg⟩
 rcases od_le h1 hk with q | ⟨q1, q2⟩
 ·exact q
 ·simp only [oB, od] at *; omega
theorem same_row (hi : i ≤ k) (hk : k < l.length) (hd : (oB l i).dark = (oB l k).dark) (hg : (oB l i).grain = (oB l k).grain) : rowAt l i = rowAt l k := by
 obtain ⟨d, rfl⟩ : ∃ d, k = i + d := ⟨k - i, by omega⟩
 induction d with
 | zero => rfl
 | succ d ih =>
   have a := od_le (l := l) (i := i + d) (k := i + (d + 1)) (by omega) hk
   have b : i = i + d ∨ ((oB l i).dark < (oB l (i + d)).dark ∨ ((oB l i).dark = (oB l (i + d)).dark ∧ (oB l i).grain ≤ (oB l (i + d)).grain)) := by
    by_cases e : d = 0
    ·subst e; exact .inl rfl
    ·exact .inr (od_le (by omega) (by omega))
   have hd1 : (oB l (i + d)).dark = (oB l (i + (d + 1))).dark := by
    rcases b with b | b
    ·rw [← b]; exact hd
    ·omega
   have hg1 : (oB l (i + d)).grain = (oB l (i + (d + 1))).grain := by
    rcases b with b | b
    ·rw [← b]; exact hg
    ·omega
   rw [ih (by omega) (by omega) (by omega) (by omega)]
   -- one step
   have hk1 : i + d < l.length := by omega
   have up := row_up (l := l) (k := i + d + 1) (i := i + d) (by omega) (by omega)
   have g := rowsK_get (l := l) (k := i + d) hk1
   have last : lastN ((rowsK l (i + d + 1)).getD (rowAt l (i + d)) []) = od l (i + d) := by
    rw [g, if_pos rfl]
    split
    ·rw [last_snoc]
    ·rfl
   have le := yes_fit (l := l) (k := i + (d + 1)) hk (j := rowAt l (i + d)) up.1 (by
    have : (bD l (lastN ((rowsK l (i + d + 1)).getD (rowAt l (i + d)) []))) = oB l (i + d) := by rw [last]
    rw [show i + (d + 1) = i + d + 1 by omega] at *
    rw [this]; omega)
   refine Classical.byContradiction fun h => ?_
   have hlt : rowAt l (i + (d + 1)) < rowAt l (i + d) := by omega
   have h1 := no_fit (l := l) (k := i + d) hk1 (j := rowAt l (i + (d + 1))) hlt
   have hn : rowAt l (i + (d + 1)) < (rowsK l (i + (d + 1))).length := by
    have := up.1
    rw [show i + (d + 1) = i + d + 1 by omega] at *
    omega
   have hy := fit_yes (l := l) (i := od l (i + (d + 1))) (rows := rowsK l (i + (d + 1))) hn
   have h4 := ((rk (l := l) (k := i + (d + 1)) (by omega)).may hk (j := rowAt l (i + (d + 1))) hn).1 hy
   have e : (rowsK l (i + (d + 1))).getD (rowAt l (i + (d + 1))) [] = (rowsK l (i + d)).getD (rowAt l (i + (d + 1))) [] := by
    rw [show i + (d + 1) = i + d + 1 by omega] at *
    rw [g, if_neg (by omega)]
   have e2 : (rowsK l (i + (d + 1))).getD (fit l (rowsK l (i + (d + 1))) (od l (i + (d + 1)))) [] = (rowsK l (i + d)).getD (rowAt l (i + (d + 1))) [] := e
   rw [e] at h4
   simp only [oB, od] at *
   omega
theorem rows_top : ∀ {k : Nat}, k ≤ l.length → (rowsK l k).length = 0 ∨ ∃ m, m < k ∧ rowAt l m + 1 = (rowsK l k).length
 | 0, _ => .inl (by simp [rowsK])
 | k + 1, h => by
   rw [rowsK_len1 (by omega)]
   split
   ·rcases rows_top (k := k) (by omega) with q | ⟨m, a, b⟩
    ·omega
    ·exact .inr ⟨m, by omega, b⟩
   ·exact .inr ⟨k, by omega, rfl⟩
end
def prs (l : List B) (d g : Int) : Prop := ∃ i, i < l.length ∧ (bD l i).dark = d ∧ (bD l i).grain = g
theorem od_ex {l : List B} {i : Nat} (h : i < l.length) : ∃ k, k < l.length ∧ od l k = i := by
 obtain ⟨k, hk, e⟩ := List.getElem_of_mem (order_mem.2 h)
 rw [order_len] at hk
 exact ⟨k, hk, by simp [od, List.getD_eq_getElem?_getD, hk, order_len, e]⟩
theorem prs_ex {l : List B} {d g : Int} : prs l d g ↔ ∃ k, k < l.length ∧ (oB l k).dark = d ∧ (oB l k).grain = g := by
 constructor
 ·rintro ⟨i, hi, h1, h2⟩
  obtain ⟨k, hk, e⟩ := od_ex hi
  exact ⟨k, hk, by simp only [oB, e]; exact h1, by simp only [oB, e]; exact h2⟩
 ·rintro ⟨k, hk, h1, h2⟩
  exact ⟨od l k, order_get hk, h1, h2⟩
open Classical in
noncomputable def ap (l : List B) (d g : Int) : Nat := if h : ∃ k, k < l.length ∧ (oB l k).dark = d ∧ (oB l k).grain = g then rowAt l (Classical.choose h) + 1 else 0
theorem ap_at {l : List B} {k : Nat} (hk : k < l.length) : ap l (oB l k).dark (oB l k).grain = rowAt l k + 1 := by
 have h : ∃ k', k' < l.length ∧ (oB l k').dark = (oB l k).dark ∧ (oB l k').grain = (oB l k).grain := ⟨k, hk, rfl, rfl⟩
 unfold ap
 rw [dif_pos h]
 obtain ⟨h1, h2, h3⟩ := Classical.choose_spec h
 generalize Classical.choose h = m at h1 h2 h3 ⊢
 congr 1
 rcases Nat.le_total m k with q | q
 ·exact same_row q hk h2 h3
 ·exact (same_row q h1 h2.symm h3.symm).symm
theorem ap_none {l : List B} {d g : Int} (h : ¬ prs l d g) : ap l d g = 0 := by
 unfold ap
 rw [dif_neg]
 exact fun q => h (prs_ex.2 q)
theorem ap_pos {l : List B} {d g : Int} (h : prs l d g) : 1 ≤ ap l d g := by
 obtain ⟨k, hk, h1, h2⟩ := prs_ex.1 h
 rw [← h1, ← h2, ap_at hk]; omega
theorem ap_lt {l : List B} {d g d' g' : Int} (h : prs l d g) (hd : d' < d) (hg : g < g') : ap l d' g' + 1 ≤ ap l d g := by
 by_cases h' : prs l d' g'
 ·obtain ⟨k, hk, h1, h2⟩ := prs_ex.1 h
  obtain ⟨i, hi, h3, h4⟩ := prs_ex.1 h'
  have lt : i < k := by
   rcases Nat.lt_trichotomy i k with q | q | q
   ·exact q
   ·subst q; omega
   ·have := od_le q hi; omega
  have := apart_lt lt hk (by omega)
  rw [← h1, ← h2, ← h3, ← h4, ap_at hk, ap_at hi]
  omega
 ·rw [ap_none h']; have := ap_pos h; omega
theorem ap_ex {l : List B} {d g : Int} (h : prs l d g) : ap l d g = 1 ∨ ∃ d' g', prs l d' g' ∧ d' < d ∧ g < g' ∧ ap l d g = ap l d' g' + 1 := by
 obtain ⟨k, hk, h1, h2⟩ := prs_ex.1 h
 rw [← h1, ← h2, ap_at hk]
 by_cases e : rowAt l k = 0
 ·exact .inl (by omega)
 ·obtain ⟨m, a, _, b, c, d⟩ := und_some hk e
  exact .inr ⟨_, _, prs_ex.2 ⟨m, by omega, rfl, rfl⟩, c, d, by rw [ap_at (by omega)]; omega⟩
theorem ap_rows {l : List B} (d g : Int) : ap l d g ≤ (rowsL l).length := by
 by_cases h : prs l d g
 ·obtain ⟨k, hk, h1, h2⟩ := prs_ex.1 h
  rw [← h1, ← h2, ap_at hk]
  exact (row_up (Nat.le_refl _) hk).1
 ·rw [ap_none h]; omega
theorem ap_top (l : List B) : (rowsL l).length = 0 ∨ ∃ d g, prs l d g ∧ ap l d g = (rowsL l).length := by
 rcases rows_top (l := l) (k := l.length) (Nat.le_refl _) with q | ⟨m, a, b⟩
 ·exact .inl q
 ·exact .inr ⟨_, _, prs_ex.2 ⟨m, a, rfl, rfl⟩, by rw [ap_at a]; exact b⟩
end Go.Proofs.Ytjncfpfgobojpaa
set_option linter.unusedVariables false
set_option linter.unusedSimpArgs false
namespace Go.Proofs.Ytjncfpfgobojpaa
open Go Go.Am Go.Proofs
theorem ap_mono {l m : List B} (h : ∀ d g, prs l d g → prs m d g) : ∀ n d g, ap l d g = n → n ≤ ap m d g := by
 intro n
 induction n using Nat.strongRecOn with
 | _ n ih =>
   intro d g e
   by_cases hp : prs l d g
   ·rcases ap_ex hp with q | ⟨d', g', h1, h2, h3, h4⟩
    ·have := ap_pos (h d g hp); omega
    ·have := ih (ap l d' g') (by omega) d' g' rfl
     have := ap_lt (h d g hp) h2 h3
     omega
   ·rw [ap_none hp] at e; omega
theorem rows_mono {l m : List B} (h : ∀ d g, prs l d g → prs m d g) : (rowsL l).length ≤ (rowsL m).length := by
 rcases ap_top l with q | ⟨d, g, h1, h2⟩
 ·omega
 ·have := ap_mono h _ d g rfl
  have := ap_rows (l := m) d g
  omega
theorem ap_below {l m : List B} {D G : Int} (h : ∀ d g, prs m d g → prs l d g ∨ (d = D ∧ g = G)) : ∀ n d g, ap m d g = n → ¬ (D < d ∧ g < G) → ¬ (d = D ∧ g = G) → n ≤ ap l d g := by
 intro n
 induction n using Nat.strongRecOn with
 | _ n ih =>
   intro d g e hn hx
   by_cases hp : prs m d g
   ·have hl := (h d g hp).resolve_right hx
    rcases ap_ex hp with q | ⟨d', g', h1, h2, h3, h4⟩
    ·have := ap_pos hl; omega
    ·have := ih (ap m d' g') (by omega) d' g' rfl (by omega) (by omega)
     have := ap_lt hl h2 h3
     omega
   ·rw [ap_none hp] at e; omega
theorem ap_more {l m : List B} {D G : Int} (h : ∀ d g, prs m d g → prs l d g ∨ (d = D ∧ g = G)) : ap m D G ≤ (rowsL l).length + 1 ∧ ∀ d g, prs l d g → D < d → g < G → ap m D G ≤ ap l d g := by
 by_cases hp : prs m D G
 ·rcases ap_ex hp with q | ⟨d', g', h1, h2, h3, h4⟩
  ·exact ⟨by omega, fun d g hl _ _ => by have := ap_pos hl; omega⟩
  ·have := ap_below h _ d' g' rfl (by omega) (by omega)
   have := ap_rows (l := l) d' g'
   refine ⟨by omega, fun d g hl a b => ?_⟩
   have := ap_lt hl (show d' < d by omega) (show g < g' by omega)
   omega
 ·rw [ap_none hp]; exact ⟨by omega, fun _ _ _ _ _ => by omega⟩
theorem ap_above {l m : List B} {D G : Int} (h : ∀ d g, prs m d g → prs l d g ∨ (d = D ∧ g = G)) : ∀ n d g, ap m d g = n → prs l d g → ¬ (d = D ∧ g = G) → n ≤ ap l d g + 1 := by
 intro n
 induction n using Nat.strongRecOn with
 | _ n ih =>
   intro d g e hl hx
   by_cases hp : prs m d g
   ·rcases ap_ex hp with q | ⟨d', g', h1, h2, h3, h4⟩
    ·omega
    ·by_cases hx' : d' = D ∧ g' = G
     ·obtain ⟨rfl, rfl⟩ := hx'
      have := (ap_more h).2 d g hl h2 h3
      omega
     ·have hl' := (h d' g' h1).resolve_right hx'
      have := ih (ap m d' g') (by omega) d' g' rfl hl' hx'
      have := ap_lt hl h2 h3
      omega
   ·rw [ap_none hp] at e; omega
theorem rows_more {l m : List B} {D G : Int} (h : ∀ d g, prs m d g → prs l d g ∨ (d = D ∧ g = G)) : (rowsL m).length ≤ (rowsL l).length + 1 := by
 rcases ap_top m with q | ⟨d, g, h1, h2⟩
 ·omega
 ·by_cases hx : d = D ∧ g = G
  ·obtain ⟨rfl, rfl⟩ := hx
   have := (ap_more h).1
   omega
  ·have := ap_above h _ d g rfl ((h d g h1).resolve_right hx) hx
   have := ap_rows (l := l) d g
   omega
theorem prs_snoc {l : List B} {b : B} {d g : Int} : prs (l ++ [b]) d g ↔ prs l d g ∨ (d = b.dark ∧ g = b.grain) := by
 constructor
 ·rintro ⟨i, hi, h1, h2⟩
  by_cases e : i < l.length
  ·refine .inl ⟨i, e, ?_, ?_⟩
   ·rw [← h1]; simp [bD, List.getD_eq_getElem?_getD, List.getElem?_append_left e]
   ·rw [← h2]; simp [bD, List.getD_eq_getElem?_getD, List.getElem?_append_left e]
  ·simp only [List.length_append, List.length_cons, List.length_nil] at hi
   obtain rfl : i = l.length := by omega
   simp [bD, List.getD_eq_getElem?_getD] at h1 h2
   exact .inr ⟨h1.symm, h2.symm⟩
 ·rintro (⟨i, hi, h1, h2⟩ | ⟨rfl, rfl⟩)
  ·refine ⟨i, by simp; omega, ?_, ?_⟩
   ·rw [← h1]; simp [bD, List.getD_eq_getElem?_getD, List.getElem?_append_left hi]
   ·rw [← h2]; simp [bD, List.getD_eq_getElem?_getD, List.getElem?_append_left hi]
  ·exact ⟨l.length, by simp, by simp [bD, List.getD_eq_getElem?_getD], by simp [bD, List.getD_eq_getElem?_getD]⟩
def sg (n w i : Nat) : Nat := n - 1 - (i + w) % n
def tn (l : List B) (w k : Nat) : List B := (List.range k).map fun i => bD l (sg l.length w i)
end Go.Proofs.Ytjncfpfgobojpaa
set_option linter.unusedVariables false
set_option linter.unusedSimpArgs false
namespace Go.Proofs.Ytjncfpfgobojpaa
open Go Go.Am Go.Proofs
abbrev ni (ns : List Int) (k : Nat) : Int := ns.getD k 0
abbrev hasI (ns : List Int) (k : Nat) (x : Int) : Prop := ∃ i, i < k ∧ ni ns i = x
theorem hasI_succ {ns : List Int} {k : Nat} {x : Int} : hasI ns (k + 1) x ↔ x = ni ns k ∨ hasI ns k x := by
 constructor
 ·rintro ⟨i, hi, e⟩
  by_cases h : i = k
  ·subst h; exact .inl e.symm
  ·exact .inr ⟨i, by omega, e⟩
 ·rintro (e | ⟨i, hi, e⟩)
  ·exact ⟨k, by omega, e.symm⟩
  ·exact ⟨i, by omega, e⟩
def GK (l : List B) (ns : List Int) (k : Nat) : Prop := ∀ i, i < k → 0 ≤ ni ns i ∧ ni ns i < l.length ∧ ¬ hasI ns i (ni ns i)
theorem GK.succ {l : List B} {ns : List Int} {k : Nat} (h : GK l ns k) (h1 : 0 ≤ ni ns k ∧ ni ns k < l.length) (h2 : ¬ hasI ns k (ni ns k)) : GK l ns (k + 1) := fun i hi => by
 by_cases e : i = k
 ·subst e; exact ⟨h1.1, h1.2, h2⟩
 ·exact h i (by omega)
abbrev mayZ (l : List B) (x y : Int) : Bool := mayI l x.toNat y.toNat
def AP (l : List B) (ns : List Int) (k : Nat) : Prop := ∀ i, i < k → ∀ j, j < i → mayZ l (ni ns i) (ni ns j) = false ∧ mayZ l (ni ns j) (ni ns i) = false
open Classical in
noncomputable def apR (l : List B) (ns : List Int) : Bool × Int :=
 if VL l then (if GK l ns ns.length then (decide (AP l ns ns.length), 0) else (false, 2)) else (false, 60)
theorem apR_err {l : List B} {ns : List Int} (h : ¬ VL l) : apR l ns = (false, 60) := by unfold apR; rw [if_neg h]
theorem apR_arg {l : List B} {ns : List Int} (h : VL l) (g : ¬ GK l ns ns.length) : apR l ns = (false, 2) := by unfold apR; rw [if_pos h, if_neg g]
theorem apR_no {l : List B} {ns : List Int} (h : VL l) (g : GK l ns ns.length) (a : ¬ AP l ns ns.length) : apR l ns = (false, 0) := by
 unfold apR; rw [if_pos h, if_pos g, @decide_eq_false _ (Classical.propDecidable _) a]
theorem apR_yes {l : List B} {ns : List Int} (h : VL l) (g : GK l ns ns.length) (a : AP l ns ns.length) : apR l ns = (true, 0) := by
 unfold apR; rw [if_pos h, if_pos g, @decide_eq_true _ (Classical.propDecidable _) a]
abbrev rI (rows : List (List Int)) (i : Nat) : List Int := rows.getD i []
def MY (l : List B) (row : List Int) (k : Nat) : Prop := ∀ j, 0 < j → j < k → mayZ l (ni row (j - 1)) (ni row j) = true
def MYs (l : List B) (rows : List (List Int)) (k : Nat) : Prop := ∀ i, i < k → MY l (rI rows i) (rI rows i).length
def IX (l : List B) (xs : List Int) : Prop := ∀ x ∈ xs, 0 ≤ x ∧ x < l.length
open Classical in
noncomputable def ck (l : List B) (rows : List (List Int)) : Int :=
 if VL l then if IX l rows.flatten then if rows.flatten.Nodup then if MYs l rows rows.length then
  if (∃ r ∈ rows, r = []) ∨ rows.flatten.length < l.length then 4 else 0 else 61 else 43 else 2 else 60
structure CkOK (l : List B) (rows : List (List Int)) : Prop where
 vl : VL l
 ix : IX l rows.flatten
 nd : rows.flatten.Nodup
 my : MYs l rows rows.length
 ne : ∀ r ∈ rows, r ≠ []
 all : rows.flatten.length = l.length
theorem ints_le {A B : List Int} (h : A.Nodup) (s : ∀ x ∈ A, x ∈ B) : A.length ≤ B.length := by
 induction A generalizing B with
 | nil => exact Nat.zero_le _
 | cons a A ih =>
   have h' := List.nodup_cons.1 h
   have ha := s a (by simp)
   have := ih (B := B.erase a) h'.2 fun x hx => (List.mem_erase_of_ne (by rintro rfl; exact h'.1 hx)).2 (s x (by simp [hx]))
   rw [List.length_erase_of_mem ha] at this
   have := List.length_pos_of_mem ha
   simp only [List.length_cons]
   omega
def ixs (n : Nat) : List Int := (List.range n).map fun (i : Nat) => (i : Int)
theorem ixs_mem {n : Nat} {x : Int} : x ∈ ixs n ↔ 0 ≤ x ∧ x < n := by
 simp only [ixs, List.mem_map, List.mem_range]
 constructor
 ·rintro ⟨i, hi, rfl⟩; omega
 ·rintro ⟨h1, h2⟩; exact ⟨x.toNat, by omega, by omega⟩
theorem ixs_nodup (n : Nat) : (ixs n).Nodup := by
 unfold ixs
 induction n with
 | zero => simp
 | succ n ih =>
   rw [List.range_succ, List.map_append, List.nodup_append]
   refine ⟨ih, by simp, fun a ha b hb e => ?_⟩
   simp only [List.mem_map, List.mem_range] at ha
   obtain ⟨i, hi, rfl⟩ := ha
   simp only [List.map_cons, List.map_nil, List.mem_singleton] at hb
   omega
theorem ixs_len (n : Nat) : (ixs n).length = n := by simp [ixs]
theorem IX.le {l : List B} {xs : List Int} (h : IX l xs) (nd : xs.Nodup) : xs.length ≤ l.length := by
 have := ints_le nd (B := ixs l.length) fun x hx => ixs_mem.2 (h x hx)
 rwa [ixs_len] at this
theorem ck_ok {l : List B} {rows : List (List Int)} (h : CkOK l rows) : ck l rows = 0 := by
 unfold ck
 rw [if_pos h.vl, if_pos h.ix, if_pos h.nd, if_pos h.my, if_neg]
 rintro (⟨r, hr, e⟩ | e)
 ·exact h.ne r hr e
 ·have := h.all; omega
theorem ck_is {l : List B} {rows : List (List Int)} (e : ck l rows = 0) : CkOK l rows := by
 unfold ck at e
 split at e
 ·rename_i h1
  split at e
  ·rename_i h2
   split at e
   ·rename_i h3
    split at e
    ·rename_i h4
     split at e
     ·cases e
     ·rename_i h5
      simp only [not_or, not_exists, not_and, Nat.not_lt] at h5
      exact ⟨h1, h2, h3, h4, h5.1, Nat.le_antisymm (h2.le h3) h5.2⟩
    ·cases e
   ·cases e
  ·cases e
 ·cases e
theorem CkOK.mem {l : List B} {rows : List (List Int)} (h : CkOK l rows) {x : Int} (h0 : 0 ≤ x) (h1 : x < l.length) : x ∈ rows.flatten := by
 refine Classical.byContradiction fun hn => ?_
 have := ints_le (A := x :: rows.flatten) (B := ixs l.length) (List.nodup_cons.2 ⟨hn, h.nd⟩) fun y hy => by
  rcases List.mem_cons.1 hy with rfl | hy
  ·exact ixs_mem.2 ⟨h0, h1⟩
  ·exact ixs_mem.2 (h.ix y hy)
 rw [ixs_len, List.length_cons, h.all] at this
 omega
theorem mayB_trans {a b c : B} (h1 : mayB a b = true) (h2 : mayB b c = true) : mayB a c = true := by
 simp only [mayB, decide_eq_true_eq] at *; omega
theorem mayB_refl (a : B) : mayB a a = true := by simp [mayB]
theorem MY.trans {l : List B} {row : List Int} (h : MY l row row.length) {a : Nat} : ∀ {b : Nat}, a ≤ b → b < row.length → mayZ l (ni row a) (ni row b) = true
 | 0, h1, h2 => by
   obtain rfl : a = 0 := by omega
   exact mayB_refl _
 | b + 1, h1, h2 => by
   by_cases e : a = b + 1
   ·subst e; exact mayB_refl _
   ·exact mayB_trans (MY.trans h (b := b) (by omega) (by omega)) (h (b + 1) (by omega) h2)
theorem weak {l : List B} {rows : List (List Int)} {ns : List Int} (h : CkOK l rows) (g : GK l ns ns.length) (a : AP l ns ns.length) : ns.length ≤ rows.length := by
 have ex : ∀ x, x ∈ ns → ∃ i : Nat, i < rows.length ∧ x ∈ rI rows i := fun x hx => by
  obtain ⟨k, hk, e⟩ := List.getElem_of_mem hx
  have := g k hk
  have e' : ni ns k = x := by simp [ni, hk, e]
  rw [e'] at this
  obtain ⟨r, hr, hxr⟩ := List.mem_flatten.1 (h.mem this.1 this.2.1)
  obtain ⟨i, hi, e2⟩ := List.getElem_of_mem hr
  exact ⟨i, hi, by simp only [rI, List.getD_eq_getElem?_getD, List.getElem?_eq_getElem hi, Option.getD_some, e2]; exact hxr⟩
 let f : Int → Int := fun x => if hx : x ∈ ns then ((Classical.choose (ex x hx) : Nat) : Int) else 0
 have fs : ∀ x (hx : x ∈ ns), ∃ i : Nat, f x = i ∧ i < rows.length ∧ x ∈ rI rows i := fun x hx => ⟨Classical.choose (ex x hx), by simp only [f]; rw [dif_pos hx], Classical.choose_spec (ex x hx)⟩
 have nd : (ns.map f).Nodup := by
  refine List.pairwise_iff_getElem.2 fun i j hi hj hij => ?_
  simp only [List.length_map] at hi hj
  simp only [List.getElem_map]
  intro e
  obtain ⟨p, p1, p2, p3⟩ := fs _ (List.getElem_mem hi)
  obtain ⟨q, q1, q2, q3⟩ := fs _ (List.getElem_mem hj)
  have : p = q := by omega
  subst this
  obtain ⟨u, hu, eu⟩ := List.getElem_of_mem p3
  obtain ⟨v, hv, ev⟩ := List.getElem_of_mem q3
  have nu : ni (rI rows p) u = ni ns i := by simp only [ni]; rw [getD_lt hu, getD_lt hi]; exact eu
  have nv : ni (rI rows p) v = ni ns j := by simp only [ni]; rw [getD_lt hv, getD_lt hj]; exact ev
  have ap := a j hj i hij
  rcases Nat.le_total u v with w | w
  ·have := MY.trans (h.my p p2) w hv
   rw [nu, nv, ap.2] at this; cases this
  ·have := MY.trans (h.my p p2) w hu
   rw [nu, nv, ap.1] at this; cases this
 have := ints_le nd (B := ixs rows.length) fun x hx => by
  obtain ⟨y, hy, rfl⟩ := List.mem_map.1 hx
  obtain ⟨i, e, hi, _⟩ := fs y hy
  exact ixs_mem.2 (by omega)
 rw [ixs_len, List.length_map] at this
 exact this
end Go.Proofs.Ytjncfpfgobojpaa
