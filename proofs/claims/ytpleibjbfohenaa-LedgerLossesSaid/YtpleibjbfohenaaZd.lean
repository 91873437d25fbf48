/- What the proof of the law needs: the abstract machine, the functions as it reads them, their contracts, part 4. -/
import Derived.Test.YtpleibjbfohenaaZc
import Derived.Test.YtpleibjbfohenaaProg
import Derived.KernelRfl
namespace Go.Proofs.Ytpleibjbfohenaa
open Go Go.Am Go.Proofs
/-! 3: pantoscope/pantoscopelaw09.LedgerKept · slots 86 · [0 image, 1 b, 2 image, 3 b, 5 d, 6 j, 7 e, 8 own, 9 x, 10 y, 11 f] -/
def c3r0 : List AOper := [
  ⟨(some 4), none, .mv (.c (.b false))⟩]
def c3r1 : List AOper := [
  ⟨(some 12), none, .mv (.t 0)⟩,
  ⟨(some 13), none, .len (.t 12)⟩,
  ⟨(some 14), none, .bin false .gtr (.t 13) (.c (.i .i64 400))⟩,
  ⟨(some 15), none, .mv (.t 14)⟩,
  ⟨(some 16), (some (15, false)), .mv (.t 1)⟩,
  ⟨(some 17), (some (15, false)), .len (.t 16)⟩,
  ⟨(some 18), (some (15, false)), .bin false .gtr (.t 17) (.c (.i .i64 400))⟩,
  ⟨(some 19), none, .pick (.t 15) (.c (.b true)) (.t 18)⟩]
def c3r2 : List AOper := [
  ⟨(some 20), none, .call (.c (.fn 8 [] [])) []⟩,
  ⟨(some 4), none, .mv (.t 20)⟩]
def c3r3 : List AOper := [
  ⟨(some 21), none, .call (.c (.fn 9 [] [])) []⟩,
  ⟨(some 5), none, .mv (.t 21)⟩]
def c3r4 : List AOper := [
  ⟨(some 23), none, .mv (.t 5)⟩,
  ⟨(some 24), none, .call (.c (.fn 10 [] [])) [(.t 23)]⟩,
  ⟨(some 22), none, .mv (.t 24)⟩,
  ⟨(some 25), none, .ext (.t 22) 0⟩,
  ⟨(some 26), none, .ext (.t 22) 1⟩,
  ⟨(some 6), none, .mv (.t 25)⟩,
  ⟨(some 7), none, .mv (.t 26)⟩]
def c3r5 : List AOper := [
  ⟨(some 27), none, .mv (.t 7)⟩,
  ⟨(some 28), none, .bin false .neq (.t 27) (.c (.i .i64 0))⟩]
def c3r6 : List AOper := [
  ⟨(some 4), none, .mv (.c (.b false))⟩]
def c3r7 : List AOper := [
  ⟨(some 29), none, .bsl 1 [] []⟩,
  ⟨(some 30), none, .mv (.t 0)⟩,
  ⟨(some 31), none, .app 1 1 (.t 29) (.t 30)⟩,
  ⟨(some 8), none, .mv (.t 31)⟩]
def c3r8 : List AOper := [
  ⟨(some 32), none, .mv (.t 6)⟩,
  ⟨(some 33), none, .mv (.t 8)⟩,
  ⟨(some 34), none, .call (.c (.fn 11 [] [])) [(.t 32), (.t 33)]⟩,
  ⟨(some 35), none, .bin false .neq (.t 34) (.c (.i .i64 0))⟩]
def c3r9 : List AOper := [
  ⟨(some 4), none, .mv (.c (.b false))⟩]
def c3r10 : List AOper := [
  ⟨(some 36), none, .mv (.t 8)⟩,
  ⟨(some 37), none, .call (.c (.fn 12 [] [])) [(.t 36)]⟩]
def c3r11 : List AOper := [
  ⟨(some 38), none, .mv (.t 6)⟩,
  ⟨(some 39), none, .call (.c (.fn 13 [] [])) [(.t 38)]⟩,
  ⟨(some 40), none, .call (.c (.fn 12 [] [])) [(.t 39)]⟩]
def c3r12 : List AOper := [
  ⟨(some 41), none, .bsl 1 [] []⟩,
  ⟨(some 42), none, .mv (.t 1)⟩,
  ⟨(some 43), none, .app 1 1 (.t 41) (.t 42)⟩,
  ⟨(some 8), none, .mv (.t 43)⟩]
def c3r13 : List AOper := [
  ⟨(some 44), none, .mv (.t 5)⟩,
  ⟨(some 45), none, .mv (.t 8)⟩,
  ⟨(some 46), none, .call (.c (.fn 14 [] [])) [(.t 44), (.c (.i .i64 0)), (.t 45)]⟩,
  ⟨(some 47), none, .bin false .neq (.t 46) (.c (.i .i64 0))⟩]
def c3r14 : List AOper := [
  ⟨(some 4), none, .mv (.c (.b false))⟩]
def c3r15 : List AOper := [
  ⟨(some 48), none, .mv (.t 8)⟩,
  ⟨(some 49), none, .call (.c (.fn 12 [] [])) [(.t 48)]⟩]
def c3r16 : List AOper := [
  ⟨(some 51), none, .mv (.t 5)⟩,
  ⟨(some 52), none, .call (.c (.fn 15 [] [])) [(.t 51), (.c (.i .i64 0))]⟩,
  ⟨(some 50), none, .mv (.t 52)⟩,
  ⟨(some 53), none, .ext (.t 50) 0⟩,
  ⟨(some 54), none, .ext (.t 50) 1⟩,
  ⟨(some 9), none, .mv (.t 53)⟩,
  ⟨(some 7), none, .mv (.t 54)⟩]
def c3r17 : List AOper := [
  ⟨(some 55), none, .mv (.t 9)⟩,
  ⟨(some 56), none, .call (.c (.fn 12 [] [])) [(.t 55)]⟩]
def c3r18 : List AOper := [
  ⟨(some 58), none, .mv (.t 5)⟩,
  ⟨(some 59), none, .call (.c (.fn 15 [] [])) [(.t 58), (.c (.i .i64 0))]⟩,
  ⟨(some 57), none, .mv (.t 59)⟩,
  ⟨(some 60), none, .ext (.t 57) 0⟩,
  ⟨(some 61), none, .ext (.t 57) 1⟩,
  ⟨(some 10), none, .mv (.t 60)⟩,
  ⟨(some 11), none, .mv (.t 61)⟩]
def c3r19 : List AOper := [
  ⟨(some 62), none, .mv (.t 7)⟩,
  ⟨(some 63), none, .bin false .eql (.t 62) (.c (.i .i64 0))⟩,
  ⟨(some 64), none, .mv (.t 63)⟩,
  ⟨(some 65), (some (64, true)), .mv (.t 11)⟩,
  ⟨(some 66), (some (64, true)), .bin false .eql (.t 65) (.c (.i .i64 0))⟩,
  ⟨(some 67), none, .pick (.t 64) (.t 66) (.c (.b false))⟩,
  ⟨(some 68), none, .mv (.t 67)⟩,
  ⟨(some 69), (some (68, true)), .mv (.t 10)⟩,
  ⟨(some 70), (some (68, true)), .str (.t 69)⟩,
  ⟨(some 71), (some (68, true)), .mv (.t 1)⟩,
  ⟨(some 72), (some (68, true)), .str (.t 71)⟩,
  ⟨(some 73), (some (68, true)), .eqs false (.t 70) (.t 72)⟩,
  ⟨(some 74), none, .pick (.t 68) (.t 73) (.c (.b false))⟩,
  ⟨(some 75), none, .mv (.t 74)⟩,
  ⟨(some 76), (some (75, true)), .mv (.t 6)⟩,
  ⟨(some 77), (some (75, true)), .call (.c (.fn 13 [] [])) [(.t 76)]⟩,
  ⟨(some 78), (some (75, true)), .str (.t 77)⟩,
  ⟨(some 79), (some (75, true)), .mv (.t 0)⟩,
  ⟨(some 80), (some (75, true)), .str (.t 79)⟩,
  ⟨(some 81), (some (75, true)), .eqs false (.t 78) (.t 80)⟩,
  ⟨(some 82), none, .pick (.t 75) (.t 81) (.c (.b false))⟩,
  ⟨(some 83), none, .mv (.t 82)⟩,
  ⟨(some 84), (some (83, true)), .call (.c (.fn 8 [] [])) []⟩,
  ⟨(some 85), none, .pick (.t 83) (.t 84) (.c (.b false))⟩,
  ⟨(some 4), none, .mv (.t 85)⟩]
abbrev c3 : AC := (.seq (.reg c3r0) (.seq (.seq (.reg c3r1) (.cond (.t 19) (.seq (.reg c3r2) .ret) .skip)) (.seq (.reg c3r3) (.seq (.reg c3r4) (.seq (.seq (.reg c3r5) (.cond (.t 28) (.seq (.reg c3r6) .ret) .skip)) (.seq (.reg c3r7) (.seq (.seq (.reg c3r8) (.cond (.t 35) (.seq (.reg c3r9) .ret) .skip)) (.seq (.reg c3r10) (.seq (.reg c3r11) (.seq (.reg c3r12) (.seq (.seq (.reg c3r13) (.cond (.t 47) (.seq (.reg c3r14) .ret) .skip)) (.seq (.reg c3r15) (.seq (.reg c3r16) (.seq (.reg c3r17) (.seq (.reg c3r18) (.seq (.head 19 c3r19) .ret))))))))))))))))
def q3 : List ARes := [.t 4]
/-! 4: pantoscope/pantoscopelaw09.LedgerPlays · slots 45 · [0 l, 1 l, 3 p, 4 _, 5 g] -/
def c4r0 : List AOper := [
  ⟨(some 2), none, .mv (.c (.b false))⟩]
def c4r1 : List AOper := [
  ⟨(some 6), none, .mv (.t 0)⟩,
  ⟨(some 7), none, .len (.t 6)⟩,
  ⟨(some 8), none, .bin false .gtr (.t 7) (.c (.i .i64 30))⟩]
def c4r2 : List AOper := [
  ⟨(some 9), none, .call (.c (.fn 8 [] [])) []⟩,
  ⟨(some 2), none, .mv (.t 9)⟩]
def c4r3 : List AOper := [
  ⟨(some 10), none, .call (.c (.fn 9 [] [])) []⟩,
  ⟨(some 11), none, .call (.c (.fn 16 [] [])) []⟩,
  ⟨(some 12), none, .bld [.nilp, .nilp, .nilp, .nilp] [(0, 1, (.t 10)), (1, 1, (.t 11))]⟩,
  ⟨(some 13), none, .box (.t 12)⟩,
  ⟨(some 3), none, .mv (.t 13)⟩]
def c4r4 : List AOper := [
  ⟨(some 14), none, .mv (.t 3)⟩,
  ⟨(some 15), none, .call (.c (.fn 17 [] [])) [(.t 14)]⟩,
  ⟨(some 16), none, .not (.t 15)⟩]
def c4r5 : List AOper := [
  ⟨(some 2), none, .mv (.c (.b false))⟩]
def c4r6 : List AOper := [
  ⟨(some 17), none, .mv (.t 0)⟩,
  ⟨(some 18), none, .len (.t 17)⟩,
  ⟨(some 19), none, .mv (.c (.i .i64 0))⟩]
def c4r7 : List AOper := [
  ⟨(some 20), none, .bin false .lss (.t 19) (.t 18)⟩]
def c4r8 : List AOper := [
  ⟨(some 21), none, .ia 6 (.t 17) (.t 19)⟩,
  ⟨(some 22), none, .ld (some 6) (.t 21)⟩,
  ⟨(some 5), none, .alloc [.i .u8 0, .i .i64 0, .i .i64 0, .i .i64 0, .sl 0 0 0 0, .sl 0 0 0 0]⟩,
  ⟨none, none, .sto (some 6) (.t 5) (.t 22)⟩]
def c4r9 : List AOper := [
  ⟨(some 23), none, .fa (.t 5) 0⟩,
  ⟨(some 24), none, .fa (.t 23) 4⟩,
  ⟨(some 25), none, .ld none (.t 24)⟩,
  ⟨(some 26), none, .len (.t 25)⟩,
  ⟨(some 27), none, .bin false .gtr (.t 26) (.c (.i .i64 300))⟩,
  ⟨(some 28), none, .mv (.t 27)⟩,
  ⟨(some 29), (some (28, false)), .fa (.t 5) 5⟩,
  ⟨(some 30), (some (28, false)), .ld none (.t 29)⟩,
  ⟨(some 31), (some (28, false)), .len (.t 30)⟩,
  ⟨(some 32), (some (28, false)), .bin false .gtr (.t 31) (.c (.i .i64 400))⟩,
  ⟨(some 33), none, .pick (.t 28) (.c (.b true)) (.t 32)⟩]
def c4r10 : List AOper := [
  ⟨(some 34), none, .mv (.t 3)⟩,
  ⟨(some 35), none, .ld (some 6) (.t 5)⟩,
  ⟨(some 36), none, .call (.c (.fn 18 [] [])) [(.t 34), (.t 35)]⟩,
  ⟨(some 37), none, .not (.t 36)⟩,
  ⟨(some 38), none, .mv (.t 37)⟩,
  ⟨(some 39), (some (38, false)), .mv (.t 3)⟩,
  ⟨(some 40), (some (38, false)), .call (.c (.fn 19 [] [])) [(.t 39)]⟩,
  ⟨(some 41), (some (38, false)), .not (.t 40)⟩,
  ⟨(some 42), none, .pick (.t 38) (.c (.b true)) (.t 41)⟩]
def c4r11 : List AOper := [
  ⟨(some 2), none, .mv (.c (.b false))⟩]
def c4r12 : List AOper := [
  ⟨(some 43), none, .bin false .add (.t 19) (.c (.i .i64 1))⟩,
  ⟨(some 19), none, .mv (.t 43)⟩]
abbrev c4b13 : AC := (.seq (.reg c4r7) (.seq (.cond (.t 20) .skip (.exit 0)) (.seq (.blk 1 (.seq (.reg c4r8) (.seq (.seq (.reg c4r9) (.cond (.t 33) (.exit 1) .skip)) (.seq (.reg c4r10) (.cond (.t 42) (.seq (.reg c4r11) .ret) .skip))))) (.reg c4r12))))
def c4r14 : List AOper := [
  ⟨(some 44), none, .call (.c (.fn 8 [] [])) []⟩,
  ⟨(some 2), none, .mv (.t 44)⟩]
abbrev c4 : AC := (.seq (.reg c4r0) (.seq (.seq (.reg c4r1) (.cond (.t 8) (.seq (.reg c4r2) .ret) .skip)) (.seq (.reg c4r3) (.seq (.seq (.reg c4r4) (.cond (.t 16) (.seq (.reg c4r5) .ret) .skip)) (.seq (.seq (.reg c4r6) (.blk 0 (.loop c4b13))) (.seq (.reg c4r14) .ret))))))
def q4 : List ARes := [.t 2]
/-! 5: pantoscope/pantoscopelaw09.LedgerLosses · slots 117 · [0 l, 1 l, 3 d, 4 j, 5 e, 6 last, 7 turn, 8 _, 9 c, 10 e, 11 k, 12 f, 13 image] -/
def c5r0 : List AOper := [
  ⟨(some 2), none, .mv (.c (.b false))⟩]
def c5r1 : List AOper := [
  ⟨(some 14), none, .mv (.t 0)⟩,
  ⟨(some 15), none, .len (.t 14)⟩,
  ⟨(some 16), none, .bin false .gtr (.t 15) (.c (.i .i64 30))⟩]
def c5r2 : List AOper := [
  ⟨(some 17), none, .call (.c (.fn 8 [] [])) []⟩,
  ⟨(some 2), none, .mv (.t 17)⟩]
def c5r3 : List AOper := [
  ⟨(some 18), none, .call (.c (.fn 9 [] [])) []⟩,
  ⟨(some 3), none, .mv (.t 18)⟩]
def c5r4 : List AOper := [
  ⟨(some 20), none, .mv (.t 3)⟩,
  ⟨(some 21), none, .call (.c (.fn 10 [] [])) [(.t 20)]⟩,
  ⟨(some 19), none, .mv (.t 21)⟩,
  ⟨(some 22), none, .ext (.t 19) 0⟩,
  ⟨(some 23), none, .ext (.t 19) 1⟩,
  ⟨(some 4), none, .mv (.t 22)⟩,
  ⟨(some 5), none, .mv (.t 23)⟩]
def c5r5 : List AOper := [
  ⟨(some 24), none, .mv (.t 5)⟩,
  ⟨(some 25), none, .bin false .neq (.t 24) (.c (.i .i64 0))⟩]
def c5r6 : List AOper := [
  ⟨(some 2), none, .mv (.c (.b false))⟩]
def c5r7 : List AOper := [
  ⟨(some 6), none, .mv (.c (.s (ByteArray.mk #[])))⟩,
  ⟨(some 7), none, .mv (.c (.i .i64 0))⟩]
def c5r8 : List AOper := [
  ⟨(some 26), none, .mv (.t 0)⟩,
  ⟨(some 27), none, .len (.t 26)⟩,
  ⟨(some 28), none, .mv (.c (.i .i64 0))⟩]
def c5r9 : List AOper := [
  ⟨(some 29), none, .bin false .lss (.t 28) (.t 27)⟩]
def c5r10 : List AOper := [
  ⟨(some 30), none, .ia 3 (.t 26) (.t 28)⟩,
  ⟨(some 31), none, .ld (some 3) (.t 30)⟩,
  ⟨(some 9), none, .alloc [.sl 0 0 0 0, .i .u8 0, .i .i64 0]⟩,
  ⟨none, none, .sto (some 3) (.t 9) (.t 31)⟩]
def c5r11 : List AOper := [
  ⟨(some 32), none, .fa (.t 9) 0⟩,
  ⟨(some 33), none, .ld none (.t 32)⟩,
  ⟨(some 34), none, .len (.t 33)⟩,
  ⟨(some 35), none, .bin false .gtr (.t 34) (.c (.i .i64 400))⟩]
def c5r12 : List AOper := [
  ⟨(some 36), none, .mv (.t 3)⟩,
  ⟨(some 37), none, .fa (.t 9) 1⟩,
  ⟨(some 38), none, .ld none (.t 37)⟩,
  ⟨(some 39), none, .bin false .rem (.t 38) (.c (.i .u8 3))⟩,
  ⟨(some 40), none, .conv .i64 (.t 39)⟩,
  ⟨(some 41), none, .fa (.t 9) 2⟩,
  ⟨(some 42), none, .ld none (.t 41)⟩,
  ⟨(some 43), none, .call (.c (.fn 20 [] [])) [(.t 36), (.t 40), (.t 42)]⟩]
def c5r13 : List AOper := [
  ⟨(some 44), none, .mv (.t 4)⟩,
  ⟨(some 45), none, .fa (.t 9) 0⟩,
  ⟨(some 46), none, .ld none (.t 45)⟩,
  ⟨(some 47), none, .call (.c (.fn 11 [] [])) [(.t 44), (.t 46)]⟩,
  ⟨(some 10), none, .mv (.t 47)⟩]
def c5r14 : List AOper := [
  ⟨(some 48), none, .mv (.t 10)⟩,
  ⟨(some 49), none, .bin false .eql (.t 48) (.c (.i .i64 0))⟩]
def c5r15 : List AOper := [
  ⟨(some 50), none, .fa (.t 9) 0⟩,
  ⟨(some 51), none, .ld none (.t 50)⟩,
  ⟨(some 52), none, .str (.t 51)⟩,
  ⟨(some 53), none, .mv (.t 7)⟩,
  ⟨(some 54), none, .bin false .add (.t 53) (.c (.i .i64 1))⟩,
  ⟨(some 6), none, .mv (.t 52)⟩,
  ⟨(some 7), none, .mv (.t 54)⟩]
def c5r16 : List AOper := [
  ⟨(some 55), none, .mv (.t 3)⟩,
  ⟨(some 56), none, .call (.c (.fn 21 [] [])) [(.t 55)]⟩]
def c5r17 : List AOper := [
  ⟨(some 58), none, .mv (.t 3)⟩,
  ⟨(some 59), none, .call (.c (.fn 10 [] [])) [(.t 58)]⟩,
  ⟨(some 57), none, .mv (.t 59)⟩,
  ⟨(some 60), none, .ext (.t 57) 0⟩,
  ⟨(some 61), none, .ext (.t 57) 1⟩,
  ⟨(some 11), none, .mv (.t 60)⟩,
  ⟨(some 12), none, .mv (.t 61)⟩]
def c5r18 : List AOper := [
  ⟨(some 62), none, .mv (.t 10)⟩,
  ⟨(some 63), none, .bin false .neq (.t 62) (.c (.i .i64 91))⟩,
  ⟨(some 64), none, .mv (.t 63)⟩,
  ⟨(some 65), (some (64, false)), .mv (.t 12)⟩,
  ⟨(some 66), (some (64, false)), .bin false .neq (.t 65) (.c (.i .i64 0))⟩,
  ⟨(some 67), none, .pick (.t 64) (.c (.b true)) (.t 66)⟩,
  ⟨(some 68), none, .mv (.t 67)⟩,
  ⟨(some 69), (some (68, false)), .mv (.t 4)⟩,
  ⟨(some 70), (some (68, false)), .call (.c (.fn 22 [] [])) [(.t 69)]⟩,
  ⟨(some 71), (some (68, false)), .not (.t 70)⟩,
  ⟨(some 72), none, .pick (.t 68) (.c (.b true)) (.t 71)⟩,
  ⟨(some 73), none, .mv (.t 72)⟩,
  ⟨(some 74), (some (73, false)), .mv (.t 4)⟩,
  ⟨(some 75), (some (73, false)), .call (.c (.fn 11 [] [])) [(.t 74), (.c (.sl 0 0 0 0))]⟩,
  ⟨(some 76), (some (73, false)), .bin false .neq (.t 75) (.c (.i .i64 92))⟩,
  ⟨(some 77), none, .pick (.t 73) (.c (.b true)) (.t 76)⟩,
  ⟨(some 78), none, .mv (.t 77)⟩,
  ⟨(some 79), (some (78, false)), .mv (.t 4)⟩,
  ⟨(some 80), (some (78, false)), .call (.c (.fn 13 [] [])) [(.t 79)]⟩,
  ⟨(some 81), (some (78, false)), .str (.t 80)⟩,
  ⟨(some 82), (some (78, false)), .mv (.t 6)⟩,
  ⟨(some 83), (some (78, false)), .eqs true (.t 81) (.t 82)⟩,
  ⟨(some 84), none, .pick (.t 78) (.c (.b true)) (.t 83)⟩]
def c5r19 : List AOper := [
  ⟨(some 2), none, .mv (.c (.b false))⟩]
def c5r20 : List AOper := [
  ⟨(some 85), none, .mv (.t 11)⟩,
  ⟨(some 86), none, .call (.c (.fn 13 [] [])) [(.t 85)]⟩,
  ⟨(some 87), none, .str (.t 86)⟩,
  ⟨(some 13), none, .mv (.t 87)⟩]
def c5r21 : List AOper := [
  ⟨(some 88), none, .mv (.t 11)⟩,
  ⟨(some 89), none, .call (.c (.fn 23 [] [])) [(.t 88)]⟩,
  ⟨(some 90), none, .mv (.t 7)⟩,
  ⟨(some 91), none, .bin false .neq (.t 89) (.t 90)⟩,
  ⟨(some 92), none, .mv (.t 91)⟩,
  ⟨(some 93), (some (92, false)), .mv (.t 13)⟩,
  ⟨(some 94), (some (92, false)), .mv (.t 6)⟩,
  ⟨(some 95), (some (92, false)), .eqs true (.t 93) (.t 94)⟩,
  ⟨(some 96), none, .pick (.t 92) (.c (.b true)) (.t 95)⟩,
  ⟨(some 97), none, .mv (.t 96)⟩,
  ⟨(some 98), (some (97, true)), .mv (.t 11)⟩,
  ⟨(some 99), (some (97, true)), .call (.c (.fn 23 [] [])) [(.t 98)]⟩,
  ⟨(some 100), (some (97, true)), .mv (.t 7)⟩,
  ⟨(some 101), (some (97, true)), .bin false .add (.t 100) (.c (.i .i64 1))⟩,
  ⟨(some 102), (some (97, true)), .bin false .neq (.t 99) (.t 101)⟩,
  ⟨(some 103), (some (97, true)), .mv (.t 102)⟩,
  ⟨(some 104), (some (103, false)), .mv (.t 13)⟩,
  ⟨(some 105), (some (103, false)), .fa (.t 9) 0⟩,
  ⟨(some 106), (some (103, false)), .ld none (.t 105)⟩,
  ⟨(some 107), (some (103, false)), .str (.t 106)⟩,
  ⟨(some 108), (some (103, false)), .eqs true (.t 104) (.t 107)⟩,
  ⟨(some 109), (some (97, true)), .pick (.t 103) (.c (.b true)) (.t 108)⟩,
  ⟨(some 110), none, .pick (.t 97) (.t 109) (.c (.b false))⟩]
def c5r22 : List AOper := [
  ⟨(some 2), none, .mv (.c (.b false))⟩]
def c5r23 : List AOper := [
  ⟨(some 111), none, .mv (.t 11)⟩,
  ⟨(some 112), none, .mv (.t 13)⟩,
  ⟨(some 113), none, .mv (.t 11)⟩,
  ⟨(some 114), none, .call (.c (.fn 23 [] [])) [(.t 113)]⟩,
  ⟨(some 4), none, .mv (.t 111)⟩,
  ⟨(some 6), none, .mv (.t 112)⟩,
  ⟨(some 7), none, .mv (.t 114)⟩]
def c5r24 : List AOper := [
  ⟨(some 115), none, .bin false .add (.t 28) (.c (.i .i64 1))⟩,
  ⟨(some 28), none, .mv (.t 115)⟩]
abbrev c5b25 : AC := (.seq (.reg c5r9) (.seq (.cond (.t 29) .skip (.exit 0)) (.seq (.blk 1 (.seq (.reg c5r10) (.seq (.seq (.reg c5r11) (.cond (.t 35) (.exit 1) .skip)) (.seq (.reg c5r12) (.seq (.reg c5r13) (.seq (.seq (.reg c5r14) (.cond (.t 49) (.seq (.reg c5r15) (.exit 1)) .skip)) (.seq (.reg c5r16) (.seq (.reg c5r17) (.seq (.seq (.reg c5r18) (.cond (.t 84) (.seq (.reg c5r19) .ret) .skip)) (.seq (.reg c5r20) (.seq (.seq (.reg c5r21) (.cond (.t 110) (.seq (.reg c5r22) .ret) .skip)) (.reg c5r23)))))))))))) (.reg c5r24))))
def c5r26 : List AOper := [
  ⟨(some 116), none, .call (.c (.fn 8 [] [])) []⟩,
  ⟨(some 2), none, .mv (.t 116)⟩]
abbrev c5 : AC := (.seq (.reg c5r0) (.seq (.seq (.reg c5r1) (.cond (.t 16) (.seq (.reg c5r2) .ret) .skip)) (.seq (.reg c5r3) (.seq (.reg c5r4) (.seq (.seq (.reg c5r5) (.cond (.t 25) (.seq (.reg c5r6) .ret) .skip)) (.seq (.reg c5r7) (.seq (.seq (.reg c5r8) (.blk 0 (.loop c5b25))) (.seq (.reg c5r26) .ret))))))))
def q5 : List ARes := [.t 2]
theorem fn5 : fnOf Try.prog 5 = some (c5, q5, 117) := by kernel_rfl
/-! 6: pantoscope/pantoscopelaw09.LedgerDisks · slots 74 · [0 l, 1 m, 2 l, 3 m, 5 d, 6 r, 7 _, 8 a, 9 c, 10 q, 11 _, 12 a] -/
def c6r0 : List AOper := [
  ⟨(some 4), none, .mv (.c (.b false))⟩]
def c6r1 : List AOper := [
  ⟨(some 13), none, .mv (.t 0)⟩,
  ⟨(some 14), none, .call (.c (.fn 24 [] [])) [(.t 13)]⟩,
  ⟨(some 15), none, .mv (.t 14)⟩,
  ⟨(some 16), (some (15, false)), .mv (.t 1)⟩,
  ⟨(some 17), (some (15, false)), .call (.c (.fn 24 [] [])) [(.t 16)]⟩,
  ⟨(some 18), none, .pick (.t 15) (.c (.b true)) (.t 17)⟩]
def c6r2 : List AOper := [
  ⟨(some 19), none, .call (.c (.fn 8 [] [])) []⟩,
  ⟨(some 4), none, .mv (.t 19)⟩]
def c6r3 : List AOper := [
  ⟨(some 20), none, .call (.c (.fn 9 [] [])) []⟩,
  ⟨(some 21), none, .call (.c (.fn 16 [] [])) []⟩,
  ⟨(some 5), none, .mv (.t 20)⟩,
  ⟨(some 6), none, .mv (.t 21)⟩]
def c6r4 : List AOper := [
  ⟨(some 22), none, .mv (.t 0)⟩,
  ⟨(some 23), none, .len (.t 22)⟩,
  ⟨(some 24), none, .mv (.c (.i .i64 0))⟩]
def c6r5 : List AOper := [
  ⟨(some 25), none, .bin false .lss (.t 24) (.t 23)⟩]
def c6r6 : List AOper := [
  ⟨(some 26), none, .ia 5 (.t 22) (.t 24)⟩,
  ⟨(some 27), none, .ld (some 5) (.t 26)⟩,
  ⟨(some 8), none, .alloc [.i .u8 0, .i .i64 0, .i .i64 0, .i .i64 0, .sl 0 0 0 0]⟩,
  ⟨none, none, .sto (some 5) (.t 8) (.t 27)⟩]
def c6r7 : List AOper := [
  ⟨(some 28), none, .mv (.t 5)⟩,
  ⟨(some 29), none, .mv (.t 6)⟩,
  ⟨(some 30), none, .ld (some 5) (.t 8)⟩,
  ⟨(some 31), none, .call (.c (.fn 25 [] [])) [(.t 28), (.t 29), (.t 30)]⟩,
  ⟨(some 32), none, .not (.t 31)⟩,
  ⟨(some 33), none, .mv (.t 32)⟩,
  ⟨(some 34), (some (33, false)), .mv (.t 5)⟩,
  ⟨(some 35), (some (33, false)), .mv (.t 6)⟩,
  ⟨(some 36), (some (33, false)), .call (.c (.fn 26 [] [])) [(.t 34), (.t 35)]⟩,
  ⟨(some 37), (some (33, false)), .not (.t 36)⟩,
  ⟨(some 38), none, .pick (.t 33) (.c (.b true)) (.t 37)⟩]
def c6r8 : List AOper := [
  ⟨(some 4), none, .mv (.c (.b false))⟩]
def c6r9 : List AOper := [
  ⟨(some 39), none, .bin false .add (.t 24) (.c (.i .i64 1))⟩,
  ⟨(some 24), none, .mv (.t 39)⟩]
abbrev c6b10 : AC := (.seq (.reg c6r5) (.seq (.cond (.t 25) .skip (.exit 0)) (.seq (.blk 1 (.seq (.reg c6r6) (.seq (.reg c6r7) (.cond (.t 38) (.seq (.reg c6r8) .ret) .skip)))) (.reg c6r9))))
def c6r11 : List AOper := [
  ⟨(some 40), none, .mv (.t 5)⟩,
  ⟨(some 41), none, .call (.c (.fn 27 [] [])) [(.t 40)]⟩,
  ⟨(some 42), none, .mv (.t 6)⟩,
  ⟨(some 43), none, .call (.c (.fn 28 [] [])) [(.t 42)]⟩,
  ⟨(some 9), none, .mv (.t 41)⟩,
  ⟨(some 10), none, .mv (.t 43)⟩]
def c6r12 : List AOper := [
  ⟨(some 44), none, .mv (.t 1)⟩,
  ⟨(some 45), none, .len (.t 44)⟩,
  ⟨(some 46), none, .mv (.c (.i .i64 0))⟩]
def c6r13 : List AOper := [
  ⟨(some 47), none, .bin false .lss (.t 46) (.t 45)⟩]
def c6r14 : List AOper := [
  ⟨(some 48), none, .ia 5 (.t 44) (.t 46)⟩,
  ⟨(some 49), none, .ld (some 5) (.t 48)⟩,
  ⟨(some 12), none, .alloc [.i .u8 0, .i .i64 0, .i .i64 0, .i .i64 0, .sl 0 0 0 0]⟩,
  ⟨none, none, .sto (some 5) (.t 12) (.t 49)⟩]
def c6r15 : List AOper := [
  ⟨(some 50), none, .mv (.t 9)⟩,
  ⟨(some 51), none, .mv (.t 10)⟩,
  ⟨(some 52), none, .ld (some 5) (.t 12)⟩,
  ⟨(some 53), none, .call (.c (.fn 25 [] [])) [(.t 50), (.t 51), (.t 52)]⟩,
  ⟨(some 54), none, .not (.t 53)⟩,
  ⟨(some 55), none, .mv (.t 54)⟩,
  ⟨(some 56), (some (55, false)), .mv (.t 9)⟩,
  ⟨(some 57), (some (55, false)), .mv (.t 10)⟩,
  ⟨(some 58), (some (55, false)), .call (.c (.fn 26 [] [])) [(.t 56), (.t 57)]⟩,
  ⟨(some 59), (some (55, false)), .not (.t 58)⟩,
  ⟨(some 60), none, .pick (.t 55) (.c (.b true)) (.t 59)⟩,
  ⟨(some 61), none, .mv (.t 60)⟩,
  ⟨(some 62), (some (61, false)), .mv (.t 5)⟩,
  ⟨(some 63), (some (61, false)), .mv (.t 6)⟩,
  ⟨(some 64), (some (61, false)), .call (.c (.fn 26 [] [])) [(.t 62), (.t 63)]⟩,
  ⟨(some 65), (some (61, false)), .not (.t 64)⟩,
  ⟨(some 66), none, .pick (.t 61) (.c (.b true)) (.t 65)⟩]
def c6r16 : List AOper := [
  ⟨(some 4), none, .mv (.c (.b false))⟩]
def c6r17 : List AOper := [
  ⟨(some 67), none, .bin false .add (.t 46) (.c (.i .i64 1))⟩,
  ⟨(some 46), none, .mv (.t 67)⟩]
abbrev c6b18 : AC := (.seq (.reg c6r13) (.seq (.cond (.t 47) .skip (.exit 2)) (.seq (.blk 3 (.seq (.reg c6r14) (.seq (.reg c6r15) (.cond (.t 66) (.seq (.reg c6r16) .ret) .skip)))) (.reg c6r17))))
def c6r19 : List AOper := [
  ⟨(some 68), none, .mv (.t 5)⟩,
  ⟨(some 69), none, .mv (.t 6)⟩,
  ⟨(some 70), none, .call (.c (.fn 26 [] [])) [(.t 68), (.t 69)]⟩,
  ⟨(some 71), none, .mv (.t 70)⟩,
  ⟨(some 72), (some (71, true)), .call (.c (.fn 8 [] [])) []⟩,
  ⟨(some 73), none, .pick (.t 71) (.t 72) (.c (.b false))⟩,
  ⟨(some 4), none, .mv (.t 73)⟩]
abbrev c6 : AC := (.seq (.reg c6r0) (.seq (.seq (.reg c6r1) (.cond (.t 18) (.seq (.reg c6r2) .ret) .skip)) (.seq (.reg c6r3) (.seq (.seq (.reg c6r4) (.blk 0 (.loop c6b10))) (.seq (.reg c6r11) (.seq (.seq (.reg c6r12) (.blk 2 (.loop c6b18))) (.seq (.reg c6r19) .ret)))))))
def q6 : List ARes := [.t 4]
/-! 7: pantoscope/pantoscopelaw09.LedgerNil · slots 32 · [0 slot, 1 b, 2 slot, 3 b, 5 d, 6 j] -/
def c7r0 : List AOper := [
  ⟨(some 4), none, .mv (.c (.b false))⟩]
def c7r1 : List AOper := [
  ⟨(some 5), none, .mv (.c (.nilp))⟩]
def c7r2 : List AOper := [
  ⟨(some 6), none, .mv (.c (.nilp))⟩]
def c7r3 : List AOper := [
  ⟨(some 7), none, .mv (.t 5)⟩,
  ⟨(some 8), none, .mv (.t 0)⟩,
  ⟨(some 9), none, .mv (.t 1)⟩,
  ⟨(some 10), none, .call (.c (.fn 29 [] [])) [(.t 7), (.t 8), (.t 9)]⟩,
  ⟨(some 11), none, .mv (.t 10)⟩,
  ⟨(some 12), (some (11, true)), .bld [.sl 0 0 0 0, .sl 0 0 0 0, .i .i64 0, .i .i64 0, .b false, .b false, .i .i64 0] []⟩,
  ⟨(some 13), (some (11, true)), .box (.t 12)⟩,
  ⟨(some 14), (some (11, true)), .mv (.t 0)⟩,
  ⟨(some 15), (some (11, true)), .mv (.t 1)⟩,
  ⟨(some 16), (some (11, true)), .call (.c (.fn 29 [] [])) [(.t 13), (.t 14), (.t 15)]⟩,
  ⟨(some 17), none, .pick (.t 11) (.t 16) (.c (.b false))⟩,
  ⟨(some 18), none, .mv (.t 17)⟩,
  ⟨(some 19), (some (18, true)), .mv (.t 6)⟩,
  ⟨(some 20), (some (18, true)), .mv (.t 1)⟩,
  ⟨(some 21), (some (18, true)), .call (.c (.fn 30 [] [])) [(.t 19), (.t 20)]⟩,
  ⟨(some 22), none, .pick (.t 18) (.t 21) (.c (.b false))⟩,
  ⟨(some 23), none, .mv (.t 22)⟩,
  ⟨(some 24), (some (23, true)), .bld [.nilp, .i .i64 0, .b false, .i .i64 0, .sl 0 0 0 0] []⟩,
  ⟨(some 25), (some (23, true)), .box (.t 24)⟩,
  ⟨(some 26), (some (23, true)), .mv (.t 1)⟩,
  ⟨(some 27), (some (23, true)), .call (.c (.fn 30 [] [])) [(.t 25), (.t 26)]⟩,
  ⟨(some 28), none, .pick (.t 23) (.t 27) (.c (.b false))⟩,
  ⟨(some 29), none, .mv (.t 28)⟩,
  ⟨(some 30), (some (29, true)), .call (.c (.fn 8 [] [])) []⟩,
  ⟨(some 31), none, .pick (.t 29) (.t 30) (.c (.b false))⟩,
  ⟨(some 4), none, .mv (.t 31)⟩]
abbrev c7 : AC := (.seq (.reg c7r0) (.seq (.reg c7r1) (.seq (.reg c7r2) (.seq (.reg c7r3) .ret))))
def q7 : List ARes := [.t 4]
/-! 8: pantoscope/pantoscopelaw09.awake · slots 38 · [1 d, 2 j, 3 e, 4 k] -/
def c8r0 : List AOper := [
  ⟨(some 0), none, .mv (.c (.b false))⟩]
def c8r1 : List AOper := [
  ⟨(some 5), none, .call (.c (.fn 9 [] [])) []⟩,
  ⟨(some 1), none, .mv (.t 5)⟩]
def c8r2 : List AOper := [
  ⟨(some 7), none, .mv (.t 1)⟩,
  ⟨(some 8), none, .call (.c (.fn 10 [] [])) [(.t 7)]⟩,
  ⟨(some 6), none, .mv (.t 8)⟩,
  ⟨(some 9), none, .ext (.t 6) 0⟩,
  ⟨(some 10), none, .ext (.t 6) 1⟩,
  ⟨(some 2), none, .mv (.t 9)⟩,
  ⟨(some 3), none, .mv (.t 10)⟩]
def c8r3 : List AOper := [
  ⟨(some 11), none, .mv (.t 3)⟩,
  ⟨(some 12), none, .bin false .neq (.t 11) (.c (.i .i64 0))⟩,
  ⟨(some 13), none, .mv (.t 12)⟩,
  ⟨(some 14), (some (13, false)), .mv (.t 2)⟩,
  ⟨(some 15), (some (13, false)), .bsl 1 [.i .u8 0] [(0, 1, (.c (.i .u8 97)))]⟩,
  ⟨(some 16), (some (13, false)), .cvt (.t 15)⟩,
  ⟨(some 17), (some (13, false)), .call (.c (.fn 11 [] [])) [(.t 14), (.t 16)]⟩,
  ⟨(some 18), (some (13, false)), .bin false .neq (.t 17) (.c (.i .i64 0))⟩,
  ⟨(some 19), none, .pick (.t 13) (.c (.b true)) (.t 18)⟩]
def c8r4 : List AOper := [
  ⟨(some 0), none, .mv (.c (.b false))⟩]
def c8r5 : List AOper := [
  ⟨(some 21), none, .mv (.t 1)⟩,
  ⟨(some 22), none, .call (.c (.fn 10 [] [])) [(.t 21)]⟩,
  ⟨(some 20), none, .mv (.t 22)⟩,
  ⟨(some 23), none, .ext (.t 20) 0⟩,
  ⟨(some 24), none, .ext (.t 20) 1⟩,
  ⟨(some 4), none, .mv (.t 23)⟩,
  ⟨(some 3), none, .mv (.t 24)⟩]
def c8r6 : List AOper := [
  ⟨(some 25), none, .mv (.t 3)⟩,
  ⟨(some 26), none, .bin false .eql (.t 25) (.c (.i .i64 0))⟩,
  ⟨(some 27), none, .mv (.t 26)⟩,
  ⟨(some 28), (some (27, true)), .mv (.t 4)⟩,
  ⟨(some 29), (some (27, true)), .call (.c (.fn 23 [] [])) [(.t 28)]⟩,
  ⟨(some 30), (some (27, true)), .bin false .eql (.t 29) (.c (.i .i64 1))⟩,
  ⟨(some 31), none, .pick (.t 27) (.t 30) (.c (.b false))⟩,
  ⟨(some 32), none, .mv (.t 31)⟩,
  ⟨(some 33), (some (32, true)), .mv (.t 4)⟩,
  ⟨(some 34), (some (32, true)), .call (.c (.fn 13 [] [])) [(.t 33)]⟩,
  ⟨(some 35), (some (32, true)), .str (.t 34)⟩,
  ⟨(some 36), (some (32, true)), .eqs false (.t 35) (.c (.s (ByteArray.mk #[97])))⟩,
  ⟨(some 37), none, .pick (.t 32) (.t 36) (.c (.b false))⟩,
  ⟨(some 0), none, .mv (.t 37)⟩]
abbrev c8 : AC := (.seq (.reg c8r0) (.seq (.reg c8r1) (.seq (.reg c8r2) (.seq (.seq (.reg c8r3) (.cond (.t 19) (.seq (.reg c8r4) .ret) .skip)) (.seq (.reg c8r5) (.seq (.reg c8r6) .ret))))))
def q8 : List ARes := [.t 0]
theorem fn8 : fnOf Try.prog 8 = some (c8, q8, 38) := by kernel_rfl
/-! 9: pantoscope/ledger.NewDisk · slots 3 · [] -/
def c9r0 : List AOper := [
  ⟨(some 0), none, .mv (.c (.nilp))⟩]
def c9r1 : List AOper := [
  ⟨(some 1), none, .bld [.sl 0 0 0 0, .sl 0 0 0 0, .i .i64 0, .i .i64 0, .b false, .b false, .i .i64 0] [(5, 1, (.c (.b true)))]⟩,
  ⟨(some 2), none, .box (.t 1)⟩,
  ⟨(some 0), none, .mv (.t 2)⟩]
abbrev c9 : AC := (.seq (.reg c9r0) (.seq (.reg c9r1) .ret))
def q9 : List ARes := [.t 0]
theorem fn9 : fnOf Try.prog 9 = some (c9, q9, 3) := by kernel_rfl
/-! 10: pantoscope/ledger.Open · slots 55 · [0 d, 1 d, 4 j, 5 slot, 6 b, 7 _, 8 turn, 9 image, 10 ok] -/
def c10r0 : List AOper := [
  ⟨(some 2), none, .mv (.c (.nilp))⟩,
  ⟨(some 3), none, .mv (.c (.i .i64 0))⟩]
def c10r1 : List AOper := [
  ⟨(some 11), none, .mv (.t 0)⟩,
  ⟨(some 12), none, .call (.c (.fn 31 [] [])) [(.t 11)]⟩]
def c10r2 : List AOper := [
  ⟨(some 2), none, .mv (.c (.nilp))⟩,
  ⟨(some 3), none, .mv (.c (.i .i64 91))⟩]
def c10r3 : List AOper := [
  ⟨(some 13), none, .mv (.t 0)⟩,
  ⟨(some 14), none, .mv (.t 0)⟩,
  ⟨(some 15), none, .nck (.t 14)⟩,
  ⟨(some 16), none, .fa (.t 15) 6⟩,
  ⟨(some 17), none, .ld none (.t 16)⟩,
  ⟨(some 18), none, .bld [.nilp, .i .i64 0, .b false, .i .i64 0, .sl 0 0 0 0] [(0, 1, (.t 13)), (1, 1, (.t 17))]⟩,
  ⟨(some 19), none, .box (.t 18)⟩,
  ⟨(some 4), none, .mv (.t 19)⟩]
def c10r4 : List AOper := [
  ⟨(some 20), none, .mv (.c (.i .i64 0))⟩]
def c10r5 : List AOper := [
  ⟨(some 21), none, .bin false .lss (.t 20) (.c (.i .i64 2))⟩]
def c10r6 : List AOper := [
  ⟨(some 22), none, .mv (.t 20)⟩,
  ⟨(some 5), none, .mv (.t 22)⟩]
def c10r7 : List AOper := [
  ⟨(some 24), none, .mv (.t 0)⟩,
  ⟨(some 25), none, .mv (.t 5)⟩,
  ⟨(some 26), none, .call (.c (.fn 15 [] [])) [(.t 24), (.t 25)]⟩,
  ⟨(some 23), none, .mv (.t 26)⟩,
  ⟨(some 27), none, .ext (.t 23) 0⟩,
  ⟨(some 28), none, .ext (.t 23) 1⟩,
  ⟨(some 6), none, .mv (.t 27)⟩,
  ⟨(some 7), none, .mv (.t 28)⟩]
def c10r8 : List AOper := [
  ⟨(some 30), none, .mv (.t 5)⟩,
  ⟨(some 31), none, .mv (.t 6)⟩,
  ⟨(some 32), none, .call (.c (.fn 32 [] [])) [(.t 30), (.t 31)]⟩,
  ⟨(some 29), none, .mv (.t 32)⟩,
  ⟨(some 33), none, .ext (.t 29) 0⟩,
  ⟨(some 34), none, .ext (.t 29) 1⟩,
  ⟨(some 35), none, .ext (.t 29) 2⟩,
  ⟨(some 8), none, .mv (.t 33)⟩,
  ⟨(some 9), none, .mv (.t 34)⟩,
  ⟨(some 10), none, .mv (.t 35)⟩]
def c10r9 : List AOper := [
  ⟨(some 36), none, .mv (.t 10)⟩,
  ⟨(some 37), none, .mv (.t 36)⟩,
  ⟨(some 38), (some (37, true)), .mv (.t 8)⟩,
  ⟨(some 39), (some (37, true)), .mv (.t 4)⟩,
  ⟨(some 40), (some (37, true)), .nck (.t 39)⟩,
  ⟨(some 41), (some (37, true)), .fa (.t 40) 3⟩,
  ⟨(some 42), (some (37, true)), .ld none (.t 41)⟩,
  ⟨(some 43), (some (37, true)), .bin false .gtr (.t 38) (.t 42)⟩,
  ⟨(some 44), none, .pick (.t 37) (.t 43) (.c (.b false))⟩]
def c10r10 : List AOper := [
  ⟨(some 45), none, .mv (.t 4)⟩,
  ⟨(some 46), none, .mv (.t 4)⟩,
  ⟨(some 47), none, .mv (.t 8)⟩,
  ⟨(some 48), none, .mv (.t 9)⟩,
  ⟨(some 49), none, .nck (.t 45)⟩,
  ⟨(some 50), none, .fa (.t 49) 3⟩,
  ⟨none, none, .sto none (.t 50) (.t 47)⟩,
  ⟨(some 51), none, .nck (.t 46)⟩,
  ⟨(some 52), none, .fa (.t 51) 4⟩,
  ⟨none, none, .sto none (.t 52) (.t 48)⟩]
def c10r11 : List AOper := [
  ⟨(some 53), none, .bin false .add (.t 20) (.c (.i .i64 1))⟩,
  ⟨(some 20), none, .mv (.t 53)⟩]
abbrev c10b12 : AC := (.seq (.reg c10r5) (.seq (.cond (.t 21) .skip (.exit 0)) (.seq (.blk 1 (.seq (.reg c10r6) (.seq (.reg c10r7) (.seq (.reg c10r8) (.seq (.reg c10r9) (.cond (.t 44) (.reg c10r10) .skip)))))) (.reg c10r11))))
def c10r13 : List AOper := [
  ⟨(some 54), none, .mv (.t 4)⟩,
  ⟨(some 2), none, .mv (.t 54)⟩,
  ⟨(some 3), none, .mv (.c (.i .i64 0))⟩]
abbrev c10 : AC := (.seq (.reg c10r0) (.seq (.seq (.reg c10r1) (.cond (.t 12) (.seq (.reg c10r2) .ret) .skip)) (.seq (.reg c10r3) (.seq (.seq (.reg c10r4) (.blk 0 (.loop c10b12))) (.seq (.reg c10r13) .ret)))))
def q10 : List ARes := [.t 2, .t 3]
theorem fn10 : fnOf Try.prog 10 = some (c10, q10, 55) := by kernel_rfl
/-! 11: (*pantoscope/ledger.Journal).Save · slots 60 · [0 j, 1 image, 2 j, 3 image, 5 turn, 6 b, 7 e] -/
def c11r0 : List AOper := [
  ⟨(some 4), none, .mv (.c (.i .i64 0))⟩]
def c11r1 : List AOper := [
  ⟨(some 9), none, .mv (.t 0)⟩,
  ⟨(some 10), none, .call (.c (.fn 33 [] [])) [(.t 9)]⟩,
  ⟨(some 8), none, .mv (.t 10)⟩]
def c11r2 : List AOper := [
  ⟨(some 4), none, .mv (.c (.i .i64 91))⟩]
def c11r3 : List AOper := [
  ⟨(some 12), none, .mv (.t 0)⟩,
  ⟨(some 13), none, .call (.c (.fn 22 [] [])) [(.t 12)]⟩,
  ⟨(some 11), none, .mv (.t 13)⟩]
def c11r4 : List AOper := [
  ⟨(some 4), none, .mv (.c (.i .i64 92))⟩]
def c11r5 : List AOper := [
  ⟨(some 15), none, .mv (.t 1)⟩,
  ⟨(some 16), none, .len (.t 15)⟩,
  ⟨(some 17), none, .bin false .gtr (.t 16) (.c (.i .i64 65536))⟩,
  ⟨(some 18), none, .mv (.t 17)⟩,
  ⟨(some 19), (some (18, false)), .mv (.t 0)⟩,
  ⟨(some 20), (some (18, false)), .nck (.t 19)⟩,
  ⟨(some 21), (some (18, false)), .fa (.t 20) 3⟩,
  ⟨(some 22), (some (18, false)), .ld none (.t 21)⟩,
  ⟨(some 23), (some (18, false)), .bin false .eql (.t 22) (.c (.i .i64 2147483647))⟩,
  ⟨(some 24), none, .pick (.t 18) (.c (.b true)) (.t 23)⟩,
  ⟨(some 14), none, .mv (.t 24)⟩]
def c11r6 : List AOper := [
  ⟨(some 4), none, .mv (.c (.i .i64 4))⟩]
def c11r7 : List AOper := [
  ⟨(some 25), none, .mv (.t 0)⟩,
  ⟨(some 26), none, .nck (.t 25)⟩,
  ⟨(some 27), none, .fa (.t 26) 3⟩,
  ⟨(some 28), none, .ld none (.t 27)⟩,
  ⟨(some 29), none, .bin false .add (.t 28) (.c (.i .i64 1))⟩,
  ⟨(some 5), none, .mv (.t 29)⟩]
def c11r8 : List AOper := [
  ⟨(some 30), none, .mv (.t 1)⟩,
  ⟨(some 31), none, .len (.t 30)⟩,
  ⟨(some 32), none, .call (.c (.fn 34 [] [])) [(.c (.sl 0 0 0 0)), (.t 31)]⟩,
  ⟨(some 33), none, .mv (.t 1)⟩,
  ⟨(some 34), none, .app 1 1 (.t 32) (.t 33)⟩,
  ⟨(some 6), none, .mv (.t 34)⟩]
def c11r9 : List AOper := [
  ⟨(some 35), none, .mv (.t 0)⟩,
  ⟨(some 36), none, .nck (.t 35)⟩,
  ⟨(some 37), none, .fa (.t 36) 0⟩,
  ⟨(some 38), none, .ld none (.t 37)⟩,
  ⟨(some 39), none, .mv (.t 5)⟩,
  ⟨(some 40), none, .bin false .rem (.t 39) (.c (.i .i64 2))⟩,
  ⟨(some 41), none, .mv (.t 6)⟩,
  ⟨(some 42), none, .mv (.t 5)⟩,
  ⟨(some 43), none, .call (.c (.fn 34 [] [])) [(.t 41), (.t 42)]⟩,
  ⟨(some 44), none, .call (.c (.fn 14 [] [])) [(.t 38), (.t 40), (.t 43)]⟩,
  ⟨(some 7), none, .mv (.t 44)⟩]
def c11r10 : List AOper := [
  ⟨(some 45), none, .mv (.t 7)⟩,
  ⟨(some 46), none, .bin false .neq (.t 45) (.c (.i .i64 0))⟩]
def c11r11 : List AOper := [
  ⟨(some 47), none, .mv (.t 0)⟩,
  ⟨(some 48), none, .nck (.t 47)⟩,
  ⟨(some 49), none, .fa (.t 48) 2⟩,
  ⟨none, none, .sto none (.t 49) (.c (.b true))⟩]
def c11r12 : List AOper := [
  ⟨(some 50), none, .mv (.t 7)⟩,
  ⟨(some 4), none, .mv (.t 50)⟩]
def c11r13 : List AOper := [
  ⟨(some 51), none, .mv (.t 0)⟩,
  ⟨(some 52), none, .mv (.t 0)⟩,
  ⟨(some 53), none, .mv (.t 5)⟩,
  ⟨(some 54), none, .mv (.t 1)⟩,
  ⟨(some 55), none, .call (.c (.fn 35 [] [])) [(.t 54)]⟩,
  ⟨(some 56), none, .nck (.t 51)⟩,
  ⟨(some 57), none, .fa (.t 56) 3⟩,
  ⟨none, none, .sto none (.t 57) (.t 53)⟩,
  ⟨(some 58), none, .nck (.t 52)⟩,
  ⟨(some 59), none, .fa (.t 58) 4⟩,
  ⟨none, none, .sto none (.t 59) (.t 55)⟩]
def c11r14 : List AOper := [
  ⟨(some 4), none, .mv (.c (.i .i64 0))⟩]
abbrev c11 : AC := (.seq (.reg c11r0) (.seq (.blk 0 (.seq (.reg c11r1) (.cond (.t 8) (.seq (.reg c11r2) .ret) (.seq (.reg c11r3) (.cond (.t 11) (.seq (.reg c11r4) .ret) (.seq (.reg c11r5) (.cond (.t 14) (.seq (.reg c11r6) .ret) .skip))))))) (.seq (.reg c11r7) (.seq (.reg c11r8) (.seq (.seq (.head 9 c11r9) (.seq (.reg c11r10) (.cond (.t 46) (.seq (.reg c11r11) (.seq (.reg c11r12) .ret)) .skip))) (.seq (.reg c11r13) (.seq (.reg c11r14) .ret)))))))
def q11 : List ARes := [.t 4]
theorem fn11 : fnOf Try.prog 11 = some (c11, q11, 60) := by kernel_rfl
/-! 13: (*pantoscope/ledger.Journal).Image · slots 10 · [0 j, 1 j] -/
def c13r0 : List AOper := [
  ⟨(some 2), none, .mv (.c (.sl 0 0 0 0))⟩]
def c13r1 : List AOper := [
  ⟨(some 3), none, .mv (.t 0)⟩,
  ⟨(some 4), none, .call (.c (.fn 33 [] [])) [(.t 3)]⟩]
def c13r2 : List AOper := [
  ⟨(some 2), none, .mv (.c (.sl 0 0 0 0))⟩]
def c13r3 : List AOper := [
  ⟨(some 5), none, .mv (.t 0)⟩,
  ⟨(some 6), none, .nck (.t 5)⟩,
  ⟨(some 7), none, .fa (.t 6) 4⟩,
  ⟨(some 8), none, .ld none (.t 7)⟩,
  ⟨(some 9), none, .call (.c (.fn 35 [] [])) [(.t 8)]⟩,
  ⟨(some 2), none, .mv (.t 9)⟩]
abbrev c13 : AC := (.seq (.reg c13r0) (.seq (.seq (.reg c13r1) (.cond (.t 4) (.seq (.reg c13r2) .ret) .skip)) (.seq (.reg c13r3) .ret)))
def q13 : List ARes := [.t 2]
theorem fn13 : fnOf Try.prog 13 = some (c13, q13, 10) := by kernel_rfl
/-! 14: (*pantoscope/ledger.Disk).Write · slots 60 · [0 d, 1 slot, 2 b, 3 d, 4 slot, 5 b] -/
def c14r0 : List AOper := [
  ⟨(some 6), none, .mv (.c (.i .i64 0))⟩]
def c14r1 : List AOper := [
  ⟨(some 8), none, .mv (.t 0)⟩,
  ⟨(some 9), none, .call (.c (.fn 31 [] [])) [(.t 8)]⟩,
  ⟨(some 7), none, .mv (.t 9)⟩]
def c14r2 : List AOper := [
  ⟨(some 6), none, .mv (.c (.i .i64 91))⟩]
def c14r3 : List AOper := [
  ⟨(some 11), none, .mv (.t 1)⟩,
  ⟨(some 12), none, .bin false .neq (.t 11) (.c (.i .i64 0))⟩,
  ⟨(some 13), none, .mv (.t 12)⟩,
  ⟨(some 14), (some (13, true)), .mv (.t 1)⟩,
  ⟨(some 15), (some (13, true)), .bin false .neq (.t 14) (.c (.i .i64 1))⟩,
  ⟨(some 16), none, .pick (.t 13) (.t 15) (.c (.b false))⟩,
  ⟨(some 10), none, .mv (.t 16)⟩]
def c14r4 : List AOper := [
  ⟨(some 6), none, .mv (.c (.i .i64 2))⟩]
def c14r5 : List AOper := [
  ⟨(some 17), none, .mv (.t 0)⟩,
  ⟨(some 18), none, .nck (.t 17)⟩,
  ⟨(some 19), none, .fa (.t 18) 2⟩,
  ⟨(some 20), none, .ld none (.t 19)⟩,
  ⟨(some 21), none, .bin false .gtr (.t 20) (.c (.i .i64 0))⟩]
def c14r6 : List AOper := [
  ⟨(some 22), none, .mv (.t 0)⟩,
  ⟨(some 23), none, .nck (.t 22)⟩,
  ⟨(some 24), none, .fa (.t 23) 2⟩,
  ⟨(some 25), none, .ld none (.t 24)⟩,
  ⟨(some 26), none, .bin false .sub (.t 25) (.c (.i .i64 1))⟩,
  ⟨(some 27), none, .nck (.t 22)⟩,
  ⟨(some 28), none, .fa (.t 27) 2⟩,
  ⟨none, none, .sto none (.t 28) (.t 26)⟩]
def c14r7 : List AOper := [
  ⟨(some 29), none, .mv (.t 0)⟩,
  ⟨(some 30), none, .nck (.t 29)⟩,
  ⟨(some 31), none, .fa (.t 30) 2⟩,
  ⟨(some 32), none, .ld none (.t 31)⟩,
  ⟨(some 33), none, .bin false .eql (.t 32) (.c (.i .i64 0))⟩]
def c14r8 : List AOper := [
  ⟨(some 34), none, .mv (.t 0)⟩,
  ⟨(some 35), none, .mv (.t 1)⟩,
  ⟨(some 36), none, .mv (.t 2)⟩,
  ⟨(some 37), none, .mv (.t 0)⟩,
  ⟨(some 38), none, .nck (.t 37)⟩,
  ⟨(some 39), none, .fa (.t 38) 3⟩,
  ⟨(some 40), none, .ld none (.t 39)⟩,
  ⟨(some 41), none, .mm true (.t 40) [(.c (.i .i64 0))]⟩,
  ⟨(some 42), none, .mv (.t 2)⟩,
  ⟨(some 43), none, .len (.t 42)⟩,
  ⟨(some 44), none, .mm false (.t 41) [(.t 43)]⟩,
  ⟨(some 45), none, .sli 1 (.t 36) none (some (.t 44))⟩,
  ⟨(some 46), none, .call (.c (.fn 35 [] [])) [(.t 45)]⟩,
  ⟨(some 47), none, .nck (.t 34)⟩,
  ⟨(some 48), none, .fa (.t 47) 0⟩,
  ⟨(some 49), none, .iap 2 1 (.t 48) (.t 35)⟩,
  ⟨none, none, .sto none (.t 49) (.t 46)⟩]
def c14r9 : List AOper := [
  ⟨(some 50), none, .mv (.t 0)⟩,
  ⟨(some 51), none, .nck (.t 50)⟩,
  ⟨(some 52), none, .fa (.t 51) 4⟩,
  ⟨none, none, .sto none (.t 52) (.c (.b true))⟩]
def c14r10 : List AOper := [
  ⟨(some 6), none, .mv (.c (.i .i64 91))⟩]
def c14r11 : List AOper := [
  ⟨(some 53), none, .mv (.t 0)⟩,
  ⟨(some 54), none, .mv (.t 1)⟩,
  ⟨(some 55), none, .mv (.t 2)⟩,
  ⟨(some 56), none, .call (.c (.fn 35 [] [])) [(.t 55)]⟩,
  ⟨(some 57), none, .nck (.t 53)⟩,
  ⟨(some 58), none, .fa (.t 57) 0⟩,
  ⟨(some 59), none, .iap 2 1 (.t 58) (.t 54)⟩,
  ⟨none, none, .sto none (.t 59) (.t 56)⟩]
def c14r12 : List AOper := [
  ⟨(some 6), none, .mv (.c (.i .i64 0))⟩]
abbrev c14 : AC := (.seq (.reg c14r0) (.seq (.blk 0 (.seq (.reg c14r1) (.cond (.t 7) (.seq (.reg c14r2) .ret) (.seq (.reg c14r3) (.cond (.t 10) (.seq (.reg c14r4) .ret) .skip))))) (.seq (.seq (.reg c14r5) (.cond (.t 21) (.seq (.reg c14r6) (.seq (.reg c14r7) (.cond (.t 33) (.seq (.head 15 c14r8) (.seq (.reg c14r9) (.seq (.reg c14r10) .ret))) .skip))) .skip)) (.seq (.head 6 c14r11) (.seq (.reg c14r12) .ret)))))
def q14 : List ARes := [.t 6]
theorem fn14 : fnOf Try.prog 14 = some (c14, q14, 60) := by kernel_rfl
/-! 15: (*pantoscope/ledger.Disk).Read · slots 23 · [0 d, 1 slot, 2 d, 3 slot] -/
def c15r0 : List AOper := [
  ⟨(some 4), none, .mv (.c (.sl 0 0 0 0))⟩,
  ⟨(some 5), none, .mv (.c (.i .i64 0))⟩]
def c15r1 : List AOper := [
  ⟨(some 7), none, .mv (.t 0)⟩,
  ⟨(some 8), none, .call (.c (.fn 31 [] [])) [(.t 7)]⟩,
  ⟨(some 6), none, .mv (.t 8)⟩]
def c15r2 : List AOper := [
  ⟨(some 4), none, .mv (.c (.sl 0 0 0 0))⟩,
  ⟨(some 5), none, .mv (.c (.i .i64 91))⟩]
def c15r3 : List AOper := [
  ⟨(some 10), none, .mv (.t 1)⟩,
  ⟨(some 11), none, .bin false .neq (.t 10) (.c (.i .i64 0))⟩,
  ⟨(some 12), none, .mv (.t 11)⟩,
  ⟨(some 13), (some (12, true)), .mv (.t 1)⟩,
  ⟨(some 14), (some (12, true)), .bin false .neq (.t 13) (.c (.i .i64 1))⟩,
  ⟨(some 15), none, .pick (.t 12) (.t 14) (.c (.b false))⟩,
  ⟨(some 9), none, .mv (.t 15)⟩]
def c15r4 : List AOper := [
  ⟨(some 4), none, .mv (.c (.sl 0 0 0 0))⟩,
  ⟨(some 5), none, .mv (.c (.i .i64 2))⟩]
def c15r5 : List AOper := [
  ⟨(some 16), none, .mv (.t 0)⟩,
  ⟨(some 17), none, .mv (.t 1)⟩,
  ⟨(some 18), none, .nck (.t 16)⟩,
  ⟨(some 19), none, .fa (.t 18) 0⟩,
  ⟨(some 20), none, .iap 2 1 (.t 19) (.t 17)⟩,
  ⟨(some 21), none, .ld none (.t 20)⟩,
  ⟨(some 22), none, .call (.c (.fn 35 [] [])) [(.t 21)]⟩,
  ⟨(some 4), none, .mv (.t 22)⟩,
  ⟨(some 5), none, .mv (.c (.i .i64 0))⟩]
abbrev c15 : AC := (.seq (.reg c15r0) (.seq (.blk 0 (.seq (.reg c15r1) (.cond (.t 6) (.seq (.reg c15r2) .ret) (.seq (.reg c15r3) (.cond (.t 9) (.seq (.reg c15r4) .ret) .skip))))) (.seq (.reg c15r5) .ret)))
def q15 : List ARes := [.t 4, .t 5]
theorem fn15 : fnOf Try.prog 15 = some (c15, q15, 23) := by kernel_rfl
/-! 20: (*pantoscope/ledger.Disk).Arm · slots 23 · [0 d, 1 n, 2 keep, 3 d, 4 n, 5 keep] -/
def c20r0 : List AOper := [
  ⟨(some 6), none, .mv (.t 0)⟩,
  ⟨(some 7), none, .eqn true (.t 6) (.c (.nilp))⟩,
  ⟨(some 8), none, .mv (.t 7)⟩,
  ⟨(some 9), (some (8, true)), .mv (.t 0)⟩,
  ⟨(some 10), (some (8, true)), .nck (.t 9)⟩,
  ⟨(some 11), (some (8, true)), .fa (.t 10) 5⟩,
  ⟨(some 12), (some (8, true)), .ld none (.t 11)⟩,
  ⟨(some 13), none, .pick (.t 8) (.t 12) (.c (.b false))⟩]
def c20r1 : List AOper := [
  ⟨(some 14), none, .mv (.t 0)⟩,
  ⟨(some 15), none, .mv (.t 0)⟩,
  ⟨(some 16), none, .mv (.t 1)⟩,
  ⟨(some 17), none, .mm true (.c (.i .i64 0)) [(.t 16)]⟩,
  ⟨(some 18), none, .mv (.t 2)⟩,
  ⟨(some 19), none, .nck (.t 14)⟩,
  ⟨(some 20), none, .fa (.t 19) 2⟩,
  ⟨none, none, .sto none (.t 20) (.t 17)⟩,
  ⟨(some 21), none, .nck (.t 15)⟩,
  ⟨(some 22), none, .fa (.t 21) 3⟩,
  ⟨none, none, .sto none (.t 22) (.t 18)⟩]
abbrev c20 : AC := (.seq (.reg c20r0) (.cond (.t 13) (.reg c20r1) .skip))
def q20 : List ARes := []
theorem fn20 : fnOf Try.prog 20 = some (c20, q20, 23) := by kernel_rfl
/-! 21: (*pantoscope/ledger.Disk).Restart · slots 23 · [0 d, 1 d] -/
def c21r0 : List AOper := [
  ⟨(some 2), none, .mv (.t 0)⟩,
  ⟨(some 3), none, .eqn true (.t 2) (.c (.nilp))⟩,
  ⟨(some 4), none, .mv (.t 3)⟩,
  ⟨(some 5), (some (4, true)), .mv (.t 0)⟩,
  ⟨(some 6), (some (4, true)), .nck (.t 5)⟩,
  ⟨(some 7), (some (4, true)), .fa (.t 6) 5⟩,
  ⟨(some 8), (some (4, true)), .ld none (.t 7)⟩,
  ⟨(some 9), none, .pick (.t 4) (.t 8) (.c (.b false))⟩]
def c21r1 : List AOper := [
  ⟨(some 10), none, .mv (.t 0)⟩,
  ⟨(some 11), none, .mv (.t 0)⟩,
  ⟨(some 12), none, .nck (.t 10)⟩,
  ⟨(some 13), none, .fa (.t 12) 4⟩,
  ⟨none, none, .sto none (.t 13) (.c (.b false))⟩,
  ⟨(some 14), none, .nck (.t 11)⟩,
  ⟨(some 15), none, .fa (.t 14) 2⟩,
  ⟨none, none, .sto none (.t 15) (.c (.i .i64 0))⟩]
def c21r2 : List AOper := [
  ⟨(some 16), none, .mv (.t 0)⟩,
  ⟨(some 17), none, .nck (.t 16)⟩,
  ⟨(some 18), none, .fa (.t 17) 6⟩,
  ⟨(some 19), none, .ld none (.t 18)⟩,
  ⟨(some 20), none, .bin false .add (.t 19) (.c (.i .i64 1))⟩,
  ⟨(some 21), none, .nck (.t 16)⟩,
  ⟨(some 22), none, .fa (.t 21) 6⟩,
  ⟨none, none, .sto none (.t 22) (.t 20)⟩]
abbrev c21 : AC := (.seq (.reg c21r0) (.cond (.t 9) (.seq (.reg c21r1) (.reg c21r2)) .skip))
def q21 : List ARes := []
theorem fn21 : fnOf Try.prog 21 = some (c21, q21, 23) := by kernel_rfl
/-! 22: (*pantoscope/ledger.Journal).Dead · slots 25 · [0 j, 1 j] -/
def c22r0 : List AOper := [
  ⟨(some 2), none, .mv (.c (.b false))⟩]
def c22r1 : List AOper := [
  ⟨(some 3), none, .mv (.t 0)⟩,
  ⟨(some 4), none, .call (.c (.fn 33 [] [])) [(.t 3)]⟩,
  ⟨(some 5), none, .mv (.t 4)⟩,
  ⟨(some 6), (some (5, false)), .mv (.t 0)⟩,
  ⟨(some 7), (some (5, false)), .nck (.t 6)⟩,
  ⟨(some 8), (some (5, false)), .fa (.t 7) 2⟩,
  ⟨(some 9), (some (5, false)), .ld none (.t 8)⟩,
  ⟨(some 10), none, .pick (.t 5) (.c (.b true)) (.t 9)⟩,
  ⟨(some 11), none, .mv (.t 10)⟩,
  ⟨(some 12), (some (11, false)), .mv (.t 0)⟩,
  ⟨(some 13), (some (11, false)), .nck (.t 12)⟩,
  ⟨(some 14), (some (11, false)), .fa (.t 13) 1⟩,
  ⟨(some 15), (some (11, false)), .ld none (.t 14)⟩,
  ⟨(some 16), (some (11, false)), .mv (.t 0)⟩,
  ⟨(some 17), (some (11, false)), .nck (.t 16)⟩,
  ⟨(some 18), (some (11, false)), .fa (.t 17) 0⟩,
  ⟨(some 19), (some (11, false)), .ld none (.t 18)⟩,
  ⟨(some 20), (some (11, false)), .nck (.t 19)⟩,
  ⟨(some 21), (some (11, false)), .fa (.t 20) 6⟩,
  ⟨(some 22), (some (11, false)), .ld none (.t 21)⟩,
  ⟨(some 23), (some (11, false)), .bin false .neq (.t 15) (.t 22)⟩,
  ⟨(some 24), none, .pick (.t 11) (.c (.b true)) (.t 23)⟩,
  ⟨(some 2), none, .mv (.t 24)⟩]
abbrev c22 : AC := (.seq (.reg c22r0) (.seq (.head 20 c22r1) .ret))
def q22 : List ARes := [.t 2]
theorem fn22 : fnOf Try.prog 22 = some (c22, q22, 25) := by kernel_rfl
/-! 23: (*pantoscope/ledger.Journal).Turn · slots 9 · [0 j, 1 j] -/
def c23r0 : List AOper := [
  ⟨(some 2), none, .mv (.c (.i .i64 0))⟩]
def c23r1 : List AOper := [
  ⟨(some 3), none, .mv (.t 0)⟩,
  ⟨(some 4), none, .call (.c (.fn 33 [] [])) [(.t 3)]⟩]
def c23r2 : List AOper := [
  ⟨(some 2), none, .mv (.c (.i .i64 0))⟩]
def c23r3 : List AOper := [
  ⟨(some 5), none, .mv (.t 0)⟩,
  ⟨(some 6), none, .nck (.t 5)⟩,
  ⟨(some 7), none, .fa (.t 6) 3⟩,
  ⟨(some 8), none, .ld none (.t 7)⟩,
  ⟨(some 2), none, .mv (.t 8)⟩]
abbrev c23 : AC := (.seq (.reg c23r0) (.seq (.seq (.reg c23r1) (.cond (.t 4) (.seq (.reg c23r2) .ret) .skip)) (.seq (.reg c23r3) .ret)))
def q23 : List ARes := [.t 2]
theorem fn23 : fnOf Try.prog 23 = some (c23, q23, 9) := by kernel_rfl
/-! 31: (*pantoscope/ledger.Disk).Down · slots 18 · [0 d, 1 d] -/
def c31r0 : List AOper := [
  ⟨(some 2), none, .mv (.c (.b false))⟩]
def c31r1 : List AOper := [
  ⟨(some 3), none, .mv (.t 0)⟩,
  ⟨(some 4), none, .eqn false (.t 3) (.c (.nilp))⟩,
  ⟨(some 5), none, .mv (.t 4)⟩,
  ⟨(some 6), (some (5, false)), .mv (.t 0)⟩,
  ⟨(some 7), (some (5, false)), .nck (.t 6)⟩,
  ⟨(some 8), (some (5, false)), .fa (.t 7) 5⟩,
  ⟨(some 9), (some (5, false)), .ld none (.t 8)⟩,
  ⟨(some 10), (some (5, false)), .not (.t 9)⟩,
  ⟨(some 11), none, .pick (.t 5) (.c (.b true)) (.t 10)⟩,
  ⟨(some 12), none, .mv (.t 11)⟩,
  ⟨(some 13), (some (12, false)), .mv (.t 0)⟩,
  ⟨(some 14), (some (12, false)), .nck (.t 13)⟩,
  ⟨(some 15), (some (12, false)), .fa (.t 14) 4⟩,
  ⟨(some 16), (some (12, false)), .ld none (.t 15)⟩,
  ⟨(some 17), none, .pick (.t 12) (.c (.b true)) (.t 16)⟩,
  ⟨(some 2), none, .mv (.t 17)⟩]
abbrev c31 : AC := (.seq (.reg c31r0) (.seq (.reg c31r1) .ret))
def q31 : List ARes := [.t 2]
theorem fn31 : fnOf Try.prog 31 = some (c31, q31, 18) := by kernel_rfl
/-! 32: pantoscope/ledger.held · slots 48 · [0 slot, 1 b, 2 slot, 3 b, 7 turn] -/
def c32r0 : List AOper := [
  ⟨(some 4), none, .mv (.c (.i .i64 0))⟩,
  ⟨(some 5), none, .mv (.c (.sl 0 0 0 0))⟩,
  ⟨(some 6), none, .mv (.c (.b false))⟩]
def c32r1 : List AOper := [
  ⟨(some 8), none, .mv (.t 1)⟩,
  ⟨(some 9), none, .len (.t 8)⟩,
  ⟨(some 10), none, .bin false .lss (.t 9) (.c (.i .i64 8))⟩,
  ⟨(some 11), none, .mv (.t 10)⟩,
  ⟨(some 12), (some (11, false)), .mv (.t 1)⟩,
  ⟨(some 13), (some (11, false)), .call (.c (.fn 43 [] [])) [(.t 12)]⟩,
  ⟨(some 14), (some (11, false)), .bin false .gtr (.t 13) (.c (.i .i64 65536))⟩,
  ⟨(some 15), none, .pick (.t 11) (.c (.b true)) (.t 14)⟩,
  ⟨(some 16), none, .mv (.t 15)⟩,
  ⟨(some 17), (some (16, false)), .mv (.t 1)⟩,
  ⟨(some 18), (some (16, false)), .len (.t 17)⟩,
  ⟨(some 19), (some (16, false)), .mv (.t 1)⟩,
  ⟨(some 20), (some (16, false)), .call (.c (.fn 43 [] [])) [(.t 19)]⟩,
  ⟨(some 21), (some (16, false)), .bin false .add (.t 20) (.c (.i .i64 8))⟩,
  ⟨(some 22), (some (16, false)), .bin false .neq (.t 18) (.t 21)⟩,
  ⟨(some 23), none, .pick (.t 16) (.c (.b true)) (.t 22)⟩]
def c32r2 : List AOper := [
  ⟨(some 4), none, .mv (.c (.i .i64 0))⟩,
  ⟨(some 5), none, .mv (.c (.sl 0 0 0 0))⟩,
  ⟨(some 6), none, .mv (.c (.b false))⟩]
def c32r3 : List AOper := [
  ⟨(some 24), none, .mv (.t 1)⟩,
  ⟨(some 25), none, .mv (.t 1)⟩,
  ⟨(some 26), none, .len (.t 25)⟩,
  ⟨(some 27), none, .bin false .sub (.t 26) (.c (.i .i64 4))⟩,
  ⟨(some 28), none, .sli 1 (.t 24) (some (.t 27)) none⟩,
  ⟨(some 29), none, .call (.c (.fn 43 [] [])) [(.t 28)]⟩,
  ⟨(some 7), none, .mv (.t 29)⟩]
def c32r4 : List AOper := [
  ⟨(some 30), none, .mv (.t 7)⟩,
  ⟨(some 31), none, .mv (.t 1)⟩,
  ⟨(some 32), none, .mv (.t 1)⟩,
  ⟨(some 33), none, .len (.t 32)⟩,
  ⟨(some 34), none, .bin false .sub (.t 33) (.c (.i .i64 4))⟩,
  ⟨(some 35), none, .sli 1 (.t 31) (some (.c (.i .i64 4))) (some (.t 34))⟩,
  ⟨(some 36), none, .mv (.t 7)⟩,
  ⟨(some 37), none, .bin false .geq (.t 36) (.c (.i .i64 1))⟩,
  ⟨(some 38), none, .mv (.t 37)⟩,
  ⟨(some 39), (some (38, true)), .mv (.t 7)⟩,
  ⟨(some 40), (some (38, true)), .bin false .leq (.t 39) (.c (.i .i64 2147483647))⟩,
  ⟨(some 41), none, .pick (.t 38) (.t 40) (.c (.b false))⟩,
  ⟨(some 42), none, .mv (.t 41)⟩,
  ⟨(some 43), (some (42, true)), .mv (.t 7)⟩,
  ⟨(some 44), (some (42, true)), .bin false .rem (.t 43) (.c (.i .i64 2))⟩,
  ⟨(some 45), (some (42, true)), .mv (.t 0)⟩,
  ⟨(some 46), (some (42, true)), .bin false .eql (.t 44) (.t 45)⟩,
  ⟨(some 47), none, .pick (.t 42) (.t 46) (.c (.b false))⟩,
  ⟨(some 4), none, .mv (.t 30)⟩,
  ⟨(some 5), none, .mv (.t 35)⟩,
  ⟨(some 6), none, .mv (.t 47)⟩]
abbrev c32 : AC := (.seq (.reg c32r0) (.seq (.seq (.reg c32r1) (.cond (.t 23) (.seq (.reg c32r2) .ret) .skip)) (.seq (.reg c32r3) (.seq (.head 20 c32r4) .ret))))
def q32 : List ARes := [.t 4, .t 5, .t 6]
theorem fn32 : fnOf Try.prog 32 = some (c32, q32, 48) := by kernel_rfl
/-! 33: (*pantoscope/ledger.Journal).none · slots 12 · [0 j, 1 j] -/
def c33r0 : List AOper := [
  ⟨(some 2), none, .mv (.c (.b false))⟩]
def c33r1 : List AOper := [
  ⟨(some 3), none, .mv (.t 0)⟩,
  ⟨(some 4), none, .eqn false (.t 3) (.c (.nilp))⟩,
  ⟨(some 5), none, .mv (.t 4)⟩,
  ⟨(some 6), (some (5, false)), .mv (.t 0)⟩,
  ⟨(some 7), (some (5, false)), .nck (.t 6)⟩,
  ⟨(some 8), (some (5, false)), .fa (.t 7) 0⟩,
  ⟨(some 9), (some (5, false)), .ld none (.t 8)⟩,
  ⟨(some 10), (some (5, false)), .eqn false (.t 9) (.c (.nilp))⟩,
  ⟨(some 11), none, .pick (.t 5) (.c (.b true)) (.t 10)⟩,
  ⟨(some 2), none, .mv (.t 11)⟩]
abbrev c33 : AC := (.seq (.reg c33r0) (.seq (.reg c33r1) .ret))
def q33 : List ARes := [.t 2]
theorem fn33 : fnOf Try.prog 33 = some (c33, q33, 12) := by kernel_rfl
/-! 34: pantoscope/ledger.number · slots 19 · [0 b, 1 n, 2 b, 3 n] -/
def c34r0 : List AOper := [
  ⟨(some 4), none, .mv (.c (.sl 0 0 0 0))⟩]
def c34r1 : List AOper := [
  ⟨(some 5), none, .mv (.t 0)⟩,
  ⟨(some 6), none, .mv (.t 1)⟩,
  ⟨(some 7), none, .bin false .shr (.t 6) (.c (.i .u64 24))⟩,
  ⟨(some 8), none, .conv .u8 (.t 7)⟩,
  ⟨(some 9), none, .mv (.t 1)⟩,
  ⟨(some 10), none, .bin false .shr (.t 9) (.c (.i .u64 16))⟩,
  ⟨(some 11), none, .conv .u8 (.t 10)⟩,
  ⟨(some 12), none, .mv (.t 1)⟩,
  ⟨(some 13), none, .bin false .shr (.t 12) (.c (.i .u64 8))⟩,
  ⟨(some 14), none, .conv .u8 (.t 13)⟩,
  ⟨(some 15), none, .mv (.t 1)⟩,
  ⟨(some 16), none, .conv .u8 (.t 15)⟩,
  ⟨(some 17), none, .bsl 1 [.i .u8 0, .i .u8 0, .i .u8 0, .i .u8 0] [(0, 1, (.t 8)), (1, 1, (.t 11)), (2, 1, (.t 14)), (3, 1, (.t 16))]⟩,
  ⟨(some 18), none, .app 1 1 (.t 5) (.t 17)⟩,
  ⟨(some 4), none, .mv (.t 18)⟩]
abbrev c34 : AC := (.seq (.reg c34r0) (.seq (.reg c34r1) .ret))
def q34 : List ARes := [.t 4]
theorem fn34 : fnOf Try.prog 34 = some (c34, q34, 19) := by kernel_rfl
/-! 35: slices.Clone[[]byte,byte] · slots 8 · [0 s, 1 s] -/
def c35r0 : List AOper := [
  ⟨(some 2), none, .mv (.c (.sl 0 0 0 0))⟩]
def c35r1 : List AOper := [
  ⟨(some 3), none, .mv (.t 0)⟩,
  ⟨(some 4), none, .eqz false (.t 3)⟩]
def c35r2 : List AOper := [
  ⟨(some 2), none, .mv (.c (.sl 0 0 0 0))⟩]
def c35r3 : List AOper := [
  ⟨(some 5), none, .bsl 1 [] []⟩,
  ⟨(some 6), none, .mv (.t 0)⟩,
  ⟨(some 7), none, .app 1 1 (.t 5) (.t 6)⟩,
  ⟨(some 2), none, .mv (.t 7)⟩]
abbrev c35 : AC := (.seq (.reg c35r0) (.seq (.seq (.reg c35r1) (.cond (.t 4) (.seq (.reg c35r2) .ret) .skip)) (.seq (.reg c35r3) .ret)))
def q35 : List ARes := [.t 2]
theorem fn35 : fnOf Try.prog 35 = some (c35, q35, 8) := by kernel_rfl
/-! 43: pantoscope/ledger.value · slots 25 · [0 b, 1 b] -/
def c43r0 : List AOper := [
  ⟨(some 2), none, .mv (.c (.i .i64 0))⟩]
def c43r1 : List AOper := [
  ⟨(some 3), none, .mv (.t 0)⟩,
  ⟨(some 4), none, .ia 1 (.t 3) (.c (.i .i64 0))⟩,
  ⟨(some 5), none, .ld none (.t 4)⟩,
  ⟨(some 6), none, .conv .i64 (.t 5)⟩,
  ⟨(some 7), none, .bin false .shl (.t 6) (.c (.i .u64 24))⟩,
  ⟨(some 8), none, .mv (.t 0)⟩,
  ⟨(some 9), none, .ia 1 (.t 8) (.c (.i .i64 1))⟩,
  ⟨(some 10), none, .ld none (.t 9)⟩,
  ⟨(some 11), none, .conv .i64 (.t 10)⟩,
  ⟨(some 12), none, .bin false .shl (.t 11) (.c (.i .u64 16))⟩,
  ⟨(some 13), none, .bin false .or (.t 7) (.t 12)⟩,
  ⟨(some 14), none, .mv (.t 0)⟩,
  ⟨(some 15), none, .ia 1 (.t 14) (.c (.i .i64 2))⟩,
  ⟨(some 16), none, .ld none (.t 15)⟩,
  ⟨(some 17), none, .conv .i64 (.t 16)⟩,
  ⟨(some 18), none, .bin false .shl (.t 17) (.c (.i .u64 8))⟩,
  ⟨(some 19), none, .bin false .or (.t 13) (.t 18)⟩,
  ⟨(some 20), none, .mv (.t 0)⟩,
  ⟨(some 21), none, .ia 1 (.t 20) (.c (.i .i64 3))⟩,
  ⟨(some 22), none, .ld none (.t 21)⟩,
  ⟨(some 23), none, .conv .i64 (.t 22)⟩,
  ⟨(some 24), none, .bin false .or (.t 19) (.t 23)⟩,
  ⟨(some 2), none, .mv (.t 24)⟩]
abbrev c43 : AC := (.seq (.reg c43r0) (.seq (.head 21 c43r1) .ret))
def q43 : List ARes := [.t 2]
theorem fn43 : fnOf Try.prog 43 = some (c43, q43, 25) := by kernel_rfl
end Go.Proofs.Ytpleibjbfohenaa
set_option linter.unusedVariables false
set_option linter.unusedSimpArgs false
namespace Go.Am
theorem okG_hb {P : Program} {tok tok' : Nat} {hb hb' : AH} {o : AOper} (hv : o.op.isVal = true) {st : St} {h : AH} {v : AV} (e : okG P tok hb o st h v none) : okG P tok' hb' o st h v none := by
  unfold okG at *
  cases hg : o.g with
  | none => simp only [hg] at e ⊢; cases hop : o.op <;> simp only [hop, AOp.isVal, Bool.false_eq_true] at hv <;> simp only [hop, okA, AOp.isAl, if_true, if_false, Bool.false_eq_true] at e ⊢ <;> exact e
  | some sw =>
    obtain ⟨s, want⟩ := sw
    simp only [hg] at e ⊢
    split at e
    · cases hop : o.op <;> simp only [hop, AOp.isVal, Bool.false_eq_true] at hv <;> simp only [hop, okC, AOp.isVal, if_true, if_false, Bool.false_eq_true] at e ⊢ <;> exact e
    · exact e.elim
theorem val_cal {o : AOp} (h : o.isVal = true) : o.cal = false := by cases o <;> simp [AOp.isVal, AOp.cal] at h ⊢
/-- one operation that is a value, reckoned -/
theorem okG_stepU {P : Program} {tok tok' : Nat} {hb : AH} {o : AOper} (hv : o.op.isVal = true) {st st' : St} {h h' : AH} (e : stepU tok o st h = some (st', h')) : ∃ v, st' = put o.d v st ∧ h' = h ∧ okG P tok' hb o st h v none := by
  obtain ⟨d, og, op⟩ := o
  cases og with
  | none =>
    simp only [stepU] at e
    cases op <;> simp only [AOp.isVal, Bool.false_eq_true] at hv <;> simp only [stepA, AOp.isAl, if_false, Bool.false_eq_true, Option.map_eq_some_iff, Prod.mk.injEq] at e <;>
      (obtain ⟨v, hv, rfl, rfl⟩ := e; refine ⟨v, rfl, rfl, ?_⟩; simp only [okG, okA, AOp.isAl, if_false, Bool.false_eq_true]; exact ⟨trivial, hv⟩)
  | some sw =>
    obtain ⟨s, want⟩ := sw
    simp only [stepU] at e
    cases hq : guardOf (st.get s) want with
    | none => simp only [hq, reduceCtorEq] at e
    | some g =>
      simp only [hq] at e
      simp only at hv
      rw [if_pos hv] at e
      cases g with
      | true =>
        simp only [if_true, Option.map_eq_some_iff, Prod.mk.injEq] at e
        obtain ⟨v, hv1, rfl, rfl⟩ := e
        refine ⟨_, rfl, rfl, ?_⟩
        simp only [okG, hq]
        cases op <;> simp only [AOp.isVal, Bool.false_eq_true] at hv <;> simp only [okC, AOp.isVal, if_true] <;> exact ⟨trivial, _, rfl, fun _ => hv1⟩
      | false =>
        simp only [if_false, Bool.false_eq_true, Option.some.injEq, Prod.mk.injEq] at e
        obtain ⟨rfl, rfl⟩ := e
        refine ⟨_, rfl, rfl, ?_⟩
        simp only [okG, hq]
        cases op <;> simp only [AOp.isVal, Bool.false_eq_true] at hv <;> simp only [okC, AOp.isVal, if_true] <;> exact ⟨trivial, _, rfl, fun q => nomatch q⟩
/-- values and calls, one behind the other; hT: what is read; H: what is known of the heap -/
def evLt (P : Program) (hT : AH) : List AOper → St → (AH → Prop) → (St → (AH → Prop) → Prop) → Prop
  | [], st, H, K => K st H
  | o :: os, st, H, K =>
    (o.op.isVal = true ∧ ∃ v, okG P 0 hT o st hT v none ∧ evLt P hT os (put o.d v st) H K) ∨
    (o.g = none ∧ ∃ f args fid fst caps v H', o.op = .call f args ∧ f.val st = .fn fid fst caps ∧ (∀ h, H h → ACalls P fid (fst ++ args.map (AX.val st) ++ caps) h fun r h' => r = v ∧ H' h') ∧
      (∀ h, H' h → ∀ t c, hT.m t = some c → h.m t = some c) ∧ evLt P hT os (put o.d v st) H' K)
/-- a value, or a call without guard -/
def AOper.lt (o : AOper) : Bool := o.op.isVal || (o.op.cal && o.g.isNone)
section
variable {P : Program} {N : Nat} {Q : Exit → St → AH → Prop} {st0 : St} {h0 hT : AH} {w0 : World} {ι0 : Inj} {base : Nat} {ops : Array Oper} {aops : List AOper} {dep : Nat → Nat → Prop} {m : Nat}
/-- what is known of a call in a head -/
structure LtC (P : Program) (aops : List AOper) (st0 : St) (ρ : Nat → AV) (HH : Nat → AH → Prop) (j : Nat) (ao : AOper) : Prop where
  g : ao.g = none
  c : ∃ f args fid fst caps, ao.op = .call f args ∧ f.val (stD aops ρ st0 full j) = .fn fid fst caps ∧ ∀ h, HH j h → ACalls P fid (fst ++ args.map (AX.val (stD aops ρ st0 full j)) ++ caps) h fun r h' => r = ρ j ∧ HH (j + 1) h'
/-- What the operations yield, one behind the other. -/
theorem lt_ok (hm : m ≤ aops.length) {K : St → (AH → Prop) → Prop} : ∀ (k i : Nat), i + k = m → ∀ (ρ0 : Nat → AV) (H0 : Nat → AH → Prop), (∀ h, H0 i h → ∀ t c, hT.m t = some c → h.m t = some c) →
    evLt P hT ((aops.drop i).take k) (stD aops ρ0 st0 full i) (H0 i) K →
    ∃ ρ HH, (∀ j, j < i → ρ j = ρ0 j) ∧ (∀ j, j ≤ i → HH j = H0 j) ∧
      (∀ j ao, i ≤ j → j < m → aops[j]? = some ao → (ao.op.isVal = true ∧ HH (j + 1) = HH j ∧ okG P 0 hT ao (stD aops ρ st0 full j) hT (ρ j) none) ∨ LtC P aops st0 ρ HH j ao) ∧
      (∀ j, i ≤ j → j ≤ m → ∀ h, HH j h → ∀ t c, hT.m t = some c → h.m t = some c) ∧ K (stD aops ρ st0 full m) (HH m)
  | 0, i, hi, ρ0, H0, hs, e => by
    simp only [List.take_zero, evLt] at e
    have : i = m := by omega
    subst this
    exact ⟨ρ0, H0, fun _ _ => rfl, fun _ _ => rfl, fun j ao h1 h2 => by omega, fun j h1 h2 => by (obtain rfl : j = i := (by omega)); exact hs, e⟩
  | k + 1, i, hi, ρ0, H0, hs, e => by
    have hlt : i < aops.length := by omega
    rw [List.drop_eq_getElem_cons hlt, List.take_succ_cons] at e
    have step : ∀ (v : AV) (H1 : AH → Prop), (∀ h, H1 h → ∀ t c, hT.m t = some c → h.m t = some c) → evLt P hT ((aops.drop (i + 1)).take k) (put aops[i].d v (stD aops ρ0 st0 full i)) H1 K →
        ((aops[i].op.isVal = true ∧ H1 = H0 i ∧ okG P 0 hT aops[i] (stD aops ρ0 st0 full i) hT v none) ∨ LtC P aops st0 (fun j => if j = i then v else ρ0 j) (fun j => if j = i + 1 then H1 else H0 j) i aops[i]) →
        ∃ ρ HH, (∀ j, j < i → ρ j = ρ0 j) ∧ (∀ j, j ≤ i → HH j = H0 j) ∧
          (∀ j ao, i ≤ j → j < m → aops[j]? = some ao → (ao.op.isVal = true ∧ HH (j + 1) = HH j ∧ okG P 0 hT ao (stD aops ρ st0 full j) hT (ρ j) none) ∨ LtC P aops st0 ρ HH j ao) ∧
          (∀ j, i ≤ j → j ≤ m → ∀ h, HH j h → ∀ t c, hT.m t = some c → h.m t = some c) ∧ K (stD aops ρ st0 full m) (HH m) := by
      intro v H1 hs1 e1 hone
      let ρ1 : Nat → AV := fun j => if j = i then v else ρ0 j
      let G1 : Nat → AH → Prop := fun j => if j = i + 1 then H1 else H0 j
      have low1 : ∀ j, j < i → ρ1 j = ρ0 j := fun j hj => by (have : j ≠ i := (by omega)); simp [ρ1, this]
      have e2 : stD aops ρ1 st0 full (i + 1) = put aops[i].d v (stD aops ρ0 st0 full i) := by
        simp only [stD, full, if_true, List.getElem?_eq_getElem hlt, Option.bind_some]
        rw [stD_congr (ρ := ρ1) (ρ' := ρ0) (D := full) (D' := full) fun j hj => ⟨low1 j hj, rfl⟩]
        simp [ρ1]
      obtain ⟨ρ, HH, q1, q2, q3, q4, q5⟩ := lt_ok hm k (i + 1) (by omega) ρ1 G1 (by simpa [G1] using hs1) (by rw [e2]; simpa [G1] using e1)
      have hρi : ρ i = v := by rw [q1 i (by omega)]; simp [ρ1]
      have hst : stD aops ρ st0 full i = stD aops ρ0 st0 full i := stD_congr fun j hj => ⟨(q1 j (by omega)).trans (low1 j hj), rfl⟩
      have hG : HH (i + 1) = H1 := by rw [q2 (i + 1) (Nat.le_refl _)]; simp [G1]
      have hGi : HH i = H0 i := by rw [q2 i (by omega)]; simp [G1]
      refine ⟨ρ, HH, fun j hj => (q1 j (by omega)).trans (low1 j hj), fun j hj => by rw [q2 j (by omega)]; (have : j ≠ i + 1 := (by omega)); simp [G1, this], fun j ao hij hjm hao => ?_, fun j hij hjm => ?_, q5⟩
      · by_cases hji : j = i
        · subst hji
          have hao' : aops[j] = ao := by rw [List.getElem?_eq_getElem hlt] at hao; simpa using hao
          rw [hao'] at hone
          rcases hone with ⟨h1, h2, h3⟩ | h1
          · exact .inl ⟨h1, by rw [hG, hGi]; exact h2, by rw [hst, hρi]; exact h3⟩
          · refine .inr ⟨h1.g, ?_⟩
            obtain ⟨f, args, fid, fst, caps, c1, c2, c3⟩ := h1.c
            have e3 : stD aops (fun j' => if j' = j then v else ρ0 j') st0 full j = stD aops ρ st0 full j := stD_congr fun l hl => ⟨(q1 l (by omega)).symm, rfl⟩
            rw [e3] at c2 c3
            refine ⟨f, args, fid, fst, caps, c1, c2, fun h hh => ?_⟩
            rw [hρi, hG]
            have := c3 h (by rw [hGi] at hh; simpa using hh)
            simpa using this
        · exact q3 j ao (by omega) hjm hao
      · by_cases hji : j = i
        · subst hji; rw [hGi]; exact hs
        · exact q4 j (by omega) hjm
    simp only [evLt] at e
    rcases e with ⟨hv, v, hok, e⟩ | ⟨hg, f, args, fid, fst, caps, v, H', hop, hf, hc, hs', e⟩
    · exact step v (H0 i) hs e (.inl ⟨hv, rfl, hok⟩)
    · refine step v H' hs' e (.inr ⟨hg, f, args, fid, fst, caps, hop, ?_, ?_⟩)
      · rw [stD_congr (ρ' := ρ0) (D' := full) fun l hl => ⟨if_neg (by omega), rfl⟩]; exact hf
      · intro h hh
        rw [stD_congr (ρ' := ρ0) (D' := full) fun l hl => ⟨if_neg (by omega), rfl⟩]
        have := hc h (by simpa using hh)
        simpa using this
variable {QQ : Exit → Act → World → Prop} {K : St → AH → Prop}
theorem late_wpAny (H : HeadOK ops aops dep m) (hof : opersOf P N ops = some aops) (hmn : m ≤ ops.size) (hna : ∀ b, aops[m]? = some b → b.app1 = false)
    (hK : ∀ st h ι a w, K st h → ARel N ι st a → WRel ι h w → Ext ι0 h0 w0 ι h w → QQ .normal a w) {ρ : Nat → AV} {HH : Nat → AH → Prop}
    (hok : ∀ j ao, j < m → aops[j]? = some ao → (ao.op.isVal = true ∧ HH (j + 1) = HH j ∧ okG P 0 hT ao (stD aops ρ st0 full j) hT (ρ j) none) ∨ LtC P aops st0 ρ HH j ao)
    (hsub : ∀ j, j ≤ m → ∀ h, HH j h → ∀ t c, hT.m t = some c → h.m t = some c)
    (htail : ∀ h, HH m h → evOps P base (aops.drop m) m (stD aops ρ st0 full m) h K) :
    ∀ (fuel : Nat) (listed : Array Bool) (a : Act) (w : World) (ι : Inj) (h : AH) (n : Nat), cnt (lst listed) ops.size + fuel = ops.size → listed.size = ops.size → Closed ops (lst listed) → (∀ j, lst listed j = true → j < m) →
      n ≤ m → (∀ j ao, j < m → aops[j]? = some ao → ao.op.cal = true → (lst listed j = true ↔ j < n)) → HH n h →
      Inv N ι0 h0 w0 base ops.size (fun j => lst listed j = false) (stD aops ρ st0 (lst listed) m) h a w ι → wpAny P .any ops QQ fuel listed a w := by
  obtain ⟨hlen, hget⟩ := opersOf_spec hof
  have hcal : ∀ {j : Nat} {ao : AOper}, j < m → aops[j]? = some ao → ao.op.cal = false → HH (j + 1) = HH j := fun {j ao} hj ha hc => by
    rcases hok j ao hj ha with q | q
    · exact q.2.1
    · obtain ⟨f, args, _, _, _, e, _⟩ := q.c
      rw [e] at hc; cases hc
  -- no call from n up to i
  have same : ∀ (n i : Nat), n ≤ i → i ≤ m → (∀ j ao, n ≤ j → j < i → aops[j]? = some ao → ao.op.cal = false) → HH i = HH n := by
    intro n i hni
    induction i with
    | zero => intro _ _; have : n = 0 := by omega
              subst this; rfl
    | succ i ih =>
      intro him hc
      by_cases e : n = i + 1
      · subst e; rfl
      · have hai : aops[i]? = some aops[i] := List.getElem?_eq_getElem (by omega)
        rw [hcal (by omega) hai (hc i _ (by omega) (by omega) hai)]
        exact ih (by omega) (by omega) fun j ao h1 h2 => hc j ao h1 (by omega)
  have finish : ∀ (fuel : Nat) (listed : Array Bool) (a : Act) (w : World) (ι : Inj) (h : AH) (n : Nat), cnt (lst listed) ops.size + fuel = ops.size → listed.size = ops.size → (∀ j, lst listed j = true → j < m) → n ≤ m →
      (∀ j ao, j < m → aops[j]? = some ao → ao.op.cal = true → (lst listed j = true ↔ j < n)) → HH n h → Inv N ι0 h0 w0 base ops.size (fun j => lst listed j = false) (stD aops ρ st0 (lst listed) m) h a w ι →
      (∀ k, k < m → lst listed k = true) → wpAny P .any ops QQ fuel listed a w := by
    intro fuel listed a w ι h n hc hs hlm hn hcl hh I hbelow
    have e1 : stD aops ρ st0 (lst listed) m = stD aops ρ st0 full m := stD_congr fun j hj => ⟨rfl, hbelow j hj⟩
    rw [e1] at I
    have hcnt : cnt (lst listed) ops.size = m := by
      have : ∀ k, k ≤ ops.size → cnt (lst listed) k = min k m := by
        intro k
        induction k with
        | zero => intro _; simp [cnt]
        | succ k ihk =>
          intro hk
          simp only [cnt, ihk (by omega)]
          by_cases hki : k < m
          · rw [if_pos (hbelow k hki)]; omega
          · rw [if_neg (fun hq => hki (hlm k hq))]; omega
      have := this ops.size (Nat.le_refl _)
      omega
    have hm : HH m h := by
      rw [same n m hn (Nat.le_refl _) fun j ao h1 h2 hao => by
        cases q : ao.op.cal with
        | false => rfl
        | true => have := (hcl j ao h2 hao q).1 (hbelow j h2); omega]
      exact hh
    exact tail_wpAny H hof hK fuel listed a w m _ _ ι (by omega) (Nat.le_refl _) hs (fun j => ⟨hlm j, hbelow j⟩)
      ⟨I.ar, I.wr, I.ex, fun j hj hf => I.fr j hj (by cases hq : lst listed j with | false => rfl | true => have := hlm j hq; omega), I.nx, I.b0, I.b1⟩ (htail h hm)
  intro fuel
  induction fuel with
  | zero =>
    intro listed a w ι h n hc hs hcl hlm hn hcc hh I
    have hall := cnt_all (D := lst listed) (k := ops.size) (by omega)
    exact finish 0 listed a w ι h n hc hs hlm hn hcc hh I fun k hk => hall k (by omega)
  | succ fuel ih =>
    intro listed a w ι h n hc hs hcl hlm hn hcc hh I
    have hin : ∀ j, lst listed j = true → j < ops.size := fun j hj => lst_lt hs hj
    by_cases hbelow : ∀ k, k < m → lst listed k = true
    · exact finish (fuel + 1) listed a w ι h n hc hs hlm hn hcc hh I hbelow
    refine ⟨fun hr => ?_, fun i hi => ?_⟩
    · exact absurd (fun k hk => ready_nil H hs hr k (by omega)) hbelow
    · obtain ⟨h1, h2, h3⟩ := ready_spec hs hi
      have hdeps : ∀ k, dep k i → lst listed k = true := by
        intro k hk
        obtain ⟨e', he', hb', hor⟩ := H.c2 i ops[i] k (by simp [h1]) hk
        have hle := h3 _ e' (by simp [h1]) he' hb'
        rcases hor with hor | hor
        · rw [← hor]; exact hle
        · exact closed_dep H hcl hin _ _ hle hor
      have him : i < m := by
        refine Classical.byContradiction fun him => hbelow fun k hk => ?_
        rcases H.c4 k i (by omega) h1 (by omega) with q | ⟨q, _, b, hb, hb1⟩
        · exact hdeps k q
        · subst q; rw [hna b hb] at hb1; cases hb1
      obtain ⟨ao, hao, hofo, hd, hdN, hgN⟩ := hget i ops[i] (by simp [h1])
      have hset := lst_set (listed := listed) (i := i) (by omega)
      have slots : ∀ x ∈ ao.reads, (stD aops ρ st0 full i).get x = (stD aops ρ st0 (lst listed) m).get x := fun x hx => (slots_same H hlen hcl hin hao him h2 hdeps hx).symm
      have next : ∀ (n' : Nat) (h' : AH) (a' : Act) (w' : World) (ι' : Inj), n' ≤ m → (∀ j ao, j < m → aops[j]? = some ao → ao.op.cal = true → ((lst listed j || j == i) = true ↔ j < n')) → HH n' h' →
          Inv N ι0 h0 w0 base ops.size (fun j => lst listed j = false ∧ ¬ j = i) (put ao.d (ρ i) (stD aops ρ st0 (lst listed) m)) h' a' w' ι' → wpAny P .any ops QQ fuel (listed.setIfInBounds i true) a' w' := by
        intro n' h' a' w' ι' hn' hcc' hh' I'
        refine ih (listed.setIfInBounds i true) a' w' ι' h' n' ?_ (by simpa using hs) ?_ ?_ hn' (fun j aj hj ha hca => by rw [hset]; exact hcc' j aj hj ha hca) hh' ?_
        · rw [hset, cnt_insert h2 h1]; omega
        · rw [hset]
          intro j o e hj ho he hb'
          simp only [Bool.or_eq_true, beq_iff_eq] at hj ⊢
          rcases hj with hj | rfl
          · exact .inl (hcl j o e hj ho he hb')
          · exact .inl (h3 o e ho he hb')
        · rw [hset]
          intro j hj
          simp only [Bool.or_eq_true, beq_iff_eq] at hj
          rcases hj with hj | rfl
          · exact hlm j hj
          · exact him
        · rw [hset]
          refine ⟨⟨I'.ar.size, I'.ar.defs, fun x => ?_⟩, I'.wr, I'.ex, fun j hj hf => ?_, I'.nx, I'.b0, I'.b1⟩
          · rw [stD_insert H hcl hin hao him h2]
            exact I'.ar.slot x
          · simp only [Bool.or_eq_false_iff, beq_eq_false_iff_ne] at hf
            exact I'.fr j hj ⟨hf.1, hf.2⟩
      rcases hok i ao him hao with ⟨q1, q2, q3⟩ | q
      · have hmove : okG P (base + i) h ao (stD aops ρ st0 (lst listed) m) h (ρ i) none := okG_move slots (fun _ x t _ _ c hr => hsub n hn h hh t c hr) (okG_hb q1 q3)
        have hev := okG_ev (fun hc => by rw [val_cal q1] at hc; cases hc) rfl hmove
        refine wpOp_mono ?_ (evG_wpOp (o := ops[i]) (by simp [h1]) hofo hdN hgN h1 h2 I hev)
        rintro a' w' ⟨st', h', ι', ⟨rfl, rfl⟩, I'⟩
        refine next n _ a' w' ι' hn (fun j aj hj ha hca => ?_) hh I'
        have : j ≠ i := fun e => by subst e; rw [hao] at ha; cases ha; rw [val_cal q1] at hca; cases hca
        rw [Bool.or_eq_true, beq_iff_eq, hcc j aj hj ha hca]
        exact ⟨fun z => z.resolve_right this, .inl⟩
      · obtain ⟨f, args, fid, fst, caps, c1, c2, c3⟩ := q.c
        have hca : ao.op.cal = true := by rw [c1]; rfl
        have hni : n ≤ i := by
          refine Classical.byContradiction fun z => ?_
          rw [(hcc i ao him hao hca).2 (by omega)] at h2; cases h2
        have hcb : ∀ j aj, j < i → aops[j]? = some aj → aj.op.cal = true → lst listed j = true := fun j aj hj ha hc' => hdeps j (H.c9 j i aj ao hj him ha hao hc' hca)
        have hHi : HH i h := by
          rw [same n i hni (by omega) fun j aj hj1 hj2 ha => by
            cases z : aj.op.cal with
            | false => rfl
            | true => have := (hcc j aj (by omega) ha z).1 (hcb j aj hj2 ha z); omega]
          exact hh
        have vals : ∀ x ∈ ao.op.xs, x.val (stD aops ρ st0 full i) = x.val (stD aops ρ st0 (lst listed) m) := fun x hx => by
          cases x with
          | c v => rfl
          | t k => exact slots k (by unfold AOper.reads; exact List.mem_append_left _ (List.mem_filterMap.2 ⟨.t k, hx, rfl⟩))
        rw [c1] at vals
        have hev : evG P (base + i) ao (stD aops ρ st0 (lst listed) m) h fun st' h' => st' = put ao.d (ρ i) (stD aops ρ st0 (lst listed) m) ∧ HH (i + 1) h' := by
          unfold evG
          rw [q.g, c1]
          simp only [evA]
          rw [← vals f (by simp [AOp.xs]), c2]
          simp only []
          rw [← List.map_congr_left (f := AX.val (stD aops ρ st0 full i)) fun y hy => vals y (by simp [AOp.xs, hy])]
          exact .inl ((c3 h hHi).mono fun r h' ⟨hr, hh'⟩ => ⟨by rw [hr], hh'⟩)
        refine wpOp_mono ?_ (evG_wpOp (o := ops[i]) (by simp [h1]) hofo hdN hgN h1 h2 I hev)
        rintro a' w' ⟨st', h', ι', ⟨rfl, hh'⟩, I'⟩
        refine next (i + 1) h' a' w' ι' (by omega) (fun j aj hj ha hc' => ?_) hh' I'
        rw [Bool.or_eq_true, beq_iff_eq]
        constructor
        · rintro (z | z)
          · have := (hcc j aj hj ha hc').1 z; omega
          · omega
        · intro z
          by_cases e : j = i
          · exact .inr e
          · exact .inl (hcb j aj (by omega) ha hc')
/-- A REGION THAT DRAWS ITS ORDER, WITH CALLS THAT WRITE. -/
theorem awp_late {id : Nat} {st : St} {h : AH} (hmix : P.follows .mixedOrders = true) (hof : opersOf P N ops = some aops) (H : HeadOK ops aops dep m) (hmn : m ≤ ops.size) (hna : ∀ b, aops[m]? = some b → b.app1 = false)
    (hT0 : ∀ t c, hT.m t = some c → h.m t = some c)
    (e : evLt P hT (aops.take m) st (fun x => x = { h with nx := h.nx + aops.length }) fun st' H' => ∀ h', H' h' → evOps P h.nx (aops.drop m) m st' h' fun st h => Q .normal st h) :
    Awp P N (.region id ops true) Q st h := fun ι a w ar wr => by
  obtain ⟨hlen, _⟩ := opersOf_spec hof
  refine wp_region_any hmix ?_
  obtain ⟨ρ, HH, _, hH0, hok, hsub, htail⟩ := lt_ok (P := P) (aops := aops) (st0 := st) (hT := hT) (m := m) (by omega) m 0 (by omega) (fun _ => .un) (fun _ x => x = { h with nx := h.nx + aops.length }) (by rintro h' rfl t c q; exact hT0 t c q) (by simpa [stD] using e)
  have hfalse : lst (Array.replicate ops.size false) = fun _ => false := by
    funext j
    unfold lst
    rw [Array.getD_eq_getD_getElem?]
    by_cases hj : j < ops.size
    · simp [hj]
    · rw [Array.getElem?_eq_none (by simp; omega)]; rfl
  have hst : stD aops ρ st (fun _ => false) m = st := by
    have : ∀ k, stD aops ρ st (fun _ => false) k = st := by
      intro k; induction k with
      | zero => rfl
      | succ k ih => simp [stD, ih]
    exact this m
  refine late_wpAny (ι0 := ι) (h0 := h) (w0 := w) (base := h.nx) (st0 := st) (hT := hT) (K := fun st h => Q .normal st h) H hof hmn hna (fun st' h' ι' a' w' k ar' wr' x => ⟨st', h', ι', k, ar', wr', x⟩) (ρ := ρ) (HH := HH)
    (fun j ao hj hao => hok j ao (Nat.zero_le _) hj hao) (fun j hj => hsub j (Nat.zero_le _) hj) htail ops.size _ a _ ι { h with nx := h.nx + aops.length } 0 ?_ (by simp) ?_ ?_ (Nat.zero_le _) (fun j ao hj hao hc => ?_) ?_ ?_
  · rw [hfalse]
    have : ∀ k, cnt (fun _ => false) k = 0 := by
      intro k; induction k with
      | zero => rfl
      | succ k ih => simp [cnt, ih]
    rw [this]; omega
  · rw [hfalse]; intro j o e' hj; cases hj
  · rw [hfalse]; intro j hj; cases hj
  · rw [hfalse]; simp
  · rw [hH0 0 (Nat.le_refl _)]
  · rw [hfalse, hst]
    refine ⟨ar, (wr.bump _).drew, ((Ext.refl ι h w).bump _).drew, fun j hj hf => ?_, by simp [hlen], Nat.le_refl _, wr.pos⟩
    cases hq : ι (h.nx + j) with
    | none => rfl
    | some l => have := (wr.lt _ l hq).1; omega
end
section
variable {P : Program} {N : Nat} {Q : Exit → St → AH → Prop} {K : St → AH → Prop} {st : St} {h : AH}
/-- hT: a part of the heap that none of the calls writes; all that is read besides lies there -/
theorem k_headL {m : Nat} {ops : List AOper} (hT : AH) (hna : (match ops[m]? with | some b => b.app1 | none => false) = false) (hT0 : ∀ t c, hT.m t = some c → h.m t = some c)
    (e : evLt P hT (ops.take m) st (fun x => x = h.bump ops.length) fun st' H' => ∀ h', H' h' → evOps P h.nx (ops.drop m) m st' h' K) : W P N (.head m ops) (athen K Q) st h := fun c hc => by
  cases hc with
  | head hl hm hh =>
    obtain ⟨H, hmn⟩ := headB_spec hh
    exact awp_late hm hl H hmn (fun b hb => by rw [hb] at hna; exact hna) hT0 e
/-- values up to the next call -/
def evLR (P : Program) (hT : AH) : Res → (AH → Prop) → (St → (AH → Prop) → Prop) → Prop
  | .done st h, H, K => K st H
  | .call o os i st h, H, K => evLt P hT (o :: os) st H K
  | .bad, _, _ => False
theorem lt_go {hT : AH} {R : Res} {H : AH → Prop} {K : St → (AH → Prop) → Prop} : ∀ {ops : List AOper} (hv : ops.all AOper.lt = true) {i : Nat} {st : St} (e : runS true 0 ops i (some (st, hT)) = R) (k : evLR P hT R H K), evLt P hT ops st H K
  | [], _, i, st, e, k => by simp only [runS] at e; subst e; exact k
  | o :: os, hv, i, st, e, k => by
    simp only [runS] at e
    simp only [List.all_cons, Bool.and_eq_true] at hv
    split at e
    · subst e; exact k
    · rename_i hc
      have hval : o.op.isVal = true := by
        have h1 := hv.1
        unfold AOper.lt at h1
        simp only [Bool.or_eq_true, Bool.and_eq_true] at h1
        rcases h1 with h1 | ⟨h1, _⟩
        · exact h1
        · exfalso
          cases hop : o.op <;> simp [hop, AOp.cal] at h1
          simp [hop, AOp.isCall] at hc
      cases hs : stepU (0 + i) o st hT with
      | none => rw [hs, runS_none] at e; subst e; exact k.elim
      | some p =>
        obtain ⟨st1, h1⟩ := p
        rw [hs] at e
        obtain ⟨v, rfl, rfl, hok⟩ := okG_stepU (P := P) (tok' := 0) (hb := hT) hval hs
        simp only [evLt]
        exact .inl ⟨hval, v, hok, lt_go hv.2 e k⟩
theorem lt_call {hT : AH} {H : AH → Prop} {K : St → (AH → Prop) → Prop} {d : Option Nat} {f : AX} {args : List AX} {os : List AOper} {i fid : Nat} {fst caps az : List AV} (v : AV) (H' : AH → Prop) (hf : f.val st = .fn fid fst caps) (ha : fst ++ args.map (AX.val st) ++ caps = az)
    (c : ∀ h, H h → ACalls P fid az h fun r h' => r = v ∧ H' h') (hs : ∀ h, H' h → ∀ t c, hT.m t = some c → h.m t = some c) (k : evLt P hT os (put d v st) H' K) :
    evLR P hT (.call ⟨d, none, .call f args⟩ os i st h) H K := by
  subst ha
  exact .inr ⟨rfl, f, args, fid, fst, caps, v, H', rfl, hf, c, hs, k⟩
end
end Go.Am
set_option linter.unusedVariables false
set_option linter.unusedSimpArgs false
namespace Go.Am
/-- read alone: the result is a value, once what it holds is never written again -/
theorem pure_callF {P : Program} {f : Nat} {args : List AV} {h : AH} {R : AV → Prop} (c : ∀ h' : AH, (∀ t, h'.row t = h.row t) → h'.nx = h.nx → ACalls P f args h' fun r h'' => ∃ v, R v ∧ Ends v r h'') (hp : ∀ r, R r → r.plain = true) :
    ACalls P f args h fun r h' => R r ∧ h' = h :=
  pure_call (R := R) (fun h' hr hn => acalls_frz ((c h' hr hn).mono fun r h'' ⟨v, hv, h3, F⟩ => ⟨v, h3, F, hv⟩)) hp
theorem pure_callV {P : Program} {f : Nat} {args : List AV} {h : AH} {v : AV} (hp : v.plain = true) (c : ∀ h' : AH, (∀ t, h'.row t = h.row t) → h'.nx = h.nx → ACalls P f args h' (Ends v)) :
    ACalls P f args h fun r h' => r = v ∧ h' = h :=
  pure_callF (R := fun r => r = v) (fun h' hr hn => (c h' hr hn).mono fun r h'' e => ⟨v, rfl, e⟩) fun r e => by rw [e]; exact hp
/-- h' is h but for t, whose cells are cs; what is new lies behind -/
structure Upd (t : Nat) (cs : List AV) (h h' : AH) : Prop where
  m : h'.m t = some (.cells true cs)
  keep : ∀ s, s < h.nx → s ≠ t → h'.m s = h.m s
  nx : h.nx ≤ h'.nx
theorem Upd.ne {t : Nat} {cs : List AV} {h h' : AH} (u : Upd t cs h h') (ok : h.ok) {s : Nat} {b : Blk} (hs : h.m s = some b) (hn : s ≠ t) : h'.m s = some b := by rw [u.keep s (ok _ _ hs) hn]; exact hs
theorem Upd.refl {t : Nat} {cs : List AV} {h : AH} (hm : h.m t = some (.cells true cs)) : Upd t cs h h := ⟨hm, fun _ _ _ => rfl, Nat.le_refl _⟩
/-- two of them -/
structure Upd2 (t1 t2 : Nat) (c1 c2 : List AV) (h h' : AH) : Prop where
  m1 : h'.m t1 = some (.cells true c1)
  m2 : h'.m t2 = some (.cells true c2)
  keep : ∀ s, s < h.nx → s ≠ t1 → s ≠ t2 → h'.m s = h.m s
  nx : h.nx ≤ h'.nx
/-- what is owed at the end of a call that writes -/
def EndsW (v : AV) (R : AH → Prop) (r : AV) (h : AH) : Prop := ∃ h', FrzR h r h' v ∧ R h'
theorem w_fn {P : Program} {f : Nat} {ac : AC} {ars : List ARes} {N : Nat} (hf : fnOf P f = some (ac, ars, N)) {args : List AV} {h : AH} {v : AV} {R : AH → Prop} (hN : args.length ≤ N)
    (hw : h.ok → 0 < h.nx → W P N ac (athen (Post ars (EndsW v R)) (Fin (Post ars (EndsW v R)))) (initSt args) h) : ACalls P f args h fun r h' => r = v ∧ R h' :=
  acalls_frz ((a_fn hf hN hw).mono fun r h' ⟨h'', F, hR⟩ => ⟨v, h'', F, rfl, hR⟩)
theorem endsW {v : AV} {R : AH → Prop} {h : AH} (hR : R h) : EndsW v R v h := ⟨h, .done, hR⟩
theorem frz_ul {t a n : Nat} {bs : List Int} (h : n = bs.length) : FrzV t (ul bs) (.sl t 0 n a) (vu bs) := by
  have := @FrzV.sl t (ul bs) 0 n 1 a (by rw [ul_len]; omega)
  rw [List.drop_zero, Nat.mul_one, List.take_of_length_le (by rw [ul_len]; omega)] at this
  subst h; exact this
theorem set1_sub {h : AH} {t : Nat} {b : Blk} (hm : h.m t = some b) : ∀ s c, (H1.set t b).m s = some c → h.m s = some c := fun s c q => by
  unfold AH.set at q
  by_cases e : s = t
  · subst e; simp only [if_true] at q; rw [hm]; exact q
  · simp only [if_neg e] at q; cases q
end Go.Am
set_option linter.unusedVariables false
set_option linter.unusedSimpArgs false
namespace Go.Proofs.Ytpleibjbfohenaa
open Go Go.Am Go.Proofs
/-! ### Disks: plain -/
structure D where
  s0 : List Int
  s1 : List Int
  left : Int
  keep : Int
  life : Int
  off : Bool
def D0 : D := ⟨[], [], 0, 0, 0, false⟩
/-- the program's cells; the document's -/
def eI (d : D) : List AV := [vu d.s0, vu d.s1, .i .i64 d.left, .i .i64 d.keep, .b d.off, .b true, .i .i64 d.life]
def eF (d : D) : List AV := [vu d.s0, vu d.s1, .b d.off, .i .i64 d.left, .i .i64 d.keep, .i .i64 d.life]
def slotOf (d : D) (slot : Int) : List Int := if slot = 0 then d.s0 else d.s1
def putS (d : D) (slot : Int) (b : List Int) : D := if slot = 0 then { d with s0 := b } else { d with s1 := b }
/-- how much of what is written last is kept -/
def kp (keep : Int) (n : Nat) : Int := min (max keep 0) n
def wrD (d : D) (slot : Int) (b : List Int) : Int × D :=
  if d.off = true then (91, d)
  else if ¬ (slot = 0 ∨ slot = 1) then (2, d)
  else if 0 < d.left then
    if d.left - 1 = 0 then (91, { putS { d with left := 0 } slot (b.take (kp d.keep b.length).toNat) with off := true })
    else (0, putS { d with left := d.left - 1 } slot b)
  else (0, putS d slot b)
def rdD (d : D) (slot : Int) : List Int × Int :=
  if d.off = true then ([], 91) else if ¬ (slot = 0 ∨ slot = 1) then ([], 2) else (slotOf d slot, 0)
structure D.ok (d : D) : Prop where
  n0 : d.s0.length ≤ 100000000
  n1 : d.s1.length ≤ 100000000
  left : 0 ≤ d.left ∧ d.left ≤ 9223372036854775807
  b0 : ∀ x ∈ d.s0, 0 ≤ x ∧ x ≤ 255
  b1 : ∀ x ∈ d.s1, 0 ≤ x ∧ x ≤ 255
/-! ### Clones -/
theorem pc35 (bs : List Int) (hb : bs.length ≤ 100000000) : PC Try.prog 35 [vu bs] (vu bs) := by
  refine pc_fn fn35 (by simp only [AV.plains, AV.plain, il_plain, bl_plain, Bool.and_true, Bool.true_and, Bool.and_self, ul_plain]) (by simp only [AV.plains, AV.plain, il_plain, bl_plain, Bool.and_true, Bool.true_and, Bool.and_self, ul_plain]) (Nat.le_of_ble_eq_true rfl) ?_
  rw [initSt1]
  repeat' first
    | with_reducible refine k_seq ?_
    | with_reducible refine k_skip ?_
    | with_reducible refine k_blkS ?_
    | with_reducible refine k_blkR ?_
    | with_reducible refine k_blkC ?_
    | with_reducible refine k_blkH ?_
    | with_reducible refine k_blkB ?_
    | with_reducible refine k_blkK ?_
    | with_reducible refine k_blkE ?_
    | with_reducible refine k_reg ?_
    | with_reducible refine r_done ?_
    | with_reducible refine s_go (by simp (disch := omega) only [c35r0, c35r1, c35r2, c35r3, EV0, EV1, EV2, EV3, EV4, EV5, EV6, EV7, EV8, VALS, plug, ite_same, decide_true, decide_false, eq_self, ↓reduceIte, reduceCtorEq, Nat.reduceAdd, Nat.reduceEqDiff, Nat.reduceLT, Nat.reduceLeDiff, Nat.reduceMul, Nat.reduceSub, Nat.reduceDiv, Int.reduceToNat, Int.reduceAdd, Int.reduceSub, Int.reduceMul, Int.reduceNeg, Int.reduceEq, Int.reduceLT, Int.reduceLE]; with_reducible rfl) ?_
    | ((with_reducible refine chk_r ?_); refine r_callF (by simp only [CA, Nat.reduceEqDiff, ↓reduceIte]; rfl) (by exact rfl) (by simp only [CA, Nat.reduceEqDiff, ↓reduceIte]; rfl) rfl ?_)
    | ((with_reducible refine chk_r ?_); refine r_eqz (by simp only [CA, Nat.reduceEqDiff, ↓reduceIte]; rfl) rfl (fun hz b => ?_) (fun hz => ?_) <;> try (first | exact absurd rfl hz | exact absurd hz (by decide)))
    | ((with_reducible refine chk_r ?_); refine r_eqzv (by simp only [CA, Nat.reduceEqDiff, ↓reduceIte]; rfl) rfl (fun hz b => ?_) (fun hz => ?_) <;> try (first | exact absurd rfl hz | exact absurd hz (by decide)))
    | (with_reducible refine k_condP (by simp only [GA, Nat.reduceEqDiff, ↓reduceIte]; rfl) (by first | (simp only [BO]; rfl) | rfl) (fun ht => ?_) (fun ht => ?_) <;> try (first | exact False.elim ht | exact absurd rfl ht | exact absurd trivial ht | exact Bool.noConfusion ht))
    | (with_reducible refine k_ret ?_; repeat with_reducible (first | refine ret_thru ?_ | refine ret_blk ?_ | refine fin ?_))
    | (with_reducible refine k_exit ?_; repeat with_reducible (first | refine thru ?_ | refine out_blk ?_ | refine pass (by decide) ?_))
    | (refine post1 ?_; simp only [GA, Nat.reduceEqDiff, ↓reduceIte])
    | (refine post2 ?_; simp only [GA, Nat.reduceEqDiff, ↓reduceIte])
    | (refine post3 ?_; simp only [GA, Nat.reduceEqDiff, ↓reduceIte])
    | (refine postc (by simp only [GA, Nat.reduceEqDiff, ↓reduceIte]; rfl) (by simp (disch := omega) only [c35r0, c35r1, c35r2, c35r3, EV0, EV1, EV2, EV3, EV4, EV5, EV6, EV7, EV8, VALS, plug, ite_same, decide_true, decide_false, eq_self, ↓reduceIte, reduceCtorEq, Nat.reduceAdd, Nat.reduceEqDiff, Nat.reduceLT, Nat.reduceLeDiff, Nat.reduceMul, Nat.reduceSub, Nat.reduceDiv, Int.reduceToNat, Int.reduceAdd, Int.reduceSub, Int.reduceMul, Int.reduceNeg, Int.reduceEq, Int.reduceLT, Int.reduceLE]; rfl) ?_)
    | refine post0 ?_
  · have : bs = [] := List.length_eq_zero_iff.1 hz
    subst this
    exact ends_nil
  · refine ends_sl (k := 1) (cs := ul bs) ?_ (by rw [ul_len]; omega)
    simp (disch := omega) only [c35r0, c35r1, c35r2, c35r3, EV0, EV1, EV2, EV3, EV4, EV5, EV6, EV7, EV8, VALS, plug, ite_same, decide_true, decide_false, eq_self, ↓reduceIte, reduceCtorEq, Nat.reduceAdd, Nat.reduceEqDiff, Nat.reduceLT, Nat.reduceLeDiff, Nat.reduceMul, Nat.reduceSub, Nat.reduceDiv, Int.reduceToNat, Int.reduceAdd, Int.reduceSub, Int.reduceMul, Int.reduceNeg, Int.reduceEq, Int.reduceLT, Int.reduceLE]
  · refine ends_sl (k := 1) (cs := ul bs) ?_ (by rw [ul_len]; omega)
    simp (disch := omega) only [c35r0, c35r1, c35r2, c35r3, EV0, EV1, EV2, EV3, EV4, EV5, EV6, EV7, EV8, VALS, plug, ite_same, decide_true, decide_false, eq_self, ↓reduceIte, reduceCtorEq, Nat.reduceAdd, Nat.reduceEqDiff, Nat.reduceLT, Nat.reduceLeDiff, Nat.reduceMul, Nat.reduceSub, Nat.reduceDiv, Int.reduceToNat, Int.reduceAdd, Int.reduceSub, Int.reduceMul, Int.reduceNeg, Int.reduceEq, Int.reduceLT, Int.reduceLE]
/-- a row of bytes -/
theorem row35 (t o a : Nat) (bs : List Int) (cs : List AV) (hb : bs.length ≤ 100000000) (h : AH) (hm : h.row t = some cs) (hc : (cs.drop o).take bs.length = ul bs) (hl : o + bs.length ≤ cs.length) : ACalls Try.prog 35 [.sl t o bs.length a] h fun r h' => r = vu bs ∧ h' = h := by
  refine pure_callV (ul_plain _) fun h0 hr _ => ?_
  rw [← hr] at hm
  refine a_fn fn35 (by simp) fun ok pos => ?_
  have := ok.row hm
  rw [initSt1]
  by_cases h0 : bs.length = 0
  · have : bs = [] := List.length_eq_zero_iff.1 h0
    subst this
    repeat' first
      | with_reducible refine k_seq ?_
      | with_reducible refine k_skip ?_
      | with_reducible refine k_blkS ?_
      | with_reducible refine k_blkR ?_
      | with_reducible refine k_blkC ?_
      | with_reducible refine k_blkH ?_
      | with_reducible refine k_blkB ?_
      | with_reducible refine k_blkK ?_
      | with_reducible refine k_blkE ?_
      | with_reducible refine k_reg ?_
      | with_reducible refine r_done ?_
      | with_reducible refine s_go (by simp (disch := omega) only [c35r0, c35r1, c35r2, c35r3, EV0, EV1, EV2, EV3, EV4, EV5, EV6, EV7, EV8, VALS, plug, ite_same, decide_true, decide_false, eq_self, ↓reduceIte, reduceCtorEq, Nat.reduceAdd, Nat.reduceEqDiff, Nat.reduceLT, Nat.reduceLeDiff, Nat.reduceMul, Nat.reduceSub, Nat.reduceDiv, Int.reduceToNat, Int.reduceAdd, Int.reduceSub, Int.reduceMul, Int.reduceNeg, Int.reduceEq, Int.reduceLT, Int.reduceLE]; with_reducible rfl) ?_
      | ((with_reducible refine chk_r ?_); refine r_callF (by simp only [CA, Nat.reduceEqDiff, ↓reduceIte]; rfl) (by exact rfl) (by simp only [CA, Nat.reduceEqDiff, ↓reduceIte]; rfl) rfl ?_)
      | ((with_reducible refine chk_r ?_); refine r_eqz (by simp only [CA, Nat.reduceEqDiff, ↓reduceIte]; rfl) rfl (fun hz b => ?_) (fun hz => ?_) <;> try (first | exact absurd rfl hz | exact absurd hz (by decide)))
      | ((with_reducible refine chk_r ?_); refine r_eqzv (by simp only [CA, Nat.reduceEqDiff, ↓reduceIte]; rfl) rfl (fun hz b => ?_) (fun hz => ?_) <;> try (first | exact absurd rfl hz | exact absurd hz (by decide)))
      | (with_reducible refine k_condP (by simp only [GA, Nat.reduceEqDiff, ↓reduceIte]; rfl) (by first | (simp only [BO]; rfl) | rfl) (fun ht => ?_) (fun ht => ?_) <;> try (first | exact False.elim ht | exact absurd rfl ht | exact absurd trivial ht | exact Bool.noConfusion ht))
      | (with_reducible refine k_ret ?_; repeat with_reducible (first | refine ret_thru ?_ | refine ret_blk ?_ | refine fin ?_))
      | (with_reducible refine k_exit ?_; repeat with_reducible (first | refine thru ?_ | refine out_blk ?_ | refine pass (by decide) ?_))
      | (refine post1 ?_; simp only [GA, Nat.reduceEqDiff, ↓reduceIte])
      | (refine post2 ?_; simp only [GA, Nat.reduceEqDiff, ↓reduceIte])
      | (refine post3 ?_; simp only [GA, Nat.reduceEqDiff, ↓reduceIte])
      | (refine postc (by simp only [GA, Nat.reduceEqDiff, ↓reduceIte]; rfl) (by simp (disch := omega) only [c35r0, c35r1, c35r2, c35r3, EV0, EV1, EV2, EV3, EV4, EV5, EV6, EV7, EV8, VALS, plug, ite_same, decide_true, decide_false, eq_self, ↓reduceIte, reduceCtorEq, Nat.reduceAdd, Nat.reduceEqDiff, Nat.reduceLT, Nat.reduceLeDiff, Nat.reduceMul, Nat.reduceSub, Nat.reduceDiv, Int.reduceToNat, Int.reduceAdd, Int.reduceSub, Int.reduceMul, Int.reduceNeg, Int.reduceEq, Int.reduceLT, Int.reduceLE]; rfl) ?_)
      | refine post0 ?_
    all_goals first | exact ends_nil | (refine ends_sl (k := 1) (cs := ul []) ?_ rfl; simp (disch := omega) only [c35r0, c35r1, c35r2, c35r3, EV0, EV1, EV2, EV3, EV4, EV5, EV6, EV7, EV8, VALS, plug, ite_same, decide_true, decide_false, eq_self, ↓reduceIte, reduceCtorEq, Nat.reduceAdd, Nat.reduceEqDiff, Nat.reduceLT, Nat.reduceLeDiff, Nat.reduceMul, Nat.reduceSub, Nat.reduceDiv, Int.reduceToNat, Int.reduceAdd, Int.reduceSub, Int.reduceMul, Int.reduceNeg, Int.reduceEq, Int.reduceLT, Int.reduceLE])
  · repeat' first
      | with_reducible refine k_seq ?_
      | with_reducible refine k_skip ?_
      | with_reducible refine k_blkS ?_
      | with_reducible refine k_blkR ?_
      | with_reducible refine k_blkC ?_
      | with_reducible refine k_blkH ?_
      | with_reducible refine k_blkB ?_
      | with_reducible refine k_blkK ?_
      | with_reducible refine k_blkE ?_
      | with_reducible refine k_reg ?_
      | with_reducible refine r_done ?_
      | with_reducible refine s_go (by simp (disch := omega) only [hm, hc, hl, h0, c35r0, c35r1, c35r2, c35r3, EV0, EV1, EV2, EV3, EV4, EV5, EV6, EV7, EV8, VALS, plug, ite_same, decide_true, decide_false, eq_self, ↓reduceIte, reduceCtorEq, Nat.reduceAdd, Nat.reduceEqDiff, Nat.reduceLT, Nat.reduceLeDiff, Nat.reduceMul, Nat.reduceSub, Nat.reduceDiv, Int.reduceToNat, Int.reduceAdd, Int.reduceSub, Int.reduceMul, Int.reduceNeg, Int.reduceEq, Int.reduceLT, Int.reduceLE]; with_reducible rfl) ?_
      | ((with_reducible refine chk_r ?_); refine r_callF (by simp only [CA, Nat.reduceEqDiff, ↓reduceIte]; rfl) (by exact rfl) (by simp only [CA, Nat.reduceEqDiff, ↓reduceIte]; rfl) rfl ?_)
      | ((with_reducible refine chk_r ?_); refine r_eqz (by simp only [CA, Nat.reduceEqDiff, ↓reduceIte]; rfl) rfl (fun hz b => ?_) (fun hz => ?_) <;> try (first | exact absurd rfl hz | exact absurd hz (by decide)))
      | ((with_reducible refine chk_r ?_); refine r_eqzv (by simp only [CA, Nat.reduceEqDiff, ↓reduceIte]; rfl) rfl (fun hz b => ?_) (fun hz => ?_) <;> try (first | exact absurd rfl hz | exact absurd hz (by decide)))
      | (with_reducible refine k_condP (by simp only [GA, Nat.reduceEqDiff, ↓reduceIte]; rfl) (by first | (simp only [BO]; rfl) | rfl) (fun ht => ?_) (fun ht => ?_) <;> try (first | exact False.elim ht | exact absurd rfl ht | exact absurd trivial ht | exact Bool.noConfusion ht))
      | (with_reducible refine k_ret ?_; repeat with_reducible (first | refine ret_thru ?_ | refine ret_blk ?_ | refine fin ?_))
      | (with_reducible refine k_exit ?_; repeat with_reducible (first | refine thru ?_ | refine out_blk ?_ | refine pass (by decide) ?_))
      | (refine post1 ?_; simp only [GA, Nat.reduceEqDiff, ↓reduceIte])
      | (refine post2 ?_; simp only [GA, Nat.reduceEqDiff, ↓reduceIte])
      | (refine post3 ?_; simp only [GA, Nat.reduceEqDiff, ↓reduceIte])
      | (refine postc (by simp only [GA, Nat.reduceEqDiff, ↓reduceIte]; rfl) (by simp (disch := omega) only [hm, hc, hl, h0, c35r0, c35r1, c35r2, c35r3, EV0, EV1, EV2, EV3, EV4, EV5, EV6, EV7, EV8, VALS, plug, ite_same, decide_true, decide_false, eq_self, ↓reduceIte, reduceCtorEq, Nat.reduceAdd, Nat.reduceEqDiff, Nat.reduceLT, Nat.reduceLeDiff, Nat.reduceMul, Nat.reduceSub, Nat.reduceDiv, Int.reduceToNat, Int.reduceAdd, Int.reduceSub, Int.reduceMul, Int.reduceNeg, Int.reduceEq, Int.reduceLT, Int.reduceLE]; rfl) ?_)
      | refine post0 ?_
    all_goals first | exact absurd hz h0 | (refine ends_sl (k := 1) (cs := ul bs) ?_ (by rw [ul_len]; omega); simp (disch := omega) only [c35r0, c35r1, c35r2, c35r3, EV0, EV1, EV2, EV3, EV4, EV5, EV6, EV7, EV8, VALS, plug, ite_same, decide_true, decide_false, eq_self, ↓reduceIte, reduceCtorEq, Nat.reduceAdd, Nat.reduceEqDiff, Nat.reduceLT, Nat.reduceLeDiff, Nat.reduceMul, Nat.reduceSub, Nat.reduceDiv, Int.reduceToNat, Int.reduceAdd, Int.reduceSub, Int.reduceMul, Int.reduceNeg, Int.reduceEq, Int.reduceLT, Int.reduceLE])
/-! ### Down -/
theorem f31 (t : Nat) (d : D) (h : AH) (hm : h.row t = some (eI d)) : ACalls Try.prog 31 [.p t 0] h fun r h' => r = .b d.off ∧ h' = h := by
  refine pure_callV rfl fun h0 hr _ => ?_
  rw [← hr] at hm
  unfold eI at hm
  refine a_fn fn31 (by simp) fun ok pos => ?_
  have := ok.row hm
  rw [initSt1]
  repeat' first
    | with_reducible refine k_seq ?_
    | with_reducible refine k_skip ?_
    | with_reducible refine k_blkS ?_
    | with_reducible refine k_blkR ?_
    | with_reducible refine k_blkC ?_
    | with_reducible refine k_blkH ?_
    | with_reducible refine k_blkB ?_
    | with_reducible refine k_blkK ?_
    | with_reducible refine k_blkE ?_
    | with_reducible refine k_reg ?_
    | with_reducible refine r_done ?_
    | with_reducible refine s_go (by simp (disch := omega) only [read_row hm, c31r0, c31r1, EV0, EV1, EV2, EV3, EV4, EV5, EV6, EV7, EV8, VALS, plug, ite_same, decide_true, decide_false, eq_self, ↓reduceIte, reduceCtorEq, Nat.reduceAdd, Nat.reduceEqDiff, Nat.reduceLT, Nat.reduceLeDiff, Nat.reduceMul, Nat.reduceSub, Nat.reduceDiv, Int.reduceToNat, Int.reduceAdd, Int.reduceSub, Int.reduceMul, Int.reduceNeg, Int.reduceEq, Int.reduceLT, Int.reduceLE]; with_reducible rfl) ?_
    | ((with_reducible refine chk_r ?_); refine r_callF (by simp only [CA, Nat.reduceEqDiff, ↓reduceIte]; rfl) (by exact rfl) (by simp only [CA, Nat.reduceEqDiff, ↓reduceIte]; rfl) rfl ?_)
    | (with_reducible refine k_condP (by simp only [GA, Nat.reduceEqDiff, ↓reduceIte]; rfl) (by first | (simp only [BO]; rfl) | rfl) (fun ht => ?_) (fun ht => ?_) <;> try (first | exact False.elim ht | exact absurd rfl ht | exact absurd trivial ht | exact Bool.noConfusion ht))
    | (with_reducible refine k_ret ?_; repeat with_reducible (first | refine ret_thru ?_ | refine ret_blk ?_ | refine fin ?_))
    | (with_reducible refine k_exit ?_; repeat with_reducible (first | refine thru ?_ | refine out_blk ?_ | refine pass (by decide) ?_))
    | (refine post1 ?_; simp only [GA, Nat.reduceEqDiff, ↓reduceIte])
    | (refine post2 ?_; simp only [GA, Nat.reduceEqDiff, ↓reduceIte])
    | (refine post3 ?_; simp only [GA, Nat.reduceEqDiff, ↓reduceIte])
    | (refine postc (by simp only [GA, Nat.reduceEqDiff, ↓reduceIte]; rfl) (by simp (disch := omega) only [read_row hm, c31r0, c31r1, EV0, EV1, EV2, EV3, EV4, EV5, EV6, EV7, EV8, VALS, plug, ite_same, decide_true, decide_false, eq_self, ↓reduceIte, reduceCtorEq, Nat.reduceAdd, Nat.reduceEqDiff, Nat.reduceLT, Nat.reduceLeDiff, Nat.reduceMul, Nat.reduceSub, Nat.reduceDiv, Int.reduceToNat, Int.reduceAdd, Int.reduceSub, Int.reduceMul, Int.reduceNeg, Int.reduceEq, Int.reduceLT, Int.reduceLE]; rfl) ?_)
    | refine post0 ?_
  all_goals first | exact ends_of | exact ends_eq rfl
/-! ### Read -/
theorem f15 (t : Nat) (d : D) (dok : d.ok) (slot : Int) (h : AH) (hm : h.row t = some (eI d)) : ACalls Try.prog 15 [.p t 0, .i .i64 slot] h fun r h' => r = .tu [vu (rdD d slot).1, .i .i64 (rdD d slot).2] ∧ h' = h := by
  refine pure_callV (by simp only [AV.plain, AV.plains, ul_plain, Bool.and_true]) fun h0 hr _ => ?_
  rw [← hr] at hm
  have hm0 := hm
  unfold eI at hm
  refine a_fn fn15 (by simp) fun ok pos => ?_
  have := ok.row hm
  rw [initSt2]
  have q := fun h hm => f31 t d h hm
  have q0 := pc35 d.s0 dok.n0
  have q1 := pc35 d.s1 dok.n1
  unfold rdD slotOf
  cases hd : d.off with
  | true =>
    rw [hd] at q
    repeat' first
      | with_reducible refine k_seq ?_
      | with_reducible refine k_skip ?_
      | with_reducible refine k_blkS ?_
      | with_reducible refine k_blkR ?_
      | with_reducible refine k_blkC ?_
      | with_reducible refine k_blkH ?_
      | with_reducible refine k_blkB ?_
      | with_reducible refine k_blkK ?_
      | with_reducible refine k_blkE ?_
      | with_reducible refine k_reg ?_
      | with_reducible refine r_done ?_
      | with_reducible refine s_go (by simp (disch := omega) only [read_row hm, c15r0, c15r1, c15r2, c15r3, c15r4, c15r5, EV0, EV1, EV2, EV3, EV4, EV5, EV6, EV7, EV8, VALS, plug, ite_same, decide_true, decide_false, eq_self, ↓reduceIte, reduceCtorEq, Nat.reduceAdd, Nat.reduceEqDiff, Nat.reduceLT, Nat.reduceLeDiff, Nat.reduceMul, Nat.reduceSub, Nat.reduceDiv, Int.reduceToNat, Int.reduceAdd, Int.reduceSub, Int.reduceMul, Int.reduceNeg, Int.reduceEq, Int.reduceLT, Int.reduceLE]; with_reducible rfl) ?_
      | ((with_reducible refine chk_r ?_); refine r_callF (by simp only [CA, Nat.reduceEqDiff, ↓reduceIte]; rfl) (by exact rfl) (by simp only [CA, Nat.reduceEqDiff, ↓reduceIte]; rfl) rfl ?_)
      | ((with_reducible refine chk_r ?_); refine r_callP (by simp only [CA, Nat.reduceEqDiff, ↓reduceIte]; rfl) (by simp only [CA, Nat.reduceEqDiff, ↓reduceIte]; rfl) (by first | ((refine q _ ?_; simp (disch := omega) only [hm0, c15r0, c15r1, c15r2, c15r3, c15r4, c15r5, EV0, EV1, EV2, EV3, EV4, EV5, EV6, EV7, EV8, VALS, plug, ite_same, decide_true, decide_false, eq_self, ↓reduceIte, reduceCtorEq, Nat.reduceAdd, Nat.reduceEqDiff, Nat.reduceLT, Nat.reduceLeDiff, Nat.reduceMul, Nat.reduceSub, Nat.reduceDiv, Int.reduceToNat, Int.reduceAdd, Int.reduceSub, Int.reduceMul, Int.reduceNeg, Int.reduceEq, Int.reduceLT, Int.reduceLE]); all_goals fail)) rfl ?_)
      | (with_reducible refine k_condP (by simp only [GA, Nat.reduceEqDiff, ↓reduceIte]; rfl) (by first | (simp only [BO]; rfl) | rfl) (fun ht => ?_) (fun ht => ?_) <;> try (first | exact False.elim ht | exact absurd rfl ht | exact absurd trivial ht | exact Bool.noConfusion ht))
      | (with_reducible refine k_ret ?_; repeat with_reducible (first | refine ret_thru ?_ | refine ret_blk ?_ | refine fin ?_))
      | (with_reducible refine k_exit ?_; repeat with_reducible (first | refine thru ?_ | refine out_blk ?_ | refine pass (by decide) ?_))
      | (refine post1 ?_; simp only [GA, Nat.reduceEqDiff, ↓reduceIte])
      | (refine post2 ?_; simp only [GA, Nat.reduceEqDiff, ↓reduceIte])
      | (refine post3 ?_; simp only [GA, Nat.reduceEqDiff, ↓reduceIte])
      | (refine postc (by simp only [GA, Nat.reduceEqDiff, ↓reduceIte]; rfl) (by simp (disch := omega) only [read_row hm, c15r0, c15r1, c15r2, c15r3, c15r4, c15r5, EV0, EV1, EV2, EV3, EV4, EV5, EV6, EV7, EV8, VALS, plug, ite_same, decide_true, decide_false, eq_self, ↓reduceIte, reduceCtorEq, Nat.reduceAdd, Nat.reduceEqDiff, Nat.reduceLT, Nat.reduceLeDiff, Nat.reduceMul, Nat.reduceSub, Nat.reduceDiv, Int.reduceToNat, Int.reduceAdd, Int.reduceSub, Int.reduceMul, Int.reduceNeg, Int.reduceEq, Int.reduceLT, Int.reduceLE]; rfl) ?_)
      | refine post0 ?_
    exact ends_nil2
  | false =>
    rw [hd] at q
    by_cases h0 : slot = 0
    · subst h0
      repeat' first
        | with_reducible refine k_seq ?_
        | with_reducible refine k_skip ?_
        | with_reducible refine k_blkS ?_
        | with_reducible refine k_blkR ?_
        | with_reducible refine k_blkC ?_
        | with_reducible refine k_blkH ?_
        | with_reducible refine k_blkB ?_
        | with_reducible refine k_blkK ?_
        | with_reducible refine k_blkE ?_
        | with_reducible refine k_reg ?_
        | with_reducible refine r_done ?_
        | with_reducible refine s_go (by simp (disch := omega) only [read_row hm, c15r0, c15r1, c15r2, c15r3, c15r4, c15r5, EV0, EV1, EV2, EV3, EV4, EV5, EV6, EV7, EV8, VALS, plug, ite_same, decide_true, decide_false, eq_self, ↓reduceIte, reduceCtorEq, Nat.reduceAdd, Nat.reduceEqDiff, Nat.reduceLT, Nat.reduceLeDiff, Nat.reduceMul, Nat.reduceSub, Nat.reduceDiv, Int.reduceToNat, Int.reduceAdd, Int.reduceSub, Int.reduceMul, Int.reduceNeg, Int.reduceEq, Int.reduceLT, Int.reduceLE]; with_reducible rfl) ?_
        | ((with_reducible refine chk_r ?_); refine r_callF (by simp only [CA, Nat.reduceEqDiff, ↓reduceIte]; rfl) (by exact rfl) (by simp only [CA, Nat.reduceEqDiff, ↓reduceIte]; rfl) rfl ?_)
        | ((with_reducible refine chk_r ?_); refine r_callP (by simp only [CA, Nat.reduceEqDiff, ↓reduceIte]; rfl) (by simp only [CA, Nat.reduceEqDiff, ↓reduceIte]; rfl) (by first | ((refine q _ ?_; simp (disch := omega) only [hm0, c15r0, c15r1, c15r2, c15r3, c15r4, c15r5, EV0, EV1, EV2, EV3, EV4, EV5, EV6, EV7, EV8, VALS, plug, ite_same, decide_true, decide_false, eq_self, ↓reduceIte, reduceCtorEq, Nat.reduceAdd, Nat.reduceEqDiff, Nat.reduceLT, Nat.reduceLeDiff, Nat.reduceMul, Nat.reduceSub, Nat.reduceDiv, Int.reduceToNat, Int.reduceAdd, Int.reduceSub, Int.reduceMul, Int.reduceNeg, Int.reduceEq, Int.reduceLT, Int.reduceLE]); all_goals fail) | exact q0 _) rfl ?_)
        | (with_reducible refine k_condP (by simp only [GA, Nat.reduceEqDiff, ↓reduceIte]; rfl) (by first | (simp only [BO]; rfl) | rfl) (fun ht => ?_) (fun ht => ?_) <;> try (first | exact False.elim ht | exact absurd rfl ht | exact absurd trivial ht | exact Bool.noConfusion ht))
        | (with_reducible refine k_ret ?_; repeat with_reducible (first | refine ret_thru ?_ | refine ret_blk ?_ | refine fin ?_))
        | (with_reducible refine k_exit ?_; repeat with_reducible (first | refine thru ?_ | refine out_blk ?_ | refine pass (by decide) ?_))
        | (refine post1 ?_; simp only [GA, Nat.reduceEqDiff, ↓reduceIte])
        | (refine post2 ?_; simp only [GA, Nat.reduceEqDiff, ↓reduceIte])
        | (refine post3 ?_; simp only [GA, Nat.reduceEqDiff, ↓reduceIte])
        | (refine postc (by simp only [GA, Nat.reduceEqDiff, ↓reduceIte]; rfl) (by simp (disch := omega) only [read_row hm, c15r0, c15r1, c15r2, c15r3, c15r4, c15r5, EV0, EV1, EV2, EV3, EV4, EV5, EV6, EV7, EV8, VALS, plug, ite_same, decide_true, decide_false, eq_self, ↓reduceIte, reduceCtorEq, Nat.reduceAdd, Nat.reduceEqDiff, Nat.reduceLT, Nat.reduceLeDiff, Nat.reduceMul, Nat.reduceSub, Nat.reduceDiv, Int.reduceToNat, Int.reduceAdd, Int.reduceSub, Int.reduceMul, Int.reduceNeg, Int.reduceEq, Int.reduceLT, Int.reduceLE]; rfl) ?_)
        | refine post0 ?_
      all_goals first | exact ends_of | exact ends_eq rfl
    · by_cases h1 : slot = 1
      · subst h1
        repeat' first
          | with_reducible refine k_seq ?_
          | with_reducible refine k_skip ?_
          | with_reducible refine k_blkS ?_
          | with_reducible refine k_blkR ?_
          | with_reducible refine k_blkC ?_
          | with_reducible refine k_blkH ?_
          | with_reducible refine k_blkB ?_
          | with_reducible refine k_blkK ?_
          | with_reducible refine k_blkE ?_
          | with_reducible refine k_reg ?_
          | with_reducible refine r_done ?_
          | with_reducible refine s_go (by simp (disch := omega) only [read_row hm, c15r0, c15r1, c15r2, c15r3, c15r4, c15r5, EV0, EV1, EV2, EV3, EV4, EV5, EV6, EV7, EV8, VALS, plug, ite_same, decide_true, decide_false, eq_self, ↓reduceIte, reduceCtorEq, Nat.reduceAdd, Nat.reduceEqDiff, Nat.reduceLT, Nat.reduceLeDiff, Nat.reduceMul, Nat.reduceSub, Nat.reduceDiv, Int.reduceToNat, Int.reduceAdd, Int.reduceSub, Int.reduceMul, Int.reduceNeg, Int.reduceEq, Int.reduceLT, Int.reduceLE]; with_reducible rfl) ?_
          | ((with_reducible refine chk_r ?_); refine r_callF (by simp only [CA, Nat.reduceEqDiff, ↓reduceIte]; rfl) (by exact rfl) (by simp only [CA, Nat.reduceEqDiff, ↓reduceIte]; rfl) rfl ?_)
          | ((with_reducible refine chk_r ?_); refine r_callP (by simp only [CA, Nat.reduceEqDiff, ↓reduceIte]; rfl) (by simp only [CA, Nat.reduceEqDiff, ↓reduceIte]; rfl) (by first | ((refine q _ ?_; simp (disch := omega) only [hm0, c15r0, c15r1, c15r2, c15r3, c15r4, c15r5, EV0, EV1, EV2, EV3, EV4, EV5, EV6, EV7, EV8, VALS, plug, ite_same, decide_true, decide_false, eq_self, ↓reduceIte, reduceCtorEq, Nat.reduceAdd, Nat.reduceEqDiff, Nat.reduceLT, Nat.reduceLeDiff, Nat.reduceMul, Nat.reduceSub, Nat.reduceDiv, Int.reduceToNat, Int.reduceAdd, Int.reduceSub, Int.reduceMul, Int.reduceNeg, Int.reduceEq, Int.reduceLT, Int.reduceLE]); all_goals fail) | exact q1 _) rfl ?_)
          | (with_reducible refine k_condP (by simp only [GA, Nat.reduceEqDiff, ↓reduceIte]; rfl) (by first | (simp only [BO]; rfl) | rfl) (fun ht => ?_) (fun ht => ?_) <;> try (first | exact False.elim ht | exact absurd rfl ht | exact absurd trivial ht | exact Bool.noConfusion ht))
          | (with_reducible refine k_ret ?_; repeat with_reducible (first | refine ret_thru ?_ | refine ret_blk ?_ | refine fin ?_))
          | (with_reducible refine k_exit ?_; repeat with_reducible (first | refine thru ?_ | refine out_blk ?_ | refine pass (by decide) ?_))
          | (refine post1 ?_; simp only [GA, Nat.reduceEqDiff, ↓reduceIte])
          | (refine post2 ?_; simp only [GA, Nat.reduceEqDiff, ↓reduceIte])
          | (refine post3 ?_; simp only [GA, Nat.reduceEqDiff, ↓reduceIte])
          | (refine postc (by simp only [GA, Nat.reduceEqDiff, ↓reduceIte]; rfl) (by simp (disch := omega) only [read_row hm, c15r0, c15r1, c15r2, c15r3, c15r4, c15r5, EV0, EV1, EV2, EV3, EV4, EV5, EV6, EV7, EV8, VALS, plug, ite_same, decide_true, decide_false, eq_self, ↓reduceIte, reduceCtorEq, Nat.reduceAdd, Nat.reduceEqDiff, Nat.reduceLT, Nat.reduceLeDiff, Nat.reduceMul, Nat.reduceSub, Nat.reduceDiv, Int.reduceToNat, Int.reduceAdd, Int.reduceSub, Int.reduceMul, Int.reduceNeg, Int.reduceEq, Int.reduceLT, Int.reduceLE]; rfl) ?_)
          | refine post0 ?_
        all_goals first | exact ends_of | exact ends_eq rfl
      · repeat' first
          | with_reducible refine k_seq ?_
          | with_reducible refine k_skip ?_
          | with_reducible refine k_blkS ?_
          | with_reducible refine k_blkR ?_
          | with_reducible refine k_blkC ?_
          | with_reducible refine k_blkH ?_
          | with_reducible refine k_blkB ?_
          | with_reducible refine k_blkK ?_
          | with_reducible refine k_blkE ?_
          | with_reducible refine k_reg ?_
          | with_reducible refine r_done ?_
          | with_reducible refine s_go (by simp (disch := omega) only [read_row hm, h0, h1, c15r0, c15r1, c15r2, c15r3, c15r4, c15r5, EV0, EV1, EV2, EV3, EV4, EV5, EV6, EV7, EV8, VALS, plug, ite_same, decide_true, decide_false, eq_self, ↓reduceIte, reduceCtorEq, Nat.reduceAdd, Nat.reduceEqDiff, Nat.reduceLT, Nat.reduceLeDiff, Nat.reduceMul, Nat.reduceSub, Nat.reduceDiv, Int.reduceToNat, Int.reduceAdd, Int.reduceSub, Int.reduceMul, Int.reduceNeg, Int.reduceEq, Int.reduceLT, Int.reduceLE]; with_reducible rfl) ?_
          | ((with_reducible refine chk_r ?_); refine r_callF (by simp only [CA, Nat.reduceEqDiff, ↓reduceIte]; rfl) (by exact rfl) (by simp only [CA, Nat.reduceEqDiff, ↓reduceIte]; rfl) rfl ?_)
          | ((with_reducible refine chk_r ?_); refine r_callP (by simp only [CA, Nat.reduceEqDiff, ↓reduceIte]; rfl) (by simp only [CA, Nat.reduceEqDiff, ↓reduceIte]; rfl) (by first | ((refine q _ ?_; simp (disch := omega) only [hm0, c15r0, c15r1, c15r2, c15r3, c15r4, c15r5, EV0, EV1, EV2, EV3, EV4, EV5, EV6, EV7, EV8, VALS, plug, ite_same, decide_true, decide_false, eq_self, ↓reduceIte, reduceCtorEq, Nat.reduceAdd, Nat.reduceEqDiff, Nat.reduceLT, Nat.reduceLeDiff, Nat.reduceMul, Nat.reduceSub, Nat.reduceDiv, Int.reduceToNat, Int.reduceAdd, Int.reduceSub, Int.reduceMul, Int.reduceNeg, Int.reduceEq, Int.reduceLT, Int.reduceLE]); all_goals fail)) rfl ?_)
          | (with_reducible refine k_condP (by simp only [GA, Nat.reduceEqDiff, ↓reduceIte]; rfl) (by first | (simp only [BO]; rfl) | rfl) (fun ht => ?_) (fun ht => ?_) <;> try (first | exact False.elim ht | exact absurd rfl ht | exact absurd trivial ht | exact Bool.noConfusion ht))
          | (with_reducible refine k_ret ?_; repeat with_reducible (first | refine ret_thru ?_ | refine ret_blk ?_ | refine fin ?_))
          | (with_reducible refine k_exit ?_; repeat with_reducible (first | refine thru ?_ | refine out_blk ?_ | refine pass (by decide) ?_))
          | (refine post1 ?_; simp only [GA, Nat.reduceEqDiff, ↓reduceIte])
          | (refine post2 ?_; simp only [GA, Nat.reduceEqDiff, ↓reduceIte])
          | (refine post3 ?_; simp only [GA, Nat.reduceEqDiff, ↓reduceIte])
          | (refine postc (by simp only [GA, Nat.reduceEqDiff, ↓reduceIte]; rfl) (by simp (disch := omega) only [read_row hm, h0, h1, c15r0, c15r1, c15r2, c15r3, c15r4, c15r5, EV0, EV1, EV2, EV3, EV4, EV5, EV6, EV7, EV8, VALS, plug, ite_same, decide_true, decide_false, eq_self, ↓reduceIte, reduceCtorEq, Nat.reduceAdd, Nat.reduceEqDiff, Nat.reduceLT, Nat.reduceLeDiff, Nat.reduceMul, Nat.reduceSub, Nat.reduceDiv, Int.reduceToNat, Int.reduceAdd, Int.reduceSub, Int.reduceMul, Int.reduceNeg, Int.reduceEq, Int.reduceLT, Int.reduceLE]; rfl) ?_)
          | refine post0 ?_
        have : ¬ (slot = 0 ∨ slot = 1) := fun q => q.elim h0 h1
        rw [if_neg (by simp), if_pos this]
        exact ends_nil2
end Go.Proofs.Ytpleibjbfohenaa
set_option linter.unusedVariables false
set_option linter.unusedSimpArgs false
namespace Go.Proofs.Ytpleibjbfohenaa
open Go Go.Am Go.Proofs
theorem wr_off {d : D} (h : d.off = true) (slot : Int) (bs : List Int) : wrD d slot bs = (91, d) := by unfold wrD; rw [if_pos h]
section
variable {d : D} (h : d.off = false) {slot : Int} {bs : List Int}
include h
theorem wr_arg (hs : ¬ (slot = 0 ∨ slot = 1)) : wrD d slot bs = (2, d) := by unfold wrD; rw [if_neg (by rw [h]; exact Bool.false_ne_true), if_pos hs]
variable (hs : slot = 0 ∨ slot = 1)
include hs
theorem wr_ok (hl : ¬ 0 < d.left) : wrD d slot bs = (0, putS d slot bs) := by unfold wrD; rw [if_neg (by rw [h]; exact Bool.false_ne_true), if_neg (fun q => q hs), if_neg hl]
theorem wr_less (hl : 0 < d.left) (h1 : ¬ d.left - 1 = 0) : wrD d slot bs = (0, putS { d with left := d.left - 1 } slot bs) := by unfold wrD; rw [if_neg (by rw [h]; exact Bool.false_ne_true), if_neg (fun q => q hs), if_pos hl, if_neg h1]
theorem wr_last (hl : d.left = 1) : wrD d slot bs = (91, { putS { d with left := 0 } slot (bs.take (kp d.keep bs.length).toNat) with off := true }) := by unfold wrD; rw [if_neg (by rw [h]; exact Bool.false_ne_true), if_neg (fun q => q hs), if_pos (by omega), if_pos (by omega)]
end
theorem kp_le (keep : Int) (n : Nat) : 0 ≤ kp keep n ∧ kp keep n ≤ n := by unfold kp; omega
set_option maxHeartbeats 1000000 in
theorem f14 (t : Nat) (d : D) (dok : d.ok) (slot : Int) (bs : List Int) (hb : bs.length ≤ 100000000) (h : AH) (hm : h.m t = some (.cells true (eI d))) : ACalls Try.prog 14 [.p t 0, .i .i64 slot, vu bs] h fun r h' => r = .i .i64 (wrD d slot bs).1 ∧ Upd t (eI (wrD d slot bs).2) h h' := by
  have q := fun h hm => f31 t d h hm
  have lf := dok.left
  obtain ⟨s0, s1, left, keep, life, off⟩ := d
  simp only [eI] at hm q lf ⊢
  refine w_fn fn14 (by simp) fun ok pos => ?_
  have := ok.m hm
  rw [initSt3]
  have q35 := pc35 bs hb
  cases off with
  | true =>
    rw [wr_off rfl]
    repeat' first
      | with_reducible refine k_seq ?_
      | with_reducible refine k_skip ?_
      | with_reducible refine k_blkS ?_
      | with_reducible refine k_blkR ?_
      | with_reducible refine k_blkC ?_
      | with_reducible refine k_blkH ?_
      | with_reducible refine k_blkB ?_
      | with_reducible refine k_blkK ?_
      | with_reducible refine k_blkE ?_
      | with_reducible refine k_reg ?_
      | with_reducible refine k_head (by with_unfolding_all rfl) ?_
      | with_reducible refine k_headS ?_
      | (with_reducible refine SepK.mk ?_ ?_; (refine sepQ_P ?_; simp [sepQ, sepG, AOp.late, AOp.free, AOp.xs, AOp.isAl, tokNe, AV.tok, stS_get, strip, AX.val, c14r0, c14r1, c14r2, c14r3, c14r4, c14r5, c14r6, c14r7, c14r8, c14r9, c14r10, c14r11, c14r12, GA]; try omega))
      | with_reducible refine r_done ?_
      | with_reducible refine hr_done ?_
      | with_reducible refine s_go (by simp (disch := omega) only [row_m hm, read_row (row_m hm), c14r0, c14r1, c14r2, c14r3, c14r4, c14r5, c14r6, c14r7, c14r8, c14r9, c14r10, c14r11, c14r12, EV0, EV1, EV2, EV3, EV4, EV5, EV6, EV7, EV8, VALS, plug, ite_same, decide_true, decide_false, eq_self, ↓reduceIte, reduceCtorEq, Nat.reduceAdd, Nat.reduceEqDiff, Nat.reduceLT, Nat.reduceLeDiff, Nat.reduceMul, Nat.reduceSub, Nat.reduceDiv, Int.reduceToNat, Int.reduceAdd, Int.reduceSub, Int.reduceMul, Int.reduceNeg, Int.reduceEq, Int.reduceLT, Int.reduceLE]; with_reducible rfl) ?_
      | with_reducible refine h_go (by with_unfolding_all rfl) (by simp (disch := omega) only [row_m hm, read_row (row_m hm), c14r0, c14r1, c14r2, c14r3, c14r4, c14r5, c14r6, c14r7, c14r8, c14r9, c14r10, c14r11, c14r12, EV0, EV1, EV2, EV3, EV4, EV5, EV6, EV7, EV8, VALS, plug, ite_same, decide_true, decide_false, eq_self, ↓reduceIte, reduceCtorEq, Nat.reduceAdd, Nat.reduceEqDiff, Nat.reduceLT, Nat.reduceLeDiff, Nat.reduceMul, Nat.reduceSub, Nat.reduceDiv, Int.reduceToNat, Int.reduceAdd, Int.reduceSub, Int.reduceMul, Int.reduceNeg, Int.reduceEq, Int.reduceLT, Int.reduceLE]; with_reducible rfl) ?_
      | ((with_reducible refine chk_r ?_); refine r_callF (by simp only [CA, Nat.reduceEqDiff, ↓reduceIte]; rfl) (by exact rfl) (by simp only [CA, Nat.reduceEqDiff, ↓reduceIte]; rfl) rfl ?_)
      | ((with_reducible refine chk_h ?_); refine hr_callF (by simp only [CA, Nat.reduceEqDiff, ↓reduceIte]; rfl) (by exact rfl) (by simp only [CA, Nat.reduceEqDiff, ↓reduceIte]; rfl) rfl ?_)
      | ((with_reducible refine chk_r ?_); refine r_callP (by simp only [CA, Nat.reduceEqDiff, ↓reduceIte]; rfl) (by simp only [CA, Nat.reduceEqDiff, ↓reduceIte]; rfl) (by first | ((refine q _ ?_; simp (disch := omega) only [row_m hm, c14r0, c14r1, c14r2, c14r3, c14r4, c14r5, c14r6, c14r7, c14r8, c14r9, c14r10, c14r11, c14r12, EV0, EV1, EV2, EV3, EV4, EV5, EV6, EV7, EV8, VALS, plug, ite_same, decide_true, decide_false, eq_self, ↓reduceIte, reduceCtorEq, Nat.reduceAdd, Nat.reduceEqDiff, Nat.reduceLT, Nat.reduceLeDiff, Nat.reduceMul, Nat.reduceSub, Nat.reduceDiv, Int.reduceToNat, Int.reduceAdd, Int.reduceSub, Int.reduceMul, Int.reduceNeg, Int.reduceEq, Int.reduceLT, Int.reduceLE]); all_goals fail)) rfl ?_)
      | ((with_reducible refine chk_h ?_); refine hr_callP (by simp only [CA, Nat.reduceEqDiff, ↓reduceIte]; rfl) (by simp only [CA, Nat.reduceEqDiff, ↓reduceIte]; rfl) (by first | ((refine q _ ?_; simp (disch := omega) only [row_m hm, c14r0, c14r1, c14r2, c14r3, c14r4, c14r5, c14r6, c14r7, c14r8, c14r9, c14r10, c14r11, c14r12, EV0, EV1, EV2, EV3, EV4, EV5, EV6, EV7, EV8, VALS, plug, ite_same, decide_true, decide_false, eq_self, ↓reduceIte, reduceCtorEq, Nat.reduceAdd, Nat.reduceEqDiff, Nat.reduceLT, Nat.reduceLeDiff, Nat.reduceMul, Nat.reduceSub, Nat.reduceDiv, Int.reduceToNat, Int.reduceAdd, Int.reduceSub, Int.reduceMul, Int.reduceNeg, Int.reduceEq, Int.reduceLT, Int.reduceLE]); all_goals fail)) rfl ?_)
      | ((with_reducible refine chk_h ?_); refine hr_callP1 (by simp only [CA, Nat.reduceEqDiff, ↓reduceIte]; rfl) (by simp only [CA, Nat.reduceEqDiff, ↓reduceIte]; rfl) (by simp (disch := omega) only [CA, Nat.reduceEqDiff, ↓reduceIte, firstTok_nil, firstTok_sl, firstTok_sl0, firstTok_i, firstTok_b, firstTok_ag, firstTok_p, firstTok_s]; rfl) (by first | ((refine q _ ?_; simp (disch := omega) only [row_m hm, c14r0, c14r1, c14r2, c14r3, c14r4, c14r5, c14r6, c14r7, c14r8, c14r9, c14r10, c14r11, c14r12, EV0, EV1, EV2, EV3, EV4, EV5, EV6, EV7, EV8, VALS, plug, ite_same, decide_true, decide_false, eq_self, ↓reduceIte, reduceCtorEq, Nat.reduceAdd, Nat.reduceEqDiff, Nat.reduceLT, Nat.reduceLeDiff, Nat.reduceMul, Nat.reduceSub, Nat.reduceDiv, Int.reduceToNat, Int.reduceAdd, Int.reduceSub, Int.reduceMul, Int.reduceNeg, Int.reduceEq, Int.reduceLT, Int.reduceLE]); all_goals fail)) rfl ?_)
      | ((with_reducible refine chk_h ?_); refine hr_app (by simp (disch := omega) only [row_m hm, read_row (row_m hm), c14r0, c14r1, c14r2, c14r3, c14r4, c14r5, c14r6, c14r7, c14r8, c14r9, c14r10, c14r11, c14r12, EV0, EV1, EV2, EV3, EV4, EV5, EV6, EV7, EV8, VALS, plug, ite_same, decide_true, decide_false, eq_self, ↓reduceIte, reduceCtorEq, Nat.reduceAdd, Nat.reduceEqDiff, Nat.reduceLT, Nat.reduceLeDiff, Nat.reduceMul, Nat.reduceSub, Nat.reduceDiv, Int.reduceToNat, Int.reduceAdd, Int.reduceSub, Int.reduceMul, Int.reduceNeg, Int.reduceEq, Int.reduceLT, Int.reduceLE]; with_reducible rfl) rfl ?_)
      | (with_reducible refine k_condP (by simp only [GA, Nat.reduceEqDiff, ↓reduceIte]; rfl) (by first | (simp only [BO]; rfl) | rfl) (fun ht => ?_) (fun ht => ?_) <;> try (first | exact False.elim ht | exact absurd rfl ht | exact absurd trivial ht | exact Bool.noConfusion ht))
      | (with_reducible refine k_ret ?_; repeat with_reducible (first | refine ret_thru ?_ | refine ret_blk ?_ | refine fin ?_))
      | (with_reducible refine k_exit ?_; repeat with_reducible (first | refine thru ?_ | refine out_blk ?_ | refine pass (by decide) ?_))
      | (refine post1 ?_; simp only [GA, Nat.reduceEqDiff, ↓reduceIte])
      | (refine post2 ?_; simp only [GA, Nat.reduceEqDiff, ↓reduceIte])
      | (refine post3 ?_; simp only [GA, Nat.reduceEqDiff, ↓reduceIte])
      | (refine postc (by simp only [GA, Nat.reduceEqDiff, ↓reduceIte]; rfl) (by simp (disch := omega) only [row_m hm, read_row (row_m hm), c14r0, c14r1, c14r2, c14r3, c14r4, c14r5, c14r6, c14r7, c14r8, c14r9, c14r10, c14r11, c14r12, EV0, EV1, EV2, EV3, EV4, EV5, EV6, EV7, EV8, VALS, plug, ite_same, decide_true, decide_false, eq_self, ↓reduceIte, reduceCtorEq, Nat.reduceAdd, Nat.reduceEqDiff, Nat.reduceLT, Nat.reduceLeDiff, Nat.reduceMul, Nat.reduceSub, Nat.reduceDiv, Int.reduceToNat, Int.reduceAdd, Int.reduceSub, Int.reduceMul, Int.reduceNeg, Int.reduceEq, Int.reduceLT, Int.reduceLE]; rfl) ?_)
      | refine post0 ?_
    exact endsW ⟨by first | (simp (disch := omega) only [hm, c14r0, c14r1, c14r2, c14r3, c14r4, c14r5, c14r6, c14r7, c14r8, c14r9, c14r10, c14r11, c14r12, EV0, EV1, EV2, EV3, EV4, EV5, EV6, EV7, EV8, VALS, plug, ite_same, decide_true, decide_false, eq_self, ↓reduceIte, reduceCtorEq, Nat.reduceAdd, Nat.reduceEqDiff, Nat.reduceLT, Nat.reduceLeDiff, Nat.reduceMul, Nat.reduceSub, Nat.reduceDiv, Int.reduceToNat, Int.reduceAdd, Int.reduceSub, Int.reduceMul, Int.reduceNeg, Int.reduceEq, Int.reduceLT, Int.reduceLE] <;> rfl) | simp (disch := omega) only [hm, c14r0, c14r1, c14r2, c14r3, c14r4, c14r5, c14r6, c14r7, c14r8, c14r9, c14r10, c14r11, c14r12, EV0, EV1, EV2, EV3, EV4, EV5, EV6, EV7, EV8, VALS, plug, ite_same, decide_true, decide_false, eq_self, ↓reduceIte, reduceCtorEq, Nat.reduceAdd, Nat.reduceEqDiff, Nat.reduceLT, Nat.reduceLeDiff, Nat.reduceMul, Nat.reduceSub, Nat.reduceDiv, Int.reduceToNat, Int.reduceAdd, Int.reduceSub, Int.reduceMul, Int.reduceNeg, Int.reduceEq, Int.reduceLT, Int.reduceLE], fun s h1 h2 => by simp (disch := omega) only [h2, hm, c14r0, c14r1, c14r2, c14r3, c14r4, c14r5, c14r6, c14r7, c14r8, c14r9, c14r10, c14r11, c14r12, EV0, EV1, EV2, EV3, EV4, EV5, EV6, EV7, EV8, VALS, plug, ite_same, decide_true, decide_false, eq_self, ↓reduceIte, reduceCtorEq, Nat.reduceAdd, Nat.reduceEqDiff, Nat.reduceLT, Nat.reduceLeDiff, Nat.reduceMul, Nat.reduceSub, Nat.reduceDiv, Int.reduceToNat, Int.reduceAdd, Int.reduceSub, Int.reduceMul, Int.reduceNeg, Int.reduceEq, Int.reduceLT, Int.reduceLE], by simp (disch := omega) only [hm, c14r0, c14r1, c14r2, c14r3, c14r4, c14r5, c14r6, c14r7, c14r8, c14r9, c14r10, c14r11, c14r12, EV0, EV1, EV2, EV3, EV4, EV5, EV6, EV7, EV8, VALS, plug, ite_same, decide_true, decide_false, eq_self, ↓reduceIte, reduceCtorEq, Nat.reduceAdd, Nat.reduceEqDiff, Nat.reduceLT, Nat.reduceLeDiff, Nat.reduceMul, Nat.reduceSub, Nat.reduceDiv, Int.reduceToNat, Int.reduceAdd, Int.reduceSub, Int.reduceMul, Int.reduceNeg, Int.reduceEq, Int.reduceLT, Int.reduceLE] <;> omega⟩
  | false =>
    by_cases hs : slot = 0 ∨ slot = 1
    · by_cases hl : 0 < left
      · by_cases h1 : left = 1
        · subst h1
          rw [wr_last rfl hs rfl]
          obtain ⟨k0, k1⟩ := kp_le keep bs.length
          have eK : kp keep bs.length = kp keep bs.length := rfl
          conv at eK => lhs; unfold kp
          simp only [] at k0 k1 ⊢
          generalize kp keep bs.length = K at *
          have tl : (bs.take K.toNat).length = K.toNat := by rw [List.length_take]; omega
          have q35' : PC Try.prog 35 [.vs K.toNat (ul (bs.take K.toNat))] (.vs K.toNat (ul (bs.take K.toNat))) := by
            have := pc35 (bs.take K.toNat) (by rw [List.length_take]; omega)
            unfold vu at this
            rwa [tl] at this
          have vK : AV.vs K.toNat (ul (bs.take K.toNat)) = vu (bs.take K.toNat) := by unfold vu; rw [tl]
          have kl : K.toNat ≤ bs.length := by omega
          rcases hs with rfl | rfl
          · repeat' first
              | with_reducible refine k_seq ?_
              | with_reducible refine k_skip ?_
              | with_reducible refine k_blkS ?_
              | with_reducible refine k_blkR ?_
              | with_reducible refine k_blkC ?_
              | with_reducible refine k_blkH ?_
              | with_reducible refine k_blkB ?_
              | with_reducible refine k_blkK ?_
              | with_reducible refine k_blkE ?_
              | with_reducible refine k_reg ?_
              | with_reducible refine k_head (by with_unfolding_all rfl) ?_
              | with_reducible refine k_headS ?_
              | (with_reducible refine SepK.mk ?_ ?_; (refine sepQ_P ?_; simp [sepQ, sepG, AOp.late, AOp.free, AOp.xs, AOp.isAl, tokNe, AV.tok, stS_get, strip, AX.val, c14r0, c14r1, c14r2, c14r3, c14r4, c14r5, c14r6, c14r7, c14r8, c14r9, c14r10, c14r11, c14r12, GA]; try omega))
              | with_reducible refine r_done ?_
              | with_reducible refine hr_done ?_
              | with_reducible refine s_go (by simp (disch := omega) only [hm, row_m hm, read_row (row_m hm), eK, kl, c14r0, c14r1, c14r2, c14r3, c14r4, c14r5, c14r6, c14r7, c14r8, c14r9, c14r10, c14r11, c14r12, EV0, EV1, EV2, EV3, EV4, EV5, EV6, EV7, EV8, VALS, plug, ite_same, decide_true, decide_false, eq_self, ↓reduceIte, reduceCtorEq, Nat.reduceAdd, Nat.reduceEqDiff, Nat.reduceLT, Nat.reduceLeDiff, Nat.reduceMul, Nat.reduceSub, Nat.reduceDiv, Int.reduceToNat, Int.reduceAdd, Int.reduceSub, Int.reduceMul, Int.reduceNeg, Int.reduceEq, Int.reduceLT, Int.reduceLE]; with_reducible rfl) ?_
              | with_reducible refine h_go (by with_unfolding_all rfl) (by simp (disch := omega) only [hm, row_m hm, read_row (row_m hm), eK, kl, c14r0, c14r1, c14r2, c14r3, c14r4, c14r5, c14r6, c14r7, c14r8, c14r9, c14r10, c14r11, c14r12, EV0, EV1, EV2, EV3, EV4, EV5, EV6, EV7, EV8, VALS, plug, ite_same, decide_true, decide_false, eq_self, ↓reduceIte, reduceCtorEq, Nat.reduceAdd, Nat.reduceEqDiff, Nat.reduceLT, Nat.reduceLeDiff, Nat.reduceMul, Nat.reduceSub, Nat.reduceDiv, Int.reduceToNat, Int.reduceAdd, Int.reduceSub, Int.reduceMul, Int.reduceNeg, Int.reduceEq, Int.reduceLT, Int.reduceLE]; with_reducible rfl) ?_
              | ((with_reducible refine chk_r ?_); refine r_callF (by simp only [CA, Nat.reduceEqDiff, ↓reduceIte]; rfl) (by exact rfl) (by simp only [CA, Nat.reduceEqDiff, ↓reduceIte]; rfl) rfl ?_)
              | ((with_reducible refine chk_h ?_); refine hr_callF (by simp only [CA, Nat.reduceEqDiff, ↓reduceIte]; rfl) (by exact rfl) (by simp only [CA, Nat.reduceEqDiff, ↓reduceIte]; rfl) rfl ?_)
              | ((with_reducible refine chk_r ?_); refine r_callP (by simp only [CA, Nat.reduceEqDiff, ↓reduceIte]; rfl) (by simp only [CA, Nat.reduceEqDiff, ↓reduceIte]; rfl) (by first | ((refine q _ ?_; simp (disch := omega) only [row_m hm, c14r0, c14r1, c14r2, c14r3, c14r4, c14r5, c14r6, c14r7, c14r8, c14r9, c14r10, c14r11, c14r12, EV0, EV1, EV2, EV3, EV4, EV5, EV6, EV7, EV8, VALS, plug, ite_same, decide_true, decide_false, eq_self, ↓reduceIte, reduceCtorEq, Nat.reduceAdd, Nat.reduceEqDiff, Nat.reduceLT, Nat.reduceLeDiff, Nat.reduceMul, Nat.reduceSub, Nat.reduceDiv, Int.reduceToNat, Int.reduceAdd, Int.reduceSub, Int.reduceMul, Int.reduceNeg, Int.reduceEq, Int.reduceLT, Int.reduceLE]); all_goals fail) | exact q35' _) rfl ?_)
              | ((with_reducible refine chk_h ?_); refine hr_callP (by simp only [CA, Nat.reduceEqDiff, ↓reduceIte]; rfl) (by simp only [CA, Nat.reduceEqDiff, ↓reduceIte]; rfl) (by first | ((refine q _ ?_; simp (disch := omega) only [row_m hm, c14r0, c14r1, c14r2, c14r3, c14r4, c14r5, c14r6, c14r7, c14r8, c14r9, c14r10, c14r11, c14r12, EV0, EV1, EV2, EV3, EV4, EV5, EV6, EV7, EV8, VALS, plug, ite_same, decide_true, decide_false, eq_self, ↓reduceIte, reduceCtorEq, Nat.reduceAdd, Nat.reduceEqDiff, Nat.reduceLT, Nat.reduceLeDiff, Nat.reduceMul, Nat.reduceSub, Nat.reduceDiv, Int.reduceToNat, Int.reduceAdd, Int.reduceSub, Int.reduceMul, Int.reduceNeg, Int.reduceEq, Int.reduceLT, Int.reduceLE]); all_goals fail) | exact q35' _) rfl ?_)
              | ((with_reducible refine chk_h ?_); refine hr_callP1 (by simp only [CA, Nat.reduceEqDiff, ↓reduceIte]; rfl) (by simp only [CA, Nat.reduceEqDiff, ↓reduceIte]; rfl) (by simp (disch := omega) only [CA, Nat.reduceEqDiff, ↓reduceIte, firstTok_nil, firstTok_sl, firstTok_sl0, firstTok_i, firstTok_b, firstTok_ag, firstTok_p, firstTok_s]; rfl) (by first | ((refine q _ ?_; simp (disch := omega) only [row_m hm, c14r0, c14r1, c14r2, c14r3, c14r4, c14r5, c14r6, c14r7, c14r8, c14r9, c14r10, c14r11, c14r12, EV0, EV1, EV2, EV3, EV4, EV5, EV6, EV7, EV8, VALS, plug, ite_same, decide_true, decide_false, eq_self, ↓reduceIte, reduceCtorEq, Nat.reduceAdd, Nat.reduceEqDiff, Nat.reduceLT, Nat.reduceLeDiff, Nat.reduceMul, Nat.reduceSub, Nat.reduceDiv, Int.reduceToNat, Int.reduceAdd, Int.reduceSub, Int.reduceMul, Int.reduceNeg, Int.reduceEq, Int.reduceLT, Int.reduceLE]); all_goals fail) | exact q35' _) rfl ?_)
              | ((with_reducible refine chk_h ?_); refine hr_app (by simp (disch := omega) only [hm, row_m hm, read_row (row_m hm), eK, kl, c14r0, c14r1, c14r2, c14r3, c14r4, c14r5, c14r6, c14r7, c14r8, c14r9, c14r10, c14r11, c14r12, EV0, EV1, EV2, EV3, EV4, EV5, EV6, EV7, EV8, VALS, plug, ite_same, decide_true, decide_false, eq_self, ↓reduceIte, reduceCtorEq, Nat.reduceAdd, Nat.reduceEqDiff, Nat.reduceLT, Nat.reduceLeDiff, Nat.reduceMul, Nat.reduceSub, Nat.reduceDiv, Int.reduceToNat, Int.reduceAdd, Int.reduceSub, Int.reduceMul, Int.reduceNeg, Int.reduceEq, Int.reduceLT, Int.reduceLE]; with_reducible rfl) rfl ?_)
              | (with_reducible refine k_condP (by simp only [GA, Nat.reduceEqDiff, ↓reduceIte]; rfl) (by first | (simp only [BO]; rfl) | rfl) (fun ht => ?_) (fun ht => ?_) <;> try (first | exact False.elim ht | exact absurd rfl ht | exact absurd trivial ht | exact Bool.noConfusion ht))
              | (with_reducible refine k_ret ?_; repeat with_reducible (first | refine ret_thru ?_ | refine ret_blk ?_ | refine fin ?_))
              | (with_reducible refine k_exit ?_; repeat with_reducible (first | refine thru ?_ | refine out_blk ?_ | refine pass (by decide) ?_))
              | (refine post1 ?_; simp only [GA, Nat.reduceEqDiff, ↓reduceIte])
              | (refine post2 ?_; simp only [GA, Nat.reduceEqDiff, ↓reduceIte])
              | (refine post3 ?_; simp only [GA, Nat.reduceEqDiff, ↓reduceIte])
              | (refine postc (by simp only [GA, Nat.reduceEqDiff, ↓reduceIte]; rfl) (by simp (disch := omega) only [hm, row_m hm, read_row (row_m hm), eK, kl, c14r0, c14r1, c14r2, c14r3, c14r4, c14r5, c14r6, c14r7, c14r8, c14r9, c14r10, c14r11, c14r12, EV0, EV1, EV2, EV3, EV4, EV5, EV6, EV7, EV8, VALS, plug, ite_same, decide_true, decide_false, eq_self, ↓reduceIte, reduceCtorEq, Nat.reduceAdd, Nat.reduceEqDiff, Nat.reduceLT, Nat.reduceLeDiff, Nat.reduceMul, Nat.reduceSub, Nat.reduceDiv, Int.reduceToNat, Int.reduceAdd, Int.reduceSub, Int.reduceMul, Int.reduceNeg, Int.reduceEq, Int.reduceLT, Int.reduceLE]; rfl) ?_)
              | refine post0 ?_
            exact endsW ⟨by first | (simp (disch := omega) only [putS, vK, c14r0, c14r1, c14r2, c14r3, c14r4, c14r5, c14r6, c14r7, c14r8, c14r9, c14r10, c14r11, c14r12, EV0, EV1, EV2, EV3, EV4, EV5, EV6, EV7, EV8, VALS, plug, ite_same, decide_true, decide_false, eq_self, ↓reduceIte, reduceCtorEq, Nat.reduceAdd, Nat.reduceEqDiff, Nat.reduceLT, Nat.reduceLeDiff, Nat.reduceMul, Nat.reduceSub, Nat.reduceDiv, Int.reduceToNat, Int.reduceAdd, Int.reduceSub, Int.reduceMul, Int.reduceNeg, Int.reduceEq, Int.reduceLT, Int.reduceLE] <;> rfl) | simp (disch := omega) only [putS, vK, c14r0, c14r1, c14r2, c14r3, c14r4, c14r5, c14r6, c14r7, c14r8, c14r9, c14r10, c14r11, c14r12, EV0, EV1, EV2, EV3, EV4, EV5, EV6, EV7, EV8, VALS, plug, ite_same, decide_true, decide_false, eq_self, ↓reduceIte, reduceCtorEq, Nat.reduceAdd, Nat.reduceEqDiff, Nat.reduceLT, Nat.reduceLeDiff, Nat.reduceMul, Nat.reduceSub, Nat.reduceDiv, Int.reduceToNat, Int.reduceAdd, Int.reduceSub, Int.reduceMul, Int.reduceNeg, Int.reduceEq, Int.reduceLT, Int.reduceLE], fun s h1 h2 => by simp (disch := omega) only [h2, putS, vK, c14r0, c14r1, c14r2, c14r3, c14r4, c14r5, c14r6, c14r7, c14r8, c14r9, c14r10, c14r11, c14r12, EV0, EV1, EV2, EV3, EV4, EV5, EV6, EV7, EV8, VALS, plug, ite_same, decide_true, decide_false, eq_self, ↓reduceIte, reduceCtorEq, Nat.reduceAdd, Nat.reduceEqDiff, Nat.reduceLT, Nat.reduceLeDiff, Nat.reduceMul, Nat.reduceSub, Nat.reduceDiv, Int.reduceToNat, Int.reduceAdd, Int.reduceSub, Int.reduceMul, Int.reduceNeg, Int.reduceEq, Int.reduceLT, Int.reduceLE], by simp (disch := omega) only [putS, vK, c14r0, c14r1, c14r2, c14r3, c14r4, c14r5, c14r6, c14r7, c14r8, c14r9, c14r10, c14r11, c14r12, EV0, EV1, EV2, EV3, EV4, EV5, EV6, EV7, EV8, VALS, plug, ite_same, decide_true, decide_false, eq_self, ↓reduceIte, reduceCtorEq, Nat.reduceAdd, Nat.reduceEqDiff, Nat.reduceLT, Nat.reduceLeDiff, Nat.reduceMul, Nat.reduceSub, Nat.reduceDiv, Int.reduceToNat, Int.reduceAdd, Int.reduceSub, Int.reduceMul, Int.reduceNeg, Int.reduceEq, Int.reduceLT, Int.reduceLE] <;> omega⟩
          · repeat' first
              | with_reducible refine k_seq ?_
              | with_reducible refine k_skip ?_
              | with_reducible refine k_blkS ?_
              | with_reducible refine k_blkR ?_
              | with_reducible refine k_blkC ?_
              | with_reducible refine k_blkH ?_
              | with_reducible refine k_blkB ?_
              | with_reducible refine k_blkK ?_
              | with_reducible refine k_blkE ?_
              | with_reducible refine k_reg ?_
              | with_reducible refine k_head (by with_unfolding_all rfl) ?_
              | with_reducible refine k_headS ?_
              | (with_reducible refine SepK.mk ?_ ?_; (refine sepQ_P ?_; simp [sepQ, sepG, AOp.late, AOp.free, AOp.xs, AOp.isAl, tokNe, AV.tok, stS_get, strip, AX.val, c14r0, c14r1, c14r2, c14r3, c14r4, c14r5, c14r6, c14r7, c14r8, c14r9, c14r10, c14r11, c14r12, GA]; try omega))
              | with_reducible refine r_done ?_
              | with_reducible refine hr_done ?_
              | with_reducible refine s_go (by simp (disch := omega) only [hm, row_m hm, read_row (row_m hm), eK, kl, c14r0, c14r1, c14r2, c14r3, c14r4, c14r5, c14r6, c14r7, c14r8, c14r9, c14r10, c14r11, c14r12, EV0, EV1, EV2, EV3, EV4, EV5, EV6, EV7, EV8, VALS, plug, ite_same, decide_true, decide_false, eq_self, ↓reduceIte, reduceCtorEq, Nat.reduceAdd, Nat.reduceEqDiff, Nat.reduceLT, Nat.reduceLeDiff, Nat.reduceMul, Nat.reduceSub, Nat.reduceDiv, Int.reduceToNat, Int.reduceAdd, Int.reduceSub, Int.reduceMul, Int.reduceNeg, Int.reduceEq, Int.reduceLT, Int.reduceLE]; with_reducible rfl) ?_
              | with_reducible refine h_go (by with_unfolding_all rfl) (by simp (disch := omega) only [hm, row_m hm, read_row (row_m hm), eK, kl, c14r0, c14r1, c14r2, c14r3, c14r4, c14r5, c14r6, c14r7, c14r8, c14r9, c14r10, c14r11, c14r12, EV0, EV1, EV2, EV3, EV4, EV5, EV6, EV7, EV8, VALS, plug, ite_same, decide_true, decide_false, eq_self, ↓reduceIte, reduceCtorEq, Nat.reduceAdd, Nat.reduceEqDiff, Nat.reduceLT, Nat.reduceLeDiff, Nat.reduceMul, Nat.reduceSub, Nat.reduceDiv, Int.reduceToNat, Int.reduceAdd, Int.reduceSub, Int.reduceMul, Int.reduceNeg, Int.reduceEq, Int.reduceLT, Int.reduceLE]; with_reducible rfl) ?_
              | ((with_reducible refine chk_r ?_); refine r_callF (by simp only [CA, Nat.reduceEqDiff, ↓reduceIte]; rfl) (by exact rfl) (by simp only [CA, Nat.reduceEqDiff, ↓reduceIte]; rfl) rfl ?_)
              | ((with_reducible refine chk_h ?_); refine hr_callF (by simp only [CA, Nat.reduceEqDiff, ↓reduceIte]; rfl) (by exact rfl) (by simp only [CA, Nat.reduceEqDiff, ↓reduceIte]; rfl) rfl ?_)
              | ((with_reducible refine chk_r ?_); refine r_callP (by simp only [CA, Nat.reduceEqDiff, ↓reduceIte]; rfl) (by simp only [CA, Nat.reduceEqDiff, ↓reduceIte]; rfl) (by first | ((refine q _ ?_; simp (disch := omega) only [row_m hm, c14r0, c14r1, c14r2, c14r3, c14r4, c14r5, c14r6, c14r7, c14r8, c14r9, c14r10, c14r11, c14r12, EV0, EV1, EV2, EV3, EV4, EV5, EV6, EV7, EV8, VALS, plug, ite_same, decide_true, decide_false, eq_self, ↓reduceIte, reduceCtorEq, Nat.reduceAdd, Nat.reduceEqDiff, Nat.reduceLT, Nat.reduceLeDiff, Nat.reduceMul, Nat.reduceSub, Nat.reduceDiv, Int.reduceToNat, Int.reduceAdd, Int.reduceSub, Int.reduceMul, Int.reduceNeg, Int.reduceEq, Int.reduceLT, Int.reduceLE]); all_goals fail) | exact q35' _) rfl ?_)
              | ((with_reducible refine chk_h ?_); refine hr_callP (by simp only [CA, Nat.reduceEqDiff, ↓reduceIte]; rfl) (by simp only [CA, Nat.reduceEqDiff, ↓reduceIte]; rfl) (by first | ((refine q _ ?_; simp (disch := omega) only [row_m hm, c14r0, c14r1, c14r2, c14r3, c14r4, c14r5, c14r6, c14r7, c14r8, c14r9, c14r10, c14r11, c14r12, EV0, EV1, EV2, EV3, EV4, EV5, EV6, EV7, EV8, VALS, plug, ite_same, decide_true, decide_false, eq_self, ↓reduceIte, reduceCtorEq, Nat.reduceAdd, Nat.reduceEqDiff, Nat.reduceLT, Nat.reduceLeDiff, Nat.reduceMul, Nat.reduceSub, Nat.reduceDiv, Int.reduceToNat, Int.reduceAdd, Int.reduceSub, Int.reduceMul, Int.reduceNeg, Int.reduceEq, Int.reduceLT, Int.reduceLE]); all_goals fail) | exact q35' _) rfl ?_)
              | ((with_reducible refine chk_h ?_); refine hr_callP1 (by simp only [CA, Nat.reduceEqDiff, ↓reduceIte]; rfl) (by simp only [CA, Nat.reduceEqDiff, ↓reduceIte]; rfl) (by simp (disch := omega) only [CA, Nat.reduceEqDiff, ↓reduceIte, firstTok_nil, firstTok_sl, firstTok_sl0, firstTok_i, firstTok_b, firstTok_ag, firstTok_p, firstTok_s]; rfl) (by first | ((refine q _ ?_; simp (disch := omega) only [row_m hm, c14r0, c14r1, c14r2, c14r3, c14r4, c14r5, c14r6, c14r7, c14r8, c14r9, c14r10, c14r11, c14r12, EV0, EV1, EV2, EV3, EV4, EV5, EV6, EV7, EV8, VALS, plug, ite_same, decide_true, decide_false, eq_self, ↓reduceIte, reduceCtorEq, Nat.reduceAdd, Nat.reduceEqDiff, Nat.reduceLT, Nat.reduceLeDiff, Nat.reduceMul, Nat.reduceSub, Nat.reduceDiv, Int.reduceToNat, Int.reduceAdd, Int.reduceSub, Int.reduceMul, Int.reduceNeg, Int.reduceEq, Int.reduceLT, Int.reduceLE]); all_goals fail) | exact q35' _) rfl ?_)
              | ((with_reducible refine chk_h ?_); refine hr_app (by simp (disch := omega) only [hm, row_m hm, read_row (row_m hm), eK, kl, c14r0, c14r1, c14r2, c14r3, c14r4, c14r5, c14r6, c14r7, c14r8, c14r9, c14r10, c14r11, c14r12, EV0, EV1, EV2, EV3, EV4, EV5, EV6, EV7, EV8, VALS, plug, ite_same, decide_true, decide_false, eq_self, ↓reduceIte, reduceCtorEq, Nat.reduceAdd, Nat.reduceEqDiff, Nat.reduceLT, Nat.reduceLeDiff, Nat.reduceMul, Nat.reduceSub, Nat.reduceDiv, Int.reduceToNat, Int.reduceAdd, Int.reduceSub, Int.reduceMul, Int.reduceNeg, Int.reduceEq, Int.reduceLT, Int.reduceLE]; with_reducible rfl) rfl ?_)
              | (with_reducible refine k_condP (by simp only [GA, Nat.reduceEqDiff, ↓reduceIte]; rfl) (by first | (simp only [BO]; rfl) | rfl) (fun ht => ?_) (fun ht => ?_) <;> try (first | exact False.elim ht | exact absurd rfl ht | exact absurd trivial ht | exact Bool.noConfusion ht))
              | (with_reducible refine k_ret ?_; repeat with_reducible (first | refine ret_thru ?_ | refine ret_blk ?_ | refine fin ?_))
              | (with_reducible refine k_exit ?_; repeat with_reducible (first | refine thru ?_ | refine out_blk ?_ | refine pass (by decide) ?_))
              | (refine post1 ?_; simp only [GA, Nat.reduceEqDiff, ↓reduceIte])
              | (refine post2 ?_; simp only [GA, Nat.reduceEqDiff, ↓reduceIte])
              | (refine post3 ?_; simp only [GA, Nat.reduceEqDiff, ↓reduceIte])
              | (refine postc (by simp only [GA, Nat.reduceEqDiff, ↓reduceIte]; rfl) (by simp (disch := omega) only [hm, row_m hm, read_row (row_m hm), eK, kl, c14r0, c14r1, c14r2, c14r3, c14r4, c14r5, c14r6, c14r7, c14r8, c14r9, c14r10, c14r11, c14r12, EV0, EV1, EV2, EV3, EV4, EV5, EV6, EV7, EV8, VALS, plug, ite_same, decide_true, decide_false, eq_self, ↓reduceIte, reduceCtorEq, Nat.reduceAdd, Nat.reduceEqDiff, Nat.reduceLT, Nat.reduceLeDiff, Nat.reduceMul, Nat.reduceSub, Nat.reduceDiv, Int.reduceToNat, Int.reduceAdd, Int.reduceSub, Int.reduceMul, Int.reduceNeg, Int.reduceEq, Int.reduceLT, Int.reduceLE]; rfl) ?_)
              | refine post0 ?_
            exact endsW ⟨by first | (simp (disch := omega) only [putS, vK, c14r0, c14r1, c14r2, c14r3, c14r4, c14r5, c14r6, c14r7, c14r8, c14r9, c14r10, c14r11, c14r12, EV0, EV1, EV2, EV3, EV4, EV5, EV6, EV7, EV8, VALS, plug, ite_same, decide_true, decide_false, eq_self, ↓reduceIte, reduceCtorEq, Nat.reduceAdd, Nat.reduceEqDiff, Nat.reduceLT, Nat.reduceLeDiff, Nat.reduceMul, Nat.reduceSub, Nat.reduceDiv, Int.reduceToNat, Int.reduceAdd, Int.reduceSub, Int.reduceMul, Int.reduceNeg, Int.reduceEq, Int.reduceLT, Int.reduceLE] <;> rfl) | simp (disch := omega) only [putS, vK, c14r0, c14r1, c14r2, c14r3, c14r4, c14r5, c14r6, c14r7, c14r8, c14r9, c14r10, c14r11, c14r12, EV0, EV1, EV2, EV3, EV4, EV5, EV6, EV7, EV8, VALS, plug, ite_same, decide_true, decide_false, eq_self, ↓reduceIte, reduceCtorEq, Nat.reduceAdd, Nat.reduceEqDiff, Nat.reduceLT, Nat.reduceLeDiff, Nat.reduceMul, Nat.reduceSub, Nat.reduceDiv, Int.reduceToNat, Int.reduceAdd, Int.reduceSub, Int.reduceMul, Int.reduceNeg, Int.reduceEq, Int.reduceLT, Int.reduceLE], fun s h1 h2 => by simp (disch := omega) only [h2, putS, vK, c14r0, c14r1, c14r2, c14r3, c14r4, c14r5, c14r6, c14r7, c14r8, c14r9, c14r10, c14r11, c14r12, EV0, EV1, EV2, EV3, EV4, EV5, EV6, EV7, EV8, VALS, plug, ite_same, decide_true, decide_false, eq_self, ↓reduceIte, reduceCtorEq, Nat.reduceAdd, Nat.reduceEqDiff, Nat.reduceLT, Nat.reduceLeDiff, Nat.reduceMul, Nat.reduceSub, Nat.reduceDiv, Int.reduceToNat, Int.reduceAdd, Int.reduceSub, Int.reduceMul, Int.reduceNeg, Int.reduceEq, Int.reduceLT, Int.reduceLE], by simp (disch := omega) only [putS, vK, c14r0, c14r1, c14r2, c14r3, c14r4, c14r5, c14r6, c14r7, c14r8, c14r9, c14r10, c14r11, c14r12, EV0, EV1, EV2, EV3, EV4, EV5, EV6, EV7, EV8, VALS, plug, ite_same, decide_true, decide_false, eq_self, ↓reduceIte, reduceCtorEq, Nat.reduceAdd, Nat.reduceEqDiff, Nat.reduceLT, Nat.reduceLeDiff, Nat.reduceMul, Nat.reduceSub, Nat.reduceDiv, Int.reduceToNat, Int.reduceAdd, Int.reduceSub, Int.reduceMul, Int.reduceNeg, Int.reduceEq, Int.reduceLT, Int.reduceLE] <;> omega⟩
        · have h1' : ¬ left - 1 = 0 := by omega
          rw [wr_less rfl hs hl h1']
          rcases hs with rfl | rfl
          · repeat' first
              | with_reducible refine k_seq ?_
              | with_reducible refine k_skip ?_
              | with_reducible refine k_blkS ?_
              | with_reducible refine k_blkR ?_
              | with_reducible refine k_blkC ?_
              | with_reducible refine k_blkH ?_
              | with_reducible refine k_blkB ?_
              | with_reducible refine k_blkK ?_
              | with_reducible refine k_blkE ?_
              | with_reducible refine k_reg ?_
              | with_reducible refine k_head (by with_unfolding_all rfl) ?_
              | with_reducible refine k_headS ?_
              | (with_reducible refine SepK.mk ?_ ?_; (refine sepQ_P ?_; simp [sepQ, sepG, AOp.late, AOp.free, AOp.xs, AOp.isAl, tokNe, AV.tok, stS_get, strip, AX.val, c14r0, c14r1, c14r2, c14r3, c14r4, c14r5, c14r6, c14r7, c14r8, c14r9, c14r10, c14r11, c14r12, GA]; try omega))
              | with_reducible refine r_done ?_
              | with_reducible refine hr_done ?_
              | with_reducible refine s_go (by simp (disch := omega) only [hm, row_m hm, read_row (row_m hm), hl, h1', c14r0, c14r1, c14r2, c14r3, c14r4, c14r5, c14r6, c14r7, c14r8, c14r9, c14r10, c14r11, c14r12, EV0, EV1, EV2, EV3, EV4, EV5, EV6, EV7, EV8, VALS, plug, ite_same, decide_true, decide_false, eq_self, ↓reduceIte, reduceCtorEq, Nat.reduceAdd, Nat.reduceEqDiff, Nat.reduceLT, Nat.reduceLeDiff, Nat.reduceMul, Nat.reduceSub, Nat.reduceDiv, Int.reduceToNat, Int.reduceAdd, Int.reduceSub, Int.reduceMul, Int.reduceNeg, Int.reduceEq, Int.reduceLT, Int.reduceLE]; with_reducible rfl) ?_
              | with_reducible refine h_go (by with_unfolding_all rfl) (by simp (disch := omega) only [hm, row_m hm, read_row (row_m hm), hl, h1', c14r0, c14r1, c14r2, c14r3, c14r4, c14r5, c14r6, c14r7, c14r8, c14r9, c14r10, c14r11, c14r12, EV0, EV1, EV2, EV3, EV4, EV5, EV6, EV7, EV8, VALS, plug, ite_same, decide_true, decide_false, eq_self, ↓reduceIte, reduceCtorEq, Nat.reduceAdd, Nat.reduceEqDiff, Nat.reduceLT, Nat.reduceLeDiff, Nat.reduceMul, Nat.reduceSub, Nat.reduceDiv, Int.reduceToNat, Int.reduceAdd, Int.reduceSub, Int.reduceMul, Int.reduceNeg, Int.reduceEq, Int.reduceLT, Int.reduceLE]; with_reducible rfl) ?_
              | ((with_reducible refine chk_r ?_); refine r_callF (by simp only [CA, Nat.reduceEqDiff, ↓reduceIte]; rfl) (by exact rfl) (by simp only [CA, Nat.reduceEqDiff, ↓reduceIte]; rfl) rfl ?_)
              | ((with_reducible refine chk_h ?_); refine hr_callF (by simp only [CA, Nat.reduceEqDiff, ↓reduceIte]; rfl) (by exact rfl) (by simp only [CA, Nat.reduceEqDiff, ↓reduceIte]; rfl) rfl ?_)
              | ((with_reducible refine chk_r ?_); refine r_callP (by simp only [CA, Nat.reduceEqDiff, ↓reduceIte]; rfl) (by simp only [CA, Nat.reduceEqDiff, ↓reduceIte]; rfl) (by first | ((refine q _ ?_; simp (disch := omega) only [row_m hm, c14r0, c14r1, c14r2, c14r3, c14r4, c14r5, c14r6, c14r7, c14r8, c14r9, c14r10, c14r11, c14r12, EV0, EV1, EV2, EV3, EV4, EV5, EV6, EV7, EV8, VALS, plug, ite_same, decide_true, decide_false, eq_self, ↓reduceIte, reduceCtorEq, Nat.reduceAdd, Nat.reduceEqDiff, Nat.reduceLT, Nat.reduceLeDiff, Nat.reduceMul, Nat.reduceSub, Nat.reduceDiv, Int.reduceToNat, Int.reduceAdd, Int.reduceSub, Int.reduceMul, Int.reduceNeg, Int.reduceEq, Int.reduceLT, Int.reduceLE]); all_goals fail) | exact q35 _) rfl ?_)
              | ((with_reducible refine chk_h ?_); refine hr_callP (by simp only [CA, Nat.reduceEqDiff, ↓reduceIte]; rfl) (by simp only [CA, Nat.reduceEqDiff, ↓reduceIte]; rfl) (by first | ((refine q _ ?_; simp (disch := omega) only [row_m hm, c14r0, c14r1, c14r2, c14r3, c14r4, c14r5, c14r6, c14r7, c14r8, c14r9, c14r10, c14r11, c14r12, EV0, EV1, EV2, EV3, EV4, EV5, EV6, EV7, EV8, VALS, plug, ite_same, decide_true, decide_false, eq_self, ↓reduceIte, reduceCtorEq, Nat.reduceAdd, Nat.reduceEqDiff, Nat.reduceLT, Nat.reduceLeDiff, Nat.reduceMul, Nat.reduceSub, Nat.reduceDiv, Int.reduceToNat, Int.reduceAdd, Int.reduceSub, Int.reduceMul, Int.reduceNeg, Int.reduceEq, Int.reduceLT, Int.reduceLE]); all_goals fail) | exact q35 _) rfl ?_)
              | ((with_reducible refine chk_h ?_); refine hr_callP1 (by simp only [CA, Nat.reduceEqDiff, ↓reduceIte]; rfl) (by simp only [CA, Nat.reduceEqDiff, ↓reduceIte]; rfl) (by simp (disch := omega) only [CA, Nat.reduceEqDiff, ↓reduceIte, firstTok_nil, firstTok_sl, firstTok_sl0, firstTok_i, firstTok_b, firstTok_ag, firstTok_p, firstTok_s]; rfl) (by first | ((refine q _ ?_; simp (disch := omega) only [row_m hm, c14r0, c14r1, c14r2, c14r3, c14r4, c14r5, c14r6, c14r7, c14r8, c14r9, c14r10, c14r11, c14r12, EV0, EV1, EV2, EV3, EV4, EV5, EV6, EV7, EV8, VALS, plug, ite_same, decide_true, decide_false, eq_self, ↓reduceIte, reduceCtorEq, Nat.reduceAdd, Nat.reduceEqDiff, Nat.reduceLT, Nat.reduceLeDiff, Nat.reduceMul, Nat.reduceSub, Nat.reduceDiv, Int.reduceToNat, Int.reduceAdd, Int.reduceSub, Int.reduceMul, Int.reduceNeg, Int.reduceEq, Int.reduceLT, Int.reduceLE]); all_goals fail) | exact q35 _) rfl ?_)
              | ((with_reducible refine chk_h ?_); refine hr_app (by simp (disch := omega) only [hm, row_m hm, read_row (row_m hm), hl, h1', c14r0, c14r1, c14r2, c14r3, c14r4, c14r5, c14r6, c14r7, c14r8, c14r9, c14r10, c14r11, c14r12, EV0, EV1, EV2, EV3, EV4, EV5, EV6, EV7, EV8, VALS, plug, ite_same, decide_true, decide_false, eq_self, ↓reduceIte, reduceCtorEq, Nat.reduceAdd, Nat.reduceEqDiff, Nat.reduceLT, Nat.reduceLeDiff, Nat.reduceMul, Nat.reduceSub, Nat.reduceDiv, Int.reduceToNat, Int.reduceAdd, Int.reduceSub, Int.reduceMul, Int.reduceNeg, Int.reduceEq, Int.reduceLT, Int.reduceLE]; with_reducible rfl) rfl ?_)
              | (with_reducible refine k_condP (by simp only [GA, Nat.reduceEqDiff, ↓reduceIte]; rfl) (by first | (simp only [BO]; rfl) | rfl) (fun ht => ?_) (fun ht => ?_) <;> try (first | exact False.elim ht | exact absurd rfl ht | exact absurd trivial ht | exact Bool.noConfusion ht))
              | (with_reducible refine k_ret ?_; repeat with_reducible (first | refine ret_thru ?_ | refine ret_blk ?_ | refine fin ?_))
              | (with_reducible refine k_exit ?_; repeat with_reducible (first | refine thru ?_ | refine out_blk ?_ | refine pass (by decide) ?_))
              | (refine post1 ?_; simp only [GA, Nat.reduceEqDiff, ↓reduceIte])
              | (refine post2 ?_; simp only [GA, Nat.reduceEqDiff, ↓reduceIte])
              | (refine post3 ?_; simp only [GA, Nat.reduceEqDiff, ↓reduceIte])
              | (refine postc (by simp only [GA, Nat.reduceEqDiff, ↓reduceIte]; rfl) (by simp (disch := omega) only [hm, row_m hm, read_row (row_m hm), hl, h1', c14r0, c14r1, c14r2, c14r3, c14r4, c14r5, c14r6, c14r7, c14r8, c14r9, c14r10, c14r11, c14r12, EV0, EV1, EV2, EV3, EV4, EV5, EV6, EV7, EV8, VALS, plug, ite_same, decide_true, decide_false, eq_self, ↓reduceIte, reduceCtorEq, Nat.reduceAdd, Nat.reduceEqDiff, Nat.reduceLT, Nat.reduceLeDiff, Nat.reduceMul, Nat.reduceSub, Nat.reduceDiv, Int.reduceToNat, Int.reduceAdd, Int.reduceSub, Int.reduceMul, Int.reduceNeg, Int.reduceEq, Int.reduceLT, Int.reduceLE]; rfl) ?_)
              | refine post0 ?_
            exact endsW ⟨by first | (simp (disch := omega) only [putS, c14r0, c14r1, c14r2, c14r3, c14r4, c14r5, c14r6, c14r7, c14r8, c14r9, c14r10, c14r11, c14r12, EV0, EV1, EV2, EV3, EV4, EV5, EV6, EV7, EV8, VALS, plug, ite_same, decide_true, decide_false, eq_self, ↓reduceIte, reduceCtorEq, Nat.reduceAdd, Nat.reduceEqDiff, Nat.reduceLT, Nat.reduceLeDiff, Nat.reduceMul, Nat.reduceSub, Nat.reduceDiv, Int.reduceToNat, Int.reduceAdd, Int.reduceSub, Int.reduceMul, Int.reduceNeg, Int.reduceEq, Int.reduceLT, Int.reduceLE] <;> rfl) | simp (disch := omega) only [putS, c14r0, c14r1, c14r2, c14r3, c14r4, c14r5, c14r6, c14r7, c14r8, c14r9, c14r10, c14r11, c14r12, EV0, EV1, EV2, EV3, EV4, EV5, EV6, EV7, EV8, VALS, plug, ite_same, decide_true, decide_false, eq_self, ↓reduceIte, reduceCtorEq, Nat.reduceAdd, Nat.reduceEqDiff, Nat.reduceLT, Nat.reduceLeDiff, Nat.reduceMul, Nat.reduceSub, Nat.reduceDiv, Int.reduceToNat, Int.reduceAdd, Int.reduceSub, Int.reduceMul, Int.reduceNeg, Int.reduceEq, Int.reduceLT, Int.reduceLE], fun s h1 h2 => by simp (disch := omega) only [h2, putS, c14r0, c14r1, c14r2, c14r3, c14r4, c14r5, c14r6, c14r7, c14r8, c14r9, c14r10, c14r11, c14r12, EV0, EV1, EV2, EV3, EV4, EV5, EV6, EV7, EV8, VALS, plug, ite_same, decide_true, decide_false, eq_self, ↓reduceIte, reduceCtorEq, Nat.reduceAdd, Nat.reduceEqDiff, Nat.reduceLT, Nat.reduceLeDiff, Nat.reduceMul, Nat.reduceSub, Nat.reduceDiv, Int.reduceToNat, Int.reduceAdd, Int.reduceSub, Int.reduceMul, Int.reduceNeg, Int.reduceEq, Int.reduceLT, Int.reduceLE], by simp (disch := omega) only [putS, c14r0, c14r1, c14r2, c14r3, c14r4, c14r5, c14r6, c14r7, c14r8, c14r9, c14r10, c14r11, c14r12, EV0, EV1, EV2, EV3, EV4, EV5, EV6, EV7, EV8, VALS, plug, ite_same, decide_true, decide_false, eq_self, ↓reduceIte, reduceCtorEq, Nat.reduceAdd, Nat.reduceEqDiff, Nat.reduceLT, Nat.reduceLeDiff, Nat.reduceMul, Nat.reduceSub, Nat.reduceDiv, Int.reduceToNat, Int.reduceAdd, Int.reduceSub, Int.reduceMul, Int.reduceNeg, Int.reduceEq, Int.reduceLT, Int.reduceLE] <;> omega⟩
          · repeat' first
              | with_reducible refine k_seq ?_
              | with_reducible refine k_skip ?_
              | with_reducible refine k_blkS ?_
              | with_reducible refine k_blkR ?_
              | with_reducible refine k_blkC ?_
              | with_reducible refine k_blkH ?_
              | with_reducible refine k_blkB ?_
              | with_reducible refine k_blkK ?_
              | with_reducible refine k_blkE ?_
              | with_reducible refine k_reg ?_
              | with_reducible refine k_head (by with_unfolding_all rfl) ?_
              | with_reducible refine k_headS ?_
              | (with_reducible refine SepK.mk ?_ ?_; (refine sepQ_P ?_; simp [sepQ, sepG, AOp.late, AOp.free, AOp.xs, AOp.isAl, tokNe, AV.tok, stS_get, strip, AX.val, c14r0, c14r1, c14r2, c14r3, c14r4, c14r5, c14r6, c14r7, c14r8, c14r9, c14r10, c14r11, c14r12, GA]; try omega))
              | with_reducible refine r_done ?_
              | with_reducible refine hr_done ?_
              | with_reducible refine s_go (by simp (disch := omega) only [hm, row_m hm, read_row (row_m hm), hl, h1', c14r0, c14r1, c14r2, c14r3, c14r4, c14r5, c14r6, c14r7, c14r8, c14r9, c14r10, c14r11, c14r12, EV0, EV1, EV2, EV3, EV4, EV5, EV6, EV7, EV8, VALS, plug, ite_same, decide_true, decide_false, eq_self, ↓reduceIte, reduceCtorEq, Nat.reduceAdd, Nat.reduceEqDiff, Nat.reduceLT, Nat.reduceLeDiff, Nat.reduceMul, Nat.reduceSub, Nat.reduceDiv, Int.reduceToNat, Int.reduceAdd, Int.reduceSub, Int.reduceMul, Int.reduceNeg, Int.reduceEq, Int.reduceLT, Int.reduceLE]; with_reducible rfl) ?_
              | with_reducible refine h_go (by with_unfolding_all rfl) (by simp (disch := omega) only [hm, row_m hm, read_row (row_m hm), hl, h1', c14r0, c14r1, c14r2, c14r3, c14r4, c14r5, c14r6, c14r7, c14r8, c14r9, c14r10, c14r11, c14r12, EV0, EV1, EV2, EV3, EV4, EV5, EV6, EV7, EV8, VALS, plug, ite_same, decide_true, decide_false, eq_self, ↓reduceIte, reduceCtorEq, Nat.reduceAdd, Nat.reduceEqDiff, Nat.reduceLT, Nat.reduceLeDiff, Nat.reduceMul, Nat.reduceSub, Nat.reduceDiv, Int.reduceToNat, Int.reduceAdd, Int.reduceSub, Int.reduceMul, Int.reduceNeg, Int.reduceEq, Int.reduceLT, Int.reduceLE]; with_reducible rfl) ?_
              | ((with_reducible refine chk_r ?_); refine r_callF (by simp only [CA, Nat.reduceEqDiff, ↓reduceIte]; rfl) (by exact rfl) (by simp only [CA, Nat.reduceEqDiff, ↓reduceIte]; rfl) rfl ?_)
              | ((with_reducible refine chk_h ?_); refine hr_callF (by simp only [CA, Nat.reduceEqDiff, ↓reduceIte]; rfl) (by exact rfl) (by simp only [CA, Nat.reduceEqDiff, ↓reduceIte]; rfl) rfl ?_)
              | ((with_reducible refine chk_r ?_); refine r_callP (by simp only [CA, Nat.reduceEqDiff, ↓reduceIte]; rfl) (by simp only [CA, Nat.reduceEqDiff, ↓reduceIte]; rfl) (by first | ((refine q _ ?_; simp (disch := omega) only [row_m hm, c14r0, c14r1, c14r2, c14r3, c14r4, c14r5, c14r6, c14r7, c14r8, c14r9, c14r10, c14r11, c14r12, EV0, EV1, EV2, EV3, EV4, EV5, EV6, EV7, EV8, VALS, plug, ite_same, decide_true, decide_false, eq_self, ↓reduceIte, reduceCtorEq, Nat.reduceAdd, Nat.reduceEqDiff, Nat.reduceLT, Nat.reduceLeDiff, Nat.reduceMul, Nat.reduceSub, Nat.reduceDiv, Int.reduceToNat, Int.reduceAdd, Int.reduceSub, Int.reduceMul, Int.reduceNeg, Int.reduceEq, Int.reduceLT, Int.reduceLE]); all_goals fail) | exact q35 _) rfl ?_)
              | ((with_reducible refine chk_h ?_); refine hr_callP (by simp only [CA, Nat.reduceEqDiff, ↓reduceIte]; rfl) (by simp only [CA, Nat.reduceEqDiff, ↓reduceIte]; rfl) (by first | ((refine q _ ?_; simp (disch := omega) only [row_m hm, c14r0, c14r1, c14r2, c14r3, c14r4, c14r5, c14r6, c14r7, c14r8, c14r9, c14r10, c14r11, c14r12, EV0, EV1, EV2, EV3, EV4, EV5, EV6, EV7, EV8, VALS, plug, ite_same, decide_true, decide_false, eq_self, ↓reduceIte, reduceCtorEq, Nat.reduceAdd, Nat.reduceEqDiff, Nat.reduceLT, Nat.reduceLeDiff, Nat.reduceMul, Nat.reduceSub, Nat.reduceDiv, Int.reduceToNat, Int.reduceAdd, Int.reduceSub, Int.reduceMul, Int.reduceNeg, Int.reduceEq, Int.reduceLT, Int.reduceLE]); all_goals fail) | exact q35 _) rfl ?_)
              | ((with_reducible refine chk_h ?_); refine hr_callP1 (by simp only [CA, Nat.reduceEqDiff, ↓reduceIte]; rfl) (by simp only [CA, Nat.reduceEqDiff, ↓reduceIte]; rfl) (by simp (disch := omega) only [CA, Nat.reduceEqDiff, ↓reduceIte, firstTok_nil, firstTok_sl, firstTok_sl0, firstTok_i, firstTok_b, firstTok_ag, firstTok_p, firstTok_s]; rfl) (by first | ((refine q _ ?_; simp (disch := omega) only [row_m hm, c14r0, c14r1, c14r2, c14r3, c14r4, c14r5, c14r6, c14r7, c14r8, c14r9, c14r10, c14r11, c14r12, EV0, EV1, EV2, EV3, EV4, EV5, EV6, EV7, EV8, VALS, plug, ite_same, decide_true, decide_false, eq_self, ↓reduceIte, reduceCtorEq, Nat.reduceAdd, Nat.reduceEqDiff, Nat.reduceLT, Nat.reduceLeDiff, Nat.reduceMul, Nat.reduceSub, Nat.reduceDiv, Int.reduceToNat, Int.reduceAdd, Int.reduceSub, Int.reduceMul, Int.reduceNeg, Int.reduceEq, Int.reduceLT, Int.reduceLE]); all_goals fail) | exact q35 _) rfl ?_)
              | ((with_reducible refine chk_h ?_); refine hr_app (by simp (disch := omega) only [hm, row_m hm, read_row (row_m hm), hl, h1', c14r0, c14r1, c14r2, c14r3, c14r4, c14r5, c14r6, c14r7, c14r8, c14r9, c14r10, c14r11, c14r12, EV0, EV1, EV2, EV3, EV4, EV5, EV6, EV7, EV8, VALS, plug, ite_same, decide_true, decide_false, eq_self, ↓reduceIte, reduceCtorEq, Nat.reduceAdd, Nat.reduceEqDiff, Nat.reduceLT, Nat.reduceLeDiff, Nat.reduceMul, Nat.reduceSub, Nat.reduceDiv, Int.reduceToNat, Int.reduceAdd, Int.reduceSub, Int.reduceMul, Int.reduceNeg, Int.reduceEq, Int.reduceLT, Int.reduceLE]; with_reducible rfl) rfl ?_)
              | (with_reducible refine k_condP (by simp only [GA, Nat.reduceEqDiff, ↓reduceIte]; rfl) (by first | (simp only [BO]; rfl) | rfl) (fun ht => ?_) (fun ht => ?_) <;> try (first | exact False.elim ht | exact absurd rfl ht | exact absurd trivial ht | exact Bool.noConfusion ht))
              | (with_reducible refine k_ret ?_; repeat with_reducible (first | refine ret_thru ?_ | refine ret_blk ?_ | refine fin ?_))
              | (with_reducible refine k_exit ?_; repeat with_reducible (first | refine thru ?_ | refine out_blk ?_ | refine pass (by decide) ?_))
              | (refine post1 ?_; simp only [GA, Nat.reduceEqDiff, ↓reduceIte])
              | (refine post2 ?_; simp only [GA, Nat.reduceEqDiff, ↓reduceIte])
              | (refine post3 ?_; simp only [GA, Nat.reduceEqDiff, ↓reduceIte])
              | (refine postc (by simp only [GA, Nat.reduceEqDiff, ↓reduceIte]; rfl) (by simp (disch := omega) only [hm, row_m hm, read_row (row_m hm), hl, h1', c14r0, c14r1, c14r2, c14r3, c14r4, c14r5, c14r6, c14r7, c14r8, c14r9, c14r10, c14r11, c14r12, EV0, EV1, EV2, EV3, EV4, EV5, EV6, EV7, EV8, VALS, plug, ite_same, decide_true, decide_false, eq_self, ↓reduceIte, reduceCtorEq, Nat.reduceAdd, Nat.reduceEqDiff, Nat.reduceLT, Nat.reduceLeDiff, Nat.reduceMul, Nat.reduceSub, Nat.reduceDiv, Int.reduceToNat, Int.reduceAdd, Int.reduceSub, Int.reduceMul, Int.reduceNeg, Int.reduceEq, Int.reduceLT, Int.reduceLE]; rfl) ?_)
              | refine post0 ?_
            exact endsW ⟨by first | (simp (disch := omega) only [putS, c14r0, c14r1, c14r2, c14r3, c14r4, c14r5, c14r6, c14r7, c14r8, c14r9, c14r10, c14r11, c14r12, EV0, EV1, EV2, EV3, EV4, EV5, EV6, EV7, EV8, VALS, plug, ite_same, decide_true, decide_false, eq_self, ↓reduceIte, reduceCtorEq, Nat.reduceAdd, Nat.reduceEqDiff, Nat.reduceLT, Nat.reduceLeDiff, Nat.reduceMul, Nat.reduceSub, Nat.reduceDiv, Int.reduceToNat, Int.reduceAdd, Int.reduceSub, Int.reduceMul, Int.reduceNeg, Int.reduceEq, Int.reduceLT, Int.reduceLE] <;> rfl) | simp (disch := omega) only [putS, c14r0, c14r1, c14r2, c14r3, c14r4, c14r5, c14r6, c14r7, c14r8, c14r9, c14r10, c14r11, c14r12, EV0, EV1, EV2, EV3, EV4, EV5, EV6, EV7, EV8, VALS, plug, ite_same, decide_true, decide_false, eq_self, ↓reduceIte, reduceCtorEq, Nat.reduceAdd, Nat.reduceEqDiff, Nat.reduceLT, Nat.reduceLeDiff, Nat.reduceMul, Nat.reduceSub, Nat.reduceDiv, Int.reduceToNat, Int.reduceAdd, Int.reduceSub, Int.reduceMul, Int.reduceNeg, Int.reduceEq, Int.reduceLT, Int.reduceLE], fun s h1 h2 => by simp (disch := omega) only [h2, putS, c14r0, c14r1, c14r2, c14r3, c14r4, c14r5, c14r6, c14r7, c14r8, c14r9, c14r10, c14r11, c14r12, EV0, EV1, EV2, EV3, EV4, EV5, EV6, EV7, EV8, VALS, plug, ite_same, decide_true, decide_false, eq_self, ↓reduceIte, reduceCtorEq, Nat.reduceAdd, Nat.reduceEqDiff, Nat.reduceLT, Nat.reduceLeDiff, Nat.reduceMul, Nat.reduceSub, Nat.reduceDiv, Int.reduceToNat, Int.reduceAdd, Int.reduceSub, Int.reduceMul, Int.reduceNeg, Int.reduceEq, Int.reduceLT, Int.reduceLE], by simp (disch := omega) only [putS, c14r0, c14r1, c14r2, c14r3, c14r4, c14r5, c14r6, c14r7, c14r8, c14r9, c14r10, c14r11, c14r12, EV0, EV1, EV2, EV3, EV4, EV5, EV6, EV7, EV8, VALS, plug, ite_same, decide_true, decide_false, eq_self, ↓reduceIte, reduceCtorEq, Nat.reduceAdd, Nat.reduceEqDiff, Nat.reduceLT, Nat.reduceLeDiff, Nat.reduceMul, Nat.reduceSub, Nat.reduceDiv, Int.reduceToNat, Int.reduceAdd, Int.reduceSub, Int.reduceMul, Int.reduceNeg, Int.reduceEq, Int.reduceLT, Int.reduceLE] <;> omega⟩
      · rw [wr_ok rfl hs hl]
        rcases hs with rfl | rfl
        · repeat' first
            | with_reducible refine k_seq ?_
            | with_reducible refine k_skip ?_
            | with_reducible refine k_blkS ?_
            | with_reducible refine k_blkR ?_
            | with_reducible refine k_blkC ?_
            | with_reducible refine k_blkH ?_
            | with_reducible refine k_blkB ?_
            | with_reducible refine k_blkK ?_
            | with_reducible refine k_blkE ?_
            | with_reducible refine k_reg ?_
            | with_reducible refine k_head (by with_unfolding_all rfl) ?_
            | with_reducible refine k_headS ?_
            | (with_reducible refine SepK.mk ?_ ?_; (refine sepQ_P ?_; simp [sepQ, sepG, AOp.late, AOp.free, AOp.xs, AOp.isAl, tokNe, AV.tok, stS_get, strip, AX.val, c14r0, c14r1, c14r2, c14r3, c14r4, c14r5, c14r6, c14r7, c14r8, c14r9, c14r10, c14r11, c14r12, GA]; try omega))
            | with_reducible refine r_done ?_
            | with_reducible refine hr_done ?_
            | with_reducible refine s_go (by simp (disch := omega) only [hm, row_m hm, read_row (row_m hm), hl, c14r0, c14r1, c14r2, c14r3, c14r4, c14r5, c14r6, c14r7, c14r8, c14r9, c14r10, c14r11, c14r12, EV0, EV1, EV2, EV3, EV4, EV5, EV6, EV7, EV8, VALS, plug, ite_same, decide_true, decide_false, eq_self, ↓reduceIte, reduceCtorEq, Nat.reduceAdd, Nat.reduceEqDiff, Nat.reduceLT, Nat.reduceLeDiff, Nat.reduceMul, Nat.reduceSub, Nat.reduceDiv, Int.reduceToNat, Int.reduceAdd, Int.reduceSub, Int.reduceMul, Int.reduceNeg, Int.reduceEq, Int.reduceLT, Int.reduceLE]; with_reducible rfl) ?_
            | with_reducible refine h_go (by with_unfolding_all rfl) (by simp (disch := omega) only [hm, row_m hm, read_row (row_m hm), hl, c14r0, c14r1, c14r2, c14r3, c14r4, c14r5, c14r6, c14r7, c14r8, c14r9, c14r10, c14r11, c14r12, EV0, EV1, EV2, EV3, EV4, EV5, EV6, EV7, EV8, VALS, plug, ite_same, decide_true, decide_false, eq_self, ↓reduceIte, reduceCtorEq, Nat.reduceAdd, Nat.reduceEqDiff, Nat.reduceLT, Nat.reduceLeDiff, Nat.reduceMul, Nat.reduceSub, Nat.reduceDiv, Int.reduceToNat, Int.reduceAdd, Int.reduceSub, Int.reduceMul, Int.reduceNeg, Int.reduceEq, Int.reduceLT, Int.reduceLE]; with_reducible rfl) ?_
            | ((with_reducible refine chk_r ?_); refine r_callF (by simp only [CA, Nat.reduceEqDiff, ↓reduceIte]; rfl) (by exact rfl) (by simp only [CA, Nat.reduceEqDiff, ↓reduceIte]; rfl) rfl ?_)
            | ((with_reducible refine chk_h ?_); refine hr_callF (by simp only [CA, Nat.reduceEqDiff, ↓reduceIte]; rfl) (by exact rfl) (by simp only [CA, Nat.reduceEqDiff, ↓reduceIte]; rfl) rfl ?_)
            | ((with_reducible refine chk_r ?_); refine r_callP (by simp only [CA, Nat.reduceEqDiff, ↓reduceIte]; rfl) (by simp only [CA, Nat.reduceEqDiff, ↓reduceIte]; rfl) (by first | ((refine q _ ?_; simp (disch := omega) only [row_m hm, c14r0, c14r1, c14r2, c14r3, c14r4, c14r5, c14r6, c14r7, c14r8, c14r9, c14r10, c14r11, c14r12, EV0, EV1, EV2, EV3, EV4, EV5, EV6, EV7, EV8, VALS, plug, ite_same, decide_true, decide_false, eq_self, ↓reduceIte, reduceCtorEq, Nat.reduceAdd, Nat.reduceEqDiff, Nat.reduceLT, Nat.reduceLeDiff, Nat.reduceMul, Nat.reduceSub, Nat.reduceDiv, Int.reduceToNat, Int.reduceAdd, Int.reduceSub, Int.reduceMul, Int.reduceNeg, Int.reduceEq, Int.reduceLT, Int.reduceLE]); all_goals fail) | exact q35 _) rfl ?_)
            | ((with_reducible refine chk_h ?_); refine hr_callP (by simp only [CA, Nat.reduceEqDiff, ↓reduceIte]; rfl) (by simp only [CA, Nat.reduceEqDiff, ↓reduceIte]; rfl) (by first | ((refine q _ ?_; simp (disch := omega) only [row_m hm, c14r0, c14r1, c14r2, c14r3, c14r4, c14r5, c14r6, c14r7, c14r8, c14r9, c14r10, c14r11, c14r12, EV0, EV1, EV2, EV3, EV4, EV5, EV6, EV7, EV8, VALS, plug, ite_same, decide_true, decide_false, eq_self, ↓reduceIte, reduceCtorEq, Nat.reduceAdd, Nat.reduceEqDiff, Nat.reduceLT, Nat.reduceLeDiff, Nat.reduceMul, Nat.reduceSub, Nat.reduceDiv, Int.reduceToNat, Int.reduceAdd, Int.reduceSub, Int.reduceMul, Int.reduceNeg, Int.reduceEq, Int.reduceLT, Int.reduceLE]); all_goals fail) | exact q35 _) rfl ?_)
            | ((with_reducible refine chk_h ?_); refine hr_callP1 (by simp only [CA, Nat.reduceEqDiff, ↓reduceIte]; rfl) (by simp only [CA, Nat.reduceEqDiff, ↓reduceIte]; rfl) (by simp (disch := omega) only [CA, Nat.reduceEqDiff, ↓reduceIte, firstTok_nil, firstTok_sl, firstTok_sl0, firstTok_i, firstTok_b, firstTok_ag, firstTok_p, firstTok_s]; rfl) (by first | ((refine q _ ?_; simp (disch := omega) only [row_m hm, c14r0, c14r1, c14r2, c14r3, c14r4, c14r5, c14r6, c14r7, c14r8, c14r9, c14r10, c14r11, c14r12, EV0, EV1, EV2, EV3, EV4, EV5, EV6, EV7, EV8, VALS, plug, ite_same, decide_true, decide_false, eq_self, ↓reduceIte, reduceCtorEq, Nat.reduceAdd, Nat.reduceEqDiff, Nat.reduceLT, Nat.reduceLeDiff, Nat.reduceMul, Nat.reduceSub, Nat.reduceDiv, Int.reduceToNat, Int.reduceAdd, Int.reduceSub, Int.reduceMul, Int.reduceNeg, Int.reduceEq, Int.reduceLT, Int.reduceLE]); all_goals fail) | exact q35 _) rfl ?_)
            | ((with_reducible refine chk_h ?_); refine hr_app (by simp (disch := omega) only [hm, row_m hm, read_row (row_m hm), hl, c14r0, c14r1, c14r2, c14r3, c14r4, c14r5, c14r6, c14r7, c14r8, c14r9, c14r10, c14r11, c14r12, EV0, EV1, EV2, EV3, EV4, EV5, EV6, EV7, EV8, VALS, plug, ite_same, decide_true, decide_false, eq_self, ↓reduceIte, reduceCtorEq, Nat.reduceAdd, Nat.reduceEqDiff, Nat.reduceLT, Nat.reduceLeDiff, Nat.reduceMul, Nat.reduceSub, Nat.reduceDiv, Int.reduceToNat, Int.reduceAdd, Int.reduceSub, Int.reduceMul, Int.reduceNeg, Int.reduceEq, Int.reduceLT, Int.reduceLE]; with_reducible rfl) rfl ?_)
            | (with_reducible refine k_condP (by simp only [GA, Nat.reduceEqDiff, ↓reduceIte]; rfl) (by first | (simp only [BO]; rfl) | rfl) (fun ht => ?_) (fun ht => ?_) <;> try (first | exact False.elim ht | exact absurd rfl ht | exact absurd trivial ht | exact Bool.noConfusion ht))
            | (with_reducible refine k_ret ?_; repeat with_reducible (first | refine ret_thru ?_ | refine ret_blk ?_ | refine fin ?_))
            | (with_reducible refine k_exit ?_; repeat with_reducible (first | refine thru ?_ | refine out_blk ?_ | refine pass (by decide) ?_))
            | (refine post1 ?_; simp only [GA, Nat.reduceEqDiff, ↓reduceIte])
            | (refine post2 ?_; simp only [GA, Nat.reduceEqDiff, ↓reduceIte])
            | (refine post3 ?_; simp only [GA, Nat.reduceEqDiff, ↓reduceIte])
            | (refine postc (by simp only [GA, Nat.reduceEqDiff, ↓reduceIte]; rfl) (by simp (disch := omega) only [hm, row_m hm, read_row (row_m hm), hl, c14r0, c14r1, c14r2, c14r3, c14r4, c14r5, c14r6, c14r7, c14r8, c14r9, c14r10, c14r11, c14r12, EV0, EV1, EV2, EV3, EV4, EV5, EV6, EV7, EV8, VALS, plug, ite_same, decide_true, decide_false, eq_self, ↓reduceIte, reduceCtorEq, Nat.reduceAdd, Nat.reduceEqDiff, Nat.reduceLT, Nat.reduceLeDiff, Nat.reduceMul, Nat.reduceSub, Nat.reduceDiv, Int.reduceToNat, Int.reduceAdd, Int.reduceSub, Int.reduceMul, Int.reduceNeg, Int.reduceEq, Int.reduceLT, Int.reduceLE]; rfl) ?_)
            | refine post0 ?_
          exact endsW ⟨by first | (simp (disch := omega) only [putS, c14r0, c14r1, c14r2, c14r3, c14r4, c14r5, c14r6, c14r7, c14r8, c14r9, c14r10, c14r11, c14r12, EV0, EV1, EV2, EV3, EV4, EV5, EV6, EV7, EV8, VALS, plug, ite_same, decide_true, decide_false, eq_self, ↓reduceIte, reduceCtorEq, Nat.reduceAdd, Nat.reduceEqDiff, Nat.reduceLT, Nat.reduceLeDiff, Nat.reduceMul, Nat.reduceSub, Nat.reduceDiv, Int.reduceToNat, Int.reduceAdd, Int.reduceSub, Int.reduceMul, Int.reduceNeg, Int.reduceEq, Int.reduceLT, Int.reduceLE] <;> rfl) | simp (disch := omega) only [putS, c14r0, c14r1, c14r2, c14r3, c14r4, c14r5, c14r6, c14r7, c14r8, c14r9, c14r10, c14r11, c14r12, EV0, EV1, EV2, EV3, EV4, EV5, EV6, EV7, EV8, VALS, plug, ite_same, decide_true, decide_false, eq_self, ↓reduceIte, reduceCtorEq, Nat.reduceAdd, Nat.reduceEqDiff, Nat.reduceLT, Nat.reduceLeDiff, Nat.reduceMul, Nat.reduceSub, Nat.reduceDiv, Int.reduceToNat, Int.reduceAdd, Int.reduceSub, Int.reduceMul, Int.reduceNeg, Int.reduceEq, Int.reduceLT, Int.reduceLE], fun s h1 h2 => by simp (disch := omega) only [h2, putS, c14r0, c14r1, c14r2, c14r3, c14r4, c14r5, c14r6, c14r7, c14r8, c14r9, c14r10, c14r11, c14r12, EV0, EV1, EV2, EV3, EV4, EV5, EV6, EV7, EV8, VALS, plug, ite_same, decide_true, decide_false, eq_self, ↓reduceIte, reduceCtorEq, Nat.reduceAdd, Nat.reduceEqDiff, Nat.reduceLT, Nat.reduceLeDiff, Nat.reduceMul, Nat.reduceSub, Nat.reduceDiv, Int.reduceToNat, Int.reduceAdd, Int.reduceSub, Int.reduceMul, Int.reduceNeg, Int.reduceEq, Int.reduceLT, Int.reduceLE], by simp (disch := omega) only [putS, c14r0, c14r1, c14r2, c14r3, c14r4, c14r5, c14r6, c14r7, c14r8, c14r9, c14r10, c14r11, c14r12, EV0, EV1, EV2, EV3, EV4, EV5, EV6, EV7, EV8, VALS, plug, ite_same, decide_true, decide_false, eq_self, ↓reduceIte, reduceCtorEq, Nat.reduceAdd, Nat.reduceEqDiff, Nat.reduceLT, Nat.reduceLeDiff, Nat.reduceMul, Nat.reduceSub, Nat.reduceDiv, Int.reduceToNat, Int.reduceAdd, Int.reduceSub, Int.reduceMul, Int.reduceNeg, Int.reduceEq, Int.reduceLT, Int.reduceLE] <;> omega⟩
        · repeat' first
            | with_reducible refine k_seq ?_
            | with_reducible refine k_skip ?_
            | with_reducible refine k_blkS ?_
            | with_reducible refine k_blkR ?_
            | with_reducible refine k_blkC ?_
            | with_reducible refine k_blkH ?_
            | with_reducible refine k_blkB ?_
            | with_reducible refine k_blkK ?_
            | with_reducible refine k_blkE ?_
            | with_reducible refine k_reg ?_
            | with_reducible refine k_head (by with_unfolding_all rfl) ?_
            | with_reducible refine k_headS ?_
            | (with_reducible refine SepK.mk ?_ ?_; (refine sepQ_P ?_; simp [sepQ, sepG, AOp.late, AOp.free, AOp.xs, AOp.isAl, tokNe, AV.tok, stS_get, strip, AX.val, c14r0, c14r1, c14r2, c14r3, c14r4, c14r5, c14r6, c14r7, c14r8, c14r9, c14r10, c14r11, c14r12, GA]; try omega))
            | with_reducible refine r_done ?_
            | with_reducible refine hr_done ?_
            | with_reducible refine s_go (by simp (disch := omega) only [hm, row_m hm, read_row (row_m hm), hl, c14r0, c14r1, c14r2, c14r3, c14r4, c14r5, c14r6, c14r7, c14r8, c14r9, c14r10, c14r11, c14r12, EV0, EV1, EV2, EV3, EV4, EV5, EV6, EV7, EV8, VALS, plug, ite_same, decide_true, decide_false, eq_self, ↓reduceIte, reduceCtorEq, Nat.reduceAdd, Nat.reduceEqDiff, Nat.reduceLT, Nat.reduceLeDiff, Nat.reduceMul, Nat.reduceSub, Nat.reduceDiv, Int.reduceToNat, Int.reduceAdd, Int.reduceSub, Int.reduceMul, Int.reduceNeg, Int.reduceEq, Int.reduceLT, Int.reduceLE]; with_reducible rfl) ?_
            | with_reducible refine h_go (by with_unfolding_all rfl) (by simp (disch := omega) only [hm, row_m hm, read_row (row_m hm), hl, c14r0, c14r1, c14r2, c14r3, c14r4, c14r5, c14r6, c14r7, c14r8, c14r9, c14r10, c14r11, c14r12, EV0, EV1, EV2, EV3, EV4, EV5, EV6, EV7, EV8, VALS, plug, ite_same, decide_true, decide_false, eq_self, ↓reduceIte, reduceCtorEq, Nat.reduceAdd, Nat.reduceEqDiff, Nat.reduceLT, Nat.reduceLeDiff, Nat.reduceMul, Nat.reduceSub, Nat.reduceDiv, Int.reduceToNat, Int.reduceAdd, Int.reduceSub, Int.reduceMul, Int.reduceNeg, Int.reduceEq, Int.reduceLT, Int.reduceLE]; with_reducible rfl) ?_
            | ((with_reducible refine chk_r ?_); refine r_callF (by simp only [CA, Nat.reduceEqDiff, ↓reduceIte]; rfl) (by exact rfl) (by simp only [CA, Nat.reduceEqDiff, ↓reduceIte]; rfl) rfl ?_)
            | ((with_reducible refine chk_h ?_); refine hr_callF (by simp only [CA, Nat.reduceEqDiff, ↓reduceIte]; rfl) (by exact rfl) (by simp only [CA, Nat.reduceEqDiff, ↓reduceIte]; rfl) rfl ?_)
            | ((with_reducible refine chk_r ?_); refine r_callP (by simp only [CA, Nat.reduceEqDiff, ↓reduceIte]; rfl) (by simp only [CA, Nat.reduceEqDiff, ↓reduceIte]; rfl) (by first | ((refine q _ ?_; simp (disch := omega) only [row_m hm, c14r0, c14r1, c14r2, c14r3, c14r4, c14r5, c14r6, c14r7, c14r8, c14r9, c14r10, c14r11, c14r12, EV0, EV1, EV2, EV3, EV4, EV5, EV6, EV7, EV8, VALS, plug, ite_same, decide_true, decide_false, eq_self, ↓reduceIte, reduceCtorEq, Nat.reduceAdd, Nat.reduceEqDiff, Nat.reduceLT, Nat.reduceLeDiff, Nat.reduceMul, Nat.reduceSub, Nat.reduceDiv, Int.reduceToNat, Int.reduceAdd, Int.reduceSub, Int.reduceMul, Int.reduceNeg, Int.reduceEq, Int.reduceLT, Int.reduceLE]); all_goals fail) | exact q35 _) rfl ?_)
            | ((with_reducible refine chk_h ?_); refine hr_callP (by simp only [CA, Nat.reduceEqDiff, ↓reduceIte]; rfl) (by simp only [CA, Nat.reduceEqDiff, ↓reduceIte]; rfl) (by first | ((refine q _ ?_; simp (disch := omega) only [row_m hm, c14r0, c14r1, c14r2, c14r3, c14r4, c14r5, c14r6, c14r7, c14r8, c14r9, c14r10, c14r11, c14r12, EV0, EV1, EV2, EV3, EV4, EV5, EV6, EV7, EV8, VALS, plug, ite_same, decide_true, decide_false, eq_self, ↓reduceIte, reduceCtorEq, Nat.reduceAdd, Nat.reduceEqDiff, Nat.reduceLT, Nat.reduceLeDiff, Nat.reduceMul, Nat.reduceSub, Nat.reduceDiv, Int.reduceToNat, Int.reduceAdd, Int.reduceSub, Int.reduceMul, Int.reduceNeg, Int.reduceEq, Int.reduceLT, Int.reduceLE]); all_goals fail) | exact q35 _) rfl ?_)
            | ((with_reducible refine chk_h ?_); refine hr_callP1 (by simp only [CA, Nat.reduceEqDiff, ↓reduceIte]; rfl) (by simp only [CA, Nat.reduceEqDiff, ↓reduceIte]; rfl) (by simp (disch := omega) only [CA, Nat.reduceEqDiff, ↓reduceIte, firstTok_nil, firstTok_sl, firstTok_sl0, firstTok_i, firstTok_b, firstTok_ag, firstTok_p, firstTok_s]; rfl) (by first | ((refine q _ ?_; simp (disch := omega) only [row_m hm, c14r0, c14r1, c14r2, c14r3, c14r4, c14r5, c14r6, c14r7, c14r8, c14r9, c14r10, c14r11, c14r12, EV0, EV1, EV2, EV3, EV4, EV5, EV6, EV7, EV8, VALS, plug, ite_same, decide_true, decide_false, eq_self, ↓reduceIte, reduceCtorEq, Nat.reduceAdd, Nat.reduceEqDiff, Nat.reduceLT, Nat.reduceLeDiff, Nat.reduceMul, Nat.reduceSub, Nat.reduceDiv, Int.reduceToNat, Int.reduceAdd, Int.reduceSub, Int.reduceMul, Int.reduceNeg, Int.reduceEq, Int.reduceLT, Int.reduceLE]); all_goals fail) | exact q35 _) rfl ?_)
            | ((with_reducible refine chk_h ?_); refine hr_app (by simp (disch := omega) only [hm, row_m hm, read_row (row_m hm), hl, c14r0, c14r1, c14r2, c14r3, c14r4, c14r5, c14r6, c14r7, c14r8, c14r9, c14r10, c14r11, c14r12, EV0, EV1, EV2, EV3, EV4, EV5, EV6, EV7, EV8, VALS, plug, ite_same, decide_true, decide_false, eq_self, ↓reduceIte, reduceCtorEq, Nat.reduceAdd, Nat.reduceEqDiff, Nat.reduceLT, Nat.reduceLeDiff, Nat.reduceMul, Nat.reduceSub, Nat.reduceDiv, Int.reduceToNat, Int.reduceAdd, Int.reduceSub, Int.reduceMul, Int.reduceNeg, Int.reduceEq, Int.reduceLT, Int.reduceLE]; with_reducible rfl) rfl ?_)
            | (with_reducible refine k_condP (by simp only [GA, Nat.reduceEqDiff, ↓reduceIte]; rfl) (by first | (simp only [BO]; rfl) | rfl) (fun ht => ?_) (fun ht => ?_) <;> try (first | exact False.elim ht | exact absurd rfl ht | exact absurd trivial ht | exact Bool.noConfusion ht))
            | (with_reducible refine k_ret ?_; repeat with_reducible (first | refine ret_thru ?_ | refine ret_blk ?_ | refine fin ?_))
            | (with_reducible refine k_exit ?_; repeat with_reducible (first | refine thru ?_ | refine out_blk ?_ | refine pass (by decide) ?_))
            | (refine post1 ?_; simp only [GA, Nat.reduceEqDiff, ↓reduceIte])
            | (refine post2 ?_; simp only [GA, Nat.reduceEqDiff, ↓reduceIte])
            | (refine post3 ?_; simp only [GA, Nat.reduceEqDiff, ↓reduceIte])
            | (refine postc (by simp only [GA, Nat.reduceEqDiff, ↓reduceIte]; rfl) (by simp (disch := omega) only [hm, row_m hm, read_row (row_m hm), hl, c14r0, c14r1, c14r2, c14r3, c14r4, c14r5, c14r6, c14r7, c14r8, c14r9, c14r10, c14r11, c14r12, EV0, EV1, EV2, EV3, EV4, EV5, EV6, EV7, EV8, VALS, plug, ite_same, decide_true, decide_false, eq_self, ↓reduceIte, reduceCtorEq, Nat.reduceAdd, Nat.reduceEqDiff, Nat.reduceLT, Nat.reduceLeDiff, Nat.reduceMul, Nat.reduceSub, Nat.reduceDiv, Int.reduceToNat, Int.reduceAdd, Int.reduceSub, Int.reduceMul, Int.reduceNeg, Int.reduceEq, Int.reduceLT, Int.reduceLE]; rfl) ?_)
            | refine post0 ?_
          exact endsW ⟨by first | (simp (disch := omega) only [putS, c14r0, c14r1, c14r2, c14r3, c14r4, c14r5, c14r6, c14r7, c14r8, c14r9, c14r10, c14r11, c14r12, EV0, EV1, EV2, EV3, EV4, EV5, EV6, EV7, EV8, VALS, plug, ite_same, decide_true, decide_false, eq_self, ↓reduceIte, reduceCtorEq, Nat.reduceAdd, Nat.reduceEqDiff, Nat.reduceLT, Nat.reduceLeDiff, Nat.reduceMul, Nat.reduceSub, Nat.reduceDiv, Int.reduceToNat, Int.reduceAdd, Int.reduceSub, Int.reduceMul, Int.reduceNeg, Int.reduceEq, Int.reduceLT, Int.reduceLE] <;> rfl) | simp (disch := omega) only [putS, c14r0, c14r1, c14r2, c14r3, c14r4, c14r5, c14r6, c14r7, c14r8, c14r9, c14r10, c14r11, c14r12, EV0, EV1, EV2, EV3, EV4, EV5, EV6, EV7, EV8, VALS, plug, ite_same, decide_true, decide_false, eq_self, ↓reduceIte, reduceCtorEq, Nat.reduceAdd, Nat.reduceEqDiff, Nat.reduceLT, Nat.reduceLeDiff, Nat.reduceMul, Nat.reduceSub, Nat.reduceDiv, Int.reduceToNat, Int.reduceAdd, Int.reduceSub, Int.reduceMul, Int.reduceNeg, Int.reduceEq, Int.reduceLT, Int.reduceLE], fun s h1 h2 => by simp (disch := omega) only [h2, putS, c14r0, c14r1, c14r2, c14r3, c14r4, c14r5, c14r6, c14r7, c14r8, c14r9, c14r10, c14r11, c14r12, EV0, EV1, EV2, EV3, EV4, EV5, EV6, EV7, EV8, VALS, plug, ite_same, decide_true, decide_false, eq_self, ↓reduceIte, reduceCtorEq, Nat.reduceAdd, Nat.reduceEqDiff, Nat.reduceLT, Nat.reduceLeDiff, Nat.reduceMul, Nat.reduceSub, Nat.reduceDiv, Int.reduceToNat, Int.reduceAdd, Int.reduceSub, Int.reduceMul, Int.reduceNeg, Int.reduceEq, Int.reduceLT, Int.reduceLE], by simp (disch := omega) only [putS, c14r0, c14r1, c14r2, c14r3, c14r4, c14r5, c14r6, c14r7, c14r8, c14r9, c14r10, c14r11, c14r12, EV0, EV1, EV2, EV3, EV4, EV5, EV6, EV7, EV8, VALS, plug, ite_same, decide_true, decide_false, eq_self, ↓reduceIte, reduceCtorEq, Nat.reduceAdd, Nat.reduceEqDiff, Nat.reduceLT, Nat.reduceLeDiff, Nat.reduceMul, Nat.reduceSub, Nat.reduceDiv, Int.reduceToNat, Int.reduceAdd, Int.reduceSub, Int.reduceMul, Int.reduceNeg, Int.reduceEq, Int.reduceLT, Int.reduceLE] <;> omega⟩
    · rw [wr_arg rfl hs]
      have h0 : ¬ slot = 0 := fun e => hs (.inl e)
      have h1 : ¬ slot = 1 := fun e => hs (.inr e)
      repeat' first
        | with_reducible refine k_seq ?_
        | with_reducible refine k_skip ?_
        | with_reducible refine k_blkS ?_
        | with_reducible refine k_blkR ?_
        | with_reducible refine k_blkC ?_
        | with_reducible refine k_blkH ?_
        | with_reducible refine k_blkB ?_
        | with_reducible refine k_blkK ?_
        | with_reducible refine k_blkE ?_
        | with_reducible refine k_reg ?_
        | with_reducible refine k_head (by with_unfolding_all rfl) ?_
        | with_reducible refine k_headS ?_
        | (with_reducible refine SepK.mk ?_ ?_; (refine sepQ_P ?_; simp [sepQ, sepG, AOp.late, AOp.free, AOp.xs, AOp.isAl, tokNe, AV.tok, stS_get, strip, AX.val, c14r0, c14r1, c14r2, c14r3, c14r4, c14r5, c14r6, c14r7, c14r8, c14r9, c14r10, c14r11, c14r12, GA]; try omega))
        | with_reducible refine r_done ?_
        | with_reducible refine hr_done ?_
        | with_reducible refine s_go (by simp (disch := omega) only [row_m hm, read_row (row_m hm), h0, h1, c14r0, c14r1, c14r2, c14r3, c14r4, c14r5, c14r6, c14r7, c14r8, c14r9, c14r10, c14r11, c14r12, EV0, EV1, EV2, EV3, EV4, EV5, EV6, EV7, EV8, VALS, plug, ite_same, decide_true, decide_false, eq_self, ↓reduceIte, reduceCtorEq, Nat.reduceAdd, Nat.reduceEqDiff, Nat.reduceLT, Nat.reduceLeDiff, Nat.reduceMul, Nat.reduceSub, Nat.reduceDiv, Int.reduceToNat, Int.reduceAdd, Int.reduceSub, Int.reduceMul, Int.reduceNeg, Int.reduceEq, Int.reduceLT, Int.reduceLE]; with_reducible rfl) ?_
        | with_reducible refine h_go (by with_unfolding_all rfl) (by simp (disch := omega) only [row_m hm, read_row (row_m hm), h0, h1, c14r0, c14r1, c14r2, c14r3, c14r4, c14r5, c14r6, c14r7, c14r8, c14r9, c14r10, c14r11, c14r12, EV0, EV1, EV2, EV3, EV4, EV5, EV6, EV7, EV8, VALS, plug, ite_same, decide_true, decide_false, eq_self, ↓reduceIte, reduceCtorEq, Nat.reduceAdd, Nat.reduceEqDiff, Nat.reduceLT, Nat.reduceLeDiff, Nat.reduceMul, Nat.reduceSub, Nat.reduceDiv, Int.reduceToNat, Int.reduceAdd, Int.reduceSub, Int.reduceMul, Int.reduceNeg, Int.reduceEq, Int.reduceLT, Int.reduceLE]; with_reducible rfl) ?_
        | ((with_reducible refine chk_r ?_); refine r_callF (by simp only [CA, Nat.reduceEqDiff, ↓reduceIte]; rfl) (by exact rfl) (by simp only [CA, Nat.reduceEqDiff, ↓reduceIte]; rfl) rfl ?_)
        | ((with_reducible refine chk_h ?_); refine hr_callF (by simp only [CA, Nat.reduceEqDiff, ↓reduceIte]; rfl) (by exact rfl) (by simp only [CA, Nat.reduceEqDiff, ↓reduceIte]; rfl) rfl ?_)
        | ((with_reducible refine chk_r ?_); refine r_callP (by simp only [CA, Nat.reduceEqDiff, ↓reduceIte]; rfl) (by simp only [CA, Nat.reduceEqDiff, ↓reduceIte]; rfl) (by first | ((refine q _ ?_; simp (disch := omega) only [row_m hm, c14r0, c14r1, c14r2, c14r3, c14r4, c14r5, c14r6, c14r7, c14r8, c14r9, c14r10, c14r11, c14r12, EV0, EV1, EV2, EV3, EV4, EV5, EV6, EV7, EV8, VALS, plug, ite_same, decide_true, decide_false, eq_self, ↓reduceIte, reduceCtorEq, Nat.reduceAdd, Nat.reduceEqDiff, Nat.reduceLT, Nat.reduceLeDiff, Nat.reduceMul, Nat.reduceSub, Nat.reduceDiv, Int.reduceToNat, Int.reduceAdd, Int.reduceSub, Int.reduceMul, Int.reduceNeg, Int.reduceEq, Int.reduceLT, Int.reduceLE]); all_goals fail)) rfl ?_)
        | ((with_reducible refine chk_h ?_); refine hr_callP (by simp only [CA, Nat.reduceEqDiff, ↓reduceIte]; rfl) (by simp only [CA, Nat.reduceEqDiff, ↓reduceIte]; rfl) (by first | ((refine q _ ?_; simp (disch := omega) only [row_m hm, c14r0, c14r1, c14r2, c14r3, c14r4, c14r5, c14r6, c14r7, c14r8, c14r9, c14r10, c14r11, c14r12, EV0, EV1, EV2, EV3, EV4, EV5, EV6, EV7, EV8, VALS, plug, ite_same, decide_true, decide_false, eq_self, ↓reduceIte, reduceCtorEq, Nat.reduceAdd, Nat.reduceEqDiff, Nat.reduceLT, Nat.reduceLeDiff, Nat.reduceMul, Nat.reduceSub, Nat.reduceDiv, Int.reduceToNat, Int.reduceAdd, Int.reduceSub, Int.reduceMul, Int.reduceNeg, Int.reduceEq, Int.reduceLT, Int.reduceLE]); all_goals fail)) rfl ?_)
        | ((with_reducible refine chk_h ?_); refine hr_callP1 (by simp only [CA, Nat.reduceEqDiff, ↓reduceIte]; rfl) (by simp only [CA, Nat.reduceEqDiff, ↓reduceIte]; rfl) (by simp (disch := omega) only [CA, Nat.reduceEqDiff, ↓reduceIte, firstTok_nil, firstTok_sl, firstTok_sl0, firstTok_i, firstTok_b, firstTok_ag, firstTok_p, firstTok_s]; rfl) (by first | ((refine q _ ?_; simp (disch := omega) only [row_m hm, c14r0, c14r1, c14r2, c14r3, c14r4, c14r5, c14r6, c14r7, c14r8, c14r9, c14r10, c14r11, c14r12, EV0, EV1, EV2, EV3, EV4, EV5, EV6, EV7, EV8, VALS, plug, ite_same, decide_true, decide_false, eq_self, ↓reduceIte, reduceCtorEq, Nat.reduceAdd, Nat.reduceEqDiff, Nat.reduceLT, Nat.reduceLeDiff, Nat.reduceMul, Nat.reduceSub, Nat.reduceDiv, Int.reduceToNat, Int.reduceAdd, Int.reduceSub, Int.reduceMul, Int.reduceNeg, Int.reduceEq, Int.reduceLT, Int.reduceLE]); all_goals fail)) rfl ?_)
        | ((with_reducible refine chk_h ?_); refine hr_app (by simp (disch := omega) only [row_m hm, read_row (row_m hm), h0, h1, c14r0, c14r1, c14r2, c14r3, c14r4, c14r5, c14r6, c14r7, c14r8, c14r9, c14r10, c14r11, c14r12, EV0, EV1, EV2, EV3, EV4, EV5, EV6, EV7, EV8, VALS, plug, ite_same, decide_true, decide_false, eq_self, ↓reduceIte, reduceCtorEq, Nat.reduceAdd, Nat.reduceEqDiff, Nat.reduceLT, Nat.reduceLeDiff, Nat.reduceMul, Nat.reduceSub, Nat.reduceDiv, Int.reduceToNat, Int.reduceAdd, Int.reduceSub, Int.reduceMul, Int.reduceNeg, Int.reduceEq, Int.reduceLT, Int.reduceLE]; with_reducible rfl) rfl ?_)
        | (with_reducible refine k_condP (by simp only [GA, Nat.reduceEqDiff, ↓reduceIte]; rfl) (by first | (simp only [BO]; rfl) | rfl) (fun ht => ?_) (fun ht => ?_) <;> try (first | exact False.elim ht | exact absurd rfl ht | exact absurd trivial ht | exact Bool.noConfusion ht))
        | (with_reducible refine k_ret ?_; repeat with_reducible (first | refine ret_thru ?_ | refine ret_blk ?_ | refine fin ?_))
        | (with_reducible refine k_exit ?_; repeat with_reducible (first | refine thru ?_ | refine out_blk ?_ | refine pass (by decide) ?_))
        | (refine post1 ?_; simp only [GA, Nat.reduceEqDiff, ↓reduceIte])
        | (refine post2 ?_; simp only [GA, Nat.reduceEqDiff, ↓reduceIte])
        | (refine post3 ?_; simp only [GA, Nat.reduceEqDiff, ↓reduceIte])
        | (refine postc (by simp only [GA, Nat.reduceEqDiff, ↓reduceIte]; rfl) (by simp (disch := omega) only [row_m hm, read_row (row_m hm), h0, h1, c14r0, c14r1, c14r2, c14r3, c14r4, c14r5, c14r6, c14r7, c14r8, c14r9, c14r10, c14r11, c14r12, EV0, EV1, EV2, EV3, EV4, EV5, EV6, EV7, EV8, VALS, plug, ite_same, decide_true, decide_false, eq_self, ↓reduceIte, reduceCtorEq, Nat.reduceAdd, Nat.reduceEqDiff, Nat.reduceLT, Nat.reduceLeDiff, Nat.reduceMul, Nat.reduceSub, Nat.reduceDiv, Int.reduceToNat, Int.reduceAdd, Int.reduceSub, Int.reduceMul, Int.reduceNeg, Int.reduceEq, Int.reduceLT, Int.reduceLE]; rfl) ?_)
        | refine post0 ?_
      exact endsW ⟨by first | (simp (disch := omega) only [hm, c14r0, c14r1, c14r2, c14r3, c14r4, c14r5, c14r6, c14r7, c14r8, c14r9, c14r10, c14r11, c14r12, EV0, EV1, EV2, EV3, EV4, EV5, EV6, EV7, EV8, VALS, plug, ite_same, decide_true, decide_false, eq_self, ↓reduceIte, reduceCtorEq, Nat.reduceAdd, Nat.reduceEqDiff, Nat.reduceLT, Nat.reduceLeDiff, Nat.reduceMul, Nat.reduceSub, Nat.reduceDiv, Int.reduceToNat, Int.reduceAdd, Int.reduceSub, Int.reduceMul, Int.reduceNeg, Int.reduceEq, Int.reduceLT, Int.reduceLE] <;> rfl) | simp (disch := omega) only [hm, c14r0, c14r1, c14r2, c14r3, c14r4, c14r5, c14r6, c14r7, c14r8, c14r9, c14r10, c14r11, c14r12, EV0, EV1, EV2, EV3, EV4, EV5, EV6, EV7, EV8, VALS, plug, ite_same, decide_true, decide_false, eq_self, ↓reduceIte, reduceCtorEq, Nat.reduceAdd, Nat.reduceEqDiff, Nat.reduceLT, Nat.reduceLeDiff, Nat.reduceMul, Nat.reduceSub, Nat.reduceDiv, Int.reduceToNat, Int.reduceAdd, Int.reduceSub, Int.reduceMul, Int.reduceNeg, Int.reduceEq, Int.reduceLT, Int.reduceLE], fun s h1 h2 => by simp (disch := omega) only [h2, hm, c14r0, c14r1, c14r2, c14r3, c14r4, c14r5, c14r6, c14r7, c14r8, c14r9, c14r10, c14r11, c14r12, EV0, EV1, EV2, EV3, EV4, EV5, EV6, EV7, EV8, VALS, plug, ite_same, decide_true, decide_false, eq_self, ↓reduceIte, reduceCtorEq, Nat.reduceAdd, Nat.reduceEqDiff, Nat.reduceLT, Nat.reduceLeDiff, Nat.reduceMul, Nat.reduceSub, Nat.reduceDiv, Int.reduceToNat, Int.reduceAdd, Int.reduceSub, Int.reduceMul, Int.reduceNeg, Int.reduceEq, Int.reduceLT, Int.reduceLE], by simp (disch := omega) only [hm, c14r0, c14r1, c14r2, c14r3, c14r4, c14r5, c14r6, c14r7, c14r8, c14r9, c14r10, c14r11, c14r12, EV0, EV1, EV2, EV3, EV4, EV5, EV6, EV7, EV8, VALS, plug, ite_same, decide_true, decide_false, eq_self, ↓reduceIte, reduceCtorEq, Nat.reduceAdd, Nat.reduceEqDiff, Nat.reduceLT, Nat.reduceLeDiff, Nat.reduceMul, Nat.reduceSub, Nat.reduceDiv, Int.reduceToNat, Int.reduceAdd, Int.reduceSub, Int.reduceMul, Int.reduceNeg, Int.reduceEq, Int.reduceLT, Int.reduceLE] <;> omega⟩
/-! ### Arm, Restart -/
def armD (d : D) (n keep : Int) : D := { d with left := max 0 n, keep := keep }
def rstD (d : D) : D := { d with left := 0, off := false, life := IntKind.i64.wrap (d.life + 1) }
theorem f20 (t : Nat) (d : D) (n keep : Int) (h : AH) (hm : h.m t = some (.cells true (eI d))) : ACalls Try.prog 20 [.p t 0, .i .i64 n, .i .i64 keep] h fun r h' => r = .tu [] ∧ Upd t (eI (armD d n keep)) h h' := by
  unfold eI at hm
  refine w_fn fn20 (by simp) fun ok pos => ?_
  have := ok.m hm
  rw [initSt3]
  repeat' first
    | with_reducible refine k_seq ?_
    | with_reducible refine k_skip ?_
    | with_reducible refine k_blkS ?_
    | with_reducible refine k_blkR ?_
    | with_reducible refine k_blkC ?_
    | with_reducible refine k_blkH ?_
    | with_reducible refine k_blkB ?_
    | with_reducible refine k_blkK ?_
    | with_reducible refine k_blkE ?_
    | with_reducible refine k_reg ?_
    | with_reducible refine r_done ?_
    | with_reducible refine s_go (by simp (disch := omega) only [hm, row_m hm, read_row (row_m hm), c20r0, c20r1, EV0, EV1, EV2, EV3, EV4, EV5, EV6, EV7, EV8, VALS, plug, ite_same, decide_true, decide_false, eq_self, ↓reduceIte, reduceCtorEq, Nat.reduceAdd, Nat.reduceEqDiff, Nat.reduceLT, Nat.reduceLeDiff, Nat.reduceMul, Nat.reduceSub, Nat.reduceDiv, Int.reduceToNat, Int.reduceAdd, Int.reduceSub, Int.reduceMul, Int.reduceNeg, Int.reduceEq, Int.reduceLT, Int.reduceLE]; with_reducible rfl) ?_
    | ((with_reducible refine chk_r ?_); refine r_callF (by simp only [CA, Nat.reduceEqDiff, ↓reduceIte]; rfl) (by exact rfl) (by simp only [CA, Nat.reduceEqDiff, ↓reduceIte]; rfl) rfl ?_)
    | (with_reducible refine k_condP (by simp only [GA, Nat.reduceEqDiff, ↓reduceIte]; rfl) (by first | (simp only [BO]; rfl) | rfl) (fun ht => ?_) (fun ht => ?_) <;> try (first | exact False.elim ht | exact absurd rfl ht | exact absurd trivial ht | exact Bool.noConfusion ht))
    | (with_reducible refine k_ret ?_; repeat with_reducible (first | refine ret_thru ?_ | refine ret_blk ?_ | refine fin ?_))
    | (with_reducible refine k_exit ?_; repeat with_reducible (first | refine thru ?_ | refine out_blk ?_ | refine pass (by decide) ?_))
    | (refine post1 ?_; simp only [GA, Nat.reduceEqDiff, ↓reduceIte])
    | (refine post2 ?_; simp only [GA, Nat.reduceEqDiff, ↓reduceIte])
    | (refine post3 ?_; simp only [GA, Nat.reduceEqDiff, ↓reduceIte])
    | (refine postc (by simp only [GA, Nat.reduceEqDiff, ↓reduceIte]; rfl) (by simp (disch := omega) only [hm, row_m hm, read_row (row_m hm), c20r0, c20r1, EV0, EV1, EV2, EV3, EV4, EV5, EV6, EV7, EV8, VALS, plug, ite_same, decide_true, decide_false, eq_self, ↓reduceIte, reduceCtorEq, Nat.reduceAdd, Nat.reduceEqDiff, Nat.reduceLT, Nat.reduceLeDiff, Nat.reduceMul, Nat.reduceSub, Nat.reduceDiv, Int.reduceToNat, Int.reduceAdd, Int.reduceSub, Int.reduceMul, Int.reduceNeg, Int.reduceEq, Int.reduceLT, Int.reduceLE]; rfl) ?_)
    | refine post0 ?_
  exact endsW ⟨by first | (simp (disch := omega) only [eI, armD, c20r0, c20r1, EV0, EV1, EV2, EV3, EV4, EV5, EV6, EV7, EV8, VALS, plug, ite_same, decide_true, decide_false, eq_self, ↓reduceIte, reduceCtorEq, Nat.reduceAdd, Nat.reduceEqDiff, Nat.reduceLT, Nat.reduceLeDiff, Nat.reduceMul, Nat.reduceSub, Nat.reduceDiv, Int.reduceToNat, Int.reduceAdd, Int.reduceSub, Int.reduceMul, Int.reduceNeg, Int.reduceEq, Int.reduceLT, Int.reduceLE] <;> rfl) | simp (disch := omega) only [eI, armD, c20r0, c20r1, EV0, EV1, EV2, EV3, EV4, EV5, EV6, EV7, EV8, VALS, plug, ite_same, decide_true, decide_false, eq_self, ↓reduceIte, reduceCtorEq, Nat.reduceAdd, Nat.reduceEqDiff, Nat.reduceLT, Nat.reduceLeDiff, Nat.reduceMul, Nat.reduceSub, Nat.reduceDiv, Int.reduceToNat, Int.reduceAdd, Int.reduceSub, Int.reduceMul, Int.reduceNeg, Int.reduceEq, Int.reduceLT, Int.reduceLE], fun s h1 h2 => by simp (disch := omega) only [h2, eI, armD, c20r0, c20r1, EV0, EV1, EV2, EV3, EV4, EV5, EV6, EV7, EV8, VALS, plug, ite_same, decide_true, decide_false, eq_self, ↓reduceIte, reduceCtorEq, Nat.reduceAdd, Nat.reduceEqDiff, Nat.reduceLT, Nat.reduceLeDiff, Nat.reduceMul, Nat.reduceSub, Nat.reduceDiv, Int.reduceToNat, Int.reduceAdd, Int.reduceSub, Int.reduceMul, Int.reduceNeg, Int.reduceEq, Int.reduceLT, Int.reduceLE], by simp (disch := omega) only [eI, armD, c20r0, c20r1, EV0, EV1, EV2, EV3, EV4, EV5, EV6, EV7, EV8, VALS, plug, ite_same, decide_true, decide_false, eq_self, ↓reduceIte, reduceCtorEq, Nat.reduceAdd, Nat.reduceEqDiff, Nat.reduceLT, Nat.reduceLeDiff, Nat.reduceMul, Nat.reduceSub, Nat.reduceDiv, Int.reduceToNat, Int.reduceAdd, Int.reduceSub, Int.reduceMul, Int.reduceNeg, Int.reduceEq, Int.reduceLT, Int.reduceLE] <;> omega⟩
theorem f21 (t : Nat) (d : D) (h : AH) (hm : h.m t = some (.cells true (eI d))) : ACalls Try.prog 21 [.p t 0] h fun r h' => r = .tu [] ∧ Upd t (eI (rstD d)) h h' := by
  unfold eI at hm
  refine w_fn fn21 (by simp) fun ok pos => ?_
  have := ok.m hm
  rw [initSt1]
  repeat' first
    | with_reducible refine k_seq ?_
    | with_reducible refine k_skip ?_
    | with_reducible refine k_blkS ?_
    | with_reducible refine k_blkR ?_
    | with_reducible refine k_blkC ?_
    | with_reducible refine k_blkH ?_
    | with_reducible refine k_blkB ?_
    | with_reducible refine k_blkK ?_
    | with_reducible refine k_blkE ?_
    | with_reducible refine k_reg ?_
    | with_reducible refine r_done ?_
    | with_reducible refine s_go (by simp (disch := omega) only [hm, row_m hm, read_row (row_m hm), c21r0, c21r1, c21r2, EV0, EV1, EV2, EV3, EV4, EV5, EV6, EV7, EV8, VALS, plug, ite_same, decide_true, decide_false, eq_self, ↓reduceIte, reduceCtorEq, Nat.reduceAdd, Nat.reduceEqDiff, Nat.reduceLT, Nat.reduceLeDiff, Nat.reduceMul, Nat.reduceSub, Nat.reduceDiv, Int.reduceToNat, Int.reduceAdd, Int.reduceSub, Int.reduceMul, Int.reduceNeg, Int.reduceEq, Int.reduceLT, Int.reduceLE]; with_reducible rfl) ?_
    | ((with_reducible refine chk_r ?_); refine r_callF (by simp only [CA, Nat.reduceEqDiff, ↓reduceIte]; rfl) (by exact rfl) (by simp only [CA, Nat.reduceEqDiff, ↓reduceIte]; rfl) rfl ?_)
    | (with_reducible refine k_condP (by simp only [GA, Nat.reduceEqDiff, ↓reduceIte]; rfl) (by first | (simp only [BO]; rfl) | rfl) (fun ht => ?_) (fun ht => ?_) <;> try (first | exact False.elim ht | exact absurd rfl ht | exact absurd trivial ht | exact Bool.noConfusion ht))
    | (with_reducible refine k_ret ?_; repeat with_reducible (first | refine ret_thru ?_ | refine ret_blk ?_ | refine fin ?_))
    | (with_reducible refine k_exit ?_; repeat with_reducible (first | refine thru ?_ | refine out_blk ?_ | refine pass (by decide) ?_))
    | (refine post1 ?_; simp only [GA, Nat.reduceEqDiff, ↓reduceIte])
    | (refine post2 ?_; simp only [GA, Nat.reduceEqDiff, ↓reduceIte])
    | (refine post3 ?_; simp only [GA, Nat.reduceEqDiff, ↓reduceIte])
    | (refine postc (by simp only [GA, Nat.reduceEqDiff, ↓reduceIte]; rfl) (by simp (disch := omega) only [hm, row_m hm, read_row (row_m hm), c21r0, c21r1, c21r2, EV0, EV1, EV2, EV3, EV4, EV5, EV6, EV7, EV8, VALS, plug, ite_same, decide_true, decide_false, eq_self, ↓reduceIte, reduceCtorEq, Nat.reduceAdd, Nat.reduceEqDiff, Nat.reduceLT, Nat.reduceLeDiff, Nat.reduceMul, Nat.reduceSub, Nat.reduceDiv, Int.reduceToNat, Int.reduceAdd, Int.reduceSub, Int.reduceMul, Int.reduceNeg, Int.reduceEq, Int.reduceLT, Int.reduceLE]; rfl) ?_)
    | refine post0 ?_
  exact endsW ⟨by first | (simp (disch := omega) only [eI, rstD, c21r0, c21r1, c21r2, EV0, EV1, EV2, EV3, EV4, EV5, EV6, EV7, EV8, VALS, plug, ite_same, decide_true, decide_false, eq_self, ↓reduceIte, reduceCtorEq, Nat.reduceAdd, Nat.reduceEqDiff, Nat.reduceLT, Nat.reduceLeDiff, Nat.reduceMul, Nat.reduceSub, Nat.reduceDiv, Int.reduceToNat, Int.reduceAdd, Int.reduceSub, Int.reduceMul, Int.reduceNeg, Int.reduceEq, Int.reduceLT, Int.reduceLE] <;> rfl) | simp (disch := omega) only [eI, rstD, c21r0, c21r1, c21r2, EV0, EV1, EV2, EV3, EV4, EV5, EV6, EV7, EV8, VALS, plug, ite_same, decide_true, decide_false, eq_self, ↓reduceIte, reduceCtorEq, Nat.reduceAdd, Nat.reduceEqDiff, Nat.reduceLT, Nat.reduceLeDiff, Nat.reduceMul, Nat.reduceSub, Nat.reduceDiv, Int.reduceToNat, Int.reduceAdd, Int.reduceSub, Int.reduceMul, Int.reduceNeg, Int.reduceEq, Int.reduceLT, Int.reduceLE], fun s h1 h2 => by simp (disch := omega) only [h2, eI, rstD, c21r0, c21r1, c21r2, EV0, EV1, EV2, EV3, EV4, EV5, EV6, EV7, EV8, VALS, plug, ite_same, decide_true, decide_false, eq_self, ↓reduceIte, reduceCtorEq, Nat.reduceAdd, Nat.reduceEqDiff, Nat.reduceLT, Nat.reduceLeDiff, Nat.reduceMul, Nat.reduceSub, Nat.reduceDiv, Int.reduceToNat, Int.reduceAdd, Int.reduceSub, Int.reduceMul, Int.reduceNeg, Int.reduceEq, Int.reduceLT, Int.reduceLE], by simp (disch := omega) only [eI, rstD, c21r0, c21r1, c21r2, EV0, EV1, EV2, EV3, EV4, EV5, EV6, EV7, EV8, VALS, plug, ite_same, decide_true, decide_false, eq_self, ↓reduceIte, reduceCtorEq, Nat.reduceAdd, Nat.reduceEqDiff, Nat.reduceLT, Nat.reduceLeDiff, Nat.reduceMul, Nat.reduceSub, Nat.reduceDiv, Int.reduceToNat, Int.reduceAdd, Int.reduceSub, Int.reduceMul, Int.reduceNeg, Int.reduceEq, Int.reduceLT, Int.reduceLE] <;> omega⟩
/-! ### New disks -/
/-- a new block t -/
structure New (t : Nat) (cs : List AV) (h h' : AH) : Prop where
  t0 : h.nx ≤ t
  m : h'.m t = some (.cells true cs)
  keep : ∀ s, s < h.nx → h'.m s = h.m s
  nx : h.nx ≤ h'.nx
  lt : t < h'.nx
theorem f9 (h : AH) : ACalls Try.prog 9 [] h fun r h' => ∃ t, r = .p t 0 ∧ New t (eI D0) h h' := by
  refine acalls_frz (a_fn fn9 (by simp) fun ok pos => ?_)
  rw [initSt0]
  repeat' first
    | with_reducible refine k_seq ?_
    | with_reducible refine k_skip ?_
    | with_reducible refine k_blkS ?_
    | with_reducible refine k_blkR ?_
    | with_reducible refine k_blkC ?_
    | with_reducible refine k_blkH ?_
    | with_reducible refine k_blkB ?_
    | with_reducible refine k_blkK ?_
    | with_reducible refine k_blkE ?_
    | with_reducible refine k_reg ?_
    | with_reducible refine r_done ?_
    | with_reducible refine s_go (by simp (disch := omega) only [c9r0, c9r1, EV0, EV1, EV2, EV3, EV4, EV5, EV6, EV7, EV8, VALS, plug, ite_same, decide_true, decide_false, eq_self, ↓reduceIte, reduceCtorEq, Nat.reduceAdd, Nat.reduceEqDiff, Nat.reduceLT, Nat.reduceLeDiff, Nat.reduceMul, Nat.reduceSub, Nat.reduceDiv, Int.reduceToNat, Int.reduceAdd, Int.reduceSub, Int.reduceMul, Int.reduceNeg, Int.reduceEq, Int.reduceLT, Int.reduceLE]; with_reducible rfl) ?_
    | ((with_reducible refine chk_r ?_); refine r_callF (by simp only [CA, Nat.reduceEqDiff, ↓reduceIte]; rfl) (by exact rfl) (by simp only [CA, Nat.reduceEqDiff, ↓reduceIte]; rfl) rfl ?_)
    | (with_reducible refine k_condP (by simp only [GA, Nat.reduceEqDiff, ↓reduceIte]; rfl) (by first | (simp only [BO]; rfl) | rfl) (fun ht => ?_) (fun ht => ?_) <;> try (first | exact False.elim ht | exact absurd rfl ht | exact absurd trivial ht | exact Bool.noConfusion ht))
    | (with_reducible refine k_ret ?_; repeat with_reducible (first | refine ret_thru ?_ | refine ret_blk ?_ | refine fin ?_))
    | (with_reducible refine k_exit ?_; repeat with_reducible (first | refine thru ?_ | refine out_blk ?_ | refine pass (by decide) ?_))
    | (refine post1 ?_; simp only [GA, Nat.reduceEqDiff, ↓reduceIte])
    | (refine post2 ?_; simp only [GA, Nat.reduceEqDiff, ↓reduceIte])
    | (refine post3 ?_; simp only [GA, Nat.reduceEqDiff, ↓reduceIte])
    | (refine postc (by simp only [GA, Nat.reduceEqDiff, ↓reduceIte]; rfl) (by simp (disch := omega) only [c9r0, c9r1, EV0, EV1, EV2, EV3, EV4, EV5, EV6, EV7, EV8, VALS, plug, ite_same, decide_true, decide_false, eq_self, ↓reduceIte, reduceCtorEq, Nat.reduceAdd, Nat.reduceEqDiff, Nat.reduceLT, Nat.reduceLeDiff, Nat.reduceMul, Nat.reduceSub, Nat.reduceDiv, Int.reduceToNat, Int.reduceAdd, Int.reduceSub, Int.reduceMul, Int.reduceNeg, Int.reduceEq, Int.reduceLT, Int.reduceLE]; rfl) ?_)
    | refine post0 ?_
  refine ⟨_, _, .zeroH (s := h.nx + 1 + 1) (wr := true) (ds' := eI D0) (by simp (disch := omega) only [c9r0, c9r1, EV0, EV1, EV2, EV3, EV4, EV5, EV6, EV7, EV8, VALS, plug, ite_same, decide_true, decide_false, eq_self, ↓reduceIte, reduceCtorEq, Nat.reduceAdd, Nat.reduceEqDiff, Nat.reduceLT, Nat.reduceLeDiff, Nat.reduceMul, Nat.reduceSub, Nat.reduceDiv, Int.reduceToNat, Int.reduceAdd, Int.reduceSub, Int.reduceMul, Int.reduceNeg, Int.reduceEq, Int.reduceLT, Int.reduceLE] <;> rfl) (.cons .nil (.cons .nil (.cons .same (.cons .same (.cons .same (.cons .same (.cons .same .nil))))))) .done, _, rfl, by omega, by simp (disch := omega) only [c9r0, c9r1, EV0, EV1, EV2, EV3, EV4, EV5, EV6, EV7, EV8, VALS, plug, ite_same, decide_true, decide_false, eq_self, ↓reduceIte, reduceCtorEq, Nat.reduceAdd, Nat.reduceEqDiff, Nat.reduceLT, Nat.reduceLeDiff, Nat.reduceMul, Nat.reduceSub, Nat.reduceDiv, Int.reduceToNat, Int.reduceAdd, Int.reduceSub, Int.reduceMul, Int.reduceNeg, Int.reduceEq, Int.reduceLT, Int.reduceLE] <;> rfl, fun s hs => (by simp (disch := omega) only [c9r0, c9r1, EV0, EV1, EV2, EV3, EV4, EV5, EV6, EV7, EV8, VALS, plug, ite_same, decide_true, decide_false, eq_self, ↓reduceIte, reduceCtorEq, Nat.reduceAdd, Nat.reduceEqDiff, Nat.reduceLT, Nat.reduceLeDiff, Nat.reduceMul, Nat.reduceSub, Nat.reduceDiv, Int.reduceToNat, Int.reduceAdd, Int.reduceSub, Int.reduceMul, Int.reduceNeg, Int.reduceEq, Int.reduceLT, Int.reduceLE]), by simp (disch := omega) only [c9r0, c9r1, EV0, EV1, EV2, EV3, EV4, EV5, EV6, EV7, EV8, VALS, plug, ite_same, decide_true, decide_false, eq_self, ↓reduceIte, reduceCtorEq, Nat.reduceAdd, Nat.reduceEqDiff, Nat.reduceLT, Nat.reduceLeDiff, Nat.reduceMul, Nat.reduceSub, Nat.reduceDiv, Int.reduceToNat, Int.reduceAdd, Int.reduceSub, Int.reduceMul, Int.reduceNeg, Int.reduceEq, Int.reduceLT, Int.reduceLE] <;> omega, by simp (disch := omega) only [c9r0, c9r1, EV0, EV1, EV2, EV3, EV4, EV5, EV6, EV7, EV8, VALS, plug, ite_same, decide_true, decide_false, eq_self, ↓reduceIte, reduceCtorEq, Nat.reduceAdd, Nat.reduceEqDiff, Nat.reduceLT, Nat.reduceLeDiff, Nat.reduceMul, Nat.reduceSub, Nat.reduceDiv, Int.reduceToNat, Int.reduceAdd, Int.reduceSub, Int.reduceMul, Int.reduceNeg, Int.reduceEq, Int.reduceLT, Int.reduceLE] <;> omega⟩
end Go.Proofs.Ytpleibjbfohenaa
set_option linter.unusedVariables false
set_option linter.unusedSimpArgs false
namespace Go.Proofs.Ytpleibjbfohenaa
open Go Go.Am Go.Proofs
/-! ### Numbers in four bytes -/
/-! ### Numbers in four bytes -/
theorem or_add (a b i : Nat) (hb : b < 2 ^ i) (hs : a * 2 ^ i + b ≤ 9223372036854775807) : abits .or .i64 ((a * 2 ^ i : Nat) : Int) (b : Nat) = ((a * 2 ^ i + b : Nat) : Int) := by
  have e1 : (BitVec.ofInt 64 ((a * 2 ^ i : Nat) : Int) ||| BitVec.ofInt 64 (b : Nat)).toNat = a * 2 ^ i + b := by
    rw [BitVec.ofInt_natCast, BitVec.ofInt_natCast, BitVec.toNat_or, BitVec.toNat_ofNat, BitVec.toNat_ofNat, Nat.mod_eq_of_lt (by omega), Nat.mod_eq_of_lt (by omega), ← Nat.shiftLeft_eq, Nat.shiftLeft_add_eq_or_of_lt hb]
  show IntKind.i64.wrap (((BitVec.ofInt 64 ((a * 2 ^ i : Nat) : Int) ||| BitVec.ofInt 64 (b : Nat)).toNat : Nat) : Int) = _
  rw [e1, wrap64 (by omega) (by omega)]
theorem or_i {x y m : Int} (i p : Nat) (hp : 2 ^ i = p) (h2 : x = m * p) (hm : 0 ≤ m) (hy : 0 ≤ y) (hy2 : y < p) (hs : x + y ≤ 9223372036854775807) : abits .or .i64 x y = x + y := by
  obtain ⟨a, rfl⟩ := Int.eq_ofNat_of_zero_le hm
  obtain ⟨b, rfl⟩ := Int.eq_ofNat_of_zero_le hy
  have e : x = ((a * p : Nat) : Int) := by rw [h2, Int.natCast_mul]
  subst hp
  have := or_add a b i (by omega) (by rw [e] at hs; omega)
  rw [e, this, Int.natCast_add]
def BY (b : List Int) : Prop := ∀ x ∈ b, 0 ≤ x ∧ x ≤ 255
abbrev bt (b : List Int) (j : Nat) : Int := b.getD j 0
theorem BY.at {b : List Int} (h : BY b) (j : Nat) : 0 ≤ bt b j ∧ bt b j ≤ 255 := by
  unfold bt
  by_cases hj : j < b.length
  · rw [getD_lt hj]; exact h _ (List.getElem_mem hj)
  · rw [List.getD_eq_getElem?_getD, List.getElem?_eq_none (by omega)]; simp
theorem BY.drop {b : List Int} (h : BY b) (n : Nat) : BY (b.drop n) := fun x hx => h x (List.mem_of_mem_drop hx)
theorem BY.take {b : List Int} (h : BY b) (n : Nat) : BY (b.take n) := fun x hx => h x (List.mem_of_mem_take hx)
theorem BY.app {a b : List Int} (h : BY a) (k : BY b) : BY (a ++ b) := fun x hx => by
  rcases List.mem_append.1 hx with q | q
  · exact h x q
  · exact k x q
theorem BY.nil : BY [] := fun x hx => by cases hx
/-- the number of four bytes -/
def vb (b : List Int) : Int := bt b 0 * 16777216 + bt b 1 * 65536 + bt b 2 * 256 + bt b 3
theorem vb_range {b : List Int} (h : BY b) : 0 ≤ vb b ∧ vb b ≤ 4294967295 := by
  have b0 := h.at 0
  have b1 := h.at 1
  have b2 := h.at 2
  have b3 := h.at 3
  unfold vb
  omega
theorem pc43 (b : List Int) (h : BY b) (hn : 4 ≤ b.length) : PC Try.prog 43 [vu b] (.i .i64 (vb b)) := by
  have r0 := ul_get (l := b) (j := 0) (by omega)
  have r1 := ul_get (l := b) (j := 1) (by omega)
  have r2 := ul_get (l := b) (j := 2) (by omega)
  have r3 := ul_get (l := b) (j := 3) (by omega)
  have b0 := h.at 0
  have b1 := h.at 1
  have b2 := h.at 2
  have b3 := h.at 3
  unfold vb
  simp only [bt] at *
  refine pc_fn fn43 (by simp only [AV.plains, AV.plain, il_plain, bl_plain, Bool.and_true, Bool.true_and, Bool.and_self, ul_plain]) (by simp only [AV.plains, AV.plain, il_plain, bl_plain, Bool.and_true, Bool.true_and, Bool.and_self, ul_plain]) (Nat.le_of_ble_eq_true rfl) ?_
  rw [initSt1]
  generalize b.getD 0 0 = x0 at *
  generalize b.getD 1 0 = x1 at *
  generalize b.getD 2 0 = x2 at *
  generalize b.getD 3 0 = x3 at *
  have o1 : abits .or .i64 (x0 * 16777216) (x1 * 65536) = x0 * 16777216 + x1 * 65536 := or_i (m := x0) 24 16777216 (by decide) (by omega) (by omega) (by omega) (by omega) (by omega)
  have o2 : abits .or .i64 (x0 * 16777216 + x1 * 65536) (x2 * 256) = x0 * 16777216 + x1 * 65536 + x2 * 256 := or_i (m := x0 * 256 + x1) 16 65536 (by decide) (by omega) (by omega) (by omega) (by omega) (by omega)
  have o3 : abits .or .i64 (x0 * 16777216 + x1 * 65536 + x2 * 256) x3 = x0 * 16777216 + x1 * 65536 + x2 * 256 + x3 := or_i (m := x0 * 65536 + x1 * 256 + x2) 8 256 (by decide) (by omega) (by omega) (by omega) (by omega) (by omega)
  have p24 : (2 : Int) ^ (min 24 IntKind.i64.bits) = 16777216 := by decide
  have p16 : (2 : Int) ^ (min 16 IntKind.i64.bits) = 65536 := by decide
  have p8 : (2 : Int) ^ (min 8 IntKind.i64.bits) = 256 := by decide
  have h4 : ∀ j : Int, 0 ≤ j → j ≤ 3 → j < b.length := fun j _ _ => by omega
  repeat' first
    | with_reducible refine k_seq ?_
    | with_reducible refine k_skip ?_
    | with_reducible refine k_blkS ?_
    | with_reducible refine k_blkR ?_
    | with_reducible refine k_blkC ?_
    | with_reducible refine k_blkH ?_
    | with_reducible refine k_blkB ?_
    | with_reducible refine k_blkK ?_
    | with_reducible refine k_blkE ?_
    | with_reducible refine k_reg ?_
    | with_reducible refine k_head (by with_unfolding_all rfl) ?_
    | with_reducible refine k_headS ?_
    | (with_reducible refine SepK.mk ?_ ?_; (refine sepQ_P ?_; simp [sepQ, sepG, AOp.late, AOp.free, AOp.xs, AOp.isAl, tokNe, AV.tok, stS_get, strip, AX.val, c43r0, c43r1, GA]; try omega))
    | with_reducible refine r_done ?_
    | with_reducible refine hr_done ?_
    | with_reducible refine s_go (by simp (disch := omega) only [r0, r1, r2, r3, p24, p16, p8, o1, o2, o3, c43r0, c43r1, EV0, EV1, EV2, EV3, EV4, EV5, EV6, EV7, EV8, VALS, plug, ite_same, decide_true, decide_false, eq_self, ↓reduceIte, reduceCtorEq, Nat.reduceAdd, Nat.reduceEqDiff, Nat.reduceLT, Nat.reduceLeDiff, Nat.reduceMul, Nat.reduceSub, Nat.reduceDiv, Int.reduceToNat, Int.reduceAdd, Int.reduceSub, Int.reduceMul, Int.reduceNeg, Int.reduceEq, Int.reduceLT, Int.reduceLE]; with_reducible rfl) ?_
    | with_reducible refine h_go (by with_unfolding_all rfl) (by simp (disch := omega) only [r0, r1, r2, r3, p24, p16, p8, o1, o2, o3, c43r0, c43r1, EV0, EV1, EV2, EV3, EV4, EV5, EV6, EV7, EV8, VALS, plug, ite_same, decide_true, decide_false, eq_self, ↓reduceIte, reduceCtorEq, Nat.reduceAdd, Nat.reduceEqDiff, Nat.reduceLT, Nat.reduceLeDiff, Nat.reduceMul, Nat.reduceSub, Nat.reduceDiv, Int.reduceToNat, Int.reduceAdd, Int.reduceSub, Int.reduceMul, Int.reduceNeg, Int.reduceEq, Int.reduceLT, Int.reduceLE]; with_reducible rfl) ?_
    | ((with_reducible refine chk_r ?_); refine r_callF (by simp only [CA, Nat.reduceEqDiff, ↓reduceIte]; rfl) (by exact rfl) (by simp only [CA, Nat.reduceEqDiff, ↓reduceIte]; rfl) rfl ?_)
    | ((with_reducible refine chk_h ?_); refine hr_callF (by simp only [CA, Nat.reduceEqDiff, ↓reduceIte]; rfl) (by exact rfl) (by simp only [CA, Nat.reduceEqDiff, ↓reduceIte]; rfl) rfl ?_)
    | ((with_reducible refine chk_h ?_); refine hr_app (by simp (disch := omega) only [r0, r1, r2, r3, p24, p16, p8, o1, o2, o3, c43r0, c43r1, EV0, EV1, EV2, EV3, EV4, EV5, EV6, EV7, EV8, VALS, plug, ite_same, decide_true, decide_false, eq_self, ↓reduceIte, reduceCtorEq, Nat.reduceAdd, Nat.reduceEqDiff, Nat.reduceLT, Nat.reduceLeDiff, Nat.reduceMul, Nat.reduceSub, Nat.reduceDiv, Int.reduceToNat, Int.reduceAdd, Int.reduceSub, Int.reduceMul, Int.reduceNeg, Int.reduceEq, Int.reduceLT, Int.reduceLE]; with_reducible rfl) rfl ?_)
    | (with_reducible refine k_condP (by simp only [GA, Nat.reduceEqDiff, ↓reduceIte]; rfl) (by first | (simp only [BO]; rfl) | rfl) (fun ht => ?_) (fun ht => ?_) <;> try (first | exact False.elim ht | exact absurd rfl ht | exact absurd trivial ht | exact Bool.noConfusion ht))
    | (with_reducible refine k_ret ?_; repeat with_reducible (first | refine ret_thru ?_ | refine ret_blk ?_ | refine fin ?_))
    | (with_reducible refine k_exit ?_; repeat with_reducible (first | refine thru ?_ | refine out_blk ?_ | refine pass (by decide) ?_))
    | (refine post1 ?_; simp only [GA, Nat.reduceEqDiff, ↓reduceIte])
    | (refine post2 ?_; simp only [GA, Nat.reduceEqDiff, ↓reduceIte])
    | (refine post3 ?_; simp only [GA, Nat.reduceEqDiff, ↓reduceIte])
    | (refine postc (by simp only [GA, Nat.reduceEqDiff, ↓reduceIte]; rfl) (by simp (disch := omega) only [r0, r1, r2, r3, p24, p16, p8, o1, o2, o3, c43r0, c43r1, EV0, EV1, EV2, EV3, EV4, EV5, EV6, EV7, EV8, VALS, plug, ite_same, decide_true, decide_false, eq_self, ↓reduceIte, reduceCtorEq, Nat.reduceAdd, Nat.reduceEqDiff, Nat.reduceLT, Nat.reduceLeDiff, Nat.reduceMul, Nat.reduceSub, Nat.reduceDiv, Int.reduceToNat, Int.reduceAdd, Int.reduceSub, Int.reduceMul, Int.reduceNeg, Int.reduceEq, Int.reduceLT, Int.reduceLE]; rfl) ?_)
    | refine post0 ?_
  all_goals first | exact ends_of | exact ends_eq rfl
/-- the four bytes of a number -/
def nb (v : Int) : List Int := [v / 16777216 % 256, v / 65536 % 256, v / 256 % 256, v % 256]
theorem nb_BY (v : Int) : BY (nb v) := fun x hx => by
  simp only [nb, List.mem_cons, List.not_mem_nil, or_false] at hx
  omega
theorem nb_len (v : Int) : (nb v).length = 4 := rfl
theorem vb_nb {v : Int} (h : 0 ≤ v ∧ v ≤ 4294967295) : vb (nb v) = v := by
  simp only [vb, bt, nb, List.getD_cons_zero, List.getD_cons_succ]
  omega
theorem nb_take (v : Int) : List.take 4 (nb v) = nb v := rfl
theorem nb_ul (v : Int) : ul (nb v) = [.i .u8 (v / 16777216 % 256), .i .u8 (v / 65536 % 256), .i .u8 (v / 256 % 256), .i .u8 (v % 256)] := rfl
theorem nb0 (v : Int) : IntKind.u8.wrap (v.fdiv ((2 : Int) ^ (min 24 IntKind.i64.bits))) = v / 16777216 % 256 := by
  rw [IntKind.wrap_u8, Int.fdiv_eq_ediv_of_nonneg _ (by decide)]; rfl
theorem nb1 (v : Int) : IntKind.u8.wrap (v.fdiv ((2 : Int) ^ (min 16 IntKind.i64.bits))) = v / 65536 % 256 := by
  rw [IntKind.wrap_u8, Int.fdiv_eq_ediv_of_nonneg _ (by decide)]; rfl
theorem nb2 (v : Int) : IntKind.u8.wrap (v.fdiv ((2 : Int) ^ (min 8 IntKind.i64.bits))) = v / 256 % 256 := by
  rw [IntKind.wrap_u8, Int.fdiv_eq_ediv_of_nonneg _ (by decide)]; rfl
theorem nb3 (v : Int) : IntKind.u8.wrap v = v % 256 := IntKind.wrap_u8 v
theorem new_ok {T : Nat} {H : AH} {n k : Nat} {cs : List AV} (hm : H.m T = some (.cells true cs)) (hl : cs.length = n * k) : IsNew k n cs (.sl T 0 n k) H :=
  ⟨T, 0, k, rfl, .inr ⟨cs, rfl, hm, by rw [hl, Nat.zero_add]; exact Nat.le_refl _, by rw [List.drop_zero, List.take_of_length_le (Nat.le_of_eq hl)]⟩⟩
theorem f34z (v : Int) (h : AH) : FCalls Try.prog 34 [.sl 0 0 0 0, .i .i64 v] h none 4 1 (ul (nb v)) := by
  refine fresh_call rfl (ul_plain _) fun h0 hr _ => ?_
  refine a_fn fn34 (by simp) fun ok pos => ?_
  rw [initSt2]
  repeat' first
    | with_reducible refine k_seq ?_
    | with_reducible refine k_skip ?_
    | with_reducible refine k_blkS ?_
    | with_reducible refine k_blkR ?_
    | with_reducible refine k_blkC ?_
    | with_reducible refine k_blkH ?_
    | with_reducible refine k_blkB ?_
    | with_reducible refine k_blkK ?_
    | with_reducible refine k_blkE ?_
    | with_reducible refine k_reg ?_
    | with_reducible refine r_done ?_
    | with_reducible refine s_go (by simp (disch := omega) only [nb0 v, nb1 v, nb2 v, nb3 v, c34r0, c34r1, EV0, EV1, EV2, EV3, EV4, EV5, EV6, EV7, EV8, VALS, plug, ite_same, decide_true, decide_false, eq_self, ↓reduceIte, reduceCtorEq, Nat.reduceAdd, Nat.reduceEqDiff, Nat.reduceLT, Nat.reduceLeDiff, Nat.reduceMul, Nat.reduceSub, Nat.reduceDiv, Int.reduceToNat, Int.reduceAdd, Int.reduceSub, Int.reduceMul, Int.reduceNeg, Int.reduceEq, Int.reduceLT, Int.reduceLE]; with_reducible rfl) ?_
    | ((with_reducible refine chk_r ?_); refine r_callF (by simp only [CA, Nat.reduceEqDiff, ↓reduceIte]; rfl) (by exact rfl) (by simp only [CA, Nat.reduceEqDiff, ↓reduceIte]; rfl) rfl ?_)
    | (with_reducible refine k_condP (by simp only [GA, Nat.reduceEqDiff, ↓reduceIte]; rfl) (by first | (simp only [BO]; rfl) | rfl) (fun ht => ?_) (fun ht => ?_) <;> try (first | exact False.elim ht | exact absurd rfl ht | exact absurd trivial ht | exact Bool.noConfusion ht))
    | (with_reducible refine k_ret ?_; repeat with_reducible (first | refine ret_thru ?_ | refine ret_blk ?_ | refine fin ?_))
    | (with_reducible refine k_exit ?_; repeat with_reducible (first | refine thru ?_ | refine out_blk ?_ | refine pass (by decide) ?_))
    | (refine post1 ?_; simp only [GA, Nat.reduceEqDiff, ↓reduceIte])
    | (refine post2 ?_; simp only [GA, Nat.reduceEqDiff, ↓reduceIte])
    | (refine post3 ?_; simp only [GA, Nat.reduceEqDiff, ↓reduceIte])
    | (refine postc (by simp only [GA, Nat.reduceEqDiff, ↓reduceIte]; rfl) (by simp (disch := omega) only [nb0 v, nb1 v, nb2 v, nb3 v, c34r0, c34r1, EV0, EV1, EV2, EV3, EV4, EV5, EV6, EV7, EV8, VALS, plug, ite_same, decide_true, decide_false, eq_self, ↓reduceIte, reduceCtorEq, Nat.reduceAdd, Nat.reduceEqDiff, Nat.reduceLT, Nat.reduceLeDiff, Nat.reduceMul, Nat.reduceSub, Nat.reduceDiv, Int.reduceToNat, Int.reduceAdd, Int.reduceSub, Int.reduceMul, Int.reduceNeg, Int.reduceEq, Int.reduceLT, Int.reduceLE]; rfl) ?_)
    | refine post0 ?_
  exact ⟨_, rfl, new_ok (by simp (disch := omega) only [c34r0, c34r1, EV0, EV1, EV2, EV3, EV4, EV5, EV6, EV7, EV8, VALS, plug, ite_same, decide_true, decide_false, eq_self, ↓reduceIte, reduceCtorEq, Nat.reduceAdd, Nat.reduceEqDiff, Nat.reduceLT, Nat.reduceLeDiff, Nat.reduceMul, Nat.reduceSub, Nat.reduceDiv, Int.reduceToNat, Int.reduceAdd, Int.reduceSub, Int.reduceMul, Int.reduceNeg, Int.reduceEq, Int.reduceLT, Int.reduceLE] <;> rfl) rfl⟩
/-- appended to a row of its own, that is not written again -/
theorem f34 (v : Int) (t : Nat) (bs : List Int) (hn : bs.length ≤ 100000000) (ht0 : t ≠ 0) (h : AH) (hm : h.m t = some (.cells true (ul bs))) :
    ACalls Try.prog 34 [.sl t 0 bs.length 1, .i .i64 v] h fun r h' => r = vu (bs ++ nb v) ∧ h.nx ≤ h'.nx ∧ ∀ s, s < h.nx → s ≠ t → h'.m s = h.m s := by
  refine w_fn fn34 (by simp) fun ok pos => ?_
  have ht := ok.m hm
  rw [initSt2]
  have hl : bs.length = (ul bs).length := (ul_len bs).symm
  repeat' first
    | with_reducible refine k_seq ?_
    | with_reducible refine k_skip ?_
    | with_reducible refine k_blkS ?_
    | with_reducible refine k_blkR ?_
    | with_reducible refine k_blkC ?_
    | with_reducible refine k_blkH ?_
    | with_reducible refine k_blkB ?_
    | with_reducible refine k_blkK ?_
    | with_reducible refine k_blkE ?_
    | with_reducible refine k_reg ?_
    | with_reducible refine r_done ?_
    | with_reducible refine s_go (by simp (disch := omega) only [nb0 v, nb1 v, nb2 v, nb3 v, hm, ul_len, ht0, ← nb_ul, nb_len, nb_take, c34r0, c34r1, EV0, EV1, EV2, EV3, EV4, EV5, EV6, EV7, EV8, VALS, plug, ite_same, decide_true, decide_false, eq_self, ↓reduceIte, reduceCtorEq, Nat.reduceAdd, Nat.reduceEqDiff, Nat.reduceLT, Nat.reduceLeDiff, Nat.reduceMul, Nat.reduceSub, Nat.reduceDiv, Int.reduceToNat, Int.reduceAdd, Int.reduceSub, Int.reduceMul, Int.reduceNeg, Int.reduceEq, Int.reduceLT, Int.reduceLE]; with_reducible rfl) ?_
    | ((with_reducible refine chk_r ?_); refine r_callF (by simp only [CA, Nat.reduceEqDiff, ↓reduceIte]; rfl) (by exact rfl) (by simp only [CA, Nat.reduceEqDiff, ↓reduceIte]; rfl) rfl ?_)
    | (with_reducible refine k_condP (by simp only [GA, Nat.reduceEqDiff, ↓reduceIte]; rfl) (by first | (simp only [BO]; rfl) | rfl) (fun ht => ?_) (fun ht => ?_) <;> try (first | exact False.elim ht | exact absurd rfl ht | exact absurd trivial ht | exact Bool.noConfusion ht))
    | (with_reducible refine k_ret ?_; repeat with_reducible (first | refine ret_thru ?_ | refine ret_blk ?_ | refine fin ?_))
    | (with_reducible refine k_exit ?_; repeat with_reducible (first | refine thru ?_ | refine out_blk ?_ | refine pass (by decide) ?_))
    | (refine post1 ?_; simp only [GA, Nat.reduceEqDiff, ↓reduceIte])
    | (refine post2 ?_; simp only [GA, Nat.reduceEqDiff, ↓reduceIte])
    | (refine post3 ?_; simp only [GA, Nat.reduceEqDiff, ↓reduceIte])
    | (refine postc (by simp only [GA, Nat.reduceEqDiff, ↓reduceIte]; rfl) (by simp (disch := omega) only [nb0 v, nb1 v, nb2 v, nb3 v, hm, ul_len, ht0, ← nb_ul, nb_len, nb_take, c34r0, c34r1, EV0, EV1, EV2, EV3, EV4, EV5, EV6, EV7, EV8, VALS, plug, ite_same, decide_true, decide_false, eq_self, ↓reduceIte, reduceCtorEq, Nat.reduceAdd, Nat.reduceEqDiff, Nat.reduceLT, Nat.reduceLeDiff, Nat.reduceMul, Nat.reduceSub, Nat.reduceDiv, Int.reduceToNat, Int.reduceAdd, Int.reduceSub, Int.reduceMul, Int.reduceNeg, Int.reduceEq, Int.reduceLT, Int.reduceLE]; rfl) ?_)
    | refine post0 ?_
  refine ⟨_, .step (t := h.nx + 1 + 13) (cs := ul (bs ++ nb v)) (by simp (disch := omega) only [c34r0, c34r1, EV0, EV1, EV2, EV3, EV4, EV5, EV6, EV7, EV8, VALS, plug, ite_same, decide_true, decide_false, eq_self, ↓reduceIte, reduceCtorEq, Nat.reduceAdd, Nat.reduceEqDiff, Nat.reduceLT, Nat.reduceLeDiff, Nat.reduceMul, Nat.reduceSub, Nat.reduceDiv, Int.reduceToNat, Int.reduceAdd, Int.reduceSub, Int.reduceMul, Int.reduceNeg, Int.reduceEq, Int.reduceLT, Int.reduceLE] <;> rfl) (FrzH.kill _ _ _) (frz_ul (by rw [List.length_append]; rfl)) .done, (by simp only [AH.kill_nx]; (simp (disch := omega) only [c34r0, c34r1, EV0, EV1, EV2, EV3, EV4, EV5, EV6, EV7, EV8, VALS, plug, ite_same, decide_true, decide_false, eq_self, ↓reduceIte, reduceCtorEq, Nat.reduceAdd, Nat.reduceEqDiff, Nat.reduceLT, Nat.reduceLeDiff, Nat.reduceMul, Nat.reduceSub, Nat.reduceDiv, Int.reduceToNat, Int.reduceAdd, Int.reduceSub, Int.reduceMul, Int.reduceNeg, Int.reduceEq, Int.reduceLT, Int.reduceLE]); omega), fun s h1 h2 => ?_⟩
  have : s ≠ h.nx + 1 + 13 := by omega
  simp only [AH.kill, this, if_false]
  simp (disch := omega) only [h2, c34r0, c34r1, EV0, EV1, EV2, EV3, EV4, EV5, EV6, EV7, EV8, VALS, plug, ite_same, decide_true, decide_false, eq_self, ↓reduceIte, reduceCtorEq, Nat.reduceAdd, Nat.reduceEqDiff, Nat.reduceLT, Nat.reduceLeDiff, Nat.reduceMul, Nat.reduceSub, Nat.reduceDiv, Int.reduceToNat, Int.reduceAdd, Int.reduceSub, Int.reduceMul, Int.reduceNeg, Int.reduceEq, Int.reduceLT, Int.reduceLE]
def coded (im : List Int) (turn : Int) : List Int := nb im.length ++ im ++ nb turn
/-! ### What a slot holds -/
def hasI (b : List Int) : Prop := 8 ≤ b.length ∧ vb b ≤ 65536 ∧ (b.length : Int) = vb b + 8
instance (b : List Int) : Decidable (hasI b) := by unfold hasI; infer_instance
def turnOf (b : List Int) : Int := vb (b.drop (b.length - 4))
def imOf (b : List Int) : List Int := (b.drop 4).take (b.length - 8)
def okT (slot : Int) (b : List Int) : Bool := (decide (1 ≤ turnOf b) && decide (turnOf b ≤ 2147483647)) && decide (turnOf b % 2 = slot)
def hT (slot : Int) (b : List Int) : Int := if hasI b then turnOf b else 0
def hIm (slot : Int) (b : List Int) : List Int := if hasI b then imOf b else []
def hOk (slot : Int) (b : List Int) : Bool := if hasI b then okT slot b else false
theorem imOf_len {b : List Int} (h : 8 ≤ b.length) : (imOf b).length = b.length - 8 := by unfold imOf; rw [List.length_take, List.length_drop]; omega
theorem imOf_vs {b : List Int} (h : 8 ≤ b.length) : AV.vs (b.length - 8) (ul ((b.drop 4).take (b.length - 8))) = vu (imOf b) := by unfold vu; rw [imOf_len h]; rfl
theorem turn_range {b : List Int} (h : BY b) : 0 ≤ turnOf b ∧ turnOf b ≤ 4294967295 := vb_range (h.drop _)
set_option maxHeartbeats 1000000 in
theorem pc32 (slot : Int) (b : List Int) (h : BY b) (hn : b.length ≤ 100000000) : PC Try.prog 32 [.i .i64 slot, vu b] (.tu [.i .i64 (hT slot b), vu (hIm slot b), .b (hOk slot b)]) := by
  refine pc_fn fn32 (by simp only [AV.plains, AV.plain, il_plain, bl_plain, Bool.and_true, Bool.true_and, Bool.and_self, ul_plain]) (by simp only [AV.plains, AV.plain, il_plain, bl_plain, Bool.and_true, Bool.true_and, Bool.and_self, ul_plain]) (Nat.le_of_ble_eq_true rfl) ?_
  rw [initSt2]
  have bad : ¬ hasI b → (AV.tu [.i .i64 (hT slot b), vu (hIm slot b), .b (hOk slot b)]) = .tu [.i .i64 0, .vs 0 [], .b false] := fun q => by unfold hT hIm hOk; rw [if_neg q, if_neg q, if_neg q]; rfl
  have nil3 : ∀ H : AH, Am.Ends (.tu [.i .i64 0, .vs 0 [], .b false]) (.tu [.i .i64 0, .sl 0 0 0 0, .b false]) H := fun H => ⟨H, .zero (.tu (.cons .same (.cons .nil (.cons .same .nil)))) .done⟩
  by_cases h8 : b.length < 8
  · have h8' : (b.length : Int) < 8 := by omega
    rw [bad (by unfold hasI; omega)]
    repeat' first
      | with_reducible refine k_seq ?_
      | with_reducible refine k_skip ?_
      | with_reducible refine k_blkS ?_
      | with_reducible refine k_blkR ?_
      | with_reducible refine k_blkC ?_
      | with_reducible refine k_blkH ?_
      | with_reducible refine k_blkB ?_
      | with_reducible refine k_blkK ?_
      | with_reducible refine k_blkE ?_
      | with_reducible refine k_reg ?_
      | with_reducible refine k_head (by with_unfolding_all rfl) ?_
      | with_reducible refine k_headS ?_
      | (with_reducible refine SepK.mk ?_ ?_; (refine sepQ_P ?_; simp [sepQ, sepG, AOp.late, AOp.free, AOp.xs, AOp.isAl, tokNe, AV.tok, stS_get, strip, AX.val, c32r0, c32r1, c32r2, c32r3, c32r4, GA]; try omega))
      | with_reducible refine r_done ?_
      | with_reducible refine hr_done ?_
      | with_reducible refine s_go (by simp (disch := omega) only [h8', c32r0, c32r1, c32r2, c32r3, c32r4, EV0, EV1, EV2, EV3, EV4, EV5, EV6, EV7, EV8, VALS, plug, ite_same, decide_true, decide_false, eq_self, ↓reduceIte, reduceCtorEq, Nat.reduceAdd, Nat.reduceEqDiff, Nat.reduceLT, Nat.reduceLeDiff, Nat.reduceMul, Nat.reduceSub, Nat.reduceDiv, Int.reduceToNat, Int.reduceAdd, Int.reduceSub, Int.reduceMul, Int.reduceNeg, Int.reduceEq, Int.reduceLT, Int.reduceLE]; with_reducible rfl) ?_
      | with_reducible refine h_go (by with_unfolding_all rfl) (by simp (disch := omega) only [h8', c32r0, c32r1, c32r2, c32r3, c32r4, EV0, EV1, EV2, EV3, EV4, EV5, EV6, EV7, EV8, VALS, plug, ite_same, decide_true, decide_false, eq_self, ↓reduceIte, reduceCtorEq, Nat.reduceAdd, Nat.reduceEqDiff, Nat.reduceLT, Nat.reduceLeDiff, Nat.reduceMul, Nat.reduceSub, Nat.reduceDiv, Int.reduceToNat, Int.reduceAdd, Int.reduceSub, Int.reduceMul, Int.reduceNeg, Int.reduceEq, Int.reduceLT, Int.reduceLE]; with_reducible rfl) ?_
      | ((with_reducible refine chk_r ?_); refine r_callF (by simp only [CA, Nat.reduceEqDiff, ↓reduceIte]; rfl) (by exact rfl) (by simp only [CA, Nat.reduceEqDiff, ↓reduceIte]; rfl) rfl ?_)
      | ((with_reducible refine chk_h ?_); refine hr_callF (by simp only [CA, Nat.reduceEqDiff, ↓reduceIte]; rfl) (by exact rfl) (by simp only [CA, Nat.reduceEqDiff, ↓reduceIte]; rfl) rfl ?_)
      | ((with_reducible refine chk_h ?_); refine hr_app (by simp (disch := omega) only [h8', c32r0, c32r1, c32r2, c32r3, c32r4, EV0, EV1, EV2, EV3, EV4, EV5, EV6, EV7, EV8, VALS, plug, ite_same, decide_true, decide_false, eq_self, ↓reduceIte, reduceCtorEq, Nat.reduceAdd, Nat.reduceEqDiff, Nat.reduceLT, Nat.reduceLeDiff, Nat.reduceMul, Nat.reduceSub, Nat.reduceDiv, Int.reduceToNat, Int.reduceAdd, Int.reduceSub, Int.reduceMul, Int.reduceNeg, Int.reduceEq, Int.reduceLT, Int.reduceLE]; with_reducible rfl) rfl ?_)
      | (with_reducible refine k_condP (by simp only [GA, Nat.reduceEqDiff, ↓reduceIte]; rfl) (by first | (simp only [BO]; rfl) | rfl) (fun ht => ?_) (fun ht => ?_) <;> try (first | exact False.elim ht | exact absurd rfl ht | exact absurd trivial ht | exact Bool.noConfusion ht))
      | (with_reducible refine k_ret ?_; repeat with_reducible (first | refine ret_thru ?_ | refine ret_blk ?_ | refine fin ?_))
      | (with_reducible refine k_exit ?_; repeat with_reducible (first | refine thru ?_ | refine out_blk ?_ | refine pass (by decide) ?_))
      | (refine post1 ?_; simp only [GA, Nat.reduceEqDiff, ↓reduceIte])
      | (refine post2 ?_; simp only [GA, Nat.reduceEqDiff, ↓reduceIte])
      | (refine post3 ?_; simp only [GA, Nat.reduceEqDiff, ↓reduceIte])
      | (refine postc (by simp only [GA, Nat.reduceEqDiff, ↓reduceIte]; rfl) (by simp (disch := omega) only [h8', c32r0, c32r1, c32r2, c32r3, c32r4, EV0, EV1, EV2, EV3, EV4, EV5, EV6, EV7, EV8, VALS, plug, ite_same, decide_true, decide_false, eq_self, ↓reduceIte, reduceCtorEq, Nat.reduceAdd, Nat.reduceEqDiff, Nat.reduceLT, Nat.reduceLeDiff, Nat.reduceMul, Nat.reduceSub, Nat.reduceDiv, Int.reduceToNat, Int.reduceAdd, Int.reduceSub, Int.reduceMul, Int.reduceNeg, Int.reduceEq, Int.reduceLT, Int.reduceLE]; rfl) ?_)
      | refine post0 ?_
    exact nil3 _
  · have h8' : ¬ (b.length : Int) < 8 := by omega
    have q0 := pc43 b h (by omega)
    have q4 : PC Try.prog 43 [.vs 4 (ul (b.drop (b.length - 4)))] (.i .i64 (turnOf b)) := by
      have := pc43 (b.drop (b.length - 4)) (h.drop _) (by rw [List.length_drop]; omega)
      unfold vu at this
      rw [List.length_drop, show b.length - (b.length - 4) = 4 by omega] at this
      exact this
    have v0 := vb_range h
    have v4 := turn_range h
    have e4 : ((b.length : Int) - 4).toNat = b.length - 4 := by omega
    have e44 : b.length - (b.length - 4) = 4 := by omega
    have e8 : b.length - 4 - 4 = b.length - 8 := by omega
    by_cases c1 : vb b ≤ 65536
    · have c1' : ¬ 65536 < vb b := by omega
      by_cases c2 : (b.length : Int) = vb b + 8
      · have c2' := eq_true c2
        have hi : hasI b := ⟨by omega, c1, c2⟩
        have r : (AV.tu [.i .i64 (hT slot b), vu (hIm slot b), .b (hOk slot b)]) = .tu [.i .i64 (turnOf b), vu (imOf b), .b (okT slot b)] := by unfold hT hIm hOk; rw [if_pos hi, if_pos hi, if_pos hi]
        rw [r, ← imOf_vs (by omega)]
        repeat' first
          | with_reducible refine k_seq ?_
          | with_reducible refine k_skip ?_
          | with_reducible refine k_blkS ?_
          | with_reducible refine k_blkR ?_
          | with_reducible refine k_blkC ?_
          | with_reducible refine k_blkH ?_
          | with_reducible refine k_blkB ?_
          | with_reducible refine k_blkK ?_
          | with_reducible refine k_blkE ?_
          | with_reducible refine k_reg ?_
          | with_reducible refine k_head (by with_unfolding_all rfl) ?_
          | with_reducible refine k_headS ?_
          | (with_reducible refine SepK.mk ?_ ?_; (refine sepQ_P ?_; simp [sepQ, sepG, AOp.late, AOp.free, AOp.xs, AOp.isAl, tokNe, AV.tok, stS_get, strip, AX.val, c32r0, c32r1, c32r2, c32r3, c32r4, GA]; try omega))
          | with_reducible refine r_done ?_
          | with_reducible refine hr_done ?_
          | with_reducible refine s_go (by simp (disch := omega) only [h8', c1', c2', e4, e44, e8, c32r0, c32r1, c32r2, c32r3, c32r4, EV0, EV1, EV2, EV3, EV4, EV5, EV6, EV7, EV8, VALS, plug, ite_same, decide_true, decide_false, eq_self, ↓reduceIte, reduceCtorEq, Nat.reduceAdd, Nat.reduceEqDiff, Nat.reduceLT, Nat.reduceLeDiff, Nat.reduceMul, Nat.reduceSub, Nat.reduceDiv, Int.reduceToNat, Int.reduceAdd, Int.reduceSub, Int.reduceMul, Int.reduceNeg, Int.reduceEq, Int.reduceLT, Int.reduceLE]; with_reducible rfl) ?_
          | with_reducible refine h_go (by with_unfolding_all rfl) (by simp (disch := omega) only [h8', c1', c2', e4, e44, e8, c32r0, c32r1, c32r2, c32r3, c32r4, EV0, EV1, EV2, EV3, EV4, EV5, EV6, EV7, EV8, VALS, plug, ite_same, decide_true, decide_false, eq_self, ↓reduceIte, reduceCtorEq, Nat.reduceAdd, Nat.reduceEqDiff, Nat.reduceLT, Nat.reduceLeDiff, Nat.reduceMul, Nat.reduceSub, Nat.reduceDiv, Int.reduceToNat, Int.reduceAdd, Int.reduceSub, Int.reduceMul, Int.reduceNeg, Int.reduceEq, Int.reduceLT, Int.reduceLE]; with_reducible rfl) ?_
          | ((with_reducible refine chk_r ?_); refine r_callF (by simp only [CA, Nat.reduceEqDiff, ↓reduceIte]; rfl) (by exact rfl) (by simp only [CA, Nat.reduceEqDiff, ↓reduceIte]; rfl) rfl ?_)
          | ((with_reducible refine chk_h ?_); refine hr_callF (by simp only [CA, Nat.reduceEqDiff, ↓reduceIte]; rfl) (by exact rfl) (by simp only [CA, Nat.reduceEqDiff, ↓reduceIte]; rfl) rfl ?_)
          | ((with_reducible refine chk_r ?_); refine r_callP (by simp only [CA, Nat.reduceEqDiff, ↓reduceIte]; rfl) (by simp only [CA, Nat.reduceEqDiff, ↓reduceIte]; rfl) (by first | exact q0 _ | exact q4 _) rfl ?_)
          | ((with_reducible refine chk_h ?_); refine hr_callP (by simp only [CA, Nat.reduceEqDiff, ↓reduceIte]; rfl) (by simp only [CA, Nat.reduceEqDiff, ↓reduceIte]; rfl) (by first | exact q0 _ | exact q4 _) rfl ?_)
          | ((with_reducible refine chk_h ?_); refine hr_callP1 (by simp only [CA, Nat.reduceEqDiff, ↓reduceIte]; rfl) (by simp only [CA, Nat.reduceEqDiff, ↓reduceIte]; rfl) (by simp (disch := omega) only [CA, Nat.reduceEqDiff, ↓reduceIte, firstTok_nil, firstTok_sl, firstTok_sl0, firstTok_i, firstTok_b, firstTok_ag, firstTok_p, firstTok_s]; rfl) (by first | exact q0 _ | exact q4 _) rfl ?_)
          | ((with_reducible refine chk_r ?_); refine r_callG (by simp only [CA, Nat.reduceEqDiff, ↓reduceIte]; rfl) (by simp only [CA, Nat.reduceEqDiff, ↓reduceIte]; rfl) (by simp only [CA, Nat.reduceEqDiff, ↓reduceIte]; rfl) (by intro hg; (try simp only [BO] at hg); first | exact q0 _ | exact q4 _) rfl ?_)
          | ((with_reducible refine chk_h ?_); refine hr_callG (by simp only [CA, Nat.reduceEqDiff, ↓reduceIte]; rfl) (by simp only [CA, Nat.reduceEqDiff, ↓reduceIte]; rfl) (by simp only [CA, Nat.reduceEqDiff, ↓reduceIte]; rfl) (by intro hg; (try simp only [BO] at hg); first | exact q0 _ | exact q4 _) rfl ?_)
          | ((with_reducible refine chk_h ?_); refine hr_app (by simp (disch := omega) only [h8', c1', c2', e4, e44, e8, c32r0, c32r1, c32r2, c32r3, c32r4, EV0, EV1, EV2, EV3, EV4, EV5, EV6, EV7, EV8, VALS, plug, ite_same, decide_true, decide_false, eq_self, ↓reduceIte, reduceCtorEq, Nat.reduceAdd, Nat.reduceEqDiff, Nat.reduceLT, Nat.reduceLeDiff, Nat.reduceMul, Nat.reduceSub, Nat.reduceDiv, Int.reduceToNat, Int.reduceAdd, Int.reduceSub, Int.reduceMul, Int.reduceNeg, Int.reduceEq, Int.reduceLT, Int.reduceLE]; with_reducible rfl) rfl ?_)
          | (with_reducible refine k_condP (by simp only [GA, Nat.reduceEqDiff, ↓reduceIte]; rfl) (by first | (simp only [BO]; rfl) | rfl) (fun ht => ?_) (fun ht => ?_) <;> try (first | exact False.elim ht | exact absurd rfl ht | exact absurd trivial ht | exact Bool.noConfusion ht))
          | (with_reducible refine k_ret ?_; repeat with_reducible (first | refine ret_thru ?_ | refine ret_blk ?_ | refine fin ?_))
          | (with_reducible refine k_exit ?_; repeat with_reducible (first | refine thru ?_ | refine out_blk ?_ | refine pass (by decide) ?_))
          | (refine post1 ?_; simp only [GA, Nat.reduceEqDiff, ↓reduceIte])
          | (refine post2 ?_; simp only [GA, Nat.reduceEqDiff, ↓reduceIte])
          | (refine post3 ?_; simp only [GA, Nat.reduceEqDiff, ↓reduceIte])
          | (refine postc (by simp only [GA, Nat.reduceEqDiff, ↓reduceIte]; rfl) (by simp (disch := omega) only [h8', c1', c2', e4, e44, e8, c32r0, c32r1, c32r2, c32r3, c32r4, EV0, EV1, EV2, EV3, EV4, EV5, EV6, EV7, EV8, VALS, plug, ite_same, decide_true, decide_false, eq_self, ↓reduceIte, reduceCtorEq, Nat.reduceAdd, Nat.reduceEqDiff, Nat.reduceLT, Nat.reduceLeDiff, Nat.reduceMul, Nat.reduceSub, Nat.reduceDiv, Int.reduceToNat, Int.reduceAdd, Int.reduceSub, Int.reduceMul, Int.reduceNeg, Int.reduceEq, Int.reduceLT, Int.reduceLE]; rfl) ?_)
          | refine post0 ?_
        refine ends_eq ?_
        rw [Int.tmod_eq_emod_of_nonneg v4.1]
        rfl
      · rw [bad (by unfold hasI; omega)]
        repeat' first
          | with_reducible refine k_seq ?_
          | with_reducible refine k_skip ?_
          | with_reducible refine k_blkS ?_
          | with_reducible refine k_blkR ?_
          | with_reducible refine k_blkC ?_
          | with_reducible refine k_blkH ?_
          | with_reducible refine k_blkB ?_
          | with_reducible refine k_blkK ?_
          | with_reducible refine k_blkE ?_
          | with_reducible refine k_reg ?_
          | with_reducible refine k_head (by with_unfolding_all rfl) ?_
          | with_reducible refine k_headS ?_
          | (with_reducible refine SepK.mk ?_ ?_; (refine sepQ_P ?_; simp [sepQ, sepG, AOp.late, AOp.free, AOp.xs, AOp.isAl, tokNe, AV.tok, stS_get, strip, AX.val, c32r0, c32r1, c32r2, c32r3, c32r4, GA]; try omega))
          | with_reducible refine r_done ?_
          | with_reducible refine hr_done ?_
          | with_reducible refine s_go (by simp (disch := omega) only [h8', c1', c2, c32r0, c32r1, c32r2, c32r3, c32r4, EV0, EV1, EV2, EV3, EV4, EV5, EV6, EV7, EV8, VALS, plug, ite_same, decide_true, decide_false, eq_self, ↓reduceIte, reduceCtorEq, Nat.reduceAdd, Nat.reduceEqDiff, Nat.reduceLT, Nat.reduceLeDiff, Nat.reduceMul, Nat.reduceSub, Nat.reduceDiv, Int.reduceToNat, Int.reduceAdd, Int.reduceSub, Int.reduceMul, Int.reduceNeg, Int.reduceEq, Int.reduceLT, Int.reduceLE]; with_reducible rfl) ?_
          | with_reducible refine h_go (by with_unfolding_all rfl) (by simp (disch := omega) only [h8', c1', c2, c32r0, c32r1, c32r2, c32r3, c32r4, EV0, EV1, EV2, EV3, EV4, EV5, EV6, EV7, EV8, VALS, plug, ite_same, decide_true, decide_false, eq_self, ↓reduceIte, reduceCtorEq, Nat.reduceAdd, Nat.reduceEqDiff, Nat.reduceLT, Nat.reduceLeDiff, Nat.reduceMul, Nat.reduceSub, Nat.reduceDiv, Int.reduceToNat, Int.reduceAdd, Int.reduceSub, Int.reduceMul, Int.reduceNeg, Int.reduceEq, Int.reduceLT, Int.reduceLE]; with_reducible rfl) ?_
          | ((with_reducible refine chk_r ?_); refine r_callF (by simp only [CA, Nat.reduceEqDiff, ↓reduceIte]; rfl) (by exact rfl) (by simp only [CA, Nat.reduceEqDiff, ↓reduceIte]; rfl) rfl ?_)
          | ((with_reducible refine chk_h ?_); refine hr_callF (by simp only [CA, Nat.reduceEqDiff, ↓reduceIte]; rfl) (by exact rfl) (by simp only [CA, Nat.reduceEqDiff, ↓reduceIte]; rfl) rfl ?_)
          | ((with_reducible refine chk_r ?_); refine r_callP (by simp only [CA, Nat.reduceEqDiff, ↓reduceIte]; rfl) (by simp only [CA, Nat.reduceEqDiff, ↓reduceIte]; rfl) (by first | exact q0 _ | exact q4 _) rfl ?_)
          | ((with_reducible refine chk_h ?_); refine hr_callP (by simp only [CA, Nat.reduceEqDiff, ↓reduceIte]; rfl) (by simp only [CA, Nat.reduceEqDiff, ↓reduceIte]; rfl) (by first | exact q0 _ | exact q4 _) rfl ?_)
          | ((with_reducible refine chk_h ?_); refine hr_callP1 (by simp only [CA, Nat.reduceEqDiff, ↓reduceIte]; rfl) (by simp only [CA, Nat.reduceEqDiff, ↓reduceIte]; rfl) (by simp (disch := omega) only [CA, Nat.reduceEqDiff, ↓reduceIte, firstTok_nil, firstTok_sl, firstTok_sl0, firstTok_i, firstTok_b, firstTok_ag, firstTok_p, firstTok_s]; rfl) (by first | exact q0 _ | exact q4 _) rfl ?_)
          | ((with_reducible refine chk_r ?_); refine r_callG (by simp only [CA, Nat.reduceEqDiff, ↓reduceIte]; rfl) (by simp only [CA, Nat.reduceEqDiff, ↓reduceIte]; rfl) (by simp only [CA, Nat.reduceEqDiff, ↓reduceIte]; rfl) (by intro hg; (try simp only [BO] at hg); first | exact q0 _ | exact q4 _) rfl ?_)
          | ((with_reducible refine chk_h ?_); refine hr_callG (by simp only [CA, Nat.reduceEqDiff, ↓reduceIte]; rfl) (by simp only [CA, Nat.reduceEqDiff, ↓reduceIte]; rfl) (by simp only [CA, Nat.reduceEqDiff, ↓reduceIte]; rfl) (by intro hg; (try simp only [BO] at hg); first | exact q0 _ | exact q4 _) rfl ?_)
          | ((with_reducible refine chk_h ?_); refine hr_app (by simp (disch := omega) only [h8', c1', c2, c32r0, c32r1, c32r2, c32r3, c32r4, EV0, EV1, EV2, EV3, EV4, EV5, EV6, EV7, EV8, VALS, plug, ite_same, decide_true, decide_false, eq_self, ↓reduceIte, reduceCtorEq, Nat.reduceAdd, Nat.reduceEqDiff, Nat.reduceLT, Nat.reduceLeDiff, Nat.reduceMul, Nat.reduceSub, Nat.reduceDiv, Int.reduceToNat, Int.reduceAdd, Int.reduceSub, Int.reduceMul, Int.reduceNeg, Int.reduceEq, Int.reduceLT, Int.reduceLE]; with_reducible rfl) rfl ?_)
          | (with_reducible refine k_condP (by simp only [GA, Nat.reduceEqDiff, ↓reduceIte]; rfl) (by first | (simp only [BO]; rfl) | rfl) (fun ht => ?_) (fun ht => ?_) <;> try (first | exact False.elim ht | exact absurd rfl ht | exact absurd trivial ht | exact Bool.noConfusion ht))
          | (with_reducible refine k_ret ?_; repeat with_reducible (first | refine ret_thru ?_ | refine ret_blk ?_ | refine fin ?_))
          | (with_reducible refine k_exit ?_; repeat with_reducible (first | refine thru ?_ | refine out_blk ?_ | refine pass (by decide) ?_))
          | (refine post1 ?_; simp only [GA, Nat.reduceEqDiff, ↓reduceIte])
          | (refine post2 ?_; simp only [GA, Nat.reduceEqDiff, ↓reduceIte])
          | (refine post3 ?_; simp only [GA, Nat.reduceEqDiff, ↓reduceIte])
          | (refine postc (by simp only [GA, Nat.reduceEqDiff, ↓reduceIte]; rfl) (by simp (disch := omega) only [h8', c1', c2, c32r0, c32r1, c32r2, c32r3, c32r4, EV0, EV1, EV2, EV3, EV4, EV5, EV6, EV7, EV8, VALS, plug, ite_same, decide_true, decide_false, eq_self, ↓reduceIte, reduceCtorEq, Nat.reduceAdd, Nat.reduceEqDiff, Nat.reduceLT, Nat.reduceLeDiff, Nat.reduceMul, Nat.reduceSub, Nat.reduceDiv, Int.reduceToNat, Int.reduceAdd, Int.reduceSub, Int.reduceMul, Int.reduceNeg, Int.reduceEq, Int.reduceLT, Int.reduceLE]; rfl) ?_)
          | refine post0 ?_
        exact nil3 _
    · have c1' : 65536 < vb b := by omega
      rw [bad (by unfold hasI; omega)]
      repeat' first
        | with_reducible refine k_seq ?_
        | with_reducible refine k_skip ?_
        | with_reducible refine k_blkS ?_
        | with_reducible refine k_blkR ?_
        | with_reducible refine k_blkC ?_
        | with_reducible refine k_blkH ?_
        | with_reducible refine k_blkB ?_
        | with_reducible refine k_blkK ?_
        | with_reducible refine k_blkE ?_
        | with_reducible refine k_reg ?_
        | with_reducible refine k_head (by with_unfolding_all rfl) ?_
        | with_reducible refine k_headS ?_
        | (with_reducible refine SepK.mk ?_ ?_; (refine sepQ_P ?_; simp [sepQ, sepG, AOp.late, AOp.free, AOp.xs, AOp.isAl, tokNe, AV.tok, stS_get, strip, AX.val, c32r0, c32r1, c32r2, c32r3, c32r4, GA]; try omega))
        | with_reducible refine r_done ?_
        | with_reducible refine hr_done ?_
        | with_reducible refine s_go (by simp (disch := omega) only [h8', c1', c32r0, c32r1, c32r2, c32r3, c32r4, EV0, EV1, EV2, EV3, EV4, EV5, EV6, EV7, EV8, VALS, plug, ite_same, decide_true, decide_false, eq_self, ↓reduceIte, reduceCtorEq, Nat.reduceAdd, Nat.reduceEqDiff, Nat.reduceLT, Nat.reduceLeDiff, Nat.reduceMul, Nat.reduceSub, Nat.reduceDiv, Int.reduceToNat, Int.reduceAdd, Int.reduceSub, Int.reduceMul, Int.reduceNeg, Int.reduceEq, Int.reduceLT, Int.reduceLE]; with_reducible rfl) ?_
        | with_reducible refine h_go (by with_unfolding_all rfl) (by simp (disch := omega) only [h8', c1', c32r0, c32r1, c32r2, c32r3, c32r4, EV0, EV1, EV2, EV3, EV4, EV5, EV6, EV7, EV8, VALS, plug, ite_same, decide_true, decide_false, eq_self, ↓reduceIte, reduceCtorEq, Nat.reduceAdd, Nat.reduceEqDiff, Nat.reduceLT, Nat.reduceLeDiff, Nat.reduceMul, Nat.reduceSub, Nat.reduceDiv, Int.reduceToNat, Int.reduceAdd, Int.reduceSub, Int.reduceMul, Int.reduceNeg, Int.reduceEq, Int.reduceLT, Int.reduceLE]; with_reducible rfl) ?_
        | ((with_reducible refine chk_r ?_); refine r_callF (by simp only [CA, Nat.reduceEqDiff, ↓reduceIte]; rfl) (by exact rfl) (by simp only [CA, Nat.reduceEqDiff, ↓reduceIte]; rfl) rfl ?_)
        | ((with_reducible refine chk_h ?_); refine hr_callF (by simp only [CA, Nat.reduceEqDiff, ↓reduceIte]; rfl) (by exact rfl) (by simp only [CA, Nat.reduceEqDiff, ↓reduceIte]; rfl) rfl ?_)
        | ((with_reducible refine chk_r ?_); refine r_callP (by simp only [CA, Nat.reduceEqDiff, ↓reduceIte]; rfl) (by simp only [CA, Nat.reduceEqDiff, ↓reduceIte]; rfl) (by first | exact q0 _ | exact q4 _) rfl ?_)
        | ((with_reducible refine chk_h ?_); refine hr_callP (by simp only [CA, Nat.reduceEqDiff, ↓reduceIte]; rfl) (by simp only [CA, Nat.reduceEqDiff, ↓reduceIte]; rfl) (by first | exact q0 _ | exact q4 _) rfl ?_)
        | ((with_reducible refine chk_h ?_); refine hr_callP1 (by simp only [CA, Nat.reduceEqDiff, ↓reduceIte]; rfl) (by simp only [CA, Nat.reduceEqDiff, ↓reduceIte]; rfl) (by simp (disch := omega) only [CA, Nat.reduceEqDiff, ↓reduceIte, firstTok_nil, firstTok_sl, firstTok_sl0, firstTok_i, firstTok_b, firstTok_ag, firstTok_p, firstTok_s]; rfl) (by first | exact q0 _ | exact q4 _) rfl ?_)
        | ((with_reducible refine chk_r ?_); refine r_callG (by simp only [CA, Nat.reduceEqDiff, ↓reduceIte]; rfl) (by simp only [CA, Nat.reduceEqDiff, ↓reduceIte]; rfl) (by simp only [CA, Nat.reduceEqDiff, ↓reduceIte]; rfl) (by intro hg; (try simp only [BO] at hg); first | exact q0 _ | exact q4 _) rfl ?_)
        | ((with_reducible refine chk_h ?_); refine hr_callG (by simp only [CA, Nat.reduceEqDiff, ↓reduceIte]; rfl) (by simp only [CA, Nat.reduceEqDiff, ↓reduceIte]; rfl) (by simp only [CA, Nat.reduceEqDiff, ↓reduceIte]; rfl) (by intro hg; (try simp only [BO] at hg); first | exact q0 _ | exact q4 _) rfl ?_)
        | ((with_reducible refine chk_h ?_); refine hr_app (by simp (disch := omega) only [h8', c1', c32r0, c32r1, c32r2, c32r3, c32r4, EV0, EV1, EV2, EV3, EV4, EV5, EV6, EV7, EV8, VALS, plug, ite_same, decide_true, decide_false, eq_self, ↓reduceIte, reduceCtorEq, Nat.reduceAdd, Nat.reduceEqDiff, Nat.reduceLT, Nat.reduceLeDiff, Nat.reduceMul, Nat.reduceSub, Nat.reduceDiv, Int.reduceToNat, Int.reduceAdd, Int.reduceSub, Int.reduceMul, Int.reduceNeg, Int.reduceEq, Int.reduceLT, Int.reduceLE]; with_reducible rfl) rfl ?_)
        | (with_reducible refine k_condP (by simp only [GA, Nat.reduceEqDiff, ↓reduceIte]; rfl) (by first | (simp only [BO]; rfl) | rfl) (fun ht => ?_) (fun ht => ?_) <;> try (first | exact False.elim ht | exact absurd rfl ht | exact absurd trivial ht | exact Bool.noConfusion ht))
        | (with_reducible refine k_ret ?_; repeat with_reducible (first | refine ret_thru ?_ | refine ret_blk ?_ | refine fin ?_))
        | (with_reducible refine k_exit ?_; repeat with_reducible (first | refine thru ?_ | refine out_blk ?_ | refine pass (by decide) ?_))
        | (refine post1 ?_; simp only [GA, Nat.reduceEqDiff, ↓reduceIte])
        | (refine post2 ?_; simp only [GA, Nat.reduceEqDiff, ↓reduceIte])
        | (refine post3 ?_; simp only [GA, Nat.reduceEqDiff, ↓reduceIte])
        | (refine postc (by simp only [GA, Nat.reduceEqDiff, ↓reduceIte]; rfl) (by simp (disch := omega) only [h8', c1', c32r0, c32r1, c32r2, c32r3, c32r4, EV0, EV1, EV2, EV3, EV4, EV5, EV6, EV7, EV8, VALS, plug, ite_same, decide_true, decide_false, eq_self, ↓reduceIte, reduceCtorEq, Nat.reduceAdd, Nat.reduceEqDiff, Nat.reduceLT, Nat.reduceLeDiff, Nat.reduceMul, Nat.reduceSub, Nat.reduceDiv, Int.reduceToNat, Int.reduceAdd, Int.reduceSub, Int.reduceMul, Int.reduceNeg, Int.reduceEq, Int.reduceLT, Int.reduceLE]; rfl) ?_)
        | refine post0 ?_
      exact nil3 _
end Go.Proofs.Ytpleibjbfohenaa
