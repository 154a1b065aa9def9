/-
  Chapter 04: the program's functions, as the small code (printed by a program of ours, checked by the kernel).
-/
import Derived.Test.YtlbhpkgbbnhfcaaVmAll1
import Derived.Test.YtlbhpkgbbnhfcaaProg
namespace Go.V04
open Go Go.Vm

def f3_0 : IR :=

  (.seq (.reg [
  ⟨none, (some 26), (.mv (.t 11))⟩,
  ⟨none, (some 27), (.mv (.t 12))⟩,
  ⟨none, (some 28), (.bin .eql (.t 26) (.t 27))⟩])
  (.cond (.t 28)
  (.seq (.reg [
  ⟨none, (some 29), (.call 10 true [])⟩,
  ⟨none, (some 10), (.mv (.t 29))⟩])
  .ret) .skip))
def f3_1 : IR :=

  (.seq (.reg [
  ⟨none, (some 32), (.mv (.t 13))⟩,
  ⟨none, (some 33), (.eqn .ptr false (.t 32))⟩,
  ⟨none, (some 34), (.mv (.t 33))⟩,
  ⟨(some (34, false)), (some 35), (.mv (.t 14))⟩,
  ⟨(some (34, false)), (some 36), (.eqn .ptr false (.t 35))⟩,
  ⟨none, (some 37), (.pick (.t 34) (.c (.cv (.sc (.bool true)))) (.t 36))⟩])
  (.cond (.t 37)
  (.seq (.reg [
  ⟨none, (some 10), (.mv (.c (.cv (.sc (.bool false)))))⟩])
  .ret) .skip))
def f3_2 : IR :=

  (.seq (.reg [
  ⟨none, (some 62), (.mv (.t 4))⟩])
  (.cond (.t 62)
  (.seq (.reg [
  ⟨none, (some 63), (.mv (.t 13))⟩,
  ⟨none, (some 64), (.call 13 false [(.t 63)])⟩])
  (.reg [
  ⟨none, (some 65), (.mv (.t 13))⟩,
  ⟨none, (some 66), (.mksl 1 1 [(.cv (.sc (.bool false)))] [(0, (1, (.c (.cv (.sc (.bool true))))))] false)⟩,
  ⟨none, (some 67), (.call 14 false [(.t 65), (.t 66)])⟩])) .skip))
def f3_3 : IR :=

  (.seq
  (.seq (.reg [
  ⟨none, (some 68), (.mv (.t 15))⟩,
  ⟨none, (some 69), (.bin .lss (.t 68) (.c (.cv (.sc (.int .i64 8)))))⟩])
  (.cond (.t 69) .skip (.exit 0)))

  (.seq (.block 1
  (.seq (.reg [
  ⟨none, (some 73), (.mv (.t 13))⟩,
  ⟨none, (some 74), (.mv (.t 15))⟩,
  ⟨none, (some 75), (.call 15 false [(.t 73), (.t 74)])⟩,
  ⟨none, (some 72), (.mv (.t 75))⟩,
  ⟨none, (some 76), (.ext (.t 72) 0)⟩,
  ⟨none, (some 77), (.ext (.t 72) 1)⟩,
  ⟨none, (some 16), (.mv (.t 76))⟩,
  ⟨none, (some 17), (.mv (.t 77))⟩])

  (.seq (.reg [
  ⟨none, (some 79), (.mv (.t 14))⟩,
  ⟨none, (some 80), (.mv (.t 15))⟩,
  ⟨none, (some 81), (.call 15 false [(.t 79), (.t 80)])⟩,
  ⟨none, (some 78), (.mv (.t 81))⟩,
  ⟨none, (some 82), (.ext (.t 78) 0)⟩,
  ⟨none, (some 83), (.ext (.t 78) 1)⟩,
  ⟨none, (some 18), (.mv (.t 82))⟩,
  ⟨none, (some 19), (.mv (.t 83))⟩])

  (.seq (.reg [
  ⟨none, (some 84), (.mv (.t 16))⟩,
  ⟨none, (some 85), (.cvBS (.t 84))⟩,
  ⟨none, (some 86), (.mv (.t 18))⟩,
  ⟨none, (some 87), (.cvBS (.t 86))⟩,
  ⟨none, (some 88), (.bin .neq (.t 85) (.t 87))⟩])
  (.cond (.t 88)
  (.seq (.reg [
  ⟨none, (some 10), (.mv (.c (.cv (.sc (.bool false)))))⟩])
  .ret) .skip)))))
  (.reg [
  ⟨none, (some 70), (.mv (.t 15))⟩,
  ⟨none, (some 71), (.bin .add (.t 70) (.c (.cv (.sc (.int .i64 1)))))⟩,
  ⟨none, (some 15), (.mv (.t 71))⟩])))
def f3 : FnIR := ⟨90, [(.t 10)],

  (.seq (.reg [
  ⟨none, (some 10), (.mv (.c (.cv (.sc (.bool false)))))⟩])

  (.seq (.reg [
  ⟨none, (some 20), (.mv (.t 0))⟩,
  ⟨none, (some 21), (.bin .rem (.t 20) (.c (.cv (.sc (.int .u8 8)))))⟩,
  ⟨none, (some 22), (.cvI .i64 (.t 21))⟩,
  ⟨none, (some 11), (.mv (.t 22))⟩])

  (.seq (.reg [
  ⟨none, (some 23), (.mv (.t 1))⟩,
  ⟨none, (some 24), (.bin .rem (.t 23) (.c (.cv (.sc (.int .u8 8)))))⟩,
  ⟨none, (some 25), (.cvI .i64 (.t 24))⟩,
  ⟨none, (some 12), (.mv (.t 25))⟩])

  (.seq f3_0

  (.seq (.reg [
  ⟨none, (some 30), (.call 11 false [(.c (.cv (.sc (.int .i64 8))))])⟩,
  ⟨none, (some 13), (.mv (.t 30))⟩])

  (.seq (.reg [
  ⟨none, (some 31), (.call 11 false [(.c (.cv (.sc (.int .i64 8))))])⟩,
  ⟨none, (some 14), (.mv (.t 31))⟩])

  (.seq f3_1

  (.seq (.reg [
  ⟨none, (some 38), (.mv (.t 13))⟩,
  ⟨none, (some 39), (.mv (.t 11))⟩,
  ⟨none, (some 40), (.mv (.t 2))⟩,
  ⟨none, (some 41), (.mksl 1 1 [(.cv (.sc (.int .u8 0)))] [(0, (1, (.t 40)))] false)⟩,
  ⟨none, (some 42), (.call 12 false [(.t 38), (.t 39), (.t 41)])⟩])

  (.seq (.reg [
  ⟨none, (some 43), (.mv (.t 13))⟩,
  ⟨none, (some 44), (.mv (.t 12))⟩,
  ⟨none, (some 45), (.mv (.t 3))⟩,
  ⟨none, (some 46), (.mksl 1 1 [(.cv (.sc (.int .u8 0)))] [(0, (1, (.t 45)))] false)⟩,
  ⟨none, (some 47), (.call 12 false [(.t 43), (.t 44), (.t 46)])⟩])

  (.seq (.reg [
  ⟨none, (some 48), (.mv (.t 14))⟩,
  ⟨none, (some 49), (.mv (.t 12))⟩,
  ⟨none, (some 50), (.mv (.t 3))⟩,
  ⟨none, (some 51), (.mksl 1 1 [(.cv (.sc (.int .u8 0)))] [(0, (1, (.t 50)))] false)⟩,
  ⟨none, (some 52), (.call 12 false [(.t 48), (.t 49), (.t 51)])⟩])

  (.seq (.reg [
  ⟨none, (some 53), (.mv (.t 14))⟩,
  ⟨none, (some 54), (.mv (.t 11))⟩,
  ⟨none, (some 55), (.mv (.t 2))⟩,
  ⟨none, (some 56), (.mksl 1 1 [(.cv (.sc (.int .u8 0)))] [(0, (1, (.t 55)))] false)⟩,
  ⟨none, (some 57), (.call 12 false [(.t 53), (.t 54), (.t 56)])⟩])

  (.seq (.reg [
  ⟨none, (some 58), (.mv (.t 13))⟩,
  ⟨none, (some 59), (.call 13 false [(.t 58)])⟩])

  (.seq (.reg [
  ⟨none, (some 60), (.mv (.t 14))⟩,
  ⟨none, (some 61), (.call 13 false [(.t 60)])⟩])

  (.seq f3_2

  (.seq
  (.seq (.reg [
  ⟨none, (some 15), (.mv (.c (.cv (.sc (.int .i64 0)))))⟩])
  (.block 0 (.loop f3_3)))

  (.seq (.reg [
  ⟨none, (some 89), (.call 10 true [])⟩,
  ⟨none, (some 10), (.mv (.t 89))⟩])
  .ret))))))))))))))))⟩
theorem f3_ok : compF Proofs.Try.prog [11, 12, 13, 14, 15, 17, 18, 19, 20, 21, 23, 24, 25, 26, 27, 28, 31, 39, 40] [] Proofs.Try.f3 = some f3 := by kernel_rfl

def f4 : FnIR := ⟨31, [(.t 2)],

  (.seq (.reg [
  ⟨none, (some 2), (.mv (.c (.cv (.sc (.bool false)))))⟩])

  (.seq (.reg [
  ⟨none, (some 7), (.mv (.t 0))⟩,
  ⟨none, (some 8), (.mnmx true [(.t 7), (.c (.cv (.sc (.int .i64 4097))))])⟩,
  ⟨none, (some 9), (.call 16 true [(.t 8)])⟩,
  ⟨none, (some 6), (.mv (.t 9))⟩,
  ⟨none, (some 10), (.ext (.t 6) 0)⟩,
  ⟨none, (some 11), (.ext (.t 6) 1)⟩,
  ⟨none, (some 3), (.alloc [(.cv (.sc (.slice none 0 0))), (.cv (.sc (.slice none 0 0))), (.cv (.sc (.int .i64 0))), (.cv (.sc (.int .i64 0))), (.cv (.sc (.bool false))), (.cv (.sc (.int .i64 0)))])⟩,
  ⟨none, none, (.st 6 (.t 3) (.t 10))⟩,
  ⟨none, (some 4), (.mv (.t 11))⟩])

  (.seq (.reg [
  ⟨none, (some 12), (.mv (.t 0))⟩,
  ⟨none, (some 13), (.call 11 false [(.t 12)])⟩,
  ⟨none, (some 5), (.mv (.t 13))⟩])

  (.seq (.reg [
  ⟨none, (some 14), (.call 10 true [])⟩,
  ⟨none, (some 15), (.mv (.t 14))⟩,
  ⟨(some (15, true)), (some 16), (.mv (.t 5))⟩,
  ⟨(some (15, true)), (some 17), (.eqn .ptr true (.t 16))⟩,
  ⟨(some (15, true)), (some 18), (.mv (.t 4))⟩,
  ⟨(some (15, true)), (some 19), (.eqb false (.t 17) (.t 18))⟩,
  ⟨none, (some 20), (.pick (.t 15) (.t 19) (.c (.cv (.sc (.bool false)))))⟩,
  ⟨none, (some 21), (.mv (.t 20))⟩,
  ⟨(some (21, true)), (some 22), (.mv (.t 4))⟩,
  ⟨(some (21, true)), (some 23), (.un .not (.t 22))⟩,
  ⟨(some (21, true)), (some 24), (.mv (.t 23))⟩,
  ⟨(some (24, false)), (some 25), (.mv (.t 5))⟩,
  ⟨(some (24, false)), (some 26), (.call 17 false [(.t 25)])⟩,
  ⟨(some (24, false)), (some 27), (.mv (.t 0))⟩,
  ⟨(some (24, false)), (some 28), (.bin .eql (.t 26) (.t 27))⟩,
  ⟨(some (21, true)), (some 29), (.pick (.t 24) (.c (.cv (.sc (.bool true)))) (.t 28))⟩,
  ⟨none, (some 30), (.pick (.t 21) (.t 29) (.c (.cv (.sc (.bool false)))))⟩,
  ⟨none, (some 2), (.mv (.t 30))⟩])
  .ret))))⟩
theorem f4_ok : compF Proofs.Try.prog [11, 12, 13, 14, 15, 17, 18, 19, 20, 21, 23, 24, 25, 26, 27, 28, 31, 39, 40] [] Proofs.Try.f4 = some f4 := by kernel_rfl

def f5_0 : IR :=

  (.seq (.reg [
  ⟨none, (some 12), (.mv (.t 0))⟩,
  ⟨none, (some 13), (.len false (.t 12))⟩,
  ⟨none, (some 14), (.bin .gtr (.t 13) (.c (.cv (.sc (.int .i64 60)))))⟩,
  ⟨none, (some 15), (.mv (.t 14))⟩,
  ⟨(some (15, false)), (some 16), (.mv (.t 1))⟩,
  ⟨(some (15, false)), (some 17), (.len false (.t 16))⟩,
  ⟨(some (15, false)), (some 18), (.bin .gtr (.t 17) (.c (.cv (.sc (.int .i64 80)))))⟩,
  ⟨none, (some 19), (.pick (.t 15) (.c (.cv (.sc (.bool true)))) (.t 18))⟩])
  (.cond (.t 19)
  (.seq (.reg [
  ⟨none, (some 20), (.call 10 true [])⟩,
  ⟨none, (some 4), (.mv (.t 20))⟩])
  .ret) .skip))
def f5_1 : IR :=

  (.seq (.reg [
  ⟨none, (some 22), (.mv (.t 5))⟩,
  ⟨none, (some 23), (.eqn .ptr false (.t 22))⟩])
  (.cond (.t 23)
  (.seq (.reg [
  ⟨none, (some 4), (.mv (.c (.cv (.sc (.bool false)))))⟩])
  .ret) .skip))
def f5_2 : IR :=

  (.seq
  (.seq (.reg [
  ⟨none, (some 24), (.mv (.t 7))⟩,
  ⟨none, (some 25), (.mv (.t 0))⟩,
  ⟨none, (some 26), (.len false (.t 25))⟩,
  ⟨none, (some 27), (.bin .lss (.t 24) (.t 26))⟩])
  (.cond (.t 27) .skip (.exit 0)))

  (.seq (.block 1
  (.seq (.draw [(
  ⟨none, (some 30), (.mv (.t 5))⟩, .p), (
  ⟨none, (some 31), (.mv (.t 0))⟩, .p), (
  ⟨none, (some 32), (.mv (.t 7))⟩, .p), (
  ⟨none, (some 33), (.iadL 1 (.t 31) (.t 32))⟩, (.r 0 0)), (
  ⟨none, (some 34), (.ld false 1 (.t 33))⟩, (.r 0 0)), (
  ⟨none, (some 35), (.bin .rem (.t 34) (.c (.cv (.sc (.int .u8 8)))))⟩, .p), (
  ⟨none, (some 36), (.cvI .i64 (.t 35))⟩, .p), (
  ⟨none, (some 37), (.mv (.t 0))⟩, .p), (
  ⟨none, (some 38), (.mv (.t 7))⟩, .p), (
  ⟨none, (some 39), (.iadL 1 (.t 37) (.t 38))⟩, (.r 0 0)), (
  ⟨none, (some 40), (.ld false 1 (.t 39))⟩, (.r 0 0)), (
  ⟨none, (some 41), (.mksl 1 1 [(.cv (.sc (.int .u8 0)))] [(0, (1, (.t 40)))] false)⟩, (.r 0 0)), (
  ⟨none, (some 42), (.call 12 false [(.t 30), (.t 36), (.t 41)])⟩, .k)])
  (.draw [(
  ⟨none, (some 43), (.mv (.t 0))⟩, .p), (
  ⟨none, (some 44), (.mv (.t 7))⟩, .p), (
  ⟨none, (some 45), (.iadL 1 (.t 43) (.t 44))⟩, (.r 0 0)), (
  ⟨none, (some 46), (.ld false 1 (.t 45))⟩, (.r 0 0)), (
  ⟨none, (some 47), (.bin .rem (.t 46) (.c (.cv (.sc (.int .u8 8)))))⟩, .p), (
  ⟨none, (some 48), (.mv (.t 0))⟩, .p), (
  ⟨none, (some 49), (.mv (.t 7))⟩, .p), (
  ⟨none, (some 50), (.iadL 1 (.t 48) (.t 49))⟩, (.r 0 0)), (
  ⟨none, (some 51), (.ld false 1 (.t 50))⟩, (.r 0 0)), (
  ⟨none, (some 52), (.iadA 8 1 (.t 6) (.t 47))⟩, .p), (
  ⟨none, none, (.st 1 (.t 52) (.t 51))⟩, .k)])))
  (.reg [
  ⟨none, (some 28), (.mv (.t 7))⟩,
  ⟨none, (some 29), (.bin .add (.t 28) (.c (.cv (.sc (.int .i64 1)))))⟩,
  ⟨none, (some 7), (.mv (.t 29))⟩])))
def f5_3 : IR :=

  (.seq
  (.seq (.reg [
  ⟨none, (some 55), (.mv (.t 8))⟩,
  ⟨none, (some 56), (.mv (.t 0))⟩,
  ⟨none, (some 57), (.len false (.t 56))⟩,
  ⟨none, (some 58), (.bin .lss (.t 55) (.t 57))⟩])
  (.cond (.t 58) .skip (.exit 2)))

  (.seq (.block 3
  (.seq (.draw [(
  ⟨none, (some 61), (.mv (.t 5))⟩, .p), (
  ⟨none, (some 62), (.mv (.t 0))⟩, .p), (
  ⟨none, (some 63), (.mv (.t 8))⟩, .p), (
  ⟨none, (some 64), (.iadL 1 (.t 62) (.t 63))⟩, (.r 0 0)), (
  ⟨none, (some 65), (.ld false 1 (.t 64))⟩, (.r 0 0)), (
  ⟨none, (some 66), (.bin .quo (.t 65) (.c (.cv (.sc (.int .u8 8)))))⟩, .p), (
  ⟨none, (some 67), (.bin .rem (.t 66) (.c (.cv (.sc (.int .u8 8)))))⟩, .p), (
  ⟨none, (some 68), (.cvI .i64 (.t 67))⟩, .p), (
  ⟨none, (some 69), (.mv (.t 0))⟩, .p), (
  ⟨none, (some 70), (.mv (.t 8))⟩, .p), (
  ⟨none, (some 71), (.iadL 1 (.t 69) (.t 70))⟩, (.r 0 0)), (
  ⟨none, (some 72), (.ld false 1 (.t 71))⟩, (.r 0 0)), (
  ⟨none, (some 73), (.bin .xor (.t 72) (.c (.cv (.sc (.int .u8 255)))))⟩, .p), (
  ⟨none, (some 74), (.mksl 1 1 [(.cv (.sc (.int .u8 0)))] [(0, (1, (.t 73)))] false)⟩, (.r 0 0)), (
  ⟨none, (some 75), (.call 12 false [(.t 61), (.t 68), (.t 74)])⟩, .k)])

  (.seq (.reg [
  ⟨none, (some 76), (.mv (.t 8))⟩,
  ⟨none, (some 77), (.mv (.t 1))⟩,
  ⟨none, (some 78), (.len false (.t 77))⟩,
  ⟨none, (some 79), (.bin .lss (.t 76) (.t 78))⟩,
  ⟨none, (some 80), (.mv (.t 79))⟩,
  ⟨(some (80, true)), (some 81), (.mv (.t 1))⟩,
  ⟨(some (80, true)), (some 82), (.mv (.t 8))⟩,
  ⟨(some (80, true)), (some 83), (.iadL 1 (.t 81) (.t 82))⟩,
  ⟨(some (80, true)), (some 84), (.ld false 1 (.t 83))⟩,
  ⟨none, (some 85), (.pick (.t 80) (.t 84) (.c (.cv (.sc (.bool false)))))⟩])
  (.cond (.t 85) (.draw [(
  ⟨none, (some 86), (.mv (.t 0))⟩, .p), (
  ⟨none, (some 87), (.mv (.t 8))⟩, .p), (
  ⟨none, (some 88), (.iadL 1 (.t 86) (.t 87))⟩, (.r 0 0)), (
  ⟨none, (some 89), (.ld false 1 (.t 88))⟩, (.r 0 0)), (
  ⟨none, (some 90), (.bin .quo (.t 89) (.c (.cv (.sc (.int .u8 8)))))⟩, .p), (
  ⟨none, (some 91), (.bin .rem (.t 90) (.c (.cv (.sc (.int .u8 8)))))⟩, .p), (
  ⟨none, (some 92), (.mv (.t 0))⟩, .p), (
  ⟨none, (some 93), (.mv (.t 8))⟩, .p), (
  ⟨none, (some 94), (.iadL 1 (.t 92) (.t 93))⟩, (.r 0 0)), (
  ⟨none, (some 95), (.ld false 1 (.t 94))⟩, (.r 0 0)), (
  ⟨none, (some 96), (.bin .xor (.t 95) (.c (.cv (.sc (.int .u8 255)))))⟩, .p), (
  ⟨none, (some 97), (.iadA 8 1 (.t 6) (.t 91))⟩, .p), (
  ⟨none, none, (.st 1 (.t 97) (.t 96))⟩, .k)]) .skip))))
  (.reg [
  ⟨none, (some 59), (.mv (.t 8))⟩,
  ⟨none, (some 60), (.bin .add (.t 59) (.c (.cv (.sc (.int .i64 1)))))⟩,
  ⟨none, (some 8), (.mv (.t 60))⟩])))
def f5_4 : IR :=

  (.seq
  (.seq (.reg [
  ⟨none, (some 101), (.mv (.t 9))⟩,
  ⟨none, (some 102), (.bin .lss (.t 101) (.c (.cv (.sc (.int .i64 8)))))⟩])
  (.cond (.t 102) .skip (.exit 4)))

  (.seq (.block 5
  (.seq (.reg [
  ⟨none, (some 106), (.mv (.t 5))⟩,
  ⟨none, (some 107), (.mv (.t 9))⟩,
  ⟨none, (some 108), (.call 15 false [(.t 106), (.t 107)])⟩,
  ⟨none, (some 105), (.mv (.t 108))⟩,
  ⟨none, (some 109), (.ext (.t 105) 0)⟩,
  ⟨none, (some 110), (.ext (.t 105) 1)⟩,
  ⟨none, (some 10), (.mv (.t 109))⟩,
  ⟨none, (some 11), (.mv (.t 110))⟩])

  (.seq (.draw [(
  ⟨none, (some 111), (.mv (.t 11))⟩, .p), (
  ⟨none, (some 112), (.bin .neq (.t 111) (.c (.cv (.sc (.int .u16 0)))))⟩, .p), (
  ⟨none, (some 113), (.mv (.t 112))⟩, .p), (
  ⟨(some (113, false)), (some 114), (.mv (.t 10))⟩, .p), (
  ⟨(some (113, false)), (some 115), (.len false (.t 114))⟩, .p), (
  ⟨(some (113, false)), (some 116), (.bin .neq (.t 115) (.c (.cv (.sc (.int .i64 64)))))⟩, .p), (
  ⟨none, (some 117), (.pick (.t 113) (.c (.cv (.sc (.bool true)))) (.t 116))⟩, .p), (
  ⟨none, (some 118), (.mv (.t 117))⟩, .p), (
  ⟨(some (118, false)), (some 119), (.mv (.t 10))⟩, .p), (
  ⟨(some (118, false)), (some 120), (.iadL 1 (.t 119) (.c (.cv (.sc (.int .i64 0)))))⟩, (.r 0 0)), (
  ⟨(some (118, false)), (some 121), (.ld false 1 (.t 120))⟩, (.r 0 0)), (
  ⟨(some (118, false)), (some 122), (.mv (.t 9))⟩, .p), (
  ⟨(some (118, false)), (some 123), (.iadA 8 1 (.t 6) (.t 122))⟩, .p), (
  ⟨(some (118, false)), (some 124), (.ld false 1 (.t 123))⟩, (.r 0 0)), (
  ⟨(some (118, false)), (some 125), (.bin .neq (.t 121) (.t 124))⟩, .p), (
  ⟨none, (some 126), (.pick (.t 118) (.c (.cv (.sc (.bool true)))) (.t 125))⟩, .p)])
  (.cond (.t 126)
  (.seq (.reg [
  ⟨none, (some 4), (.mv (.c (.cv (.sc (.bool false)))))⟩])
  .ret) .skip))))
  (.reg [
  ⟨none, (some 103), (.mv (.t 9))⟩,
  ⟨none, (some 104), (.bin .add (.t 103) (.c (.cv (.sc (.int .i64 1)))))⟩,
  ⟨none, (some 9), (.mv (.t 104))⟩])))
def f5 : FnIR := ⟨134, [(.t 4)],

  (.seq (.reg [
  ⟨none, (some 4), (.mv (.c (.cv (.sc (.bool false)))))⟩])

  (.seq f5_0

  (.seq (.reg [
  ⟨none, (some 21), (.call 11 false [(.c (.cv (.sc (.int .i64 8))))])⟩,
  ⟨none, (some 5), (.mv (.t 21))⟩])

  (.seq f5_1

  (.seq (.reg [
  ⟨none, (some 6), (.alloc [(.cv (.sc (.int .u8 0))), (.cv (.sc (.int .u8 0))), (.cv (.sc (.int .u8 0))), (.cv (.sc (.int .u8 0))), (.cv (.sc (.int .u8 0))), (.cv (.sc (.int .u8 0))), (.cv (.sc (.int .u8 0))), (.cv (.sc (.int .u8 0)))])⟩])

  (.seq
  (.seq (.reg [
  ⟨none, (some 7), (.mv (.c (.cv (.sc (.int .i64 0)))))⟩])
  (.block 0 (.loop f5_2)))

  (.seq (.reg [
  ⟨none, (some 53), (.mv (.t 5))⟩,
  ⟨none, (some 54), (.call 13 false [(.t 53)])⟩])

  (.seq
  (.seq (.reg [
  ⟨none, (some 8), (.mv (.c (.cv (.sc (.int .i64 0)))))⟩])
  (.block 2 (.loop f5_3)))

  (.seq (.reg [
  ⟨none, (some 98), (.mv (.t 5))⟩,
  ⟨none, (some 99), (.mv (.t 1))⟩,
  ⟨none, (some 100), (.call 14 false [(.t 98), (.t 99)])⟩])

  (.seq
  (.seq (.reg [
  ⟨none, (some 9), (.mv (.c (.cv (.sc (.int .i64 0)))))⟩])
  (.block 4 (.loop f5_4)))

  (.seq (.reg [
  ⟨none, (some 127), (.call 10 true [])⟩,
  ⟨none, (some 128), (.mv (.t 127))⟩,
  ⟨(some (128, true)), (some 129), (.mv (.t 5))⟩,
  ⟨(some (128, true)), (some 130), (.call 18 false [(.t 129)])⟩,
  ⟨(some (128, true)), (some 131), (.len false (.t 130))⟩,
  ⟨(some (128, true)), (some 132), (.bin .eql (.t 131) (.c (.cv (.sc (.int .i64 0)))))⟩,
  ⟨none, (some 133), (.pick (.t 128) (.t 132) (.c (.cv (.sc (.bool false)))))⟩,
  ⟨none, (some 4), (.mv (.t 133))⟩])
  .ret)))))))))))⟩
theorem f5_ok : compF Proofs.Try.prog [11, 12, 13, 14, 15, 17, 18, 19, 20, 21, 23, 24, 25, 26, 27, 28, 31, 39, 40] [] Proofs.Try.f5 = some f5 := by kernel_rfl

def f6_0 : IR :=

  (.seq (.reg [
  ⟨none, (some 8), (.mv (.t 0))⟩,
  ⟨none, (some 9), (.len false (.t 8))⟩,
  ⟨none, (some 10), (.bin .gtr (.t 9) (.c (.cv (.sc (.int .i64 60)))))⟩])
  (.cond (.t 10)
  (.seq (.reg [
  ⟨none, (some 11), (.call 10 true [])⟩,
  ⟨none, (some 4), (.mv (.t 11))⟩])
  .ret) .skip))
def f6_1 : IR :=

  (.seq (.reg [
  ⟨none, (some 13), (.mv (.t 5))⟩,
  ⟨none, (some 14), (.eqn .ptr false (.t 13))⟩])
  (.cond (.t 14)
  (.seq (.reg [
  ⟨none, (some 4), (.mv (.c (.cv (.sc (.bool false)))))⟩])
  .ret) .skip))
def f6_2 : IR :=

  (.seq
  (.seq (.reg [
  ⟨none, (some 20), (.mv (.t 6))⟩,
  ⟨none, (some 21), (.mv (.t 0))⟩,
  ⟨none, (some 22), (.len false (.t 21))⟩,
  ⟨none, (some 23), (.bin .lss (.t 20) (.t 22))⟩])
  (.cond (.t 23) .skip (.exit 0)))

  (.seq (.block 1
  (.seq (.draw [(
  ⟨none, (some 26), (.mv (.t 5))⟩, .p), (
  ⟨none, (some 27), (.mv (.t 0))⟩, .p), (
  ⟨none, (some 28), (.mv (.t 6))⟩, .p), (
  ⟨none, (some 29), (.iadL 1 (.t 27) (.t 28))⟩, (.r 0 0)), (
  ⟨none, (some 30), (.ld false 1 (.t 29))⟩, (.r 0 0)), (
  ⟨none, (some 31), (.bin .rem (.t 30) (.c (.cv (.sc (.int .u8 8)))))⟩, .p), (
  ⟨none, (some 32), (.cvI .i64 (.t 31))⟩, .p), (
  ⟨none, (some 33), (.mv (.t 0))⟩, .p), (
  ⟨none, (some 34), (.mv (.t 6))⟩, .p), (
  ⟨none, (some 35), (.mv (.t 6))⟩, .p), (
  ⟨none, (some 36), (.bin .add (.t 35) (.c (.cv (.sc (.int .i64 1)))))⟩, .p), (
  ⟨none, (some 37), (.slL 1 (.t 33) (some (.t 34)) (some (.t 36)) none)⟩, (.r 0 0)), (
  ⟨none, (some 38), (.call 12 false [(.t 26), (.t 32), (.t 37)])⟩, .k), (
  ⟨none, (some 39), (.bin .neq (.t 38) (.c (.cv (.sc (.int .u16 0)))))⟩, .p)])
  (.cond (.t 39)
  (.seq (.reg [
  ⟨none, (some 4), (.mv (.c (.cv (.sc (.bool false)))))⟩])
  .ret) .skip)))
  (.reg [
  ⟨none, (some 24), (.mv (.t 6))⟩,
  ⟨none, (some 25), (.bin .add (.t 24) (.c (.cv (.sc (.int .i64 1)))))⟩,
  ⟨none, (some 6), (.mv (.t 25))⟩])))
def f6 : FnIR := ⟨65, [(.t 4)],

  (.seq (.reg [
  ⟨none, (some 4), (.mv (.c (.cv (.sc (.bool false)))))⟩])

  (.seq f6_0

  (.seq (.reg [
  ⟨none, (some 12), (.call 11 false [(.c (.cv (.sc (.int .i64 8))))])⟩,
  ⟨none, (some 5), (.mv (.t 12))⟩])

  (.seq f6_1

  (.seq (.reg [
  ⟨none, (some 15), (.mv (.t 5))⟩,
  ⟨none, (some 16), (.mv (.t 1))⟩,
  ⟨none, (some 17), (.bin .rem (.t 16) (.c (.cv (.sc (.int .u8 70)))))⟩,
  ⟨none, (some 18), (.cvI .i64 (.t 17))⟩,
  ⟨none, (some 19), (.call 19 false [(.t 15), (.t 18)])⟩])

  (.seq
  (.seq (.reg [
  ⟨none, (some 6), (.mv (.c (.cv (.sc (.int .i64 0)))))⟩])
  (.block 0 (.loop f6_2)))

  (.seq (.reg [
  ⟨none, (some 40), (.mv (.t 5))⟩,
  ⟨none, (some 41), (.call 18 false [(.t 40)])⟩,
  ⟨none, (some 42), (.len false (.t 41))⟩,
  ⟨none, (some 43), (.mv (.t 0))⟩,
  ⟨none, (some 44), (.len false (.t 43))⟩,
  ⟨none, (some 45), (.mv (.t 1))⟩,
  ⟨none, (some 46), (.bin .rem (.t 45) (.c (.cv (.sc (.int .u8 70)))))⟩,
  ⟨none, (some 47), (.cvI .i64 (.t 46))⟩,
  ⟨none, (some 48), (.mnmx true [(.t 44), (.t 47)])⟩,
  ⟨none, (some 49), (.bin .eql (.t 42) (.t 48))⟩,
  ⟨none, (some 7), (.mv (.t 49))⟩])

  (.seq (.reg [
  ⟨none, (some 50), (.mv (.t 5))⟩,
  ⟨none, (some 51), (.call 14 false [(.t 50), (.c (.cv (.sc (.slice none 0 0))))])⟩])

  (.seq (.reg [
  ⟨none, (some 52), (.mv (.t 5))⟩,
  ⟨none, (some 53), (.mksl 1 1 [(.cv (.sc (.int .u8 0)))] [(0, (1, (.c (.cv (.sc (.int .u8 9))))))] false)⟩,
  ⟨none, (some 54), (.call 12 false [(.t 52), (.c (.cv (.sc (.int .i64 0)))), (.t 53)])⟩])

  (.seq (.reg [
  ⟨none, (some 55), (.call 10 true [])⟩,
  ⟨none, (some 56), (.mv (.t 55))⟩,
  ⟨(some (56, true)), (some 57), (.mv (.t 7))⟩,
  ⟨none, (some 58), (.pick (.t 56) (.t 57) (.c (.cv (.sc (.bool false)))))⟩,
  ⟨none, (some 59), (.mv (.t 58))⟩,
  ⟨(some (59, true)), (some 60), (.mv (.t 5))⟩,
  ⟨(some (59, true)), (some 61), (.call 18 false [(.t 60)])⟩,
  ⟨(some (59, true)), (some 62), (.len false (.t 61))⟩,
  ⟨(some (59, true)), (some 63), (.bin .eql (.t 62) (.c (.cv (.sc (.int .i64 1)))))⟩,
  ⟨none, (some 64), (.pick (.t 59) (.t 63) (.c (.cv (.sc (.bool false)))))⟩,
  ⟨none, (some 4), (.mv (.t 64))⟩])
  .ret))))))))))⟩
theorem f6_ok : compF Proofs.Try.prog [11, 12, 13, 14, 15, 17, 18, 19, 20, 21, 23, 24, 25, 26, 27, 28, 31, 39, 40] [] Proofs.Try.f6 = some f6 := by kernel_rfl

def f7_0 : IR :=

  (.seq (.reg [
  ⟨none, (some 18), (.mv (.t 7))⟩,
  ⟨none, (some 19), (.eqn .ptr false (.t 18))⟩])
  (.cond (.t 19)
  (.seq (.reg [
  ⟨none, (some 6), (.mv (.c (.cv (.sc (.bool false)))))⟩])
  .ret) .skip))
def f7_1 : IR :=

  (.seq (.reg [
  ⟨none, (some 48), (.mv (.t 8))⟩,
  ⟨none, (some 49), (.un .not (.t 48))⟩])
  (.cond (.t 49)
  (.seq (.reg [
  ⟨none, (some 50), (.call 10 true [])⟩,
  ⟨none, (some 51), (.mv (.t 50))⟩,
  ⟨(some (51, true)), (some 52), (.mv (.t 10))⟩,
  ⟨(some (51, true)), (some 53), (.bin .eql (.t 52) (.c (.cv (.sc (.int .u16 20)))))⟩,
  ⟨none, (some 54), (.pick (.t 51) (.t 53) (.c (.cv (.sc (.bool false)))))⟩,
  ⟨none, (some 55), (.mv (.t 54))⟩,
  ⟨(some (55, true)), (some 56), (.mv (.t 11))⟩,
  ⟨(some (55, true)), (some 57), (.bin .eql (.t 56) (.c (.cv (.sc (.int .u16 20)))))⟩,
  ⟨none, (some 58), (.pick (.t 55) (.t 57) (.c (.cv (.sc (.bool false)))))⟩,
  ⟨none, (some 59), (.mv (.t 58))⟩,
  ⟨(some (59, true)), (some 60), (.mv (.t 12))⟩,
  ⟨(some (59, true)), (some 61), (.bin .eql (.t 60) (.c (.cv (.sc (.int .u16 20)))))⟩,
  ⟨none, (some 62), (.pick (.t 59) (.t 61) (.c (.cv (.sc (.bool false)))))⟩,
  ⟨none, (some 63), (.mv (.t 62))⟩,
  ⟨(some (63, true)), (some 64), (.mv (.t 13))⟩,
  ⟨(some (63, true)), (some 65), (.un .not (.t 64))⟩,
  ⟨none, (some 66), (.pick (.t 63) (.t 65) (.c (.cv (.sc (.bool false)))))⟩,
  ⟨none, (some 67), (.mv (.t 66))⟩,
  ⟨(some (67, true)), (some 68), (.mv (.t 7))⟩,
  ⟨(some (67, true)), (some 69), (.call 21 false [(.t 68)])⟩,
  ⟨(some (67, true)), (some 70), (.bin .eql (.t 69) (.c (.cv (.sc (.complex .f64 0 0)))))⟩,
  ⟨none, (some 71), (.pick (.t 67) (.t 70) (.c (.cv (.sc (.bool false)))))⟩,
  ⟨none, (some 72), (.mv (.t 71))⟩,
  ⟨(some (72, true)), (some 73), (.mv (.t 7))⟩,
  ⟨(some (72, true)), (some 74), (.call 18 false [(.t 73)])⟩,
  ⟨(some (72, true)), (some 75), (.len false (.t 74))⟩,
  ⟨(some (72, true)), (some 76), (.bin .eql (.t 75) (.c (.cv (.sc (.int .i64 0)))))⟩,
  ⟨none, (some 77), (.pick (.t 72) (.t 76) (.c (.cv (.sc (.bool false)))))⟩,
  ⟨none, (some 6), (.mv (.t 77))⟩])
  .ret) .skip))
def f7 : FnIR := ⟨105, [(.t 6)],

  (.seq (.reg [
  ⟨none, (some 6), (.mv (.c (.cv (.sc (.bool false)))))⟩])

  (.seq (.reg [
  ⟨none, (some 14), (.mv (.t 0))⟩,
  ⟨none, (some 15), (.bin .rem (.t 14) (.c (.cv (.sc (.int .u8 20)))))⟩,
  ⟨none, (some 16), (.cvI .i64 (.t 15))⟩,
  ⟨none, (some 17), (.call 11 false [(.t 16)])⟩,
  ⟨none, (some 7), (.mv (.t 17))⟩])

  (.seq f7_0

  (.seq (.reg [
  ⟨none, (some 20), (.mv (.t 1))⟩,
  ⟨none, (some 21), (.bin .geq (.t 20) (.c (.cv (.sc (.int .i64 0)))))⟩,
  ⟨none, (some 22), (.mv (.t 21))⟩,
  ⟨(some (22, true)), (some 23), (.mv (.t 1))⟩,
  ⟨(some (22, true)), (some 24), (.mv (.t 0))⟩,
  ⟨(some (22, true)), (some 25), (.bin .rem (.t 24) (.c (.cv (.sc (.int .u8 20)))))⟩,
  ⟨(some (22, true)), (some 26), (.cvI .i64 (.t 25))⟩,
  ⟨(some (22, true)), (some 27), (.bin .lss (.t 23) (.t 26))⟩,
  ⟨none, (some 28), (.pick (.t 22) (.t 27) (.c (.cv (.sc (.bool false)))))⟩,
  ⟨none, (some 8), (.mv (.t 28))⟩])

  (.seq (.reg [
  ⟨none, (some 30), (.mv (.t 7))⟩,
  ⟨none, (some 31), (.mv (.t 1))⟩,
  ⟨none, (some 32), (.call 15 false [(.t 30), (.t 31)])⟩,
  ⟨none, (some 29), (.mv (.t 32))⟩,
  ⟨none, (some 33), (.ext (.t 29) 0)⟩,
  ⟨none, (some 34), (.ext (.t 29) 1)⟩,
  ⟨none, (some 9), (.mv (.t 33))⟩,
  ⟨none, (some 10), (.mv (.t 34))⟩])

  (.seq (.reg [
  ⟨none, (some 35), (.mv (.t 7))⟩,
  ⟨none, (some 36), (.mv (.t 1))⟩,
  ⟨none, (some 37), (.mv (.t 2))⟩,
  ⟨none, (some 38), (.cvI .i64 (.t 37))⟩,
  ⟨none, (some 39), (.bin .add (.c (.cv (.sc (.int .i64 65)))) (.t 38))⟩,
  ⟨none, (some 40), (.mks 1 1 [(.sc (.int .u8 0))] (.t 39) (.t 39) false)⟩,
  ⟨none, (some 41), (.call 12 false [(.t 35), (.t 36), (.t 40)])⟩,
  ⟨none, (some 11), (.mv (.t 41))⟩])

  (.seq (.reg [
  ⟨none, (some 42), (.mv (.t 7))⟩,
  ⟨none, (some 43), (.mv (.t 1))⟩,
  ⟨none, (some 44), (.call 12 false [(.t 42), (.t 43), (.c (.cv (.sc (.slice none 0 0))))])⟩,
  ⟨none, (some 12), (.mv (.t 44))⟩])

  (.seq (.reg [
  ⟨none, (some 45), (.mv (.t 7))⟩,
  ⟨none, (some 46), (.mv (.t 1))⟩,
  ⟨none, (some 47), (.call 20 false [(.t 45), (.t 46), (.c (.cv (.sc (.int .i64 3)))), (.c (.cv (.sc (.int .u8 1))))])⟩,
  ⟨none, (some 13), (.mv (.t 47))⟩])

  (.seq f7_1

  (.seq (.reg [
  ⟨none, (some 78), (.call 10 true [])⟩,
  ⟨none, (some 79), (.mv (.t 78))⟩,
  ⟨(some (79, true)), (some 80), (.mv (.t 10))⟩,
  ⟨(some (79, true)), (some 81), (.bin .eql (.t 80) (.c (.cv (.sc (.int .u16 0)))))⟩,
  ⟨none, (some 82), (.pick (.t 79) (.t 81) (.c (.cv (.sc (.bool false)))))⟩,
  ⟨none, (some 83), (.mv (.t 82))⟩,
  ⟨(some (83, true)), (some 84), (.mv (.t 11))⟩,
  ⟨(some (83, true)), (some 85), (.bin .eql (.t 84) (.c (.cv (.sc (.int .u16 3)))))⟩,
  ⟨none, (some 86), (.pick (.t 83) (.t 85) (.c (.cv (.sc (.bool false)))))⟩,
  ⟨none, (some 87), (.mv (.t 86))⟩,
  ⟨(some (87, true)), (some 88), (.mv (.t 12))⟩,
  ⟨(some (87, true)), (some 89), (.bin .eql (.t 88) (.c (.cv (.sc (.int .u16 0)))))⟩,
  ⟨none, (some 90), (.pick (.t 87) (.t 89) (.c (.cv (.sc (.bool false)))))⟩,
  ⟨none, (some 91), (.mv (.t 90))⟩,
  ⟨(some (91, true)), (some 92), (.mv (.t 13))⟩,
  ⟨none, (some 93), (.pick (.t 91) (.t 92) (.c (.cv (.sc (.bool false)))))⟩,
  ⟨none, (some 94), (.mv (.t 93))⟩,
  ⟨(some (94, true)), (some 95), (.mv (.t 7))⟩,
  ⟨(some (94, true)), (some 96), (.call 21 false [(.t 95)])⟩,
  ⟨(some (94, true)), (some 97), (.bin .eql (.t 96) (.c (.cv (.sc (.complex .f64 4607182418800017408 0)))))⟩,
  ⟨none, (some 98), (.pick (.t 94) (.t 97) (.c (.cv (.sc (.bool false)))))⟩,
  ⟨none, (some 99), (.mv (.t 98))⟩,
  ⟨(some (99, true)), (some 100), (.mv (.t 7))⟩,
  ⟨(some (99, true)), (some 101), (.call 18 false [(.t 100)])⟩,
  ⟨(some (99, true)), (some 102), (.len false (.t 101))⟩,
  ⟨(some (99, true)), (some 103), (.bin .eql (.t 102) (.c (.cv (.sc (.int .i64 1)))))⟩,
  ⟨none, (some 104), (.pick (.t 99) (.t 103) (.c (.cv (.sc (.bool false)))))⟩,
  ⟨none, (some 6), (.mv (.t 104))⟩])
  .ret))))))))))⟩
theorem f7_ok : compF Proofs.Try.prog [11, 12, 13, 14, 15, 17, 18, 19, 20, 21, 23, 24, 25, 26, 27, 28, 31, 39, 40] [] Proofs.Try.f7 = some f7 := by kernel_rfl

def f8_0 : IR :=

  (.seq (.reg [
  ⟨none, (some 11), (.mv (.t 1))⟩,
  ⟨none, (some 12), (.call 22 true [(.t 11)])⟩,
  ⟨none, (some 13), (.mv (.t 12))⟩,
  ⟨(some (13, false)), (some 14), (.call 10 true [])⟩,
  ⟨(some (13, false)), (some 15), (.un .not (.t 14))⟩,
  ⟨none, (some 16), (.pick (.t 13) (.c (.cv (.sc (.bool true)))) (.t 15))⟩])
  (.cond (.t 16)
  (.seq (.reg [
  ⟨none, (some 17), (.call 10 true [])⟩,
  ⟨none, (some 4), (.mv (.t 17))⟩])
  .ret) .skip))
def f8_1 : IR :=

  (.seq (.reg [
  ⟨none, (some 29), (.mv (.t 5))⟩,
  ⟨none, (some 30), (.eqn .ptr false (.t 29))⟩])
  (.cond (.t 30)
  (.seq (.reg [
  ⟨none, (some 4), (.mv (.c (.cv (.sc (.bool false)))))⟩])
  .ret) .skip))
def f8_2 : IR :=

  (.seq
  (.seq (.reg [
  ⟨none, (some 31), (.mv (.t 8))⟩,
  ⟨none, (some 32), (.mv (.t 1))⟩,
  ⟨none, (some 33), (.len false (.t 32))⟩,
  ⟨none, (some 34), (.bin .lss (.t 31) (.t 33))⟩])
  (.cond (.t 34) .skip (.exit 0)))

  (.seq (.block 1
  (.seq (.draw [(
  ⟨none, (some 38), (.mv (.t 5))⟩, .p), (
  ⟨none, (some 39), (.ld true 6 (.t 6))⟩, (.r 0 1)), (
  ⟨none, (some 40), (.mv (.t 1))⟩, .p), (
  ⟨none, (some 41), (.mv (.t 8))⟩, .p), (
  ⟨none, (some 42), (.iadL 5 (.t 40) (.t 41))⟩, (.r 0 1)), (
  ⟨none, (some 43), (.ld true 5 (.t 42))⟩, (.r 0 1)), (
  ⟨none, (some 44), (.call 23 false [(.t 38), (.t 39), (.t 43)])⟩, .k), (
  ⟨none, (some 37), (.mv (.t 44))⟩, .p), (
  ⟨none, (some 45), (.ext (.t 37) 0)⟩, .p), (
  ⟨none, (some 46), (.ext (.t 37) 1)⟩, .p), (
  ⟨none, (some 9), (.alloc [(.cv (.sc (.slice none 0 0))), (.cv (.sc (.slice none 0 0))), (.cv (.sc (.int .i64 0))), (.cv (.sc (.int .i64 0))), (.cv (.sc (.bool false))), (.cv (.sc (.int .i64 0)))])⟩, .k), (
  ⟨none, none, (.st 6 (.t 9) (.t 45))⟩, .k), (
  ⟨none, (some 10), (.mv (.t 46))⟩, .p)])

  (.seq (.reg [
  ⟨none, (some 47), (.ld true 6 (.t 9))⟩,
  ⟨none, none, (.st 6 (.t 6) (.t 47))⟩])

  (.seq (.reg [
  ⟨none, (some 48), (.mv (.t 10))⟩,
  ⟨none, (some 49), (.un .not (.t 48))⟩,
  ⟨none, (some 50), (.mv (.t 49))⟩,
  ⟨(some (50, false)), (some 51), (.mv (.t 5))⟩,
  ⟨(some (50, false)), (some 52), (.ld true 6 (.t 6))⟩,
  ⟨(some (50, false)), (some 53), (.call 24 false [(.t 51), (.t 52)])⟩,
  ⟨(some (50, false)), (some 54), (.un .not (.t 53))⟩,
  ⟨none, (some 55), (.pick (.t 50) (.c (.cv (.sc (.bool true)))) (.t 54))⟩])
  (.cond (.t 55)
  (.seq (.reg [
  ⟨none, (some 4), (.mv (.c (.cv (.sc (.bool false)))))⟩])
  .ret) .skip)))))
  (.reg [
  ⟨none, (some 35), (.mv (.t 8))⟩,
  ⟨none, (some 36), (.bin .add (.t 35) (.c (.cv (.sc (.int .i64 1)))))⟩,
  ⟨none, (some 8), (.mv (.t 36))⟩])))
def f8 : FnIR := ⟨59, [(.t 4)],

  (.seq (.reg [
  ⟨none, (some 4), (.mv (.c (.cv (.sc (.bool false)))))⟩])

  (.seq f8_0

  (.seq (.reg [
  ⟨none, (some 18), (.mv (.t 0))⟩,
  ⟨none, (some 19), (.bin .rem (.t 18) (.c (.cv (.sc (.int .u8 9)))))⟩,
  ⟨none, (some 20), (.cvI .i64 (.t 19))⟩,
  ⟨none, (some 21), (.call 11 false [(.t 20)])⟩,
  ⟨none, (some 5), (.mv (.t 21))⟩])

  (.seq (.reg [
  ⟨none, (some 23), (.mv (.t 0))⟩,
  ⟨none, (some 24), (.bin .rem (.t 23) (.c (.cv (.sc (.int .u8 9)))))⟩,
  ⟨none, (some 25), (.cvI .i64 (.t 24))⟩,
  ⟨none, (some 26), (.call 16 true [(.t 25)])⟩,
  ⟨none, (some 22), (.mv (.t 26))⟩,
  ⟨none, (some 27), (.ext (.t 22) 0)⟩,
  ⟨none, (some 28), (.ext (.t 22) 1)⟩,
  ⟨none, (some 6), (.alloc [(.cv (.sc (.slice none 0 0))), (.cv (.sc (.slice none 0 0))), (.cv (.sc (.int .i64 0))), (.cv (.sc (.int .i64 0))), (.cv (.sc (.bool false))), (.cv (.sc (.int .i64 0)))])⟩,
  ⟨none, none, (.st 6 (.t 6) (.t 27))⟩,
  ⟨none, (some 7), (.mv (.t 28))⟩])

  (.seq f8_1

  (.seq
  (.seq (.reg [
  ⟨none, (some 8), (.mv (.c (.cv (.sc (.int .i64 0)))))⟩])
  (.block 0 (.loop f8_2)))

  (.seq (.reg [
  ⟨none, (some 56), (.mv (.t 5))⟩,
  ⟨none, (some 57), (.ld true 6 (.t 6))⟩,
  ⟨none, (some 58), (.call 24 false [(.t 56), (.t 57)])⟩,
  ⟨none, (some 4), (.mv (.t 58))⟩])
  .ret)))))))⟩
theorem f8_ok : compF Proofs.Try.prog [11, 12, 13, 14, 15, 17, 18, 19, 20, 21, 23, 24, 25, 26, 27, 28, 31, 39, 40] [] Proofs.Try.f8 = some f8 := by kernel_rfl

def f9_0 : IR :=

  (.seq (.reg [
  ⟨none, (some 18), (.mv (.t 1))⟩,
  ⟨none, (some 19), (.call 22 true [(.t 18)])⟩,
  ⟨none, (some 20), (.mv (.t 19))⟩,
  ⟨(some (20, false)), (some 21), (.mv (.t 2))⟩,
  ⟨(some (20, false)), (some 22), (.call 22 true [(.t 21)])⟩,
  ⟨none, (some 23), (.pick (.t 20) (.c (.cv (.sc (.bool true)))) (.t 22))⟩])
  (.cond (.t 23)
  (.seq (.reg [
  ⟨none, (some 24), (.call 10 true [])⟩,
  ⟨none, (some 6), (.mv (.t 24))⟩])
  .ret) .skip))
def f9_1 : IR :=

  (.seq (.reg [
  ⟨none, (some 36), (.mv (.t 7))⟩,
  ⟨none, (some 37), (.eqn .ptr false (.t 36))⟩])
  (.cond (.t 37)
  (.seq (.reg [
  ⟨none, (some 6), (.mv (.c (.cv (.sc (.bool false)))))⟩])
  .ret) .skip))
def f9_2 : IR :=

  (.seq
  (.seq (.reg [
  ⟨none, (some 38), (.mv (.t 10))⟩,
  ⟨none, (some 39), (.mv (.t 1))⟩,
  ⟨none, (some 40), (.len false (.t 39))⟩,
  ⟨none, (some 41), (.bin .lss (.t 38) (.t 40))⟩])
  (.cond (.t 41) .skip (.exit 0)))

  (.seq (.block 1
  (.seq (.draw [(
  ⟨none, (some 45), (.mv (.t 7))⟩, .p), (
  ⟨none, (some 46), (.ld true 6 (.t 8))⟩, (.r 0 1)), (
  ⟨none, (some 47), (.mv (.t 1))⟩, .p), (
  ⟨none, (some 48), (.mv (.t 10))⟩, .p), (
  ⟨none, (some 49), (.iadL 5 (.t 47) (.t 48))⟩, (.r 0 1)), (
  ⟨none, (some 50), (.ld true 5 (.t 49))⟩, (.r 0 1)), (
  ⟨none, (some 51), (.call 23 false [(.t 45), (.t 46), (.t 50)])⟩, .k), (
  ⟨none, (some 44), (.mv (.t 51))⟩, .p), (
  ⟨none, (some 52), (.ext (.t 44) 0)⟩, .p), (
  ⟨none, (some 53), (.ext (.t 44) 1)⟩, .p), (
  ⟨none, (some 11), (.alloc [(.cv (.sc (.slice none 0 0))), (.cv (.sc (.slice none 0 0))), (.cv (.sc (.int .i64 0))), (.cv (.sc (.int .i64 0))), (.cv (.sc (.bool false))), (.cv (.sc (.int .i64 0)))])⟩, .k), (
  ⟨none, none, (.st 6 (.t 11) (.t 52))⟩, .k), (
  ⟨none, (some 12), (.mv (.t 53))⟩, .p)])
  (.reg [
  ⟨none, (some 54), (.ld true 6 (.t 11))⟩,
  ⟨none, none, (.st 6 (.t 8) (.t 54))⟩])))
  (.reg [
  ⟨none, (some 42), (.mv (.t 10))⟩,
  ⟨none, (some 43), (.bin .add (.t 42) (.c (.cv (.sc (.int .i64 1)))))⟩,
  ⟨none, (some 10), (.mv (.t 43))⟩])))
def f9_3 : IR :=

  (.seq (.reg [
  ⟨none, (some 57), (.mv (.t 13))⟩,
  ⟨none, (some 58), (.eqn .ptr false (.t 57))⟩])
  (.cond (.t 58)
  (.seq (.reg [
  ⟨none, (some 6), (.mv (.c (.cv (.sc (.bool false)))))⟩])
  .ret) .skip))
def f9_4 : IR :=

  (.seq
  (.seq (.reg [
  ⟨none, (some 60), (.mv (.t 15))⟩,
  ⟨none, (some 61), (.mv (.t 2))⟩,
  ⟨none, (some 62), (.len false (.t 61))⟩,
  ⟨none, (some 63), (.bin .lss (.t 60) (.t 62))⟩])
  (.cond (.t 63) .skip (.exit 2)))

  (.seq (.block 3
  (.seq (.draw [(
  ⟨none, (some 67), (.mv (.t 13))⟩, .p), (
  ⟨none, (some 68), (.ld true 6 (.t 14))⟩, (.r 0 1)), (
  ⟨none, (some 69), (.mv (.t 2))⟩, .p), (
  ⟨none, (some 70), (.mv (.t 15))⟩, .p), (
  ⟨none, (some 71), (.iadL 5 (.t 69) (.t 70))⟩, (.r 0 1)), (
  ⟨none, (some 72), (.ld true 5 (.t 71))⟩, (.r 0 1)), (
  ⟨none, (some 73), (.call 23 false [(.t 67), (.t 68), (.t 72)])⟩, .k), (
  ⟨none, (some 66), (.mv (.t 73))⟩, .p), (
  ⟨none, (some 74), (.ext (.t 66) 0)⟩, .p), (
  ⟨none, (some 75), (.ext (.t 66) 1)⟩, .p), (
  ⟨none, (some 16), (.alloc [(.cv (.sc (.slice none 0 0))), (.cv (.sc (.slice none 0 0))), (.cv (.sc (.int .i64 0))), (.cv (.sc (.int .i64 0))), (.cv (.sc (.bool false))), (.cv (.sc (.int .i64 0)))])⟩, .k), (
  ⟨none, none, (.st 6 (.t 16) (.t 74))⟩, .k), (
  ⟨none, (some 17), (.mv (.t 75))⟩, .p)])
  (.reg [
  ⟨none, (some 76), (.ld true 6 (.t 16))⟩,
  ⟨none, none, (.st 6 (.t 14) (.t 76))⟩])))
  (.reg [
  ⟨none, (some 64), (.mv (.t 15))⟩,
  ⟨none, (some 65), (.bin .add (.t 64) (.c (.cv (.sc (.int .i64 1)))))⟩,
  ⟨none, (some 15), (.mv (.t 65))⟩])))
def f9 : FnIR := ⟨88, [(.t 6)],

  (.seq (.reg [
  ⟨none, (some 6), (.mv (.c (.cv (.sc (.bool false)))))⟩])

  (.seq f9_0

  (.seq (.reg [
  ⟨none, (some 25), (.mv (.t 0))⟩,
  ⟨none, (some 26), (.bin .rem (.t 25) (.c (.cv (.sc (.int .u8 9)))))⟩,
  ⟨none, (some 27), (.cvI .i64 (.t 26))⟩,
  ⟨none, (some 28), (.call 11 false [(.t 27)])⟩,
  ⟨none, (some 7), (.mv (.t 28))⟩])

  (.seq (.reg [
  ⟨none, (some 30), (.mv (.t 0))⟩,
  ⟨none, (some 31), (.bin .rem (.t 30) (.c (.cv (.sc (.int .u8 9)))))⟩,
  ⟨none, (some 32), (.cvI .i64 (.t 31))⟩,
  ⟨none, (some 33), (.call 16 true [(.t 32)])⟩,
  ⟨none, (some 29), (.mv (.t 33))⟩,
  ⟨none, (some 34), (.ext (.t 29) 0)⟩,
  ⟨none, (some 35), (.ext (.t 29) 1)⟩,
  ⟨none, (some 8), (.alloc [(.cv (.sc (.slice none 0 0))), (.cv (.sc (.slice none 0 0))), (.cv (.sc (.int .i64 0))), (.cv (.sc (.int .i64 0))), (.cv (.sc (.bool false))), (.cv (.sc (.int .i64 0)))])⟩,
  ⟨none, none, (.st 6 (.t 8) (.t 34))⟩,
  ⟨none, (some 9), (.mv (.t 35))⟩])

  (.seq f9_1

  (.seq
  (.seq (.reg [
  ⟨none, (some 10), (.mv (.c (.cv (.sc (.int .i64 0)))))⟩])
  (.block 0 (.loop f9_2)))

  (.seq (.reg [
  ⟨none, (some 55), (.mv (.t 7))⟩,
  ⟨none, (some 56), (.call 25 false [(.t 55)])⟩,
  ⟨none, (some 13), (.mv (.t 56))⟩])

  (.seq f9_3

  (.seq (.reg [
  ⟨none, (some 59), (.ld true 6 (.t 8))⟩,
  ⟨none, (some 14), (.alloc [(.cv (.sc (.slice none 0 0))), (.cv (.sc (.slice none 0 0))), (.cv (.sc (.int .i64 0))), (.cv (.sc (.int .i64 0))), (.cv (.sc (.bool false))), (.cv (.sc (.int .i64 0)))])⟩,
  ⟨none, none, (.st 6 (.t 14) (.t 59))⟩])

  (.seq
  (.seq (.reg [
  ⟨none, (some 15), (.mv (.c (.cv (.sc (.int .i64 0)))))⟩])
  (.block 2 (.loop f9_4)))

  (.seq (.reg [
  ⟨none, (some 77), (.call 10 true [])⟩,
  ⟨none, (some 78), (.mv (.t 77))⟩,
  ⟨(some (78, true)), (some 79), (.mv (.t 7))⟩,
  ⟨(some (78, true)), (some 80), (.ld true 6 (.t 8))⟩,
  ⟨(some (78, true)), (some 81), (.call 24 false [(.t 79), (.t 80)])⟩,
  ⟨none, (some 82), (.pick (.t 78) (.t 81) (.c (.cv (.sc (.bool false)))))⟩,
  ⟨none, (some 83), (.mv (.t 82))⟩,
  ⟨(some (83, true)), (some 84), (.mv (.t 13))⟩,
  ⟨(some (83, true)), (some 85), (.ld true 6 (.t 14))⟩,
  ⟨(some (83, true)), (some 86), (.call 24 false [(.t 84), (.t 85)])⟩,
  ⟨none, (some 87), (.pick (.t 83) (.t 86) (.c (.cv (.sc (.bool false)))))⟩,
  ⟨none, (some 6), (.mv (.t 87))⟩])
  .ret)))))))))))⟩
theorem f9_ok : compF Proofs.Try.prog [11, 12, 13, 14, 15, 17, 18, 19, 20, 21, 23, 24, 25, 26, 27, 28, 31, 39, 40] [] Proofs.Try.f9 = some f9 := by kernel_rfl

def f10_0 : IR :=

  (.seq (.reg [
  ⟨none, (some 7), (.mv (.t 1))⟩,
  ⟨none, (some 8), (.eqn .ptr false (.t 7))⟩])
  (.cond (.t 8)
  (.seq (.reg [
  ⟨none, (some 0), (.mv (.c (.cv (.sc (.bool false)))))⟩])
  .ret) .skip))
def f10 : FnIR := ⟨64, [(.t 0)],

  (.seq (.reg [
  ⟨none, (some 0), (.mv (.c (.cv (.sc (.bool false)))))⟩])

  (.seq (.reg [
  ⟨none, (some 6), (.call 11 false [(.c (.cv (.sc (.int .i64 2))))])⟩,
  ⟨none, (some 1), (.mv (.t 6))⟩])

  (.seq f10_0

  (.seq (.reg [
  ⟨none, (some 9), (.mv (.t 1))⟩,
  ⟨none, (some 10), (.mksl 1 1 [(.cv (.sc (.int .u8 0)))] [(0, (1, (.c (.cv (.sc (.int .u8 1))))))] false)⟩,
  ⟨none, (some 11), (.call 12 false [(.t 9), (.c (.cv (.sc (.int .i64 0)))), (.t 10)])⟩])

  (.seq (.reg [
  ⟨none, (some 12), (.mv (.t 1))⟩,
  ⟨none, (some 13), (.call 14 false [(.t 12), (.c (.cv (.sc (.slice none 0 0))))])⟩])

  (.seq (.reg [
  ⟨none, (some 15), (.mv (.t 1))⟩,
  ⟨none, (some 16), (.call 15 false [(.t 15), (.c (.cv (.sc (.int .i64 0))))])⟩,
  ⟨none, (some 14), (.mv (.t 16))⟩,
  ⟨none, (some 17), (.ext (.t 14) 0)⟩,
  ⟨none, (some 18), (.ext (.t 14) 1)⟩,
  ⟨none, (some 2), (.mv (.t 17))⟩,
  ⟨none, (some 3), (.mv (.t 18))⟩])

  (.seq (.reg [
  ⟨none, (some 19), (.mv (.t 1))⟩,
  ⟨none, (some 20), (.mksl 1 1 [(.cv (.sc (.int .u8 0)))] [(0, (1, (.c (.cv (.sc (.int .u8 1))))))] false)⟩,
  ⟨none, (some 21), (.call 12 false [(.t 19), (.c (.cv (.sc (.int .i64 0)))), (.t 20)])⟩])

  (.seq (.reg [
  ⟨none, (some 22), (.mv (.t 1))⟩,
  ⟨none, (some 23), (.call 13 false [(.t 22)])⟩])

  (.seq (.reg [
  ⟨none, (some 24), (.mv (.t 1))⟩,
  ⟨none, (some 25), (.call 14 false [(.t 24), (.c (.cv (.sc (.slice none 0 0))))])⟩])

  (.seq (.reg [
  ⟨none, (some 27), (.mv (.t 1))⟩,
  ⟨none, (some 28), (.call 15 false [(.t 27), (.c (.cv (.sc (.int .i64 0))))])⟩,
  ⟨none, (some 26), (.mv (.t 28))⟩,
  ⟨none, (some 29), (.ext (.t 26) 0)⟩,
  ⟨none, (some 30), (.ext (.t 26) 1)⟩,
  ⟨none, (some 4), (.mv (.t 29))⟩,
  ⟨none, (some 5), (.mv (.t 30))⟩])

  (.seq (.reg [
  ⟨none, (some 31), (.mv (.t 3))⟩,
  ⟨none, (some 32), (.bin .eql (.t 31) (.c (.cv (.sc (.int .u16 0)))))⟩,
  ⟨none, (some 33), (.mv (.t 32))⟩,
  ⟨(some (33, true)), (some 34), (.mv (.t 5))⟩,
  ⟨(some (33, true)), (some 35), (.bin .eql (.t 34) (.c (.cv (.sc (.int .u16 0)))))⟩,
  ⟨none, (some 36), (.pick (.t 33) (.t 35) (.c (.cv (.sc (.bool false)))))⟩,
  ⟨none, (some 37), (.mv (.t 36))⟩,
  ⟨(some (37, true)), (some 38), (.mv (.t 2))⟩,
  ⟨(some (37, true)), (some 39), (.len false (.t 38))⟩,
  ⟨(some (37, true)), (some 40), (.bin .eql (.t 39) (.c (.cv (.sc (.int .i64 64)))))⟩,
  ⟨none, (some 41), (.pick (.t 37) (.t 40) (.c (.cv (.sc (.bool false)))))⟩,
  ⟨none, (some 42), (.mv (.t 41))⟩,
  ⟨(some (42, true)), (some 43), (.mv (.t 2))⟩,
  ⟨(some (42, true)), (some 44), (.iadL 1 (.t 43) (.c (.cv (.sc (.int .i64 0)))))⟩,
  ⟨(some (42, true)), (some 45), (.ld false 1 (.t 44))⟩,
  ⟨(some (42, true)), (some 46), (.bin .eql (.t 45) (.c (.cv (.sc (.int .u8 0)))))⟩,
  ⟨none, (some 47), (.pick (.t 42) (.t 46) (.c (.cv (.sc (.bool false)))))⟩,
  ⟨none, (some 48), (.mv (.t 47))⟩,
  ⟨(some (48, true)), (some 49), (.mv (.t 4))⟩,
  ⟨(some (48, true)), (some 50), (.len false (.t 49))⟩,
  ⟨(some (48, true)), (some 51), (.bin .eql (.t 50) (.c (.cv (.sc (.int .i64 64)))))⟩,
  ⟨none, (some 52), (.pick (.t 48) (.t 51) (.c (.cv (.sc (.bool false)))))⟩,
  ⟨none, (some 53), (.mv (.t 52))⟩,
  ⟨(some (53, true)), (some 54), (.mv (.t 4))⟩,
  ⟨(some (53, true)), (some 55), (.iadL 1 (.t 54) (.c (.cv (.sc (.int .i64 0)))))⟩,
  ⟨(some (53, true)), (some 56), (.ld false 1 (.t 55))⟩,
  ⟨(some (53, true)), (some 57), (.bin .eql (.t 56) (.c (.cv (.sc (.int .u8 1)))))⟩,
  ⟨none, (some 58), (.pick (.t 53) (.t 57) (.c (.cv (.sc (.bool false)))))⟩,
  ⟨none, (some 59), (.mv (.t 58))⟩,
  ⟨(some (59, true)), (some 60), (.mv (.t 1))⟩,
  ⟨(some (59, true)), (some 61), (.call 21 false [(.t 60)])⟩,
  ⟨(some (59, true)), (some 62), (.bin .eql (.t 61) (.c (.cv (.sc (.complex .f64 4611686018427387904 4607182418800017408)))))⟩,
  ⟨none, (some 63), (.pick (.t 59) (.t 62) (.c (.cv (.sc (.bool false)))))⟩,
  ⟨none, (some 0), (.mv (.t 63))⟩])
  .ret)))))))))))⟩
theorem f10_ok : compF Proofs.Try.prog [11, 12, 13, 14, 15, 17, 18, 19, 20, 21, 23, 24, 25, 26, 27, 28, 31, 39, 40] [] Proofs.Try.f10 = some f10 := by kernel_rfl

def f11_0 : IR :=

  (.seq (.reg [
  ⟨none, (some 3), (.mv (.t 0))⟩,
  ⟨none, (some 4), (.bin .lss (.t 3) (.c (.cv (.sc (.int .i64 0)))))⟩,
  ⟨none, (some 5), (.mv (.t 4))⟩,
  ⟨(some (5, false)), (some 6), (.mv (.t 0))⟩,
  ⟨(some (5, false)), (some 7), (.bin .gtr (.t 6) (.c (.cv (.sc (.int .i64 4096)))))⟩,
  ⟨none, (some 8), (.pick (.t 5) (.c (.cv (.sc (.bool true)))) (.t 7))⟩])
  (.cond (.t 8)
  (.seq (.reg [
  ⟨none, (some 2), (.mv (.c (.cv (.sc (.pointer none)))))⟩])
  .ret) .skip))
def f11 : FnIR := ⟨13, [(.t 2)],

  (.seq (.reg [
  ⟨none, (some 2), (.mv (.c (.cv (.sc (.pointer none)))))⟩])

  (.seq f11_0

  (.seq (.reg [
  ⟨none, (some 9), (.mv (.t 0))⟩,
  ⟨none, (some 10), (.mks 64 64 (List.replicate 64 (.sc (.int .u8 0))) (.t 9) (.t 9) true)⟩,
  ⟨none, (some 11), (.build [(.cv (.sc (.slice none 0 0))), (.cv (.sc (.slice none 0 0))), (.cv (.sc (.complex .f64 0 0))), (.cv (.sc (.bool false))), (.cv (.sc (.int .i64 0)))] [(0, (1, (.t 10)))])⟩,
  ⟨none, (some 12), (.box 5 (.t 11))⟩,
  ⟨none, (some 2), (.mv (.t 12))⟩])
  .ret)))⟩
theorem f11_ok : compF Proofs.Try.prog [11, 12, 13, 14, 15, 17, 18, 19, 20, 21, 23, 24, 25, 26, 27, 28, 31, 39, 40] [(3, 1)] Proofs.Try.f11 = some f11 := by kernel_rfl

def f12_0 : IR :=

  (.seq (.reg [
  ⟨none, (some 17), (.mv (.t 0))⟩,
  ⟨none, (some 18), (.call 27 false [(.t 17)])⟩,
  ⟨none, (some 19), (.un .not (.t 18))⟩])
  (.cond (.t 19)
  (.seq (.reg [
  ⟨none, (some 6), (.mv (.c (.cv (.sc (.int .u16 0)))))⟩])
  .ret) .skip))
def f12 : FnIR := ⟨43, [(.t 6)],

  (.seq (.reg [
  ⟨none, (some 6), (.mv (.c (.cv (.sc (.int .u16 0)))))⟩])

  (.seq (.block 0
  (.seq (.reg [
  ⟨none, (some 9), (.mv (.t 0))⟩,
  ⟨none, (some 10), (.mv (.t 1))⟩,
  ⟨none, (some 11), (.call 26 false [(.t 9), (.t 10)])⟩,
  ⟨none, (some 12), (.un .not (.t 11))⟩,
  ⟨none, (some 8), (.mv (.t 12))⟩])
  (.cond (.t 8)
  (.seq (.reg [
  ⟨none, (some 6), (.mv (.c (.cv (.sc (.int .u16 20)))))⟩])
  .ret)
  (.seq (.reg [
  ⟨none, (some 14), (.mv (.t 2))⟩,
  ⟨none, (some 15), (.len false (.t 14))⟩,
  ⟨none, (some 16), (.bin .gtr (.t 15) (.c (.cv (.sc (.int .i64 64)))))⟩,
  ⟨none, (some 13), (.mv (.t 16))⟩])
  (.cond (.t 13)
  (.seq (.reg [
  ⟨none, (some 6), (.mv (.c (.cv (.sc (.int .u16 3)))))⟩])
  .ret) .skip)))))

  (.seq f12_0

  (.seq (.reg [
  ⟨none, (some 20), (.mv (.t 1))⟩,
  ⟨none, (some 21), (.build ((.cv (.sc (.int .i64 0))) :: List.replicate 64 (.cv (.sc (.int .u8 0)))) [(0, (1, (.t 20)))])⟩,
  ⟨none, (some 7), (.alloc ((.cv (.sc (.int .i64 0))) :: List.replicate 64 (.cv (.sc (.int .u8 0)))))⟩,
  ⟨none, none, (.st 65 (.t 7) (.t 21))⟩])

  (.seq (.reg [
  ⟨none, (some 22), (.fad 1 (.t 7))⟩,
  ⟨none, (some 23), (.slA 64 1 (.t 22) none none)⟩,
  ⟨none, (some 24), (.mv (.t 2))⟩,
  ⟨none, (some 25), (.cpy 1 (.t 23) (.t 24))⟩])

  (.seq (.draw [(
  ⟨none, (some 26), (.mv (.t 0))⟩, .p), (
  ⟨none, (some 27), (.mv (.t 0))⟩, .p), (
  ⟨none, (some 28), (.nilck (.t 27))⟩, .p), (
  ⟨none, (some 29), (.fad 1 (.t 28))⟩, .p), (
  ⟨none, (some 30), (.ld false 1 (.t 29))⟩, (.r 0 0)), (
  ⟨none, (some 31), (.ld true 65 (.t 7))⟩, (.r 0 0)), (
  ⟨none, (some 32), (.mksl 65 1 ((.cv (.sc (.int .i64 0))) :: List.replicate 64 (.cv (.sc (.int .u8 0)))) [(0, (65, (.t 31)))] false)⟩, (.r 0 0)), (
  ⟨none, (some 33), (.app 65 72 ((.sc (.int .i64 0)) :: List.replicate 64 (.sc (.int .u8 0))) (.t 30) (.t 32))⟩, .k), (
  ⟨none, (some 34), (.nilck (.t 26))⟩, .p), (
  ⟨none, (some 35), (.fad 1 (.t 34))⟩, .p), (
  ⟨none, none, (.st 1 (.t 35) (.t 33))⟩, .k)])

  (.seq (.reg [
  ⟨none, (some 36), (.mv (.t 0))⟩,
  ⟨none, (some 37), (.nilck (.t 36))⟩,
  ⟨none, (some 38), (.fad 2 (.t 37))⟩,
  ⟨none, (some 39), (.ld false 1 (.t 38))⟩,
  ⟨none, (some 40), (.bin .add (.t 39) (.c (.cv (.sc (.complex .f64 4607182418800017408 0)))))⟩,
  ⟨none, (some 41), (.nilck (.t 36))⟩,
  ⟨none, (some 42), (.fad 2 (.t 41))⟩,
  ⟨none, none, (.st 1 (.t 42) (.t 40))⟩])

  (.seq (.reg [
  ⟨none, (some 6), (.mv (.c (.cv (.sc (.int .u16 0)))))⟩])
  .ret))))))))⟩
theorem f12_ok : compF Proofs.Try.prog [11, 12, 13, 14, 15, 17, 18, 19, 20, 21, 23, 24, 25, 26, 27, 28, 31, 39, 40] [] Proofs.Try.f12 = some f12 := by kernel_rfl

def f13_0 : IR :=

  (.seq (.reg [
  ⟨none, (some 2), (.mv (.t 0))⟩,
  ⟨none, (some 3), (.eqn .ptr false (.t 2))⟩,
  ⟨none, (some 4), (.mv (.t 3))⟩,
  ⟨(some (4, false)), (some 5), (.mv (.t 0))⟩,
  ⟨(some (4, false)), (some 6), (.call 27 false [(.t 5)])⟩,
  ⟨(some (4, false)), (some 7), (.un .not (.t 6))⟩,
  ⟨none, (some 8), (.pick (.t 4) (.c (.cv (.sc (.bool true)))) (.t 7))⟩])
  (.cond (.t 8) .ret .skip))
def f13 : FnIR := ⟨18, [],

  (.seq f13_0

  (.seq (.reg [
  ⟨none, (some 9), (.mv (.t 0))⟩,
  ⟨none, (some 10), (.call 28 false [(.t 9), (.c (.func 29 []))])⟩])
  (.reg [
  ⟨none, (some 11), (.mv (.t 0))⟩,
  ⟨none, (some 12), (.nilck (.t 11))⟩,
  ⟨none, (some 13), (.fad 2 (.t 12))⟩,
  ⟨none, (some 14), (.ld false 1 (.t 13))⟩,
  ⟨none, (some 15), (.bin .add (.t 14) (.c (.cv (.sc (.complex .f64 0 4607182418800017408)))))⟩,
  ⟨none, (some 16), (.nilck (.t 11))⟩,
  ⟨none, (some 17), (.fad 2 (.t 16))⟩,
  ⟨none, none, (.st 1 (.t 17) (.t 15))⟩])))⟩
theorem f13_ok : compF Proofs.Try.prog [11, 12, 13, 14, 15, 17, 18, 19, 20, 21, 23, 24, 25, 26, 27, 28, 31, 39, 40] [] Proofs.Try.f13 = some f13 := by kernel_rfl

def f14_0 : IR :=

  (.seq (.reg [
  ⟨none, (some 4), (.mv (.t 0))⟩,
  ⟨none, (some 5), (.eqn .ptr false (.t 4))⟩])
  (.cond (.t 5) .ret .skip))
def f14 : FnIR := ⟨15, [],

  (.seq (.reg [
  ⟨none, (some 3), (.box 1 (.t 1))⟩])

  (.seq f14_0

  (.seq (.reg [
  ⟨none, (some 6), (.mv (.t 0))⟩,
  ⟨none, (some 7), (.mkfn 30 [(.t 3)])⟩,
  ⟨none, (some 8), (.call 28 false [(.t 6), (.t 7)])⟩])
  (.reg [
  ⟨none, (some 9), (.mv (.t 0))⟩,
  ⟨none, (some 10), (.mv (.t 0))⟩,
  ⟨none, (some 11), (.nilck (.t 9))⟩,
  ⟨none, (some 12), (.fad 3 (.t 11))⟩,
  ⟨none, none, (.st 1 (.t 12) (.c (.cv (.sc (.bool false)))))⟩,
  ⟨none, (some 13), (.nilck (.t 10))⟩,
  ⟨none, (some 14), (.fad 4 (.t 13))⟩,
  ⟨none, none, (.st 1 (.t 14) (.c (.cv (.sc (.int .i64 0)))))⟩]))))⟩
theorem f14_ok : compF Proofs.Try.prog [11, 12, 13, 14, 15, 17, 18, 19, 20, 21, 23, 24, 25, 26, 27, 28, 31, 39, 40] [] Proofs.Try.f14 = some f14 := by kernel_rfl

def f15_0 : IR :=

  (.seq (.reg [
  ⟨none, (some 9), (.mv (.t 0))⟩,
  ⟨none, (some 10), (.mv (.t 1))⟩,
  ⟨none, (some 11), (.call 26 false [(.t 9), (.t 10)])⟩,
  ⟨none, (some 12), (.un .not (.t 11))⟩])
  (.cond (.t 12)
  (.seq (.reg [
  ⟨none, (some 4), (.mv (.c (.cv (.sc (.slice none 0 0)))))⟩,
  ⟨none, (some 5), (.mv (.c (.cv (.sc (.int .u16 20)))))⟩])
  .ret) .skip))
def f15_1 : IR :=
  (.cond (.t 26) .skip (.exit 0))
def f15_2 : IR :=

  (.seq (.reg [
  ⟨none, (some 26), (.bin .lss (.t 25) (.t 24))⟩])

  (.seq f15_1

  (.seq (.block 1
  (.seq (.reg [
  ⟨none, (some 27), (.iadL 65 (.t 23) (.t 25))⟩,
  ⟨none, (some 28), (.ld true 65 (.t 27))⟩,
  ⟨none, (some 8), (.alloc ((.cv (.sc (.int .i64 0))) :: List.replicate 64 (.cv (.sc (.int .u8 0)))))⟩,
  ⟨none, none, (.st 65 (.t 8) (.t 28))⟩])

  (.seq (.reg [
  ⟨none, (some 29), (.fad 0 (.t 8))⟩,
  ⟨none, (some 30), (.ld false 1 (.t 29))⟩,
  ⟨none, (some 31), (.mv (.t 1))⟩,
  ⟨none, (some 32), (.bin .eql (.t 30) (.t 31))⟩])
  (.cond (.t 32) (.reg [
  ⟨none, (some 33), (.fad 1 (.t 8))⟩,
  ⟨none, (some 34), (.ld true 64 (.t 33))⟩,
  ⟨none, none, (.st 64 (.t 6) (.t 34))⟩]) .skip))))
  (.reg [
  ⟨none, (some 35), (.bin .add (.t 25) (.c (.cv (.sc (.int .i64 1)))))⟩,
  ⟨none, (some 25), (.mv (.t 35))⟩]))))
def f15 : FnIR := ⟨37, [(.t 4), (.t 5)],

  (.seq (.reg [
  ⟨none, (some 4), (.mv (.c (.cv (.sc (.slice none 0 0)))))⟩,
  ⟨none, (some 5), (.mv (.c (.cv (.sc (.int .u16 0)))))⟩])

  (.seq f15_0

  (.seq (.reg [
  ⟨none, (some 13), (.mv (.t 0))⟩,
  ⟨none, (some 14), (.nilck (.t 13))⟩,
  ⟨none, (some 15), (.fad 0 (.t 14))⟩,
  ⟨none, (some 16), (.ld false 1 (.t 15))⟩,
  ⟨none, (some 17), (.mv (.t 1))⟩,
  ⟨none, (some 18), (.iadL 64 (.t 16) (.t 17))⟩,
  ⟨none, (some 19), (.ld true 64 (.t 18))⟩,
  ⟨none, (some 6), (.alloc (List.replicate 64 (.cv (.sc (.int .u8 0)))))⟩,
  ⟨none, none, (.st 64 (.t 6) (.t 19))⟩])

  (.seq
  (.seq (.reg [
  ⟨none, (some 20), (.mv (.t 0))⟩,
  ⟨none, (some 21), (.nilck (.t 20))⟩,
  ⟨none, (some 22), (.fad 1 (.t 21))⟩,
  ⟨none, (some 23), (.ld false 1 (.t 22))⟩,
  ⟨none, (some 24), (.len false (.t 23))⟩,
  ⟨none, (some 25), (.mv (.c (.cv (.sc (.int .i64 0)))))⟩])
  (.block 0 (.loop f15_2)))

  (.seq (.reg [
  ⟨none, (some 36), (.slA 64 1 (.t 6) none none)⟩,
  ⟨none, (some 4), (.mv (.t 36))⟩,
  ⟨none, (some 5), (.mv (.c (.cv (.sc (.int .u16 0)))))⟩])
  .ret)))))⟩
theorem f15_ok : compF Proofs.Try.prog [11, 12, 13, 14, 15, 17, 18, 19, 20, 21, 23, 24, 25, 26, 27, 28, 31, 39, 40] [] Proofs.Try.f15 = some f15 := by kernel_rfl

def f16_0 : IR :=

  (.seq (.reg [
  ⟨none, (some 6), (.mv (.t 0))⟩,
  ⟨none, (some 7), (.bin .lss (.t 6) (.c (.cv (.sc (.int .i64 0)))))⟩,
  ⟨none, (some 8), (.mv (.t 7))⟩,
  ⟨(some (8, false)), (some 9), (.mv (.t 0))⟩,
  ⟨(some (8, false)), (some 10), (.bin .gtr (.t 9) (.c (.cv (.sc (.int .i64 4096)))))⟩,
  ⟨none, (some 11), (.pick (.t 8) (.c (.cv (.sc (.bool true)))) (.t 10))⟩])
  (.cond (.t 11)
  (.seq (.reg [
  ⟨none, (some 12), (.build [(.cv (.sc (.slice none 0 0))), (.cv (.sc (.slice none 0 0))), (.cv (.sc (.int .i64 0))), (.cv (.sc (.int .i64 0))), (.cv (.sc (.bool false))), (.cv (.sc (.int .i64 0)))] [])⟩,
  ⟨none, none, (.st 6 (.t 2) (.t 12))⟩,
  ⟨none, (some 3), (.mv (.c (.cv (.sc (.bool false)))))⟩])
  .ret) .skip))
def f16_1 : IR :=

  (.seq
  (.seq (.reg [
  ⟨none, (some 14), (.mv (.t 5))⟩,
  ⟨none, (some 15), (.mv (.t 0))⟩,
  ⟨none, (some 16), (.bin .lss (.t 14) (.t 15))⟩])
  (.cond (.t 16) .skip (.exit 0)))

  (.seq (.block 1 (.draw [(
  ⟨none, (some 19), (.fad 0 (.t 4))⟩, .p), (
  ⟨none, (some 20), (.ld false 1 (.t 19))⟩, (.r 0 0)), (
  ⟨none, (some 21), (.mks 1 1 [(.sc (.int .u8 0))] (.c (.cv (.sc (.int .i64 64)))) (.c (.cv (.sc (.int .i64 64)))) false)⟩, .p), (
  ⟨none, (some 22), (.mksl 1 1 [(.cv (.sc (.slice none 0 0)))] [(0, (1, (.t 21)))] false)⟩, (.r 0 0)), (
  ⟨none, (some 23), (.app 1 24 [(.sc (.slice none 0 0))] (.t 20) (.t 22))⟩, .k), (
  ⟨none, (some 24), (.fad 0 (.t 4))⟩, .p), (
  ⟨none, none, (.st 1 (.t 24) (.t 23))⟩, .k)]))
  (.reg [
  ⟨none, (some 17), (.mv (.t 5))⟩,
  ⟨none, (some 18), (.bin .add (.t 17) (.c (.cv (.sc (.int .i64 1)))))⟩,
  ⟨none, (some 5), (.mv (.t 18))⟩])))
def f16 : FnIR := ⟨26, [(.cell 2 true 6), (.t 3)],

  (.seq (.reg [
  ⟨none, (some 2), (.alloc [(.cv (.sc (.slice none 0 0))), (.cv (.sc (.slice none 0 0))), (.cv (.sc (.int .i64 0))), (.cv (.sc (.int .i64 0))), (.cv (.sc (.bool false))), (.cv (.sc (.int .i64 0)))])⟩,
  ⟨none, (some 3), (.mv (.c (.cv (.sc (.bool false)))))⟩])

  (.seq f16_0

  (.seq (.reg [
  ⟨none, (some 13), (.build [(.cv (.sc (.slice none 0 0))), (.cv (.sc (.slice none 0 0))), (.cv (.sc (.int .i64 0))), (.cv (.sc (.int .i64 0))), (.cv (.sc (.bool false))), (.cv (.sc (.int .i64 0)))] [])⟩,
  ⟨none, (some 4), (.alloc [(.cv (.sc (.slice none 0 0))), (.cv (.sc (.slice none 0 0))), (.cv (.sc (.int .i64 0))), (.cv (.sc (.int .i64 0))), (.cv (.sc (.bool false))), (.cv (.sc (.int .i64 0)))])⟩,
  ⟨none, none, (.st 6 (.t 4) (.t 13))⟩])

  (.seq
  (.seq (.reg [
  ⟨none, (some 5), (.mv (.c (.cv (.sc (.int .i64 0)))))⟩])
  (.block 0 (.loop f16_1)))

  (.seq (.reg [
  ⟨none, (some 25), (.ld true 6 (.t 4))⟩,
  ⟨none, none, (.st 6 (.t 2) (.t 25))⟩,
  ⟨none, (some 3), (.mv (.c (.cv (.sc (.bool true)))))⟩])
  .ret)))))⟩
theorem f16_ok : compF Proofs.Try.prog [11, 12, 13, 14, 15, 17, 18, 19, 20, 21, 23, 24, 25, 26, 27, 28, 31, 39, 40] [] Proofs.Try.f16 = some f16 := by kernel_rfl

def f17_0 : IR :=

  (.seq (.reg [
  ⟨none, (some 3), (.mv (.t 0))⟩,
  ⟨none, (some 4), (.eqn .ptr false (.t 3))⟩])
  (.cond (.t 4)
  (.seq (.reg [
  ⟨none, (some 2), (.mv (.c (.cv (.sc (.int .i64 0)))))⟩])
  .ret) .skip))
def f17 : FnIR := ⟨10, [(.t 2)],

  (.seq (.reg [
  ⟨none, (some 2), (.mv (.c (.cv (.sc (.int .i64 0)))))⟩])

  (.seq f17_0

  (.seq (.reg [
  ⟨none, (some 5), (.mv (.t 0))⟩,
  ⟨none, (some 6), (.nilck (.t 5))⟩,
  ⟨none, (some 7), (.fad 0 (.t 6))⟩,
  ⟨none, (some 8), (.ld false 1 (.t 7))⟩,
  ⟨none, (some 9), (.len false (.t 8))⟩,
  ⟨none, (some 2), (.mv (.t 9))⟩])
  .ret)))⟩
theorem f17_ok : compF Proofs.Try.prog [11, 12, 13, 14, 15, 17, 18, 19, 20, 21, 23, 24, 25, 26, 27, 28, 31, 39, 40] [] Proofs.Try.f17 = some f17 := by kernel_rfl

def f18_0 : IR :=

  (.seq (.reg [
  ⟨none, (some 6), (.mv (.t 0))⟩,
  ⟨none, (some 7), (.eqn .ptr false (.t 6))⟩])
  (.cond (.t 7)
  (.seq (.reg [
  ⟨none, (some 2), (.mv (.c (.cv (.sc (.slice none 0 0)))))⟩])
  .ret) .skip))
def f18_1 : IR :=
  (.cond (.t 14) .skip (.exit 0))
def f18_2 : IR :=

  (.seq (.reg [
  ⟨none, (some 14), (.bin .lss (.t 13) (.t 12))⟩])

  (.seq f18_1

  (.seq (.block 1
  (.seq (.reg [
  ⟨none, (some 15), (.iadL 65 (.t 11) (.t 13))⟩,
  ⟨none, (some 16), (.ld true 65 (.t 15))⟩,
  ⟨none, (some 5), (.alloc ((.cv (.sc (.int .i64 0))) :: List.replicate 64 (.cv (.sc (.int .u8 0)))))⟩,
  ⟨none, none, (.st 65 (.t 5) (.t 16))⟩])
  (.reg [
  ⟨none, (some 17), (.mv (.t 3))⟩,
  ⟨none, (some 18), (.fad 0 (.t 5))⟩,
  ⟨none, (some 19), (.ld false 1 (.t 18))⟩,
  ⟨none, (some 20), (.mksl 1 1 [(.cv (.sc (.int .i64 0)))] [(0, (1, (.t 19)))] false)⟩,
  ⟨none, (some 21), (.app 1 8 [(.sc (.int .i64 0))] (.t 17) (.t 20))⟩,
  ⟨none, (some 3), (.mv (.t 21))⟩])))
  (.reg [
  ⟨none, (some 22), (.bin .add (.t 13) (.c (.cv (.sc (.int .i64 1)))))⟩,
  ⟨none, (some 13), (.mv (.t 22))⟩]))))
def f18 : FnIR := ⟨24, [(.t 2)],

  (.seq (.reg [
  ⟨none, (some 2), (.mv (.c (.cv (.sc (.slice none 0 0)))))⟩])

  (.seq f18_0

  (.seq (.reg [
  ⟨none, (some 3), (.mv (.c (.cv (.sc (.slice none 0 0)))))⟩])

  (.seq
  (.seq (.reg [
  ⟨none, (some 8), (.mv (.t 0))⟩,
  ⟨none, (some 9), (.nilck (.t 8))⟩,
  ⟨none, (some 10), (.fad 1 (.t 9))⟩,
  ⟨none, (some 11), (.ld false 1 (.t 10))⟩,
  ⟨none, (some 12), (.len false (.t 11))⟩,
  ⟨none, (some 13), (.mv (.c (.cv (.sc (.int .i64 0)))))⟩])
  (.block 0 (.loop f18_2)))

  (.seq (.reg [
  ⟨none, (some 23), (.mv (.t 3))⟩,
  ⟨none, (some 2), (.mv (.t 23))⟩])
  .ret)))))⟩
theorem f18_ok : compF Proofs.Try.prog [11, 12, 13, 14, 15, 17, 18, 19, 20, 21, 23, 24, 25, 26, 27, 28, 31, 39, 40] [] Proofs.Try.f18 = some f18 := by kernel_rfl

def f19 : FnIR := ⟨20, [],

  (.seq (.reg [
  ⟨none, (some 4), (.mv (.t 0))⟩,
  ⟨none, (some 5), (.eqn .ptr true (.t 4))⟩,
  ⟨none, (some 6), (.mv (.t 5))⟩,
  ⟨(some (6, true)), (some 7), (.mv (.t 0))⟩,
  ⟨(some (6, true)), (some 8), (.call 31 false [(.t 7)])⟩,
  ⟨(some (6, true)), (some 9), (.un .not (.t 8))⟩,
  ⟨none, (some 10), (.pick (.t 6) (.t 9) (.c (.cv (.sc (.bool false)))))⟩])
  (.cond (.t 10) (.reg [
  ⟨none, (some 11), (.mv (.t 0))⟩,
  ⟨none, (some 12), (.mv (.t 0))⟩,
  ⟨none, (some 13), (.mv (.t 1))⟩,
  ⟨none, (some 14), (.bin .geq (.t 13) (.c (.cv (.sc (.int .i64 0)))))⟩,
  ⟨none, (some 15), (.mv (.t 1))⟩,
  ⟨none, (some 16), (.nilck (.t 11))⟩,
  ⟨none, (some 17), (.fad 3 (.t 16))⟩,
  ⟨none, none, (.st 1 (.t 17) (.t 14))⟩,
  ⟨none, (some 18), (.nilck (.t 12))⟩,
  ⟨none, (some 19), (.fad 4 (.t 18))⟩,
  ⟨none, none, (.st 1 (.t 19) (.t 15))⟩]) .skip))⟩
theorem f19_ok : compF Proofs.Try.prog [11, 12, 13, 14, 15, 17, 18, 19, 20, 21, 23, 24, 25, 26, 27, 28, 31, 39, 40] [] Proofs.Try.f19 = some f19 := by kernel_rfl

def f20_0 : IR :=

  (.seq (.reg [
  ⟨none, (some 9), (.mv (.t 0))⟩,
  ⟨none, (some 10), (.mv (.t 1))⟩,
  ⟨none, (some 11), (.call 26 false [(.t 9), (.t 10)])⟩,
  ⟨none, (some 12), (.un .not (.t 11))⟩,
  ⟨none, (some 13), (.mv (.t 12))⟩,
  ⟨(some (13, false)), (some 14), (.mv (.t 2))⟩,
  ⟨(some (13, false)), (some 15), (.bin .lss (.t 14) (.c (.cv (.sc (.int .i64 0)))))⟩,
  ⟨none, (some 16), (.pick (.t 13) (.c (.cv (.sc (.bool true)))) (.t 15))⟩,
  ⟨none, (some 17), (.mv (.t 16))⟩,
  ⟨(some (17, false)), (some 18), (.mv (.t 2))⟩,
  ⟨(some (17, false)), (some 19), (.bin .geq (.t 18) (.c (.cv (.sc (.int .i64 64)))))⟩,
  ⟨none, (some 20), (.pick (.t 17) (.c (.cv (.sc (.bool true)))) (.t 19))⟩])
  (.cond (.t 20)
  (.seq (.reg [
  ⟨none, (some 8), (.mv (.c (.cv (.sc (.bool false)))))⟩])
  .ret) .skip))
def f20 : FnIR := ⟨30, [(.t 8)],

  (.seq (.reg [
  ⟨none, (some 8), (.mv (.c (.cv (.sc (.bool false)))))⟩])

  (.seq f20_0

  (.seq (.reg [
  ⟨none, (some 21), (.mv (.t 0))⟩,
  ⟨none, (some 22), (.nilck (.t 21))⟩,
  ⟨none, (some 23), (.fad 0 (.t 22))⟩,
  ⟨none, (some 24), (.ld false 1 (.t 23))⟩,
  ⟨none, (some 25), (.mv (.t 1))⟩,
  ⟨none, (some 26), (.mv (.t 2))⟩,
  ⟨none, (some 27), (.mv (.t 3))⟩,
  ⟨none, (some 28), (.iadL 64 (.t 24) (.t 25))⟩,
  ⟨none, (some 29), (.iadA 64 1 (.t 28) (.t 26))⟩,
  ⟨none, none, (.st 1 (.t 29) (.t 27))⟩])

  (.seq (.reg [
  ⟨none, (some 8), (.mv (.c (.cv (.sc (.bool true)))))⟩])
  .ret))))⟩
theorem f20_ok : compF Proofs.Try.prog [11, 12, 13, 14, 15, 17, 18, 19, 20, 21, 23, 24, 25, 26, 27, 28, 31, 39, 40] [] Proofs.Try.f20 = some f20 := by kernel_rfl

def f21_0 : IR :=

  (.seq (.reg [
  ⟨none, (some 3), (.mv (.t 0))⟩,
  ⟨none, (some 4), (.eqn .ptr false (.t 3))⟩])
  (.cond (.t 4)
  (.seq (.reg [
  ⟨none, (some 2), (.mv (.c (.cv (.sc (.complex .f64 0 0)))))⟩])
  .ret) .skip))
def f21 : FnIR := ⟨9, [(.t 2)],

  (.seq (.reg [
  ⟨none, (some 2), (.mv (.c (.cv (.sc (.complex .f64 0 0)))))⟩])

  (.seq f21_0

  (.seq (.reg [
  ⟨none, (some 5), (.mv (.t 0))⟩,
  ⟨none, (some 6), (.nilck (.t 5))⟩,
  ⟨none, (some 7), (.fad 2 (.t 6))⟩,
  ⟨none, (some 8), (.ld false 1 (.t 7))⟩,
  ⟨none, (some 2), (.mv (.t 8))⟩])
  .ret)))⟩
theorem f21_ok : compF Proofs.Try.prog [11, 12, 13, 14, 15, 17, 18, 19, 20, 21, 23, 24, 25, 26, 27, 28, 31, 39, 40] [] Proofs.Try.f21 = some f21 := by kernel_rfl

def f22_0 : IR :=

  (.seq
  (.seq (.reg [
  ⟨none, (some 7), (.mv (.t 4))⟩,
  ⟨none, (some 8), (.mv (.t 0))⟩,
  ⟨none, (some 9), (.len false (.t 8))⟩,
  ⟨none, (some 10), (.bin .lss (.t 7) (.t 9))⟩])
  (.cond (.t 10) .skip (.exit 0)))

  (.seq (.block 1 (.draw [(
  ⟨none, (some 13), (.mv (.t 3))⟩, .p), (
  ⟨none, (some 14), (.mv (.t 0))⟩, .p), (
  ⟨none, (some 15), (.mv (.t 4))⟩, .p), (
  ⟨none, (some 16), (.iadL 5 (.t 14) (.t 15))⟩, (.r 0 0)), (
  ⟨none, (some 17), (.fad 2 (.t 16))⟩, .p), (
  ⟨none, (some 18), (.ld false 1 (.t 17))⟩, (.r 0 0)), (
  ⟨none, (some 19), (.len false (.t 18))⟩, .p), (
  ⟨none, (some 20), (.mv (.t 0))⟩, .p), (
  ⟨none, (some 21), (.mv (.t 4))⟩, .p), (
  ⟨none, (some 22), (.iadL 5 (.t 20) (.t 21))⟩, (.r 0 0)), (
  ⟨none, (some 23), (.fad 3 (.t 22))⟩, .p), (
  ⟨none, (some 24), (.ld false 1 (.t 23))⟩, (.r 0 0)), (
  ⟨none, (some 25), (.len false (.t 24))⟩, .p), (
  ⟨none, (some 26), (.bin .add (.t 19) (.t 25))⟩, .p), (
  ⟨none, (some 27), (.bin .add (.t 13) (.t 26))⟩, .p), (
  ⟨none, (some 3), (.mv (.t 27))⟩, .p)]))
  (.reg [
  ⟨none, (some 11), (.mv (.t 4))⟩,
  ⟨none, (some 12), (.bin .add (.t 11) (.c (.cv (.sc (.int .i64 1)))))⟩,
  ⟨none, (some 4), (.mv (.t 12))⟩])))
def f22 : FnIR := ⟨35, [(.t 2)],

  (.seq (.reg [
  ⟨none, (some 2), (.mv (.c (.cv (.sc (.bool false)))))⟩])

  (.seq (.reg [
  ⟨none, (some 5), (.mv (.t 0))⟩,
  ⟨none, (some 6), (.len false (.t 5))⟩,
  ⟨none, (some 3), (.mv (.t 6))⟩])

  (.seq
  (.seq (.reg [
  ⟨none, (some 4), (.mv (.c (.cv (.sc (.int .i64 0)))))⟩])
  (.block 0 (.loop f22_0)))

  (.seq (.reg [
  ⟨none, (some 28), (.mv (.t 0))⟩,
  ⟨none, (some 29), (.len false (.t 28))⟩,
  ⟨none, (some 30), (.bin .gtr (.t 29) (.c (.cv (.sc (.int .i64 60)))))⟩,
  ⟨none, (some 31), (.mv (.t 30))⟩,
  ⟨(some (31, false)), (some 32), (.mv (.t 3))⟩,
  ⟨(some (31, false)), (some 33), (.bin .gtr (.t 32) (.c (.cv (.sc (.int .i64 800)))))⟩,
  ⟨none, (some 34), (.pick (.t 31) (.c (.cv (.sc (.bool true)))) (.t 33))⟩,
  ⟨none, (some 2), (.mv (.t 34))⟩])
  .ret))))⟩
theorem f22_ok : compF Proofs.Try.prog [11, 12, 13, 14, 15, 17, 18, 19, 20, 21, 23, 24, 25, 26, 27, 28, 31, 39, 40] [] Proofs.Try.f22 = some f22 := by kernel_rfl

def f23_0 : IR :=

  (.seq (.reg [
  ⟨none, (some 19), (.fad 4 (.t 5))⟩,
  ⟨none, (some 20), (.ld false 1 (.t 19))⟩,
  ⟨none, (some 21), (.bin .rem (.t 20) (.c (.cv (.sc (.int .u8 8)))))⟩,
  ⟨none, (some 22), (.bin .gtr (.t 21) (.c (.cv (.sc (.int .u8 0)))))⟩])
  (.cond (.t 22) (.reg [
  ⟨none, (some 23), (.fad 4 (.t 5))⟩,
  ⟨none, (some 24), (.ld false 1 (.t 23))⟩,
  ⟨none, (some 25), (.bin .rem (.t 24) (.c (.cv (.sc (.int .u8 9)))))⟩,
  ⟨none, (some 26), (.cvI .i64 (.t 25))⟩,
  ⟨none, (some 8), (.mv (.t 26))⟩]) .skip))
def f23_1 : IR :=

  (.seq (.reg [
  ⟨none, (some 31), (.bin .eql (.t 29) (.c (.cv (.sc (.int .u8 0)))))⟩,
  ⟨none, (some 30), (.mv (.t 31))⟩])
  (.cond (.t 30) .skip
  (.seq (.reg [
  ⟨none, (some 32), (.bin .eql (.t 29) (.c (.cv (.sc (.int .u8 1)))))⟩,
  ⟨none, (some 30), (.mv (.t 32))⟩])
  (.cond (.t 30) .skip (.reg [
  ⟨none, (some 33), (.bin .eql (.t 29) (.c (.cv (.sc (.int .u8 2)))))⟩,
  ⟨none, (some 30), (.mv (.t 33))⟩])))))
def f23_2 : IR :=

  (.seq (.reg [
  ⟨none, (some 52), (.bin .eql (.t 29) (.c (.cv (.sc (.int .u8 3)))))⟩,
  ⟨none, (some 51), (.mv (.t 52))⟩])
  (.cond (.t 51) .skip (.reg [
  ⟨none, (some 53), (.bin .eql (.t 29) (.c (.cv (.sc (.int .u8 4)))))⟩,
  ⟨none, (some 51), (.mv (.t 53))⟩])))
def f23 : FnIR := ⟨138, [(.cell 6 true 6), (.t 7)],

  (.seq (.reg [
  ⟨none, (some 4), (.box 6 (.t 1))⟩,
  ⟨none, (some 5), (.box 5 (.t 2))⟩,
  ⟨none, (some 6), (.alloc [(.cv (.sc (.slice none 0 0))), (.cv (.sc (.slice none 0 0))), (.cv (.sc (.int .i64 0))), (.cv (.sc (.int .i64 0))), (.cv (.sc (.bool false))), (.cv (.sc (.int .i64 0)))])⟩,
  ⟨none, (some 7), (.mv (.c (.cv (.sc (.bool false)))))⟩])

  (.seq (.reg [
  ⟨none, (some 17), (.fad 1 (.t 5))⟩,
  ⟨none, (some 18), (.ld false 1 (.t 17))⟩,
  ⟨none, (some 8), (.mv (.t 18))⟩])

  (.seq f23_0

  (.seq
  (.seq (.reg [
  ⟨none, (some 27), (.fad 0 (.t 5))⟩,
  ⟨none, (some 28), (.ld false 1 (.t 27))⟩,
  ⟨none, (some 29), (.bin .rem (.t 28) (.c (.cv (.sc (.int .u8 9)))))⟩])
  (.block 0
  (.seq f23_1
  (.cond (.t 30)
  (.seq (.reg [
  ⟨none, (some 35), (.ld true 6 (.t 4))⟩,
  ⟨none, (some 36), (.mv (.t 8))⟩,
  ⟨none, (some 37), (.fad 2 (.t 5))⟩,
  ⟨none, (some 38), (.ld false 1 (.t 37))⟩,
  ⟨none, (some 39), (.call 32 true [(.t 35), (.t 36), (.t 38)])⟩,
  ⟨none, (some 34), (.mv (.t 39))⟩,
  ⟨none, (some 40), (.ext (.t 34) 0)⟩,
  ⟨none, (some 41), (.ext (.t 34) 1)⟩,
  ⟨none, (some 9), (.alloc [(.cv (.sc (.slice none 0 0))), (.cv (.sc (.slice none 0 0))), (.cv (.sc (.int .i64 0))), (.cv (.sc (.int .i64 0))), (.cv (.sc (.bool false))), (.cv (.sc (.int .i64 0)))])⟩,
  ⟨none, none, (.st 6 (.t 9) (.t 40))⟩,
  ⟨none, (some 10), (.mv (.t 41))⟩])

  (.seq (.draw [(
  ⟨none, (some 42), (.ld true 6 (.t 9))⟩, (.r 0 1)), (
  ⟨none, (some 43), (.mv (.t 0))⟩, .p), (
  ⟨none, (some 44), (.mv (.t 8))⟩, .p), (
  ⟨none, (some 45), (.fad 2 (.t 5))⟩, .p), (
  ⟨none, (some 46), (.ld false 1 (.t 45))⟩, (.r 0 0)), (
  ⟨none, (some 47), (.call 12 false [(.t 43), (.t 44), (.t 46)])⟩, .k), (
  ⟨none, (some 48), (.cvI .i64 (.t 47))⟩, .p), (
  ⟨none, (some 49), (.mv (.t 10))⟩, .p), (
  ⟨none, (some 50), (.bin .eql (.t 48) (.t 49))⟩, .p), (
  ⟨none, none, (.st 6 (.t 6) (.t 42))⟩, .k), (
  ⟨none, (some 7), (.mv (.t 50))⟩, .p)])
  .ret))
  (.seq f23_2
  (.cond (.t 51)
  (.seq (.reg [
  ⟨none, (some 54), (.mv (.t 0))⟩,
  ⟨none, (some 55), (.call 13 false [(.t 54)])⟩])

  (.seq (.reg [
  ⟨none, (some 56), (.ld true 6 (.t 4))⟩,
  ⟨none, (some 57), (.call 33 true [(.t 56)])⟩,
  ⟨none, none, (.st 6 (.t 6) (.t 57))⟩,
  ⟨none, (some 7), (.mv (.c (.cv (.sc (.bool true)))))⟩])
  .ret))
  (.seq (.reg [
  ⟨none, (some 59), (.bin .eql (.t 29) (.c (.cv (.sc (.int .u8 5)))))⟩,
  ⟨none, (some 58), (.mv (.t 59))⟩])
  (.cond (.t 58)
  (.seq (.reg [
  ⟨none, (some 60), (.mv (.t 0))⟩,
  ⟨none, (some 61), (.fad 3 (.t 5))⟩,
  ⟨none, (some 62), (.ld false 1 (.t 61))⟩,
  ⟨none, (some 63), (.call 14 false [(.t 60), (.t 62)])⟩])

  (.seq (.reg [
  ⟨none, (some 64), (.ld true 6 (.t 4))⟩,
  ⟨none, (some 65), (.fad 3 (.t 5))⟩,
  ⟨none, (some 66), (.ld false 1 (.t 65))⟩,
  ⟨none, (some 67), (.call 34 true [(.t 64), (.t 66)])⟩,
  ⟨none, none, (.st 6 (.t 6) (.t 67))⟩,
  ⟨none, (some 7), (.mv (.c (.cv (.sc (.bool true)))))⟩])
  .ret))
  (.seq (.reg [
  ⟨none, (some 69), (.bin .eql (.t 29) (.c (.cv (.sc (.int .u8 6)))))⟩,
  ⟨none, (some 68), (.mv (.t 69))⟩])
  (.cond (.t 68)
  (.seq (.reg [
  ⟨none, (some 70), (.mv (.t 0))⟩,
  ⟨none, (some 71), (.fad 4 (.t 5))⟩,
  ⟨none, (some 72), (.ld false 1 (.t 71))⟩,
  ⟨none, (some 73), (.bin .rem (.t 72) (.c (.cv (.sc (.int .u8 12)))))⟩,
  ⟨none, (some 74), (.cvI .i64 (.t 73))⟩,
  ⟨none, (some 75), (.bin .sub (.t 74) (.c (.cv (.sc (.int .i64 2)))))⟩,
  ⟨none, (some 76), (.call 19 false [(.t 70), (.t 75)])⟩])

  (.seq (.reg [
  ⟨none, (some 77), (.ld true 6 (.t 4))⟩,
  ⟨none, (some 78), (.fad 4 (.t 5))⟩,
  ⟨none, (some 79), (.ld false 1 (.t 78))⟩,
  ⟨none, (some 80), (.bin .rem (.t 79) (.c (.cv (.sc (.int .u8 12)))))⟩,
  ⟨none, (some 81), (.cvI .i64 (.t 80))⟩,
  ⟨none, (some 82), (.bin .sub (.t 81) (.c (.cv (.sc (.int .i64 2)))))⟩,
  ⟨none, (some 83), (.call 35 true [(.t 77), (.t 82)])⟩,
  ⟨none, none, (.st 6 (.t 6) (.t 83))⟩,
  ⟨none, (some 7), (.mv (.c (.cv (.sc (.bool true)))))⟩])
  .ret))
  (.seq (.reg [
  ⟨none, (some 85), (.bin .eql (.t 29) (.c (.cv (.sc (.int .u8 7)))))⟩,
  ⟨none, (some 84), (.mv (.t 85))⟩])
  (.cond (.t 84)
  (.seq (.reg [
  ⟨none, (some 87), (.ld true 6 (.t 4))⟩,
  ⟨none, (some 88), (.mv (.t 8))⟩,
  ⟨none, (some 89), (.fad 4 (.t 5))⟩,
  ⟨none, (some 90), (.ld false 1 (.t 89))⟩,
  ⟨none, (some 91), (.bin .rem (.t 90) (.c (.cv (.sc (.int .u8 70)))))⟩,
  ⟨none, (some 92), (.cvI .i64 (.t 91))⟩,
  ⟨none, (some 93), (.bin .sub (.t 92) (.c (.cv (.sc (.int .i64 3)))))⟩,
  ⟨none, (some 94), (.fad 4 (.t 5))⟩,
  ⟨none, (some 95), (.ld false 1 (.t 94))⟩,
  ⟨none, (some 96), (.call 36 true [(.t 87), (.t 88), (.t 93), (.t 95)])⟩,
  ⟨none, (some 86), (.mv (.t 96))⟩,
  ⟨none, (some 97), (.ext (.t 86) 0)⟩,
  ⟨none, (some 98), (.ext (.t 86) 1)⟩,
  ⟨none, (some 11), (.alloc [(.cv (.sc (.slice none 0 0))), (.cv (.sc (.slice none 0 0))), (.cv (.sc (.int .i64 0))), (.cv (.sc (.int .i64 0))), (.cv (.sc (.bool false))), (.cv (.sc (.int .i64 0)))])⟩,
  ⟨none, none, (.st 6 (.t 11) (.t 97))⟩,
  ⟨none, (some 12), (.mv (.t 98))⟩])

  (.seq (.draw [(
  ⟨none, (some 99), (.ld true 6 (.t 11))⟩, (.r 0 1)), (
  ⟨none, (some 100), (.mv (.t 0))⟩, .p), (
  ⟨none, (some 101), (.mv (.t 8))⟩, .p), (
  ⟨none, (some 102), (.fad 4 (.t 5))⟩, .p), (
  ⟨none, (some 103), (.ld false 1 (.t 102))⟩, (.r 0 0)), (
  ⟨none, (some 104), (.bin .rem (.t 103) (.c (.cv (.sc (.int .u8 70)))))⟩, .p), (
  ⟨none, (some 105), (.cvI .i64 (.t 104))⟩, .p), (
  ⟨none, (some 106), (.bin .sub (.t 105) (.c (.cv (.sc (.int .i64 3)))))⟩, .p), (
  ⟨none, (some 107), (.fad 4 (.t 5))⟩, .p), (
  ⟨none, (some 108), (.ld false 1 (.t 107))⟩, (.r 0 0)), (
  ⟨none, (some 109), (.call 20 false [(.t 100), (.t 101), (.t 106), (.t 108)])⟩, .k), (
  ⟨none, (some 110), (.mv (.t 12))⟩, .p), (
  ⟨none, (some 111), (.eqb false (.t 109) (.t 110))⟩, .p), (
  ⟨none, none, (.st 6 (.t 6) (.t 99))⟩, .k), (
  ⟨none, (some 7), (.mv (.t 111))⟩, .p)])
  .ret)) .skip))))))))))))

  (.seq (.reg [
  ⟨none, (some 113), (.mv (.t 0))⟩,
  ⟨none, (some 114), (.fad 1 (.t 5))⟩,
  ⟨none, (some 115), (.ld false 1 (.t 114))⟩,
  ⟨none, (some 116), (.call 15 false [(.t 113), (.t 115)])⟩,
  ⟨none, (some 112), (.mv (.t 116))⟩,
  ⟨none, (some 117), (.ext (.t 112) 0)⟩,
  ⟨none, (some 118), (.ext (.t 112) 1)⟩,
  ⟨none, (some 13), (.mv (.t 117))⟩,
  ⟨none, (some 14), (.mv (.t 118))⟩])

  (.seq (.reg [
  ⟨none, (some 120), (.ld true 6 (.t 4))⟩,
  ⟨none, (some 121), (.fad 1 (.t 5))⟩,
  ⟨none, (some 122), (.ld false 1 (.t 121))⟩,
  ⟨none, (some 123), (.call 37 true [(.t 120), (.t 122)])⟩,
  ⟨none, (some 119), (.mv (.t 123))⟩,
  ⟨none, (some 124), (.ext (.t 119) 0)⟩,
  ⟨none, (some 125), (.ext (.t 119) 1)⟩,
  ⟨none, (some 15), (.mv (.t 124))⟩,
  ⟨none, (some 16), (.mv (.t 125))⟩])

  (.seq (.reg [
  ⟨none, (some 126), (.ld true 6 (.t 4))⟩,
  ⟨none, (some 127), (.mv (.t 13))⟩,
  ⟨none, (some 128), (.cvBS (.t 127))⟩,
  ⟨none, (some 129), (.mv (.t 15))⟩,
  ⟨none, (some 130), (.cvBS (.t 129))⟩,
  ⟨none, (some 131), (.bin .eql (.t 128) (.t 130))⟩,
  ⟨none, (some 132), (.mv (.t 131))⟩,
  ⟨(some (132, true)), (some 133), (.mv (.t 14))⟩,
  ⟨(some (132, true)), (some 134), (.cvI .i64 (.t 133))⟩,
  ⟨(some (132, true)), (some 135), (.mv (.t 16))⟩,
  ⟨(some (132, true)), (some 136), (.bin .eql (.t 134) (.t 135))⟩,
  ⟨none, (some 137), (.pick (.t 132) (.t 136) (.c (.cv (.sc (.bool false)))))⟩,
  ⟨none, none, (.st 6 (.t 6) (.t 126))⟩,
  ⟨none, (some 7), (.mv (.t 137))⟩])
  .ret)))))))⟩
theorem f23_ok : compF Proofs.Try.prog [11, 12, 13, 14, 15, 17, 18, 19, 20, 21, 23, 24, 25, 26, 27, 28, 31, 39, 40] [] Proofs.Try.f23 = some f23 := by kernel_rfl

def f24_0 : IR :=

  (.seq (.draw [(
  ⟨none, (some 17), (.mv (.t 0))⟩, .p), (
  ⟨none, (some 18), (.call 17 false [(.t 17)])⟩, .k), (
  ⟨none, (some 19), (.fad 0 (.t 3))⟩, .p), (
  ⟨none, (some 20), (.ld false 1 (.t 19))⟩, (.r 0 1)), (
  ⟨none, (some 21), (.len false (.t 20))⟩, .p), (
  ⟨none, (some 22), (.bin .neq (.t 18) (.t 21))⟩, .p), (
  ⟨none, (some 23), (.mv (.t 22))⟩, .p), (
  ⟨(some (23, false)), (some 24), (.mv (.t 5))⟩, .p), (
  ⟨(some (23, false)), (some 25), (.len false (.t 24))⟩, .p), (
  ⟨(some (23, false)), (some 26), (.mv (.t 6))⟩, .p), (
  ⟨(some (23, false)), (some 27), (.len false (.t 26))⟩, .p), (
  ⟨(some (23, false)), (some 28), (.bin .neq (.t 25) (.t 27))⟩, .p), (
  ⟨none, (some 29), (.pick (.t 23) (.c (.cv (.sc (.bool true)))) (.t 28))⟩, .p), (
  ⟨none, (some 30), (.mv (.t 29))⟩, .p), (
  ⟨(some (30, false)), (some 31), (.mv (.t 0))⟩, .p), (
  ⟨(some (30, false)), (some 32), (.call 21 false [(.t 31)])⟩, .k), (
  ⟨(some (30, false)), (some 33), (.fad 2 (.t 3))⟩, .p), (
  ⟨(some (30, false)), (some 34), (.ld false 1 (.t 33))⟩, (.r 1 2)), (
  ⟨(some (30, false)), (some 35), (.cvF .f64 (.t 34))⟩, .p), (
  ⟨(some (30, false)), (some 36), (.fad 3 (.t 3))⟩, .p), (
  ⟨(some (30, false)), (some 37), (.ld false 1 (.t 36))⟩, (.r 1 2)), (
  ⟨(some (30, false)), (some 38), (.cvF .f64 (.t 37))⟩, .p), (
  ⟨(some (30, false)), (some 39), (.cplx (.t 35) (.t 38))⟩, .p), (
  ⟨(some (30, false)), (some 40), (.bin .neq (.t 32) (.t 39))⟩, .p), (
  ⟨none, (some 41), (.pick (.t 30) (.c (.cv (.sc (.bool true)))) (.t 40))⟩, .p)])
  (.cond (.t 41)
  (.seq (.reg [
  ⟨none, (some 4), (.mv (.c (.cv (.sc (.bool false)))))⟩])
  .ret) .skip))
def f24_1 : IR :=

  (.seq
  (.seq (.reg [
  ⟨none, (some 42), (.mv (.t 7))⟩,
  ⟨none, (some 43), (.mv (.t 5))⟩,
  ⟨none, (some 44), (.len false (.t 43))⟩,
  ⟨none, (some 45), (.bin .lss (.t 42) (.t 44))⟩])
  (.cond (.t 45) .skip (.exit 0)))

  (.seq (.block 1
  (.seq (.draw [(
  ⟨none, (some 48), (.mv (.t 5))⟩, .p), (
  ⟨none, (some 49), (.mv (.t 7))⟩, .p), (
  ⟨none, (some 50), (.iadL 1 (.t 48) (.t 49))⟩, (.r 0 0)), (
  ⟨none, (some 51), (.ld false 1 (.t 50))⟩, (.r 0 0)), (
  ⟨none, (some 52), (.mv (.t 6))⟩, .p), (
  ⟨none, (some 53), (.mv (.t 7))⟩, .p), (
  ⟨none, (some 54), (.iadL 1 (.t 52) (.t 53))⟩, (.r 0 0)), (
  ⟨none, (some 55), (.ld false 1 (.t 54))⟩, (.r 0 0)), (
  ⟨none, (some 56), (.bin .neq (.t 51) (.t 55))⟩, .p)])
  (.cond (.t 56)
  (.seq (.reg [
  ⟨none, (some 4), (.mv (.c (.cv (.sc (.bool false)))))⟩])
  .ret) .skip)))
  (.reg [
  ⟨none, (some 46), (.mv (.t 7))⟩,
  ⟨none, (some 47), (.bin .add (.t 46) (.c (.cv (.sc (.int .i64 1)))))⟩,
  ⟨none, (some 7), (.mv (.t 47))⟩])))
def f24_2 : IR :=

  (.seq
  (.seq (.reg [
  ⟨none, (some 57), (.mv (.t 8))⟩,
  ⟨none, (some 58), (.fad 0 (.t 3))⟩,
  ⟨none, (some 59), (.ld false 1 (.t 58))⟩,
  ⟨none, (some 60), (.len false (.t 59))⟩,
  ⟨none, (some 61), (.bin .lss (.t 57) (.t 60))⟩])
  (.cond (.t 61) .skip (.exit 2)))

  (.seq (.block 3
  (.seq (.reg [
  ⟨none, (some 65), (.mv (.t 0))⟩,
  ⟨none, (some 66), (.mv (.t 8))⟩,
  ⟨none, (some 67), (.call 15 false [(.t 65), (.t 66)])⟩,
  ⟨none, (some 64), (.mv (.t 67))⟩,
  ⟨none, (some 68), (.ext (.t 64) 0)⟩,
  ⟨none, (some 69), (.ext (.t 64) 1)⟩,
  ⟨none, (some 9), (.mv (.t 68))⟩,
  ⟨none, (some 10), (.mv (.t 69))⟩])

  (.seq (.reg [
  ⟨none, (some 71), (.ld true 6 (.t 3))⟩,
  ⟨none, (some 72), (.mv (.t 8))⟩,
  ⟨none, (some 73), (.call 37 true [(.t 71), (.t 72)])⟩,
  ⟨none, (some 70), (.mv (.t 73))⟩,
  ⟨none, (some 74), (.ext (.t 70) 0)⟩,
  ⟨none, (some 75), (.ext (.t 70) 1)⟩,
  ⟨none, (some 11), (.mv (.t 74))⟩,
  ⟨none, (some 12), (.mv (.t 75))⟩])

  (.seq (.reg [
  ⟨none, (some 76), (.mv (.t 9))⟩,
  ⟨none, (some 77), (.cvBS (.t 76))⟩,
  ⟨none, (some 78), (.mv (.t 11))⟩,
  ⟨none, (some 79), (.cvBS (.t 78))⟩,
  ⟨none, (some 80), (.bin .neq (.t 77) (.t 79))⟩])
  (.cond (.t 80)
  (.seq (.reg [
  ⟨none, (some 4), (.mv (.c (.cv (.sc (.bool false)))))⟩])
  .ret) .skip)))))
  (.reg [
  ⟨none, (some 62), (.mv (.t 8))⟩,
  ⟨none, (some 63), (.bin .add (.t 62) (.c (.cv (.sc (.int .i64 1)))))⟩,
  ⟨none, (some 8), (.mv (.t 63))⟩])))
def f24 : FnIR := ⟨81, [(.t 4)],

  (.seq (.reg [
  ⟨none, (some 3), (.box 6 (.t 1))⟩,
  ⟨none, (some 4), (.mv (.c (.cv (.sc (.bool false)))))⟩])

  (.seq (.reg [
  ⟨none, (some 13), (.mv (.t 0))⟩,
  ⟨none, (some 14), (.call 18 false [(.t 13)])⟩,
  ⟨none, (some 5), (.mv (.t 14))⟩])

  (.seq (.reg [
  ⟨none, (some 15), (.ld true 6 (.t 3))⟩,
  ⟨none, (some 16), (.call 38 true [(.t 15)])⟩,
  ⟨none, (some 6), (.mv (.t 16))⟩])

  (.seq f24_0

  (.seq
  (.seq (.reg [
  ⟨none, (some 7), (.mv (.c (.cv (.sc (.int .i64 0)))))⟩])
  (.block 0 (.loop f24_1)))

  (.seq
  (.seq (.reg [
  ⟨none, (some 8), (.mv (.c (.cv (.sc (.int .i64 0)))))⟩])
  (.block 2 (.loop f24_2)))

  (.seq (.reg [
  ⟨none, (some 4), (.mv (.c (.cv (.sc (.bool true)))))⟩])
  .ret)))))))⟩
theorem f24_ok : compF Proofs.Try.prog [11, 12, 13, 14, 15, 17, 18, 19, 20, 21, 23, 24, 25, 26, 27, 28, 31, 39, 40] [] Proofs.Try.f24 = some f24 := by kernel_rfl

def f25_0 : IR :=

  (.seq (.reg [
  ⟨none, (some 4), (.mv (.t 0))⟩,
  ⟨none, (some 5), (.eqn .ptr false (.t 4))⟩])
  (.cond (.t 5)
  (.seq (.reg [
  ⟨none, (some 2), (.mv (.c (.cv (.sc (.pointer none)))))⟩])
  .ret) .skip))
def f25 : FnIR := ⟨21, [(.t 2)],

  (.seq (.reg [
  ⟨none, (some 2), (.mv (.c (.cv (.sc (.pointer none)))))⟩])

  (.seq f25_0

  (.seq (.reg [
  ⟨none, (some 6), (.mv (.t 0))⟩,
  ⟨none, (some 7), (.nilck (.t 6))⟩,
  ⟨none, (some 8), (.ld true 5 (.t 7))⟩,
  ⟨none, (some 3), (.alloc [(.cv (.sc (.slice none 0 0))), (.cv (.sc (.slice none 0 0))), (.cv (.sc (.complex .f64 0 0))), (.cv (.sc (.bool false))), (.cv (.sc (.int .i64 0)))])⟩,
  ⟨none, none, (.st 5 (.t 3) (.t 8))⟩])

  (.seq (.draw [(
  ⟨none, (some 9), (.mv (.t 0))⟩, .p), (
  ⟨none, (some 10), (.nilck (.t 9))⟩, .p), (
  ⟨none, (some 11), (.fad 0 (.t 10))⟩, .p), (
  ⟨none, (some 12), (.ld false 1 (.t 11))⟩, (.r 0 0)), (
  ⟨none, (some 13), (.call 39 false [(.t 12)])⟩, .k), (
  ⟨none, (some 14), (.mv (.t 0))⟩, .p), (
  ⟨none, (some 15), (.nilck (.t 14))⟩, .p), (
  ⟨none, (some 16), (.fad 1 (.t 15))⟩, .p), (
  ⟨none, (some 17), (.ld false 1 (.t 16))⟩, (.r 0 1)), (
  ⟨none, (some 18), (.call 40 false [(.t 17)])⟩, .k), (
  ⟨none, (some 19), (.fad 0 (.t 3))⟩, .p), (
  ⟨none, none, (.st 1 (.t 19) (.t 13))⟩, .k), (
  ⟨none, (some 20), (.fad 1 (.t 3))⟩, .p), (
  ⟨none, none, (.st 1 (.t 20) (.t 18))⟩, .k)])

  (.seq (.reg [
  ⟨none, (some 2), (.mv (.t 3))⟩])
  .ret)))))⟩
theorem f25_ok : compF Proofs.Try.prog [11, 12, 13, 14, 15, 17, 18, 19, 20, 21, 23, 24, 25, 26, 27, 28, 31, 39, 40] [] Proofs.Try.f25 = some f25 := by kernel_rfl

def f26 : FnIR := ⟨13, [(.t 4)],

  (.seq (.reg [
  ⟨none, (some 4), (.mv (.c (.cv (.sc (.bool false)))))⟩])

  (.seq (.reg [
  ⟨none, (some 5), (.mv (.t 1))⟩,
  ⟨none, (some 6), (.bin .geq (.t 5) (.c (.cv (.sc (.int .i64 0)))))⟩,
  ⟨none, (some 7), (.mv (.t 6))⟩,
  ⟨(some (7, true)), (some 8), (.mv (.t 1))⟩,
  ⟨(some (7, true)), (some 9), (.mv (.t 0))⟩,
  ⟨(some (7, true)), (some 10), (.call 17 false [(.t 9)])⟩,
  ⟨(some (7, true)), (some 11), (.bin .lss (.t 8) (.t 10))⟩,
  ⟨none, (some 12), (.pick (.t 7) (.t 11) (.c (.cv (.sc (.bool false)))))⟩,
  ⟨none, (some 4), (.mv (.t 12))⟩])
  .ret))⟩
theorem f26_ok : compF Proofs.Try.prog [11, 12, 13, 14, 15, 17, 18, 19, 20, 21, 23, 24, 25, 26, 27, 28, 31, 39, 40] [] Proofs.Try.f26 = some f26 := by kernel_rfl

def f27_0 : IR :=

  (.seq (.reg [
  ⟨none, (some 3), (.mv (.t 0))⟩,
  ⟨none, (some 4), (.call 31 false [(.t 3)])⟩])
  (.cond (.t 4)
  (.seq (.reg [
  ⟨none, (some 2), (.mv (.c (.cv (.sc (.bool false)))))⟩])
  .ret) .skip))
def f27 : FnIR := ⟨12, [(.t 2)],

  (.seq (.reg [
  ⟨none, (some 2), (.mv (.c (.cv (.sc (.bool false)))))⟩])

  (.seq f27_0

  (.seq (.reg [
  ⟨none, (some 5), (.mv (.t 0))⟩,
  ⟨none, (some 6), (.nilck (.t 5))⟩,
  ⟨none, (some 7), (.fad 4 (.t 6))⟩,
  ⟨none, (some 8), (.ld false 1 (.t 7))⟩,
  ⟨none, (some 9), (.bin .sub (.t 8) (.c (.cv (.sc (.int .i64 1)))))⟩,
  ⟨none, (some 10), (.nilck (.t 5))⟩,
  ⟨none, (some 11), (.fad 4 (.t 10))⟩,
  ⟨none, none, (.st 1 (.t 11) (.t 9))⟩])

  (.seq (.reg [
  ⟨none, (some 2), (.mv (.c (.cv (.sc (.bool true)))))⟩])
  .ret))))⟩
theorem f27_ok : compF Proofs.Try.prog [11, 12, 13, 14, 15, 17, 18, 19, 20, 21, 23, 24, 25, 26, 27, 28, 31, 39, 40] [] Proofs.Try.f27 = some f27 := by kernel_rfl

def f28_0 : IR :=
  (.cond (.t 12) .skip (.exit 0))
def f28_1 : IR :=

  (.seq (.reg [
  ⟨none, (some 12), (.bin .lss (.t 11) (.t 10))⟩])

  (.seq f28_0

  (.seq (.block 1
  (.seq (.reg [
  ⟨none, (some 13), (.mv (.t 11))⟩,
  ⟨none, (some 14), (.iadL 65 (.t 9) (.t 11))⟩,
  ⟨none, (some 15), (.ld true 65 (.t 14))⟩,
  ⟨none, (some 5), (.alloc ((.cv (.sc (.int .i64 0))) :: List.replicate 64 (.cv (.sc (.int .u8 0)))))⟩,
  ⟨none, (some 4), (.mv (.t 13))⟩,
  ⟨none, none, (.st 65 (.t 5) (.t 15))⟩])

  (.seq (.reg [
  ⟨none, (some 16), (.mv (.t 1))⟩,
  ⟨none, (some 17), (.mv (.t 4))⟩,
  ⟨none, (some 18), (.callv false (.t 16) [(.t 17)])⟩])
  (.cond (.t 18) (.draw [(
  ⟨none, (some 19), (.mv (.t 0))⟩, .p), (
  ⟨none, (some 20), (.nilck (.t 19))⟩, .p), (
  ⟨none, (some 21), (.fad 0 (.t 20))⟩, .p), (
  ⟨none, (some 22), (.ld false 1 (.t 21))⟩, (.r 0 0)), (
  ⟨none, (some 23), (.fad 0 (.t 5))⟩, .p), (
  ⟨none, (some 24), (.ld false 1 (.t 23))⟩, (.r 0 0)), (
  ⟨none, (some 25), (.fad 1 (.t 5))⟩, .p), (
  ⟨none, (some 26), (.ld true 64 (.t 25))⟩, (.r 0 0)), (
  ⟨none, (some 27), (.iadL 64 (.t 22) (.t 24))⟩, (.r 0 0)), (
  ⟨none, none, (.st 64 (.t 27) (.t 26))⟩, .k)]) .skip))))
  (.reg [
  ⟨none, (some 28), (.bin .add (.t 11) (.c (.cv (.sc (.int .i64 1)))))⟩,
  ⟨none, (some 11), (.mv (.t 28))⟩]))))
def f28 : FnIR := ⟨32, [],

  (.seq
  (.seq (.reg [
  ⟨none, (some 6), (.mv (.t 0))⟩,
  ⟨none, (some 7), (.nilck (.t 6))⟩,
  ⟨none, (some 8), (.fad 1 (.t 7))⟩,
  ⟨none, (some 9), (.ld false 1 (.t 8))⟩,
  ⟨none, (some 10), (.len false (.t 9))⟩,
  ⟨none, (some 11), (.mv (.c (.cv (.sc (.int .i64 0)))))⟩])
  (.block 0 (.loop f28_1)))
  (.reg [
  ⟨none, (some 29), (.mv (.t 0))⟩,
  ⟨none, (some 30), (.nilck (.t 29))⟩,
  ⟨none, (some 31), (.fad 1 (.t 30))⟩,
  ⟨none, none, (.st 1 (.t 31) (.c (.cv (.sc (.slice none 0 0)))))⟩]))⟩
theorem f28_ok : compF Proofs.Try.prog [11, 12, 13, 14, 15, 17, 18, 19, 20, 21, 23, 24, 25, 26, 27, 28, 31, 39, 40] [(3, 2)] Proofs.Try.f28 = some f28 := by kernel_rfl

def f29 : FnIR := ⟨3, [(.t 2)],

  (.seq (.reg [
  ⟨none, (some 2), (.mv (.c (.cv (.sc (.bool false)))))⟩])

  (.seq (.reg [
  ⟨none, (some 2), (.mv (.c (.cv (.sc (.bool true)))))⟩])
  .ret))⟩
theorem f29_ok : compF Proofs.Try.prog [11, 12, 13, 14, 15, 17, 18, 19, 20, 21, 23, 24, 25, 26, 27, 28, 31, 39, 40] [] Proofs.Try.f29 = some f29 := by kernel_rfl

def f30 : FnIR := ⟨14, [(.t 3)],

  (.seq (.reg [
  ⟨none, (some 3), (.mv (.c (.cv (.sc (.bool false)))))⟩])

  (.seq (.reg [
  ⟨none, (some 4), (.mv (.t 0))⟩,
  ⟨none, (some 5), (.ld false 1 (.t 1))⟩,
  ⟨none, (some 6), (.len false (.t 5))⟩,
  ⟨none, (some 7), (.bin .lss (.t 4) (.t 6))⟩,
  ⟨none, (some 8), (.mv (.t 7))⟩,
  ⟨(some (8, true)), (some 9), (.ld false 1 (.t 1))⟩,
  ⟨(some (8, true)), (some 10), (.mv (.t 0))⟩,
  ⟨(some (8, true)), (some 11), (.iadL 1 (.t 9) (.t 10))⟩,
  ⟨(some (8, true)), (some 12), (.ld false 1 (.t 11))⟩,
  ⟨none, (some 13), (.pick (.t 8) (.t 12) (.c (.cv (.sc (.bool false)))))⟩,
  ⟨none, (some 3), (.mv (.t 13))⟩])
  .ret))⟩
theorem f30_ok : compF Proofs.Try.prog [11, 12, 13, 14, 15, 17, 18, 19, 20, 21, 23, 24, 25, 26, 27, 28, 31, 39, 40] [] Proofs.Try.f30 = some f30 := by kernel_rfl

def f31 : FnIR := ⟨14, [(.t 2)],

  (.seq (.reg [
  ⟨none, (some 2), (.mv (.c (.cv (.sc (.bool false)))))⟩])

  (.seq (.reg [
  ⟨none, (some 3), (.mv (.t 0))⟩,
  ⟨none, (some 4), (.nilck (.t 3))⟩,
  ⟨none, (some 5), (.fad 3 (.t 4))⟩,
  ⟨none, (some 6), (.ld false 1 (.t 5))⟩,
  ⟨none, (some 7), (.mv (.t 6))⟩,
  ⟨(some (7, true)), (some 8), (.mv (.t 0))⟩,
  ⟨(some (7, true)), (some 9), (.nilck (.t 8))⟩,
  ⟨(some (7, true)), (some 10), (.fad 4 (.t 9))⟩,
  ⟨(some (7, true)), (some 11), (.ld false 1 (.t 10))⟩,
  ⟨(some (7, true)), (some 12), (.bin .eql (.t 11) (.c (.cv (.sc (.int .i64 0)))))⟩,
  ⟨none, (some 13), (.pick (.t 7) (.t 12) (.c (.cv (.sc (.bool false)))))⟩,
  ⟨none, (some 2), (.mv (.t 13))⟩])
  .ret))⟩
theorem f31_ok : compF Proofs.Try.prog [11, 12, 13, 14, 15, 17, 18, 19, 20, 21, 23, 24, 25, 26, 27, 28, 31, 39, 40] [] Proofs.Try.f31 = some f31 := by kernel_rfl

def f32_0 : IR :=

  (.seq (.reg [
  ⟨none, (some 13), (.mv (.t 1))⟩,
  ⟨none, (some 14), (.bin .lss (.t 13) (.c (.cv (.sc (.int .i64 0)))))⟩,
  ⟨none, (some 15), (.mv (.t 14))⟩,
  ⟨(some (15, false)), (some 16), (.mv (.t 1))⟩,
  ⟨(some (15, false)), (some 17), (.fad 0 (.t 3))⟩,
  ⟨(some (15, false)), (some 18), (.ld false 1 (.t 17))⟩,
  ⟨(some (15, false)), (some 19), (.len false (.t 18))⟩,
  ⟨(some (15, false)), (some 20), (.bin .geq (.t 16) (.t 19))⟩,
  ⟨none, (some 21), (.pick (.t 15) (.c (.cv (.sc (.bool true)))) (.t 20))⟩])
  (.cond (.t 21)
  (.seq (.reg [
  ⟨none, (some 22), (.ld true 6 (.t 3))⟩,
  ⟨none, none, (.st 6 (.t 6) (.t 22))⟩,
  ⟨none, (some 7), (.mv (.c (.cv (.sc (.int .i64 20)))))⟩])
  .ret) .skip))
def f32_1 : IR :=

  (.seq (.reg [
  ⟨none, (some 23), (.mv (.t 2))⟩,
  ⟨none, (some 24), (.len false (.t 23))⟩,
  ⟨none, (some 25), (.bin .gtr (.t 24) (.c (.cv (.sc (.int .i64 64)))))⟩])
  (.cond (.t 25)
  (.seq (.reg [
  ⟨none, (some 26), (.ld true 6 (.t 3))⟩,
  ⟨none, none, (.st 6 (.t 6) (.t 26))⟩,
  ⟨none, (some 7), (.mv (.c (.cv (.sc (.int .i64 3)))))⟩])
  .ret) .skip))
def f32_2 : IR :=

  (.seq (.reg [
  ⟨none, (some 32), (.mv (.t 9))⟩,
  ⟨none, (some 33), (.un .not (.t 32))⟩])
  (.cond (.t 33)
  (.seq (.reg [
  ⟨none, (some 34), (.ld true 6 (.t 8))⟩,
  ⟨none, none, (.st 6 (.t 6) (.t 34))⟩,
  ⟨none, (some 7), (.mv (.c (.cv (.sc (.int .i64 0)))))⟩])
  .ret) .skip))
def f32_3 : IR :=

  (.seq
  (.seq (.reg [
  ⟨none, (some 36), (.mv (.t 11))⟩,
  ⟨none, (some 37), (.mv (.t 2))⟩,
  ⟨none, (some 38), (.len false (.t 37))⟩,
  ⟨none, (some 39), (.bin .lss (.t 36) (.t 38))⟩])
  (.cond (.t 39) .skip (.exit 0)))

  (.seq (.block 1 (.reg [
  ⟨none, (some 42), (.mv (.t 10))⟩,
  ⟨none, (some 43), (.mv (.t 11))⟩,
  ⟨none, (some 44), (.mv (.t 2))⟩,
  ⟨none, (some 45), (.mv (.t 11))⟩,
  ⟨none, (some 46), (.iadL 1 (.t 44) (.t 45))⟩,
  ⟨none, (some 47), (.ld false 1 (.t 46))⟩,
  ⟨none, (some 48), (.iadL 1 (.t 42) (.t 43))⟩,
  ⟨none, none, (.st 1 (.t 48) (.t 47))⟩]))
  (.reg [
  ⟨none, (some 40), (.mv (.t 11))⟩,
  ⟨none, (some 41), (.bin .add (.t 40) (.c (.cv (.sc (.int .i64 1)))))⟩,
  ⟨none, (some 11), (.mv (.t 41))⟩])))
def f32 : FnIR := ⟨66, [(.cell 6 true 6), (.t 7)],

  (.seq (.reg [
  ⟨none, (some 3), (.box 6 (.t 0))⟩,
  ⟨none, (some 6), (.alloc [(.cv (.sc (.slice none 0 0))), (.cv (.sc (.slice none 0 0))), (.cv (.sc (.int .i64 0))), (.cv (.sc (.int .i64 0))), (.cv (.sc (.bool false))), (.cv (.sc (.int .i64 0)))])⟩,
  ⟨none, (some 7), (.mv (.c (.cv (.sc (.int .i64 0)))))⟩])

  (.seq f32_0

  (.seq f32_1

  (.seq (.reg [
  ⟨none, (some 28), (.ld true 6 (.t 3))⟩,
  ⟨none, (some 29), (.call 41 true [(.t 28)])⟩,
  ⟨none, (some 27), (.mv (.t 29))⟩,
  ⟨none, (some 30), (.ext (.t 27) 0)⟩,
  ⟨none, (some 31), (.ext (.t 27) 1)⟩,
  ⟨none, (some 8), (.alloc [(.cv (.sc (.slice none 0 0))), (.cv (.sc (.slice none 0 0))), (.cv (.sc (.int .i64 0))), (.cv (.sc (.int .i64 0))), (.cv (.sc (.bool false))), (.cv (.sc (.int .i64 0)))])⟩,
  ⟨none, none, (.st 6 (.t 8) (.t 30))⟩,
  ⟨none, (some 9), (.mv (.t 31))⟩])

  (.seq f32_2

  (.seq (.reg [
  ⟨none, (some 35), (.mks 1 1 [(.sc (.int .u8 0))] (.c (.cv (.sc (.int .i64 64)))) (.c (.cv (.sc (.int .i64 64)))) true)⟩,
  ⟨none, (some 10), (.mv (.t 35))⟩])

  (.seq
  (.seq (.reg [
  ⟨none, (some 11), (.mv (.c (.cv (.sc (.int .i64 0)))))⟩])
  (.block 0 (.loop f32_3)))

  (.seq (.reg [
  ⟨none, (some 12), (.mv (.c (.cv (.sc (.slice none 0 0)))))⟩])

  (.seq (.reg [
  ⟨none, (some 49), (.mv (.t 12))⟩,
  ⟨none, (some 50), (.fad 1 (.t 8))⟩,
  ⟨none, (some 51), (.ld false 1 (.t 50))⟩,
  ⟨none, (some 52), (.app 2 32 [(.sc (.int .i64 0)), (.sc (.slice none 0 0))] (.t 49) (.t 51))⟩,
  ⟨none, (some 12), (.mv (.t 52))⟩])

  (.seq (.reg [
  ⟨none, (some 53), (.mv (.t 12))⟩,
  ⟨none, (some 54), (.mv (.t 1))⟩,
  ⟨none, (some 55), (.mv (.t 10))⟩,
  ⟨none, (some 56), (.build [(.cv (.sc (.int .i64 0))), (.cv (.sc (.slice none 0 0)))] [(0, (1, (.t 54))), (1, (1, (.t 55)))])⟩,
  ⟨none, (some 57), (.mksl 2 1 [(.cv (.sc (.int .i64 0))), (.cv (.sc (.slice none 0 0)))] [(0, (2, (.t 56)))] false)⟩,
  ⟨none, (some 58), (.app 2 32 [(.sc (.int .i64 0)), (.sc (.slice none 0 0))] (.t 53) (.t 57))⟩,
  ⟨none, (some 12), (.mv (.t 58))⟩])

  (.seq (.reg [
  ⟨none, (some 59), (.mv (.t 12))⟩,
  ⟨none, (some 60), (.fad 1 (.t 8))⟩,
  ⟨none, none, (.st 1 (.t 60) (.t 59))⟩])

  (.seq (.reg [
  ⟨none, (some 61), (.fad 2 (.t 8))⟩,
  ⟨none, (some 62), (.ld false 1 (.t 61))⟩,
  ⟨none, (some 63), (.bin .add (.t 62) (.c (.cv (.sc (.int .i64 1)))))⟩,
  ⟨none, (some 64), (.fad 2 (.t 8))⟩,
  ⟨none, none, (.st 1 (.t 64) (.t 63))⟩])

  (.seq (.reg [
  ⟨none, (some 65), (.ld true 6 (.t 8))⟩,
  ⟨none, none, (.st 6 (.t 6) (.t 65))⟩,
  ⟨none, (some 7), (.mv (.c (.cv (.sc (.int .i64 0)))))⟩])
  .ret)))))))))))))⟩
theorem f32_ok : compF Proofs.Try.prog [11, 12, 13, 14, 15, 17, 18, 19, 20, 21, 23, 24, 25, 26, 27, 28, 31, 39, 40] [(8, 0)] Proofs.Try.f32 = some f32 := by kernel_rfl

def f33_0 : IR :=

  (.seq (.reg [
  ⟨none, (some 13), (.mv (.t 4))⟩,
  ⟨none, (some 14), (.un .not (.t 13))⟩])
  (.cond (.t 14)
  (.seq (.reg [
  ⟨none, (some 15), (.ld true 6 (.t 3))⟩,
  ⟨none, none, (.st 6 (.t 2) (.t 15))⟩])
  .ret) .skip))
def f33_1 : IR :=

  (.seq
  (.seq (.reg [
  ⟨none, (some 16), (.mv (.t 6))⟩,
  ⟨none, (some 17), (.fad 1 (.t 3))⟩,
  ⟨none, (some 18), (.ld false 1 (.t 17))⟩,
  ⟨none, (some 19), (.len false (.t 18))⟩,
  ⟨none, (some 20), (.bin .lss (.t 16) (.t 19))⟩])
  (.cond (.t 20) .skip (.exit 0)))

  (.seq (.block 1 (.reg [
  ⟨none, (some 23), (.mv (.t 5))⟩,
  ⟨none, (some 24), (.mksl 1 1 [(.cv (.sc (.bool false)))] [(0, (1, (.c (.cv (.sc (.bool true))))))] false)⟩,
  ⟨none, (some 25), (.app 1 1 [(.sc (.bool false))] (.t 23) (.t 24))⟩,
  ⟨none, (some 5), (.mv (.t 25))⟩]))
  (.reg [
  ⟨none, (some 21), (.mv (.t 6))⟩,
  ⟨none, (some 22), (.bin .add (.t 21) (.c (.cv (.sc (.int .i64 1)))))⟩,
  ⟨none, (some 6), (.mv (.t 22))⟩])))
def f33 : FnIR := ⟨40, [(.cell 2 true 6)],

  (.seq (.reg [
  ⟨none, (some 1), (.box 6 (.t 0))⟩,
  ⟨none, (some 2), (.alloc [(.cv (.sc (.slice none 0 0))), (.cv (.sc (.slice none 0 0))), (.cv (.sc (.int .i64 0))), (.cv (.sc (.int .i64 0))), (.cv (.sc (.bool false))), (.cv (.sc (.int .i64 0)))])⟩])

  (.seq (.reg [
  ⟨none, (some 9), (.ld true 6 (.t 1))⟩,
  ⟨none, (some 10), (.call 41 true [(.t 9)])⟩,
  ⟨none, (some 8), (.mv (.t 10))⟩,
  ⟨none, (some 11), (.ext (.t 8) 0)⟩,
  ⟨none, (some 12), (.ext (.t 8) 1)⟩,
  ⟨none, (some 3), (.alloc [(.cv (.sc (.slice none 0 0))), (.cv (.sc (.slice none 0 0))), (.cv (.sc (.int .i64 0))), (.cv (.sc (.int .i64 0))), (.cv (.sc (.bool false))), (.cv (.sc (.int .i64 0)))])⟩,
  ⟨none, none, (.st 6 (.t 3) (.t 11))⟩,
  ⟨none, (some 4), (.mv (.t 12))⟩])

  (.seq f33_0

  (.seq (.reg [
  ⟨none, (some 5), (.mv (.c (.cv (.sc (.slice none 0 0)))))⟩])

  (.seq
  (.seq (.reg [
  ⟨none, (some 6), (.mv (.c (.cv (.sc (.int .i64 0)))))⟩])
  (.block 0 (.loop f33_1)))

  (.seq (.reg [
  ⟨none, (some 26), (.ld true 6 (.t 3))⟩,
  ⟨none, (some 27), (.mv (.t 5))⟩,
  ⟨none, (some 28), (.call 34 true [(.t 26), (.t 27)])⟩,
  ⟨none, (some 7), (.alloc [(.cv (.sc (.slice none 0 0))), (.cv (.sc (.slice none 0 0))), (.cv (.sc (.int .i64 0))), (.cv (.sc (.int .i64 0))), (.cv (.sc (.bool false))), (.cv (.sc (.int .i64 0)))])⟩,
  ⟨none, none, (.st 6 (.t 7) (.t 28))⟩])

  (.seq (.reg [
  ⟨none, (some 29), (.fad 3 (.t 7))⟩,
  ⟨none, (some 30), (.ld false 1 (.t 29))⟩,
  ⟨none, (some 31), (.bin .add (.t 30) (.c (.cv (.sc (.int .i64 1)))))⟩,
  ⟨none, (some 32), (.fad 3 (.t 7))⟩,
  ⟨none, none, (.st 1 (.t 32) (.t 31))⟩])

  (.seq (.reg [
  ⟨none, (some 33), (.fad 4 (.t 3))⟩,
  ⟨none, (some 34), (.ld false 1 (.t 33))⟩,
  ⟨none, (some 35), (.fad 4 (.t 7))⟩,
  ⟨none, none, (.st 1 (.t 35) (.t 34))⟩])

  (.seq (.reg [
  ⟨none, (some 36), (.fad 5 (.t 3))⟩,
  ⟨none, (some 37), (.ld false 1 (.t 36))⟩,
  ⟨none, (some 38), (.fad 5 (.t 7))⟩,
  ⟨none, none, (.st 1 (.t 38) (.t 37))⟩])

  (.seq (.reg [
  ⟨none, (some 39), (.ld true 6 (.t 7))⟩,
  ⟨none, none, (.st 6 (.t 2) (.t 39))⟩])
  .ret))))))))))⟩
theorem f33_ok : compF Proofs.Try.prog [11, 12, 13, 14, 15, 17, 18, 19, 20, 21, 23, 24, 25, 26, 27, 28, 31, 39, 40] [] Proofs.Try.f33 = some f33 := by kernel_rfl

def f34_0 : IR :=

  (.seq
  (.seq (.reg [
  ⟨none, (some 11), (.mv (.t 6))⟩,
  ⟨none, (some 12), (.fad 1 (.t 2))⟩,
  ⟨none, (some 13), (.ld false 1 (.t 12))⟩,
  ⟨none, (some 14), (.len false (.t 13))⟩,
  ⟨none, (some 15), (.bin .lss (.t 11) (.t 14))⟩])
  (.cond (.t 15) .skip (.exit 0)))

  (.seq (.block 1
  (.seq (.reg [
  ⟨none, (some 18), (.mv (.t 6))⟩,
  ⟨none, (some 19), (.mv (.t 1))⟩,
  ⟨none, (some 20), (.len false (.t 19))⟩,
  ⟨none, (some 21), (.bin .lss (.t 18) (.t 20))⟩,
  ⟨none, (some 22), (.mv (.t 21))⟩,
  ⟨(some (22, true)), (some 23), (.mv (.t 1))⟩,
  ⟨(some (22, true)), (some 24), (.mv (.t 6))⟩,
  ⟨(some (22, true)), (some 25), (.iadL 1 (.t 23) (.t 24))⟩,
  ⟨(some (22, true)), (some 26), (.ld false 1 (.t 25))⟩,
  ⟨none, (some 27), (.pick (.t 22) (.t 26) (.c (.cv (.sc (.bool false)))))⟩])
  (.cond (.t 27) (.draw [(
  ⟨none, (some 28), (.mv (.t 5))⟩, .p), (
  ⟨none, (some 29), (.fad 1 (.t 2))⟩, .p), (
  ⟨none, (some 30), (.ld false 1 (.t 29))⟩, (.r 0 0)), (
  ⟨none, (some 31), (.mv (.t 6))⟩, .p), (
  ⟨none, (some 32), (.iadL 2 (.t 30) (.t 31))⟩, (.r 0 0)), (
  ⟨none, (some 33), (.fad 0 (.t 32))⟩, .p), (
  ⟨none, (some 34), (.ld false 1 (.t 33))⟩, (.r 0 0)), (
  ⟨none, (some 35), (.fad 1 (.t 2))⟩, .p), (
  ⟨none, (some 36), (.ld false 1 (.t 35))⟩, (.r 0 0)), (
  ⟨none, (some 37), (.mv (.t 6))⟩, .p), (
  ⟨none, (some 38), (.iadL 2 (.t 36) (.t 37))⟩, (.r 0 0)), (
  ⟨none, (some 39), (.fad 1 (.t 38))⟩, .p), (
  ⟨none, (some 40), (.ld false 1 (.t 39))⟩, (.r 0 0)), (
  ⟨none, (some 41), (.iadL 1 (.t 28) (.t 34))⟩, (.r 0 0)), (
  ⟨none, none, (.st 1 (.t 41) (.t 40))⟩, .k)]) .skip)))
  (.reg [
  ⟨none, (some 16), (.mv (.t 6))⟩,
  ⟨none, (some 17), (.bin .add (.t 16) (.c (.cv (.sc (.int .i64 1)))))⟩,
  ⟨none, (some 6), (.mv (.t 17))⟩])))
def f34 : FnIR := ⟨48, [(.cell 4 true 6)],

  (.seq (.reg [
  ⟨none, (some 2), (.box 6 (.t 0))⟩,
  ⟨none, (some 4), (.alloc [(.cv (.sc (.slice none 0 0))), (.cv (.sc (.slice none 0 0))), (.cv (.sc (.int .i64 0))), (.cv (.sc (.int .i64 0))), (.cv (.sc (.bool false))), (.cv (.sc (.int .i64 0)))])⟩])

  (.seq (.reg [
  ⟨none, (some 5), (.mv (.c (.cv (.sc (.slice none 0 0)))))⟩])

  (.seq (.reg [
  ⟨none, (some 7), (.mv (.t 5))⟩,
  ⟨none, (some 8), (.fad 0 (.t 2))⟩,
  ⟨none, (some 9), (.ld false 1 (.t 8))⟩,
  ⟨none, (some 10), (.app 1 24 [(.sc (.slice none 0 0))] (.t 7) (.t 9))⟩,
  ⟨none, (some 5), (.mv (.t 10))⟩])

  (.seq
  (.seq (.reg [
  ⟨none, (some 6), (.mv (.c (.cv (.sc (.int .i64 0)))))⟩])
  (.block 0 (.loop f34_0)))

  (.seq (.reg [
  ⟨none, (some 42), (.mv (.t 5))⟩,
  ⟨none, (some 43), (.fad 0 (.t 2))⟩,
  ⟨none, none, (.st 1 (.t 43) (.t 42))⟩])

  (.seq (.reg [
  ⟨none, (some 44), (.fad 1 (.t 2))⟩,
  ⟨none, none, (.st 1 (.t 44) (.c (.cv (.sc (.slice none 0 0)))))⟩])

  (.seq (.reg [
  ⟨none, (some 45), (.fad 4 (.t 2))⟩,
  ⟨none, none, (.st 1 (.t 45) (.c (.cv (.sc (.bool false)))))⟩])

  (.seq (.reg [
  ⟨none, (some 46), (.fad 5 (.t 2))⟩,
  ⟨none, none, (.st 1 (.t 46) (.c (.cv (.sc (.int .i64 0)))))⟩])

  (.seq (.reg [
  ⟨none, (some 47), (.ld true 6 (.t 2))⟩,
  ⟨none, none, (.st 6 (.t 4) (.t 47))⟩])
  .ret)))))))))⟩
theorem f34_ok : compF Proofs.Try.prog [11, 12, 13, 14, 15, 17, 18, 19, 20, 21, 23, 24, 25, 26, 27, 28, 31, 39, 40] [] Proofs.Try.f34 = some f34 := by kernel_rfl

def f35_0 : IR :=

  (.seq (.reg [
  ⟨none, (some 5), (.fad 4 (.t 2))⟩,
  ⟨none, (some 6), (.ld false 1 (.t 5))⟩,
  ⟨none, (some 7), (.mv (.t 6))⟩,
  ⟨(some (7, true)), (some 8), (.fad 5 (.t 2))⟩,
  ⟨(some (7, true)), (some 9), (.ld false 1 (.t 8))⟩,
  ⟨(some (7, true)), (some 10), (.bin .eql (.t 9) (.c (.cv (.sc (.int .i64 0)))))⟩,
  ⟨none, (some 11), (.pick (.t 7) (.t 10) (.c (.cv (.sc (.bool false)))))⟩])
  (.cond (.t 11)
  (.seq (.reg [
  ⟨none, (some 12), (.ld true 6 (.t 2))⟩,
  ⟨none, none, (.st 6 (.t 4) (.t 12))⟩])
  .ret) .skip))
def f35 : FnIR := ⟨20, [(.cell 4 true 6)],

  (.seq (.reg [
  ⟨none, (some 2), (.box 6 (.t 0))⟩,
  ⟨none, (some 4), (.alloc [(.cv (.sc (.slice none 0 0))), (.cv (.sc (.slice none 0 0))), (.cv (.sc (.int .i64 0))), (.cv (.sc (.int .i64 0))), (.cv (.sc (.bool false))), (.cv (.sc (.int .i64 0)))])⟩])

  (.seq f35_0

  (.seq (.reg [
  ⟨none, (some 13), (.mv (.t 1))⟩,
  ⟨none, (some 14), (.bin .geq (.t 13) (.c (.cv (.sc (.int .i64 0)))))⟩,
  ⟨none, (some 15), (.fad 4 (.t 2))⟩,
  ⟨none, none, (.st 1 (.t 15) (.t 14))⟩])

  (.seq (.reg [
  ⟨none, (some 16), (.mv (.t 1))⟩,
  ⟨none, (some 17), (.mnmx false [(.t 16), (.c (.cv (.sc (.int .i64 0))))])⟩,
  ⟨none, (some 18), (.fad 5 (.t 2))⟩,
  ⟨none, none, (.st 1 (.t 18) (.t 17))⟩])

  (.seq (.reg [
  ⟨none, (some 19), (.ld true 6 (.t 2))⟩,
  ⟨none, none, (.st 6 (.t 4) (.t 19))⟩])
  .ret)))))⟩
theorem f35_ok : compF Proofs.Try.prog [11, 12, 13, 14, 15, 17, 18, 19, 20, 21, 23, 24, 25, 26, 27, 28, 31, 39, 40] [] Proofs.Try.f35 = some f35 := by kernel_rfl

def f36_0 : IR :=

  (.seq (.reg [
  ⟨none, (some 12), (.mv (.t 1))⟩,
  ⟨none, (some 13), (.bin .lss (.t 12) (.c (.cv (.sc (.int .i64 0)))))⟩,
  ⟨none, (some 14), (.mv (.t 13))⟩,
  ⟨(some (14, false)), (some 15), (.mv (.t 1))⟩,
  ⟨(some (14, false)), (some 16), (.fad 0 (.t 4))⟩,
  ⟨(some (14, false)), (some 17), (.ld false 1 (.t 16))⟩,
  ⟨(some (14, false)), (some 18), (.len false (.t 17))⟩,
  ⟨(some (14, false)), (some 19), (.bin .geq (.t 15) (.t 18))⟩,
  ⟨none, (some 20), (.pick (.t 14) (.c (.cv (.sc (.bool true)))) (.t 19))⟩,
  ⟨none, (some 21), (.mv (.t 20))⟩,
  ⟨(some (21, false)), (some 22), (.mv (.t 2))⟩,
  ⟨(some (21, false)), (some 23), (.bin .lss (.t 22) (.c (.cv (.sc (.int .i64 0)))))⟩,
  ⟨none, (some 24), (.pick (.t 21) (.c (.cv (.sc (.bool true)))) (.t 23))⟩,
  ⟨none, (some 25), (.mv (.t 24))⟩,
  ⟨(some (25, false)), (some 26), (.mv (.t 2))⟩,
  ⟨(some (25, false)), (some 27), (.bin .gtr (.t 26) (.c (.cv (.sc (.int .i64 63)))))⟩,
  ⟨none, (some 28), (.pick (.t 25) (.c (.cv (.sc (.bool true)))) (.t 27))⟩])
  (.cond (.t 28)
  (.seq (.reg [
  ⟨none, (some 29), (.ld true 6 (.t 4))⟩,
  ⟨none, none, (.st 6 (.t 8) (.t 29))⟩,
  ⟨none, (some 9), (.mv (.c (.cv (.sc (.bool false)))))⟩])
  .ret) .skip))
def f36 : FnIR := ⟨51, [(.cell 8 true 6), (.t 9)],

  (.seq (.reg [
  ⟨none, (some 4), (.box 6 (.t 0))⟩,
  ⟨none, (some 8), (.alloc [(.cv (.sc (.slice none 0 0))), (.cv (.sc (.slice none 0 0))), (.cv (.sc (.int .i64 0))), (.cv (.sc (.int .i64 0))), (.cv (.sc (.bool false))), (.cv (.sc (.int .i64 0)))])⟩,
  ⟨none, (some 9), (.mv (.c (.cv (.sc (.bool false)))))⟩])

  (.seq f36_0

  (.seq (.reg [
  ⟨none, (some 10), (.mv (.c (.cv (.sc (.slice none 0 0)))))⟩])

  (.seq (.reg [
  ⟨none, (some 30), (.mv (.t 10))⟩,
  ⟨none, (some 31), (.fad 0 (.t 4))⟩,
  ⟨none, (some 32), (.ld false 1 (.t 31))⟩,
  ⟨none, (some 33), (.app 1 24 [(.sc (.slice none 0 0))] (.t 30) (.t 32))⟩,
  ⟨none, (some 10), (.mv (.t 33))⟩])

  (.seq (.reg [
  ⟨none, (some 11), (.mv (.c (.cv (.sc (.slice none 0 0)))))⟩])

  (.seq (.reg [
  ⟨none, (some 34), (.mv (.t 11))⟩,
  ⟨none, (some 35), (.mv (.t 10))⟩,
  ⟨none, (some 36), (.mv (.t 1))⟩,
  ⟨none, (some 37), (.iadL 1 (.t 35) (.t 36))⟩,
  ⟨none, (some 38), (.ld false 1 (.t 37))⟩,
  ⟨none, (some 39), (.app 1 1 [(.sc (.int .u8 0))] (.t 34) (.t 38))⟩,
  ⟨none, (some 11), (.mv (.t 39))⟩])

  (.seq (.reg [
  ⟨none, (some 40), (.mv (.t 11))⟩,
  ⟨none, (some 41), (.mv (.t 2))⟩,
  ⟨none, (some 42), (.mv (.t 3))⟩,
  ⟨none, (some 43), (.iadL 1 (.t 40) (.t 41))⟩,
  ⟨none, none, (.st 1 (.t 43) (.t 42))⟩])

  (.seq (.reg [
  ⟨none, (some 44), (.mv (.t 10))⟩,
  ⟨none, (some 45), (.mv (.t 1))⟩,
  ⟨none, (some 46), (.mv (.t 11))⟩,
  ⟨none, (some 47), (.iadL 1 (.t 44) (.t 45))⟩,
  ⟨none, none, (.st 1 (.t 47) (.t 46))⟩])

  (.seq (.reg [
  ⟨none, (some 48), (.mv (.t 10))⟩,
  ⟨none, (some 49), (.fad 0 (.t 4))⟩,
  ⟨none, none, (.st 1 (.t 49) (.t 48))⟩])

  (.seq (.reg [
  ⟨none, (some 50), (.ld true 6 (.t 4))⟩,
  ⟨none, none, (.st 6 (.t 8) (.t 50))⟩,
  ⟨none, (some 9), (.mv (.c (.cv (.sc (.bool true)))))⟩])
  .ret))))))))))⟩
theorem f36_ok : compF Proofs.Try.prog [11, 12, 13, 14, 15, 17, 18, 19, 20, 21, 23, 24, 25, 26, 27, 28, 31, 39, 40] [] Proofs.Try.f36 = some f36 := by kernel_rfl

def f37_0 : IR :=

  (.seq (.reg [
  ⟨none, (some 7), (.mv (.t 1))⟩,
  ⟨none, (some 8), (.bin .lss (.t 7) (.c (.cv (.sc (.int .i64 0)))))⟩,
  ⟨none, (some 9), (.mv (.t 8))⟩,
  ⟨(some (9, false)), (some 10), (.mv (.t 1))⟩,
  ⟨(some (9, false)), (some 11), (.fad 0 (.t 2))⟩,
  ⟨(some (9, false)), (some 12), (.ld false 1 (.t 11))⟩,
  ⟨(some (9, false)), (some 13), (.len false (.t 12))⟩,
  ⟨(some (9, false)), (some 14), (.bin .geq (.t 10) (.t 13))⟩,
  ⟨none, (some 15), (.pick (.t 9) (.c (.cv (.sc (.bool true)))) (.t 14))⟩])
  (.cond (.t 15)
  (.seq (.reg [
  ⟨none, (some 4), (.mv (.c (.cv (.sc (.slice none 0 0)))))⟩,
  ⟨none, (some 5), (.mv (.c (.cv (.sc (.int .i64 20)))))⟩])
  .ret) .skip))
def f37_1 : IR :=

  (.seq
  (.seq (.reg [
  ⟨none, (some 20), (.mv (.t 6))⟩,
  ⟨none, (some 21), (.bin .geq (.t 20) (.c (.cv (.sc (.int .i64 0)))))⟩])
  (.cond (.t 21) .skip (.exit 0)))

  (.seq (.block 1
  (.seq (.reg [
  ⟨none, (some 24), (.fad 1 (.t 2))⟩,
  ⟨none, (some 25), (.ld false 1 (.t 24))⟩,
  ⟨none, (some 26), (.mv (.t 6))⟩,
  ⟨none, (some 27), (.iadL 2 (.t 25) (.t 26))⟩,
  ⟨none, (some 28), (.fad 0 (.t 27))⟩,
  ⟨none, (some 29), (.ld false 1 (.t 28))⟩,
  ⟨none, (some 30), (.mv (.t 1))⟩,
  ⟨none, (some 31), (.bin .eql (.t 29) (.t 30))⟩])
  (.cond (.t 31)
  (.seq (.reg [
  ⟨none, (some 32), (.fad 1 (.t 2))⟩,
  ⟨none, (some 33), (.ld false 1 (.t 32))⟩,
  ⟨none, (some 34), (.mv (.t 6))⟩,
  ⟨none, (some 35), (.iadL 2 (.t 33) (.t 34))⟩,
  ⟨none, (some 36), (.fad 1 (.t 35))⟩,
  ⟨none, (some 37), (.ld false 1 (.t 36))⟩,
  ⟨none, (some 4), (.mv (.t 37))⟩,
  ⟨none, (some 5), (.mv (.c (.cv (.sc (.int .i64 0)))))⟩])
  .ret) .skip)))
  (.reg [
  ⟨none, (some 22), (.mv (.t 6))⟩,
  ⟨none, (some 23), (.bin .sub (.t 22) (.c (.cv (.sc (.int .i64 1)))))⟩,
  ⟨none, (some 6), (.mv (.t 23))⟩])))
def f37 : FnIR := ⟨43, [(.t 4), (.t 5)],

  (.seq (.reg [
  ⟨none, (some 2), (.box 6 (.t 0))⟩,
  ⟨none, (some 4), (.mv (.c (.cv (.sc (.slice none 0 0)))))⟩,
  ⟨none, (some 5), (.mv (.c (.cv (.sc (.int .i64 0)))))⟩])

  (.seq f37_0

  (.seq
  (.seq (.reg [
  ⟨none, (some 16), (.fad 1 (.t 2))⟩,
  ⟨none, (some 17), (.ld false 1 (.t 16))⟩,
  ⟨none, (some 18), (.len false (.t 17))⟩,
  ⟨none, (some 19), (.bin .sub (.t 18) (.c (.cv (.sc (.int .i64 1)))))⟩,
  ⟨none, (some 6), (.mv (.t 19))⟩])
  (.block 0 (.loop f37_1)))

  (.seq (.reg [
  ⟨none, (some 38), (.fad 0 (.t 2))⟩,
  ⟨none, (some 39), (.ld false 1 (.t 38))⟩,
  ⟨none, (some 40), (.mv (.t 1))⟩,
  ⟨none, (some 41), (.iadL 1 (.t 39) (.t 40))⟩,
  ⟨none, (some 42), (.ld false 1 (.t 41))⟩,
  ⟨none, (some 4), (.mv (.t 42))⟩,
  ⟨none, (some 5), (.mv (.c (.cv (.sc (.int .i64 0)))))⟩])
  .ret))))⟩
theorem f37_ok : compF Proofs.Try.prog [11, 12, 13, 14, 15, 17, 18, 19, 20, 21, 23, 24, 25, 26, 27, 28, 31, 39, 40] [] Proofs.Try.f37 = some f37 := by kernel_rfl

def f38_0 : IR :=

  (.seq
  (.seq (.reg [
  ⟨none, (some 5), (.mv (.t 4))⟩,
  ⟨none, (some 6), (.fad 1 (.t 1))⟩,
  ⟨none, (some 7), (.ld false 1 (.t 6))⟩,
  ⟨none, (some 8), (.len false (.t 7))⟩,
  ⟨none, (some 9), (.bin .lss (.t 5) (.t 8))⟩])
  (.cond (.t 9) .skip (.exit 0)))

  (.seq (.block 1 (.reg [
  ⟨none, (some 12), (.mv (.t 3))⟩,
  ⟨none, (some 13), (.fad 1 (.t 1))⟩,
  ⟨none, (some 14), (.ld false 1 (.t 13))⟩,
  ⟨none, (some 15), (.mv (.t 4))⟩,
  ⟨none, (some 16), (.iadL 2 (.t 14) (.t 15))⟩,
  ⟨none, (some 17), (.fad 0 (.t 16))⟩,
  ⟨none, (some 18), (.ld false 1 (.t 17))⟩,
  ⟨none, (some 19), (.mksl 1 1 [(.cv (.sc (.int .i64 0)))] [(0, (1, (.t 18)))] false)⟩,
  ⟨none, (some 20), (.app 1 8 [(.sc (.int .i64 0))] (.t 12) (.t 19))⟩,
  ⟨none, (some 3), (.mv (.t 20))⟩]))
  (.reg [
  ⟨none, (some 10), (.mv (.t 4))⟩,
  ⟨none, (some 11), (.bin .add (.t 10) (.c (.cv (.sc (.int .i64 1)))))⟩,
  ⟨none, (some 4), (.mv (.t 11))⟩])))
def f38 : FnIR := ⟨22, [(.t 2)],

  (.seq (.reg [
  ⟨none, (some 1), (.box 6 (.t 0))⟩,
  ⟨none, (some 2), (.mv (.c (.cv (.sc (.slice none 0 0)))))⟩])

  (.seq (.reg [
  ⟨none, (some 3), (.mv (.c (.cv (.sc (.slice none 0 0)))))⟩])

  (.seq
  (.seq (.reg [
  ⟨none, (some 4), (.mv (.c (.cv (.sc (.int .i64 0)))))⟩])
  (.block 0 (.loop f38_0)))

  (.seq (.reg [
  ⟨none, (some 21), (.mv (.t 3))⟩,
  ⟨none, (some 2), (.mv (.t 21))⟩])
  .ret))))⟩
theorem f38_ok : compF Proofs.Try.prog [11, 12, 13, 14, 15, 17, 18, 19, 20, 21, 23, 24, 25, 26, 27, 28, 31, 39, 40] [] Proofs.Try.f38 = some f38 := by kernel_rfl

def f39_0 : IR :=

  (.seq (.reg [
  ⟨none, (some 3), (.mv (.t 0))⟩,
  ⟨none, (some 4), (.eqn .slice false (.t 3))⟩])
  (.cond (.t 4)
  (.seq (.reg [
  ⟨none, (some 2), (.mv (.c (.cv (.sc (.slice none 0 0)))))⟩])
  .ret) .skip))
def f39 : FnIR := ⟨8, [(.t 2)],

  (.seq (.reg [
  ⟨none, (some 2), (.mv (.c (.cv (.sc (.slice none 0 0)))))⟩])

  (.seq f39_0

  (.seq (.reg [
  ⟨none, (some 5), (.mksl 64 0 [] [] false)⟩,
  ⟨none, (some 6), (.mv (.t 0))⟩,
  ⟨none, (some 7), (.app 64 64 (List.replicate 64 (.sc (.int .u8 0))) (.t 5) (.t 6))⟩,
  ⟨none, (some 2), (.mv (.t 7))⟩])
  .ret)))⟩
theorem f39_ok : compF Proofs.Try.prog [11, 12, 13, 14, 15, 17, 18, 19, 20, 21, 23, 24, 25, 26, 27, 28, 31, 39, 40] [] Proofs.Try.f39 = some f39 := by kernel_rfl

def f40_0 : IR :=

  (.seq (.reg [
  ⟨none, (some 3), (.mv (.t 0))⟩,
  ⟨none, (some 4), (.eqn .slice false (.t 3))⟩])
  (.cond (.t 4)
  (.seq (.reg [
  ⟨none, (some 2), (.mv (.c (.cv (.sc (.slice none 0 0)))))⟩])
  .ret) .skip))
def f40 : FnIR := ⟨8, [(.t 2)],

  (.seq (.reg [
  ⟨none, (some 2), (.mv (.c (.cv (.sc (.slice none 0 0)))))⟩])

  (.seq f40_0

  (.seq (.reg [
  ⟨none, (some 5), (.mksl 65 0 [] [] false)⟩,
  ⟨none, (some 6), (.mv (.t 0))⟩,
  ⟨none, (some 7), (.app 65 72 ((.sc (.int .i64 0)) :: List.replicate 64 (.sc (.int .u8 0))) (.t 5) (.t 6))⟩,
  ⟨none, (some 2), (.mv (.t 7))⟩])
  .ret)))⟩
theorem f40_ok : compF Proofs.Try.prog [11, 12, 13, 14, 15, 17, 18, 19, 20, 21, 23, 24, 25, 26, 27, 28, 31, 39, 40] [] Proofs.Try.f40 = some f40 := by kernel_rfl

def f41_0 : IR :=

  (.seq (.reg [
  ⟨none, (some 4), (.fad 4 (.t 1))⟩,
  ⟨none, (some 5), (.ld false 1 (.t 4))⟩,
  ⟨none, (some 6), (.un .not (.t 5))⟩])
  (.cond (.t 6)
  (.seq (.reg [
  ⟨none, (some 7), (.ld true 6 (.t 1))⟩,
  ⟨none, none, (.st 6 (.t 2) (.t 7))⟩,
  ⟨none, (some 3), (.mv (.c (.cv (.sc (.bool true)))))⟩])
  .ret) .skip))
def f41_1 : IR :=

  (.seq (.reg [
  ⟨none, (some 8), (.fad 5 (.t 1))⟩,
  ⟨none, (some 9), (.ld false 1 (.t 8))⟩,
  ⟨none, (some 10), (.bin .eql (.t 9) (.c (.cv (.sc (.int .i64 0)))))⟩])
  (.cond (.t 10)
  (.seq (.reg [
  ⟨none, (some 11), (.ld true 6 (.t 1))⟩,
  ⟨none, none, (.st 6 (.t 2) (.t 11))⟩,
  ⟨none, (some 3), (.mv (.c (.cv (.sc (.bool false)))))⟩])
  .ret) .skip))
def f41 : FnIR := ⟨17, [(.cell 2 true 6), (.t 3)],

  (.seq (.reg [
  ⟨none, (some 1), (.box 6 (.t 0))⟩,
  ⟨none, (some 2), (.alloc [(.cv (.sc (.slice none 0 0))), (.cv (.sc (.slice none 0 0))), (.cv (.sc (.int .i64 0))), (.cv (.sc (.int .i64 0))), (.cv (.sc (.bool false))), (.cv (.sc (.int .i64 0)))])⟩,
  ⟨none, (some 3), (.mv (.c (.cv (.sc (.bool false)))))⟩])

  (.seq f41_0

  (.seq f41_1

  (.seq (.reg [
  ⟨none, (some 12), (.fad 5 (.t 1))⟩,
  ⟨none, (some 13), (.ld false 1 (.t 12))⟩,
  ⟨none, (some 14), (.bin .sub (.t 13) (.c (.cv (.sc (.int .i64 1)))))⟩,
  ⟨none, (some 15), (.fad 5 (.t 1))⟩,
  ⟨none, none, (.st 1 (.t 15) (.t 14))⟩])

  (.seq (.reg [
  ⟨none, (some 16), (.ld true 6 (.t 1))⟩,
  ⟨none, none, (.st 6 (.t 2) (.t 16))⟩,
  ⟨none, (some 3), (.mv (.c (.cv (.sc (.bool true)))))⟩])
  .ret)))))⟩
theorem f41_ok : compF Proofs.Try.prog [11, 12, 13, 14, 15, 17, 18, 19, 20, 21, 23, 24, 25, 26, 27, 28, 31, 39, 40] [] Proofs.Try.f41 = some f41 := by kernel_rfl


def F : Nat → Option FnIR := fun n => match n with
  | 3 => some f3
  | 4 => some f4
  | 5 => some f5
  | 6 => some f6
  | 7 => some f7
  | 8 => some f8
  | 9 => some f9
  | 10 => some f10
  | 11 => some f11
  | 12 => some f12
  | 13 => some f13
  | 14 => some f14
  | 15 => some f15
  | 16 => some f16
  | 17 => some f17
  | 18 => some f18
  | 19 => some f19
  | 20 => some f20
  | 21 => some f21
  | 22 => some f22
  | 23 => some f23
  | 24 => some f24
  | 25 => some f25
  | 26 => some f26
  | 27 => some f27
  | 28 => some f28
  | 29 => some f29
  | 30 => some f30
  | 31 => some f31
  | 32 => some f32
  | 33 => some f33
  | 34 => some f34
  | 35 => some f35
  | 36 => some f36
  | 37 => some f37
  | 38 => some f38
  | 39 => some f39
  | 40 => some f40
  | 41 => some f41
  | _ => none

theorem tbl : TblOK Proofs.Try.prog F := by
  refine ⟨by kernel_rfl, fun f fn h => ?_⟩
  unfold F at h
  split at h
  · cases h; exact ⟨_, _, _, Proofs.Try.func3, by kernel_rfl, f3_ok⟩
  · cases h; exact ⟨_, _, _, Proofs.Try.func4, by kernel_rfl, f4_ok⟩
  · cases h; exact ⟨_, _, _, Proofs.Try.func5, by kernel_rfl, f5_ok⟩
  · cases h; exact ⟨_, _, _, Proofs.Try.func6, by kernel_rfl, f6_ok⟩
  · cases h; exact ⟨_, _, _, Proofs.Try.func7, by kernel_rfl, f7_ok⟩
  · cases h; exact ⟨_, _, _, Proofs.Try.func8, by kernel_rfl, f8_ok⟩
  · cases h; exact ⟨_, _, _, Proofs.Try.func9, by kernel_rfl, f9_ok⟩
  · cases h; exact ⟨_, _, _, Proofs.Try.func10, by kernel_rfl, f10_ok⟩
  · cases h; exact ⟨_, _, _, Proofs.Try.func11, by kernel_rfl, f11_ok⟩
  · cases h; exact ⟨_, _, _, Proofs.Try.func12, by kernel_rfl, f12_ok⟩
  · cases h; exact ⟨_, _, _, Proofs.Try.func13, by kernel_rfl, f13_ok⟩
  · cases h; exact ⟨_, _, _, Proofs.Try.func14, by kernel_rfl, f14_ok⟩
  · cases h; exact ⟨_, _, _, Proofs.Try.func15, by kernel_rfl, f15_ok⟩
  · cases h; exact ⟨_, _, _, Proofs.Try.func16, by kernel_rfl, f16_ok⟩
  · cases h; exact ⟨_, _, _, Proofs.Try.func17, by kernel_rfl, f17_ok⟩
  · cases h; exact ⟨_, _, _, Proofs.Try.func18, by kernel_rfl, f18_ok⟩
  · cases h; exact ⟨_, _, _, Proofs.Try.func19, by kernel_rfl, f19_ok⟩
  · cases h; exact ⟨_, _, _, Proofs.Try.func20, by kernel_rfl, f20_ok⟩
  · cases h; exact ⟨_, _, _, Proofs.Try.func21, by kernel_rfl, f21_ok⟩
  · cases h; exact ⟨_, _, _, Proofs.Try.func22, by kernel_rfl, f22_ok⟩
  · cases h; exact ⟨_, _, _, Proofs.Try.func23, by kernel_rfl, f23_ok⟩
  · cases h; exact ⟨_, _, _, Proofs.Try.func24, by kernel_rfl, f24_ok⟩
  · cases h; exact ⟨_, _, _, Proofs.Try.func25, by kernel_rfl, f25_ok⟩
  · cases h; exact ⟨_, _, _, Proofs.Try.func26, by kernel_rfl, f26_ok⟩
  · cases h; exact ⟨_, _, _, Proofs.Try.func27, by kernel_rfl, f27_ok⟩
  · cases h; exact ⟨_, _, _, Proofs.Try.func28, by kernel_rfl, f28_ok⟩
  · cases h; exact ⟨_, _, _, Proofs.Try.func29, by kernel_rfl, f29_ok⟩
  · cases h; exact ⟨_, _, _, Proofs.Try.func30, by kernel_rfl, f30_ok⟩
  · cases h; exact ⟨_, _, _, Proofs.Try.func31, by kernel_rfl, f31_ok⟩
  · cases h; exact ⟨_, _, _, Proofs.Try.func32, by kernel_rfl, f32_ok⟩
  · cases h; exact ⟨_, _, _, Proofs.Try.func33, by kernel_rfl, f33_ok⟩
  · cases h; exact ⟨_, _, _, Proofs.Try.func34, by kernel_rfl, f34_ok⟩
  · cases h; exact ⟨_, _, _, Proofs.Try.func35, by kernel_rfl, f35_ok⟩
  · cases h; exact ⟨_, _, _, Proofs.Try.func36, by kernel_rfl, f36_ok⟩
  · cases h; exact ⟨_, _, _, Proofs.Try.func37, by kernel_rfl, f37_ok⟩
  · cases h; exact ⟨_, _, _, Proofs.Try.func38, by kernel_rfl, f38_ok⟩
  · cases h; exact ⟨_, _, _, Proofs.Try.func39, by kernel_rfl, f39_ok⟩
  · cases h; exact ⟨_, _, _, Proofs.Try.func40, by kernel_rfl, f40_ok⟩
  · cases h; exact ⟨_, _, _, Proofs.Try.func41, by kernel_rfl, f41_ok⟩
  · cases h

end Go.V04
