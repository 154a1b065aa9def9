/-
  Chapter 07: the program's functions, as the small code (printed by a program of ours, checked by the kernel).
-/
import Derived.Test.YtjjmkcmolmjpeaaVmAll2
import Derived.Test.YtjjmkcmolmjpeaaProg
namespace Go.V07
open Go Go.Vm

def f3_0 : IR :=

  (.seq (.reg [
  ⟨none, (some 11), (.mv (.t 2))⟩,
  ⟨none, (some 12), (.call 10 true [(.t 11)])⟩,
  ⟨none, (some 13), (.mv (.t 12))⟩,
  ⟨(some (13, false)), (some 14), (.call 11 true [])⟩,
  ⟨(some (13, false)), (some 15), (.un .not (.t 14))⟩,
  ⟨none, (some 16), (.pick (.t 13) (.c (.cv (.sc (.bool true)))) (.t 15))⟩])
  (.cond (.t 16)
  (.seq (.reg [
  ⟨none, (some 17), (.call 11 true [])⟩,
  ⟨none, (some 10), (.mv (.t 17))⟩])
  .ret) .skip))
def f3 : FnIR := ⟨35, [(.t 10)],

  (.seq (.reg [
  ⟨none, (some 10), (.mv (.c (.cv (.sc (.bool false)))))⟩])

  (.seq f3_0

  (.seq (.reg [
  ⟨none, (some 18), (.mv (.t 0))⟩,
  ⟨none, (some 19), (.mv (.t 1))⟩,
  ⟨none, (some 20), (.mv (.t 2))⟩,
  ⟨none, (some 21), (.call 12 true [(.t 18), (.t 19), (.t 20)])⟩,
  ⟨none, (some 22), (.mv (.t 21))⟩,
  ⟨(some (22, true)), (some 23), (.mv (.t 4))⟩,
  ⟨(some (22, true)), (some 24), (.cvI .i64 (.t 23))⟩,
  ⟨(some (22, true)), (some 25), (.mv (.t 2))⟩,
  ⟨(some (22, true)), (some 26), (.call 12 true [(.t 24), (.c (.cv (.sc (.int .i64 3)))), (.t 25)])⟩,
  ⟨none, (some 27), (.pick (.t 22) (.t 26) (.c (.cv (.sc (.bool false)))))⟩,
  ⟨none, (some 28), (.mv (.t 27))⟩,
  ⟨(some (28, true)), (some 29), (.mv (.t 4))⟩,
  ⟨(some (28, true)), (some 30), (.cvI .i64 (.t 29))⟩,
  ⟨(some (28, true)), (some 31), (.mv (.t 3))⟩,
  ⟨(some (28, true)), (some 32), (.call 13 true [(.t 31), (.c (.cv (.sc (.int .i64 20))))])⟩,
  ⟨(some (28, true)), (some 33), (.call 12 true [(.c (.cv (.sc (.int .i64 2)))), (.t 30), (.t 32)])⟩,
  ⟨none, (some 34), (.pick (.t 28) (.t 33) (.c (.cv (.sc (.bool false)))))⟩,
  ⟨none, (some 10), (.mv (.t 34))⟩])
  .ret)))⟩
theorem f3_ok : compF Proofs.Try.prog [] [] Proofs.Try.f3 = some f3 := by kernel_rfl

def f5_0 : IR :=

  (.seq (.reg [
  ⟨none, (some 11), (.mv (.t 2))⟩,
  ⟨none, (some 12), (.call 10 true [(.t 11)])⟩,
  ⟨none, (some 13), (.mv (.t 12))⟩,
  ⟨(some (13, false)), (some 14), (.call 11 true [])⟩,
  ⟨(some (13, false)), (some 15), (.un .not (.t 14))⟩,
  ⟨none, (some 16), (.pick (.t 13) (.c (.cv (.sc (.bool true)))) (.t 15))⟩])
  (.cond (.t 16)
  (.seq (.reg [
  ⟨none, (some 17), (.call 11 true [])⟩,
  ⟨none, (some 6), (.mv (.t 17))⟩])
  .ret) .skip))
def f5 : FnIR := ⟨56, [(.t 6)],

  (.seq (.reg [
  ⟨none, (some 6), (.mv (.c (.cv (.sc (.bool false)))))⟩])

  (.seq f5_0

  (.seq (.reg [
  ⟨none, (some 18), (.mv (.t 0))⟩,
  ⟨none, (some 19), (.call 16 true [(.t 18), (.c (.cv (.sc (.int .i64 20))))])⟩,
  ⟨none, (some 7), (.mv (.t 19))⟩])

  (.seq (.reg [
  ⟨none, (some 20), (.mv (.t 1))⟩,
  ⟨none, (some 21), (.call 16 true [(.t 20), (.c (.cv (.sc (.int .i64 20))))])⟩,
  ⟨none, (some 8), (.mv (.t 21))⟩])

  (.seq (.reg [
  ⟨none, (some 22), (.mv (.t 1))⟩,
  ⟨none, (some 23), (.call 13 true [(.t 22), (.c (.cv (.sc (.int .i64 20))))])⟩,
  ⟨none, (some 9), (.mv (.t 23))⟩])

  (.seq (.reg [
  ⟨none, (some 24), (.mv (.t 7))⟩,
  ⟨none, (some 25), (.mv (.t 2))⟩,
  ⟨none, (some 26), (.call 18 true [(.t 24), (.t 25)])⟩,
  ⟨none, (some 27), (.mv (.t 7))⟩,
  ⟨none, (some 28), (.mv (.t 2))⟩,
  ⟨none, (some 29), (.call 19 true [(.t 27), (.t 28)])⟩,
  ⟨none, (some 30), (.call 17 true [(.t 26), (.t 29)])⟩,
  ⟨none, (some 31), (.mv (.t 30))⟩,
  ⟨(some (31, true)), (some 32), (.mv (.t 7))⟩,
  ⟨(some (31, true)), (some 33), (.mv (.t 9))⟩,
  ⟨(some (31, true)), (some 34), (.call 18 true [(.t 32), (.t 33)])⟩,
  ⟨(some (31, true)), (some 35), (.mv (.t 7))⟩,
  ⟨(some (31, true)), (some 36), (.mv (.t 9))⟩,
  ⟨(some (31, true)), (some 37), (.call 19 true [(.t 35), (.t 36)])⟩,
  ⟨(some (31, true)), (some 38), (.call 17 true [(.t 34), (.t 37)])⟩,
  ⟨none, (some 39), (.pick (.t 31) (.t 38) (.c (.cv (.sc (.bool false)))))⟩,
  ⟨none, (some 10), (.mv (.t 39))⟩])

  (.seq (.reg [
  ⟨none, (some 40), (.mv (.t 10))⟩,
  ⟨none, (some 41), (.mv (.t 40))⟩,
  ⟨(some (41, true)), (some 42), (.mv (.t 7))⟩,
  ⟨(some (41, true)), (some 43), (.mv (.t 8))⟩,
  ⟨(some (41, true)), (some 44), (.call 21 true [(.t 42), (.t 43)])⟩,
  ⟨(some (41, true)), (some 45), (.mv (.t 7))⟩,
  ⟨(some (41, true)), (some 46), (.mv (.t 8))⟩,
  ⟨(some (41, true)), (some 47), (.call 22 true [(.t 45), (.t 46)])⟩,
  ⟨(some (41, true)), (some 48), (.call 20 true [(.t 44), (.t 47)])⟩,
  ⟨none, (some 49), (.pick (.t 41) (.t 48) (.c (.cv (.sc (.bool false)))))⟩,
  ⟨none, (some 50), (.mv (.t 49))⟩,
  ⟨(some (50, true)), (some 51), (.mv (.t 7))⟩,
  ⟨(some (50, true)), (some 52), (.mv (.t 7))⟩,
  ⟨(some (50, true)), (some 53), (.call 21 true [(.t 51), (.t 52)])⟩,
  ⟨(some (50, true)), (some 54), (.call 20 true [(.t 53), (.c (.cv (.sc (.slice none 0 0))))])⟩,
  ⟨none, (some 55), (.pick (.t 50) (.t 54) (.c (.cv (.sc (.bool false)))))⟩,
  ⟨none, (some 6), (.mv (.t 55))⟩])
  .ret)))))))⟩
theorem f5_ok : compF Proofs.Try.prog [] [] Proofs.Try.f5 = some f5 := by kernel_rfl

def f7_0 : IR :=

  (.seq (.reg [
  ⟨none, (some 25), (.mv (.t 11))⟩,
  ⟨none, (some 26), (.mv (.t 9))⟩,
  ⟨none, (some 27), (.len false (.t 26))⟩,
  ⟨none, (some 28), (.bin .neq (.t 25) (.t 27))⟩,
  ⟨none, (some 29), (.mv (.t 28))⟩,
  ⟨(some (29, false)), (some 30), (.mv (.t 10))⟩,
  ⟨(some (29, false)), (some 31), (.len false (.t 30))⟩,
  ⟨(some (29, false)), (some 32), (.mv (.t 0))⟩,
  ⟨(some (29, false)), (some 33), (.len false (.t 32))⟩,
  ⟨(some (29, false)), (some 34), (.mnmx true [(.t 33), (.c (.cv (.sc (.int .i64 40))))])⟩,
  ⟨(some (29, false)), (some 35), (.bin .add (.t 34) (.c (.cv (.sc (.int .i64 7)))))⟩,
  ⟨(some (29, false)), (some 36), (.bin .quo (.t 35) (.c (.cv (.sc (.int .i64 8)))))⟩,
  ⟨(some (29, false)), (some 37), (.bin .neq (.t 31) (.t 36))⟩,
  ⟨none, (some 38), (.pick (.t 29) (.c (.cv (.sc (.bool true)))) (.t 37))⟩])
  (.cond (.t 38)
  (.seq (.reg [
  ⟨none, (some 8), (.mv (.c (.cv (.sc (.bool false)))))⟩])
  .ret) .skip))
def f7_1 : IR :=

  (.seq (.reg [
  ⟨none, (some 39), (.mv (.t 9))⟩,
  ⟨none, (some 40), (.len false (.t 39))⟩,
  ⟨none, (some 41), (.bin .eql (.t 40) (.c (.cv (.sc (.int .i64 0)))))⟩])
  (.cond (.t 41)
  (.seq (.reg [
  ⟨none, (some 42), (.call 11 true [])⟩,
  ⟨none, (some 8), (.mv (.t 42))⟩])
  .ret) .skip))
def f7_2 : IR :=

  (.seq (.reg [
  ⟨none, (some 51), (.mv (.t 3))⟩,
  ⟨none, (some 52), (.mv (.t 51))⟩,
  ⟨(some (52, true)), (some 53), (.mv (.t 12))⟩,
  ⟨(some (52, true)), (some 54), (.mv (.t 14))⟩,
  ⟨(some (52, true)), (some 55), (.len false (.t 54))⟩,
  ⟨(some (52, true)), (some 56), (.bin .lss (.t 53) (.t 55))⟩,
  ⟨none, (some 57), (.pick (.t 52) (.t 56) (.c (.cv (.sc (.bool false)))))⟩])
  (.cond (.t 57) (.reg [
  ⟨none, (some 58), (.mv (.t 14))⟩,
  ⟨none, (some 59), (.mv (.t 12))⟩,
  ⟨none, (some 60), (.iadL 1 (.t 58) (.t 59))⟩,
  ⟨none, (some 61), (.ld false 1 (.t 60))⟩,
  ⟨none, (some 13), (.mv (.t 61))⟩]) .skip))
def f7_3 : IR :=

  (.seq (.reg [
  ⟨none, (some 71), (.mv (.t 16))⟩,
  ⟨none, (some 72), (.mv (.t 12))⟩,
  ⟨none, (some 73), (.bin .gtr (.t 71) (.t 72))⟩,
  ⟨none, (some 74), (.mv (.t 73))⟩,
  ⟨(some (74, false)), (some 75), (.mv (.t 15))⟩,
  ⟨(some (74, false)), (some 76), (.len false (.t 75))⟩,
  ⟨(some (74, false)), (some 77), (.mv (.t 10))⟩,
  ⟨(some (74, false)), (some 78), (.len false (.t 77))⟩,
  ⟨(some (74, false)), (some 79), (.bin .gtr (.t 76) (.t 78))⟩,
  ⟨none, (some 80), (.pick (.t 74) (.c (.cv (.sc (.bool true)))) (.t 79))⟩])
  (.cond (.t 80)
  (.seq (.reg [
  ⟨none, (some 8), (.mv (.c (.cv (.sc (.bool false)))))⟩])
  .ret) .skip))
def f7_4 : IR :=

  (.seq
  (.seq (.reg [
  ⟨none, (some 81), (.mv (.t 17))⟩,
  ⟨none, (some 82), (.mv (.t 15))⟩,
  ⟨none, (some 83), (.len false (.t 82))⟩,
  ⟨none, (some 84), (.bin .lss (.t 81) (.t 83))⟩])
  (.cond (.t 84) .skip (.exit 0)))

  (.seq (.block 1
  (.seq (.draw [(
  ⟨none, (some 87), (.mv (.t 10))⟩, .p), (
  ⟨none, (some 88), (.mv (.t 17))⟩, .p), (
  ⟨none, (some 89), (.iadL 1 (.t 87) (.t 88))⟩, (.r 0 0)), (
  ⟨none, (some 90), (.ld false 1 (.t 89))⟩, (.r 0 0)), (
  ⟨none, (some 91), (.mv (.t 15))⟩, .p), (
  ⟨none, (some 92), (.mv (.t 17))⟩, .p), (
  ⟨none, (some 93), (.iadL 1 (.t 91) (.t 92))⟩, (.r 0 0)), (
  ⟨none, (some 94), (.ld false 1 (.t 93))⟩, (.r 0 0)), (
  ⟨none, (some 95), (.call 20 true [(.t 90), (.t 94)])⟩, (.r 0 0)), (
  ⟨none, (some 96), (.un .not (.t 95))⟩, .p)])
  (.cond (.t 96)
  (.seq (.reg [
  ⟨none, (some 8), (.mv (.c (.cv (.sc (.bool false)))))⟩])
  .ret) .skip)))
  (.reg [
  ⟨none, (some 85), (.mv (.t 17))⟩,
  ⟨none, (some 86), (.bin .add (.t 85) (.c (.cv (.sc (.int .i64 1)))))⟩,
  ⟨none, (some 17), (.mv (.t 86))⟩])))
def f7 : FnIR := ⟨98, [(.t 8)],

  (.seq (.reg [
  ⟨none, (some 8), (.mv (.c (.cv (.sc (.bool false)))))⟩])

  (.seq (.reg [
  ⟨none, (some 18), (.mv (.t 0))⟩,
  ⟨none, (some 19), (.call 14 false [(.t 18), (.c (.cv (.sc (.int .i64 5))))])⟩,
  ⟨none, (some 9), (.mv (.t 19))⟩])

  (.seq (.reg [
  ⟨none, (some 21), (.mv (.t 9))⟩,
  ⟨none, (some 22), (.call 23 false [(.c (.cv (.sc (.int .i64 5)))), (.t 21)])⟩,
  ⟨none, (some 20), (.mv (.t 22))⟩,
  ⟨none, (some 23), (.ext (.t 20) 0)⟩,
  ⟨none, (some 24), (.ext (.t 20) 1)⟩,
  ⟨none, (some 10), (.mv (.t 23))⟩,
  ⟨none, (some 11), (.mv (.t 24))⟩])

  (.seq f7_0

  (.seq f7_1

  (.seq (.reg [
  ⟨none, (some 43), (.mv (.t 2))⟩,
  ⟨none, (some 44), (.cvI .i64 (.t 43))⟩,
  ⟨none, (some 45), (.mv (.t 9))⟩,
  ⟨none, (some 46), (.len false (.t 45))⟩,
  ⟨none, (some 47), (.bin .rem (.t 44) (.t 46))⟩,
  ⟨none, (some 12), (.mv (.t 47))⟩])

  (.seq (.reg [
  ⟨none, (some 48), (.mks 1 1 [(.sc (.int .u8 0))] (.c (.cv (.sc (.int .i64 64)))) (.c (.cv (.sc (.int .i64 64)))) false)⟩,
  ⟨none, (some 13), (.mv (.t 48))⟩])

  (.seq (.reg [
  ⟨none, (some 49), (.mv (.t 1))⟩,
  ⟨none, (some 50), (.call 14 false [(.t 49), (.c (.cv (.sc (.int .i64 4))))])⟩,
  ⟨none, (some 14), (.mv (.t 50))⟩])

  (.seq f7_2

  (.seq (.reg [
  ⟨none, (some 62), (.mv (.t 9))⟩,
  ⟨none, (some 63), (.mv (.t 12))⟩,
  ⟨none, (some 64), (.mv (.t 13))⟩,
  ⟨none, (some 65), (.iadL 1 (.t 62) (.t 63))⟩,
  ⟨none, none, (.st 1 (.t 65) (.t 64))⟩])

  (.seq (.reg [
  ⟨none, (some 67), (.mv (.t 9))⟩,
  ⟨none, (some 68), (.call 23 false [(.c (.cv (.sc (.int .i64 5)))), (.t 67)])⟩,
  ⟨none, (some 66), (.mv (.t 68))⟩,
  ⟨none, (some 69), (.ext (.t 66) 0)⟩,
  ⟨none, (some 70), (.ext (.t 66) 1)⟩,
  ⟨none, (some 15), (.mv (.t 69))⟩,
  ⟨none, (some 16), (.mv (.t 70))⟩])

  (.seq f7_3

  (.seq
  (.seq (.reg [
  ⟨none, (some 17), (.mv (.c (.cv (.sc (.int .i64 0)))))⟩])
  (.block 0 (.loop f7_4)))

  (.seq (.reg [
  ⟨none, (some 97), (.call 11 true [])⟩,
  ⟨none, (some 8), (.mv (.t 97))⟩])
  .ret))))))))))))))⟩
theorem f7_ok : compF Proofs.Try.prog [14, 23] [] Proofs.Try.f7 = some f7 := by kernel_rfl

def f8 : FnIR := ⟨45, [(.t 6)],

  (.seq (.reg [
  ⟨none, (some 6), (.mv (.c (.cv (.sc (.bool false)))))⟩])

  (.seq (.reg [
  ⟨none, (some 11), (.mv (.t 0))⟩,
  ⟨none, (some 12), (.call 16 true [(.t 11), (.c (.cv (.sc (.int .i64 20))))])⟩,
  ⟨none, (some 7), (.mv (.t 12))⟩])

  (.seq (.reg [
  ⟨none, (some 13), (.mv (.t 1))⟩,
  ⟨none, (some 14), (.call 13 true [(.t 13), (.c (.cv (.sc (.int .i64 20))))])⟩,
  ⟨none, (some 8), (.mv (.t 14))⟩])

  (.seq (.reg [
  ⟨none, (some 15), (.mv (.t 2))⟩,
  ⟨none, (some 16), (.cvI .i64 (.t 15))⟩,
  ⟨none, (some 17), (.mv (.t 8))⟩,
  ⟨none, (some 18), (.len false (.t 17))⟩,
  ⟨none, (some 19), (.bin .add (.t 18) (.c (.cv (.sc (.int .i64 1)))))⟩,
  ⟨none, (some 20), (.bin .rem (.t 16) (.t 19))⟩,
  ⟨none, (some 9), (.mv (.t 20))⟩])

  (.seq (.reg [
  ⟨none, (some 21), (.mv (.t 7))⟩,
  ⟨none, (some 22), (.mv (.t 8))⟩,
  ⟨none, (some 23), (.call 18 true [(.t 21), (.t 22)])⟩,
  ⟨none, (some 10), (.mv (.t 23))⟩])

  (.seq (.draw [(
  ⟨none, (some 24), (.call 11 true [])⟩, (.r 0 0)), (
  ⟨none, (some 25), (.mv (.t 24))⟩, .p), (
  ⟨(some (25, true)), (some 26), (.mv (.t 10))⟩, .p), (
  ⟨(some (25, true)), (some 27), (.mv (.t 7))⟩, .p), (
  ⟨(some (25, true)), (some 28), (.mv (.t 8))⟩, .p), (
  ⟨(some (25, true)), (some 29), (.mv (.t 9))⟩, .p), (
  ⟨(some (25, true)), (some 30), (.slL 3 (.t 28) none (some (.t 29)) none)⟩, (.r 0 0)), (
  ⟨(some (25, true)), (some 31), (.call 18 true [(.t 27), (.t 30)])⟩, (.r 0 0)), (
  ⟨(some (25, true)), (some 32), (.mv (.t 8))⟩, .p), (
  ⟨(some (25, true)), (some 33), (.mv (.t 9))⟩, .p), (
  ⟨(some (25, true)), (some 34), (.slL 3 (.t 32) (some (.t 33)) none none)⟩, (.r 0 0)), (
  ⟨(some (25, true)), (some 35), (.call 18 true [(.t 31), (.t 34)])⟩, (.r 0 0)), (
  ⟨(some (25, true)), (some 36), (.call 17 true [(.t 26), (.t 35)])⟩, (.r 0 0)), (
  ⟨none, (some 37), (.pick (.t 25) (.t 36) (.c (.cv (.sc (.bool false)))))⟩, .p), (
  ⟨none, (some 38), (.mv (.t 37))⟩, .p), (
  ⟨(some (38, true)), (some 39), (.mv (.t 10))⟩, .p), (
  ⟨(some (38, true)), (some 40), (.mv (.t 10))⟩, .p), (
  ⟨(some (38, true)), (some 41), (.mv (.t 8))⟩, .p), (
  ⟨(some (38, true)), (some 42), (.call 18 true [(.t 40), (.t 41)])⟩, (.r 0 0)), (
  ⟨(some (38, true)), (some 43), (.call 17 true [(.t 39), (.t 42)])⟩, (.r 0 0)), (
  ⟨none, (some 44), (.pick (.t 38) (.t 43) (.c (.cv (.sc (.bool false)))))⟩, .p), (
  ⟨none, (some 6), (.mv (.t 44))⟩, .p)])
  .ret))))))⟩
theorem f8_ok : compF Proofs.Try.prog [] [] Proofs.Try.f8 = some f8 := by kernel_rfl

def f10_0 : IR :=

  (.seq
  (.seq (.reg [
  ⟨none, (some 7), (.mv (.t 4))⟩,
  ⟨none, (some 8), (.mv (.t 0))⟩,
  ⟨none, (some 9), (.len false (.t 8))⟩,
  ⟨none, (some 10), (.bin .lss (.t 7) (.t 9))⟩])
  (.cond (.t 10) .skip (.exit 0)))

  (.seq (.block 1 (.draw [(
  ⟨none, (some 13), (.mv (.t 3))⟩, .p), (
  ⟨none, (some 14), (.mv (.t 0))⟩, .p), (
  ⟨none, (some 15), (.mv (.t 4))⟩, .p), (
  ⟨none, (some 16), (.iadL 3 (.t 14) (.t 15))⟩, (.r 0 0)), (
  ⟨none, (some 17), (.fad 0 (.t 16))⟩, .p), (
  ⟨none, (some 18), (.ld false 1 (.t 17))⟩, (.r 0 0)), (
  ⟨none, (some 19), (.len true (.t 18))⟩, .p), (
  ⟨none, (some 20), (.mv (.t 0))⟩, .p), (
  ⟨none, (some 21), (.mv (.t 4))⟩, .p), (
  ⟨none, (some 22), (.iadL 3 (.t 20) (.t 21))⟩, (.r 0 0)), (
  ⟨none, (some 23), (.fad 1 (.t 22))⟩, .p), (
  ⟨none, (some 24), (.ld false 1 (.t 23))⟩, (.r 0 0)), (
  ⟨none, (some 25), (.len false (.t 24))⟩, .p), (
  ⟨none, (some 26), (.bin .add (.t 19) (.t 25))⟩, .p), (
  ⟨none, (some 27), (.bin .add (.t 13) (.t 26))⟩, .p), (
  ⟨none, (some 3), (.mv (.t 27))⟩, .p)]))
  (.reg [
  ⟨none, (some 11), (.mv (.t 4))⟩,
  ⟨none, (some 12), (.bin .add (.t 11) (.c (.cv (.sc (.int .i64 1)))))⟩,
  ⟨none, (some 4), (.mv (.t 12))⟩])))
def f10 : FnIR := ⟨30, [(.t 2)],

  (.seq (.reg [
  ⟨none, (some 2), (.mv (.c (.cv (.sc (.bool false)))))⟩])

  (.seq (.reg [
  ⟨none, (some 5), (.mv (.t 0))⟩,
  ⟨none, (some 6), (.len false (.t 5))⟩,
  ⟨none, (some 3), (.mv (.t 6))⟩])

  (.seq
  (.seq (.reg [
  ⟨none, (some 4), (.mv (.c (.cv (.sc (.int .i64 0)))))⟩])
  (.block 0 (.loop f10_0)))

  (.seq (.reg [
  ⟨none, (some 28), (.mv (.t 3))⟩,
  ⟨none, (some 29), (.bin .gtr (.t 28) (.c (.cv (.sc (.int .i64 1500)))))⟩,
  ⟨none, (some 2), (.mv (.t 29))⟩])
  .ret))))⟩
theorem f10_ok : compF Proofs.Try.prog [] [] Proofs.Try.f10 = some f10 := by kernel_rfl

def f11 : FnIR := ⟨62, [(.t 0)],

  (.seq (.reg [
  ⟨none, (some 0), (.mv (.c (.cv (.sc (.bool false)))))⟩])

  (.seq (.reg [
  ⟨none, (some 7), (.mksl 1 1 [(.cv (.sc (.int .u8 0)))] [(0, (1, (.c (.cv (.sc (.int .u8 49))))))] true)⟩,
  ⟨none, (some 8), (.mrk (.t 7))⟩,
  ⟨none, (some 9), (.build [(.cv (.sc (.string ⟨#[]⟩))), (.cv (.sc (.slice none 0 0))), (.cv (.sc (.bool false)))] [(0, (1, (.c (.cv (.sc (.string ⟨#[97]⟩)))))), (1, (1, (.t 8)))])⟩,
  ⟨none, (some 10), (.mksl 3 1 [(.cv (.sc (.string ⟨#[]⟩))), (.cv (.sc (.slice none 0 0))), (.cv (.sc (.bool false)))] [(0, (3, (.t 9)))] false)⟩,
  ⟨none, (some 11), (.call 18 true [(.c (.cv (.sc (.slice none 0 0)))), (.t 10)])⟩,
  ⟨none, (some 1), (.mv (.t 11))⟩])

  (.seq (.reg [
  ⟨none, (some 12), (.mv (.t 1))⟩,
  ⟨none, (some 13), (.call 21 true [(.t 12), (.c (.cv (.sc (.slice none 0 0))))])⟩,
  ⟨none, (some 2), (.mv (.t 13))⟩])

  (.seq (.reg [
  ⟨none, (some 15), (.mv (.t 2))⟩,
  ⟨none, (some 16), (.call 24 true [(.c (.cv (.sc (.int .i64 1)))), (.c (.cv (.sc (.int .i64 0)))), (.t 15)])⟩,
  ⟨none, (some 14), (.mv (.t 16))⟩,
  ⟨none, (some 17), (.ext (.t 14) 0)⟩,
  ⟨none, (some 18), (.ext (.t 14) 1)⟩,
  ⟨none, (some 3), (.mv (.t 17))⟩,
  ⟨none, (some 4), (.mv (.t 18))⟩])

  (.seq (.reg [
  ⟨none, (some 20), (.mv (.t 3))⟩,
  ⟨none, (some 21), (.call 23 true [(.c (.cv (.sc (.int .i64 1)))), (.t 20)])⟩,
  ⟨none, (some 19), (.mv (.t 21))⟩,
  ⟨none, (some 22), (.ext (.t 19) 0)⟩,
  ⟨none, (some 23), (.ext (.t 19) 1)⟩,
  ⟨none, (some 5), (.mv (.t 22))⟩,
  ⟨none, (some 6), (.mv (.t 23))⟩])

  (.seq (.reg [
  ⟨none, (some 24), (.mv (.t 1))⟩,
  ⟨none, (some 25), (.len false (.t 24))⟩,
  ⟨none, (some 26), (.bin .eql (.t 25) (.c (.cv (.sc (.int .i64 1)))))⟩,
  ⟨none, (some 27), (.mv (.t 26))⟩,
  ⟨(some (27, true)), (some 28), (.mv (.t 1))⟩,
  ⟨(some (27, true)), (some 29), (.iadL 2 (.t 28) (.c (.cv (.sc (.int .i64 0)))))⟩,
  ⟨(some (27, true)), (some 30), (.fad 0 (.t 29))⟩,
  ⟨(some (27, true)), (some 31), (.ld false 1 (.t 30))⟩,
  ⟨(some (27, true)), (some 32), (.bin .eql (.t 31) (.c (.cv (.sc (.string ⟨#[97]⟩)))))⟩,
  ⟨none, (some 33), (.pick (.t 27) (.t 32) (.c (.cv (.sc (.bool false)))))⟩,
  ⟨none, (some 34), (.mv (.t 33))⟩,
  ⟨(some (34, true)), (some 35), (.mv (.t 2))⟩,
  ⟨(some (34, true)), (some 36), (.len false (.t 35))⟩,
  ⟨(some (34, true)), (some 37), (.bin .eql (.t 36) (.c (.cv (.sc (.int .i64 1)))))⟩,
  ⟨none, (some 38), (.pick (.t 34) (.t 37) (.c (.cv (.sc (.bool false)))))⟩,
  ⟨none, (some 39), (.mv (.t 38))⟩,
  ⟨(some (39, true)), (some 40), (.mv (.t 2))⟩,
  ⟨(some (39, true)), (some 41), (.iadL 3 (.t 40) (.c (.cv (.sc (.int .i64 0)))))⟩,
  ⟨(some (39, true)), (some 42), (.fad 2 (.t 41))⟩,
  ⟨(some (39, true)), (some 43), (.ld false 1 (.t 42))⟩,
  ⟨none, (some 44), (.pick (.t 39) (.t 43) (.c (.cv (.sc (.bool false)))))⟩,
  ⟨none, (some 45), (.mv (.t 44))⟩,
  ⟨(some (45, true)), (some 46), (.mv (.t 4))⟩,
  ⟨none, (some 47), (.pick (.t 45) (.t 46) (.c (.cv (.sc (.bool false)))))⟩,
  ⟨none, (some 48), (.mv (.t 47))⟩,
  ⟨(some (48, true)), (some 49), (.mv (.t 3))⟩,
  ⟨(some (48, true)), (some 50), (.len false (.t 49))⟩,
  ⟨(some (48, true)), (some 51), (.bin .eql (.t 50) (.c (.cv (.sc (.int .i64 1)))))⟩,
  ⟨none, (some 52), (.pick (.t 48) (.t 51) (.c (.cv (.sc (.bool false)))))⟩,
  ⟨none, (some 53), (.mv (.t 52))⟩,
  ⟨(some (53, true)), (some 54), (.mv (.t 5))⟩,
  ⟨(some (53, true)), (some 55), (.len false (.t 54))⟩,
  ⟨(some (53, true)), (some 56), (.bin .eql (.t 55) (.c (.cv (.sc (.int .i64 1)))))⟩,
  ⟨none, (some 57), (.pick (.t 53) (.t 56) (.c (.cv (.sc (.bool false)))))⟩,
  ⟨none, (some 58), (.mv (.t 57))⟩,
  ⟨(some (58, true)), (some 59), (.mv (.t 6))⟩,
  ⟨(some (58, true)), (some 60), (.bin .eql (.t 59) (.c (.cv (.sc (.int .i64 1)))))⟩,
  ⟨none, (some 61), (.pick (.t 58) (.t 60) (.c (.cv (.sc (.bool false)))))⟩,
  ⟨none, (some 0), (.mv (.t 61))⟩])
  .ret))))))⟩
theorem f11_ok : compF Proofs.Try.prog [] [(1, 0)] Proofs.Try.f11 = some f11 := by kernel_rfl

def f12 : FnIR := ⟨33, [(.t 6)],

  (.seq (.reg [
  ⟨none, (some 6), (.mv (.c (.cv (.sc (.bool false)))))⟩])

  (.seq (.reg [
  ⟨none, (some 12), (.mv (.t 0))⟩,
  ⟨none, (some 13), (.mv (.t 1))⟩,
  ⟨none, (some 14), (.mv (.t 2))⟩,
  ⟨none, (some 15), (.call 24 true [(.t 12), (.t 13), (.t 14)])⟩,
  ⟨none, (some 11), (.mv (.t 15))⟩,
  ⟨none, (some 16), (.ext (.t 11) 0)⟩,
  ⟨none, (some 17), (.ext (.t 11) 1)⟩,
  ⟨none, (some 7), (.mv (.t 16))⟩,
  ⟨none, (some 8), (.mv (.t 17))⟩])

  (.seq (.reg [
  ⟨none, (some 19), (.mv (.t 0))⟩,
  ⟨none, (some 20), (.mv (.t 1))⟩,
  ⟨none, (some 21), (.mv (.t 2))⟩,
  ⟨none, (some 22), (.call 25 true [(.t 19), (.t 20), (.t 21)])⟩,
  ⟨none, (some 18), (.mv (.t 22))⟩,
  ⟨none, (some 23), (.ext (.t 18) 0)⟩,
  ⟨none, (some 24), (.ext (.t 18) 1)⟩,
  ⟨none, (some 9), (.mv (.t 23))⟩,
  ⟨none, (some 10), (.mv (.t 24))⟩])

  (.seq (.reg [
  ⟨none, (some 25), (.mv (.t 8))⟩,
  ⟨none, (some 26), (.mv (.t 10))⟩,
  ⟨none, (some 27), (.eqb false (.t 25) (.t 26))⟩,
  ⟨none, (some 28), (.mv (.t 27))⟩,
  ⟨(some (28, true)), (some 29), (.mv (.t 7))⟩,
  ⟨(some (28, true)), (some 30), (.mv (.t 9))⟩,
  ⟨(some (28, true)), (some 31), (.call 26 true [(.t 29), (.t 30)])⟩,
  ⟨none, (some 32), (.pick (.t 28) (.t 31) (.c (.cv (.sc (.bool false)))))⟩,
  ⟨none, (some 6), (.mv (.t 32))⟩])
  .ret))))⟩
theorem f12_ok : compF Proofs.Try.prog [] [] Proofs.Try.f12 = some f12 := by kernel_rfl

def f13_0 : IR :=

  (.seq (.reg [
  ⟨none, (some 29), (.fad 1 (.t 8))⟩,
  ⟨none, (some 30), (.ld false 1 (.t 29))⟩,
  ⟨none, (some 31), (.len false (.t 30))⟩,
  ⟨none, (some 32), (.bin .rem (.t 31) (.c (.cv (.sc (.int .i64 4)))))⟩,
  ⟨none, (some 33), (.bin .eql (.t 32) (.c (.cv (.sc (.int .i64 0)))))⟩])
  (.cond (.t 33) (.reg [
  ⟨none, (some 34), (.fad 0 (.t 8))⟩,
  ⟨none, (some 35), (.ld false 1 (.t 34))⟩,
  ⟨none, (some 36), (.build [(.cv (.sc (.string ⟨#[]⟩))), (.cv (.sc (.slice none 0 0))), (.cv (.sc (.bool false)))] [(0, (1, (.t 35))), (2, (1, (.c (.cv (.sc (.bool true))))))])⟩,
  ⟨none, none, (.st 3 (.t 8) (.t 36))⟩]) .skip))
def f13_1 : IR :=

  (.seq
  (.seq (.reg [
  ⟨none, (some 12), (.mv (.t 7))⟩,
  ⟨none, (some 13), (.mv (.t 6))⟩,
  ⟨none, (some 14), (.len false (.t 13))⟩,
  ⟨none, (some 15), (.bin .lss (.t 12) (.t 14))⟩])
  (.cond (.t 15) .skip (.exit 0)))

  (.seq (.block 1
  (.seq (.draw [(
  ⟨none, (some 18), (.mv (.t 6))⟩, .p), (
  ⟨none, (some 19), (.mv (.t 7))⟩, .p), (
  ⟨none, (some 20), (.iadL 2 (.t 18) (.t 19))⟩, (.r 0 1)), (
  ⟨none, (some 21), (.fad 0 (.t 20))⟩, .p), (
  ⟨none, (some 22), (.ld false 1 (.t 21))⟩, (.r 0 1)), (
  ⟨none, (some 23), (.mv (.t 6))⟩, .p), (
  ⟨none, (some 24), (.mv (.t 7))⟩, .p), (
  ⟨none, (some 25), (.iadL 2 (.t 23) (.t 24))⟩, (.r 0 1)), (
  ⟨none, (some 26), (.fad 1 (.t 25))⟩, .p), (
  ⟨none, (some 27), (.ld false 1 (.t 26))⟩, (.r 0 1)), (
  ⟨none, (some 28), (.build [(.cv (.sc (.string ⟨#[]⟩))), (.cv (.sc (.slice none 0 0))), (.cv (.sc (.bool false)))] [(0, (1, (.t 22))), (1, (1, (.t 27)))])⟩, .p), (
  ⟨none, (some 8), (.alloc [(.cv (.sc (.string ⟨#[]⟩))), (.cv (.sc (.slice none 0 0))), (.cv (.sc (.bool false)))])⟩, .k), (
  ⟨none, none, (.st 3 (.t 8) (.t 28))⟩, .k)])

  (.seq f13_0
  (.reg [
  ⟨none, (some 37), (.mv (.t 5))⟩,
  ⟨none, (some 38), (.ld true 3 (.t 8))⟩,
  ⟨none, (some 39), (.mksl 3 1 [(.cv (.sc (.string ⟨#[]⟩))), (.cv (.sc (.slice none 0 0))), (.cv (.sc (.bool false)))] [(0, (3, (.t 38)))] false)⟩,
  ⟨none, (some 40), (.app 3 48 [(.sc (.string ⟨#[]⟩)), (.sc (.slice none 0 0)), (.sc (.bool false))] (.t 37) (.t 39))⟩,
  ⟨none, (some 5), (.mv (.t 40))⟩]))))
  (.reg [
  ⟨none, (some 16), (.mv (.t 7))⟩,
  ⟨none, (some 17), (.bin .add (.t 16) (.c (.cv (.sc (.int .i64 1)))))⟩,
  ⟨none, (some 7), (.mv (.t 17))⟩])))
def f13 : FnIR := ⟨42, [(.t 4)],

  (.seq (.reg [
  ⟨none, (some 4), (.mv (.c (.cv (.sc (.slice none 0 0)))))⟩])

  (.seq (.reg [
  ⟨none, (some 5), (.mv (.c (.cv (.sc (.slice none 0 0)))))⟩])

  (.seq (.reg [
  ⟨none, (some 9), (.mv (.t 0))⟩,
  ⟨none, (some 10), (.mv (.t 1))⟩,
  ⟨none, (some 11), (.call 27 true [(.t 9), (.t 10)])⟩,
  ⟨none, (some 6), (.mv (.t 11))⟩])

  (.seq
  (.seq (.reg [
  ⟨none, (some 7), (.mv (.c (.cv (.sc (.int .i64 0)))))⟩])
  (.block 0 (.loop f13_1)))

  (.seq (.reg [
  ⟨none, (some 41), (.mv (.t 5))⟩,
  ⟨none, (some 4), (.mv (.t 41))⟩])
  .ret)))))⟩
theorem f13_ok : compF Proofs.Try.prog [] [] Proofs.Try.f13 = some f13 := by kernel_rfl

def f14_0 : IR :=

  (.seq
  (.seq (.reg [
  ⟨none, (some 9), (.mv (.t 6))⟩,
  ⟨none, (some 10), (.mv (.t 0))⟩,
  ⟨none, (some 11), (.len false (.t 10))⟩,
  ⟨none, (some 12), (.bin .lss (.t 9) (.t 11))⟩,
  ⟨none, (some 13), (.mv (.t 12))⟩,
  ⟨(some (13, true)), (some 14), (.mv (.t 6))⟩,
  ⟨(some (13, true)), (some 15), (.bin .lss (.t 14) (.c (.cv (.sc (.int .i64 40)))))⟩,
  ⟨none, (some 16), (.pick (.t 13) (.t 15) (.c (.cv (.sc (.bool false)))))⟩])
  (.cond (.t 16) .skip (.exit 0)))

  (.seq (.block 1
  (.seq (.reg [
  ⟨none, (some 20), (.mv (.t 1))⟩,
  ⟨none, (some 21), (.mv (.t 6))⟩,
  ⟨none, (some 22), (.bin .quo (.t 21) (.c (.cv (.sc (.int .i64 8)))))⟩,
  ⟨none, (some 23), (.mv (.t 0))⟩,
  ⟨none, (some 24), (.mv (.t 6))⟩,
  ⟨none, (some 25), (.mv (.t 6))⟩,
  ⟨none, (some 26), (.bin .add (.t 25) (.c (.cv (.sc (.int .i64 8)))))⟩,
  ⟨none, (some 27), (.mv (.t 0))⟩,
  ⟨none, (some 28), (.len false (.t 27))⟩,
  ⟨none, (some 29), (.mnmx true [(.t 26), (.t 28)])⟩,
  ⟨none, (some 30), (.slL 1 (.t 23) (some (.t 24)) (some (.t 29)) none)⟩,
  ⟨none, (some 31), (.call 13 true [(.t 30), (.c (.cv (.sc (.int .i64 4))))])⟩,
  ⟨none, (some 32), (.call 25 true [(.t 20), (.t 22), (.t 31)])⟩,
  ⟨none, (some 19), (.mv (.t 32))⟩,
  ⟨none, (some 33), (.ext (.t 19) 0)⟩,
  ⟨none, (some 34), (.ext (.t 19) 1)⟩,
  ⟨none, (some 7), (.mv (.t 33))⟩,
  ⟨none, (some 8), (.mv (.t 34))⟩])
  (.reg [
  ⟨none, (some 35), (.mv (.t 5))⟩,
  ⟨none, (some 36), (.mv (.t 7))⟩,
  ⟨none, (some 37), (.app 1 24 [(.sc (.slice none 0 0))] (.t 35) (.t 36))⟩,
  ⟨none, (some 5), (.mv (.t 37))⟩])))
  (.reg [
  ⟨none, (some 17), (.mv (.t 6))⟩,
  ⟨none, (some 18), (.bin .add (.t 17) (.c (.cv (.sc (.int .i64 8)))))⟩,
  ⟨none, (some 6), (.mv (.t 18))⟩])))
def f14 : FnIR := ⟨39, [(.t 4)],

  (.seq (.reg [
  ⟨none, (some 4), (.mv (.c (.cv (.sc (.slice none 0 0)))))⟩])

  (.seq (.reg [
  ⟨none, (some 5), (.mv (.c (.cv (.sc (.slice none 0 0)))))⟩])

  (.seq
  (.seq (.reg [
  ⟨none, (some 6), (.mv (.c (.cv (.sc (.int .i64 0)))))⟩])
  (.block 0 (.loop f14_0)))

  (.seq (.reg [
  ⟨none, (some 38), (.mv (.t 5))⟩,
  ⟨none, (some 4), (.mv (.t 38))⟩])
  .ret))))⟩
theorem f14_ok : compF Proofs.Try.prog [] [] Proofs.Try.f14 = some f14 := by kernel_rfl

def f16_0 : IR :=

  (.seq
  (.seq (.reg [
  ⟨none, (some 11), (.mv (.t 7))⟩,
  ⟨none, (some 12), (.mv (.t 5))⟩,
  ⟨none, (some 13), (.len false (.t 12))⟩,
  ⟨none, (some 14), (.bin .lss (.t 11) (.t 13))⟩])
  (.cond (.t 14) .skip (.exit 0)))

  (.seq (.block 1 (.reg [
  ⟨none, (some 17), (.mv (.t 6))⟩,
  ⟨none, (some 18), (.mv (.t 5))⟩,
  ⟨none, (some 19), (.mv (.t 7))⟩,
  ⟨none, (some 20), (.iadL 2 (.t 18) (.t 19))⟩,
  ⟨none, (some 21), (.ld true 2 (.t 20))⟩,
  ⟨none, (some 22), (.call 29 false [(.t 17), (.t 21)])⟩,
  ⟨none, (some 6), (.mv (.t 22))⟩]))
  (.reg [
  ⟨none, (some 15), (.mv (.t 7))⟩,
  ⟨none, (some 16), (.bin .add (.t 15) (.c (.cv (.sc (.int .i64 1)))))⟩,
  ⟨none, (some 7), (.mv (.t 16))⟩])))
def f16 : FnIR := ⟨24, [(.t 4)],

  (.seq (.reg [
  ⟨none, (some 4), (.mv (.c (.cv (.sc (.slice none 0 0)))))⟩])

  (.seq (.reg [
  ⟨none, (some 8), (.mv (.t 0))⟩,
  ⟨none, (some 9), (.mv (.t 1))⟩,
  ⟨none, (some 10), (.call 27 true [(.t 8), (.t 9)])⟩,
  ⟨none, (some 5), (.mv (.t 10))⟩])

  (.seq (.reg [
  ⟨none, (some 6), (.mv (.c (.cv (.sc (.slice none 0 0)))))⟩])

  (.seq
  (.seq (.reg [
  ⟨none, (some 7), (.mv (.c (.cv (.sc (.int .i64 0)))))⟩])
  (.block 0 (.loop f16_0)))

  (.seq (.reg [
  ⟨none, (some 23), (.mv (.t 6))⟩,
  ⟨none, (some 4), (.mv (.t 23))⟩])
  .ret)))))⟩
theorem f16_ok : compF Proofs.Try.prog [29] [] Proofs.Try.f16 = some f16 := by kernel_rfl

def f17_0 : IR :=

  (.seq (.reg [
  ⟨none, (some 6), (.mv (.t 0))⟩,
  ⟨none, (some 7), (.len false (.t 6))⟩,
  ⟨none, (some 8), (.mv (.t 1))⟩,
  ⟨none, (some 9), (.len false (.t 8))⟩,
  ⟨none, (some 10), (.bin .neq (.t 7) (.t 9))⟩])
  (.cond (.t 10)
  (.seq (.reg [
  ⟨none, (some 4), (.mv (.c (.cv (.sc (.bool false)))))⟩])
  .ret) .skip))
def f17_1 : IR :=

  (.seq
  (.seq (.reg [
  ⟨none, (some 11), (.mv (.t 5))⟩,
  ⟨none, (some 12), (.mv (.t 0))⟩,
  ⟨none, (some 13), (.len false (.t 12))⟩,
  ⟨none, (some 14), (.bin .lss (.t 11) (.t 13))⟩])
  (.cond (.t 14) .skip (.exit 0)))

  (.seq (.block 1
  (.seq (.draw [(
  ⟨none, (some 17), (.mv (.t 0))⟩, .p), (
  ⟨none, (some 18), (.mv (.t 5))⟩, .p), (
  ⟨none, (some 19), (.iadL 2 (.t 17) (.t 18))⟩, (.r 0 0)), (
  ⟨none, (some 20), (.fad 0 (.t 19))⟩, .p), (
  ⟨none, (some 21), (.ld false 1 (.t 20))⟩, (.r 0 0)), (
  ⟨none, (some 22), (.mv (.t 1))⟩, .p), (
  ⟨none, (some 23), (.mv (.t 5))⟩, .p), (
  ⟨none, (some 24), (.iadL 2 (.t 22) (.t 23))⟩, (.r 0 0)), (
  ⟨none, (some 25), (.fad 0 (.t 24))⟩, .p), (
  ⟨none, (some 26), (.ld false 1 (.t 25))⟩, (.r 0 0)), (
  ⟨none, (some 27), (.bin .neq (.t 21) (.t 26))⟩, .p), (
  ⟨none, (some 28), (.mv (.t 27))⟩, .p), (
  ⟨(some (28, false)), (some 29), (.mv (.t 0))⟩, .p), (
  ⟨(some (28, false)), (some 30), (.mv (.t 5))⟩, .p), (
  ⟨(some (28, false)), (some 31), (.iadL 2 (.t 29) (.t 30))⟩, (.r 0 0)), (
  ⟨(some (28, false)), (some 32), (.fad 1 (.t 31))⟩, .p), (
  ⟨(some (28, false)), (some 33), (.ld false 1 (.t 32))⟩, (.r 0 0)), (
  ⟨(some (28, false)), (some 34), (.cvBS (.t 33))⟩, (.r 0 0)), (
  ⟨(some (28, false)), (some 35), (.mv (.t 1))⟩, .p), (
  ⟨(some (28, false)), (some 36), (.mv (.t 5))⟩, .p), (
  ⟨(some (28, false)), (some 37), (.iadL 2 (.t 35) (.t 36))⟩, (.r 0 0)), (
  ⟨(some (28, false)), (some 38), (.fad 1 (.t 37))⟩, .p), (
  ⟨(some (28, false)), (some 39), (.ld false 1 (.t 38))⟩, (.r 0 0)), (
  ⟨(some (28, false)), (some 40), (.cvBS (.t 39))⟩, (.r 0 0)), (
  ⟨(some (28, false)), (some 41), (.bin .neq (.t 34) (.t 40))⟩, .p), (
  ⟨none, (some 42), (.pick (.t 28) (.c (.cv (.sc (.bool true)))) (.t 41))⟩, .p)])
  (.cond (.t 42)
  (.seq (.reg [
  ⟨none, (some 4), (.mv (.c (.cv (.sc (.bool false)))))⟩])
  .ret) .skip)))
  (.reg [
  ⟨none, (some 15), (.mv (.t 5))⟩,
  ⟨none, (some 16), (.bin .add (.t 15) (.c (.cv (.sc (.int .i64 1)))))⟩,
  ⟨none, (some 5), (.mv (.t 16))⟩])))
def f17 : FnIR := ⟨43, [(.t 4)],

  (.seq (.reg [
  ⟨none, (some 4), (.mv (.c (.cv (.sc (.bool false)))))⟩])

  (.seq f17_0

  (.seq
  (.seq (.reg [
  ⟨none, (some 5), (.mv (.c (.cv (.sc (.int .i64 0)))))⟩])
  (.block 0 (.loop f17_1)))

  (.seq (.reg [
  ⟨none, (some 4), (.mv (.c (.cv (.sc (.bool true)))))⟩])
  .ret))))⟩
theorem f17_ok : compF Proofs.Try.prog [] [] Proofs.Try.f17 = some f17 := by kernel_rfl

def f18_0 : IR :=
  (.cond (.t 14) .skip (.exit 0))
def f18_1 : IR :=

  (.seq (.reg [
  ⟨none, (some 20), (.fad 2 (.t 7))⟩,
  ⟨none, (some 21), (.ld false 1 (.t 20))⟩])
  (.cond (.t 21) (.exit 1) .skip))
def f18_2 : IR :=

  (.seq (.reg [
  ⟨none, (some 25), (.mv (.t 8))⟩,
  ⟨none, (some 26), (.bin .lss (.t 25) (.c (.cv (.sc (.int .i64 0)))))⟩])
  (.cond (.t 26) (.reg [
  ⟨none, (some 27), (.mv (.t 5))⟩,
  ⟨none, (some 28), (.len false (.t 27))⟩,
  ⟨none, (some 8), (.mv (.t 28))⟩]) .skip))
def f18_3 : IR :=

  (.seq (.reg [
  ⟨none, (some 14), (.bin .lss (.t 13) (.t 12))⟩])

  (.seq f18_0

  (.seq (.block 1
  (.seq (.reg [
  ⟨none, (some 15), (.iadL 3 (.t 11) (.t 13))⟩,
  ⟨none, (some 16), (.ld true 3 (.t 15))⟩,
  ⟨none, (some 7), (.alloc [(.cv (.sc (.string ⟨#[]⟩))), (.cv (.sc (.slice none 0 0))), (.cv (.sc (.bool false)))])⟩,
  ⟨none, none, (.st 3 (.t 7) (.t 16))⟩])

  (.seq (.reg [
  ⟨none, (some 17), (.mv (.t 5))⟩,
  ⟨none, (some 18), (.mkfn 32 [(.t 7)])⟩,
  ⟨none, (some 19), (.call 31 false [(.t 17), (.t 18)])⟩,
  ⟨none, (some 5), (.mv (.t 19))⟩])

  (.seq f18_1

  (.seq (.reg [
  ⟨none, (some 22), (.mv (.t 5))⟩,
  ⟨none, (some 23), (.mkfn 34 [(.t 7)])⟩,
  ⟨none, (some 24), (.call 33 false [(.t 22), (.t 23)])⟩,
  ⟨none, (some 8), (.mv (.t 24))⟩])

  (.seq f18_2
  (.draw [(
  ⟨none, (some 29), (.mv (.t 5))⟩, .p), (
  ⟨none, (some 30), (.mv (.t 8))⟩, .p), (
  ⟨none, (some 31), (.fad 0 (.t 7))⟩, .p), (
  ⟨none, (some 32), (.ld false 1 (.t 31))⟩, (.r 0 0)), (
  ⟨none, (some 33), (.fad 1 (.t 7))⟩, .p), (
  ⟨none, (some 34), (.ld false 1 (.t 33))⟩, (.r 0 0)), (
  ⟨none, (some 35), (.call 36 true [(.t 34)])⟩, (.r 0 0)), (
  ⟨none, (some 36), (.build [(.cv (.sc (.string ⟨#[]⟩))), (.cv (.sc (.slice none 0 0)))] [(0, (1, (.t 32))), (1, (1, (.t 35)))])⟩, .p), (
  ⟨none, (some 37), (.mksl 2 1 [(.cv (.sc (.string ⟨#[]⟩))), (.cv (.sc (.slice none 0 0)))] [(0, (2, (.t 36)))] false)⟩, (.r 0 0)), (
  ⟨none, (some 38), (.call 35 false [(.t 29), (.t 30), (.t 37)])⟩, .k), (
  ⟨none, (some 5), (.mv (.t 38))⟩, .p)])))))))
  (.reg [
  ⟨none, (some 39), (.bin .add (.t 13) (.c (.cv (.sc (.int .i64 1)))))⟩,
  ⟨none, (some 13), (.mv (.t 39))⟩]))))
def f18 : FnIR := ⟨41, [(.t 4)],

  (.seq (.reg [
  ⟨none, (some 4), (.mv (.c (.cv (.sc (.slice none 0 0)))))⟩])

  (.seq (.reg [
  ⟨none, (some 9), (.mv (.t 0))⟩,
  ⟨none, (some 10), (.call 30 false [(.t 9)])⟩,
  ⟨none, (some 5), (.mv (.t 10))⟩])

  (.seq
  (.seq (.reg [
  ⟨none, (some 11), (.mv (.t 1))⟩,
  ⟨none, (some 12), (.len false (.t 11))⟩,
  ⟨none, (some 13), (.mv (.c (.cv (.sc (.int .i64 0)))))⟩])
  (.block 0 (.loop f18_3)))

  (.seq (.reg [
  ⟨none, (some 40), (.mv (.t 5))⟩,
  ⟨none, (some 4), (.mv (.t 40))⟩])
  .ret))))⟩
theorem f18_ok : compF Proofs.Try.prog [30, 31, 33, 35] [] Proofs.Try.f18 = some f18 := by kernel_rfl

def f19_0 : IR :=

  (.seq
  (.seq (.reg [
  ⟨none, (some 6), (.mv (.t 5))⟩,
  ⟨none, (some 7), (.mv (.t 1))⟩,
  ⟨none, (some 8), (.len false (.t 7))⟩,
  ⟨none, (some 9), (.bin .lss (.t 6) (.t 8))⟩])
  (.cond (.t 9) .skip (.exit 0)))

  (.seq (.block 1
  (.seq (.reg [
  ⟨none, (some 12), (.mv (.t 1))⟩,
  ⟨none, (some 13), (.mv (.t 5))⟩,
  ⟨none, (some 14), (.iadL 3 (.t 12) (.t 13))⟩,
  ⟨none, (some 15), (.fad 2 (.t 14))⟩,
  ⟨none, (some 16), (.ld false 1 (.t 15))⟩])
  (.cond (.t 16) (.reg [
  ⟨none, (some 17), (.mv (.t 0))⟩,
  ⟨none, (some 18), (.mv (.t 1))⟩,
  ⟨none, (some 19), (.mv (.t 5))⟩,
  ⟨none, (some 20), (.iadL 3 (.t 18) (.t 19))⟩,
  ⟨none, (some 21), (.fad 0 (.t 20))⟩,
  ⟨none, (some 22), (.ld false 1 (.t 21))⟩,
  ⟨none, (some 23), (.call 37 true [(.t 17), (.t 22)])⟩,
  ⟨none, (some 0), (.mv (.t 23))⟩]) (.draw [(
  ⟨none, (some 24), (.mv (.t 0))⟩, .p), (
  ⟨none, (some 25), (.mv (.t 1))⟩, .p), (
  ⟨none, (some 26), (.mv (.t 5))⟩, .p), (
  ⟨none, (some 27), (.iadL 3 (.t 25) (.t 26))⟩, (.r 0 0)), (
  ⟨none, (some 28), (.fad 0 (.t 27))⟩, .p), (
  ⟨none, (some 29), (.ld false 1 (.t 28))⟩, (.r 0 0)), (
  ⟨none, (some 30), (.mv (.t 1))⟩, .p), (
  ⟨none, (some 31), (.mv (.t 5))⟩, .p), (
  ⟨none, (some 32), (.iadL 3 (.t 30) (.t 31))⟩, (.r 0 0)), (
  ⟨none, (some 33), (.fad 1 (.t 32))⟩, .p), (
  ⟨none, (some 34), (.ld false 1 (.t 33))⟩, (.r 0 0)), (
  ⟨none, (some 35), (.build [(.cv (.sc (.string ⟨#[]⟩))), (.cv (.sc (.slice none 0 0)))] [(0, (1, (.t 29))), (1, (1, (.t 34)))])⟩, .p), (
  ⟨none, (some 36), (.call 38 true [(.t 24), (.t 35)])⟩, (.r 0 0)), (
  ⟨none, (some 0), (.mv (.t 36))⟩, .p)]))))
  (.reg [
  ⟨none, (some 10), (.mv (.t 5))⟩,
  ⟨none, (some 11), (.bin .add (.t 10) (.c (.cv (.sc (.int .i64 1)))))⟩,
  ⟨none, (some 5), (.mv (.t 11))⟩])))
def f19 : FnIR := ⟨38, [(.t 4)],

  (.seq (.reg [
  ⟨none, (some 4), (.mv (.c (.cv (.sc (.slice none 0 0)))))⟩])

  (.seq
  (.seq (.reg [
  ⟨none, (some 5), (.mv (.c (.cv (.sc (.int .i64 0)))))⟩])
  (.block 0 (.loop f19_0)))

  (.seq (.reg [
  ⟨none, (some 37), (.mv (.t 0))⟩,
  ⟨none, (some 4), (.mv (.t 37))⟩])
  .ret)))⟩
theorem f19_ok : compF Proofs.Try.prog [] [] Proofs.Try.f19 = some f19 := by kernel_rfl

def f20_0 : IR :=

  (.seq (.reg [
  ⟨none, (some 6), (.mv (.t 0))⟩,
  ⟨none, (some 7), (.len false (.t 6))⟩,
  ⟨none, (some 8), (.mv (.t 1))⟩,
  ⟨none, (some 9), (.len false (.t 8))⟩,
  ⟨none, (some 10), (.bin .neq (.t 7) (.t 9))⟩])
  (.cond (.t 10)
  (.seq (.reg [
  ⟨none, (some 4), (.mv (.c (.cv (.sc (.bool false)))))⟩])
  .ret) .skip))
def f20_1 : IR :=

  (.seq
  (.seq (.reg [
  ⟨none, (some 11), (.mv (.t 5))⟩,
  ⟨none, (some 12), (.mv (.t 0))⟩,
  ⟨none, (some 13), (.len false (.t 12))⟩,
  ⟨none, (some 14), (.bin .lss (.t 11) (.t 13))⟩])
  (.cond (.t 14) .skip (.exit 0)))

  (.seq (.block 1
  (.seq (.draw [(
  ⟨none, (some 17), (.mv (.t 0))⟩, .p), (
  ⟨none, (some 18), (.mv (.t 5))⟩, .p), (
  ⟨none, (some 19), (.iadL 3 (.t 17) (.t 18))⟩, (.r 0 0)), (
  ⟨none, (some 20), (.fad 0 (.t 19))⟩, .p), (
  ⟨none, (some 21), (.ld false 1 (.t 20))⟩, (.r 0 0)), (
  ⟨none, (some 22), (.mv (.t 1))⟩, .p), (
  ⟨none, (some 23), (.mv (.t 5))⟩, .p), (
  ⟨none, (some 24), (.iadL 3 (.t 22) (.t 23))⟩, (.r 0 0)), (
  ⟨none, (some 25), (.fad 0 (.t 24))⟩, .p), (
  ⟨none, (some 26), (.ld false 1 (.t 25))⟩, (.r 0 0)), (
  ⟨none, (some 27), (.bin .neq (.t 21) (.t 26))⟩, .p), (
  ⟨none, (some 28), (.mv (.t 27))⟩, .p), (
  ⟨(some (28, false)), (some 29), (.mv (.t 0))⟩, .p), (
  ⟨(some (28, false)), (some 30), (.mv (.t 5))⟩, .p), (
  ⟨(some (28, false)), (some 31), (.iadL 3 (.t 29) (.t 30))⟩, (.r 0 0)), (
  ⟨(some (28, false)), (some 32), (.fad 1 (.t 31))⟩, .p), (
  ⟨(some (28, false)), (some 33), (.ld false 1 (.t 32))⟩, (.r 0 0)), (
  ⟨(some (28, false)), (some 34), (.cvBS (.t 33))⟩, (.r 0 0)), (
  ⟨(some (28, false)), (some 35), (.mv (.t 1))⟩, .p), (
  ⟨(some (28, false)), (some 36), (.mv (.t 5))⟩, .p), (
  ⟨(some (28, false)), (some 37), (.iadL 3 (.t 35) (.t 36))⟩, (.r 0 0)), (
  ⟨(some (28, false)), (some 38), (.fad 1 (.t 37))⟩, .p), (
  ⟨(some (28, false)), (some 39), (.ld false 1 (.t 38))⟩, (.r 0 0)), (
  ⟨(some (28, false)), (some 40), (.cvBS (.t 39))⟩, (.r 0 0)), (
  ⟨(some (28, false)), (some 41), (.bin .neq (.t 34) (.t 40))⟩, .p), (
  ⟨none, (some 42), (.pick (.t 28) (.c (.cv (.sc (.bool true)))) (.t 41))⟩, .p), (
  ⟨none, (some 43), (.mv (.t 42))⟩, .p), (
  ⟨(some (43, false)), (some 44), (.mv (.t 0))⟩, .p), (
  ⟨(some (43, false)), (some 45), (.mv (.t 5))⟩, .p), (
  ⟨(some (43, false)), (some 46), (.iadL 3 (.t 44) (.t 45))⟩, (.r 0 0)), (
  ⟨(some (43, false)), (some 47), (.fad 2 (.t 46))⟩, .p), (
  ⟨(some (43, false)), (some 48), (.ld false 1 (.t 47))⟩, (.r 0 0)), (
  ⟨(some (43, false)), (some 49), (.mv (.t 1))⟩, .p), (
  ⟨(some (43, false)), (some 50), (.mv (.t 5))⟩, .p), (
  ⟨(some (43, false)), (some 51), (.iadL 3 (.t 49) (.t 50))⟩, (.r 0 0)), (
  ⟨(some (43, false)), (some 52), (.fad 2 (.t 51))⟩, .p), (
  ⟨(some (43, false)), (some 53), (.ld false 1 (.t 52))⟩, (.r 0 0)), (
  ⟨(some (43, false)), (some 54), (.eqb true (.t 48) (.t 53))⟩, .p), (
  ⟨none, (some 55), (.pick (.t 43) (.c (.cv (.sc (.bool true)))) (.t 54))⟩, .p)])
  (.cond (.t 55)
  (.seq (.reg [
  ⟨none, (some 4), (.mv (.c (.cv (.sc (.bool false)))))⟩])
  .ret) .skip)))
  (.reg [
  ⟨none, (some 15), (.mv (.t 5))⟩,
  ⟨none, (some 16), (.bin .add (.t 15) (.c (.cv (.sc (.int .i64 1)))))⟩,
  ⟨none, (some 5), (.mv (.t 16))⟩])))
def f20 : FnIR := ⟨56, [(.t 4)],

  (.seq (.reg [
  ⟨none, (some 4), (.mv (.c (.cv (.sc (.bool false)))))⟩])

  (.seq f20_0

  (.seq
  (.seq (.reg [
  ⟨none, (some 5), (.mv (.c (.cv (.sc (.int .i64 0)))))⟩])
  (.block 0 (.loop f20_1)))

  (.seq (.reg [
  ⟨none, (some 4), (.mv (.c (.cv (.sc (.bool true)))))⟩])
  .ret))))⟩
theorem f20_ok : compF Proofs.Try.prog [] [] Proofs.Try.f20 = some f20 := by kernel_rfl

def f21_0 : IR :=

  (.seq (.reg [
  ⟨none, (some 6), (.mv (.t 11))⟩])
  (.reg [
  ⟨none, (some 7), (.mv (.t 12))⟩]))
def f21_1 : IR :=
  (.block 1 (.block 2
  (.seq (.reg [
  ⟨none, (some 14), (.mv (.t 7))⟩,
  ⟨none, (some 15), (.eqn .ptr false (.t 14))⟩,
  ⟨none, (some 13), (.mv (.t 15))⟩])
  (.cond (.t 13) (.draw [(
  ⟨none, (some 16), (.ld false 1 (.t 5))⟩, (.r 0 0)), (
  ⟨none, (some 17), (.mv (.t 6))⟩, .p), (
  ⟨none, (some 18), (.nilck (.t 17))⟩, .p), (
  ⟨none, (some 19), (.fad 0 (.t 18))⟩, .p), (
  ⟨none, (some 20), (.ld false 1 (.t 19))⟩, (.r 0 0)), (
  ⟨none, (some 21), (.build [(.cv (.sc (.string ⟨#[]⟩))), (.cv (.sc (.slice none 0 0))), (.cv (.sc (.bool false)))] [(0, (1, (.t 20))), (2, (1, (.c (.cv (.sc (.bool true))))))])⟩, .p), (
  ⟨none, (some 22), (.mksl 3 1 [(.cv (.sc (.string ⟨#[]⟩))), (.cv (.sc (.slice none 0 0))), (.cv (.sc (.bool false)))] [(0, (3, (.t 21)))] false)⟩, (.r 0 0)), (
  ⟨none, (some 23), (.app 3 48 [(.sc (.string ⟨#[]⟩)), (.sc (.slice none 0 0)), (.sc (.bool false))] (.t 16) (.t 22))⟩, .k), (
  ⟨none, none, (.st 1 (.t 5) (.t 23))⟩, .k)])
  (.seq (.draw [(
  ⟨none, (some 25), (.mv (.t 6))⟩, .p), (
  ⟨none, (some 26), (.eqn .ptr false (.t 25))⟩, .p), (
  ⟨none, (some 27), (.mv (.t 26))⟩, .p), (
  ⟨(some (27, false)), (some 28), (.mv (.t 6))⟩, .p), (
  ⟨(some (27, false)), (some 29), (.nilck (.t 28))⟩, .p), (
  ⟨(some (27, false)), (some 30), (.fad 1 (.t 29))⟩, .p), (
  ⟨(some (27, false)), (some 31), (.ld false 1 (.t 30))⟩, (.r 0 0)), (
  ⟨(some (27, false)), (some 32), (.mv (.t 7))⟩, .p), (
  ⟨(some (27, false)), (some 33), (.nilck (.t 32))⟩, .p), (
  ⟨(some (27, false)), (some 34), (.fad 1 (.t 33))⟩, .p), (
  ⟨(some (27, false)), (some 35), (.ld false 1 (.t 34))⟩, (.r 0 0)), (
  ⟨(some (27, false)), (some 36), (.call 40 true [(.t 31), (.t 35)])⟩, (.r 0 0)), (
  ⟨(some (27, false)), (some 37), (.un .not (.t 36))⟩, .p), (
  ⟨none, (some 38), (.pick (.t 27) (.c (.cv (.sc (.bool true)))) (.t 37))⟩, .p), (
  ⟨none, (some 24), (.mv (.t 38))⟩, .p)])
  (.cond (.t 24) (.draw [(
  ⟨none, (some 39), (.ld false 1 (.t 5))⟩, (.r 0 0)), (
  ⟨none, (some 40), (.mv (.t 7))⟩, .p), (
  ⟨none, (some 41), (.nilck (.t 40))⟩, .p), (
  ⟨none, (some 42), (.fad 0 (.t 41))⟩, .p), (
  ⟨none, (some 43), (.ld false 1 (.t 42))⟩, (.r 0 0)), (
  ⟨none, (some 44), (.mv (.t 7))⟩, .p), (
  ⟨none, (some 45), (.nilck (.t 44))⟩, .p), (
  ⟨none, (some 46), (.fad 1 (.t 45))⟩, .p), (
  ⟨none, (some 47), (.ld false 1 (.t 46))⟩, (.r 0 0)), (
  ⟨none, (some 48), (.call 36 true [(.t 47)])⟩, (.r 0 0)), (
  ⟨none, (some 49), (.build [(.cv (.sc (.string ⟨#[]⟩))), (.cv (.sc (.slice none 0 0))), (.cv (.sc (.bool false)))] [(0, (1, (.t 43))), (1, (1, (.t 48)))])⟩, .p), (
  ⟨none, (some 50), (.mksl 3 1 [(.cv (.sc (.string ⟨#[]⟩))), (.cv (.sc (.slice none 0 0))), (.cv (.sc (.bool false)))] [(0, (3, (.t 49)))] false)⟩, (.r 0 0)), (
  ⟨none, (some 51), (.app 3 48 [(.sc (.string ⟨#[]⟩)), (.sc (.slice none 0 0)), (.sc (.bool false))] (.t 39) (.t 50))⟩, .k), (
  ⟨none, none, (.st 1 (.t 5) (.t 51))⟩, .k)]) .skip))))))
def f21 : FnIR := ⟨53, [(.t 4)],

  (.seq (.reg [
  ⟨none, (some 4), (.mv (.c (.cv (.sc (.slice none 0 0)))))⟩])

  (.seq (.reg [
  ⟨none, (some 5), (.alloc [(.cv (.sc (.slice none 0 0)))])⟩])

  (.seq
  (.seq (.reg [
  ⟨none, (some 8), (.mv (.t 0))⟩,
  ⟨none, (some 9), (.mv (.t 1))⟩,
  ⟨none, (some 10), (.call 39 false [(.t 8), (.t 9)])⟩])
  (.block 0 (.rangeF (.t 10) [11, 12] f21_0 f21_1)))

  (.seq (.reg [
  ⟨none, (some 52), (.ld false 1 (.t 5))⟩,
  ⟨none, (some 4), (.mv (.t 52))⟩])
  .ret))))⟩
theorem f21_ok : compF Proofs.Try.prog [39] [] Proofs.Try.f21 = some f21 := by kernel_rfl

def f22_0 : IR :=

  (.seq (.reg [
  ⟨none, (some 51), (.mv (.t 9))⟩,
  ⟨none, (some 52), (.un .not (.t 51))⟩])
  (.cond (.t 52) (.reg [
  ⟨none, (some 53), (.mv (.t 5))⟩,
  ⟨none, (some 54), (.mv (.t 0))⟩,
  ⟨none, (some 55), (.mv (.t 6))⟩,
  ⟨none, (some 56), (.iadL 2 (.t 54) (.t 55))⟩,
  ⟨none, (some 57), (.fad 0 (.t 56))⟩,
  ⟨none, (some 58), (.ld false 1 (.t 57))⟩,
  ⟨none, (some 59), (.build [(.cv (.sc (.string ⟨#[]⟩))), (.cv (.sc (.slice none 0 0))), (.cv (.sc (.bool false)))] [(0, (1, (.t 58))), (2, (1, (.c (.cv (.sc (.bool true))))))])⟩,
  ⟨none, (some 60), (.mksl 3 1 [(.cv (.sc (.string ⟨#[]⟩))), (.cv (.sc (.slice none 0 0))), (.cv (.sc (.bool false)))] [(0, (3, (.t 59)))] false)⟩,
  ⟨none, (some 61), (.app 3 48 [(.sc (.string ⟨#[]⟩)), (.sc (.slice none 0 0)), (.sc (.bool false))] (.t 53) (.t 60))⟩,
  ⟨none, (some 5), (.mv (.t 61))⟩]) .skip))
def f22_1 : IR :=

  (.seq
  (.seq (.draw [(
  ⟨none, (some 18), (.mv (.t 6))⟩, .p), (
  ⟨none, (some 19), (.mv (.t 0))⟩, .p), (
  ⟨none, (some 20), (.len false (.t 19))⟩, .p), (
  ⟨none, (some 21), (.bin .lss (.t 18) (.t 20))⟩, .p), (
  ⟨none, (some 22), (.mv (.t 21))⟩, .p), (
  ⟨(some (22, true)), (some 23), (.mv (.t 7))⟩, .p), (
  ⟨(some (22, true)), (some 24), (.mv (.t 1))⟩, .p), (
  ⟨(some (22, true)), (some 25), (.len false (.t 24))⟩, .p), (
  ⟨(some (22, true)), (some 26), (.bin .eql (.t 23) (.t 25))⟩, .p), (
  ⟨(some (22, true)), (some 27), (.mv (.t 26))⟩, .p), (
  ⟨(some (27, false)), (some 28), (.mv (.t 0))⟩, .p), (
  ⟨(some (27, false)), (some 29), (.mv (.t 6))⟩, .p), (
  ⟨(some (27, false)), (some 30), (.iadL 2 (.t 28) (.t 29))⟩, (.r 0 0)), (
  ⟨(some (27, false)), (some 31), (.fad 0 (.t 30))⟩, .p), (
  ⟨(some (27, false)), (some 32), (.ld false 1 (.t 31))⟩, (.r 0 0)), (
  ⟨(some (27, false)), (some 33), (.mv (.t 1))⟩, .p), (
  ⟨(some (27, false)), (some 34), (.mv (.t 7))⟩, .p), (
  ⟨(some (27, false)), (some 35), (.iadL 2 (.t 33) (.t 34))⟩, (.r 0 0)), (
  ⟨(some (27, false)), (some 36), (.fad 0 (.t 35))⟩, .p), (
  ⟨(some (27, false)), (some 37), (.ld false 1 (.t 36))⟩, (.r 0 0)), (
  ⟨(some (27, false)), (some 38), (.bin .lss (.t 32) (.t 37))⟩, .p), (
  ⟨(some (22, true)), (some 39), (.pick (.t 27) (.c (.cv (.sc (.bool true)))) (.t 38))⟩, .p), (
  ⟨none, (some 40), (.pick (.t 22) (.t 39) (.c (.cv (.sc (.bool false)))))⟩, .p)])
  (.cond (.t 40) .skip (.exit 2)))
  (.block 3
  (.seq (.reg [
  ⟨none, (some 42), (.mv (.t 1))⟩,
  ⟨none, (some 43), (.mv (.t 0))⟩,
  ⟨none, (some 44), (.mv (.t 6))⟩,
  ⟨none, (some 45), (.iadL 2 (.t 43) (.t 44))⟩,
  ⟨none, (some 46), (.fad 0 (.t 45))⟩,
  ⟨none, (some 47), (.ld false 1 (.t 46))⟩,
  ⟨none, (some 48), (.call 41 true [(.t 42), (.t 47)])⟩,
  ⟨none, (some 41), (.mv (.t 48))⟩,
  ⟨none, (some 49), (.ext (.t 41) 0)⟩,
  ⟨none, (some 50), (.ext (.t 41) 1)⟩,
  ⟨none, (some 8), (.alloc [(.cv (.sc (.string ⟨#[]⟩))), (.cv (.sc (.slice none 0 0)))])⟩,
  ⟨none, none, (.st 2 (.t 8) (.t 49))⟩,
  ⟨none, (some 9), (.mv (.t 50))⟩])

  (.seq f22_0
  (.reg [
  ⟨none, (some 62), (.mv (.t 6))⟩,
  ⟨none, (some 63), (.bin .add (.t 62) (.c (.cv (.sc (.int .i64 1)))))⟩,
  ⟨none, (some 6), (.mv (.t 63))⟩])))))
def f22_2 : IR :=

  (.seq (.reg [
  ⟨none, (some 64), (.mv (.t 7))⟩,
  ⟨none, (some 65), (.mv (.t 1))⟩,
  ⟨none, (some 66), (.len false (.t 65))⟩,
  ⟨none, (some 67), (.bin .eql (.t 64) (.t 66))⟩])
  (.cond (.t 67)
  (.seq (.reg [
  ⟨none, (some 68), (.mv (.t 5))⟩,
  ⟨none, (some 4), (.mv (.t 68))⟩])
  .ret) .skip))
def f22_3 : IR :=

  (.seq
  (.seq (.reg [
  ⟨none, (some 12), (.mv (.t 7))⟩,
  ⟨none, (some 13), (.mv (.t 1))⟩,
  ⟨none, (some 14), (.len false (.t 13))⟩,
  ⟨none, (some 15), (.bin .leq (.t 12) (.t 14))⟩])
  (.cond (.t 15) .skip (.exit 0)))

  (.seq (.block 1
  (.seq (.block 2 (.loop f22_1))

  (.seq f22_2

  (.seq (.reg [
  ⟨none, (some 70), (.mv (.t 0))⟩,
  ⟨none, (some 71), (.mv (.t 1))⟩,
  ⟨none, (some 72), (.mv (.t 7))⟩,
  ⟨none, (some 73), (.iadL 2 (.t 71) (.t 72))⟩,
  ⟨none, (some 74), (.fad 0 (.t 73))⟩,
  ⟨none, (some 75), (.ld false 1 (.t 74))⟩,
  ⟨none, (some 76), (.call 41 true [(.t 70), (.t 75)])⟩,
  ⟨none, (some 69), (.mv (.t 76))⟩,
  ⟨none, (some 77), (.ext (.t 69) 0)⟩,
  ⟨none, (some 78), (.ext (.t 69) 1)⟩,
  ⟨none, (some 10), (.alloc [(.cv (.sc (.string ⟨#[]⟩))), (.cv (.sc (.slice none 0 0)))])⟩,
  ⟨none, none, (.st 2 (.t 10) (.t 77))⟩,
  ⟨none, (some 11), (.mv (.t 78))⟩])

  (.seq (.draw [(
  ⟨none, (some 79), (.mv (.t 11))⟩, .p), (
  ⟨none, (some 80), (.un .not (.t 79))⟩, .p), (
  ⟨none, (some 81), (.mv (.t 80))⟩, .p), (
  ⟨(some (81, false)), (some 82), (.fad 1 (.t 10))⟩, .p), (
  ⟨(some (81, false)), (some 83), (.ld false 1 (.t 82))⟩, (.r 0 0)), (
  ⟨(some (81, false)), (some 84), (.cvBS (.t 83))⟩, (.r 0 0)), (
  ⟨(some (81, false)), (some 85), (.mv (.t 1))⟩, .p), (
  ⟨(some (81, false)), (some 86), (.mv (.t 7))⟩, .p), (
  ⟨(some (81, false)), (some 87), (.iadL 2 (.t 85) (.t 86))⟩, (.r 0 0)), (
  ⟨(some (81, false)), (some 88), (.fad 1 (.t 87))⟩, .p), (
  ⟨(some (81, false)), (some 89), (.ld false 1 (.t 88))⟩, (.r 0 0)), (
  ⟨(some (81, false)), (some 90), (.cvBS (.t 89))⟩, (.r 0 0)), (
  ⟨(some (81, false)), (some 91), (.bin .neq (.t 84) (.t 90))⟩, .p), (
  ⟨none, (some 92), (.pick (.t 81) (.c (.cv (.sc (.bool true)))) (.t 91))⟩, .p)])
  (.cond (.t 92) (.draw [(
  ⟨none, (some 93), (.mv (.t 5))⟩, .p), (
  ⟨none, (some 94), (.mv (.t 1))⟩, .p), (
  ⟨none, (some 95), (.mv (.t 7))⟩, .p), (
  ⟨none, (some 96), (.iadL 2 (.t 94) (.t 95))⟩, (.r 0 0)), (
  ⟨none, (some 97), (.fad 0 (.t 96))⟩, .p), (
  ⟨none, (some 98), (.ld false 1 (.t 97))⟩, (.r 0 0)), (
  ⟨none, (some 99), (.mv (.t 1))⟩, .p), (
  ⟨none, (some 100), (.mv (.t 7))⟩, .p), (
  ⟨none, (some 101), (.iadL 2 (.t 99) (.t 100))⟩, (.r 0 0)), (
  ⟨none, (some 102), (.fad 1 (.t 101))⟩, .p), (
  ⟨none, (some 103), (.ld false 1 (.t 102))⟩, (.r 0 0)), (
  ⟨none, (some 104), (.build [(.cv (.sc (.string ⟨#[]⟩))), (.cv (.sc (.slice none 0 0))), (.cv (.sc (.bool false)))] [(0, (1, (.t 98))), (1, (1, (.t 103)))])⟩, .p), (
  ⟨none, (some 105), (.mksl 3 1 [(.cv (.sc (.string ⟨#[]⟩))), (.cv (.sc (.slice none 0 0))), (.cv (.sc (.bool false)))] [(0, (3, (.t 104)))] false)⟩, (.r 0 0)), (
  ⟨none, (some 106), (.app 3 48 [(.sc (.string ⟨#[]⟩)), (.sc (.slice none 0 0)), (.sc (.bool false))] (.t 93) (.t 105))⟩, .k), (
  ⟨none, (some 5), (.mv (.t 106))⟩, .p)]) .skip))))))
  (.reg [
  ⟨none, (some 16), (.mv (.t 7))⟩,
  ⟨none, (some 17), (.bin .add (.t 16) (.c (.cv (.sc (.int .i64 1)))))⟩,
  ⟨none, (some 7), (.mv (.t 17))⟩])))
def f22 : FnIR := ⟨108, [(.t 4)],

  (.seq (.reg [
  ⟨none, (some 4), (.mv (.c (.cv (.sc (.slice none 0 0)))))⟩])

  (.seq (.reg [
  ⟨none, (some 5), (.mv (.c (.cv (.sc (.slice none 0 0)))))⟩])

  (.seq (.reg [
  ⟨none, (some 6), (.mv (.c (.cv (.sc (.int .i64 0)))))⟩])

  (.seq
  (.seq (.reg [
  ⟨none, (some 7), (.mv (.c (.cv (.sc (.int .i64 0)))))⟩])
  (.block 0 (.loop f22_3)))

  (.seq (.reg [
  ⟨none, (some 107), (.mv (.t 5))⟩,
  ⟨none, (some 4), (.mv (.t 107))⟩])
  .ret)))))⟩
theorem f22_ok : compF Proofs.Try.prog [] [] Proofs.Try.f22 = some f22 := by kernel_rfl

def f23_0 : IR :=

  (.seq (.reg [
  ⟨none, (some 22), (.mv (.t 9))⟩,
  ⟨none, (some 23), (.bin .eql (.t 22) (.c (.cv (.sc (.int .i64 0)))))⟩])
  (.cond (.t 23) (.exit 0) .skip))
def f23_1 : IR :=

  (.seq
  (.seq (.reg [
  ⟨none, (some 10), (.mv (.t 0))⟩,
  ⟨none, (some 11), (.call 42 true [(.t 10)])⟩])
  (.cond (.t 11) .skip (.exit 0)))
  (.block 1
  (.seq (.reg [
  ⟨none, (some 13), (.mv (.t 0))⟩,
  ⟨none, (some 14), (.mv (.t 6))⟩,
  ⟨none, (some 15), (.len false (.t 14))⟩,
  ⟨none, (some 16), (.mv (.t 1))⟩,
  ⟨none, (some 17), (.mv (.t 7))⟩,
  ⟨none, (some 18), (.slL 1 (.t 16) (some (.t 17)) none none)⟩,
  ⟨none, (some 19), (.call 43 false [(.t 13), (.t 15), (.t 18)])⟩,
  ⟨none, (some 12), (.mv (.t 19))⟩,
  ⟨none, (some 20), (.ext (.t 12) 0)⟩,
  ⟨none, (some 21), (.ext (.t 12) 1)⟩,
  ⟨none, (some 8), (.mv (.t 20))⟩,
  ⟨none, (some 9), (.mv (.t 21))⟩])

  (.seq f23_0
  (.reg [
  ⟨none, (some 24), (.mv (.t 6))⟩,
  ⟨none, (some 25), (.mv (.t 8))⟩,
  ⟨none, (some 26), (.mksl 1 1 [(.cv (.sc (.slice none 0 0)))] [(0, (1, (.t 25)))] false)⟩,
  ⟨none, (some 27), (.app 1 24 [(.sc (.slice none 0 0))] (.t 24) (.t 26))⟩,
  ⟨none, (some 28), (.mv (.t 7))⟩,
  ⟨none, (some 29), (.mv (.t 9))⟩,
  ⟨none, (some 30), (.bin .add (.t 28) (.t 29))⟩,
  ⟨none, (some 6), (.mv (.t 27))⟩,
  ⟨none, (some 7), (.mv (.t 30))⟩])))))
def f23 : FnIR := ⟨33, [(.t 4), (.t 5)],

  (.seq (.reg [
  ⟨none, (some 4), (.mv (.c (.cv (.sc (.slice none 0 0)))))⟩,
  ⟨none, (some 5), (.mv (.c (.cv (.sc (.int .i64 0)))))⟩])

  (.seq (.reg [
  ⟨none, (some 6), (.mv (.c (.cv (.sc (.slice none 0 0)))))⟩])

  (.seq (.reg [
  ⟨none, (some 7), (.mv (.c (.cv (.sc (.int .i64 0)))))⟩])

  (.seq (.block 0 (.loop f23_1))

  (.seq (.reg [
  ⟨none, (some 31), (.mv (.t 6))⟩,
  ⟨none, (some 32), (.mv (.t 7))⟩,
  ⟨none, (some 4), (.mv (.t 31))⟩,
  ⟨none, (some 5), (.mv (.t 32))⟩])
  .ret)))))⟩
theorem f23_ok : compF Proofs.Try.prog [43] [] Proofs.Try.f23 = some f23 := by kernel_rfl

def f24_0 : IR :=

  (.seq (.reg [
  ⟨none, (some 16), (.mv (.t 0))⟩,
  ⟨none, (some 17), (.call 42 true [(.t 16)])⟩,
  ⟨none, (some 18), (.un .not (.t 17))⟩,
  ⟨none, (some 19), (.mv (.t 18))⟩,
  ⟨(some (19, false)), (some 20), (.mv (.t 1))⟩,
  ⟨(some (19, false)), (some 21), (.call 42 true [(.t 20)])⟩,
  ⟨(some (19, false)), (some 22), (.un .not (.t 21))⟩,
  ⟨none, (some 23), (.pick (.t 19) (.c (.cv (.sc (.bool true)))) (.t 22))⟩,
  ⟨none, (some 24), (.mv (.t 23))⟩,
  ⟨(some (24, false)), (some 25), (.mv (.t 8))⟩,
  ⟨(some (24, false)), (some 26), (.len false (.t 25))⟩,
  ⟨(some (24, false)), (some 27), (.bin .gtr (.t 26) (.c (.cv (.sc (.int .i64 200)))))⟩,
  ⟨none, (some 28), (.pick (.t 24) (.c (.cv (.sc (.bool true)))) (.t 27))⟩])
  (.cond (.t 28)
  (.seq (.reg [
  ⟨none, (some 6), (.mv (.c (.cv (.sc (.slice none 0 0)))))⟩,
  ⟨none, (some 7), (.mv (.c (.cv (.sc (.bool false)))))⟩])
  .ret) .skip))
def f24_1 : IR :=
  (.cond (.t 32) .skip (.exit 0))
def f24_2 : IR :=

  (.seq (.reg [
  ⟨none, (some 32), (.bin .lss (.t 31) (.t 30))⟩])

  (.seq f24_1

  (.seq (.block 1
  (.seq (.reg [
  ⟨none, (some 33), (.mv (.t 31))⟩,
  ⟨none, (some 34), (.iadL 1 (.t 29) (.t 31))⟩,
  ⟨none, (some 35), (.ld false 1 (.t 34))⟩,
  ⟨none, (some 10), (.mv (.t 33))⟩,
  ⟨none, (some 11), (.mv (.t 35))⟩])
  (.reg [
  ⟨none, (some 36), (.mv (.t 9))⟩,
  ⟨none, (some 37), (.mv (.t 0))⟩,
  ⟨none, (some 38), (.mv (.t 1))⟩,
  ⟨none, (some 39), (.mv (.t 10))⟩,
  ⟨none, (some 40), (.mv (.t 8))⟩,
  ⟨none, (some 41), (.len false (.t 40))⟩,
  ⟨none, (some 42), (.mv (.t 11))⟩,
  ⟨none, (some 43), (.call 47 true [(.t 37), (.t 38), (.t 39), (.t 41), (.t 42)])⟩,
  ⟨none, (some 44), (.mksl 1 1 [(.cv (.sc (.slice none 0 0)))] [(0, (1, (.t 43)))] false)⟩,
  ⟨none, (some 45), (.app 1 24 [(.sc (.slice none 0 0))] (.t 36) (.t 44))⟩,
  ⟨none, (some 9), (.mv (.t 45))⟩])))
  (.reg [
  ⟨none, (some 46), (.bin .add (.t 31) (.c (.cv (.sc (.int .i64 1)))))⟩,
  ⟨none, (some 31), (.mv (.t 46))⟩]))))
def f24 : FnIR := ⟨48, [(.t 6), (.t 7)],

  (.seq (.reg [
  ⟨none, (some 6), (.mv (.c (.cv (.sc (.slice none 0 0)))))⟩,
  ⟨none, (some 7), (.mv (.c (.cv (.sc (.bool false)))))⟩])

  (.seq (.reg [
  ⟨none, (some 12), (.mv (.t 2))⟩,
  ⟨none, (some 13), (.call 46 true [(.t 12)])⟩,
  ⟨none, (some 14), (.call 45 false [(.t 13), (.c (.cv (.sc (.int .i64 49))))])⟩,
  ⟨none, (some 15), (.call 44 false [(.t 14)])⟩,
  ⟨none, (some 8), (.mv (.t 15))⟩])

  (.seq f24_0

  (.seq (.reg [
  ⟨none, (some 9), (.mv (.c (.cv (.sc (.slice none 0 0)))))⟩])

  (.seq
  (.seq (.reg [
  ⟨none, (some 29), (.mv (.t 8))⟩,
  ⟨none, (some 30), (.len false (.t 29))⟩,
  ⟨none, (some 31), (.mv (.c (.cv (.sc (.int .i64 0)))))⟩])
  (.block 0 (.loop f24_2)))

  (.seq (.reg [
  ⟨none, (some 47), (.mv (.t 9))⟩,
  ⟨none, (some 6), (.mv (.t 47))⟩,
  ⟨none, (some 7), (.mv (.c (.cv (.sc (.bool true)))))⟩])
  .ret))))))⟩
theorem f24_ok : compF Proofs.Try.prog [45, 44] [] Proofs.Try.f24 = some f24 := by kernel_rfl

def f27_0 : IR :=

  (.seq
  (.seq (.reg [
  ⟨none, (some 44), (.mv (.t 8))⟩,
  ⟨none, (some 45), (.mv (.t 7))⟩,
  ⟨none, (some 46), (.len false (.t 45))⟩,
  ⟨none, (some 47), (.bin .lss (.t 44) (.t 46))⟩])
  (.cond (.t 47) .skip (.exit 2)))

  (.seq (.block 3 (.reg [
  ⟨none, (some 50), (.mv (.t 7))⟩,
  ⟨none, (some 51), (.mv (.t 8))⟩,
  ⟨none, (some 52), (.mv (.t 0))⟩,
  ⟨none, (some 53), (.mv (.t 6))⟩,
  ⟨none, (some 54), (.bin .add (.t 53) (.c (.cv (.sc (.int .i64 1)))))⟩,
  ⟨none, (some 55), (.iadL 1 (.t 52) (.t 54))⟩,
  ⟨none, (some 56), (.ld false 1 (.t 55))⟩,
  ⟨none, (some 57), (.mv (.t 8))⟩,
  ⟨none, (some 58), (.cvI .u8 (.t 57))⟩,
  ⟨none, (some 59), (.bin .add (.t 56) (.t 58))⟩,
  ⟨none, (some 60), (.iadL 1 (.t 50) (.t 51))⟩,
  ⟨none, none, (.st 1 (.t 60) (.t 59))⟩]))
  (.reg [
  ⟨none, (some 48), (.mv (.t 8))⟩,
  ⟨none, (some 49), (.bin .add (.t 48) (.c (.cv (.sc (.int .i64 1)))))⟩,
  ⟨none, (some 8), (.mv (.t 49))⟩])))
def f27_1 : IR :=

  (.seq
  (.seq (.reg [
  ⟨none, (some 9), (.mv (.t 6))⟩,
  ⟨none, (some 10), (.bin .add (.t 9) (.c (.cv (.sc (.int .i64 1)))))⟩,
  ⟨none, (some 11), (.mv (.t 0))⟩,
  ⟨none, (some 12), (.len false (.t 11))⟩,
  ⟨none, (some 13), (.bin .lss (.t 10) (.t 12))⟩,
  ⟨none, (some 14), (.mv (.t 13))⟩,
  ⟨(some (14, true)), (some 15), (.mv (.t 6))⟩,
  ⟨(some (14, true)), (some 16), (.mv (.t 1))⟩,
  ⟨(some (14, true)), (some 17), (.bin .mul (.c (.cv (.sc (.int .i64 2)))) (.t 16))⟩,
  ⟨(some (14, true)), (some 18), (.bin .lss (.t 15) (.t 17))⟩,
  ⟨none, (some 19), (.pick (.t 14) (.t 18) (.c (.cv (.sc (.bool false)))))⟩])
  (.cond (.t 19) .skip (.exit 0)))

  (.seq (.block 1
  (.seq (.reg [
  ⟨none, (some 22), (.mv (.t 0))⟩,
  ⟨none, (some 23), (.mv (.t 6))⟩,
  ⟨none, (some 24), (.bin .add (.t 23) (.c (.cv (.sc (.int .i64 1)))))⟩,
  ⟨none, (some 25), (.iadL 1 (.t 22) (.t 24))⟩,
  ⟨none, (some 26), (.ld false 1 (.t 25))⟩,
  ⟨none, (some 27), (.bin .rem (.t 26) (.c (.cv (.sc (.int .u8 40)))))⟩,
  ⟨none, (some 28), (.cvI .i64 (.t 27))⟩,
  ⟨none, (some 29), (.mks 1 1 [(.sc (.int .u8 0))] (.t 28) (.t 28) true)⟩,
  ⟨none, (some 7), (.mv (.t 29))⟩])

  (.seq
  (.seq (.reg [
  ⟨none, (some 30), (.mv (.t 0))⟩,
  ⟨none, (some 31), (.mv (.t 6))⟩,
  ⟨none, (some 32), (.iadL 1 (.t 30) (.t 31))⟩,
  ⟨none, (some 33), (.ld false 1 (.t 32))⟩,
  ⟨none, (some 34), (.bin .gtr (.t 33) (.c (.cv (.sc (.int .u8 230)))))⟩])
  (.cond (.t 34) (.reg [
  ⟨none, (some 35), (.mv (.t 0))⟩,
  ⟨none, (some 36), (.mv (.t 6))⟩,
  ⟨none, (some 37), (.bin .add (.t 36) (.c (.cv (.sc (.int .i64 1)))))⟩,
  ⟨none, (some 38), (.iadL 1 (.t 35) (.t 37))⟩,
  ⟨none, (some 39), (.ld false 1 (.t 38))⟩,
  ⟨none, (some 40), (.bin .rem (.t 39) (.c (.cv (.sc (.int .u8 50)))))⟩,
  ⟨none, (some 41), (.cvI .i64 (.t 40))⟩,
  ⟨none, (some 42), (.bin .add (.c (.cv (.sc (.int .i64 100)))) (.t 41))⟩,
  ⟨none, (some 43), (.mks 1 1 [(.sc (.int .u8 0))] (.t 42) (.t 42) true)⟩,
  ⟨none, (some 7), (.mv (.t 43))⟩]) .skip))

  (.seq
  (.seq (.reg [
  ⟨none, (some 8), (.mv (.c (.cv (.sc (.int .i64 0)))))⟩])
  (.block 2 (.loop f27_0)))
  (.draw [(
  ⟨none, (some 61), (.mv (.t 5))⟩, .p), (
  ⟨none, (some 62), (.mv (.t 0))⟩, .p), (
  ⟨none, (some 63), (.mv (.t 6))⟩, .p), (
  ⟨none, (some 64), (.iadL 1 (.t 62) (.t 63))⟩, (.r 0 0)), (
  ⟨none, (some 65), (.ld false 1 (.t 64))⟩, (.r 0 0)), (
  ⟨none, (some 66), (.bin .rem (.t 65) (.c (.cv (.sc (.int .u8 16)))))⟩, .p), (
  ⟨none, (some 67), (.bin .add (.c (.cv (.sc (.int .u8 97)))) (.t 66))⟩, .p), (
  ⟨none, (some 68), (.mv (.t 0))⟩, .p), (
  ⟨none, (some 69), (.mv (.t 6))⟩, .p), (
  ⟨none, (some 70), (.iadL 1 (.t 68) (.t 69))⟩, (.r 0 0)), (
  ⟨none, (some 71), (.ld false 1 (.t 70))⟩, (.r 0 0)), (
  ⟨none, (some 72), (.bin .quo (.t 71) (.c (.cv (.sc (.int .u8 16)))))⟩, .p), (
  ⟨none, (some 73), (.bin .rem (.t 72) (.c (.cv (.sc (.int .u8 4)))))⟩, .p), (
  ⟨none, (some 74), (.bin .add (.c (.cv (.sc (.int .u8 97)))) (.t 73))⟩, .p), (
  ⟨none, (some 75), (.mksl 1 2 [(.cv (.sc (.int .u8 0))), (.cv (.sc (.int .u8 0)))] [(0, (1, (.t 67))), (1, (1, (.t 74)))] false)⟩, (.r 0 0)), (
  ⟨none, (some 76), (.cvBS (.t 75))⟩, (.r 0 0)), (
  ⟨none, (some 77), (.mv (.t 7))⟩, .p), (
  ⟨none, (some 78), (.build [(.cv (.sc (.string ⟨#[]⟩))), (.cv (.sc (.slice none 0 0)))] [(0, (1, (.t 76))), (1, (1, (.t 77)))])⟩, .p), (
  ⟨none, (some 79), (.mksl 2 1 [(.cv (.sc (.string ⟨#[]⟩))), (.cv (.sc (.slice none 0 0)))] [(0, (2, (.t 78)))] true)⟩, .k), (
  ⟨none, (some 80), (.app 2 40 [(.sc (.string ⟨#[]⟩)), (.sc (.slice none 0 0))] (.t 61) (.t 79))⟩, .k), (
  ⟨none, (some 5), (.mv (.t 80))⟩, .p)])))))
  (.reg [
  ⟨none, (some 20), (.mv (.t 6))⟩,
  ⟨none, (some 21), (.bin .add (.t 20) (.c (.cv (.sc (.int .i64 2)))))⟩,
  ⟨none, (some 6), (.mv (.t 21))⟩])))
def f27 : FnIR := ⟨82, [(.t 4)],

  (.seq (.reg [
  ⟨none, (some 4), (.mv (.c (.cv (.sc (.slice none 0 0)))))⟩])

  (.seq (.reg [
  ⟨none, (some 5), (.mv (.c (.cv (.sc (.slice none 0 0)))))⟩])

  (.seq
  (.seq (.reg [
  ⟨none, (some 6), (.mv (.c (.cv (.sc (.int .i64 0)))))⟩])
  (.block 0 (.loop f27_1)))

  (.seq (.reg [
  ⟨none, (some 81), (.mv (.t 5))⟩,
  ⟨none, (some 4), (.mv (.t 81))⟩])
  .ret))))⟩
theorem f27_ok : compF Proofs.Try.prog [] [(5, 7), (7, 8), (12, 18)] Proofs.Try.f27 = some f27 := by kernel_rfl

def f29_0 : IR :=

  (.seq (.draw [(
  ⟨none, (some 14), (.mv (.t 0))⟩, .p), (
  ⟨none, (some 15), (.mv (.t 7))⟩, .p), (
  ⟨none, (some 16), (.iadL 2 (.t 14) (.t 15))⟩, (.r 0 0)), (
  ⟨none, (some 17), (.fad 0 (.t 16))⟩, .p), (
  ⟨none, (some 18), (.ld false 1 (.t 17))⟩, (.r 0 0)), (
  ⟨none, (some 19), (.fad 0 (.t 3))⟩, .p), (
  ⟨none, (some 20), (.ld false 1 (.t 19))⟩, (.r 0 0)), (
  ⟨none, (some 21), (.bin .eql (.t 18) (.t 20))⟩, .p)])
  (.cond (.t 21) (.exit 1) .skip))
def f29_1 : IR :=

  (.seq (.draw [(
  ⟨none, (some 22), (.mv (.t 6))⟩, .p), (
  ⟨none, (some 23), (.un .not (.t 22))⟩, .p), (
  ⟨none, (some 24), (.mv (.t 23))⟩, .p), (
  ⟨(some (24, true)), (some 25), (.mv (.t 0))⟩, .p), (
  ⟨(some (24, true)), (some 26), (.mv (.t 7))⟩, .p), (
  ⟨(some (24, true)), (some 27), (.iadL 2 (.t 25) (.t 26))⟩, (.r 0 0)), (
  ⟨(some (24, true)), (some 28), (.fad 0 (.t 27))⟩, .p), (
  ⟨(some (24, true)), (some 29), (.ld false 1 (.t 28))⟩, (.r 0 0)), (
  ⟨(some (24, true)), (some 30), (.fad 0 (.t 3))⟩, .p), (
  ⟨(some (24, true)), (some 31), (.ld false 1 (.t 30))⟩, (.r 0 0)), (
  ⟨(some (24, true)), (some 32), (.bin .gtr (.t 29) (.t 31))⟩, .p), (
  ⟨none, (some 33), (.pick (.t 24) (.t 32) (.c (.cv (.sc (.bool false)))))⟩, .p)])
  (.cond (.t 33)
  (.seq (.reg [
  ⟨none, (some 34), (.mv (.t 5))⟩,
  ⟨none, (some 35), (.ld true 2 (.t 3))⟩,
  ⟨none, (some 36), (.mksl 2 1 [(.cv (.sc (.string ⟨#[]⟩))), (.cv (.sc (.slice none 0 0)))] [(0, (2, (.t 35)))] false)⟩,
  ⟨none, (some 37), (.app 2 40 [(.sc (.string ⟨#[]⟩)), (.sc (.slice none 0 0))] (.t 34) (.t 36))⟩,
  ⟨none, (some 5), (.mv (.t 37))⟩])
  (.reg [
  ⟨none, (some 6), (.mv (.c (.cv (.sc (.bool true)))))⟩])) .skip))
def f29_2 : IR :=

  (.seq
  (.seq (.reg [
  ⟨none, (some 8), (.mv (.t 7))⟩,
  ⟨none, (some 9), (.mv (.t 0))⟩,
  ⟨none, (some 10), (.len false (.t 9))⟩,
  ⟨none, (some 11), (.bin .lss (.t 8) (.t 10))⟩])
  (.cond (.t 11) .skip (.exit 0)))

  (.seq (.block 1
  (.seq f29_0

  (.seq f29_1
  (.reg [
  ⟨none, (some 38), (.mv (.t 5))⟩,
  ⟨none, (some 39), (.mv (.t 0))⟩,
  ⟨none, (some 40), (.mv (.t 7))⟩,
  ⟨none, (some 41), (.iadL 2 (.t 39) (.t 40))⟩,
  ⟨none, (some 42), (.ld true 2 (.t 41))⟩,
  ⟨none, (some 43), (.mksl 2 1 [(.cv (.sc (.string ⟨#[]⟩))), (.cv (.sc (.slice none 0 0)))] [(0, (2, (.t 42)))] false)⟩,
  ⟨none, (some 44), (.app 2 40 [(.sc (.string ⟨#[]⟩)), (.sc (.slice none 0 0))] (.t 38) (.t 43))⟩,
  ⟨none, (some 5), (.mv (.t 44))⟩]))))
  (.reg [
  ⟨none, (some 12), (.mv (.t 7))⟩,
  ⟨none, (some 13), (.bin .add (.t 12) (.c (.cv (.sc (.int .i64 1)))))⟩,
  ⟨none, (some 7), (.mv (.t 13))⟩])))
def f29_3 : IR :=

  (.seq (.reg [
  ⟨none, (some 45), (.mv (.t 6))⟩,
  ⟨none, (some 46), (.un .not (.t 45))⟩])
  (.cond (.t 46) (.reg [
  ⟨none, (some 47), (.mv (.t 5))⟩,
  ⟨none, (some 48), (.ld true 2 (.t 3))⟩,
  ⟨none, (some 49), (.mksl 2 1 [(.cv (.sc (.string ⟨#[]⟩))), (.cv (.sc (.slice none 0 0)))] [(0, (2, (.t 48)))] false)⟩,
  ⟨none, (some 50), (.app 2 40 [(.sc (.string ⟨#[]⟩)), (.sc (.slice none 0 0))] (.t 47) (.t 49))⟩,
  ⟨none, (some 5), (.mv (.t 50))⟩]) .skip))
def f29 : FnIR := ⟨52, [(.t 4)],

  (.seq (.reg [
  ⟨none, (some 3), (.box 2 (.t 1))⟩,
  ⟨none, (some 4), (.mv (.c (.cv (.sc (.slice none 0 0)))))⟩])

  (.seq (.reg [
  ⟨none, (some 5), (.mv (.c (.cv (.sc (.slice none 0 0)))))⟩])

  (.seq (.reg [
  ⟨none, (some 6), (.mv (.c (.cv (.sc (.bool false)))))⟩])

  (.seq
  (.seq (.reg [
  ⟨none, (some 7), (.mv (.c (.cv (.sc (.int .i64 0)))))⟩])
  (.block 0 (.loop f29_2)))

  (.seq f29_3

  (.seq (.reg [
  ⟨none, (some 51), (.mv (.t 5))⟩,
  ⟨none, (some 4), (.mv (.t 51))⟩])
  .ret))))))⟩
theorem f29_ok : compF Proofs.Try.prog [] [] Proofs.Try.f29 = some f29 := by kernel_rfl

def f30_0 : IR :=

  (.seq (.reg [
  ⟨none, (some 3), (.mv (.t 0))⟩,
  ⟨none, (some 4), (.eqn .slice false (.t 3))⟩])
  (.cond (.t 4)
  (.seq (.reg [
  ⟨none, (some 2), (.mv (.c (.cv (.sc (.slice none 0 0)))))⟩])
  .ret) .skip))
def f30 : FnIR := ⟨8, [(.t 2)],

  (.seq (.reg [
  ⟨none, (some 2), (.mv (.c (.cv (.sc (.slice none 0 0)))))⟩])

  (.seq f30_0

  (.seq (.reg [
  ⟨none, (some 5), (.mksl 2 0 [] [] false)⟩,
  ⟨none, (some 6), (.mv (.t 0))⟩,
  ⟨none, (some 7), (.app 2 40 [(.sc (.string ⟨#[]⟩)), (.sc (.slice none 0 0))] (.t 5) (.t 6))⟩,
  ⟨none, (some 2), (.mv (.t 7))⟩])
  .ret)))⟩
theorem f30_ok : compF Proofs.Try.prog [] [] Proofs.Try.f30 = some f30 := by kernel_rfl

def f31_0 : IR :=

  (.seq (.reg [
  ⟨none, (some 11), (.mv (.t 5))⟩,
  ⟨none, (some 12), (.bin .eql (.t 11) (.c (.cv (.sc (.int .i64 (-1))))))⟩])
  (.cond (.t 12)
  (.seq (.reg [
  ⟨none, (some 13), (.mv (.t 0))⟩,
  ⟨none, (some 4), (.mv (.t 13))⟩])
  .ret) .skip))
def f31_1 : IR :=

  (.seq
  (.seq (.reg [
  ⟨none, (some 16), (.mv (.t 6))⟩,
  ⟨none, (some 17), (.mv (.t 0))⟩,
  ⟨none, (some 18), (.len false (.t 17))⟩,
  ⟨none, (some 19), (.bin .lss (.t 16) (.t 18))⟩])
  (.cond (.t 19) .skip (.exit 0)))

  (.seq (.block 1
  (.seq (.reg [
  ⟨none, (some 22), (.mv (.t 0))⟩,
  ⟨none, (some 23), (.mv (.t 6))⟩,
  ⟨none, (some 24), (.iadL 2 (.t 22) (.t 23))⟩,
  ⟨none, (some 25), (.ld true 2 (.t 24))⟩,
  ⟨none, (some 7), (.alloc [(.cv (.sc (.string ⟨#[]⟩))), (.cv (.sc (.slice none 0 0)))])⟩,
  ⟨none, none, (.st 2 (.t 7) (.t 25))⟩])

  (.seq (.reg [
  ⟨none, (some 26), (.mv (.t 1))⟩,
  ⟨none, (some 27), (.ld true 2 (.t 7))⟩,
  ⟨none, (some 28), (.callv false (.t 26) [(.t 27)])⟩,
  ⟨none, (some 29), (.un .not (.t 28))⟩])
  (.cond (.t 29)
  (.seq (.reg [
  ⟨none, (some 30), (.mv (.t 0))⟩,
  ⟨none, (some 31), (.mv (.t 5))⟩,
  ⟨none, (some 32), (.ld true 2 (.t 7))⟩,
  ⟨none, (some 33), (.iadL 2 (.t 30) (.t 31))⟩,
  ⟨none, none, (.st 2 (.t 33) (.t 32))⟩])
  (.reg [
  ⟨none, (some 34), (.mv (.t 5))⟩,
  ⟨none, (some 35), (.bin .add (.t 34) (.c (.cv (.sc (.int .i64 1)))))⟩,
  ⟨none, (some 5), (.mv (.t 35))⟩])) .skip))))
  (.reg [
  ⟨none, (some 20), (.mv (.t 6))⟩,
  ⟨none, (some 21), (.bin .add (.t 20) (.c (.cv (.sc (.int .i64 1)))))⟩,
  ⟨none, (some 6), (.mv (.t 21))⟩])))
def f31 : FnIR := ⟨42, [(.t 4)],

  (.seq (.reg [
  ⟨none, (some 4), (.mv (.c (.cv (.sc (.slice none 0 0)))))⟩])

  (.seq (.reg [
  ⟨none, (some 8), (.mv (.t 0))⟩,
  ⟨none, (some 9), (.mv (.t 1))⟩,
  ⟨none, (some 10), (.call 33 false [(.t 8), (.t 9)])⟩,
  ⟨none, (some 5), (.mv (.t 10))⟩])

  (.seq f31_0

  (.seq
  (.seq (.reg [
  ⟨none, (some 14), (.mv (.t 5))⟩,
  ⟨none, (some 15), (.bin .add (.t 14) (.c (.cv (.sc (.int .i64 1)))))⟩,
  ⟨none, (some 6), (.mv (.t 15))⟩])
  (.block 0 (.loop f31_1)))

  (.seq (.reg [
  ⟨none, (some 36), (.mv (.t 0))⟩,
  ⟨none, (some 37), (.mv (.t 5))⟩,
  ⟨none, (some 38), (.slL 2 (.t 36) (some (.t 37)) none none)⟩,
  ⟨none, none, (.clr 2 [(.sc (.string ⟨#[]⟩)), (.sc (.slice none 0 0))] (.t 38))⟩])

  (.seq (.reg [
  ⟨none, (some 39), (.mv (.t 0))⟩,
  ⟨none, (some 40), (.mv (.t 5))⟩,
  ⟨none, (some 41), (.slL 2 (.t 39) none (some (.t 40)) none)⟩,
  ⟨none, (some 4), (.mv (.t 41))⟩])
  .ret))))))⟩
theorem f31_ok : compF Proofs.Try.prog [33, 3000000] [] Proofs.Try.f31 = some f31 := by kernel_rfl

def f32 : FnIR := ⟨9, [(.t 3)],

  (.seq (.reg [
  ⟨none, (some 2), (.box 2 (.t 0))⟩,
  ⟨none, (some 3), (.mv (.c (.cv (.sc (.bool false)))))⟩])

  (.seq (.reg [
  ⟨none, (some 4), (.fad 0 (.t 2))⟩,
  ⟨none, (some 5), (.ld false 1 (.t 4))⟩,
  ⟨none, (some 6), (.fad 0 (.t 1))⟩,
  ⟨none, (some 7), (.ld false 1 (.t 6))⟩,
  ⟨none, (some 8), (.bin .eql (.t 5) (.t 7))⟩,
  ⟨none, (some 3), (.mv (.t 8))⟩])
  .ret))⟩
theorem f32_ok : compF Proofs.Try.prog [] [] Proofs.Try.f32 = some f32 := by kernel_rfl

def f33_0 : IR :=
  (.cond (.t 9) .skip (.exit 0))
def f33_1 : IR :=

  (.seq (.reg [
  ⟨none, (some 9), (.bin .lss (.t 8) (.t 7))⟩])

  (.seq f33_0

  (.seq (.block 1
  (.seq (.reg [
  ⟨none, (some 10), (.mv (.t 8))⟩,
  ⟨none, (some 5), (.mv (.t 10))⟩])

  (.seq (.reg [
  ⟨none, (some 11), (.mv (.t 1))⟩,
  ⟨none, (some 12), (.mv (.t 0))⟩,
  ⟨none, (some 13), (.mv (.t 5))⟩,
  ⟨none, (some 14), (.iadL 2 (.t 12) (.t 13))⟩,
  ⟨none, (some 15), (.ld true 2 (.t 14))⟩,
  ⟨none, (some 16), (.callv false (.t 11) [(.t 15)])⟩])
  (.cond (.t 16)
  (.seq (.reg [
  ⟨none, (some 17), (.mv (.t 5))⟩,
  ⟨none, (some 4), (.mv (.t 17))⟩])
  .ret) .skip))))
  (.reg [
  ⟨none, (some 18), (.bin .add (.t 8) (.c (.cv (.sc (.int .i64 1)))))⟩,
  ⟨none, (some 8), (.mv (.t 18))⟩]))))
def f33 : FnIR := ⟨19, [(.t 4)],

  (.seq (.reg [
  ⟨none, (some 4), (.mv (.c (.cv (.sc (.int .i64 0)))))⟩])

  (.seq
  (.seq (.reg [
  ⟨none, (some 6), (.mv (.t 0))⟩,
  ⟨none, (some 7), (.len false (.t 6))⟩,
  ⟨none, (some 8), (.mv (.c (.cv (.sc (.int .i64 0)))))⟩])
  (.block 0 (.loop f33_1)))

  (.seq (.reg [
  ⟨none, (some 4), (.mv (.c (.cv (.sc (.int .i64 (-1))))))⟩])
  .ret)))⟩
theorem f33_ok : compF Proofs.Try.prog [3000000] [] Proofs.Try.f33 = some f33 := by kernel_rfl

def f34 : FnIR := ⟨9, [(.t 3)],

  (.seq (.reg [
  ⟨none, (some 2), (.box 2 (.t 0))⟩,
  ⟨none, (some 3), (.mv (.c (.cv (.sc (.bool false)))))⟩])

  (.seq (.reg [
  ⟨none, (some 4), (.fad 0 (.t 2))⟩,
  ⟨none, (some 5), (.ld false 1 (.t 4))⟩,
  ⟨none, (some 6), (.fad 0 (.t 1))⟩,
  ⟨none, (some 7), (.ld false 1 (.t 6))⟩,
  ⟨none, (some 8), (.bin .gtr (.t 5) (.t 7))⟩,
  ⟨none, (some 3), (.mv (.t 8))⟩])
  .ret))⟩
theorem f34_ok : compF Proofs.Try.prog [] [] Proofs.Try.f34 = some f34 := by kernel_rfl

def f35_0 : IR :=

  (.seq (.reg [
  ⟨none, (some 15), (.mv (.t 7))⟩,
  ⟨none, (some 16), (.bin .eql (.t 15) (.c (.cv (.sc (.int .i64 0)))))⟩])
  (.cond (.t 16)
  (.seq (.reg [
  ⟨none, (some 17), (.mv (.t 0))⟩,
  ⟨none, (some 6), (.mv (.t 17))⟩])
  .ret) .skip))
def f35_1 : IR :=

  (.seq (.reg [
  ⟨none, (some 20), (.mv (.t 1))⟩,
  ⟨none, (some 21), (.mv (.t 8))⟩,
  ⟨none, (some 22), (.bin .eql (.t 20) (.t 21))⟩])
  (.cond (.t 22)
  (.seq (.reg [
  ⟨none, (some 23), (.mv (.t 0))⟩,
  ⟨none, (some 24), (.mv (.t 2))⟩,
  ⟨none, (some 25), (.app 2 40 [(.sc (.string ⟨#[]⟩)), (.sc (.slice none 0 0))] (.t 23) (.t 24))⟩,
  ⟨none, (some 6), (.mv (.t 25))⟩])
  .ret) .skip))
def f35_2 : IR :=
  .skip
def f35_3 : IR :=

  (.seq (.reg [
  ⟨none, (some 26), (.mv (.t 8))⟩,
  ⟨none, (some 27), (.mv (.t 7))⟩,
  ⟨none, (some 28), (.bin .add (.t 26) (.t 27))⟩,
  ⟨none, (some 29), (.mv (.t 0))⟩,
  ⟨none, (some 30), (.cap (.t 29))⟩,
  ⟨none, (some 31), (.bin .gtr (.t 28) (.t 30))⟩])
  (.cond (.t 31)
  (.seq (.loop f35_2)

  (.seq (.reg [
  ⟨none, (some 41), (.mv (.t 9))⟩,
  ⟨none, (some 42), (.mv (.t 1))⟩,
  ⟨none, (some 43), (.slL 2 (.t 41) (some (.t 42)) none none)⟩,
  ⟨none, (some 44), (.mv (.t 2))⟩,
  ⟨none, (some 45), (.cpy 2 (.t 43) (.t 44))⟩])

  (.seq (.draw [(
  ⟨none, (some 46), (.mv (.t 9))⟩, .p), (
  ⟨none, (some 47), (.mv (.t 1))⟩, .p), (
  ⟨none, (some 48), (.mv (.t 7))⟩, .p), (
  ⟨none, (some 49), (.bin .add (.t 47) (.t 48))⟩, .p), (
  ⟨none, (some 50), (.slL 2 (.t 46) (some (.t 49)) none none)⟩, (.r 0 0)), (
  ⟨none, (some 51), (.mv (.t 0))⟩, .p), (
  ⟨none, (some 52), (.mv (.t 1))⟩, .p), (
  ⟨none, (some 53), (.slL 2 (.t 51) (some (.t 52)) none none)⟩, (.r 0 0)), (
  ⟨none, (some 54), (.cpy 2 (.t 50) (.t 53))⟩, .k)])

  (.seq (.reg [
  ⟨none, (some 55), (.mv (.t 9))⟩,
  ⟨none, (some 6), (.mv (.t 55))⟩])
  .ret)))) .skip))
def f35_4 : IR :=

  (.seq (.reg [
  ⟨none, (some 61), (.mv (.t 2))⟩,
  ⟨none, (some 62), (.mv (.t 0))⟩,
  ⟨none, (some 63), (.mv (.t 1))⟩,
  ⟨none, (some 64), (.mv (.t 7))⟩,
  ⟨none, (some 65), (.bin .add (.t 63) (.t 64))⟩,
  ⟨none, (some 66), (.slL 2 (.t 62) (some (.t 65)) none none)⟩,
  ⟨none, (some 67), (.call 51 true [(.t 61), (.t 66)])⟩,
  ⟨none, (some 68), (.un .not (.t 67))⟩])
  (.cond (.t 68)
  (.seq (.draw [(
  ⟨none, (some 69), (.mv (.t 0))⟩, .p), (
  ⟨none, (some 70), (.mv (.t 1))⟩, .p), (
  ⟨none, (some 71), (.mv (.t 7))⟩, .p), (
  ⟨none, (some 72), (.bin .add (.t 70) (.t 71))⟩, .p), (
  ⟨none, (some 73), (.slL 2 (.t 69) (some (.t 72)) none none)⟩, (.r 0 0)), (
  ⟨none, (some 74), (.mv (.t 0))⟩, .p), (
  ⟨none, (some 75), (.mv (.t 1))⟩, .p), (
  ⟨none, (some 76), (.slL 2 (.t 74) (some (.t 75)) none none)⟩, (.r 0 0)), (
  ⟨none, (some 77), (.cpy 2 (.t 73) (.t 76))⟩, .k)])

  (.seq (.reg [
  ⟨none, (some 78), (.mv (.t 0))⟩,
  ⟨none, (some 79), (.mv (.t 1))⟩,
  ⟨none, (some 80), (.slL 2 (.t 78) (some (.t 79)) none none)⟩,
  ⟨none, (some 81), (.mv (.t 2))⟩,
  ⟨none, (some 82), (.cpy 2 (.t 80) (.t 81))⟩])

  (.seq (.reg [
  ⟨none, (some 83), (.mv (.t 0))⟩,
  ⟨none, (some 6), (.mv (.t 83))⟩])
  .ret))) .skip))
def f35 : FnIR := ⟨95, [(.t 6)],

  (.seq (.reg [
  ⟨none, (some 6), (.mv (.c (.cv (.sc (.slice none 0 0)))))⟩])

  (.seq (.reg [
  ⟨none, (some 10), (.mv (.t 0))⟩,
  ⟨none, (some 11), (.mv (.t 1))⟩,
  ⟨none, (some 12), (.slL 2 (.t 10) (some (.t 11)) none none)⟩])

  (.seq (.reg [
  ⟨none, (some 13), (.mv (.t 2))⟩,
  ⟨none, (some 14), (.len false (.t 13))⟩,
  ⟨none, (some 7), (.mv (.t 14))⟩])

  (.seq f35_0

  (.seq (.reg [
  ⟨none, (some 18), (.mv (.t 0))⟩,
  ⟨none, (some 19), (.len false (.t 18))⟩,
  ⟨none, (some 8), (.mv (.t 19))⟩])

  (.seq f35_1

  (.seq f35_3

  (.seq (.reg [
  ⟨none, (some 56), (.mv (.t 0))⟩,
  ⟨none, (some 57), (.mv (.t 8))⟩,
  ⟨none, (some 58), (.mv (.t 7))⟩,
  ⟨none, (some 59), (.bin .add (.t 57) (.t 58))⟩,
  ⟨none, (some 60), (.slL 2 (.t 56) none (some (.t 59)) none)⟩,
  ⟨none, (some 0), (.mv (.t 60))⟩])

  (.seq f35_4

  (.seq (.reg [
  ⟨none, (some 84), (.mv (.t 0))⟩,
  ⟨none, (some 85), (.mv (.t 8))⟩,
  ⟨none, (some 86), (.slL 2 (.t 84) (some (.t 85)) none none)⟩,
  ⟨none, (some 87), (.mv (.t 2))⟩,
  ⟨none, (some 88), (.cpy 2 (.t 86) (.t 87))⟩])

  (.seq (.reg [
  ⟨none, (some 89), (.mv (.t 0))⟩,
  ⟨none, (some 90), (.mv (.t 1))⟩,
  ⟨none, (some 91), (.slL 2 (.t 89) (some (.t 90)) none none)⟩,
  ⟨none, (some 92), (.mv (.t 7))⟩,
  ⟨none, (some 93), (.call 52 true [(.t 91), (.t 92)])⟩])

  (.seq (.reg [
  ⟨none, (some 94), (.mv (.t 0))⟩,
  ⟨none, (some 6), (.mv (.t 94))⟩])
  .ret))))))))))))⟩
theorem f35_ok : compF Proofs.Try.prog [3000004] [] Proofs.Try.f35 = some f35 := by kernel_rfl

def f36_0 : IR :=

  (.seq (.reg [
  ⟨none, (some 3), (.mv (.t 0))⟩,
  ⟨none, (some 4), (.eqn .slice false (.t 3))⟩])
  (.cond (.t 4)
  (.seq (.reg [
  ⟨none, (some 2), (.mv (.c (.cv (.sc (.slice none 0 0)))))⟩])
  .ret) .skip))
def f36 : FnIR := ⟨8, [(.t 2)],

  (.seq (.reg [
  ⟨none, (some 2), (.mv (.c (.cv (.sc (.slice none 0 0)))))⟩])

  (.seq f36_0

  (.seq (.reg [
  ⟨none, (some 5), (.mksl 1 0 [] [] false)⟩,
  ⟨none, (some 6), (.mv (.t 0))⟩,
  ⟨none, (some 7), (.app 1 1 [(.sc (.int .u8 0))] (.t 5) (.t 6))⟩,
  ⟨none, (some 2), (.mv (.t 7))⟩])
  .ret)))⟩
theorem f36_ok : compF Proofs.Try.prog [] [] Proofs.Try.f36 = some f36 := by kernel_rfl

def f37_0 : IR :=

  (.seq
  (.seq (.reg [
  ⟨none, (some 7), (.mv (.t 6))⟩,
  ⟨none, (some 8), (.mv (.t 0))⟩,
  ⟨none, (some 9), (.len false (.t 8))⟩,
  ⟨none, (some 10), (.bin .lss (.t 7) (.t 9))⟩])
  (.cond (.t 10) .skip (.exit 0)))

  (.seq (.block 1
  (.seq (.reg [
  ⟨none, (some 13), (.mv (.t 0))⟩,
  ⟨none, (some 14), (.mv (.t 6))⟩,
  ⟨none, (some 15), (.iadL 2 (.t 13) (.t 14))⟩,
  ⟨none, (some 16), (.fad 0 (.t 15))⟩,
  ⟨none, (some 17), (.ld false 1 (.t 16))⟩,
  ⟨none, (some 18), (.mv (.t 1))⟩,
  ⟨none, (some 19), (.bin .neq (.t 17) (.t 18))⟩])
  (.cond (.t 19) (.reg [
  ⟨none, (some 20), (.mv (.t 5))⟩,
  ⟨none, (some 21), (.mv (.t 0))⟩,
  ⟨none, (some 22), (.mv (.t 6))⟩,
  ⟨none, (some 23), (.iadL 2 (.t 21) (.t 22))⟩,
  ⟨none, (some 24), (.ld true 2 (.t 23))⟩,
  ⟨none, (some 25), (.mksl 2 1 [(.cv (.sc (.string ⟨#[]⟩))), (.cv (.sc (.slice none 0 0)))] [(0, (2, (.t 24)))] false)⟩,
  ⟨none, (some 26), (.app 2 40 [(.sc (.string ⟨#[]⟩)), (.sc (.slice none 0 0))] (.t 20) (.t 25))⟩,
  ⟨none, (some 5), (.mv (.t 26))⟩]) .skip)))
  (.reg [
  ⟨none, (some 11), (.mv (.t 6))⟩,
  ⟨none, (some 12), (.bin .add (.t 11) (.c (.cv (.sc (.int .i64 1)))))⟩,
  ⟨none, (some 6), (.mv (.t 12))⟩])))
def f37 : FnIR := ⟨28, [(.t 4)],

  (.seq (.reg [
  ⟨none, (some 4), (.mv (.c (.cv (.sc (.slice none 0 0)))))⟩])

  (.seq (.reg [
  ⟨none, (some 5), (.mv (.c (.cv (.sc (.slice none 0 0)))))⟩])

  (.seq
  (.seq (.reg [
  ⟨none, (some 6), (.mv (.c (.cv (.sc (.int .i64 0)))))⟩])
  (.block 0 (.loop f37_0)))

  (.seq (.reg [
  ⟨none, (some 27), (.mv (.t 5))⟩,
  ⟨none, (some 4), (.mv (.t 27))⟩])
  .ret))))⟩
theorem f37_ok : compF Proofs.Try.prog [] [] Proofs.Try.f37 = some f37 := by kernel_rfl

def f38_0 : IR :=

  (.seq (.draw [(
  ⟨none, (some 14), (.mv (.t 0))⟩, .p), (
  ⟨none, (some 15), (.mv (.t 7))⟩, .p), (
  ⟨none, (some 16), (.iadL 2 (.t 14) (.t 15))⟩, (.r 0 0)), (
  ⟨none, (some 17), (.fad 0 (.t 16))⟩, .p), (
  ⟨none, (some 18), (.ld false 1 (.t 17))⟩, (.r 0 0)), (
  ⟨none, (some 19), (.fad 0 (.t 3))⟩, .p), (
  ⟨none, (some 20), (.ld false 1 (.t 19))⟩, (.r 0 0)), (
  ⟨none, (some 21), (.bin .eql (.t 18) (.t 20))⟩, .p)])
  (.cond (.t 21) (.exit 1) .skip))
def f38_1 : IR :=

  (.seq (.draw [(
  ⟨none, (some 22), (.mv (.t 6))⟩, .p), (
  ⟨none, (some 23), (.un .not (.t 22))⟩, .p), (
  ⟨none, (some 24), (.mv (.t 23))⟩, .p), (
  ⟨(some (24, true)), (some 25), (.mv (.t 0))⟩, .p), (
  ⟨(some (24, true)), (some 26), (.mv (.t 7))⟩, .p), (
  ⟨(some (24, true)), (some 27), (.iadL 2 (.t 25) (.t 26))⟩, (.r 0 0)), (
  ⟨(some (24, true)), (some 28), (.fad 0 (.t 27))⟩, .p), (
  ⟨(some (24, true)), (some 29), (.ld false 1 (.t 28))⟩, (.r 0 0)), (
  ⟨(some (24, true)), (some 30), (.fad 0 (.t 3))⟩, .p), (
  ⟨(some (24, true)), (some 31), (.ld false 1 (.t 30))⟩, (.r 0 0)), (
  ⟨(some (24, true)), (some 32), (.bin .gtr (.t 29) (.t 31))⟩, .p), (
  ⟨none, (some 33), (.pick (.t 24) (.t 32) (.c (.cv (.sc (.bool false)))))⟩, .p)])
  (.cond (.t 33)
  (.seq (.reg [
  ⟨none, (some 34), (.mv (.t 5))⟩,
  ⟨none, (some 35), (.ld true 2 (.t 3))⟩,
  ⟨none, (some 36), (.mksl 2 1 [(.cv (.sc (.string ⟨#[]⟩))), (.cv (.sc (.slice none 0 0)))] [(0, (2, (.t 35)))] false)⟩,
  ⟨none, (some 37), (.app 2 40 [(.sc (.string ⟨#[]⟩)), (.sc (.slice none 0 0))] (.t 34) (.t 36))⟩,
  ⟨none, (some 5), (.mv (.t 37))⟩])
  (.reg [
  ⟨none, (some 6), (.mv (.c (.cv (.sc (.bool true)))))⟩])) .skip))
def f38_2 : IR :=

  (.seq
  (.seq (.reg [
  ⟨none, (some 8), (.mv (.t 7))⟩,
  ⟨none, (some 9), (.mv (.t 0))⟩,
  ⟨none, (some 10), (.len false (.t 9))⟩,
  ⟨none, (some 11), (.bin .lss (.t 8) (.t 10))⟩])
  (.cond (.t 11) .skip (.exit 0)))

  (.seq (.block 1
  (.seq f38_0

  (.seq f38_1
  (.reg [
  ⟨none, (some 38), (.mv (.t 5))⟩,
  ⟨none, (some 39), (.mv (.t 0))⟩,
  ⟨none, (some 40), (.mv (.t 7))⟩,
  ⟨none, (some 41), (.iadL 2 (.t 39) (.t 40))⟩,
  ⟨none, (some 42), (.ld true 2 (.t 41))⟩,
  ⟨none, (some 43), (.mksl 2 1 [(.cv (.sc (.string ⟨#[]⟩))), (.cv (.sc (.slice none 0 0)))] [(0, (2, (.t 42)))] false)⟩,
  ⟨none, (some 44), (.app 2 40 [(.sc (.string ⟨#[]⟩)), (.sc (.slice none 0 0))] (.t 38) (.t 43))⟩,
  ⟨none, (some 5), (.mv (.t 44))⟩]))))
  (.reg [
  ⟨none, (some 12), (.mv (.t 7))⟩,
  ⟨none, (some 13), (.bin .add (.t 12) (.c (.cv (.sc (.int .i64 1)))))⟩,
  ⟨none, (some 7), (.mv (.t 13))⟩])))
def f38_3 : IR :=

  (.seq (.reg [
  ⟨none, (some 45), (.mv (.t 6))⟩,
  ⟨none, (some 46), (.un .not (.t 45))⟩])
  (.cond (.t 46) (.reg [
  ⟨none, (some 47), (.mv (.t 5))⟩,
  ⟨none, (some 48), (.ld true 2 (.t 3))⟩,
  ⟨none, (some 49), (.mksl 2 1 [(.cv (.sc (.string ⟨#[]⟩))), (.cv (.sc (.slice none 0 0)))] [(0, (2, (.t 48)))] false)⟩,
  ⟨none, (some 50), (.app 2 40 [(.sc (.string ⟨#[]⟩)), (.sc (.slice none 0 0))] (.t 47) (.t 49))⟩,
  ⟨none, (some 5), (.mv (.t 50))⟩]) .skip))
def f38 : FnIR := ⟨52, [(.t 4)],

  (.seq (.reg [
  ⟨none, (some 3), (.box 2 (.t 1))⟩,
  ⟨none, (some 4), (.mv (.c (.cv (.sc (.slice none 0 0)))))⟩])

  (.seq (.reg [
  ⟨none, (some 5), (.mv (.c (.cv (.sc (.slice none 0 0)))))⟩])

  (.seq (.reg [
  ⟨none, (some 6), (.mv (.c (.cv (.sc (.bool false)))))⟩])

  (.seq
  (.seq (.reg [
  ⟨none, (some 7), (.mv (.c (.cv (.sc (.int .i64 0)))))⟩])
  (.block 0 (.loop f38_2)))

  (.seq f38_3

  (.seq (.reg [
  ⟨none, (some 51), (.mv (.t 5))⟩,
  ⟨none, (some 4), (.mv (.t 51))⟩])
  .ret))))))⟩
theorem f38_ok : compF Proofs.Try.prog [] [] Proofs.Try.f38 = some f38 := by kernel_rfl

def f39 : FnIR := ⟨6, [(.t 4)],

  (.seq (.reg [
  ⟨none, (some 2), (.box 1 (.t 0))⟩,
  ⟨none, (some 3), (.box 1 (.t 1))⟩,
  ⟨none, (some 4), (.mv (.c (.cv (.sc .nilFunc))))⟩])

  (.seq (.reg [
  ⟨none, (some 5), (.mkfn 53 [(.t 2), (.t 3)])⟩,
  ⟨none, (some 4), (.mv (.t 5))⟩])
  .ret))⟩
theorem f39_ok : compF Proofs.Try.prog [] [] Proofs.Try.f39 = some f39 := by kernel_rfl

def f40 : FnIR := ⟨10, [(.t 4)],

  (.seq (.reg [
  ⟨none, (some 4), (.mv (.c (.cv (.sc (.bool false)))))⟩])

  (.seq (.reg [
  ⟨none, (some 5), (.mv (.t 0))⟩,
  ⟨none, (some 6), (.cvBS (.t 5))⟩,
  ⟨none, (some 7), (.mv (.t 1))⟩,
  ⟨none, (some 8), (.cvBS (.t 7))⟩,
  ⟨none, (some 9), (.bin .eql (.t 6) (.t 8))⟩,
  ⟨none, (some 4), (.mv (.t 9))⟩])
  .ret))⟩
theorem f40_ok : compF Proofs.Try.prog [] [] Proofs.Try.f40 = some f40 := by kernel_rfl

def f41_0 : IR :=

  (.seq
  (.seq (.reg [
  ⟨none, (some 7), (.mv (.t 6))⟩,
  ⟨none, (some 8), (.mv (.t 0))⟩,
  ⟨none, (some 9), (.len false (.t 8))⟩,
  ⟨none, (some 10), (.bin .lss (.t 7) (.t 9))⟩])
  (.cond (.t 10) .skip (.exit 0)))

  (.seq (.block 1
  (.seq (.reg [
  ⟨none, (some 13), (.mv (.t 0))⟩,
  ⟨none, (some 14), (.mv (.t 6))⟩,
  ⟨none, (some 15), (.iadL 2 (.t 13) (.t 14))⟩,
  ⟨none, (some 16), (.fad 0 (.t 15))⟩,
  ⟨none, (some 17), (.ld false 1 (.t 16))⟩,
  ⟨none, (some 18), (.mv (.t 1))⟩,
  ⟨none, (some 19), (.bin .eql (.t 17) (.t 18))⟩])
  (.cond (.t 19)
  (.seq (.reg [
  ⟨none, (some 20), (.mv (.t 0))⟩,
  ⟨none, (some 21), (.mv (.t 6))⟩,
  ⟨none, (some 22), (.iadL 2 (.t 20) (.t 21))⟩,
  ⟨none, (some 23), (.ld true 2 (.t 22))⟩,
  ⟨none, none, (.st 2 (.t 4) (.t 23))⟩,
  ⟨none, (some 5), (.mv (.c (.cv (.sc (.bool true)))))⟩])
  .ret) .skip)))
  (.reg [
  ⟨none, (some 11), (.mv (.t 6))⟩,
  ⟨none, (some 12), (.bin .add (.t 11) (.c (.cv (.sc (.int .i64 1)))))⟩,
  ⟨none, (some 6), (.mv (.t 12))⟩])))
def f41 : FnIR := ⟨25, [(.cell 4 true 2), (.t 5)],

  (.seq (.reg [
  ⟨none, (some 4), (.alloc [(.cv (.sc (.string ⟨#[]⟩))), (.cv (.sc (.slice none 0 0)))])⟩,
  ⟨none, (some 5), (.mv (.c (.cv (.sc (.bool false)))))⟩])

  (.seq
  (.seq (.reg [
  ⟨none, (some 6), (.mv (.c (.cv (.sc (.int .i64 0)))))⟩])
  (.block 0 (.loop f41_0)))

  (.seq (.reg [
  ⟨none, (some 24), (.build [(.cv (.sc (.string ⟨#[]⟩))), (.cv (.sc (.slice none 0 0)))] [])⟩,
  ⟨none, none, (.st 2 (.t 4) (.t 24))⟩,
  ⟨none, (some 5), (.mv (.c (.cv (.sc (.bool false)))))⟩])
  .ret)))⟩
theorem f41_ok : compF Proofs.Try.prog [] [] Proofs.Try.f41 = some f41 := by kernel_rfl

def f42 : FnIR := ⟨9, [(.t 2)],

  (.seq (.reg [
  ⟨none, (some 2), (.mv (.c (.cv (.sc (.bool false)))))⟩])

  (.seq (.reg [
  ⟨none, (some 3), (.mv (.t 0))⟩,
  ⟨none, (some 4), (.bin .geq (.t 3) (.c (.cv (.sc (.int .i64 0)))))⟩,
  ⟨none, (some 5), (.mv (.t 4))⟩,
  ⟨(some (5, true)), (some 6), (.mv (.t 0))⟩,
  ⟨(some (5, true)), (some 7), (.bin .leq (.t 6) (.c (.cv (.sc (.int .i64 1073741824)))))⟩,
  ⟨none, (some 8), (.pick (.t 5) (.t 7) (.c (.cv (.sc (.bool false)))))⟩,
  ⟨none, (some 2), (.mv (.t 8))⟩])
  .ret))⟩
theorem f42_ok : compF Proofs.Try.prog [] [] Proofs.Try.f42 = some f42 := by kernel_rfl

def f43_0 : IR :=

  (.seq (.reg [
  ⟨none, (some 15), (.mv (.t 11))⟩,
  ⟨none, (some 16), (.mv (.t 2))⟩,
  ⟨none, (some 17), (.len false (.t 16))⟩,
  ⟨none, (some 18), (.bin .eql (.t 15) (.t 17))⟩,
  ⟨none, (some 19), (.mv (.t 18))⟩,
  ⟨(some (19, false)), (some 20), (.mv (.t 2))⟩,
  ⟨(some (19, false)), (some 21), (.mv (.t 11))⟩,
  ⟨(some (19, false)), (some 22), (.iadL 1 (.t 20) (.t 21))⟩,
  ⟨(some (19, false)), (some 23), (.ld false 1 (.t 22))⟩,
  ⟨(some (19, false)), (some 24), (.len false (.t 23))⟩,
  ⟨(some (19, false)), (some 25), (.bin .neq (.t 24) (.c (.cv (.sc (.int .i64 64)))))⟩,
  ⟨none, (some 26), (.pick (.t 19) (.c (.cv (.sc (.bool true)))) (.t 25))⟩])
  (.cond (.t 26) (.goto 0) .skip))
def f43_1 : IR :=

  (.seq (.reg [
  ⟨none, (some 35), (.mv (.t 11))⟩,
  ⟨none, (some 36), (.bin .eql (.t 35) (.c (.cv (.sc (.int .i64 0)))))⟩])
  (.cond (.t 36) (.reg [
  ⟨none, (some 37), (.mv (.t 13))⟩,
  ⟨none, (some 38), (.iadL 1 (.t 37) (.c (.cv (.sc (.int .i64 9)))))⟩,
  ⟨none, (some 39), (.ld false 1 (.t 38))⟩,
  ⟨none, (some 40), (.cvI .i64 (.t 39))⟩,
  ⟨none, (some 12), (.mv (.t 40))⟩]) .skip))
def f43_2 : IR :=

  (.seq (.reg [
  ⟨none, (some 41), (.mv (.t 14))⟩,
  ⟨none, (some 42), (.bin .lss (.t 41) (.c (.cv (.sc (.int .i64 1)))))⟩,
  ⟨none, (some 43), (.mv (.t 42))⟩,
  ⟨(some (43, false)), (some 44), (.mv (.t 14))⟩,
  ⟨(some (43, false)), (some 45), (.bin .gtr (.t 44) (.c (.cv (.sc (.int .i64 49)))))⟩,
  ⟨none, (some 46), (.pick (.t 43) (.c (.cv (.sc (.bool true)))) (.t 45))⟩,
  ⟨none, (some 47), (.mv (.t 46))⟩,
  ⟨(some (47, false)), (some 48), (.mv (.t 12))⟩,
  ⟨(some (47, false)), (some 49), (.bin .lss (.t 48) (.c (.cv (.sc (.int .i64 1)))))⟩,
  ⟨none, (some 50), (.pick (.t 47) (.c (.cv (.sc (.bool true)))) (.t 49))⟩,
  ⟨none, (some 51), (.mv (.t 50))⟩,
  ⟨(some (51, false)), (some 52), (.mv (.t 12))⟩,
  ⟨(some (51, false)), (some 53), (.bin .gtr (.t 52) (.c (.cv (.sc (.int .i64 200)))))⟩,
  ⟨none, (some 54), (.pick (.t 51) (.c (.cv (.sc (.bool true)))) (.t 53))⟩,
  ⟨none, (some 55), (.mv (.t 54))⟩,
  ⟨(some (55, false)), (some 56), (.mv (.t 11))⟩,
  ⟨(some (55, false)), (some 57), (.mv (.t 12))⟩,
  ⟨(some (55, false)), (some 58), (.bin .sub (.t 57) (.c (.cv (.sc (.int .i64 1)))))⟩,
  ⟨(some (55, false)), (some 59), (.bin .lss (.t 56) (.t 58))⟩,
  ⟨(some (55, false)), (some 60), (.mv (.t 59))⟩,
  ⟨(some (60, true)), (some 61), (.mv (.t 14))⟩,
  ⟨(some (60, true)), (some 62), (.bin .lss (.t 61) (.c (.cv (.sc (.int .i64 49)))))⟩,
  ⟨(some (55, false)), (some 63), (.pick (.t 60) (.t 62) (.c (.cv (.sc (.bool false)))))⟩,
  ⟨none, (some 64), (.pick (.t 55) (.c (.cv (.sc (.bool true)))) (.t 63))⟩])
  (.cond (.t 64) (.goto 0) .skip))
def f43_3 : IR :=

  (.seq (.reg [
  ⟨none, (some 65), (.mv (.t 0))⟩,
  ⟨none, (some 66), (.mv (.t 1))⟩,
  ⟨none, (some 67), (.mv (.t 11))⟩,
  ⟨none, (some 68), (.mv (.t 12))⟩,
  ⟨none, (some 69), (.mv (.t 13))⟩,
  ⟨none, (some 70), (.mv (.t 14))⟩,
  ⟨none, (some 71), (.bin .add (.c (.cv (.sc (.int .i64 11)))) (.t 70))⟩,
  ⟨none, (some 72), (.slL 1 (.t 69) (some (.c (.cv (.sc (.int .i64 11))))) (some (.t 71)) none)⟩,
  ⟨none, (some 73), (.call 47 true [(.t 65), (.t 66), (.t 67), (.t 68), (.t 72)])⟩,
  ⟨none, (some 74), (.mv (.t 13))⟩,
  ⟨none, (some 75), (.call 40 true [(.t 73), (.t 74)])⟩,
  ⟨none, (some 76), (.un .not (.t 75))⟩])
  (.cond (.t 76) (.goto 0) .skip))
def f43_4 : IR :=

  (.seq (.reg [
  ⟨none, (some 8), (.mv (.c (.cv (.sc (.slice none 0 0)))))⟩])

  (.seq (.reg [
  ⟨none, (some 9), (.mv (.c (.cv (.sc (.slice none 0 0)))))⟩])

  (.seq (.reg [
  ⟨none, (some 10), (.mv (.c (.cv (.sc (.int .u16 0)))))⟩])

  (.seq (.reg [
  ⟨none, (some 11), (.mv (.c (.cv (.sc (.int .i64 0)))))⟩,
  ⟨none, (some 12), (.mv (.c (.cv (.sc (.int .i64 1)))))⟩])

  (.seq (.label 1)

  (.seq f43_0

  (.seq
  (.seq (.reg [
  ⟨none, (some 27), (.mv (.t 2))⟩,
  ⟨none, (some 28), (.mv (.t 11))⟩,
  ⟨none, (some 29), (.iadL 1 (.t 27) (.t 28))⟩,
  ⟨none, (some 30), (.ld false 1 (.t 29))⟩,
  ⟨none, (some 13), (.mv (.t 30))⟩])

  (.seq (.reg [
  ⟨none, (some 31), (.mv (.t 13))⟩,
  ⟨none, (some 32), (.iadL 1 (.t 31) (.c (.cv (.sc (.int .i64 10)))))⟩,
  ⟨none, (some 33), (.ld false 1 (.t 32))⟩,
  ⟨none, (some 34), (.cvI .i64 (.t 33))⟩,
  ⟨none, (some 14), (.mv (.t 34))⟩])

  (.seq f43_1

  (.seq f43_2

  (.seq f43_3
  (.reg [
  ⟨none, (some 77), (.mv (.t 8))⟩,
  ⟨none, (some 78), (.mv (.t 13))⟩,
  ⟨none, (some 79), (.mv (.t 14))⟩,
  ⟨none, (some 80), (.bin .add (.c (.cv (.sc (.int .i64 11)))) (.t 79))⟩,
  ⟨none, (some 81), (.slL 1 (.t 78) (some (.c (.cv (.sc (.int .i64 11))))) (some (.t 80)) none)⟩,
  ⟨none, (some 82), (.app 1 1 [(.sc (.int .u8 0))] (.t 77) (.t 81))⟩,
  ⟨none, (some 8), (.mv (.t 82))⟩]))))))

  (.seq
  (.seq (.reg [
  ⟨none, (some 83), (.mv (.t 11))⟩,
  ⟨none, (some 84), (.bin .add (.t 83) (.c (.cv (.sc (.int .i64 1)))))⟩,
  ⟨none, (some 11), (.mv (.t 84))⟩])

  (.seq (.reg [
  ⟨none, (some 85), (.mv (.t 11))⟩,
  ⟨none, (some 86), (.mv (.t 12))⟩,
  ⟨none, (some 87), (.bin .lss (.t 85) (.t 86))⟩])
  (.cond (.t 87) (.goto 1) .skip)))

  (.seq
  (.seq (.reg [
  ⟨none, (some 89), (.mv (.t 8))⟩,
  ⟨none, (some 90), (.call 54 true [(.t 89)])⟩,
  ⟨none, (some 88), (.mv (.t 90))⟩,
  ⟨none, (some 91), (.ext (.t 88) 0)⟩,
  ⟨none, (some 92), (.ext (.t 88) 1)⟩,
  ⟨none, (some 9), (.mv (.t 91))⟩,
  ⟨none, (some 10), (.mv (.t 92))⟩])

  (.seq (.reg [
  ⟨none, (some 93), (.mv (.t 10))⟩,
  ⟨none, (some 94), (.bin .eql (.t 93) (.c (.cv (.sc (.int .u16 0)))))⟩])
  (.cond (.t 94)
  (.seq (.reg [
  ⟨none, (some 95), (.mv (.t 9))⟩,
  ⟨none, (some 96), (.mv (.t 12))⟩,
  ⟨none, (some 6), (.mv (.t 95))⟩,
  ⟨none, (some 7), (.mv (.t 96))⟩])
  .ret) .skip)))

  (.seq (.label 0)

  (.seq (.reg [
  ⟨none, (some 6), (.mv (.c (.cv (.sc (.slice none 0 0)))))⟩,
  ⟨none, (some 7), (.mv (.c (.cv (.sc (.int .i64 0)))))⟩])
  .ret)))))))))))
def f43 : FnIR := ⟨97, [(.t 6), (.t 7)],

  (.seq (.reg [
  ⟨none, (some 6), (.mv (.c (.cv (.sc (.slice none 0 0)))))⟩,
  ⟨none, (some 7), (.mv (.c (.cv (.sc (.int .i64 0)))))⟩])
  (.scope f43_4))⟩
theorem f43_ok : compF Proofs.Try.prog [] [] Proofs.Try.f43 = some f43 := by kernel_rfl

def f44 : FnIR := ⟨5, [(.t 2)],

  (.seq (.reg [
  ⟨none, (some 2), (.mv (.c (.cv (.sc (.slice none 0 0)))))⟩])

  (.seq (.reg [
  ⟨none, (some 3), (.mv (.t 0))⟩,
  ⟨none, (some 4), (.call 55 false [(.c (.cv (.sc (.slice none 0 0)))), (.t 3)])⟩,
  ⟨none, (some 2), (.mv (.t 4))⟩])
  .ret))⟩
theorem f44_ok : compF Proofs.Try.prog [55] [] Proofs.Try.f44 = some f44 := by kernel_rfl

def f45_0 : IR :=

  (.seq (.reg [
  ⟨none, (some 5), (.ld false 1 (.t 3))⟩,
  ⟨none, (some 6), (.bin .lss (.t 5) (.c (.cv (.sc (.int .i64 1)))))⟩])
  (.cond (.t 6) (.reg [
  ⟨none, (some 7), (.mkif 9 (.c (.cv (.sc (.string ⟨#[99, 97, 110, 110, 111, 116, 32, 98, 101, 32, 108, 101, 115, 115, 32, 116, 104, 97, 110, 32, 49]⟩)))))⟩,
  ⟨none, none, (.panic (.t 7))⟩]) .skip))
def f45 : FnIR := ⟨9, [(.t 4)],

  (.seq (.reg [
  ⟨none, (some 2), (.box 1 (.t 0))⟩,
  ⟨none, (some 3), (.box 1 (.t 1))⟩,
  ⟨none, (some 4), (.mv (.c (.cv (.sc .nilFunc))))⟩])

  (.seq f45_0

  (.seq (.reg [
  ⟨none, (some 8), (.mkfn 56 [(.t 2), (.t 3)])⟩,
  ⟨none, (some 4), (.mv (.t 8))⟩])
  .ret)))⟩
theorem f45_ok : compF Proofs.Try.prog [] [] Proofs.Try.f45 = some f45 := by kernel_rfl

def f46_0 : IR :=
  (.cond (.t 12) .skip (.exit 0))
def f46_1 : IR :=

  (.seq (.reg [
  ⟨none, (some 20), (.fad 2 (.t 5))⟩,
  ⟨none, (some 21), (.ld false 1 (.t 20))⟩])
  (.cond (.t 21)
  (.seq (.reg [
  ⟨none, (some 22), (.mv (.t 3))⟩,
  ⟨none, (some 23), (.mksl 1 1 [(.cv (.sc (.int .u8 0)))] [(0, (1, (.c (.cv (.sc (.int .u8 1))))))] false)⟩,
  ⟨none, (some 24), (.app 1 1 [(.sc (.int .u8 0))] (.t 22) (.t 23))⟩,
  ⟨none, (some 3), (.mv (.t 24))⟩])
  (.exit 1)) .skip))
def f46_2 : IR :=

  (.seq (.reg [
  ⟨none, (some 12), (.bin .lss (.t 11) (.t 10))⟩])

  (.seq f46_0

  (.seq (.block 1
  (.seq (.reg [
  ⟨none, (some 13), (.iadL 3 (.t 9) (.t 11))⟩,
  ⟨none, (some 14), (.ld true 3 (.t 13))⟩,
  ⟨none, (some 5), (.alloc [(.cv (.sc (.string ⟨#[]⟩))), (.cv (.sc (.slice none 0 0))), (.cv (.sc (.bool false)))])⟩,
  ⟨none, none, (.st 3 (.t 5) (.t 14))⟩])

  (.seq (.reg [
  ⟨none, (some 15), (.mv (.t 3))⟩,
  ⟨none, (some 16), (.fad 0 (.t 5))⟩,
  ⟨none, (some 17), (.ld false 1 (.t 16))⟩,
  ⟨none, (some 18), (.call 58 true [(.t 17)])⟩,
  ⟨none, (some 19), (.app 1 1 [(.sc (.int .u8 0))] (.t 15) (.t 18))⟩,
  ⟨none, (some 3), (.mv (.t 19))⟩])

  (.seq f46_1

  (.seq (.reg [
  ⟨none, (some 25), (.mv (.t 3))⟩,
  ⟨none, (some 26), (.mksl 1 1 [(.cv (.sc (.int .u8 0)))] [(0, (1, (.c (.cv (.sc (.int .u8 0))))))] false)⟩,
  ⟨none, (some 27), (.app 1 1 [(.sc (.int .u8 0))] (.t 25) (.t 26))⟩,
  ⟨none, (some 3), (.mv (.t 27))⟩])
  (.reg [
  ⟨none, (some 28), (.mv (.t 3))⟩,
  ⟨none, (some 29), (.fad 1 (.t 5))⟩,
  ⟨none, (some 30), (.ld false 1 (.t 29))⟩,
  ⟨none, (some 31), (.cvBS (.t 30))⟩,
  ⟨none, (some 32), (.call 58 true [(.t 31)])⟩,
  ⟨none, (some 33), (.app 1 1 [(.sc (.int .u8 0))] (.t 28) (.t 32))⟩,
  ⟨none, (some 3), (.mv (.t 33))⟩]))))))
  (.reg [
  ⟨none, (some 34), (.bin .add (.t 11) (.c (.cv (.sc (.int .i64 1)))))⟩,
  ⟨none, (some 11), (.mv (.t 34))⟩]))))
def f46 : FnIR := ⟨36, [(.t 2)],

  (.seq (.reg [
  ⟨none, (some 2), (.mv (.c (.cv (.sc (.slice none 0 0)))))⟩])

  (.seq (.reg [
  ⟨none, (some 6), (.mv (.t 0))⟩,
  ⟨none, (some 7), (.len false (.t 6))⟩,
  ⟨none, (some 8), (.call 57 false [(.t 7)])⟩,
  ⟨none, (some 3), (.mv (.t 8))⟩])

  (.seq
  (.seq (.reg [
  ⟨none, (some 9), (.mv (.t 0))⟩,
  ⟨none, (some 10), (.len false (.t 9))⟩,
  ⟨none, (some 11), (.mv (.c (.cv (.sc (.int .i64 0)))))⟩])
  (.block 0 (.loop f46_2)))

  (.seq (.reg [
  ⟨none, (some 35), (.mv (.t 3))⟩,
  ⟨none, (some 2), (.mv (.t 35))⟩])
  .ret))))⟩
theorem f46_ok : compF Proofs.Try.prog [57] [] Proofs.Try.f46 = some f46 := by kernel_rfl

def f47 : FnIR := ⟨33, [(.t 10)],

  (.seq (.reg [
  ⟨none, (some 10), (.mv (.c (.cv (.sc (.slice none 0 0)))))⟩])

  (.seq (.reg [
  ⟨none, (some 11), (.alloc (List.replicate 60 (.cv (.sc (.int .u8 0)))))⟩])

  (.seq (.reg [
  ⟨none, (some 12), (.slA 60 1 (.t 11) none none)⟩,
  ⟨none, (some 13), (.mv (.t 0))⟩,
  ⟨none, (some 14), (.call 59 false [(.t 12), (.t 13)])⟩])

  (.seq (.reg [
  ⟨none, (some 15), (.slA 60 1 (.t 11) (some (.c (.cv (.sc (.int .i64 4))))) none)⟩,
  ⟨none, (some 16), (.mv (.t 1))⟩,
  ⟨none, (some 17), (.call 59 false [(.t 15), (.t 16)])⟩])

  (.seq (.reg [
  ⟨none, (some 18), (.mv (.t 2))⟩,
  ⟨none, (some 19), (.cvI .u8 (.t 18))⟩,
  ⟨none, (some 20), (.mv (.t 3))⟩,
  ⟨none, (some 21), (.cvI .u8 (.t 20))⟩,
  ⟨none, (some 22), (.mv (.t 4))⟩,
  ⟨none, (some 23), (.len false (.t 22))⟩,
  ⟨none, (some 24), (.cvI .u8 (.t 23))⟩,
  ⟨none, (some 25), (.iadA 60 1 (.t 11) (.c (.cv (.sc (.int .i64 8)))))⟩,
  ⟨none, none, (.st 1 (.t 25) (.t 19))⟩,
  ⟨none, (some 26), (.iadA 60 1 (.t 11) (.c (.cv (.sc (.int .i64 9)))))⟩,
  ⟨none, none, (.st 1 (.t 26) (.t 21))⟩,
  ⟨none, (some 27), (.iadA 60 1 (.t 11) (.c (.cv (.sc (.int .i64 10)))))⟩,
  ⟨none, none, (.st 1 (.t 27) (.t 24))⟩])

  (.seq (.reg [
  ⟨none, (some 28), (.slA 60 1 (.t 11) (some (.c (.cv (.sc (.int .i64 11))))) none)⟩,
  ⟨none, (some 29), (.mv (.t 4))⟩,
  ⟨none, (some 30), (.cpy 1 (.t 28) (.t 29))⟩])

  (.seq (.reg [
  ⟨none, (some 31), (.slA 60 1 (.t 11) none none)⟩,
  ⟨none, (some 32), (.call 60 true [(.t 31)])⟩,
  ⟨none, (some 10), (.mv (.t 32))⟩])
  .ret)))))))⟩
theorem f47_ok : compF Proofs.Try.prog [59] [] Proofs.Try.f47 = some f47 := by kernel_rfl

def f53_0 : IR :=

  (.seq (.draw [(
  ⟨none, (some 14), (.ld false 1 (.t 2))⟩, (.r 0 0)), (
  ⟨none, (some 15), (.len false (.t 14))⟩, .p), (
  ⟨none, (some 16), (.bin .eql (.t 15) (.c (.cv (.sc (.int .i64 0)))))⟩, .p), (
  ⟨none, (some 17), (.mv (.t 16))⟩, .p), (
  ⟨(some (17, false)), (some 18), (.ld false 1 (.t 1))⟩, (.r 0 0)), (
  ⟨(some (17, false)), (some 19), (.len false (.t 18))⟩, .p), (
  ⟨(some (17, false)), (some 20), (.bin .gtr (.t 19) (.c (.cv (.sc (.int .i64 0)))))⟩, .p), (
  ⟨(some (17, false)), (some 21), (.mv (.t 20))⟩, .p), (
  ⟨(some (21, true)), (some 22), (.ld false 1 (.t 1))⟩, (.r 0 0)), (
  ⟨(some (21, true)), (some 23), (.iadL 2 (.t 22) (.c (.cv (.sc (.int .i64 0)))))⟩, (.r 0 0)), (
  ⟨(some (21, true)), (some 24), (.fad 0 (.t 23))⟩, .p), (
  ⟨(some (21, true)), (some 25), (.ld false 1 (.t 24))⟩, (.r 0 0)), (
  ⟨(some (21, true)), (some 26), (.ld false 1 (.t 2))⟩, (.r 0 0)), (
  ⟨(some (21, true)), (some 27), (.iadL 2 (.t 26) (.c (.cv (.sc (.int .i64 0)))))⟩, (.r 0 0)), (
  ⟨(some (21, true)), (some 28), (.fad 0 (.t 27))⟩, .p), (
  ⟨(some (21, true)), (some 29), (.ld false 1 (.t 28))⟩, (.r 0 0)), (
  ⟨(some (21, true)), (some 30), (.bin .leq (.t 25) (.t 29))⟩, .p), (
  ⟨(some (17, false)), (some 31), (.pick (.t 21) (.t 30) (.c (.cv (.sc (.bool false)))))⟩, .p), (
  ⟨none, (some 32), (.pick (.t 17) (.c (.cv (.sc (.bool true)))) (.t 31))⟩, .p)])
  (.cond (.t 32) (.reg [
  ⟨none, (some 33), (.ld false 1 (.t 1))⟩,
  ⟨none, (some 34), (.iadL 2 (.t 33) (.c (.cv (.sc (.int .i64 0)))))⟩,
  ⟨none, (some 4), (.mv (.t 34))⟩]) .skip))
def f53_1 : IR :=

  (.seq (.draw [(
  ⟨none, (some 35), (.mv (.t 4))⟩, .p), (
  ⟨none, (some 36), (.eqn .ptr false (.t 35))⟩, .p), (
  ⟨none, (some 37), (.mv (.t 36))⟩, .p), (
  ⟨(some (37, false)), (some 38), (.ld false 1 (.t 2))⟩, (.r 0 0)), (
  ⟨(some (37, false)), (some 39), (.len false (.t 38))⟩, .p), (
  ⟨(some (37, false)), (some 40), (.bin .gtr (.t 39) (.c (.cv (.sc (.int .i64 0)))))⟩, .p), (
  ⟨(some (37, false)), (some 41), (.mv (.t 40))⟩, .p), (
  ⟨(some (41, true)), (some 42), (.ld false 1 (.t 2))⟩, (.r 0 0)), (
  ⟨(some (41, true)), (some 43), (.iadL 2 (.t 42) (.c (.cv (.sc (.int .i64 0)))))⟩, (.r 0 0)), (
  ⟨(some (41, true)), (some 44), (.fad 0 (.t 43))⟩, .p), (
  ⟨(some (41, true)), (some 45), (.ld false 1 (.t 44))⟩, (.r 0 0)), (
  ⟨(some (41, true)), (some 46), (.mv (.t 4))⟩, .p), (
  ⟨(some (41, true)), (some 47), (.nilck (.t 46))⟩, .p), (
  ⟨(some (41, true)), (some 48), (.fad 0 (.t 47))⟩, .p), (
  ⟨(some (41, true)), (some 49), (.ld false 1 (.t 48))⟩, (.r 0 0)), (
  ⟨(some (41, true)), (some 50), (.bin .eql (.t 45) (.t 49))⟩, .p), (
  ⟨(some (37, false)), (some 51), (.pick (.t 41) (.t 50) (.c (.cv (.sc (.bool false)))))⟩, .p), (
  ⟨none, (some 52), (.pick (.t 37) (.c (.cv (.sc (.bool true)))) (.t 51))⟩, .p)])
  (.cond (.t 52) (.draw [(
  ⟨none, (some 53), (.ld false 1 (.t 2))⟩, (.r 0 0)), (
  ⟨none, (some 54), (.iadL 2 (.t 53) (.c (.cv (.sc (.int .i64 0)))))⟩, (.r 0 0)), (
  ⟨none, (some 55), (.ld false 1 (.t 2))⟩, (.r 0 0)), (
  ⟨none, (some 56), (.slL 2 (.t 55) (some (.c (.cv (.sc (.int .i64 1))))) none none)⟩, (.r 0 0)), (
  ⟨none, (some 5), (.mv (.t 54))⟩, .p), (
  ⟨none, none, (.st 1 (.t 2) (.t 56))⟩, .k)]) .skip))
def f53_2 : IR :=

  (.seq (.reg [
  ⟨none, (some 57), (.mv (.t 4))⟩,
  ⟨none, (some 58), (.eqn .ptr true (.t 57))⟩])
  (.cond (.t 58) (.reg [
  ⟨none, (some 59), (.ld false 1 (.t 1))⟩,
  ⟨none, (some 60), (.slL 2 (.t 59) (some (.c (.cv (.sc (.int .i64 1))))) none none)⟩,
  ⟨none, none, (.st 1 (.t 1) (.t 60))⟩]) .skip))
def f53_3 : IR :=

  (.seq
  (.seq (.reg [
  ⟨none, (some 6), (.ld false 1 (.t 1))⟩,
  ⟨none, (some 7), (.len false (.t 6))⟩,
  ⟨none, (some 8), (.bin .gtr (.t 7) (.c (.cv (.sc (.int .i64 0)))))⟩,
  ⟨none, (some 9), (.mv (.t 8))⟩,
  ⟨(some (9, false)), (some 10), (.ld false 1 (.t 2))⟩,
  ⟨(some (9, false)), (some 11), (.len false (.t 10))⟩,
  ⟨(some (9, false)), (some 12), (.bin .gtr (.t 11) (.c (.cv (.sc (.int .i64 0)))))⟩,
  ⟨none, (some 13), (.pick (.t 9) (.c (.cv (.sc (.bool true)))) (.t 12))⟩])
  (.cond (.t 13) .skip (.exit 0)))
  (.block 1
  (.seq (.reg [
  ⟨none, (some 4), (.mv (.c (.cv (.sc (.pointer none)))))⟩,
  ⟨none, (some 5), (.mv (.c (.cv (.sc (.pointer none)))))⟩])

  (.seq f53_0

  (.seq f53_1

  (.seq f53_2

  (.seq (.reg [
  ⟨none, (some 61), (.mv (.t 0))⟩,
  ⟨none, (some 62), (.mv (.t 4))⟩,
  ⟨none, (some 63), (.mv (.t 5))⟩,
  ⟨none, (some 64), (.callv false (.t 61) [(.t 62), (.t 63)])⟩,
  ⟨none, (some 65), (.un .not (.t 64))⟩])
  (.cond (.t 65) .ret .skip))))))))
def f53 : FnIR := ⟨66, [],
  (.block 0 (.loop f53_3))⟩
theorem f53_ok : compF Proofs.Try.prog [3000000] [] Proofs.Try.f53 = some f53 := by kernel_rfl

def f54 : FnIR := ⟨8, [(.t 2), (.t 3)],

  (.seq (.reg [
  ⟨none, (some 2), (.mv (.c (.cv (.sc (.slice none 0 0)))))⟩,
  ⟨none, (some 3), (.mv (.c (.cv (.sc (.int .u16 0)))))⟩])

  (.seq (.reg [
  ⟨none, (some 4), (.mv (.t 0))⟩,
  ⟨none, (some 5), (.call 69 true [(.t 4), (.c (.func 70 []))])⟩,
  ⟨none, (some 6), (.ext (.t 5) 0)⟩,
  ⟨none, (some 7), (.ext (.t 5) 1)⟩,
  ⟨none, (some 2), (.mv (.t 6))⟩,
  ⟨none, (some 3), (.mv (.t 7))⟩])
  .ret))⟩
theorem f54_ok : compF Proofs.Try.prog [] [] Proofs.Try.f54 = some f54 := by kernel_rfl

def f55_0 : IR :=
  (.reg [
  ⟨none, (some 5), (.mv (.t 7))⟩])
def f55_1 : IR :=
  (.block 1 (.reg [
  ⟨none, (some 8), (.ld false 1 (.t 2))⟩,
  ⟨none, (some 9), (.mv (.t 5))⟩,
  ⟨none, (some 10), (.mksl 1 1 [(.cv (.sc (.slice none 0 0)))] [(0, (1, (.t 9)))] false)⟩,
  ⟨none, (some 11), (.app 1 24 [(.sc (.slice none 0 0))] (.t 8) (.t 10))⟩,
  ⟨none, none, (.st 1 (.t 2) (.t 11))⟩]))
def f55 : FnIR := ⟨13, [(.t 4)],

  (.seq (.reg [
  ⟨none, (some 2), (.box 1 (.t 0))⟩,
  ⟨none, (some 4), (.mv (.c (.cv (.sc (.slice none 0 0)))))⟩])

  (.seq
  (.seq (.reg [
  ⟨none, (some 6), (.mv (.t 1))⟩])
  (.block 0 (.rangeF (.t 6) [7] f55_0 f55_1)))

  (.seq (.reg [
  ⟨none, (some 12), (.ld false 1 (.t 2))⟩,
  ⟨none, (some 4), (.mv (.t 12))⟩])
  .ret)))⟩
theorem f55_ok : compF Proofs.Try.prog [] [] Proofs.Try.f55 = some f55 := by kernel_rfl

def f56_0 : IR :=

  (.seq
  (.seq (.reg [
  ⟨none, (some 6), (.mv (.t 4))⟩,
  ⟨none, (some 7), (.ld false 1 (.t 1))⟩,
  ⟨none, (some 8), (.len false (.t 7))⟩,
  ⟨none, (some 9), (.bin .lss (.t 6) (.t 8))⟩])
  (.cond (.t 9) .skip (.exit 0)))

  (.seq (.block 1
  (.seq (.draw [(
  ⟨none, (some 13), (.ld false 1 (.t 2))⟩, (.r 0 0)), (
  ⟨none, (some 14), (.ld false 1 (.t 1))⟩, (.r 0 0)), (
  ⟨none, (some 15), (.mv (.t 4))⟩, .p), (
  ⟨none, (some 16), (.slL 1 (.t 14) (some (.t 15)) none none)⟩, (.r 0 0)), (
  ⟨none, (some 17), (.len false (.t 16))⟩, .p), (
  ⟨none, (some 18), (.mnmx true [(.t 13), (.t 17)])⟩, .p), (
  ⟨none, (some 5), (.mv (.t 18))⟩, .p)])

  (.seq (.reg [
  ⟨none, (some 19), (.mv (.t 0))⟩,
  ⟨none, (some 20), (.ld false 1 (.t 1))⟩,
  ⟨none, (some 21), (.mv (.t 4))⟩,
  ⟨none, (some 22), (.mv (.t 4))⟩,
  ⟨none, (some 23), (.mv (.t 5))⟩,
  ⟨none, (some 24), (.bin .add (.t 22) (.t 23))⟩,
  ⟨none, (some 25), (.mv (.t 4))⟩,
  ⟨none, (some 26), (.mv (.t 5))⟩,
  ⟨none, (some 27), (.bin .add (.t 25) (.t 26))⟩,
  ⟨none, (some 28), (.slL 1 (.t 20) (some (.t 21)) (some (.t 24)) (some (.t 27)))⟩,
  ⟨none, (some 29), (.callv false (.t 19) [(.t 28)])⟩,
  ⟨none, (some 30), (.un .not (.t 29))⟩])
  (.cond (.t 30) .ret .skip))))
  (.reg [
  ⟨none, (some 10), (.mv (.t 4))⟩,
  ⟨none, (some 11), (.ld false 1 (.t 2))⟩,
  ⟨none, (some 12), (.bin .add (.t 10) (.t 11))⟩,
  ⟨none, (some 4), (.mv (.t 12))⟩])))
def f56 : FnIR := ⟨31, [],

  (.seq (.reg [
  ⟨none, (some 4), (.mv (.c (.cv (.sc (.int .i64 0)))))⟩])
  (.block 0 (.loop f56_0)))⟩
theorem f56_ok : compF Proofs.Try.prog [3000000] [] Proofs.Try.f56 = some f56 := by kernel_rfl

def f57_0 : IR :=

  (.seq
  (.seq (.reg [
  ⟨none, (some 7), (.mv (.t 0))⟩,
  ⟨none, (some 8), (.bin .gtr (.t 7) (.c (.cv (.sc (.int .i64 127)))))⟩])
  (.cond (.t 8) .skip (.exit 0)))

  (.seq (.block 1 (.reg [
  ⟨none, (some 11), (.mv (.t 3))⟩,
  ⟨none, (some 12), (.mv (.t 0))⟩,
  ⟨none, (some 13), (.cvI .u8 (.t 12))⟩,
  ⟨none, (some 14), (.bin .or (.t 13) (.c (.cv (.sc (.int .u8 128)))))⟩,
  ⟨none, (some 15), (.mksl 1 1 [(.cv (.sc (.int .u8 0)))] [(0, (1, (.t 14)))] false)⟩,
  ⟨none, (some 16), (.app 1 1 [(.sc (.int .u8 0))] (.t 11) (.t 15))⟩,
  ⟨none, (some 3), (.mv (.t 16))⟩]))
  (.reg [
  ⟨none, (some 9), (.mv (.t 0))⟩,
  ⟨none, (some 10), (.bin .shr (.t 9) (.c (.cv (.sc (.int .u64 7)))))⟩,
  ⟨none, (some 0), (.mv (.t 10))⟩])))
def f57 : FnIR := ⟨22, [(.t 2)],

  (.seq (.reg [
  ⟨none, (some 2), (.mv (.c (.cv (.sc (.slice none 0 0)))))⟩])

  (.seq (.reg [
  ⟨none, (some 3), (.mv (.c (.cv (.sc (.slice none 0 0)))))⟩])

  (.seq
  (.seq (.reg [
  ⟨none, (some 4), (.mv (.t 0))⟩,
  ⟨none, (some 5), (.mnmx true [(.t 4), (.c (.cv (.sc (.int .i64 9007199254740992))))])⟩,
  ⟨none, (some 6), (.mnmx false [(.c (.cv (.sc (.int .i64 0)))), (.t 5)])⟩,
  ⟨none, (some 0), (.mv (.t 6))⟩])
  (.block 0 (.loop f57_0)))

  (.seq (.reg [
  ⟨none, (some 17), (.mv (.t 3))⟩,
  ⟨none, (some 18), (.mv (.t 0))⟩,
  ⟨none, (some 19), (.cvI .u8 (.t 18))⟩,
  ⟨none, (some 20), (.mksl 1 1 [(.cv (.sc (.int .u8 0)))] [(0, (1, (.t 19)))] false)⟩,
  ⟨none, (some 21), (.app 1 1 [(.sc (.int .u8 0))] (.t 17) (.t 20))⟩,
  ⟨none, (some 2), (.mv (.t 21))⟩])
  .ret))))⟩
theorem f57_ok : compF Proofs.Try.prog [] [] Proofs.Try.f57 = some f57 := by kernel_rfl

def f58 : FnIR := ⟨8, [(.t 2)],

  (.seq (.reg [
  ⟨none, (some 2), (.mv (.c (.cv (.sc (.slice none 0 0)))))⟩])

  (.seq (.reg [
  ⟨none, (some 3), (.mv (.t 0))⟩,
  ⟨none, (some 4), (.len true (.t 3))⟩,
  ⟨none, (some 5), (.call 57 false [(.t 4)])⟩,
  ⟨none, (some 6), (.mv (.t 0))⟩,
  ⟨none, (some 7), (.app 1 1 [(.sc (.int .u8 0))] (.t 5) (.t 6))⟩,
  ⟨none, (some 2), (.mv (.t 7))⟩])
  .ret))⟩
theorem f58_ok : compF Proofs.Try.prog [57] [] Proofs.Try.f58 = some f58 := by kernel_rfl

def f59_0 : IR :=
  (.cond (.t 6) .skip (.exit 0))
def f59_1 : IR :=

  (.seq (.reg [
  ⟨none, (some 6), (.bin .lss (.t 5) (.c (.cv (.sc (.int .i64 4)))))⟩])

  (.seq f59_0

  (.seq (.block 1
  (.seq (.reg [
  ⟨none, (some 7), (.mv (.t 5))⟩,
  ⟨none, (some 4), (.mv (.t 7))⟩])
  (.reg [
  ⟨none, (some 8), (.mv (.t 0))⟩,
  ⟨none, (some 9), (.mv (.t 4))⟩,
  ⟨none, (some 10), (.mv (.t 1))⟩,
  ⟨none, (some 11), (.mv (.t 4))⟩,
  ⟨none, (some 12), (.bin .mul (.c (.cv (.sc (.int .i64 8)))) (.t 11))⟩,
  ⟨none, (some 13), (.bin .sub (.c (.cv (.sc (.int .i64 24)))) (.t 12))⟩,
  ⟨none, (some 14), (.bin .shr (.t 10) (.t 13))⟩,
  ⟨none, (some 15), (.cvI .u8 (.t 14))⟩,
  ⟨none, (some 16), (.iadL 1 (.t 8) (.t 9))⟩,
  ⟨none, none, (.st 1 (.t 16) (.t 15))⟩])))
  (.reg [
  ⟨none, (some 17), (.bin .add (.t 5) (.c (.cv (.sc (.int .i64 1)))))⟩,
  ⟨none, (some 5), (.mv (.t 17))⟩]))))
def f59 : FnIR := ⟨18, [],

  (.seq (.reg [
  ⟨none, (some 5), (.mv (.c (.cv (.sc (.int .i64 0)))))⟩])
  (.block 0 (.loop f59_1)))⟩
theorem f59_ok : compF Proofs.Try.prog [] [] Proofs.Try.f59 = some f59 := by kernel_rfl

def f60 : FnIR := ⟨27, [(.t 2)],

  (.seq (.reg [
  ⟨none, (some 2), (.mv (.c (.cv (.sc (.slice none 0 0)))))⟩])

  (.seq (.reg [
  ⟨none, (some 5), (.mv (.t 0))⟩,
  ⟨none, (some 6), (.call 71 true [(.t 5)])⟩,
  ⟨none, (some 3), (.mv (.t 6))⟩])

  (.seq (.reg [
  ⟨none, (some 7), (.mv (.t 0))⟩,
  ⟨none, (some 8), (.len false (.t 7))⟩,
  ⟨none, (some 9), (.bin .add (.t 8) (.c (.cv (.sc (.int .i64 4)))))⟩,
  ⟨none, (some 10), (.mks 1 1 [(.sc (.int .u8 0))] (.c (.cv (.sc (.int .i64 0)))) (.t 9) true)⟩,
  ⟨none, (some 11), (.mv (.t 0))⟩,
  ⟨none, (some 12), (.app 1 1 [(.sc (.int .u8 0))] (.t 10) (.t 11))⟩,
  ⟨none, (some 4), (.mv (.t 12))⟩])

  (.seq (.reg [
  ⟨none, (some 13), (.mv (.t 4))⟩,
  ⟨none, (some 14), (.mv (.t 3))⟩,
  ⟨none, (some 15), (.cvI .u8 (.t 14))⟩,
  ⟨none, (some 16), (.mv (.t 3))⟩,
  ⟨none, (some 17), (.bin .shr (.t 16) (.c (.cv (.sc (.int .u64 8)))))⟩,
  ⟨none, (some 18), (.cvI .u8 (.t 17))⟩,
  ⟨none, (some 19), (.mv (.t 3))⟩,
  ⟨none, (some 20), (.bin .shr (.t 19) (.c (.cv (.sc (.int .u64 16)))))⟩,
  ⟨none, (some 21), (.cvI .u8 (.t 20))⟩,
  ⟨none, (some 22), (.mv (.t 3))⟩,
  ⟨none, (some 23), (.bin .shr (.t 22) (.c (.cv (.sc (.int .u64 24)))))⟩,
  ⟨none, (some 24), (.cvI .u8 (.t 23))⟩,
  ⟨none, (some 25), (.mksl 1 4 [(.cv (.sc (.int .u8 0))), (.cv (.sc (.int .u8 0))), (.cv (.sc (.int .u8 0))), (.cv (.sc (.int .u8 0)))] [(0, (1, (.t 15))), (1, (1, (.t 18))), (2, (1, (.t 21))), (3, (1, (.t 24)))] false)⟩,
  ⟨none, (some 26), (.app 1 1 [(.sc (.int .u8 0))] (.t 13) (.t 25))⟩,
  ⟨none, (some 2), (.mv (.t 26))⟩])
  .ret))))⟩
theorem f60_ok : compF Proofs.Try.prog [] [(2, 3)] Proofs.Try.f60 = some f60 := by kernel_rfl

def f69_0 : IR :=

  (.seq
  (.seq (.reg [
  ⟨none, (some 23), (.mv (.t 9))⟩,
  ⟨none, (some 24), (.bin .eql (.t 23) (.c (.cv (.sc (.int .u16 0)))))⟩,
  ⟨none, (some 25), (.mv (.t 24))⟩,
  ⟨(some (25, true)), (some 26), (.mv (.t 7))⟩,
  ⟨(some (25, true)), (some 27), (.bin .gtr (.t 26) (.c (.cv (.sc (.int .i64 0)))))⟩,
  ⟨none, (some 28), (.pick (.t 25) (.t 27) (.c (.cv (.sc (.bool false)))))⟩])
  (.cond (.t 28) .skip (.exit 0)))

  (.seq (.block 1
  (.seq (.reg [
  ⟨none, (some 10), (.alloc [(.cv (.sc (.string ⟨#[]⟩))), (.cv (.sc (.slice none 0 0))), (.cv (.sc (.bool false)))])⟩])

  (.seq (.reg [
  ⟨none, (some 32), (.mv (.t 1))⟩,
  ⟨none, (some 33), (.mv (.t 0))⟩,
  ⟨none, (some 34), (.mv (.t 8))⟩,
  ⟨none, (some 35), (.callv true (.t 32) [(.t 33), (.t 34)])⟩,
  ⟨none, (some 31), (.mv (.t 35))⟩,
  ⟨none, (some 36), (.ext (.t 31) 0)⟩,
  ⟨none, (some 37), (.ext (.t 31) 1)⟩,
  ⟨none, (some 38), (.ext (.t 31) 2)⟩,
  ⟨none, none, (.st 3 (.t 10) (.t 36))⟩,
  ⟨none, (some 8), (.mv (.t 37))⟩,
  ⟨none, (some 9), (.mv (.t 38))⟩])

  (.seq (.reg [
  ⟨none, (some 39), (.mv (.t 9))⟩,
  ⟨none, (some 40), (.bin .eql (.t 39) (.c (.cv (.sc (.int .u16 0)))))⟩])
  (.cond (.t 40) (.reg [
  ⟨none, (some 41), (.mv (.t 6))⟩,
  ⟨none, (some 42), (.ld true 3 (.t 10))⟩,
  ⟨none, (some 43), (.mksl 3 1 [(.cv (.sc (.string ⟨#[]⟩))), (.cv (.sc (.slice none 0 0))), (.cv (.sc (.bool false)))] [(0, (3, (.t 42)))] false)⟩,
  ⟨none, (some 44), (.app 3 48 [(.sc (.string ⟨#[]⟩)), (.sc (.slice none 0 0)), (.sc (.bool false))] (.t 41) (.t 43))⟩,
  ⟨none, (some 6), (.mv (.t 44))⟩]) .skip)))))
  (.reg [
  ⟨none, (some 29), (.mv (.t 7))⟩,
  ⟨none, (some 30), (.bin .sub (.t 29) (.c (.cv (.sc (.int .i64 1)))))⟩,
  ⟨none, (some 7), (.mv (.t 30))⟩])))
def f69 : FnIR := ⟨55, [(.t 4), (.t 5)],

  (.seq (.reg [
  ⟨none, (some 4), (.mv (.c (.cv (.sc (.slice none 0 0)))))⟩,
  ⟨none, (some 5), (.mv (.c (.cv (.sc (.int .u16 0)))))⟩])

  (.seq (.reg [
  ⟨none, (some 6), (.mv (.c (.cv (.sc (.slice none 0 0)))))⟩])

  (.seq (.reg [
  ⟨none, (some 12), (.mv (.t 0))⟩,
  ⟨none, (some 13), (.call 76 true [(.t 12), (.c (.cv (.sc (.int .i64 0))))])⟩,
  ⟨none, (some 11), (.mv (.t 13))⟩,
  ⟨none, (some 14), (.ext (.t 11) 0)⟩,
  ⟨none, (some 15), (.ext (.t 11) 1)⟩,
  ⟨none, (some 16), (.ext (.t 11) 2)⟩,
  ⟨none, (some 7), (.mv (.t 14))⟩,
  ⟨none, (some 8), (.mv (.t 15))⟩,
  ⟨none, (some 9), (.mv (.t 16))⟩])

  (.seq
  (.seq (.reg [
  ⟨none, (some 17), (.mv (.t 9))⟩,
  ⟨none, (some 18), (.bin .eql (.t 17) (.c (.cv (.sc (.int .u16 0)))))⟩,
  ⟨none, (some 19), (.mv (.t 18))⟩,
  ⟨(some (19, true)), (some 20), (.mv (.t 7))⟩,
  ⟨(some (19, true)), (some 21), (.bin .gtr (.t 20) (.c (.cv (.sc (.int .i64 5000)))))⟩,
  ⟨none, (some 22), (.pick (.t 19) (.t 21) (.c (.cv (.sc (.bool false)))))⟩])
  (.cond (.t 22) (.reg [
  ⟨none, (some 9), (.mv (.c (.cv (.sc (.int .u16 3)))))⟩]) .skip))

  (.seq (.block 0 (.loop f69_0))

  (.seq (.block 2
  (.seq (.reg [
  ⟨none, (some 46), (.mv (.t 9))⟩,
  ⟨none, (some 47), (.bin .neq (.t 46) (.c (.cv (.sc (.int .u16 0)))))⟩,
  ⟨none, (some 45), (.mv (.t 47))⟩])
  (.cond (.t 45)
  (.seq (.reg [
  ⟨none, (some 48), (.mv (.t 9))⟩,
  ⟨none, (some 4), (.mv (.c (.cv (.sc (.slice none 0 0)))))⟩,
  ⟨none, (some 5), (.mv (.t 48))⟩])
  .ret)
  (.seq (.reg [
  ⟨none, (some 50), (.mv (.t 8))⟩,
  ⟨none, (some 51), (.mv (.t 0))⟩,
  ⟨none, (some 52), (.len false (.t 51))⟩,
  ⟨none, (some 53), (.bin .lss (.t 50) (.t 52))⟩,
  ⟨none, (some 49), (.mv (.t 53))⟩])
  (.cond (.t 49)
  (.seq (.reg [
  ⟨none, (some 4), (.mv (.c (.cv (.sc (.slice none 0 0)))))⟩,
  ⟨none, (some 5), (.mv (.c (.cv (.sc (.int .u16 11)))))⟩])
  .ret) .skip)))))

  (.seq (.reg [
  ⟨none, (some 54), (.mv (.t 6))⟩,
  ⟨none, (some 4), (.mv (.t 54))⟩,
  ⟨none, (some 5), (.mv (.c (.cv (.sc (.int .u16 0)))))⟩])
  .ret)))))))⟩
theorem f69_ok : compF Proofs.Try.prog [] [] Proofs.Try.f69 = some f69 := by kernel_rfl

def f70 : FnIR := ⟨59, [(.cell 4 true 3), (.t 5), (.t 6)],

  (.seq (.reg [
  ⟨none, (some 4), (.alloc [(.cv (.sc (.string ⟨#[]⟩))), (.cv (.sc (.slice none 0 0))), (.cv (.sc (.bool false)))])⟩,
  ⟨none, (some 5), (.mv (.c (.cv (.sc (.int .i64 0)))))⟩,
  ⟨none, (some 6), (.mv (.c (.cv (.sc (.int .u16 0)))))⟩])

  (.seq (.reg [
  ⟨none, (some 11), (.mv (.t 0))⟩,
  ⟨none, (some 12), (.mv (.t 1))⟩,
  ⟨none, (some 13), (.call 77 true [(.t 11), (.t 12), (.c (.cv (.sc (.int .i64 30))))])⟩,
  ⟨none, (some 10), (.mv (.t 13))⟩,
  ⟨none, (some 14), (.ext (.t 10) 0)⟩,
  ⟨none, (some 15), (.ext (.t 10) 1)⟩,
  ⟨none, (some 16), (.ext (.t 10) 2)⟩,
  ⟨none, (some 7), (.mv (.t 14))⟩,
  ⟨none, (some 1), (.mv (.t 15))⟩,
  ⟨none, (some 8), (.mv (.t 16))⟩])

  (.seq (.block 0
  (.seq (.reg [
  ⟨none, (some 18), (.mv (.t 8))⟩,
  ⟨none, (some 19), (.bin .neq (.t 18) (.c (.cv (.sc (.int .u16 0)))))⟩,
  ⟨none, (some 17), (.mv (.t 19))⟩])
  (.cond (.t 17)
  (.seq (.reg [
  ⟨none, (some 20), (.build [(.cv (.sc (.string ⟨#[]⟩))), (.cv (.sc (.slice none 0 0))), (.cv (.sc (.bool false)))] [])⟩,
  ⟨none, (some 21), (.mv (.t 8))⟩,
  ⟨none, none, (.st 3 (.t 4) (.t 20))⟩,
  ⟨none, (some 5), (.mv (.c (.cv (.sc (.int .i64 0)))))⟩,
  ⟨none, (some 6), (.mv (.t 21))⟩])
  .ret)
  (.seq (.reg [
  ⟨none, (some 23), (.mv (.t 1))⟩,
  ⟨none, (some 24), (.mv (.t 0))⟩,
  ⟨none, (some 25), (.len false (.t 24))⟩,
  ⟨none, (some 26), (.bin .eql (.t 23) (.t 25))⟩,
  ⟨none, (some 22), (.mv (.t 26))⟩])
  (.cond (.t 22)
  (.seq (.reg [
  ⟨none, (some 27), (.build [(.cv (.sc (.string ⟨#[]⟩))), (.cv (.sc (.slice none 0 0))), (.cv (.sc (.bool false)))] [])⟩,
  ⟨none, none, (.st 3 (.t 4) (.t 27))⟩,
  ⟨none, (some 5), (.mv (.c (.cv (.sc (.int .i64 0)))))⟩,
  ⟨none, (some 6), (.mv (.c (.cv (.sc (.int .u16 10)))))⟩])
  .ret)
  (.seq (.reg [
  ⟨none, (some 29), (.mv (.t 0))⟩,
  ⟨none, (some 30), (.mv (.t 1))⟩,
  ⟨none, (some 31), (.iadL 1 (.t 29) (.t 30))⟩,
  ⟨none, (some 32), (.ld false 1 (.t 31))⟩,
  ⟨none, (some 33), (.bin .eql (.t 32) (.c (.cv (.sc (.int .u8 1)))))⟩,
  ⟨none, (some 28), (.mv (.t 33))⟩])
  (.cond (.t 28)
  (.seq (.reg [
  ⟨none, (some 34), (.mv (.t 7))⟩,
  ⟨none, (some 35), (.build [(.cv (.sc (.string ⟨#[]⟩))), (.cv (.sc (.slice none 0 0))), (.cv (.sc (.bool false)))] [(0, (1, (.t 34))), (2, (1, (.c (.cv (.sc (.bool true))))))])⟩,
  ⟨none, (some 36), (.mv (.t 1))⟩,
  ⟨none, (some 37), (.bin .add (.t 36) (.c (.cv (.sc (.int .i64 1)))))⟩,
  ⟨none, none, (.st 3 (.t 4) (.t 35))⟩,
  ⟨none, (some 5), (.mv (.t 37))⟩,
  ⟨none, (some 6), (.mv (.c (.cv (.sc (.int .u16 0)))))⟩])
  .ret)
  (.seq (.reg [
  ⟨none, (some 39), (.mv (.t 0))⟩,
  ⟨none, (some 40), (.mv (.t 1))⟩,
  ⟨none, (some 41), (.iadL 1 (.t 39) (.t 40))⟩,
  ⟨none, (some 42), (.ld false 1 (.t 41))⟩,
  ⟨none, (some 43), (.bin .gtr (.t 42) (.c (.cv (.sc (.int .u8 1)))))⟩,
  ⟨none, (some 38), (.mv (.t 43))⟩])
  (.cond (.t 38)
  (.seq (.reg [
  ⟨none, (some 44), (.build [(.cv (.sc (.string ⟨#[]⟩))), (.cv (.sc (.slice none 0 0))), (.cv (.sc (.bool false)))] [])⟩,
  ⟨none, none, (.st 3 (.t 4) (.t 44))⟩,
  ⟨none, (some 5), (.mv (.c (.cv (.sc (.int .i64 0)))))⟩,
  ⟨none, (some 6), (.mv (.c (.cv (.sc (.int .u16 11)))))⟩])
  .ret) .skip)))))))))

  (.seq (.reg [
  ⟨none, (some 46), (.mv (.t 0))⟩,
  ⟨none, (some 47), (.mv (.t 1))⟩,
  ⟨none, (some 48), (.bin .add (.t 47) (.c (.cv (.sc (.int .i64 1)))))⟩,
  ⟨none, (some 49), (.call 77 true [(.t 46), (.t 48), (.c (.cv (.sc (.int .i64 150))))])⟩,
  ⟨none, (some 45), (.mv (.t 49))⟩,
  ⟨none, (some 50), (.ext (.t 45) 0)⟩,
  ⟨none, (some 51), (.ext (.t 45) 1)⟩,
  ⟨none, (some 52), (.ext (.t 45) 2)⟩,
  ⟨none, (some 9), (.mv (.t 50))⟩,
  ⟨none, (some 1), (.mv (.t 51))⟩,
  ⟨none, (some 8), (.mv (.t 52))⟩])

  (.seq (.reg [
  ⟨none, (some 53), (.mv (.t 7))⟩,
  ⟨none, (some 54), (.mv (.t 9))⟩,
  ⟨none, (some 55), (.cvSB false (.t 54))⟩,
  ⟨none, (some 56), (.build [(.cv (.sc (.string ⟨#[]⟩))), (.cv (.sc (.slice none 0 0))), (.cv (.sc (.bool false)))] [(0, (1, (.t 53))), (1, (1, (.t 55)))])⟩,
  ⟨none, (some 57), (.mv (.t 1))⟩,
  ⟨none, (some 58), (.mv (.t 8))⟩,
  ⟨none, none, (.st 3 (.t 4) (.t 56))⟩,
  ⟨none, (some 5), (.mv (.t 57))⟩,
  ⟨none, (some 6), (.mv (.t 58))⟩])
  .ret)))))⟩
theorem f70_ok : compF Proofs.Try.prog [] [] Proofs.Try.f70 = some f70 := by kernel_rfl

def f71 : FnIR := ⟨5, [(.t 2)],

  (.seq (.reg [
  ⟨none, (some 2), (.mv (.c (.cv (.sc (.int .u32 0)))))⟩])

  (.seq (.reg [
  ⟨none, (some 3), (.mv (.t 0))⟩,
  ⟨none, (some 4), (.call 78 true [(.c (.cv (.sc (.int .u32 0)))), (.t 3)])⟩,
  ⟨none, (some 2), (.mv (.t 4))⟩])
  .ret))⟩
theorem f71_ok : compF Proofs.Try.prog [] [] Proofs.Try.f71 = some f71 := by kernel_rfl

def f76_0 : IR :=

  (.seq
  (.seq (.reg [
  ⟨none, (some 18), (.mv (.t 8))⟩,
  ⟨none, (some 19), (.bin .lss (.t 18) (.c (.cv (.sc (.int .i64 8)))))⟩])
  (.cond (.t 19) .skip (.exit 0)))

  (.seq (.block 1
  (.seq
  (.seq (.reg [
  ⟨none, (some 22), (.mv (.t 1))⟩,
  ⟨none, (some 23), (.mv (.t 8))⟩,
  ⟨none, (some 24), (.bin .add (.t 22) (.t 23))⟩,
  ⟨none, (some 25), (.mv (.t 0))⟩,
  ⟨none, (some 26), (.len false (.t 25))⟩,
  ⟨none, (some 27), (.bin .eql (.t 24) (.t 26))⟩])
  (.cond (.t 27) (.goto 0) .skip))

  (.seq (.reg [
  ⟨none, (some 28), (.mv (.t 0))⟩,
  ⟨none, (some 29), (.mv (.t 1))⟩,
  ⟨none, (some 30), (.mv (.t 8))⟩,
  ⟨none, (some 31), (.bin .add (.t 29) (.t 30))⟩,
  ⟨none, (some 32), (.iadL 1 (.t 28) (.t 31))⟩,
  ⟨none, (some 33), (.ld false 1 (.t 32))⟩,
  ⟨none, (some 9), (.mv (.t 33))⟩])

  (.seq (.reg [
  ⟨none, (some 34), (.mv (.t 7))⟩,
  ⟨none, (some 35), (.mv (.t 9))⟩,
  ⟨none, (some 36), (.bin .and (.t 35) (.c (.cv (.sc (.int .u8 127)))))⟩,
  ⟨none, (some 37), (.cvI .i64 (.t 36))⟩,
  ⟨none, (some 38), (.mv (.t 8))⟩,
  ⟨none, (some 39), (.bin .mul (.c (.cv (.sc (.int .i64 7)))) (.t 38))⟩,
  ⟨none, (some 40), (.bin .shl (.t 37) (.t 39))⟩,
  ⟨none, (some 41), (.bin .or (.t 34) (.t 40))⟩,
  ⟨none, (some 7), (.mv (.t 41))⟩])

  (.seq (.reg [
  ⟨none, (some 42), (.mv (.t 9))⟩,
  ⟨none, (some 43), (.bin .and (.t 42) (.c (.cv (.sc (.int .u8 128)))))⟩,
  ⟨none, (some 44), (.bin .eql (.t 43) (.c (.cv (.sc (.int .u8 0)))))⟩])
  (.cond (.t 44)
  (.seq
  (.seq (.reg [
  ⟨none, (some 45), (.mv (.t 9))⟩,
  ⟨none, (some 46), (.bin .eql (.t 45) (.c (.cv (.sc (.int .u8 0)))))⟩,
  ⟨none, (some 47), (.mv (.t 46))⟩,
  ⟨(some (47, true)), (some 48), (.mv (.t 8))⟩,
  ⟨(some (47, true)), (some 49), (.bin .gtr (.t 48) (.c (.cv (.sc (.int .i64 0)))))⟩,
  ⟨none, (some 50), (.pick (.t 47) (.t 49) (.c (.cv (.sc (.bool false)))))⟩,
  ⟨none, (some 51), (.mv (.t 50))⟩,
  ⟨(some (51, false)), (some 52), (.mv (.t 7))⟩,
  ⟨(some (51, false)), (some 53), (.bin .gtr (.t 52) (.c (.cv (.sc (.int .i64 9007199254740992)))))⟩,
  ⟨none, (some 54), (.pick (.t 51) (.c (.cv (.sc (.bool true)))) (.t 53))⟩])
  (.cond (.t 54) (.goto 1) .skip))

  (.seq (.reg [
  ⟨none, (some 55), (.mv (.t 7))⟩,
  ⟨none, (some 56), (.mv (.t 1))⟩,
  ⟨none, (some 57), (.mv (.t 8))⟩,
  ⟨none, (some 58), (.bin .add (.t 56) (.t 57))⟩,
  ⟨none, (some 59), (.bin .add (.t 58) (.c (.cv (.sc (.int .i64 1)))))⟩,
  ⟨none, (some 4), (.mv (.t 55))⟩,
  ⟨none, (some 5), (.mv (.t 59))⟩,
  ⟨none, (some 6), (.mv (.c (.cv (.sc (.int .u16 0)))))⟩])
  .ret)) .skip))))))
  (.reg [
  ⟨none, (some 20), (.mv (.t 8))⟩,
  ⟨none, (some 21), (.bin .add (.t 20) (.c (.cv (.sc (.int .i64 1)))))⟩,
  ⟨none, (some 8), (.mv (.t 21))⟩])))
def f76_1 : IR :=

  (.seq (.reg [
  ⟨none, (some 7), (.mv (.c (.cv (.sc (.int .i64 0)))))⟩,
  ⟨none, (some 8), (.mv (.c (.cv (.sc (.int .i64 0)))))⟩])

  (.seq
  (.seq (.reg [
  ⟨none, (some 10), (.mv (.t 1))⟩,
  ⟨none, (some 11), (.bin .lss (.t 10) (.c (.cv (.sc (.int .i64 0)))))⟩,
  ⟨none, (some 12), (.mv (.t 11))⟩,
  ⟨(some (12, false)), (some 13), (.mv (.t 1))⟩,
  ⟨(some (12, false)), (some 14), (.mv (.t 0))⟩,
  ⟨(some (12, false)), (some 15), (.len false (.t 14))⟩,
  ⟨(some (12, false)), (some 16), (.bin .gtr (.t 13) (.t 15))⟩,
  ⟨none, (some 17), (.pick (.t 12) (.c (.cv (.sc (.bool true)))) (.t 16))⟩])
  (.cond (.t 17) (.goto 0) .skip))

  (.seq (.block 0 (.loop f76_0))

  (.seq (.label 1)

  (.seq
  (.seq (.reg [
  ⟨none, (some 4), (.mv (.c (.cv (.sc (.int .i64 0)))))⟩,
  ⟨none, (some 5), (.mv (.c (.cv (.sc (.int .i64 0)))))⟩,
  ⟨none, (some 6), (.mv (.c (.cv (.sc (.int .u16 11)))))⟩])
  .ret)

  (.seq (.label 0)

  (.seq (.reg [
  ⟨none, (some 4), (.mv (.c (.cv (.sc (.int .i64 0)))))⟩,
  ⟨none, (some 5), (.mv (.c (.cv (.sc (.int .i64 0)))))⟩,
  ⟨none, (some 6), (.mv (.c (.cv (.sc (.int .u16 10)))))⟩])
  .ret)))))))
def f76 : FnIR := ⟨60, [(.t 4), (.t 5), (.t 6)],

  (.seq (.reg [
  ⟨none, (some 4), (.mv (.c (.cv (.sc (.int .i64 0)))))⟩,
  ⟨none, (some 5), (.mv (.c (.cv (.sc (.int .i64 0)))))⟩,
  ⟨none, (some 6), (.mv (.c (.cv (.sc (.int .u16 0)))))⟩])
  (.scope f76_1))⟩
theorem f76_ok : compF Proofs.Try.prog [] [] Proofs.Try.f76 = some f76 := by kernel_rfl

def f77 : FnIR := ⟨44, [(.t 6), (.t 7), (.t 8)],

  (.seq (.reg [
  ⟨none, (some 6), (.mv (.c (.cv (.sc (.string ⟨#[]⟩)))))⟩,
  ⟨none, (some 7), (.mv (.c (.cv (.sc (.int .i64 0)))))⟩,
  ⟨none, (some 8), (.mv (.c (.cv (.sc (.int .u16 0)))))⟩])

  (.seq (.reg [
  ⟨none, (some 13), (.mv (.t 0))⟩,
  ⟨none, (some 14), (.mv (.t 1))⟩,
  ⟨none, (some 15), (.call 76 true [(.t 13), (.t 14)])⟩,
  ⟨none, (some 12), (.mv (.t 15))⟩,
  ⟨none, (some 16), (.ext (.t 12) 0)⟩,
  ⟨none, (some 17), (.ext (.t 12) 1)⟩,
  ⟨none, (some 18), (.ext (.t 12) 2)⟩,
  ⟨none, (some 9), (.mv (.t 16))⟩,
  ⟨none, (some 10), (.mv (.t 17))⟩,
  ⟨none, (some 11), (.mv (.t 18))⟩])

  (.seq (.block 0
  (.seq (.reg [
  ⟨none, (some 20), (.mv (.t 11))⟩,
  ⟨none, (some 21), (.bin .neq (.t 20) (.c (.cv (.sc (.int .u16 0)))))⟩,
  ⟨none, (some 19), (.mv (.t 21))⟩])
  (.cond (.t 19)
  (.seq (.reg [
  ⟨none, (some 22), (.mv (.t 11))⟩,
  ⟨none, (some 6), (.mv (.c (.cv (.sc (.string ⟨#[]⟩)))))⟩,
  ⟨none, (some 7), (.mv (.c (.cv (.sc (.int .i64 0)))))⟩,
  ⟨none, (some 8), (.mv (.t 22))⟩])
  .ret)
  (.seq (.reg [
  ⟨none, (some 24), (.mv (.t 9))⟩,
  ⟨none, (some 25), (.mv (.t 2))⟩,
  ⟨none, (some 26), (.bin .gtr (.t 24) (.t 25))⟩,
  ⟨none, (some 23), (.mv (.t 26))⟩])
  (.cond (.t 23)
  (.seq (.reg [
  ⟨none, (some 6), (.mv (.c (.cv (.sc (.string ⟨#[]⟩)))))⟩,
  ⟨none, (some 7), (.mv (.c (.cv (.sc (.int .i64 0)))))⟩,
  ⟨none, (some 8), (.mv (.c (.cv (.sc (.int .u16 3)))))⟩])
  .ret)
  (.seq (.reg [
  ⟨none, (some 28), (.mv (.t 9))⟩,
  ⟨none, (some 29), (.mv (.t 0))⟩,
  ⟨none, (some 30), (.len false (.t 29))⟩,
  ⟨none, (some 31), (.mv (.t 10))⟩,
  ⟨none, (some 32), (.bin .sub (.t 30) (.t 31))⟩,
  ⟨none, (some 33), (.bin .gtr (.t 28) (.t 32))⟩,
  ⟨none, (some 27), (.mv (.t 33))⟩])
  (.cond (.t 27)
  (.seq (.reg [
  ⟨none, (some 6), (.mv (.c (.cv (.sc (.string ⟨#[]⟩)))))⟩,
  ⟨none, (some 7), (.mv (.c (.cv (.sc (.int .i64 0)))))⟩,
  ⟨none, (some 8), (.mv (.c (.cv (.sc (.int .u16 10)))))⟩])
  .ret) .skip)))))))

  (.seq (.reg [
  ⟨none, (some 34), (.mv (.t 0))⟩,
  ⟨none, (some 35), (.mv (.t 10))⟩,
  ⟨none, (some 36), (.mv (.t 10))⟩,
  ⟨none, (some 37), (.mv (.t 9))⟩,
  ⟨none, (some 38), (.bin .add (.t 36) (.t 37))⟩,
  ⟨none, (some 39), (.slL 1 (.t 34) (some (.t 35)) (some (.t 38)) none)⟩,
  ⟨none, (some 40), (.cvBS (.t 39))⟩,
  ⟨none, (some 41), (.mv (.t 10))⟩,
  ⟨none, (some 42), (.mv (.t 9))⟩,
  ⟨none, (some 43), (.bin .add (.t 41) (.t 42))⟩,
  ⟨none, (some 6), (.mv (.t 40))⟩,
  ⟨none, (some 7), (.mv (.t 43))⟩,
  ⟨none, (some 8), (.mv (.c (.cv (.sc (.int .u16 0)))))⟩])
  .ret))))⟩
theorem f77_ok : compF Proofs.Try.prog [] [] Proofs.Try.f77 = some f77 := by kernel_rfl

def f78_0 : IR :=
  (.cond (.t 14) .skip (.exit 0))
def f78_1 : IR :=

  (.seq (.reg [
  ⟨none, (some 14), (.bin .lss (.t 13) (.t 12))⟩])

  (.seq f78_0

  (.seq (.block 1
  (.seq (.reg [
  ⟨none, (some 15), (.iadL 1 (.t 11) (.t 13))⟩,
  ⟨none, (some 16), (.ld false 1 (.t 15))⟩,
  ⟨none, (some 7), (.mv (.t 16))⟩])
  (.reg [
  ⟨none, (some 17), (.mv (.t 0))⟩,
  ⟨none, (some 18), (.bin .shr (.t 17) (.c (.cv (.sc (.int .u64 8)))))⟩,
  ⟨none, (some 19), (.mv (.t 0))⟩,
  ⟨none, (some 20), (.cvI .u8 (.t 19))⟩,
  ⟨none, (some 21), (.mv (.t 7))⟩,
  ⟨none, (some 22), (.bin .xor (.t 20) (.t 21))⟩,
  ⟨none, (some 23), (.iadA 256 1 (.t 5) (.t 22))⟩,
  ⟨none, (some 24), (.ld false 1 (.t 23))⟩,
  ⟨none, (some 25), (.bin .xor (.t 18) (.t 24))⟩,
  ⟨none, (some 0), (.mv (.t 25))⟩])))
  (.reg [
  ⟨none, (some 26), (.bin .add (.t 13) (.c (.cv (.sc (.int .i64 1)))))⟩,
  ⟨none, (some 13), (.mv (.t 26))⟩]))))
def f78 : FnIR := ⟨29, [(.t 4)],

  (.seq (.reg [
  ⟨none, (some 4), (.mv (.c (.cv (.sc (.int .u32 0)))))⟩])

  (.seq (.reg [
  ⟨none, (some 8), (.call 82 true [])⟩,
  ⟨none, (some 5), (.alloc (List.replicate 256 (.cv (.sc (.int .u32 0)))))⟩,
  ⟨none, none, (.st 256 (.t 5) (.t 8))⟩])

  (.seq (.reg [
  ⟨none, (some 9), (.mv (.t 0))⟩,
  ⟨none, (some 10), (.un .xor (.t 9))⟩,
  ⟨none, (some 0), (.mv (.t 10))⟩])

  (.seq
  (.seq (.reg [
  ⟨none, (some 11), (.mv (.t 1))⟩,
  ⟨none, (some 12), (.len false (.t 11))⟩,
  ⟨none, (some 13), (.mv (.c (.cv (.sc (.int .i64 0)))))⟩])
  (.block 0 (.loop f78_1)))

  (.seq (.reg [
  ⟨none, (some 27), (.mv (.t 0))⟩,
  ⟨none, (some 28), (.un .xor (.t 27))⟩,
  ⟨none, (some 4), (.mv (.t 28))⟩])
  .ret)))))⟩
theorem f78_ok : compF Proofs.Try.prog [] [] Proofs.Try.f78 = some f78 := by kernel_rfl

def f82_0 : IR :=
  (.cond (.t 5) .skip (.exit 0))
def f82_1 : IR :=
  (.cond (.t 10) .skip (.exit 2))
def f82_2 : IR :=

  (.seq (.reg [
  ⟨none, (some 10), (.bin .lss (.t 9) (.c (.cv (.sc (.int .i64 8)))))⟩])

  (.seq f82_1

  (.seq (.block 3 (.reg [
  ⟨none, (some 11), (.mv (.t 3))⟩,
  ⟨none, (some 12), (.bin .shr (.t 11) (.c (.cv (.sc (.int .u64 1)))))⟩,
  ⟨none, (some 13), (.mv (.t 3))⟩,
  ⟨none, (some 14), (.bin .and (.t 13) (.c (.cv (.sc (.int .u32 1)))))⟩,
  ⟨none, (some 15), (.bin .mul (.c (.cv (.sc (.int .u32 3988292384)))) (.t 14))⟩,
  ⟨none, (some 16), (.bin .xor (.t 12) (.t 15))⟩,
  ⟨none, (some 3), (.mv (.t 16))⟩]))
  (.reg [
  ⟨none, (some 17), (.bin .add (.t 9) (.c (.cv (.sc (.int .i64 1)))))⟩,
  ⟨none, (some 9), (.mv (.t 17))⟩]))))
def f82_3 : IR :=

  (.seq (.reg [
  ⟨none, (some 5), (.bin .lss (.t 4) (.c (.cv (.sc (.int .i64 256)))))⟩])

  (.seq f82_0

  (.seq (.block 1
  (.seq (.reg [
  ⟨none, (some 6), (.mv (.t 4))⟩,
  ⟨none, (some 2), (.mv (.t 6))⟩])

  (.seq (.reg [
  ⟨none, (some 7), (.mv (.t 2))⟩,
  ⟨none, (some 8), (.cvI .u32 (.t 7))⟩,
  ⟨none, (some 3), (.mv (.t 8))⟩])

  (.seq
  (.seq (.reg [
  ⟨none, (some 9), (.mv (.c (.cv (.sc (.int .i64 0)))))⟩])
  (.block 2 (.loop f82_2)))
  (.reg [
  ⟨none, (some 18), (.mv (.t 2))⟩,
  ⟨none, (some 19), (.mv (.t 3))⟩,
  ⟨none, (some 20), (.iadA 256 1 (.t 1) (.t 18))⟩,
  ⟨none, none, (.st 1 (.t 20) (.t 19))⟩])))))
  (.reg [
  ⟨none, (some 21), (.bin .add (.t 4) (.c (.cv (.sc (.int .i64 1)))))⟩,
  ⟨none, (some 4), (.mv (.t 21))⟩]))))
def f82 : FnIR := ⟨23, [(.cell 0 true 256)],

  (.seq (.reg [
  ⟨none, (some 0), (.alloc (List.replicate 256 (.cv (.sc (.int .u32 0)))))⟩])

  (.seq (.reg [
  ⟨none, (some 1), (.alloc (List.replicate 256 (.cv (.sc (.int .u32 0)))))⟩])

  (.seq
  (.seq (.reg [
  ⟨none, (some 4), (.mv (.c (.cv (.sc (.int .i64 0)))))⟩])
  (.block 0 (.loop f82_3)))

  (.seq (.reg [
  ⟨none, (some 22), (.ld true 256 (.t 1))⟩,
  ⟨none, none, (.st 256 (.t 0) (.t 22))⟩])
  .ret))))⟩
theorem f82_ok : compF Proofs.Try.prog [] [] Proofs.Try.f82 = some f82 := by kernel_rfl


def f35x : FnIR := ⟨3, [.t 2], .reg [⟨none, some 2, .ins 2 40 (.t 0) (.t 1) (.t 2)⟩]⟩
def F : Nat → Option FnIR := fun n => match n with
  | 3 => some f3
  | 5 => some f5
  | 7 => some f7
  | 8 => some f8
  | 10 => some f10
  | 11 => some f11
  | 12 => some f12
  | 13 => some f13
  | 14 => some f14
  | 16 => some f16
  | 17 => some f17
  | 18 => some f18
  | 19 => some f19
  | 20 => some f20
  | 21 => some f21
  | 22 => some f22
  | 23 => some f23
  | 24 => some f24
  | 27 => some f27
  | 29 => some f29
  | 30 => some f30
  | 31 => some f31
  | 32 => some f32
  | 33 => some f33
  | 34 => some f34
  | 35 => some f35x
  | 36 => some f36
  | 37 => some f37
  | 38 => some f38
  | 39 => some f39
  | 40 => some f40
  | 41 => some f41
  | 42 => some f42
  | 43 => some f43
  | 44 => some f44
  | 45 => some f45
  | 46 => some f46
  | 47 => some f47
  | 53 => some f53
  | 54 => some f54
  | 55 => some f55
  | 56 => some f56
  | 57 => some f57
  | 58 => some f58
  | 59 => some f59
  | 60 => some f60
  | 69 => some f69
  | 70 => some f70
  | 71 => some f71
  | 76 => some f76
  | 77 => some f77
  | 78 => some f78
  | 82 => some f82
  | _ => none

theorem tlt {f : Nat} {fn : FnIR} (h : F f = some fn) : f < YB := by
  unfold F at h
  split at h
  · decide
  · decide
  · decide
  · decide
  · decide
  · decide
  · decide
  · decide
  · decide
  · decide
  · decide
  · decide
  · decide
  · decide
  · decide
  · decide
  · decide
  · decide
  · decide
  · decide
  · decide
  · decide
  · decide
  · decide
  · decide
  · decide
  · decide
  · decide
  · decide
  · decide
  · decide
  · decide
  · decide
  · decide
  · decide
  · decide
  · decide
  · decide
  · decide
  · decide
  · decide
  · decide
  · decide
  · decide
  · decide
  · decide
  · decide
  · decide
  · decide
  · decide
  · decide
  · decide
  · decide
  · cases h

theorem tbl0 (h35 : NatOK Proofs.Try.prog 35 f35x) : TblOK Proofs.Try.prog F := by
  refine ⟨by kernel_rfl, fun f fn h => ?_⟩
  unfold F at h
  split at h
  · cases h; exact ⟨by decide, .inl ⟨_, _, _, Proofs.Try.func3, by kernel_rfl, f3_ok⟩⟩
  · cases h; exact ⟨by decide, .inl ⟨_, _, _, Proofs.Try.func5, by kernel_rfl, f5_ok⟩⟩
  · cases h; exact ⟨by decide, .inl ⟨_, _, _, Proofs.Try.func7, by kernel_rfl, f7_ok⟩⟩
  · cases h; exact ⟨by decide, .inl ⟨_, _, _, Proofs.Try.func8, by kernel_rfl, f8_ok⟩⟩
  · cases h; exact ⟨by decide, .inl ⟨_, _, _, Proofs.Try.func10, by kernel_rfl, f10_ok⟩⟩
  · cases h; exact ⟨by decide, .inl ⟨_, _, _, Proofs.Try.func11, by kernel_rfl, f11_ok⟩⟩
  · cases h; exact ⟨by decide, .inl ⟨_, _, _, Proofs.Try.func12, by kernel_rfl, f12_ok⟩⟩
  · cases h; exact ⟨by decide, .inl ⟨_, _, _, Proofs.Try.func13, by kernel_rfl, f13_ok⟩⟩
  · cases h; exact ⟨by decide, .inl ⟨_, _, _, Proofs.Try.func14, by kernel_rfl, f14_ok⟩⟩
  · cases h; exact ⟨by decide, .inl ⟨_, _, _, Proofs.Try.func16, by kernel_rfl, f16_ok⟩⟩
  · cases h; exact ⟨by decide, .inl ⟨_, _, _, Proofs.Try.func17, by kernel_rfl, f17_ok⟩⟩
  · cases h; exact ⟨by decide, .inl ⟨_, _, _, Proofs.Try.func18, by kernel_rfl, f18_ok⟩⟩
  · cases h; exact ⟨by decide, .inl ⟨_, _, _, Proofs.Try.func19, by kernel_rfl, f19_ok⟩⟩
  · cases h; exact ⟨by decide, .inl ⟨_, _, _, Proofs.Try.func20, by kernel_rfl, f20_ok⟩⟩
  · cases h; exact ⟨by decide, .inl ⟨_, _, _, Proofs.Try.func21, by kernel_rfl, f21_ok⟩⟩
  · cases h; exact ⟨by decide, .inl ⟨_, _, _, Proofs.Try.func22, by kernel_rfl, f22_ok⟩⟩
  · cases h; exact ⟨by decide, .inl ⟨_, _, _, Proofs.Try.func23, by kernel_rfl, f23_ok⟩⟩
  · cases h; exact ⟨by decide, .inl ⟨_, _, _, Proofs.Try.func24, by kernel_rfl, f24_ok⟩⟩
  · cases h; exact ⟨by decide, .inl ⟨_, _, _, Proofs.Try.func27, by kernel_rfl, f27_ok⟩⟩
  · cases h; exact ⟨by decide, .inl ⟨_, _, _, Proofs.Try.func29, by kernel_rfl, f29_ok⟩⟩
  · cases h; exact ⟨by decide, .inl ⟨_, _, _, Proofs.Try.func30, by kernel_rfl, f30_ok⟩⟩
  · cases h; exact ⟨by decide, .inl ⟨_, _, _, Proofs.Try.func31, by kernel_rfl, f31_ok⟩⟩
  · cases h; exact ⟨by decide, .inl ⟨_, _, _, Proofs.Try.func32, by kernel_rfl, f32_ok⟩⟩
  · cases h; exact ⟨by decide, .inl ⟨_, _, _, Proofs.Try.func33, by kernel_rfl, f33_ok⟩⟩
  · cases h; exact ⟨by decide, .inl ⟨_, _, _, Proofs.Try.func34, by kernel_rfl, f34_ok⟩⟩
  · cases h; exact ⟨by decide, .inr h35⟩
  · cases h; exact ⟨by decide, .inl ⟨_, _, _, Proofs.Try.func36, by kernel_rfl, f36_ok⟩⟩
  · cases h; exact ⟨by decide, .inl ⟨_, _, _, Proofs.Try.func37, by kernel_rfl, f37_ok⟩⟩
  · cases h; exact ⟨by decide, .inl ⟨_, _, _, Proofs.Try.func38, by kernel_rfl, f38_ok⟩⟩
  · cases h; exact ⟨by decide, .inl ⟨_, _, _, Proofs.Try.func39, by kernel_rfl, f39_ok⟩⟩
  · cases h; exact ⟨by decide, .inl ⟨_, _, _, Proofs.Try.func40, by kernel_rfl, f40_ok⟩⟩
  · cases h; exact ⟨by decide, .inl ⟨_, _, _, Proofs.Try.func41, by kernel_rfl, f41_ok⟩⟩
  · cases h; exact ⟨by decide, .inl ⟨_, _, _, Proofs.Try.func42, by kernel_rfl, f42_ok⟩⟩
  · cases h; exact ⟨by decide, .inl ⟨_, _, _, Proofs.Try.func43, by kernel_rfl, f43_ok⟩⟩
  · cases h; exact ⟨by decide, .inl ⟨_, _, _, Proofs.Try.func44, by kernel_rfl, f44_ok⟩⟩
  · cases h; exact ⟨by decide, .inl ⟨_, _, _, Proofs.Try.func45, by kernel_rfl, f45_ok⟩⟩
  · cases h; exact ⟨by decide, .inl ⟨_, _, _, Proofs.Try.func46, by kernel_rfl, f46_ok⟩⟩
  · cases h; exact ⟨by decide, .inl ⟨_, _, _, Proofs.Try.func47, by kernel_rfl, f47_ok⟩⟩
  · cases h; exact ⟨by decide, .inl ⟨_, _, _, Proofs.Try.func53, by kernel_rfl, f53_ok⟩⟩
  · cases h; exact ⟨by decide, .inl ⟨_, _, _, Proofs.Try.func54, by kernel_rfl, f54_ok⟩⟩
  · cases h; exact ⟨by decide, .inl ⟨_, _, _, Proofs.Try.func55, by kernel_rfl, f55_ok⟩⟩
  · cases h; exact ⟨by decide, .inl ⟨_, _, _, Proofs.Try.func56, by kernel_rfl, f56_ok⟩⟩
  · cases h; exact ⟨by decide, .inl ⟨_, _, _, Proofs.Try.func57, by kernel_rfl, f57_ok⟩⟩
  · cases h; exact ⟨by decide, .inl ⟨_, _, _, Proofs.Try.func58, by kernel_rfl, f58_ok⟩⟩
  · cases h; exact ⟨by decide, .inl ⟨_, _, _, Proofs.Try.func59, by kernel_rfl, f59_ok⟩⟩
  · cases h; exact ⟨by decide, .inl ⟨_, _, _, Proofs.Try.func60, by kernel_rfl, f60_ok⟩⟩
  · cases h; exact ⟨by decide, .inl ⟨_, _, _, Proofs.Try.func69, by kernel_rfl, f69_ok⟩⟩
  · cases h; exact ⟨by decide, .inl ⟨_, _, _, Proofs.Try.func70, by kernel_rfl, f70_ok⟩⟩
  · cases h; exact ⟨by decide, .inl ⟨_, _, _, Proofs.Try.func71, by kernel_rfl, f71_ok⟩⟩
  · cases h; exact ⟨by decide, .inl ⟨_, _, _, Proofs.Try.func76, by kernel_rfl, f76_ok⟩⟩
  · cases h; exact ⟨by decide, .inl ⟨_, _, _, Proofs.Try.func77, by kernel_rfl, f77_ok⟩⟩
  · cases h; exact ⟨by decide, .inl ⟨_, _, _, Proofs.Try.func78, by kernel_rfl, f78_ok⟩⟩
  · cases h; exact ⟨by decide, .inl ⟨_, _, _, Proofs.Try.func82, by kernel_rfl, f82_ok⟩⟩
  · cases h

end Go.V07
