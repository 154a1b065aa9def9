/-
  Chapter 06: the program's functions, as the small code (printed by a program of ours, checked by the kernel).
-/
import Derived.Test.YtjggjjplnbjcpaaVmAll2
import Derived.Test.YtjggjjplnbjcpaaProg
namespace Go.V06
open Go Go.Vm

def f3_0 : IR :=

  (.seq
  (.seq (.reg [
  ⟨none, (some 13), (.mv (.t 10))⟩,
  ⟨none, (some 14), (.mv (.t 0))⟩,
  ⟨none, (some 15), (.len false (.t 14))⟩,
  ⟨none, (some 16), (.bin .lss (.t 13) (.t 15))⟩])
  (.cond (.t 16) .skip (.exit 0)))

  (.seq (.block 1 (.draw [(
  ⟨none, (some 19), (.mv (.t 9))⟩, .p), (
  ⟨none, (some 20), (.mv (.t 0))⟩, .p), (
  ⟨none, (some 21), (.mv (.t 10))⟩, .p), (
  ⟨none, (some 22), (.iadL 2 (.t 20) (.t 21))⟩, (.r 0 0)), (
  ⟨none, (some 23), (.fad 0 (.t 22))⟩, .p), (
  ⟨none, (some 24), (.ld false 1 (.t 23))⟩, (.r 0 0)), (
  ⟨none, (some 25), (.len true (.t 24))⟩, .p), (
  ⟨none, (some 26), (.mv (.t 0))⟩, .p), (
  ⟨none, (some 27), (.mv (.t 10))⟩, .p), (
  ⟨none, (some 28), (.iadL 2 (.t 26) (.t 27))⟩, (.r 0 0)), (
  ⟨none, (some 29), (.fad 1 (.t 28))⟩, .p), (
  ⟨none, (some 30), (.ld false 1 (.t 29))⟩, (.r 0 0)), (
  ⟨none, (some 31), (.len false (.t 30))⟩, .p), (
  ⟨none, (some 32), (.bin .add (.t 25) (.t 31))⟩, .p), (
  ⟨none, (some 33), (.bin .add (.t 19) (.t 32))⟩, .p), (
  ⟨none, (some 9), (.mv (.t 33))⟩, .p)]))
  (.reg [
  ⟨none, (some 17), (.mv (.t 10))⟩,
  ⟨none, (some 18), (.bin .add (.t 17) (.c (.cv (.sc (.int .i64 1)))))⟩,
  ⟨none, (some 10), (.mv (.t 18))⟩])))
def f3_1 : IR :=

  (.seq (.reg [
  ⟨none, (some 34), (.mv (.t 9))⟩,
  ⟨none, (some 35), (.bin .gtr (.t 34) (.c (.cv (.sc (.int .i64 1500)))))⟩,
  ⟨none, (some 36), (.mv (.t 35))⟩,
  ⟨(some (36, false)), (some 37), (.call 8 true [])⟩,
  ⟨(some (36, false)), (some 38), (.un .not (.t 37))⟩,
  ⟨none, (some 39), (.pick (.t 36) (.c (.cv (.sc (.bool true)))) (.t 38))⟩])
  (.cond (.t 39)
  (.seq (.reg [
  ⟨none, (some 40), (.call 8 true [])⟩,
  ⟨none, (some 8), (.mv (.t 40))⟩])
  .ret) .skip))
def f3 : FnIR := ⟨62, [(.t 8)],

  (.seq (.reg [
  ⟨none, (some 8), (.mv (.c (.cv (.sc (.bool false)))))⟩])

  (.seq (.reg [
  ⟨none, (some 11), (.mv (.t 0))⟩,
  ⟨none, (some 12), (.len false (.t 11))⟩,
  ⟨none, (some 9), (.mv (.t 12))⟩])

  (.seq
  (.seq (.reg [
  ⟨none, (some 10), (.mv (.c (.cv (.sc (.int .i64 0)))))⟩])
  (.block 0 (.loop f3_0)))

  (.seq f3_1

  (.seq (.reg [
  ⟨none, (some 41), (.mv (.t 0))⟩,
  ⟨none, (some 42), (.call 9 true [(.t 41)])⟩,
  ⟨none, (some 43), (.mv (.t 42))⟩,
  ⟨(some (43, true)), (some 44), (.mv (.t 1))⟩,
  ⟨(some (43, true)), (some 45), (.call 10 true [(.t 44), (.c (.cv (.sc (.int .i64 30))))])⟩,
  ⟨(some (43, true)), (some 46), (.call 9 true [(.t 45)])⟩,
  ⟨none, (some 47), (.pick (.t 43) (.t 46) (.c (.cv (.sc (.bool false)))))⟩,
  ⟨none, (some 48), (.mv (.t 47))⟩,
  ⟨(some (48, true)), (some 49), (.mv (.t 1))⟩,
  ⟨(some (48, true)), (some 50), (.call 11 true [(.t 49), (.c (.cv (.sc (.int .i64 6))))])⟩,
  ⟨(some (48, true)), (some 51), (.call 9 true [(.t 50)])⟩,
  ⟨none, (some 52), (.pick (.t 48) (.t 51) (.c (.cv (.sc (.bool false)))))⟩,
  ⟨none, (some 53), (.mv (.t 52))⟩,
  ⟨(some (53, true)), (some 54), (.mv (.t 2))⟩,
  ⟨(some (53, true)), (some 55), (.cvI .i64 (.t 54))⟩,
  ⟨(some (53, true)), (some 56), (.mv (.t 3))⟩,
  ⟨(some (53, true)), (some 57), (.bin .rem (.t 56) (.c (.cv (.sc (.int .u8 160)))))⟩,
  ⟨(some (53, true)), (some 58), (.cvI .i64 (.t 57))⟩,
  ⟨(some (53, true)), (some 59), (.call 12 true [(.t 55), (.t 58)])⟩,
  ⟨(some (53, true)), (some 60), (.call 9 true [(.t 59)])⟩,
  ⟨none, (some 61), (.pick (.t 53) (.t 60) (.c (.cv (.sc (.bool false)))))⟩,
  ⟨none, (some 8), (.mv (.t 61))⟩])
  .ret)))))⟩
theorem f3_ok : compF Proofs.Try.prog [] [] Proofs.Try.f3 = some f3 := by kernel_rfl

def f4_0 : IR :=

  (.seq (.reg [
  ⟨none, (some 25), (.mv (.t 1))⟩,
  ⟨none, (some 26), (.bin .rem (.t 25) (.c (.cv (.sc (.int .u8 2)))))⟩,
  ⟨none, (some 27), (.bin .eql (.t 26) (.c (.cv (.sc (.int .u8 0)))))⟩])
  (.cond (.t 27) (.reg [
  ⟨none, (some 28), (.mv (.t 0))⟩,
  ⟨none, (some 29), (.call 10 true [(.t 28), (.c (.cv (.sc (.int .i64 50))))])⟩,
  ⟨none, (some 11), (.mv (.t 29))⟩]) .skip))
def f4_1 : IR :=

  (.seq (.reg [
  ⟨none, (some 35), (.mv (.t 13))⟩,
  ⟨none, (some 36), (.un .not (.t 35))⟩,
  ⟨none, (some 37), (.mv (.t 36))⟩,
  ⟨(some (37, false)), (some 38), (.mv (.t 12))⟩,
  ⟨(some (37, false)), (some 39), (.len false (.t 38))⟩,
  ⟨(some (37, false)), (some 40), (.bin .eql (.t 39) (.c (.cv (.sc (.int .i64 0)))))⟩,
  ⟨none, (some 41), (.pick (.t 37) (.c (.cv (.sc (.bool true)))) (.t 40))⟩])
  (.cond (.t 41)
  (.seq (.reg [
  ⟨none, (some 10), (.mv (.c (.cv (.sc (.bool false)))))⟩])
  .ret) .skip))
def f4_2 : IR :=

  (.seq (.reg [
  ⟨none, (some 53), (.mv (.t 15))⟩,
  ⟨none, (some 54), (.len false (.t 53))⟩,
  ⟨none, (some 55), (.bin .neq (.t 54) (.c (.cv (.sc (.int .i64 256)))))⟩])
  (.cond (.t 55)
  (.seq (.reg [
  ⟨none, (some 10), (.mv (.c (.cv (.sc (.bool false)))))⟩])
  .ret) .skip))
def f4 : FnIR := ⟨102, [(.t 10)],

  (.seq (.reg [
  ⟨none, (some 10), (.mv (.c (.cv (.sc (.bool false)))))⟩])

  (.seq (.reg [
  ⟨none, (some 22), (.mv (.t 1))⟩,
  ⟨none, (some 23), (.cvI .i64 (.t 22))⟩,
  ⟨none, (some 24), (.call 12 true [(.t 23), (.c (.cv (.sc (.int .i64 40))))])⟩,
  ⟨none, (some 11), (.mv (.t 24))⟩])

  (.seq f4_0

  (.seq (.reg [
  ⟨none, (some 31), (.mv (.t 11))⟩,
  ⟨none, (some 32), (.call 13 true [(.t 31)])⟩,
  ⟨none, (some 30), (.mv (.t 32))⟩,
  ⟨none, (some 33), (.ext (.t 30) 0)⟩,
  ⟨none, (some 34), (.ext (.t 30) 1)⟩,
  ⟨none, (some 12), (.mv (.t 33))⟩,
  ⟨none, (some 13), (.mv (.t 34))⟩])

  (.seq f4_1

  (.seq (.reg [
  ⟨none, (some 42), (.mv (.t 2))⟩,
  ⟨none, (some 43), (.cvI .i64 (.t 42))⟩,
  ⟨none, (some 44), (.mv (.t 12))⟩,
  ⟨none, (some 45), (.len false (.t 44))⟩,
  ⟨none, (some 46), (.bin .rem (.t 43) (.t 45))⟩,
  ⟨none, (some 14), (.mv (.t 46))⟩])

  (.seq (.reg [
  ⟨none, (some 15), (.mv (.c (.cv (.sc (.slice none 0 0)))))⟩])

  (.seq (.reg [
  ⟨none, (some 47), (.mv (.t 15))⟩,
  ⟨none, (some 48), (.mv (.t 12))⟩,
  ⟨none, (some 49), (.mv (.t 14))⟩,
  ⟨none, (some 50), (.iadL 1 (.t 48) (.t 49))⟩,
  ⟨none, (some 51), (.ld false 1 (.t 50))⟩,
  ⟨none, (some 52), (.app 1 1 [(.sc (.int .u8 0))] (.t 47) (.t 51))⟩,
  ⟨none, (some 15), (.mv (.t 52))⟩])

  (.seq f4_2

  (.seq (.reg [
  ⟨none, (some 56), (.mv (.t 15))⟩,
  ⟨none, (some 57), (.mv (.t 3))⟩,
  ⟨none, (some 58), (.iadL 1 (.t 56) (.t 57))⟩,
  ⟨none, (some 59), (.ld false 1 (.t 58))⟩,
  ⟨none, (some 16), (.mv (.t 59))⟩])

  (.seq (.reg [
  ⟨none, (some 60), (.mv (.t 15))⟩,
  ⟨none, (some 61), (.mv (.t 3))⟩,
  ⟨none, (some 62), (.mv (.t 4))⟩,
  ⟨none, (some 63), (.iadL 1 (.t 60) (.t 61))⟩,
  ⟨none, none, (.st 1 (.t 63) (.t 62))⟩])

  (.seq (.reg [
  ⟨none, (some 17), (.mv (.c (.cv (.sc (.slice none 0 0)))))⟩])

  (.seq (.reg [
  ⟨none, (some 64), (.mv (.t 17))⟩,
  ⟨none, (some 65), (.mv (.t 12))⟩,
  ⟨none, (some 66), (.app 1 24 [(.sc (.slice none 0 0))] (.t 64) (.t 65))⟩,
  ⟨none, (some 17), (.mv (.t 66))⟩])

  (.seq (.reg [
  ⟨none, (some 67), (.mv (.t 17))⟩,
  ⟨none, (some 68), (.mv (.t 14))⟩,
  ⟨none, (some 69), (.mv (.t 15))⟩,
  ⟨none, (some 70), (.iadL 1 (.t 67) (.t 68))⟩,
  ⟨none, none, (.st 1 (.t 70) (.t 69))⟩])

  (.seq (.reg [
  ⟨none, (some 72), (.mv (.t 17))⟩,
  ⟨none, (some 73), (.call 14 true [(.t 72)])⟩,
  ⟨none, (some 71), (.mv (.t 73))⟩,
  ⟨none, (some 74), (.ext (.t 71) 0)⟩,
  ⟨none, (some 75), (.ext (.t 71) 1)⟩,
  ⟨none, (some 18), (.mv (.t 74))⟩,
  ⟨none, (some 19), (.mv (.t 75))⟩])

  (.seq (.reg [
  ⟨none, (some 77), (.mv (.t 12))⟩,
  ⟨none, (some 78), (.mv (.t 12))⟩,
  ⟨none, (some 79), (.len false (.t 78))⟩,
  ⟨none, (some 80), (.bin .sub (.t 79) (.c (.cv (.sc (.int .i64 1)))))⟩,
  ⟨none, (some 81), (.slL 1 (.t 77) none (some (.t 80)) none)⟩,
  ⟨none, (some 82), (.call 14 true [(.t 81)])⟩,
  ⟨none, (some 76), (.mv (.t 82))⟩,
  ⟨none, (some 83), (.ext (.t 76) 0)⟩,
  ⟨none, (some 84), (.ext (.t 76) 1)⟩,
  ⟨none, (some 20), (.mv (.t 83))⟩,
  ⟨none, (some 21), (.mv (.t 84))⟩])

  (.seq (.reg [
  ⟨none, (some 85), (.call 8 true [])⟩,
  ⟨none, (some 86), (.mv (.t 85))⟩,
  ⟨(some (86, true)), (some 87), (.mv (.t 19))⟩,
  ⟨(some (86, true)), (some 88), (.bin .eql (.t 87) (.c (.cv (.sc (.int .u16 0)))))⟩,
  ⟨(some (86, true)), (some 89), (.mv (.t 4))⟩,
  ⟨(some (86, true)), (some 90), (.mv (.t 16))⟩,
  ⟨(some (86, true)), (some 91), (.bin .eql (.t 89) (.t 90))⟩,
  ⟨(some (86, true)), (some 92), (.eqb false (.t 88) (.t 91))⟩,
  ⟨none, (some 93), (.pick (.t 86) (.t 92) (.c (.cv (.sc (.bool false)))))⟩,
  ⟨none, (some 94), (.mv (.t 93))⟩,
  ⟨(some (94, true)), (some 95), (.mv (.t 21))⟩,
  ⟨(some (94, true)), (some 96), (.bin .neq (.t 95) (.c (.cv (.sc (.int .u16 0)))))⟩,
  ⟨none, (some 97), (.pick (.t 94) (.t 96) (.c (.cv (.sc (.bool false)))))⟩,
  ⟨none, (some 98), (.mv (.t 97))⟩,
  ⟨(some (98, true)), (some 99), (.mv (.t 11))⟩,
  ⟨(some (98, true)), (some 100), (.call 15 true [(.t 99)])⟩,
  ⟨none, (some 101), (.pick (.t 98) (.t 100) (.c (.cv (.sc (.bool false)))))⟩,
  ⟨none, (some 10), (.mv (.t 101))⟩])
  .ret)))))))))))))))))⟩
theorem f4_ok : compF Proofs.Try.prog [] [] Proofs.Try.f4 = some f4 := by kernel_rfl

def f5_0 : IR :=

  (.seq (.reg [
  ⟨none, (some 15), (.mv (.t 5))⟩,
  ⟨none, (some 16), (.len false (.t 15))⟩,
  ⟨none, (some 17), (.bin .lss (.t 16) (.c (.cv (.sc (.int .i64 2)))))⟩])
  (.cond (.t 17)
  (.seq (.reg [
  ⟨none, (some 18), (.call 8 true [])⟩,
  ⟨none, (some 4), (.mv (.t 18))⟩])
  .ret) .skip))
def f5 : FnIR := ⟨83, [(.t 4)],

  (.seq (.reg [
  ⟨none, (some 4), (.mv (.c (.cv (.sc (.bool false)))))⟩])

  (.seq (.reg [
  ⟨none, (some 13), (.mv (.t 0))⟩,
  ⟨none, (some 14), (.call 10 false [(.t 13), (.c (.cv (.sc (.int .i64 20))))])⟩,
  ⟨none, (some 5), (.mv (.t 14))⟩])

  (.seq f5_0

  (.seq (.reg [
  ⟨none, (some 19), (.mv (.t 1))⟩,
  ⟨none, (some 20), (.cvI .i64 (.t 19))⟩,
  ⟨none, (some 21), (.mv (.t 5))⟩,
  ⟨none, (some 22), (.len false (.t 21))⟩,
  ⟨none, (some 23), (.bin .sub (.t 22) (.c (.cv (.sc (.int .i64 1)))))⟩,
  ⟨none, (some 24), (.bin .rem (.t 20) (.t 23))⟩,
  ⟨none, (some 6), (.mv (.t 24))⟩])

  (.seq (.reg [
  ⟨none, (some 25), (.mv (.t 5))⟩,
  ⟨none, (some 26), (.mv (.t 6))⟩,
  ⟨none, (some 27), (.iadL 2 (.t 25) (.t 26))⟩,
  ⟨none, (some 28), (.ld true 2 (.t 27))⟩,
  ⟨none, (some 7), (.alloc [(.cv (.sc (.string ⟨#[]⟩))), (.cv (.sc (.slice none 0 0)))])⟩,
  ⟨none, none, (.st 2 (.t 7) (.t 28))⟩])

  (.seq (.reg [
  ⟨none, (some 29), (.mv (.t 5))⟩,
  ⟨none, (some 30), (.mv (.t 6))⟩,
  ⟨none, (some 31), (.mv (.t 5))⟩,
  ⟨none, (some 32), (.mv (.t 6))⟩,
  ⟨none, (some 33), (.bin .add (.t 32) (.c (.cv (.sc (.int .i64 1)))))⟩,
  ⟨none, (some 34), (.iadL 2 (.t 31) (.t 33))⟩,
  ⟨none, (some 35), (.ld true 2 (.t 34))⟩,
  ⟨none, (some 36), (.iadL 2 (.t 29) (.t 30))⟩,
  ⟨none, none, (.st 2 (.t 36) (.t 35))⟩])

  (.seq (.reg [
  ⟨none, (some 37), (.mv (.t 5))⟩,
  ⟨none, (some 38), (.mv (.t 6))⟩,
  ⟨none, (some 39), (.bin .add (.t 38) (.c (.cv (.sc (.int .i64 1)))))⟩,
  ⟨none, (some 40), (.ld true 2 (.t 7))⟩,
  ⟨none, (some 41), (.iadL 2 (.t 37) (.t 39))⟩,
  ⟨none, none, (.st 2 (.t 41) (.t 40))⟩])

  (.seq (.reg [
  ⟨none, (some 43), (.mv (.t 5))⟩,
  ⟨none, (some 44), (.call 13 true [(.t 43)])⟩,
  ⟨none, (some 42), (.mv (.t 44))⟩,
  ⟨none, (some 45), (.ext (.t 42) 0)⟩,
  ⟨none, (some 46), (.ext (.t 42) 1)⟩,
  ⟨none, (some 8), (.mv (.t 45))⟩,
  ⟨none, (some 9), (.mv (.t 46))⟩])

  (.seq (.reg [
  ⟨none, (some 47), (.mv (.t 0))⟩,
  ⟨none, (some 48), (.call 10 false [(.t 47), (.c (.cv (.sc (.int .i64 20))))])⟩,
  ⟨none, (some 10), (.mv (.t 48))⟩])

  (.seq (.reg [
  ⟨none, (some 49), (.mv (.t 10))⟩,
  ⟨none, (some 50), (.mv (.t 6))⟩,
  ⟨none, (some 51), (.bin .add (.t 50) (.c (.cv (.sc (.int .i64 1)))))⟩,
  ⟨none, (some 52), (.mv (.t 10))⟩,
  ⟨none, (some 53), (.mv (.t 6))⟩,
  ⟨none, (some 54), (.iadL 2 (.t 52) (.t 53))⟩,
  ⟨none, (some 55), (.fad 0 (.t 54))⟩,
  ⟨none, (some 56), (.ld false 1 (.t 55))⟩,
  ⟨none, (some 57), (.iadL 2 (.t 49) (.t 51))⟩,
  ⟨none, (some 58), (.fad 0 (.t 57))⟩,
  ⟨none, none, (.st 1 (.t 58) (.t 56))⟩])

  (.seq (.reg [
  ⟨none, (some 60), (.mv (.t 10))⟩,
  ⟨none, (some 61), (.call 13 true [(.t 60)])⟩,
  ⟨none, (some 59), (.mv (.t 61))⟩,
  ⟨none, (some 62), (.ext (.t 59) 0)⟩,
  ⟨none, (some 63), (.ext (.t 59) 1)⟩,
  ⟨none, (some 11), (.mv (.t 62))⟩,
  ⟨none, (some 12), (.mv (.t 63))⟩])

  (.seq (.reg [
  ⟨none, (some 64), (.call 8 true [])⟩,
  ⟨none, (some 65), (.mv (.t 64))⟩,
  ⟨(some (65, true)), (some 66), (.mv (.t 9))⟩,
  ⟨(some (65, true)), (some 67), (.un .not (.t 66))⟩,
  ⟨none, (some 68), (.pick (.t 65) (.t 67) (.c (.cv (.sc (.bool false)))))⟩,
  ⟨none, (some 69), (.mv (.t 68))⟩,
  ⟨(some (69, true)), (some 70), (.mv (.t 12))⟩,
  ⟨(some (69, true)), (some 71), (.un .not (.t 70))⟩,
  ⟨none, (some 72), (.pick (.t 69) (.t 71) (.c (.cv (.sc (.bool false)))))⟩,
  ⟨none, (some 73), (.mv (.t 72))⟩,
  ⟨(some (73, true)), (some 74), (.mv (.t 5))⟩,
  ⟨(some (73, true)), (some 75), (.call 15 true [(.t 74)])⟩,
  ⟨(some (73, true)), (some 76), (.un .not (.t 75))⟩,
  ⟨none, (some 77), (.pick (.t 73) (.t 76) (.c (.cv (.sc (.bool false)))))⟩,
  ⟨none, (some 78), (.mv (.t 77))⟩,
  ⟨(some (78, true)), (some 79), (.mv (.t 10))⟩,
  ⟨(some (78, true)), (some 80), (.call 15 true [(.t 79)])⟩,
  ⟨(some (78, true)), (some 81), (.un .not (.t 80))⟩,
  ⟨none, (some 82), (.pick (.t 78) (.t 81) (.c (.cv (.sc (.bool false)))))⟩,
  ⟨none, (some 4), (.mv (.t 82))⟩])
  .ret))))))))))))⟩
theorem f5_ok : compF Proofs.Try.prog [10] [] Proofs.Try.f5 = some f5 := by kernel_rfl

def f6_0 : IR :=

  (.seq (.reg [
  ⟨none, (some 13), (.mv (.t 1))⟩,
  ⟨none, (some 14), (.len true (.t 13))⟩,
  ⟨none, (some 15), (.bin .gtr (.t 14) (.c (.cv (.sc (.int .i64 40)))))⟩])
  (.cond (.t 15)
  (.seq (.reg [
  ⟨none, (some 16), (.call 8 true [])⟩,
  ⟨none, (some 4), (.mv (.t 16))⟩])
  .ret) .skip))
def f6_1 : IR :=

  (.seq (.reg [
  ⟨none, (some 36), (.mv (.t 7))⟩,
  ⟨none, (some 37), (.un .not (.t 36))⟩,
  ⟨none, (some 38), (.mv (.t 37))⟩,
  ⟨(some (38, false)), (some 39), (.mv (.t 9))⟩,
  ⟨(some (38, false)), (some 40), (.bin .neq (.t 39) (.c (.cv (.sc (.int .u16 0)))))⟩,
  ⟨none, (some 41), (.pick (.t 38) (.c (.cv (.sc (.bool true)))) (.t 40))⟩,
  ⟨none, (some 42), (.mv (.t 41))⟩,
  ⟨(some (42, false)), (some 43), (.mv (.t 11))⟩,
  ⟨(some (42, false)), (some 44), (.bin .neq (.t 43) (.c (.cv (.sc (.int .u16 0)))))⟩,
  ⟨none, (some 45), (.pick (.t 42) (.c (.cv (.sc (.bool true)))) (.t 44))⟩])
  (.cond (.t 45)
  (.seq (.reg [
  ⟨none, (some 4), (.mv (.c (.cv (.sc (.bool false)))))⟩])
  .ret) .skip))
def f6_2 : IR :=

  (.seq (.reg [
  ⟨none, (some 46), (.mv (.t 1))⟩,
  ⟨none, (some 47), (.bin .neq (.t 46) (.c (.cv (.sc (.string ⟨#[]⟩)))))⟩])
  (.cond (.t 47) (.reg [
  ⟨none, (some 48), (.mv (.t 12))⟩,
  ⟨none, (some 49), (.mv (.t 8))⟩,
  ⟨none, (some 50), (.app 2 40 [(.sc (.string ⟨#[]⟩)), (.sc (.slice none 0 0))] (.t 48) (.t 49))⟩,
  ⟨none, (some 12), (.mv (.t 50))⟩]) .skip))
def f6 : FnIR := ⟨67, [(.t 4)],

  (.seq (.reg [
  ⟨none, (some 4), (.mv (.c (.cv (.sc (.bool false)))))⟩])

  (.seq f6_0

  (.seq (.reg [
  ⟨none, (some 17), (.mv (.t 0))⟩,
  ⟨none, (some 18), (.call 10 true [(.t 17), (.c (.cv (.sc (.int .i64 40))))])⟩,
  ⟨none, (some 5), (.mv (.t 18))⟩])

  (.seq (.reg [
  ⟨none, (some 20), (.mv (.t 5))⟩,
  ⟨none, (some 21), (.call 13 true [(.t 20)])⟩,
  ⟨none, (some 19), (.mv (.t 21))⟩,
  ⟨none, (some 22), (.ext (.t 19) 0)⟩,
  ⟨none, (some 23), (.ext (.t 19) 1)⟩,
  ⟨none, (some 6), (.mv (.t 22))⟩,
  ⟨none, (some 7), (.mv (.t 23))⟩])

  (.seq (.reg [
  ⟨none, (some 25), (.mv (.t 6))⟩,
  ⟨none, (some 26), (.mv (.t 1))⟩,
  ⟨none, (some 27), (.call 16 true [(.t 25), (.c (.cv (.sc (.string ⟨#[]⟩)))), (.t 26)])⟩,
  ⟨none, (some 24), (.mv (.t 27))⟩,
  ⟨none, (some 28), (.ext (.t 24) 0)⟩,
  ⟨none, (some 29), (.ext (.t 24) 1)⟩,
  ⟨none, (some 8), (.mv (.t 28))⟩,
  ⟨none, (some 9), (.mv (.t 29))⟩])

  (.seq (.reg [
  ⟨none, (some 31), (.mv (.t 6))⟩,
  ⟨none, (some 32), (.mv (.t 1))⟩,
  ⟨none, (some 33), (.call 16 true [(.t 31), (.t 32), (.c (.cv (.sc (.string ⟨#[]⟩))))])⟩,
  ⟨none, (some 30), (.mv (.t 33))⟩,
  ⟨none, (some 34), (.ext (.t 30) 0)⟩,
  ⟨none, (some 35), (.ext (.t 30) 1)⟩,
  ⟨none, (some 10), (.mv (.t 34))⟩,
  ⟨none, (some 11), (.mv (.t 35))⟩])

  (.seq f6_1

  (.seq (.reg [
  ⟨none, (some 12), (.mv (.c (.cv (.sc (.slice none 0 0)))))⟩])

  (.seq f6_2

  (.seq (.reg [
  ⟨none, (some 51), (.mv (.t 12))⟩,
  ⟨none, (some 52), (.mv (.t 10))⟩,
  ⟨none, (some 53), (.app 2 40 [(.sc (.string ⟨#[]⟩)), (.sc (.slice none 0 0))] (.t 51) (.t 52))⟩,
  ⟨none, (some 12), (.mv (.t 53))⟩])

  (.seq (.reg [
  ⟨none, (some 54), (.call 8 true [])⟩,
  ⟨none, (some 55), (.mv (.t 54))⟩,
  ⟨(some (55, true)), (some 56), (.mv (.t 12))⟩,
  ⟨(some (55, true)), (some 57), (.mv (.t 5))⟩,
  ⟨(some (55, true)), (some 58), (.call 17 true [(.t 56), (.t 57)])⟩,
  ⟨none, (some 59), (.pick (.t 55) (.t 58) (.c (.cv (.sc (.bool false)))))⟩,
  ⟨none, (some 60), (.mv (.t 59))⟩,
  ⟨(some (60, true)), (some 61), (.mv (.t 8))⟩,
  ⟨(some (60, true)), (some 62), (.len false (.t 61))⟩,
  ⟨(some (60, true)), (some 63), (.mv (.t 5))⟩,
  ⟨(some (60, true)), (some 64), (.len false (.t 63))⟩,
  ⟨(some (60, true)), (some 65), (.bin .leq (.t 62) (.t 64))⟩,
  ⟨none, (some 66), (.pick (.t 60) (.t 65) (.c (.cv (.sc (.bool false)))))⟩,
  ⟨none, (some 4), (.mv (.t 66))⟩])
  .ret)))))))))))⟩
theorem f6_ok : compF Proofs.Try.prog [] [] Proofs.Try.f6 = some f6 := by kernel_rfl

def f7_0 : IR :=

  (.seq (.reg [
  ⟨none, (some 9), (.mv (.t 3))⟩,
  ⟨none, (some 10), (.len true (.t 9))⟩,
  ⟨none, (some 11), (.bin .gtr (.t 10) (.c (.cv (.sc (.int .i64 40)))))⟩])
  (.cond (.t 11)
  (.seq (.reg [
  ⟨none, (some 12), (.call 8 true [])⟩,
  ⟨none, (some 8), (.mv (.t 12))⟩])
  .ret) .skip))
def f7 : FnIR := ⟨30, [(.t 8)],

  (.seq (.reg [
  ⟨none, (some 8), (.mv (.c (.cv (.sc (.bool false)))))⟩])

  (.seq f7_0

  (.seq (.reg [
  ⟨none, (some 13), (.mv (.t 0))⟩,
  ⟨none, (some 14), (.call 10 true [(.t 13), (.c (.cv (.sc (.int .i64 60))))])⟩,
  ⟨none, (some 15), (.mv (.t 3))⟩,
  ⟨none, (some 16), (.call 18 true [(.t 14), (.t 15)])⟩,
  ⟨none, (some 17), (.mv (.t 16))⟩,
  ⟨(some (17, true)), (some 18), (.mv (.t 1))⟩,
  ⟨(some (17, true)), (some 19), (.cvI .i64 (.t 18))⟩,
  ⟨(some (17, true)), (some 20), (.mv (.t 2))⟩,
  ⟨(some (17, true)), (some 21), (.bin .rem (.t 20) (.c (.cv (.sc (.int .u8 120)))))⟩,
  ⟨(some (17, true)), (some 22), (.cvI .i64 (.t 21))⟩,
  ⟨(some (17, true)), (some 23), (.call 12 true [(.t 19), (.t 22)])⟩,
  ⟨(some (17, true)), (some 24), (.mv (.t 3))⟩,
  ⟨(some (17, true)), (some 25), (.call 18 true [(.t 23), (.t 24)])⟩,
  ⟨none, (some 26), (.pick (.t 17) (.t 25) (.c (.cv (.sc (.bool false)))))⟩,
  ⟨none, (some 27), (.mv (.t 26))⟩,
  ⟨(some (27, true)), (some 28), (.call 8 true [])⟩,
  ⟨none, (some 29), (.pick (.t 27) (.t 28) (.c (.cv (.sc (.bool false)))))⟩,
  ⟨none, (some 8), (.mv (.t 29))⟩])
  .ret)))⟩
theorem f7_ok : compF Proofs.Try.prog [] [] Proofs.Try.f7 = some f7 := by kernel_rfl

def f8 : FnIR := ⟨42, [(.t 0)],

  (.seq (.reg [
  ⟨none, (some 0), (.mv (.c (.cv (.sc (.bool false)))))⟩])

  (.seq (.reg [
  ⟨none, (some 8), (.call 13 true [(.c (.cv (.sc (.slice none 0 0))))])⟩,
  ⟨none, (some 7), (.mv (.t 8))⟩,
  ⟨none, (some 9), (.ext (.t 7) 0)⟩,
  ⟨none, (some 10), (.ext (.t 7) 1)⟩,
  ⟨none, (some 1), (.mv (.t 9))⟩,
  ⟨none, (some 2), (.mv (.t 10))⟩])

  (.seq (.reg [
  ⟨none, (some 12), (.mv (.t 1))⟩,
  ⟨none, (some 13), (.call 14 true [(.t 12)])⟩,
  ⟨none, (some 11), (.mv (.t 13))⟩,
  ⟨none, (some 14), (.ext (.t 11) 0)⟩,
  ⟨none, (some 15), (.ext (.t 11) 1)⟩,
  ⟨none, (some 3), (.mv (.t 14))⟩,
  ⟨none, (some 4), (.mv (.t 15))⟩])

  (.seq (.reg [
  ⟨none, (some 17), (.build [(.cv (.sc (.string ⟨#[]⟩))), (.cv (.sc (.slice none 0 0)))] [(0, (1, (.c (.cv (.sc (.string ⟨#[98]⟩))))))])⟩,
  ⟨none, (some 18), (.build [(.cv (.sc (.string ⟨#[]⟩))), (.cv (.sc (.slice none 0 0)))] [(0, (1, (.c (.cv (.sc (.string ⟨#[97]⟩))))))])⟩,
  ⟨none, (some 19), (.mksl 2 2 [(.cv (.sc (.string ⟨#[]⟩))), (.cv (.sc (.slice none 0 0))), (.cv (.sc (.string ⟨#[]⟩))), (.cv (.sc (.slice none 0 0)))] [(0, (2, (.t 17))), (2, (2, (.t 18)))] false)⟩,
  ⟨none, (some 20), (.call 13 true [(.t 19)])⟩,
  ⟨none, (some 16), (.mv (.t 20))⟩,
  ⟨none, (some 21), (.ext (.t 16) 0)⟩,
  ⟨none, (some 22), (.ext (.t 16) 1)⟩,
  ⟨none, (some 5), (.mv (.t 21))⟩,
  ⟨none, (some 6), (.mv (.t 22))⟩])

  (.seq (.reg [
  ⟨none, (some 23), (.mv (.t 2))⟩,
  ⟨none, (some 24), (.mv (.t 23))⟩,
  ⟨(some (24, true)), (some 25), (.mv (.t 1))⟩,
  ⟨(some (24, true)), (some 26), (.len false (.t 25))⟩,
  ⟨(some (24, true)), (some 27), (.bin .eql (.t 26) (.c (.cv (.sc (.int .i64 1)))))⟩,
  ⟨none, (some 28), (.pick (.t 24) (.t 27) (.c (.cv (.sc (.bool false)))))⟩,
  ⟨none, (some 29), (.mv (.t 28))⟩,
  ⟨(some (29, true)), (some 30), (.mv (.t 4))⟩,
  ⟨(some (29, true)), (some 31), (.bin .eql (.t 30) (.c (.cv (.sc (.int .u16 0)))))⟩,
  ⟨none, (some 32), (.pick (.t 29) (.t 31) (.c (.cv (.sc (.bool false)))))⟩,
  ⟨none, (some 33), (.mv (.t 32))⟩,
  ⟨(some (33, true)), (some 34), (.mv (.t 3))⟩,
  ⟨(some (33, true)), (some 35), (.len false (.t 34))⟩,
  ⟨(some (33, true)), (some 36), (.bin .eql (.t 35) (.c (.cv (.sc (.int .i64 0)))))⟩,
  ⟨none, (some 37), (.pick (.t 33) (.t 36) (.c (.cv (.sc (.bool false)))))⟩,
  ⟨none, (some 38), (.mv (.t 37))⟩,
  ⟨(some (38, true)), (some 39), (.mv (.t 6))⟩,
  ⟨(some (38, true)), (some 40), (.un .not (.t 39))⟩,
  ⟨none, (some 41), (.pick (.t 38) (.t 40) (.c (.cv (.sc (.bool false)))))⟩,
  ⟨none, (some 0), (.mv (.t 41))⟩])
  .ret)))))⟩
theorem f8_ok : compF Proofs.Try.prog [] [] Proofs.Try.f8 = some f8 := by kernel_rfl

def f9 : FnIR := ⟨32, [(.t 2)],

  (.seq (.reg [
  ⟨none, (some 2), (.mv (.c (.cv (.sc (.bool false)))))⟩])

  (.seq (.reg [
  ⟨none, (some 8), (.mv (.t 0))⟩,
  ⟨none, (some 9), (.call 13 true [(.t 8)])⟩,
  ⟨none, (some 7), (.mv (.t 9))⟩,
  ⟨none, (some 10), (.ext (.t 7) 0)⟩,
  ⟨none, (some 11), (.ext (.t 7) 1)⟩,
  ⟨none, (some 3), (.mv (.t 10))⟩,
  ⟨none, (some 4), (.mv (.t 11))⟩])

  (.seq (.reg [
  ⟨none, (some 13), (.mv (.t 0))⟩,
  ⟨none, (some 14), (.call 19 true [(.t 13)])⟩,
  ⟨none, (some 12), (.mv (.t 14))⟩,
  ⟨none, (some 15), (.ext (.t 12) 0)⟩,
  ⟨none, (some 16), (.ext (.t 12) 1)⟩,
  ⟨none, (some 5), (.mv (.t 15))⟩,
  ⟨none, (some 6), (.mv (.t 16))⟩])

  (.seq (.reg [
  ⟨none, (some 17), (.mv (.t 4))⟩,
  ⟨none, (some 18), (.mv (.t 6))⟩,
  ⟨none, (some 19), (.eqb false (.t 17) (.t 18))⟩,
  ⟨none, (some 20), (.mv (.t 19))⟩,
  ⟨(some (20, true)), (some 21), (.mv (.t 3))⟩,
  ⟨(some (20, true)), (some 22), (.mv (.t 5))⟩,
  ⟨(some (20, true)), (some 23), (.call 20 true [(.t 21), (.t 22)])⟩,
  ⟨none, (some 24), (.pick (.t 20) (.t 23) (.c (.cv (.sc (.bool false)))))⟩,
  ⟨none, (some 25), (.mv (.t 24))⟩,
  ⟨(some (25, true)), (some 26), (.mv (.t 0))⟩,
  ⟨(some (25, true)), (some 27), (.call 15 true [(.t 26)])⟩,
  ⟨(some (25, true)), (some 28), (.mv (.t 0))⟩,
  ⟨(some (25, true)), (some 29), (.call 21 true [(.t 28)])⟩,
  ⟨(some (25, true)), (some 30), (.eqb false (.t 27) (.t 29))⟩,
  ⟨none, (some 31), (.pick (.t 25) (.t 30) (.c (.cv (.sc (.bool false)))))⟩,
  ⟨none, (some 2), (.mv (.t 31))⟩])
  .ret))))⟩
theorem f9_ok : compF Proofs.Try.prog [] [] Proofs.Try.f9 = some f9 := by kernel_rfl

def f10_0 : IR :=

  (.seq
  (.seq (.reg [
  ⟨none, (some 11), (.mv (.t 7))⟩,
  ⟨none, (some 12), (.mv (.t 5))⟩,
  ⟨none, (some 13), (.len false (.t 12))⟩,
  ⟨none, (some 14), (.bin .lss (.t 11) (.t 13))⟩])
  (.cond (.t 14) .skip (.exit 0)))

  (.seq (.block 1 (.reg [
  ⟨none, (some 17), (.mv (.t 6))⟩,
  ⟨none, (some 18), (.mv (.t 5))⟩,
  ⟨none, (some 19), (.mv (.t 7))⟩,
  ⟨none, (some 20), (.iadL 2 (.t 18) (.t 19))⟩,
  ⟨none, (some 21), (.ld true 2 (.t 20))⟩,
  ⟨none, (some 22), (.call 22 false [(.t 17), (.t 21)])⟩,
  ⟨none, (some 6), (.mv (.t 22))⟩]))
  (.reg [
  ⟨none, (some 15), (.mv (.t 7))⟩,
  ⟨none, (some 16), (.bin .add (.t 15) (.c (.cv (.sc (.int .i64 1)))))⟩,
  ⟨none, (some 7), (.mv (.t 16))⟩])))
def f10 : FnIR := ⟨24, [(.t 4)],

  (.seq (.reg [
  ⟨none, (some 4), (.mv (.c (.cv (.sc (.slice none 0 0)))))⟩])

  (.seq (.reg [
  ⟨none, (some 8), (.mv (.t 0))⟩,
  ⟨none, (some 9), (.mv (.t 1))⟩,
  ⟨none, (some 10), (.call 11 true [(.t 8), (.t 9)])⟩,
  ⟨none, (some 5), (.mv (.t 10))⟩])

  (.seq (.reg [
  ⟨none, (some 6), (.mv (.c (.cv (.sc (.slice none 0 0)))))⟩])

  (.seq
  (.seq (.reg [
  ⟨none, (some 7), (.mv (.c (.cv (.sc (.int .i64 0)))))⟩])
  (.block 0 (.loop f10_0)))

  (.seq (.reg [
  ⟨none, (some 23), (.mv (.t 6))⟩,
  ⟨none, (some 4), (.mv (.t 23))⟩])
  .ret)))))⟩
theorem f10_ok : compF Proofs.Try.prog [22] [] Proofs.Try.f10 = some f10 := by kernel_rfl

def f11_0 : IR :=

  (.seq
  (.seq (.reg [
  ⟨none, (some 44), (.mv (.t 8))⟩,
  ⟨none, (some 45), (.mv (.t 7))⟩,
  ⟨none, (some 46), (.len false (.t 45))⟩,
  ⟨none, (some 47), (.bin .lss (.t 44) (.t 46))⟩])
  (.cond (.t 47) .skip (.exit 2)))

  (.seq (.block 3 (.reg [
  ⟨none, (some 50), (.mv (.t 7))⟩,
  ⟨none, (some 51), (.mv (.t 8))⟩,
  ⟨none, (some 52), (.mv (.t 0))⟩,
  ⟨none, (some 53), (.mv (.t 6))⟩,
  ⟨none, (some 54), (.bin .add (.t 53) (.c (.cv (.sc (.int .i64 1)))))⟩,
  ⟨none, (some 55), (.iadL 1 (.t 52) (.t 54))⟩,
  ⟨none, (some 56), (.ld false 1 (.t 55))⟩,
  ⟨none, (some 57), (.mv (.t 8))⟩,
  ⟨none, (some 58), (.cvI .u8 (.t 57))⟩,
  ⟨none, (some 59), (.bin .add (.t 56) (.t 58))⟩,
  ⟨none, (some 60), (.iadL 1 (.t 50) (.t 51))⟩,
  ⟨none, none, (.st 1 (.t 60) (.t 59))⟩]))
  (.reg [
  ⟨none, (some 48), (.mv (.t 8))⟩,
  ⟨none, (some 49), (.bin .add (.t 48) (.c (.cv (.sc (.int .i64 1)))))⟩,
  ⟨none, (some 8), (.mv (.t 49))⟩])))
def f11_1 : IR :=

  (.seq
  (.seq (.reg [
  ⟨none, (some 9), (.mv (.t 6))⟩,
  ⟨none, (some 10), (.bin .add (.t 9) (.c (.cv (.sc (.int .i64 1)))))⟩,
  ⟨none, (some 11), (.mv (.t 0))⟩,
  ⟨none, (some 12), (.len false (.t 11))⟩,
  ⟨none, (some 13), (.bin .lss (.t 10) (.t 12))⟩,
  ⟨none, (some 14), (.mv (.t 13))⟩,
  ⟨(some (14, true)), (some 15), (.mv (.t 6))⟩,
  ⟨(some (14, true)), (some 16), (.mv (.t 1))⟩,
  ⟨(some (14, true)), (some 17), (.bin .mul (.c (.cv (.sc (.int .i64 2)))) (.t 16))⟩,
  ⟨(some (14, true)), (some 18), (.bin .lss (.t 15) (.t 17))⟩,
  ⟨none, (some 19), (.pick (.t 14) (.t 18) (.c (.cv (.sc (.bool false)))))⟩])
  (.cond (.t 19) .skip (.exit 0)))

  (.seq (.block 1
  (.seq (.reg [
  ⟨none, (some 22), (.mv (.t 0))⟩,
  ⟨none, (some 23), (.mv (.t 6))⟩,
  ⟨none, (some 24), (.bin .add (.t 23) (.c (.cv (.sc (.int .i64 1)))))⟩,
  ⟨none, (some 25), (.iadL 1 (.t 22) (.t 24))⟩,
  ⟨none, (some 26), (.ld false 1 (.t 25))⟩,
  ⟨none, (some 27), (.bin .rem (.t 26) (.c (.cv (.sc (.int .u8 40)))))⟩,
  ⟨none, (some 28), (.cvI .i64 (.t 27))⟩,
  ⟨none, (some 29), (.mks 1 1 [(.sc (.int .u8 0))] (.t 28) (.t 28) true)⟩,
  ⟨none, (some 7), (.mv (.t 29))⟩])

  (.seq
  (.seq (.reg [
  ⟨none, (some 30), (.mv (.t 0))⟩,
  ⟨none, (some 31), (.mv (.t 6))⟩,
  ⟨none, (some 32), (.iadL 1 (.t 30) (.t 31))⟩,
  ⟨none, (some 33), (.ld false 1 (.t 32))⟩,
  ⟨none, (some 34), (.bin .gtr (.t 33) (.c (.cv (.sc (.int .u8 230)))))⟩])
  (.cond (.t 34) (.reg [
  ⟨none, (some 35), (.mv (.t 0))⟩,
  ⟨none, (some 36), (.mv (.t 6))⟩,
  ⟨none, (some 37), (.bin .add (.t 36) (.c (.cv (.sc (.int .i64 1)))))⟩,
  ⟨none, (some 38), (.iadL 1 (.t 35) (.t 37))⟩,
  ⟨none, (some 39), (.ld false 1 (.t 38))⟩,
  ⟨none, (some 40), (.bin .rem (.t 39) (.c (.cv (.sc (.int .u8 50)))))⟩,
  ⟨none, (some 41), (.cvI .i64 (.t 40))⟩,
  ⟨none, (some 42), (.bin .add (.c (.cv (.sc (.int .i64 100)))) (.t 41))⟩,
  ⟨none, (some 43), (.mks 1 1 [(.sc (.int .u8 0))] (.t 42) (.t 42) true)⟩,
  ⟨none, (some 7), (.mv (.t 43))⟩]) .skip))

  (.seq
  (.seq (.reg [
  ⟨none, (some 8), (.mv (.c (.cv (.sc (.int .i64 0)))))⟩])
  (.block 2 (.loop f11_0)))
  (.draw [(
  ⟨none, (some 61), (.mv (.t 5))⟩, .p), (
  ⟨none, (some 62), (.mv (.t 0))⟩, .p), (
  ⟨none, (some 63), (.mv (.t 6))⟩, .p), (
  ⟨none, (some 64), (.iadL 1 (.t 62) (.t 63))⟩, (.r 0 0)), (
  ⟨none, (some 65), (.ld false 1 (.t 64))⟩, (.r 0 0)), (
  ⟨none, (some 66), (.bin .rem (.t 65) (.c (.cv (.sc (.int .u8 16)))))⟩, .p), (
  ⟨none, (some 67), (.bin .add (.c (.cv (.sc (.int .u8 97)))) (.t 66))⟩, .p), (
  ⟨none, (some 68), (.mv (.t 0))⟩, .p), (
  ⟨none, (some 69), (.mv (.t 6))⟩, .p), (
  ⟨none, (some 70), (.iadL 1 (.t 68) (.t 69))⟩, (.r 0 0)), (
  ⟨none, (some 71), (.ld false 1 (.t 70))⟩, (.r 0 0)), (
  ⟨none, (some 72), (.bin .quo (.t 71) (.c (.cv (.sc (.int .u8 16)))))⟩, .p), (
  ⟨none, (some 73), (.bin .rem (.t 72) (.c (.cv (.sc (.int .u8 4)))))⟩, .p), (
  ⟨none, (some 74), (.bin .add (.c (.cv (.sc (.int .u8 97)))) (.t 73))⟩, .p), (
  ⟨none, (some 75), (.mksl 1 2 [(.cv (.sc (.int .u8 0))), (.cv (.sc (.int .u8 0)))] [(0, (1, (.t 67))), (1, (1, (.t 74)))] false)⟩, (.r 0 0)), (
  ⟨none, (some 76), (.cvBS (.t 75))⟩, (.r 0 0)), (
  ⟨none, (some 77), (.mv (.t 7))⟩, .p), (
  ⟨none, (some 78), (.build [(.cv (.sc (.string ⟨#[]⟩))), (.cv (.sc (.slice none 0 0)))] [(0, (1, (.t 76))), (1, (1, (.t 77)))])⟩, .p), (
  ⟨none, (some 79), (.mksl 2 1 [(.cv (.sc (.string ⟨#[]⟩))), (.cv (.sc (.slice none 0 0)))] [(0, (2, (.t 78)))] true)⟩, .k), (
  ⟨none, (some 80), (.app 2 40 [(.sc (.string ⟨#[]⟩)), (.sc (.slice none 0 0))] (.t 61) (.t 79))⟩, .k), (
  ⟨none, (some 5), (.mv (.t 80))⟩, .p)])))))
  (.reg [
  ⟨none, (some 20), (.mv (.t 6))⟩,
  ⟨none, (some 21), (.bin .add (.t 20) (.c (.cv (.sc (.int .i64 2)))))⟩,
  ⟨none, (some 6), (.mv (.t 21))⟩])))
def f11 : FnIR := ⟨82, [(.t 4)],

  (.seq (.reg [
  ⟨none, (some 4), (.mv (.c (.cv (.sc (.slice none 0 0)))))⟩])

  (.seq (.reg [
  ⟨none, (some 5), (.mv (.c (.cv (.sc (.slice none 0 0)))))⟩])

  (.seq
  (.seq (.reg [
  ⟨none, (some 6), (.mv (.c (.cv (.sc (.int .i64 0)))))⟩])
  (.block 0 (.loop f11_1)))

  (.seq (.reg [
  ⟨none, (some 81), (.mv (.t 5))⟩,
  ⟨none, (some 4), (.mv (.t 81))⟩])
  .ret))))⟩
theorem f11_ok : compF Proofs.Try.prog [] [(5, 7), (7, 8), (12, 18)] Proofs.Try.f11 = some f11 := by kernel_rfl

def f12_0 : IR :=

  (.seq
  (.seq (.reg [
  ⟨none, (some 16), (.mv (.t 8))⟩,
  ⟨none, (some 17), (.mv (.t 7))⟩,
  ⟨none, (some 18), (.len false (.t 17))⟩,
  ⟨none, (some 19), (.bin .lss (.t 16) (.t 18))⟩])
  (.cond (.t 19) .skip (.exit 2)))

  (.seq (.block 3 (.reg [
  ⟨none, (some 22), (.mv (.t 7))⟩,
  ⟨none, (some 23), (.mv (.t 8))⟩,
  ⟨none, (some 24), (.mv (.t 6))⟩,
  ⟨none, (some 25), (.cvI .u8 (.t 24))⟩,
  ⟨none, (some 26), (.iadL 1 (.t 22) (.t 23))⟩,
  ⟨none, none, (.st 1 (.t 26) (.t 25))⟩]))
  (.reg [
  ⟨none, (some 20), (.mv (.t 8))⟩,
  ⟨none, (some 21), (.bin .add (.t 20) (.c (.cv (.sc (.int .i64 1)))))⟩,
  ⟨none, (some 8), (.mv (.t 21))⟩])))
def f12_1 : IR :=

  (.seq
  (.seq (.reg [
  ⟨none, (some 9), (.mv (.t 6))⟩,
  ⟨none, (some 10), (.mv (.t 0))⟩,
  ⟨none, (some 11), (.bin .lss (.t 9) (.t 10))⟩])
  (.cond (.t 11) .skip (.exit 0)))

  (.seq (.block 1
  (.seq (.reg [
  ⟨none, (some 14), (.mv (.t 1))⟩,
  ⟨none, (some 15), (.mks 1 1 [(.sc (.int .u8 0))] (.t 14) (.t 14) true)⟩,
  ⟨none, (some 7), (.mv (.t 15))⟩])

  (.seq
  (.seq (.reg [
  ⟨none, (some 8), (.mv (.c (.cv (.sc (.int .i64 0)))))⟩])
  (.block 2 (.loop f12_0)))
  (.reg [
  ⟨none, (some 27), (.mv (.t 5))⟩,
  ⟨none, (some 28), (.mv (.t 6))⟩,
  ⟨none, (some 29), (.bin .quo (.t 28) (.c (.cv (.sc (.int .i64 676)))))⟩,
  ⟨none, (some 30), (.cvI .u8 (.t 29))⟩,
  ⟨none, (some 31), (.bin .add (.c (.cv (.sc (.int .u8 97)))) (.t 30))⟩,
  ⟨none, (some 32), (.mv (.t 6))⟩,
  ⟨none, (some 33), (.bin .quo (.t 32) (.c (.cv (.sc (.int .i64 26)))))⟩,
  ⟨none, (some 34), (.bin .rem (.t 33) (.c (.cv (.sc (.int .i64 26)))))⟩,
  ⟨none, (some 35), (.cvI .u8 (.t 34))⟩,
  ⟨none, (some 36), (.bin .add (.c (.cv (.sc (.int .u8 97)))) (.t 35))⟩,
  ⟨none, (some 37), (.mv (.t 6))⟩,
  ⟨none, (some 38), (.bin .rem (.t 37) (.c (.cv (.sc (.int .i64 26)))))⟩,
  ⟨none, (some 39), (.cvI .u8 (.t 38))⟩,
  ⟨none, (some 40), (.bin .add (.c (.cv (.sc (.int .u8 97)))) (.t 39))⟩,
  ⟨none, (some 41), (.mksl 1 3 [(.cv (.sc (.int .u8 0))), (.cv (.sc (.int .u8 0))), (.cv (.sc (.int .u8 0)))] [(0, (1, (.t 31))), (1, (1, (.t 36))), (2, (1, (.t 40)))] false)⟩,
  ⟨none, (some 42), (.cvBS (.t 41))⟩,
  ⟨none, (some 43), (.mv (.t 7))⟩,
  ⟨none, (some 44), (.build [(.cv (.sc (.string ⟨#[]⟩))), (.cv (.sc (.slice none 0 0)))] [(0, (1, (.t 42))), (1, (1, (.t 43)))])⟩,
  ⟨none, (some 45), (.mksl 2 1 [(.cv (.sc (.string ⟨#[]⟩))), (.cv (.sc (.slice none 0 0)))] [(0, (2, (.t 44)))] false)⟩,
  ⟨none, (some 46), (.app 2 40 [(.sc (.string ⟨#[]⟩)), (.sc (.slice none 0 0))] (.t 27) (.t 45))⟩,
  ⟨none, (some 5), (.mv (.t 46))⟩]))))
  (.reg [
  ⟨none, (some 12), (.mv (.t 6))⟩,
  ⟨none, (some 13), (.bin .add (.t 12) (.c (.cv (.sc (.int .i64 1)))))⟩,
  ⟨none, (some 6), (.mv (.t 13))⟩])))
def f12 : FnIR := ⟨48, [(.t 4)],

  (.seq (.reg [
  ⟨none, (some 4), (.mv (.c (.cv (.sc (.slice none 0 0)))))⟩])

  (.seq (.reg [
  ⟨none, (some 5), (.mv (.c (.cv (.sc (.slice none 0 0)))))⟩])

  (.seq
  (.seq (.reg [
  ⟨none, (some 6), (.mv (.c (.cv (.sc (.int .i64 0)))))⟩])
  (.block 0 (.loop f12_1)))

  (.seq (.reg [
  ⟨none, (some 47), (.mv (.t 5))⟩,
  ⟨none, (some 4), (.mv (.t 47))⟩])
  .ret))))⟩
theorem f12_ok : compF Proofs.Try.prog [3000001] [] Proofs.Try.f12 = some f12 := by kernel_rfl

def f13_0 : IR :=

  (.seq (.reg [
  ⟨none, (some 8), (.mv (.t 0))⟩,
  ⟨none, (some 9), (.call 15 true [(.t 8)])⟩,
  ⟨none, (some 10), (.un .not (.t 9))⟩,
  ⟨none, (some 11), (.mv (.t 10))⟩,
  ⟨(some (11, false)), (some 12), (.mv (.t 0))⟩,
  ⟨(some (11, false)), (some 13), (.len false (.t 12))⟩,
  ⟨(some (11, false)), (some 14), (.bin .gtr (.t 13) (.c (.cv (.sc (.int .i64 5000)))))⟩,
  ⟨none, (some 15), (.pick (.t 11) (.c (.cv (.sc (.bool true)))) (.t 14))⟩])
  (.cond (.t 15)
  (.seq (.reg [
  ⟨none, (some 2), (.mv (.c (.cv (.sc (.slice none 0 0)))))⟩,
  ⟨none, (some 3), (.mv (.c (.cv (.sc (.bool false)))))⟩])
  .ret) .skip))
def f13_1 : IR :=

  (.seq
  (.seq (.reg [
  ⟨none, (some 18), (.mv (.t 5))⟩,
  ⟨none, (some 19), (.bin .leq (.t 18) (.c (.cv (.sc (.int .i64 4)))))⟩])
  (.cond (.t 19) .skip (.exit 0)))

  (.seq (.block 1
  (.seq (.reg [
  ⟨none, (some 23), (.mv (.t 4))⟩,
  ⟨none, (some 24), (.mv (.t 5))⟩,
  ⟨none, (some 25), (.mv (.t 0))⟩,
  ⟨none, (some 26), (.call 23 false [(.t 23), (.t 24), (.t 25)])⟩,
  ⟨none, (some 22), (.mv (.t 26))⟩,
  ⟨none, (some 27), (.ext (.t 22) 0)⟩,
  ⟨none, (some 28), (.ext (.t 22) 1)⟩,
  ⟨none, (some 6), (.mv (.t 27))⟩,
  ⟨none, (some 7), (.mv (.t 28))⟩])

  (.seq (.block 2
  (.seq (.reg [
  ⟨none, (some 30), (.mv (.t 7))⟩,
  ⟨none, (some 31), (.un .not (.t 30))⟩,
  ⟨none, (some 29), (.mv (.t 31))⟩])
  (.cond (.t 29) (.exit 0)
  (.seq (.reg [
  ⟨none, (some 33), (.mv (.t 6))⟩,
  ⟨none, (some 34), (.len false (.t 33))⟩,
  ⟨none, (some 35), (.bin .eql (.t 34) (.c (.cv (.sc (.int .i64 1)))))⟩,
  ⟨none, (some 32), (.mv (.t 35))⟩])
  (.cond (.t 32)
  (.seq (.reg [
  ⟨none, (some 36), (.mv (.t 4))⟩,
  ⟨none, (some 37), (.nilck (.t 36))⟩,
  ⟨none, (some 38), (.fad 0 (.t 37))⟩,
  ⟨none, (some 39), (.ld false 1 (.t 38))⟩,
  ⟨none, (some 2), (.mv (.t 39))⟩,
  ⟨none, (some 3), (.mv (.c (.cv (.sc (.bool true)))))⟩])
  .ret) .skip)))))
  (.reg [
  ⟨none, (some 40), (.mv (.t 6))⟩,
  ⟨none, (some 0), (.mv (.t 40))⟩]))))
  (.reg [
  ⟨none, (some 20), (.mv (.t 5))⟩,
  ⟨none, (some 21), (.bin .add (.t 20) (.c (.cv (.sc (.int .i64 1)))))⟩,
  ⟨none, (some 5), (.mv (.t 21))⟩])))
def f13_2 : IR :=

  (.seq f13_0

  (.seq (.reg [
  ⟨none, (some 16), (.build [(.cv (.sc (.slice none 0 0)))] [])⟩,
  ⟨none, (some 17), (.box 1 (.t 16))⟩,
  ⟨none, (some 4), (.mv (.t 17))⟩])

  (.seq (.label 0)

  (.seq
  (.seq (.reg [
  ⟨none, (some 5), (.mv (.c (.cv (.sc (.int .i64 0)))))⟩])
  (.block 0 (.loop f13_1)))

  (.seq (.reg [
  ⟨none, (some 2), (.mv (.c (.cv (.sc (.slice none 0 0)))))⟩,
  ⟨none, (some 3), (.mv (.c (.cv (.sc (.bool false)))))⟩])
  .ret)))))
def f13 : FnIR := ⟨41, [(.t 2), (.t 3)],

  (.seq (.reg [
  ⟨none, (some 2), (.mv (.c (.cv (.sc (.slice none 0 0)))))⟩,
  ⟨none, (some 3), (.mv (.c (.cv (.sc (.bool false)))))⟩])
  (.scope f13_2))⟩
theorem f13_ok : compF Proofs.Try.prog [23] [] Proofs.Try.f13 = some f13 := by kernel_rfl

def f14_0 : IR :=
  (.cond (.t 15) .skip (.exit 0))
def f14_1 : IR :=

  (.seq (.reg [
  ⟨none, (some 24), (.mv (.t 9))⟩,
  ⟨none, (some 25), (.bin .neq (.t 24) (.c (.cv (.sc (.int .u16 0)))))⟩])
  (.cond (.t 25)
  (.seq (.reg [
  ⟨none, (some 26), (.mv (.t 9))⟩,
  ⟨none, (some 2), (.mv (.c (.cv (.sc (.slice none 0 0)))))⟩,
  ⟨none, (some 3), (.mv (.t 26))⟩])
  .ret) .skip))
def f14_2 : IR :=

  (.seq (.reg [
  ⟨none, (some 15), (.bin .lss (.t 14) (.t 13))⟩])

  (.seq f14_0

  (.seq (.block 1
  (.seq (.reg [
  ⟨none, (some 16), (.iadL 1 (.t 12) (.t 14))⟩,
  ⟨none, (some 17), (.ld false 1 (.t 16))⟩,
  ⟨none, (some 6), (.mv (.t 17))⟩])

  (.seq (.reg [
  ⟨none, (some 19), (.mv (.t 6))⟩,
  ⟨none, (some 20), (.call 24 true [(.t 19)])⟩,
  ⟨none, (some 18), (.mv (.t 20))⟩,
  ⟨none, (some 21), (.ext (.t 18) 0)⟩,
  ⟨none, (some 22), (.ext (.t 18) 1)⟩,
  ⟨none, (some 23), (.ext (.t 18) 2)⟩,
  ⟨none, (some 7), (.mv (.t 21))⟩,
  ⟨none, (some 8), (.mv (.t 22))⟩,
  ⟨none, (some 9), (.mv (.t 23))⟩])

  (.seq f14_1

  (.seq (.reg [
  ⟨none, (some 27), (.mv (.t 7))⟩,
  ⟨none, (some 28), (.bin .eql (.t 27) (.c (.cv (.sc (.int .i64 0)))))⟩])
  (.cond (.t 28) (.reg [
  ⟨none, (some 29), (.mv (.t 4))⟩,
  ⟨none, (some 30), (.mv (.t 8))⟩,
  ⟨none, (some 31), (.app 2 40 [(.sc (.string ⟨#[]⟩)), (.sc (.slice none 0 0))] (.t 29) (.t 30))⟩,
  ⟨none, (some 4), (.mv (.t 31))⟩]) .skip))))))
  (.reg [
  ⟨none, (some 32), (.bin .add (.t 14) (.c (.cv (.sc (.int .i64 1)))))⟩,
  ⟨none, (some 14), (.mv (.t 32))⟩]))))
def f14 : FnIR := ⟨47, [(.t 2), (.t 3)],

  (.seq (.reg [
  ⟨none, (some 2), (.mv (.c (.cv (.sc (.slice none 0 0)))))⟩,
  ⟨none, (some 3), (.mv (.c (.cv (.sc (.int .u16 0)))))⟩])

  (.seq (.reg [
  ⟨none, (some 4), (.mv (.c (.cv (.sc (.slice none 0 0)))))⟩])

  (.seq
  (.seq (.reg [
  ⟨none, (some 12), (.mv (.t 0))⟩,
  ⟨none, (some 13), (.len false (.t 12))⟩,
  ⟨none, (some 14), (.mv (.c (.cv (.sc (.int .i64 0)))))⟩])
  (.block 0 (.loop f14_2)))

  (.seq
  (.seq (.reg [
  ⟨none, (some 34), (.mv (.t 4))⟩,
  ⟨none, (some 35), (.call 13 true [(.t 34)])⟩,
  ⟨none, (some 33), (.mv (.t 35))⟩,
  ⟨none, (some 36), (.ext (.t 33) 0)⟩,
  ⟨none, (some 37), (.ext (.t 33) 1)⟩,
  ⟨none, (some 10), (.mv (.t 36))⟩,
  ⟨none, (some 11), (.mv (.t 37))⟩])

  (.seq (.reg [
  ⟨none, (some 38), (.mv (.t 11))⟩,
  ⟨none, (some 39), (.un .not (.t 38))⟩,
  ⟨none, (some 40), (.mv (.t 39))⟩,
  ⟨(some (40, false)), (some 41), (.mv (.t 10))⟩,
  ⟨(some (40, false)), (some 42), (.mv (.t 0))⟩,
  ⟨(some (40, false)), (some 43), (.call 25 true [(.t 41), (.t 42), (.c (.func 26 []))])⟩,
  ⟨(some (40, false)), (some 44), (.un .not (.t 43))⟩,
  ⟨none, (some 45), (.pick (.t 40) (.c (.cv (.sc (.bool true)))) (.t 44))⟩])
  (.cond (.t 45)
  (.seq (.reg [
  ⟨none, (some 2), (.mv (.c (.cv (.sc (.slice none 0 0)))))⟩,
  ⟨none, (some 3), (.mv (.c (.cv (.sc (.int .u16 11)))))⟩])
  .ret) .skip)))

  (.seq (.reg [
  ⟨none, (some 46), (.mv (.t 4))⟩,
  ⟨none, (some 2), (.mv (.t 46))⟩,
  ⟨none, (some 3), (.mv (.c (.cv (.sc (.int .u16 0)))))⟩])
  .ret)))))⟩
theorem f14_ok : compF Proofs.Try.prog [] [] Proofs.Try.f14 = some f14 := by kernel_rfl

def f15_0 : IR :=
  (.cond (.t 7) .skip (.exit 0))
def f15_1 : IR :=

  (.seq (.reg [
  ⟨none, (some 7), (.bin .lss (.t 6) (.t 5))⟩])

  (.seq f15_0

  (.seq (.block 1
  (.seq (.reg [
  ⟨none, (some 8), (.mv (.t 6))⟩,
  ⟨none, (some 3), (.mv (.t 8))⟩])

  (.seq (.draw [(
  ⟨none, (some 9), (.mv (.t 3))⟩, .p), (
  ⟨none, (some 10), (.bin .gtr (.t 9) (.c (.cv (.sc (.int .i64 0)))))⟩, .p), (
  ⟨none, (some 11), (.mv (.t 10))⟩, .p), (
  ⟨(some (11, true)), (some 12), (.mv (.t 0))⟩, .p), (
  ⟨(some (11, true)), (some 13), (.mv (.t 3))⟩, .p), (
  ⟨(some (11, true)), (some 14), (.iadL 2 (.t 12) (.t 13))⟩, (.r 0 0)), (
  ⟨(some (11, true)), (some 15), (.fad 0 (.t 14))⟩, .p), (
  ⟨(some (11, true)), (some 16), (.ld false 1 (.t 15))⟩, (.r 0 0)), (
  ⟨(some (11, true)), (some 17), (.mv (.t 0))⟩, .p), (
  ⟨(some (11, true)), (some 18), (.mv (.t 3))⟩, .p), (
  ⟨(some (11, true)), (some 19), (.bin .sub (.t 18) (.c (.cv (.sc (.int .i64 1)))))⟩, .p), (
  ⟨(some (11, true)), (some 20), (.iadL 2 (.t 17) (.t 19))⟩, (.r 0 0)), (
  ⟨(some (11, true)), (some 21), (.fad 0 (.t 20))⟩, .p), (
  ⟨(some (11, true)), (some 22), (.ld false 1 (.t 21))⟩, (.r 0 0)), (
  ⟨(some (11, true)), (some 23), (.bin .leq (.t 16) (.t 22))⟩, .p), (
  ⟨none, (some 24), (.pick (.t 11) (.t 23) (.c (.cv (.sc (.bool false)))))⟩, .p)])
  (.cond (.t 24)
  (.seq (.reg [
  ⟨none, (some 2), (.mv (.c (.cv (.sc (.bool false)))))⟩])
  .ret) .skip))))
  (.reg [
  ⟨none, (some 25), (.bin .add (.t 6) (.c (.cv (.sc (.int .i64 1)))))⟩,
  ⟨none, (some 6), (.mv (.t 25))⟩]))))
def f15 : FnIR := ⟨26, [(.t 2)],

  (.seq (.reg [
  ⟨none, (some 2), (.mv (.c (.cv (.sc (.bool false)))))⟩])

  (.seq
  (.seq (.reg [
  ⟨none, (some 4), (.mv (.t 0))⟩,
  ⟨none, (some 5), (.len false (.t 4))⟩,
  ⟨none, (some 6), (.mv (.c (.cv (.sc (.int .i64 0)))))⟩])
  (.block 0 (.loop f15_1)))

  (.seq (.reg [
  ⟨none, (some 2), (.mv (.c (.cv (.sc (.bool true)))))⟩])
  .ret)))⟩
theorem f15_ok : compF Proofs.Try.prog [] [] Proofs.Try.f15 = some f15 := by kernel_rfl

def f16 : FnIR := ⟨19, [(.t 6), (.t 7)],

  (.seq (.reg [
  ⟨none, (some 4), (.box 1 (.t 1))⟩,
  ⟨none, (some 5), (.box 1 (.t 2))⟩,
  ⟨none, (some 6), (.mv (.c (.cv (.sc (.slice none 0 0)))))⟩,
  ⟨none, (some 7), (.mv (.c (.cv (.sc (.int .u16 0)))))⟩])

  (.seq (.reg [
  ⟨none, (some 11), (.mv (.t 0))⟩,
  ⟨none, (some 12), (.call 14 false [(.t 11)])⟩,
  ⟨none, (some 10), (.mv (.t 12))⟩,
  ⟨none, (some 13), (.ext (.t 10) 0)⟩,
  ⟨none, (some 14), (.ext (.t 10) 1)⟩,
  ⟨none, (some 8), (.mv (.t 13))⟩,
  ⟨none, (some 9), (.mv (.t 14))⟩])

  (.seq (.reg [
  ⟨none, (some 15), (.mv (.t 8))⟩,
  ⟨none, (some 16), (.mkfn 28 [(.t 4), (.t 5)])⟩,
  ⟨none, (some 17), (.call 27 false [(.t 15), (.t 16)])⟩,
  ⟨none, (some 18), (.mv (.t 9))⟩,
  ⟨none, (some 6), (.mv (.t 17))⟩,
  ⟨none, (some 7), (.mv (.t 18))⟩])
  .ret)))⟩
theorem f16_ok : compF Proofs.Try.prog [14, 27] [] Proofs.Try.f16 = some f16 := by kernel_rfl

def f17_0 : IR :=

  (.seq (.reg [
  ⟨none, (some 6), (.mv (.t 0))⟩,
  ⟨none, (some 7), (.len false (.t 6))⟩,
  ⟨none, (some 8), (.mv (.t 1))⟩,
  ⟨none, (some 9), (.len false (.t 8))⟩,
  ⟨none, (some 10), (.bin .neq (.t 7) (.t 9))⟩])
  (.cond (.t 10)
  (.seq (.reg [
  ⟨none, (some 4), (.mv (.c (.cv (.sc (.bool false)))))⟩])
  .ret) .skip))
def f17_1 : IR :=

  (.seq
  (.seq (.reg [
  ⟨none, (some 11), (.mv (.t 5))⟩,
  ⟨none, (some 12), (.mv (.t 0))⟩,
  ⟨none, (some 13), (.len false (.t 12))⟩,
  ⟨none, (some 14), (.bin .lss (.t 11) (.t 13))⟩])
  (.cond (.t 14) .skip (.exit 0)))

  (.seq (.block 1
  (.seq (.draw [(
  ⟨none, (some 17), (.mv (.t 0))⟩, .p), (
  ⟨none, (some 18), (.mv (.t 5))⟩, .p), (
  ⟨none, (some 19), (.iadL 2 (.t 17) (.t 18))⟩, (.r 0 0)), (
  ⟨none, (some 20), (.fad 0 (.t 19))⟩, .p), (
  ⟨none, (some 21), (.ld false 1 (.t 20))⟩, (.r 0 0)), (
  ⟨none, (some 22), (.mv (.t 1))⟩, .p), (
  ⟨none, (some 23), (.mv (.t 5))⟩, .p), (
  ⟨none, (some 24), (.iadL 2 (.t 22) (.t 23))⟩, (.r 0 0)), (
  ⟨none, (some 25), (.fad 0 (.t 24))⟩, .p), (
  ⟨none, (some 26), (.ld false 1 (.t 25))⟩, (.r 0 0)), (
  ⟨none, (some 27), (.bin .neq (.t 21) (.t 26))⟩, .p), (
  ⟨none, (some 28), (.mv (.t 27))⟩, .p), (
  ⟨(some (28, false)), (some 29), (.mv (.t 0))⟩, .p), (
  ⟨(some (28, false)), (some 30), (.mv (.t 5))⟩, .p), (
  ⟨(some (28, false)), (some 31), (.iadL 2 (.t 29) (.t 30))⟩, (.r 0 0)), (
  ⟨(some (28, false)), (some 32), (.fad 1 (.t 31))⟩, .p), (
  ⟨(some (28, false)), (some 33), (.ld false 1 (.t 32))⟩, (.r 0 0)), (
  ⟨(some (28, false)), (some 34), (.cvBS (.t 33))⟩, (.r 0 0)), (
  ⟨(some (28, false)), (some 35), (.mv (.t 1))⟩, .p), (
  ⟨(some (28, false)), (some 36), (.mv (.t 5))⟩, .p), (
  ⟨(some (28, false)), (some 37), (.iadL 2 (.t 35) (.t 36))⟩, (.r 0 0)), (
  ⟨(some (28, false)), (some 38), (.fad 1 (.t 37))⟩, .p), (
  ⟨(some (28, false)), (some 39), (.ld false 1 (.t 38))⟩, (.r 0 0)), (
  ⟨(some (28, false)), (some 40), (.cvBS (.t 39))⟩, (.r 0 0)), (
  ⟨(some (28, false)), (some 41), (.bin .neq (.t 34) (.t 40))⟩, .p), (
  ⟨none, (some 42), (.pick (.t 28) (.c (.cv (.sc (.bool true)))) (.t 41))⟩, .p)])
  (.cond (.t 42)
  (.seq (.reg [
  ⟨none, (some 4), (.mv (.c (.cv (.sc (.bool false)))))⟩])
  .ret) .skip)))
  (.reg [
  ⟨none, (some 15), (.mv (.t 5))⟩,
  ⟨none, (some 16), (.bin .add (.t 15) (.c (.cv (.sc (.int .i64 1)))))⟩,
  ⟨none, (some 5), (.mv (.t 16))⟩])))
def f17 : FnIR := ⟨43, [(.t 4)],

  (.seq (.reg [
  ⟨none, (some 4), (.mv (.c (.cv (.sc (.bool false)))))⟩])

  (.seq f17_0

  (.seq
  (.seq (.reg [
  ⟨none, (some 5), (.mv (.c (.cv (.sc (.int .i64 0)))))⟩])
  (.block 0 (.loop f17_1)))

  (.seq (.reg [
  ⟨none, (some 4), (.mv (.c (.cv (.sc (.bool true)))))⟩])
  .ret))))⟩
theorem f17_ok : compF Proofs.Try.prog [] [] Proofs.Try.f17 = some f17 := by kernel_rfl

def f18_0 : IR :=

  (.seq (.reg [
  ⟨none, (some 22), (.mv (.t 6))⟩,
  ⟨none, (some 23), (.un .not (.t 22))⟩])
  (.cond (.t 23)
  (.seq (.reg [
  ⟨none, (some 4), (.mv (.c (.cv (.sc (.bool false)))))⟩])
  .ret) .skip))
def f18_1 : IR :=

  (.seq (.reg [
  ⟨none, (some 29), (.mv (.t 8))⟩,
  ⟨none, (some 30), (.bin .neq (.t 29) (.c (.cv (.sc (.int .u16 0)))))⟩,
  ⟨none, (some 31), (.mv (.t 30))⟩,
  ⟨(some (31, false)), (some 32), (.mv (.t 0))⟩,
  ⟨(some (31, false)), (some 33), (.mv (.t 7))⟩,
  ⟨(some (31, false)), (some 34), (.call 17 true [(.t 32), (.t 33)])⟩,
  ⟨(some (31, false)), (some 35), (.un .not (.t 34))⟩,
  ⟨none, (some 36), (.pick (.t 31) (.c (.cv (.sc (.bool true)))) (.t 35))⟩])
  (.cond (.t 36)
  (.seq (.reg [
  ⟨none, (some 4), (.mv (.c (.cv (.sc (.bool false)))))⟩])
  .ret) .skip))
def f18_2 : IR :=

  (.seq (.draw [(
  ⟨none, (some 54), (.mv (.t 13))⟩, .p), (
  ⟨none, (some 55), (.bin .neq (.t 54) (.c (.cv (.sc (.int .u16 0)))))⟩, .p), (
  ⟨none, (some 56), (.mv (.t 55))⟩, .p), (
  ⟨(some (56, false)), (some 57), (.mv (.t 12))⟩, .p), (
  ⟨(some (56, false)), (some 58), (.un .not (.t 57))⟩, .p), (
  ⟨none, (some 59), (.pick (.t 56) (.c (.cv (.sc (.bool true)))) (.t 58))⟩, .p), (
  ⟨none, (some 60), (.mv (.t 59))⟩, .p), (
  ⟨(some (60, false)), (some 61), (.mv (.t 11))⟩, .p), (
  ⟨(some (60, false)), (some 62), (.cvBS (.t 61))⟩, (.r 0 0)), (
  ⟨(some (60, false)), (some 63), (.mv (.t 0))⟩, .p), (
  ⟨(some (60, false)), (some 64), (.mv (.t 10))⟩, .p), (
  ⟨(some (60, false)), (some 65), (.iadL 2 (.t 63) (.t 64))⟩, (.r 0 0)), (
  ⟨(some (60, false)), (some 66), (.fad 1 (.t 65))⟩, .p), (
  ⟨(some (60, false)), (some 67), (.ld false 1 (.t 66))⟩, (.r 0 0)), (
  ⟨(some (60, false)), (some 68), (.cvBS (.t 67))⟩, (.r 0 0)), (
  ⟨(some (60, false)), (some 69), (.bin .neq (.t 62) (.t 68))⟩, .p), (
  ⟨none, (some 70), (.pick (.t 60) (.c (.cv (.sc (.bool true)))) (.t 69))⟩, .p)])
  (.cond (.t 70)
  (.seq (.reg [
  ⟨none, (some 4), (.mv (.c (.cv (.sc (.bool false)))))⟩])
  .ret) .skip))
def f18_3 : IR :=

  (.seq
  (.seq (.reg [
  ⟨none, (some 37), (.mv (.t 10))⟩,
  ⟨none, (some 38), (.mv (.t 0))⟩,
  ⟨none, (some 39), (.len false (.t 38))⟩,
  ⟨none, (some 40), (.bin .lss (.t 37) (.t 39))⟩])
  (.cond (.t 40) .skip (.exit 0)))

  (.seq (.block 1
  (.seq (.reg [
  ⟨none, (some 44), (.mv (.t 5))⟩,
  ⟨none, (some 45), (.mv (.t 0))⟩,
  ⟨none, (some 46), (.mv (.t 10))⟩,
  ⟨none, (some 47), (.iadL 2 (.t 45) (.t 46))⟩,
  ⟨none, (some 48), (.fad 0 (.t 47))⟩,
  ⟨none, (some 49), (.ld false 1 (.t 48))⟩,
  ⟨none, (some 50), (.call 29 true [(.t 44), (.t 49)])⟩,
  ⟨none, (some 43), (.mv (.t 50))⟩,
  ⟨none, (some 51), (.ext (.t 43) 0)⟩,
  ⟨none, (some 52), (.ext (.t 43) 1)⟩,
  ⟨none, (some 53), (.ext (.t 43) 2)⟩,
  ⟨none, (some 11), (.mv (.t 51))⟩,
  ⟨none, (some 12), (.mv (.t 52))⟩,
  ⟨none, (some 13), (.mv (.t 53))⟩])

  (.seq f18_2
  (.reg [
  ⟨none, (some 71), (.mv (.t 9))⟩,
  ⟨none, (some 72), (.mv (.t 71))⟩,
  ⟨(some (72, false)), (some 73), (.mv (.t 0))⟩,
  ⟨(some (72, false)), (some 74), (.mv (.t 10))⟩,
  ⟨(some (72, false)), (some 75), (.iadL 2 (.t 73) (.t 74))⟩,
  ⟨(some (72, false)), (some 76), (.fad 0 (.t 75))⟩,
  ⟨(some (72, false)), (some 77), (.ld false 1 (.t 76))⟩,
  ⟨(some (72, false)), (some 78), (.mv (.t 1))⟩,
  ⟨(some (72, false)), (some 79), (.bin .eql (.t 77) (.t 78))⟩,
  ⟨none, (some 80), (.pick (.t 72) (.c (.cv (.sc (.bool true)))) (.t 79))⟩,
  ⟨none, (some 9), (.mv (.t 80))⟩]))))
  (.reg [
  ⟨none, (some 41), (.mv (.t 10))⟩,
  ⟨none, (some 42), (.bin .add (.t 41) (.c (.cv (.sc (.int .i64 1)))))⟩,
  ⟨none, (some 10), (.mv (.t 42))⟩])))
def f18 : FnIR := ⟨95, [(.t 4)],

  (.seq (.reg [
  ⟨none, (some 4), (.mv (.c (.cv (.sc (.bool false)))))⟩])

  (.seq (.reg [
  ⟨none, (some 18), (.mv (.t 0))⟩,
  ⟨none, (some 19), (.call 13 true [(.t 18)])⟩,
  ⟨none, (some 17), (.mv (.t 19))⟩,
  ⟨none, (some 20), (.ext (.t 17) 0)⟩,
  ⟨none, (some 21), (.ext (.t 17) 1)⟩,
  ⟨none, (some 5), (.mv (.t 20))⟩,
  ⟨none, (some 6), (.mv (.t 21))⟩])

  (.seq f18_0

  (.seq (.reg [
  ⟨none, (some 25), (.mv (.t 5))⟩,
  ⟨none, (some 26), (.call 14 true [(.t 25)])⟩,
  ⟨none, (some 24), (.mv (.t 26))⟩,
  ⟨none, (some 27), (.ext (.t 24) 0)⟩,
  ⟨none, (some 28), (.ext (.t 24) 1)⟩,
  ⟨none, (some 7), (.mv (.t 27))⟩,
  ⟨none, (some 8), (.mv (.t 28))⟩])

  (.seq f18_1

  (.seq (.reg [
  ⟨none, (some 9), (.mv (.c (.cv (.sc (.bool false)))))⟩])

  (.seq
  (.seq (.reg [
  ⟨none, (some 10), (.mv (.c (.cv (.sc (.int .i64 0)))))⟩])
  (.block 0 (.loop f18_3)))

  (.seq (.reg [
  ⟨none, (some 82), (.mv (.t 5))⟩,
  ⟨none, (some 83), (.mv (.t 1))⟩,
  ⟨none, (some 84), (.call 29 true [(.t 82), (.t 83)])⟩,
  ⟨none, (some 81), (.mv (.t 84))⟩,
  ⟨none, (some 85), (.ext (.t 81) 0)⟩,
  ⟨none, (some 86), (.ext (.t 81) 1)⟩,
  ⟨none, (some 87), (.ext (.t 81) 2)⟩,
  ⟨none, (some 14), (.mv (.t 85))⟩,
  ⟨none, (some 15), (.mv (.t 86))⟩,
  ⟨none, (some 16), (.mv (.t 87))⟩])

  (.seq (.reg [
  ⟨none, (some 88), (.mv (.t 16))⟩,
  ⟨none, (some 89), (.bin .eql (.t 88) (.c (.cv (.sc (.int .u16 0)))))⟩,
  ⟨none, (some 90), (.mv (.t 89))⟩,
  ⟨(some (90, true)), (some 91), (.mv (.t 15))⟩,
  ⟨(some (90, true)), (some 92), (.mv (.t 9))⟩,
  ⟨(some (90, true)), (some 93), (.eqb false (.t 91) (.t 92))⟩,
  ⟨none, (some 94), (.pick (.t 90) (.t 93) (.c (.cv (.sc (.bool false)))))⟩,
  ⟨none, (some 4), (.mv (.t 94))⟩])
  .ret)))))))))⟩
theorem f18_ok : compF Proofs.Try.prog [] [] Proofs.Try.f18 = some f18 := by kernel_rfl

def f19_0 : IR :=

  (.seq (.reg [
  ⟨none, (some 9), (.mv (.t 0))⟩,
  ⟨none, (some 10), (.call 21 true [(.t 9)])⟩,
  ⟨none, (some 11), (.un .not (.t 10))⟩,
  ⟨none, (some 12), (.mv (.t 11))⟩,
  ⟨(some (12, false)), (some 13), (.mv (.t 0))⟩,
  ⟨(some (12, false)), (some 14), (.len false (.t 13))⟩,
  ⟨(some (12, false)), (some 15), (.bin .gtr (.t 14) (.c (.cv (.sc (.int .i64 5000)))))⟩,
  ⟨none, (some 16), (.pick (.t 12) (.c (.cv (.sc (.bool true)))) (.t 15))⟩])
  (.cond (.t 16)
  (.seq (.reg [
  ⟨none, (some 2), (.mv (.c (.cv (.sc (.slice none 0 0)))))⟩,
  ⟨none, (some 3), (.mv (.c (.cv (.sc (.bool false)))))⟩])
  .ret) .skip))
def f19_1 : IR :=

  (.seq (.reg [
  ⟨none, (some 30), (.mv (.t 8))⟩,
  ⟨none, (some 31), (.un .not (.t 30))⟩])
  (.cond (.t 31)
  (.seq (.reg [
  ⟨none, (some 2), (.mv (.c (.cv (.sc (.slice none 0 0)))))⟩,
  ⟨none, (some 3), (.mv (.c (.cv (.sc (.bool false)))))⟩])
  .ret) .skip))
def f19_2 : IR :=

  (.seq (.reg [
  ⟨none, (some 35), (.mv (.t 6))⟩,
  ⟨none, (some 36), (.len false (.t 35))⟩,
  ⟨none, (some 37), (.bin .eql (.t 36) (.c (.cv (.sc (.int .i64 1)))))⟩])
  (.cond (.t 37)
  (.seq (.reg [
  ⟨none, (some 38), (.mv (.t 4))⟩,
  ⟨none, (some 2), (.mv (.t 38))⟩,
  ⟨none, (some 3), (.mv (.c (.cv (.sc (.bool true)))))⟩])
  .ret) .skip))
def f19_3 : IR :=

  (.seq
  (.seq (.reg [
  ⟨none, (some 17), (.mv (.t 5))⟩,
  ⟨none, (some 18), (.bin .leq (.t 17) (.c (.cv (.sc (.int .i64 4)))))⟩])
  (.cond (.t 18) .skip (.exit 0)))

  (.seq (.block 1
  (.seq (.reg [
  ⟨none, (some 22), (.mv (.t 5))⟩,
  ⟨none, (some 23), (.mv (.t 4))⟩,
  ⟨none, (some 24), (.len false (.t 23))⟩,
  ⟨none, (some 25), (.mv (.t 0))⟩,
  ⟨none, (some 26), (.call 30 true [(.t 22), (.t 24), (.t 25)])⟩,
  ⟨none, (some 21), (.mv (.t 26))⟩,
  ⟨none, (some 27), (.ext (.t 21) 0)⟩,
  ⟨none, (some 28), (.ext (.t 21) 1)⟩,
  ⟨none, (some 29), (.ext (.t 21) 2)⟩,
  ⟨none, (some 6), (.mv (.t 27))⟩,
  ⟨none, (some 7), (.mv (.t 28))⟩,
  ⟨none, (some 8), (.mv (.t 29))⟩])

  (.seq f19_1

  (.seq (.reg [
  ⟨none, (some 32), (.mv (.t 4))⟩,
  ⟨none, (some 33), (.mv (.t 6))⟩,
  ⟨none, (some 34), (.app 1 24 [(.sc (.slice none 0 0))] (.t 32) (.t 33))⟩,
  ⟨none, (some 4), (.mv (.t 34))⟩])

  (.seq f19_2
  (.reg [
  ⟨none, (some 39), (.mv (.t 7))⟩,
  ⟨none, (some 0), (.mv (.t 39))⟩]))))))
  (.reg [
  ⟨none, (some 19), (.mv (.t 5))⟩,
  ⟨none, (some 20), (.bin .add (.t 19) (.c (.cv (.sc (.int .i64 1)))))⟩,
  ⟨none, (some 5), (.mv (.t 20))⟩])))
def f19 : FnIR := ⟨40, [(.t 2), (.t 3)],

  (.seq (.reg [
  ⟨none, (some 2), (.mv (.c (.cv (.sc (.slice none 0 0)))))⟩,
  ⟨none, (some 3), (.mv (.c (.cv (.sc (.bool false)))))⟩])

  (.seq f19_0

  (.seq (.reg [
  ⟨none, (some 4), (.mv (.c (.cv (.sc (.slice none 0 0)))))⟩])

  (.seq
  (.seq (.reg [
  ⟨none, (some 5), (.mv (.c (.cv (.sc (.int .i64 0)))))⟩])
  (.block 0 (.loop f19_3)))

  (.seq (.reg [
  ⟨none, (some 2), (.mv (.c (.cv (.sc (.slice none 0 0)))))⟩,
  ⟨none, (some 3), (.mv (.c (.cv (.sc (.bool false)))))⟩])
  .ret)))))⟩
theorem f19_ok : compF Proofs.Try.prog [] [] Proofs.Try.f19 = some f19 := by kernel_rfl

def f20_0 : IR :=

  (.seq (.reg [
  ⟨none, (some 6), (.mv (.t 0))⟩,
  ⟨none, (some 7), (.len false (.t 6))⟩,
  ⟨none, (some 8), (.mv (.t 1))⟩,
  ⟨none, (some 9), (.len false (.t 8))⟩,
  ⟨none, (some 10), (.bin .neq (.t 7) (.t 9))⟩])
  (.cond (.t 10)
  (.seq (.reg [
  ⟨none, (some 4), (.mv (.c (.cv (.sc (.bool false)))))⟩])
  .ret) .skip))
def f20_1 : IR :=

  (.seq
  (.seq (.reg [
  ⟨none, (some 11), (.mv (.t 5))⟩,
  ⟨none, (some 12), (.mv (.t 0))⟩,
  ⟨none, (some 13), (.len false (.t 12))⟩,
  ⟨none, (some 14), (.bin .lss (.t 11) (.t 13))⟩])
  (.cond (.t 14) .skip (.exit 0)))

  (.seq (.block 1
  (.seq (.draw [(
  ⟨none, (some 17), (.mv (.t 0))⟩, .p), (
  ⟨none, (some 18), (.mv (.t 5))⟩, .p), (
  ⟨none, (some 19), (.iadL 1 (.t 17) (.t 18))⟩, (.r 0 0)), (
  ⟨none, (some 20), (.ld false 1 (.t 19))⟩, (.r 0 0)), (
  ⟨none, (some 21), (.cvBS (.t 20))⟩, (.r 0 0)), (
  ⟨none, (some 22), (.mv (.t 1))⟩, .p), (
  ⟨none, (some 23), (.mv (.t 5))⟩, .p), (
  ⟨none, (some 24), (.iadL 1 (.t 22) (.t 23))⟩, (.r 0 0)), (
  ⟨none, (some 25), (.ld false 1 (.t 24))⟩, (.r 0 0)), (
  ⟨none, (some 26), (.cvBS (.t 25))⟩, (.r 0 0)), (
  ⟨none, (some 27), (.bin .neq (.t 21) (.t 26))⟩, .p)])
  (.cond (.t 27)
  (.seq (.reg [
  ⟨none, (some 4), (.mv (.c (.cv (.sc (.bool false)))))⟩])
  .ret) .skip)))
  (.reg [
  ⟨none, (some 15), (.mv (.t 5))⟩,
  ⟨none, (some 16), (.bin .add (.t 15) (.c (.cv (.sc (.int .i64 1)))))⟩,
  ⟨none, (some 5), (.mv (.t 16))⟩])))
def f20 : FnIR := ⟨28, [(.t 4)],

  (.seq (.reg [
  ⟨none, (some 4), (.mv (.c (.cv (.sc (.bool false)))))⟩])

  (.seq f20_0

  (.seq
  (.seq (.reg [
  ⟨none, (some 5), (.mv (.c (.cv (.sc (.int .i64 0)))))⟩])
  (.block 0 (.loop f20_1)))

  (.seq (.reg [
  ⟨none, (some 4), (.mv (.c (.cv (.sc (.bool true)))))⟩])
  .ret))))⟩
theorem f20_ok : compF Proofs.Try.prog [] [] Proofs.Try.f20 = some f20 := by kernel_rfl

def f21_0 : IR :=

  (.seq
  (.seq (.reg [
  ⟨none, (some 4), (.mv (.t 3))⟩,
  ⟨none, (some 5), (.mv (.t 0))⟩,
  ⟨none, (some 6), (.len false (.t 5))⟩,
  ⟨none, (some 7), (.bin .lss (.t 4) (.t 6))⟩])
  (.cond (.t 7) .skip (.exit 0)))

  (.seq (.block 1
  (.seq (.draw [(
  ⟨none, (some 10), (.mv (.t 0))⟩, .p), (
  ⟨none, (some 11), (.mv (.t 3))⟩, .p), (
  ⟨none, (some 12), (.iadL 2 (.t 10) (.t 11))⟩, (.r 0 0)), (
  ⟨none, (some 13), (.fad 0 (.t 12))⟩, .p), (
  ⟨none, (some 14), (.ld false 1 (.t 13))⟩, (.r 0 0)), (
  ⟨none, (some 15), (.mv (.t 0))⟩, .p), (
  ⟨none, (some 16), (.mv (.t 3))⟩, .p), (
  ⟨none, (some 17), (.bin .sub (.t 16) (.c (.cv (.sc (.int .i64 1)))))⟩, .p), (
  ⟨none, (some 18), (.iadL 2 (.t 15) (.t 17))⟩, (.r 0 0)), (
  ⟨none, (some 19), (.fad 0 (.t 18))⟩, .p), (
  ⟨none, (some 20), (.ld false 1 (.t 19))⟩, (.r 0 0)), (
  ⟨none, (some 21), (.bin .leq (.t 14) (.t 20))⟩, .p)])
  (.cond (.t 21)
  (.seq (.reg [
  ⟨none, (some 2), (.mv (.c (.cv (.sc (.bool false)))))⟩])
  .ret) .skip)))
  (.reg [
  ⟨none, (some 8), (.mv (.t 3))⟩,
  ⟨none, (some 9), (.bin .add (.t 8) (.c (.cv (.sc (.int .i64 1)))))⟩,
  ⟨none, (some 3), (.mv (.t 9))⟩])))
def f21 : FnIR := ⟨22, [(.t 2)],

  (.seq (.reg [
  ⟨none, (some 2), (.mv (.c (.cv (.sc (.bool false)))))⟩])

  (.seq
  (.seq (.reg [
  ⟨none, (some 3), (.mv (.c (.cv (.sc (.int .i64 1)))))⟩])
  (.block 0 (.loop f21_0)))

  (.seq (.reg [
  ⟨none, (some 2), (.mv (.c (.cv (.sc (.bool true)))))⟩])
  .ret)))⟩
theorem f21_ok : compF Proofs.Try.prog [] [] Proofs.Try.f21 = some f21 := by kernel_rfl

def f22_0 : IR :=

  (.seq (.draw [(
  ⟨none, (some 14), (.mv (.t 0))⟩, .p), (
  ⟨none, (some 15), (.mv (.t 7))⟩, .p), (
  ⟨none, (some 16), (.iadL 2 (.t 14) (.t 15))⟩, (.r 0 0)), (
  ⟨none, (some 17), (.fad 0 (.t 16))⟩, .p), (
  ⟨none, (some 18), (.ld false 1 (.t 17))⟩, (.r 0 0)), (
  ⟨none, (some 19), (.fad 0 (.t 3))⟩, .p), (
  ⟨none, (some 20), (.ld false 1 (.t 19))⟩, (.r 0 0)), (
  ⟨none, (some 21), (.bin .eql (.t 18) (.t 20))⟩, .p)])
  (.cond (.t 21) (.exit 1) .skip))
def f22_1 : IR :=

  (.seq (.draw [(
  ⟨none, (some 22), (.mv (.t 6))⟩, .p), (
  ⟨none, (some 23), (.un .not (.t 22))⟩, .p), (
  ⟨none, (some 24), (.mv (.t 23))⟩, .p), (
  ⟨(some (24, true)), (some 25), (.mv (.t 0))⟩, .p), (
  ⟨(some (24, true)), (some 26), (.mv (.t 7))⟩, .p), (
  ⟨(some (24, true)), (some 27), (.iadL 2 (.t 25) (.t 26))⟩, (.r 0 0)), (
  ⟨(some (24, true)), (some 28), (.fad 0 (.t 27))⟩, .p), (
  ⟨(some (24, true)), (some 29), (.ld false 1 (.t 28))⟩, (.r 0 0)), (
  ⟨(some (24, true)), (some 30), (.fad 0 (.t 3))⟩, .p), (
  ⟨(some (24, true)), (some 31), (.ld false 1 (.t 30))⟩, (.r 0 0)), (
  ⟨(some (24, true)), (some 32), (.bin .gtr (.t 29) (.t 31))⟩, .p), (
  ⟨none, (some 33), (.pick (.t 24) (.t 32) (.c (.cv (.sc (.bool false)))))⟩, .p)])
  (.cond (.t 33)
  (.seq (.reg [
  ⟨none, (some 34), (.mv (.t 5))⟩,
  ⟨none, (some 35), (.ld true 2 (.t 3))⟩,
  ⟨none, (some 36), (.mksl 2 1 [(.cv (.sc (.string ⟨#[]⟩))), (.cv (.sc (.slice none 0 0)))] [(0, (2, (.t 35)))] false)⟩,
  ⟨none, (some 37), (.app 2 40 [(.sc (.string ⟨#[]⟩)), (.sc (.slice none 0 0))] (.t 34) (.t 36))⟩,
  ⟨none, (some 5), (.mv (.t 37))⟩])
  (.reg [
  ⟨none, (some 6), (.mv (.c (.cv (.sc (.bool true)))))⟩])) .skip))
def f22_2 : IR :=

  (.seq
  (.seq (.reg [
  ⟨none, (some 8), (.mv (.t 7))⟩,
  ⟨none, (some 9), (.mv (.t 0))⟩,
  ⟨none, (some 10), (.len false (.t 9))⟩,
  ⟨none, (some 11), (.bin .lss (.t 8) (.t 10))⟩])
  (.cond (.t 11) .skip (.exit 0)))

  (.seq (.block 1
  (.seq f22_0

  (.seq f22_1
  (.reg [
  ⟨none, (some 38), (.mv (.t 5))⟩,
  ⟨none, (some 39), (.mv (.t 0))⟩,
  ⟨none, (some 40), (.mv (.t 7))⟩,
  ⟨none, (some 41), (.iadL 2 (.t 39) (.t 40))⟩,
  ⟨none, (some 42), (.ld true 2 (.t 41))⟩,
  ⟨none, (some 43), (.mksl 2 1 [(.cv (.sc (.string ⟨#[]⟩))), (.cv (.sc (.slice none 0 0)))] [(0, (2, (.t 42)))] false)⟩,
  ⟨none, (some 44), (.app 2 40 [(.sc (.string ⟨#[]⟩)), (.sc (.slice none 0 0))] (.t 38) (.t 43))⟩,
  ⟨none, (some 5), (.mv (.t 44))⟩]))))
  (.reg [
  ⟨none, (some 12), (.mv (.t 7))⟩,
  ⟨none, (some 13), (.bin .add (.t 12) (.c (.cv (.sc (.int .i64 1)))))⟩,
  ⟨none, (some 7), (.mv (.t 13))⟩])))
def f22_3 : IR :=

  (.seq (.reg [
  ⟨none, (some 45), (.mv (.t 6))⟩,
  ⟨none, (some 46), (.un .not (.t 45))⟩])
  (.cond (.t 46) (.reg [
  ⟨none, (some 47), (.mv (.t 5))⟩,
  ⟨none, (some 48), (.ld true 2 (.t 3))⟩,
  ⟨none, (some 49), (.mksl 2 1 [(.cv (.sc (.string ⟨#[]⟩))), (.cv (.sc (.slice none 0 0)))] [(0, (2, (.t 48)))] false)⟩,
  ⟨none, (some 50), (.app 2 40 [(.sc (.string ⟨#[]⟩)), (.sc (.slice none 0 0))] (.t 47) (.t 49))⟩,
  ⟨none, (some 5), (.mv (.t 50))⟩]) .skip))
def f22 : FnIR := ⟨52, [(.t 4)],

  (.seq (.reg [
  ⟨none, (some 3), (.box 2 (.t 1))⟩,
  ⟨none, (some 4), (.mv (.c (.cv (.sc (.slice none 0 0)))))⟩])

  (.seq (.reg [
  ⟨none, (some 5), (.mv (.c (.cv (.sc (.slice none 0 0)))))⟩])

  (.seq (.reg [
  ⟨none, (some 6), (.mv (.c (.cv (.sc (.bool false)))))⟩])

  (.seq
  (.seq (.reg [
  ⟨none, (some 7), (.mv (.c (.cv (.sc (.int .i64 0)))))⟩])
  (.block 0 (.loop f22_2)))

  (.seq f22_3

  (.seq (.reg [
  ⟨none, (some 51), (.mv (.t 5))⟩,
  ⟨none, (some 4), (.mv (.t 51))⟩])
  .ret))))))⟩
theorem f22_ok : compF Proofs.Try.prog [] [] Proofs.Try.f22 = some f22 := by kernel_rfl

def f23_0 : IR :=
  (.reg [
  ⟨none, (some 10), (.mv (.t 16))⟩])
def f23_1 : IR :=

  (.seq (.reg [
  ⟨none, (some 23), (.mv (.t 12))⟩,
  ⟨none, (some 24), (.un .not (.t 23))⟩])
  (.cond (.t 24)
  (.seq (.reg [
  ⟨none, none, (.st 1 (.t 6) (.c (.cv (.sc (.slice none 0 0)))))⟩,
  ⟨none, none, (.st 1 (.t 7) (.c (.cv (.sc (.bool false)))))⟩])
  .ret) .skip))
def f23_2 : IR :=

  (.seq (.reg [
  ⟨none, (some 32), (.mv (.t 10))⟩,
  ⟨none, (some 33), (.len false (.t 32))⟩,
  ⟨none, (some 34), (.bin .gtr (.t 33) (.c (.cv (.sc (.int .i64 0)))))⟩])
  (.cond (.t 34) (.reg [
  ⟨none, (some 35), (.mv (.t 10))⟩,
  ⟨none, (some 36), (.iadL 2 (.t 35) (.c (.cv (.sc (.int .i64 0)))))⟩,
  ⟨none, (some 37), (.fad 0 (.t 36))⟩,
  ⟨none, (some 38), (.ld false 1 (.t 37))⟩,
  ⟨none, (some 39), (.fad 0 (.t 13))⟩,
  ⟨none, none, (.st 1 (.t 39) (.t 38))⟩]) .skip))
def f23_3 : IR :=
  (.block 1
  (.seq (.reg [
  ⟨none, (some 18), (.ld false 1 (.t 4))⟩,
  ⟨none, (some 19), (.mv (.t 10))⟩,
  ⟨none, (some 20), (.call 32 true [(.t 18), (.t 19)])⟩,
  ⟨none, (some 17), (.mv (.t 20))⟩,
  ⟨none, (some 21), (.ext (.t 17) 0)⟩,
  ⟨none, (some 22), (.ext (.t 17) 1)⟩,
  ⟨none, (some 11), (.mv (.t 21))⟩,
  ⟨none, (some 12), (.mv (.t 22))⟩])

  (.seq f23_1

  (.seq (.reg [
  ⟨none, (some 25), (.ld false 1 (.t 3))⟩,
  ⟨none, (some 26), (.nilck (.t 25))⟩,
  ⟨none, (some 27), (.fad 0 (.t 26))⟩,
  ⟨none, (some 28), (.ld false 1 (.t 27))⟩,
  ⟨none, (some 29), (.len false (.t 28))⟩,
  ⟨none, (some 30), (.call 33 true [(.t 29)])⟩,
  ⟨none, (some 31), (.build [(.cv (.sc (.string ⟨#[]⟩))), (.cv (.sc (.slice none 0 0)))] [(1, (1, (.t 30)))])⟩,
  ⟨none, (some 13), (.alloc [(.cv (.sc (.string ⟨#[]⟩))), (.cv (.sc (.slice none 0 0)))])⟩,
  ⟨none, none, (.st 2 (.t 13) (.t 31))⟩])

  (.seq f23_2

  (.seq (.draw [(
  ⟨none, (some 40), (.ld false 1 (.t 3))⟩, (.r 0 3)), (
  ⟨none, (some 41), (.ld false 1 (.t 8))⟩, (.r 0 0)), (
  ⟨none, (some 42), (.ld true 2 (.t 13))⟩, (.r 0 0)), (
  ⟨none, (some 43), (.mksl 2 1 [(.cv (.sc (.string ⟨#[]⟩))), (.cv (.sc (.slice none 0 0)))] [(0, (2, (.t 42)))] false)⟩, (.r 0 0)), (
  ⟨none, (some 44), (.app 2 40 [(.sc (.string ⟨#[]⟩)), (.sc (.slice none 0 0))] (.t 41) (.t 43))⟩, .k), (
  ⟨none, (some 45), (.ld false 1 (.t 3))⟩, (.r 0 1)), (
  ⟨none, (some 46), (.nilck (.t 45))⟩, .p), (
  ⟨none, (some 47), (.fad 0 (.t 46))⟩, .p), (
  ⟨none, (some 48), (.ld false 1 (.t 47))⟩, (.r 0 1)), (
  ⟨none, (some 49), (.mv (.t 11))⟩, .p), (
  ⟨none, (some 50), (.mksl 1 1 [(.cv (.sc (.slice none 0 0)))] [(0, (1, (.t 49)))] false)⟩, (.r 0 1)), (
  ⟨none, (some 51), (.app 1 24 [(.sc (.slice none 0 0))] (.t 48) (.t 50))⟩, .k), (
  ⟨none, none, (.st 1 (.t 8) (.t 44))⟩, .k), (
  ⟨none, (some 52), (.nilck (.t 40))⟩, .p), (
  ⟨none, (some 53), (.fad 0 (.t 52))⟩, .p), (
  ⟨none, none, (.st 1 (.t 53) (.t 51))⟩, .k)])
  (.reg [
  ⟨none, (some 54), (.ld false 1 (.t 9))⟩,
  ⟨none, (some 55), (.mv (.t 10))⟩,
  ⟨none, (some 56), (.len false (.t 55))⟩,
  ⟨none, (some 57), (.bin .add (.t 54) (.t 56))⟩,
  ⟨none, none, (.st 1 (.t 9) (.t 57))⟩])))))))
def f23 : FnIR := ⟨63, [(.cell 6 false 1), (.cell 7 false 1)],

  (.seq (.reg [
  ⟨none, (some 3), (.box 1 (.t 0))⟩,
  ⟨none, (some 4), (.box 1 (.t 1))⟩,
  ⟨none, (some 6), (.alloc [(.cv (.sc (.slice none 0 0)))])⟩,
  ⟨none, (some 7), (.alloc [(.cv (.sc (.bool false)))])⟩])

  (.seq (.reg [
  ⟨none, (some 8), (.alloc [(.cv (.sc (.slice none 0 0)))])⟩])

  (.seq (.reg [
  ⟨none, (some 9), (.alloc [(.cv (.sc (.int .i64 0)))])⟩,
  ⟨none, none, (.st 1 (.t 9) (.c (.cv (.sc (.int .i64 0)))))⟩])

  (.seq
  (.seq (.reg [
  ⟨none, (some 14), (.mv (.t 2))⟩,
  ⟨none, (some 15), (.call 31 false [(.t 14)])⟩])
  (.block 0 (.rangeF (.t 15) [16] f23_0 f23_3)))

  (.seq (.draw [(
  ⟨none, (some 58), (.ld false 1 (.t 8))⟩, (.r 0 0)), (
  ⟨none, (some 59), (.ld false 1 (.t 9))⟩, (.r 0 1)), (
  ⟨none, (some 60), (.mv (.t 2))⟩, .p), (
  ⟨none, (some 61), (.len false (.t 60))⟩, .p), (
  ⟨none, (some 62), (.bin .eql (.t 59) (.t 61))⟩, .p), (
  ⟨none, none, (.st 1 (.t 6) (.t 58))⟩, .k), (
  ⟨none, none, (.st 1 (.t 7) (.t 62))⟩, .k)])
  .ret)))))⟩
theorem f23_ok : compF Proofs.Try.prog [31] [] Proofs.Try.f23 = some f23 := by kernel_rfl

def f24_0 : IR :=
  (.cond (.t 26) .skip (.exit 1))
def f24_1 : IR :=

  (.seq (.reg [
  ⟨none, (some 28), (.mv (.t 7))⟩,
  ⟨none, (some 29), (.bin .add (.c (.cv (.sc (.int .i64 2)))) (.t 28))⟩,
  ⟨none, (some 30), (.mv (.t 6))⟩,
  ⟨none, (some 31), (.bin .geq (.t 29) (.t 30))⟩])
  (.cond (.t 31)
  (.seq (.reg [
  ⟨none, (some 2), (.mv (.c (.cv (.sc (.int .i64 0)))))⟩,
  ⟨none, (some 3), (.mv (.c (.cv (.sc (.slice none 0 0)))))⟩,
  ⟨none, (some 4), (.mv (.c (.cv (.sc (.int .u16 11)))))⟩])
  .ret) .skip))
def f24_2 : IR :=

  (.seq (.reg [
  ⟨none, (some 45), (.mv (.t 10))⟩,
  ⟨none, (some 46), (.un .not (.t 45))⟩])
  (.cond (.t 46)
  (.seq (.reg [
  ⟨none, (some 2), (.mv (.c (.cv (.sc (.int .i64 0)))))⟩,
  ⟨none, (some 3), (.mv (.c (.cv (.sc (.slice none 0 0)))))⟩,
  ⟨none, (some 4), (.mv (.c (.cv (.sc (.int .u16 11)))))⟩])
  .ret) .skip))
def f24_3 : IR :=

  (.seq (.reg [
  ⟨none, (some 26), (.bin .lss (.t 25) (.t 24))⟩])

  (.seq f24_0

  (.seq (.block 2
  (.seq (.reg [
  ⟨none, (some 27), (.mv (.t 25))⟩,
  ⟨none, (some 7), (.mv (.t 27))⟩])

  (.seq f24_1

  (.seq (.reg [
  ⟨none, (some 32), (.mv (.t 0))⟩,
  ⟨none, (some 33), (.mv (.t 7))⟩,
  ⟨none, (some 34), (.bin .add (.c (.cv (.sc (.int .i64 2)))) (.t 33))⟩,
  ⟨none, (some 35), (.iadL 1 (.t 32) (.t 34))⟩,
  ⟨none, (some 36), (.ld false 1 (.t 35))⟩,
  ⟨none, (some 37), (.cvI .i64 (.t 36))⟩,
  ⟨none, (some 8), (.mv (.t 37))⟩])

  (.seq (.reg [
  ⟨none, (some 39), (.mv (.t 0))⟩,
  ⟨none, (some 40), (.mv (.t 8))⟩,
  ⟨none, (some 41), (.mv (.t 6))⟩,
  ⟨none, (some 42), (.call 35 true [(.t 39), (.t 40), (.t 41)])⟩,
  ⟨none, (some 38), (.mv (.t 42))⟩,
  ⟨none, (some 43), (.ext (.t 38) 0)⟩,
  ⟨none, (some 44), (.ext (.t 38) 1)⟩,
  ⟨none, (some 9), (.alloc [(.cv (.sc (.string ⟨#[]⟩))), (.cv (.sc (.slice none 0 0)))])⟩,
  ⟨none, none, (.st 2 (.t 9) (.t 43))⟩,
  ⟨none, (some 10), (.mv (.t 44))⟩])

  (.seq f24_2
  (.reg [
  ⟨none, (some 47), (.mv (.t 5))⟩,
  ⟨none, (some 48), (.ld true 2 (.t 9))⟩,
  ⟨none, (some 49), (.mksl 2 1 [(.cv (.sc (.string ⟨#[]⟩))), (.cv (.sc (.slice none 0 0)))] [(0, (2, (.t 48)))] false)⟩,
  ⟨none, (some 50), (.app 2 40 [(.sc (.string ⟨#[]⟩)), (.sc (.slice none 0 0))] (.t 47) (.t 49))⟩,
  ⟨none, (some 51), (.mv (.t 8))⟩,
  ⟨none, (some 5), (.mv (.t 50))⟩,
  ⟨none, (some 6), (.mv (.t 51))⟩])))))))
  (.reg [
  ⟨none, (some 52), (.bin .add (.t 25) (.c (.cv (.sc (.int .i64 1)))))⟩,
  ⟨none, (some 25), (.mv (.t 52))⟩]))))
def f24 : FnIR := ⟨75, [(.t 2), (.t 3), (.t 4)],

  (.seq (.reg [
  ⟨none, (some 2), (.mv (.c (.cv (.sc (.int .i64 0)))))⟩,
  ⟨none, (some 3), (.mv (.c (.cv (.sc (.slice none 0 0)))))⟩,
  ⟨none, (some 4), (.mv (.c (.cv (.sc (.int .u16 0)))))⟩])

  (.seq (.block 0
  (.seq (.reg [
  ⟨none, (some 14), (.mv (.t 0))⟩,
  ⟨none, (some 15), (.len false (.t 14))⟩,
  ⟨none, (some 16), (.bin .neq (.t 15) (.c (.cv (.sc (.int .i64 256)))))⟩,
  ⟨none, (some 13), (.mv (.t 16))⟩])
  (.cond (.t 13)
  (.seq (.reg [
  ⟨none, (some 2), (.mv (.c (.cv (.sc (.int .i64 0)))))⟩,
  ⟨none, (some 3), (.mv (.c (.cv (.sc (.slice none 0 0)))))⟩,
  ⟨none, (some 4), (.mv (.c (.cv (.sc (.int .u16 11)))))⟩])
  .ret)
  (.seq (.reg [
  ⟨none, (some 18), (.mv (.t 0))⟩,
  ⟨none, (some 19), (.call 34 true [(.t 18)])⟩,
  ⟨none, (some 20), (.un .not (.t 19))⟩,
  ⟨none, (some 17), (.mv (.t 20))⟩])
  (.cond (.t 17)
  (.seq (.reg [
  ⟨none, (some 2), (.mv (.c (.cv (.sc (.int .i64 0)))))⟩,
  ⟨none, (some 3), (.mv (.c (.cv (.sc (.slice none 0 0)))))⟩,
  ⟨none, (some 4), (.mv (.c (.cv (.sc (.int .u16 12)))))⟩])
  .ret) .skip)))))

  (.seq (.reg [
  ⟨none, (some 5), (.mv (.c (.cv (.sc (.slice none 0 0)))))⟩])

  (.seq (.reg [
  ⟨none, (some 6), (.mv (.c (.cv (.sc (.int .i64 252)))))⟩])

  (.seq
  (.seq (.reg [
  ⟨none, (some 21), (.mv (.t 0))⟩,
  ⟨none, (some 22), (.iadL 1 (.t 21) (.c (.cv (.sc (.int .i64 1)))))⟩,
  ⟨none, (some 23), (.ld false 1 (.t 22))⟩,
  ⟨none, (some 24), (.cvI .i64 (.t 23))⟩,
  ⟨none, (some 25), (.mv (.c (.cv (.sc (.int .i64 0)))))⟩])
  (.block 1 (.loop f24_3)))

  (.seq
  (.seq (.reg [
  ⟨none, (some 54), (.mv (.t 0))⟩,
  ⟨none, (some 55), (.iadL 1 (.t 54) (.c (.cv (.sc (.int .i64 0)))))⟩,
  ⟨none, (some 56), (.ld false 1 (.t 55))⟩,
  ⟨none, (some 57), (.cvI .i64 (.t 56))⟩,
  ⟨none, (some 58), (.mv (.t 5))⟩,
  ⟨none, (some 59), (.call 32 true [(.t 57), (.t 58)])⟩,
  ⟨none, (some 53), (.mv (.t 59))⟩,
  ⟨none, (some 60), (.ext (.t 53) 0)⟩,
  ⟨none, (some 61), (.ext (.t 53) 1)⟩,
  ⟨none, (some 11), (.mv (.t 60))⟩,
  ⟨none, (some 12), (.mv (.t 61))⟩])

  (.seq (.reg [
  ⟨none, (some 62), (.mv (.t 12))⟩,
  ⟨none, (some 63), (.un .not (.t 62))⟩,
  ⟨none, (some 64), (.mv (.t 63))⟩,
  ⟨(some (64, false)), (some 65), (.mv (.t 11))⟩,
  ⟨(some (64, false)), (some 66), (.mv (.t 0))⟩,
  ⟨(some (64, false)), (some 67), (.call 26 true [(.t 65), (.t 66)])⟩,
  ⟨(some (64, false)), (some 68), (.un .not (.t 67))⟩,
  ⟨none, (some 69), (.pick (.t 64) (.c (.cv (.sc (.bool true)))) (.t 68))⟩])
  (.cond (.t 69)
  (.seq (.reg [
  ⟨none, (some 2), (.mv (.c (.cv (.sc (.int .i64 0)))))⟩,
  ⟨none, (some 3), (.mv (.c (.cv (.sc (.slice none 0 0)))))⟩,
  ⟨none, (some 4), (.mv (.c (.cv (.sc (.int .u16 11)))))⟩])
  .ret) .skip)))

  (.seq (.reg [
  ⟨none, (some 70), (.mv (.t 0))⟩,
  ⟨none, (some 71), (.iadL 1 (.t 70) (.c (.cv (.sc (.int .i64 0)))))⟩,
  ⟨none, (some 72), (.ld false 1 (.t 71))⟩,
  ⟨none, (some 73), (.cvI .i64 (.t 72))⟩,
  ⟨none, (some 74), (.mv (.t 5))⟩,
  ⟨none, (some 2), (.mv (.t 73))⟩,
  ⟨none, (some 3), (.mv (.t 74))⟩,
  ⟨none, (some 4), (.mv (.c (.cv (.sc (.int .u16 0)))))⟩])
  .ret)))))))⟩
theorem f24_ok : compF Proofs.Try.prog [] [] Proofs.Try.f24 = some f24 := by kernel_rfl

def f25_0 : IR :=

  (.seq (.reg [
  ⟨none, (some 10), (.mv (.t 0))⟩,
  ⟨none, (some 11), (.len false (.t 10))⟩,
  ⟨none, (some 12), (.mv (.t 1))⟩,
  ⟨none, (some 13), (.len false (.t 12))⟩,
  ⟨none, (some 14), (.bin .neq (.t 11) (.t 13))⟩])
  (.cond (.t 14)
  (.seq (.reg [
  ⟨none, (some 6), (.mv (.c (.cv (.sc (.bool false)))))⟩])
  .ret) .skip))
def f25_1 : IR :=
  (.cond (.t 18) .skip (.exit 0))
def f25_2 : IR :=

  (.seq (.reg [
  ⟨none, (some 18), (.bin .lss (.t 17) (.t 16))⟩])

  (.seq f25_1

  (.seq (.block 1
  (.seq (.reg [
  ⟨none, (some 19), (.mv (.t 17))⟩,
  ⟨none, (some 20), (.iadL 1 (.t 15) (.t 17))⟩,
  ⟨none, (some 21), (.ld false 1 (.t 20))⟩,
  ⟨none, (some 7), (.mv (.t 19))⟩,
  ⟨none, (some 8), (.mv (.t 21))⟩])

  (.seq (.reg [
  ⟨none, (some 22), (.mv (.t 1))⟩,
  ⟨none, (some 23), (.mv (.t 7))⟩,
  ⟨none, (some 24), (.iadL 1 (.t 22) (.t 23))⟩,
  ⟨none, (some 25), (.ld false 1 (.t 24))⟩,
  ⟨none, (some 9), (.mv (.t 25))⟩])

  (.seq (.reg [
  ⟨none, (some 26), (.mv (.t 2))⟩,
  ⟨none, (some 27), (.mv (.t 8))⟩,
  ⟨none, (some 28), (.mv (.t 9))⟩,
  ⟨none, (some 29), (.callv true (.t 26) [(.t 27), (.t 28)])⟩,
  ⟨none, (some 30), (.un .not (.t 29))⟩])
  (.cond (.t 30)
  (.seq (.reg [
  ⟨none, (some 6), (.mv (.c (.cv (.sc (.bool false)))))⟩])
  .ret) .skip)))))
  (.reg [
  ⟨none, (some 31), (.bin .add (.t 17) (.c (.cv (.sc (.int .i64 1)))))⟩,
  ⟨none, (some 17), (.mv (.t 31))⟩]))))
def f25 : FnIR := ⟨32, [(.t 6)],

  (.seq (.reg [
  ⟨none, (some 6), (.mv (.c (.cv (.sc (.bool false)))))⟩])

  (.seq f25_0

  (.seq
  (.seq (.reg [
  ⟨none, (some 15), (.mv (.t 0))⟩,
  ⟨none, (some 16), (.len false (.t 15))⟩,
  ⟨none, (some 17), (.mv (.c (.cv (.sc (.int .i64 0)))))⟩])
  (.block 0 (.loop f25_2)))

  (.seq (.reg [
  ⟨none, (some 6), (.mv (.c (.cv (.sc (.bool true)))))⟩])
  .ret))))⟩
theorem f25_ok : compF Proofs.Try.prog [] [] Proofs.Try.f25 = some f25 := by kernel_rfl

def f26 : FnIR := ⟨10, [(.t 4)],

  (.seq (.reg [
  ⟨none, (some 4), (.mv (.c (.cv (.sc (.bool false)))))⟩])

  (.seq (.reg [
  ⟨none, (some 5), (.mv (.t 0))⟩,
  ⟨none, (some 6), (.cvBS (.t 5))⟩,
  ⟨none, (some 7), (.mv (.t 1))⟩,
  ⟨none, (some 8), (.cvBS (.t 7))⟩,
  ⟨none, (some 9), (.bin .eql (.t 6) (.t 8))⟩,
  ⟨none, (some 4), (.mv (.t 9))⟩])
  .ret))⟩
theorem f26_ok : compF Proofs.Try.prog [] [] Proofs.Try.f26 = some f26 := by kernel_rfl

def f27_0 : IR :=

  (.seq (.reg [
  ⟨none, (some 11), (.mv (.t 5))⟩,
  ⟨none, (some 12), (.bin .eql (.t 11) (.c (.cv (.sc (.int .i64 (-1))))))⟩])
  (.cond (.t 12)
  (.seq (.reg [
  ⟨none, (some 13), (.mv (.t 0))⟩,
  ⟨none, (some 4), (.mv (.t 13))⟩])
  .ret) .skip))
def f27_1 : IR :=

  (.seq
  (.seq (.reg [
  ⟨none, (some 16), (.mv (.t 6))⟩,
  ⟨none, (some 17), (.mv (.t 0))⟩,
  ⟨none, (some 18), (.len false (.t 17))⟩,
  ⟨none, (some 19), (.bin .lss (.t 16) (.t 18))⟩])
  (.cond (.t 19) .skip (.exit 0)))

  (.seq (.block 1
  (.seq (.reg [
  ⟨none, (some 22), (.mv (.t 0))⟩,
  ⟨none, (some 23), (.mv (.t 6))⟩,
  ⟨none, (some 24), (.iadL 2 (.t 22) (.t 23))⟩,
  ⟨none, (some 25), (.ld true 2 (.t 24))⟩,
  ⟨none, (some 7), (.alloc [(.cv (.sc (.string ⟨#[]⟩))), (.cv (.sc (.slice none 0 0)))])⟩,
  ⟨none, none, (.st 2 (.t 7) (.t 25))⟩])

  (.seq (.reg [
  ⟨none, (some 26), (.mv (.t 1))⟩,
  ⟨none, (some 27), (.ld true 2 (.t 7))⟩,
  ⟨none, (some 28), (.callv false (.t 26) [(.t 27)])⟩,
  ⟨none, (some 29), (.un .not (.t 28))⟩])
  (.cond (.t 29)
  (.seq (.reg [
  ⟨none, (some 30), (.mv (.t 0))⟩,
  ⟨none, (some 31), (.mv (.t 5))⟩,
  ⟨none, (some 32), (.ld true 2 (.t 7))⟩,
  ⟨none, (some 33), (.iadL 2 (.t 30) (.t 31))⟩,
  ⟨none, none, (.st 2 (.t 33) (.t 32))⟩])
  (.reg [
  ⟨none, (some 34), (.mv (.t 5))⟩,
  ⟨none, (some 35), (.bin .add (.t 34) (.c (.cv (.sc (.int .i64 1)))))⟩,
  ⟨none, (some 5), (.mv (.t 35))⟩])) .skip))))
  (.reg [
  ⟨none, (some 20), (.mv (.t 6))⟩,
  ⟨none, (some 21), (.bin .add (.t 20) (.c (.cv (.sc (.int .i64 1)))))⟩,
  ⟨none, (some 6), (.mv (.t 21))⟩])))
def f27 : FnIR := ⟨42, [(.t 4)],

  (.seq (.reg [
  ⟨none, (some 4), (.mv (.c (.cv (.sc (.slice none 0 0)))))⟩])

  (.seq (.reg [
  ⟨none, (some 8), (.mv (.t 0))⟩,
  ⟨none, (some 9), (.mv (.t 1))⟩,
  ⟨none, (some 10), (.call 36 false [(.t 8), (.t 9)])⟩,
  ⟨none, (some 5), (.mv (.t 10))⟩])

  (.seq f27_0

  (.seq
  (.seq (.reg [
  ⟨none, (some 14), (.mv (.t 5))⟩,
  ⟨none, (some 15), (.bin .add (.t 14) (.c (.cv (.sc (.int .i64 1)))))⟩,
  ⟨none, (some 6), (.mv (.t 15))⟩])
  (.block 0 (.loop f27_1)))

  (.seq (.reg [
  ⟨none, (some 36), (.mv (.t 0))⟩,
  ⟨none, (some 37), (.mv (.t 5))⟩,
  ⟨none, (some 38), (.slL 2 (.t 36) (some (.t 37)) none none)⟩,
  ⟨none, none, (.clr 2 [(.sc (.string ⟨#[]⟩)), (.sc (.slice none 0 0))] (.t 38))⟩])

  (.seq (.reg [
  ⟨none, (some 39), (.mv (.t 0))⟩,
  ⟨none, (some 40), (.mv (.t 5))⟩,
  ⟨none, (some 41), (.slL 2 (.t 39) none (some (.t 40)) none)⟩,
  ⟨none, (some 4), (.mv (.t 41))⟩])
  .ret))))))⟩
theorem f27_ok : compF Proofs.Try.prog [36, 3000000] [] Proofs.Try.f27 = some f27 := by kernel_rfl

def f28 : FnIR := ⟨19, [(.t 4)],

  (.seq (.reg [
  ⟨none, (some 3), (.box 2 (.t 0))⟩,
  ⟨none, (some 4), (.mv (.c (.cv (.sc (.bool false)))))⟩])

  (.seq (.reg [
  ⟨none, (some 5), (.fad 0 (.t 3))⟩,
  ⟨none, (some 6), (.ld false 1 (.t 5))⟩,
  ⟨none, (some 7), (.ld false 1 (.t 1))⟩,
  ⟨none, (some 8), (.bin .lss (.t 6) (.t 7))⟩,
  ⟨none, (some 9), (.mv (.t 8))⟩,
  ⟨(some (9, false)), (some 10), (.ld false 1 (.t 2))⟩,
  ⟨(some (9, false)), (some 11), (.bin .neq (.t 10) (.c (.cv (.sc (.string ⟨#[]⟩)))))⟩,
  ⟨(some (9, false)), (some 12), (.mv (.t 11))⟩,
  ⟨(some (12, true)), (some 13), (.fad 0 (.t 3))⟩,
  ⟨(some (12, true)), (some 14), (.ld false 1 (.t 13))⟩,
  ⟨(some (12, true)), (some 15), (.ld false 1 (.t 2))⟩,
  ⟨(some (12, true)), (some 16), (.bin .geq (.t 14) (.t 15))⟩,
  ⟨(some (9, false)), (some 17), (.pick (.t 12) (.t 16) (.c (.cv (.sc (.bool false)))))⟩,
  ⟨none, (some 18), (.pick (.t 9) (.c (.cv (.sc (.bool true)))) (.t 17))⟩,
  ⟨none, (some 4), (.mv (.t 18))⟩])
  .ret))⟩
theorem f28_ok : compF Proofs.Try.prog [] [] Proofs.Try.f28 = some f28 := by kernel_rfl

def f29_0 : IR :=

  (.seq (.reg [
  ⟨none, (some 14), (.mv (.t 0))⟩,
  ⟨none, (some 15), (.len false (.t 14))⟩,
  ⟨none, (some 16), (.bin .eql (.t 15) (.c (.cv (.sc (.int .i64 0)))))⟩])
  (.cond (.t 16)
  (.seq (.reg [
  ⟨none, (some 4), (.mv (.c (.cv (.sc (.slice none 0 0)))))⟩,
  ⟨none, (some 5), (.mv (.c (.cv (.sc (.bool false)))))⟩,
  ⟨none, (some 6), (.mv (.c (.cv (.sc (.int .u16 11)))))⟩])
  .ret) .skip))
def f29_1 : IR :=

  (.seq (.reg [
  ⟨none, (some 36), (.mv (.t 8))⟩,
  ⟨none, (some 37), (.bin .geq (.t 36) (.c (.cv (.sc (.int .i64 0)))))⟩,
  ⟨none, (some 38), (.mv (.t 37))⟩,
  ⟨(some (38, true)), (some 39), (.mv (.t 9))⟩,
  ⟨(some (38, true)), (some 40), (.mv (.t 8))⟩,
  ⟨(some (38, true)), (some 41), (.bin .neq (.t 39) (.t 40))⟩,
  ⟨none, (some 42), (.pick (.t 38) (.t 41) (.c (.cv (.sc (.bool false)))))⟩,
  ⟨none, (some 35), (.mv (.t 42))⟩])
  (.cond (.t 35) .skip (.reg [
  ⟨none, (some 43), (.mv (.t 9))⟩,
  ⟨none, (some 44), (.bin .gtr (.t 43) (.c (.cv (.sc (.int .i64 0)))))⟩,
  ⟨none, (some 45), (.mv (.t 44))⟩,
  ⟨(some (45, true)), (some 46), (.mv (.t 10))⟩,
  ⟨(some (45, true)), (some 47), (.len false (.t 46))⟩,
  ⟨(some (45, true)), (some 48), (.bin .eql (.t 47) (.c (.cv (.sc (.int .i64 0)))))⟩,
  ⟨none, (some 49), (.pick (.t 45) (.t 48) (.c (.cv (.sc (.bool false)))))⟩,
  ⟨none, (some 35), (.mv (.t 49))⟩])))
def f29_2 : IR :=

  (.seq (.reg [
  ⟨none, (some 53), (.mv (.t 9))⟩,
  ⟨none, (some 54), (.bin .eql (.t 53) (.c (.cv (.sc (.int .i64 0)))))⟩])
  (.cond (.t 54)
  (.seq
  (.seq (.reg [
  ⟨none, (some 55), (.mv (.t 12))⟩,
  ⟨none, (some 56), (.bin .lss (.t 55) (.c (.cv (.sc (.int .i64 0)))))⟩,
  ⟨none, (some 57), (.mv (.t 56))⟩,
  ⟨(some (57, false)), (some 58), (.mv (.t 10))⟩,
  ⟨(some (57, false)), (some 59), (.mv (.t 12))⟩,
  ⟨(some (57, false)), (some 60), (.iadL 2 (.t 58) (.t 59))⟩,
  ⟨(some (57, false)), (some 61), (.fad 0 (.t 60))⟩,
  ⟨(some (57, false)), (some 62), (.ld false 1 (.t 61))⟩,
  ⟨(some (57, false)), (some 63), (.mv (.t 1))⟩,
  ⟨(some (57, false)), (some 64), (.bin .neq (.t 62) (.t 63))⟩,
  ⟨none, (some 65), (.pick (.t 57) (.c (.cv (.sc (.bool true)))) (.t 64))⟩])
  (.cond (.t 65)
  (.seq (.reg [
  ⟨none, (some 4), (.mv (.c (.cv (.sc (.slice none 0 0)))))⟩,
  ⟨none, (some 5), (.mv (.c (.cv (.sc (.bool false)))))⟩,
  ⟨none, (some 6), (.mv (.c (.cv (.sc (.int .u16 0)))))⟩])
  .ret) .skip))

  (.seq (.reg [
  ⟨none, (some 66), (.mv (.t 10))⟩,
  ⟨none, (some 67), (.mv (.t 12))⟩,
  ⟨none, (some 68), (.iadL 2 (.t 66) (.t 67))⟩,
  ⟨none, (some 69), (.fad 1 (.t 68))⟩,
  ⟨none, (some 70), (.ld false 1 (.t 69))⟩,
  ⟨none, (some 4), (.mv (.t 70))⟩,
  ⟨none, (some 5), (.mv (.c (.cv (.sc (.bool true)))))⟩,
  ⟨none, (some 6), (.mv (.c (.cv (.sc (.int .u16 0)))))⟩])
  .ret)) .skip))
def f29_3 : IR :=

  (.seq (.block 1
  (.seq (.reg [
  ⟨none, (some 23), (.mv (.t 0))⟩,
  ⟨none, (some 24), (.mv (.t 7))⟩,
  ⟨none, (some 25), (.iadL 1 (.t 23) (.t 24))⟩,
  ⟨none, (some 26), (.ld false 1 (.t 25))⟩,
  ⟨none, (some 27), (.call 24 true [(.t 26)])⟩,
  ⟨none, (some 22), (.mv (.t 27))⟩,
  ⟨none, (some 28), (.ext (.t 22) 0)⟩,
  ⟨none, (some 29), (.ext (.t 22) 1)⟩,
  ⟨none, (some 30), (.ext (.t 22) 2)⟩,
  ⟨none, (some 9), (.mv (.t 28))⟩,
  ⟨none, (some 10), (.mv (.t 29))⟩,
  ⟨none, (some 11), (.mv (.t 30))⟩])

  (.seq (.block 2
  (.seq (.reg [
  ⟨none, (some 32), (.mv (.t 11))⟩,
  ⟨none, (some 33), (.bin .neq (.t 32) (.c (.cv (.sc (.int .u16 0)))))⟩,
  ⟨none, (some 31), (.mv (.t 33))⟩])
  (.cond (.t 31)
  (.seq (.reg [
  ⟨none, (some 34), (.mv (.t 11))⟩,
  ⟨none, (some 4), (.mv (.c (.cv (.sc (.slice none 0 0)))))⟩,
  ⟨none, (some 5), (.mv (.c (.cv (.sc (.bool false)))))⟩,
  ⟨none, (some 6), (.mv (.t 34))⟩])
  .ret)
  (.seq f29_1
  (.cond (.t 35)
  (.seq (.reg [
  ⟨none, (some 4), (.mv (.c (.cv (.sc (.slice none 0 0)))))⟩,
  ⟨none, (some 5), (.mv (.c (.cv (.sc (.bool false)))))⟩,
  ⟨none, (some 6), (.mv (.c (.cv (.sc (.int .u16 11)))))⟩])
  .ret) .skip)))))

  (.seq (.reg [
  ⟨none, (some 50), (.mv (.t 10))⟩,
  ⟨none, (some 51), (.mv (.t 1))⟩,
  ⟨none, (some 52), (.call 37 true [(.t 50), (.t 51)])⟩,
  ⟨none, (some 12), (.mv (.t 52))⟩])

  (.seq f29_2

  (.seq (.reg [
  ⟨none, (some 13), (.mv (.c (.cv (.sc (.bool false)))))⟩])

  (.seq
  (.seq (.reg [
  ⟨none, (some 72), (.mv (.t 10))⟩,
  ⟨none, (some 73), (.mv (.t 12))⟩,
  ⟨none, (some 74), (.mnmx false [(.t 73), (.c (.cv (.sc (.int .i64 0))))])⟩,
  ⟨none, (some 75), (.iadL 2 (.t 72) (.t 74))⟩,
  ⟨none, (some 76), (.ld true 2 (.t 75))⟩,
  ⟨none, (some 77), (.mv (.t 7))⟩,
  ⟨none, (some 78), (.call 38 true [(.t 76), (.t 77)])⟩,
  ⟨none, (some 71), (.mv (.t 78))⟩,
  ⟨none, (some 79), (.ext (.t 71) 0)⟩,
  ⟨none, (some 80), (.ext (.t 71) 1)⟩,
  ⟨none, (some 7), (.mv (.t 79))⟩,
  ⟨none, (some 13), (.mv (.t 80))⟩])

  (.seq (.reg [
  ⟨none, (some 81), (.mv (.t 13))⟩,
  ⟨none, (some 82), (.un .not (.t 81))⟩])
  (.cond (.t 82)
  (.seq (.reg [
  ⟨none, (some 4), (.mv (.c (.cv (.sc (.slice none 0 0)))))⟩,
  ⟨none, (some 5), (.mv (.c (.cv (.sc (.bool false)))))⟩,
  ⟨none, (some 6), (.mv (.c (.cv (.sc (.int .u16 11)))))⟩])
  .ret) .skip)))
  (.reg [
  ⟨none, (some 83), (.mv (.t 9))⟩,
  ⟨none, (some 8), (.mv (.t 83))⟩]))))))))
  (.reg [
  ⟨none, (some 20), (.mv (.t 8))⟩,
  ⟨none, (some 21), (.bin .sub (.t 20) (.c (.cv (.sc (.int .i64 1)))))⟩,
  ⟨none, (some 8), (.mv (.t 21))⟩]))
def f29 : FnIR := ⟨84, [(.t 4), (.t 5), (.t 6)],

  (.seq (.reg [
  ⟨none, (some 4), (.mv (.c (.cv (.sc (.slice none 0 0)))))⟩,
  ⟨none, (some 5), (.mv (.c (.cv (.sc (.bool false)))))⟩,
  ⟨none, (some 6), (.mv (.c (.cv (.sc (.int .u16 0)))))⟩])

  (.seq f29_0

  (.seq (.reg [
  ⟨none, (some 17), (.mv (.t 0))⟩,
  ⟨none, (some 18), (.len false (.t 17))⟩,
  ⟨none, (some 19), (.bin .sub (.t 18) (.c (.cv (.sc (.int .i64 1)))))⟩,
  ⟨none, (some 7), (.mv (.t 19))⟩,
  ⟨none, (some 8), (.mv (.c (.cv (.sc (.int .i64 (-1))))))⟩])
  (.block 0 (.loop f29_3)))))⟩
theorem f29_ok : compF Proofs.Try.prog [] [] Proofs.Try.f29 = some f29 := by kernel_rfl

def f30_0 : IR :=

  (.seq (.reg [
  ⟨none, (some 33), (.mv (.t 13))⟩,
  ⟨none, (some 34), (.un .not (.t 33))⟩,
  ⟨none, (some 35), (.mv (.t 34))⟩,
  ⟨(some (35, false)), (some 36), (.mv (.t 11))⟩,
  ⟨(some (35, false)), (some 37), (.bin .eql (.t 36) (.c (.cv (.sc (.int .i64 0)))))⟩,
  ⟨(some (35, false)), (some 38), (.mv (.t 37))⟩,
  ⟨(some (38, true)), (some 39), (.mv (.t 2))⟩,
  ⟨(some (38, true)), (some 40), (.len false (.t 39))⟩,
  ⟨(some (38, true)), (some 41), (.bin .gtr (.t 40) (.c (.cv (.sc (.int .i64 0)))))⟩,
  ⟨(some (35, false)), (some 42), (.pick (.t 38) (.t 41) (.c (.cv (.sc (.bool false)))))⟩,
  ⟨none, (some 43), (.pick (.t 35) (.c (.cv (.sc (.bool true)))) (.t 42))⟩])
  (.cond (.t 43)
  (.seq (.reg [
  ⟨none, (some 6), (.mv (.c (.cv (.sc (.slice none 0 0)))))⟩,
  ⟨none, (some 7), (.mv (.c (.cv (.sc (.slice none 0 0)))))⟩,
  ⟨none, (some 8), (.mv (.c (.cv (.sc (.bool false)))))⟩])
  .ret) .skip))
def f30_1 : IR :=

  (.seq (.reg [
  ⟨none, (some 44), (.mv (.t 11))⟩,
  ⟨none, (some 45), (.bin .gtr (.t 44) (.c (.cv (.sc (.int .i64 0)))))⟩])
  (.cond (.t 45) (.reg [
  ⟨none, (some 46), (.mv (.t 2))⟩,
  ⟨none, (some 47), (.iadL 2 (.t 46) (.c (.cv (.sc (.int .i64 0)))))⟩,
  ⟨none, (some 48), (.fad 0 (.t 47))⟩,
  ⟨none, (some 49), (.ld false 1 (.t 48))⟩,
  ⟨none, (some 14), (.mv (.t 49))⟩]) .skip))
def f30_2 : IR :=

  (.seq
  (.seq (.reg [
  ⟨none, (some 15), (.mv (.t 2))⟩,
  ⟨none, (some 16), (.len false (.t 15))⟩,
  ⟨none, (some 17), (.bin .gtr (.t 16) (.c (.cv (.sc (.int .i64 0)))))⟩,
  ⟨none, (some 18), (.mv (.t 17))⟩,
  ⟨(some (18, false)), (some 19), (.mv (.t 9))⟩,
  ⟨(some (18, false)), (some 20), (.len false (.t 19))⟩,
  ⟨(some (18, false)), (some 21), (.bin .eql (.t 20) (.c (.cv (.sc (.int .i64 0)))))⟩,
  ⟨none, (some 22), (.pick (.t 18) (.c (.cv (.sc (.bool true)))) (.t 21))⟩])
  (.cond (.t 22) .skip (.exit 0)))
  (.block 1
  (.seq (.reg [
  ⟨none, (some 23), (.mv (.t 2))⟩,
  ⟨none, (some 24), (.call 39 true [(.t 23)])⟩,
  ⟨none, (some 11), (.mv (.t 24))⟩])

  (.seq (.reg [
  ⟨none, (some 26), (.mv (.t 0))⟩,
  ⟨none, (some 27), (.mv (.t 2))⟩,
  ⟨none, (some 28), (.mv (.t 11))⟩,
  ⟨none, (some 29), (.slL 2 (.t 27) none (some (.t 28)) none)⟩,
  ⟨none, (some 30), (.call 40 true [(.t 26), (.t 29)])⟩,
  ⟨none, (some 25), (.mv (.t 30))⟩,
  ⟨none, (some 31), (.ext (.t 25) 0)⟩,
  ⟨none, (some 32), (.ext (.t 25) 1)⟩,
  ⟨none, (some 12), (.mv (.t 31))⟩,
  ⟨none, (some 13), (.mv (.t 32))⟩])

  (.seq f30_0

  (.seq (.reg [
  ⟨none, (some 14), (.mv (.c (.cv (.sc (.string ⟨#[]⟩)))))⟩])

  (.seq f30_1

  (.seq (.reg [
  ⟨none, (some 50), (.mv (.t 10))⟩,
  ⟨none, (some 51), (.mv (.t 14))⟩,
  ⟨none, (some 52), (.mv (.t 1))⟩,
  ⟨none, (some 53), (.mv (.t 9))⟩,
  ⟨none, (some 54), (.len false (.t 53))⟩,
  ⟨none, (some 55), (.bin .add (.t 52) (.t 54))⟩,
  ⟨none, (some 56), (.call 41 true [(.t 55)])⟩,
  ⟨none, (some 57), (.build [(.cv (.sc (.string ⟨#[]⟩))), (.cv (.sc (.slice none 0 0)))] [(0, (1, (.t 51))), (1, (1, (.t 56)))])⟩,
  ⟨none, (some 58), (.mksl 2 1 [(.cv (.sc (.string ⟨#[]⟩))), (.cv (.sc (.slice none 0 0)))] [(0, (2, (.t 57)))] false)⟩,
  ⟨none, (some 59), (.app 2 40 [(.sc (.string ⟨#[]⟩)), (.sc (.slice none 0 0))] (.t 50) (.t 58))⟩,
  ⟨none, (some 10), (.mv (.t 59))⟩])

  (.seq (.reg [
  ⟨none, (some 60), (.mv (.t 9))⟩,
  ⟨none, (some 61), (.mv (.t 12))⟩,
  ⟨none, (some 62), (.mksl 1 1 [(.cv (.sc (.slice none 0 0)))] [(0, (1, (.t 61)))] false)⟩,
  ⟨none, (some 63), (.app 1 24 [(.sc (.slice none 0 0))] (.t 60) (.t 62))⟩,
  ⟨none, (some 9), (.mv (.t 63))⟩])
  (.reg [
  ⟨none, (some 64), (.mv (.t 2))⟩,
  ⟨none, (some 65), (.mv (.t 11))⟩,
  ⟨none, (some 66), (.slL 2 (.t 64) (some (.t 65)) none none)⟩,
  ⟨none, (some 2), (.mv (.t 66))⟩]))))))))))
def f30 : FnIR := ⟨69, [(.t 6), (.t 7), (.t 8)],

  (.seq (.reg [
  ⟨none, (some 6), (.mv (.c (.cv (.sc (.slice none 0 0)))))⟩,
  ⟨none, (some 7), (.mv (.c (.cv (.sc (.slice none 0 0)))))⟩,
  ⟨none, (some 8), (.mv (.c (.cv (.sc (.bool false)))))⟩])

  (.seq (.reg [
  ⟨none, (some 9), (.mv (.c (.cv (.sc (.slice none 0 0)))))⟩])

  (.seq (.reg [
  ⟨none, (some 10), (.mv (.c (.cv (.sc (.slice none 0 0)))))⟩])

  (.seq (.block 0 (.loop f30_2))

  (.seq (.reg [
  ⟨none, (some 67), (.mv (.t 9))⟩,
  ⟨none, (some 68), (.mv (.t 10))⟩,
  ⟨none, (some 6), (.mv (.t 67))⟩,
  ⟨none, (some 7), (.mv (.t 68))⟩,
  ⟨none, (some 8), (.mv (.c (.cv (.sc (.bool true)))))⟩])
  .ret)))))⟩
theorem f30_ok : compF Proofs.Try.prog [] [] Proofs.Try.f30 = some f30 := by kernel_rfl

def f31 : FnIR := ⟨4, [(.t 2)],

  (.seq (.reg [
  ⟨none, (some 1), (.box 1 (.t 0))⟩,
  ⟨none, (some 2), (.mv (.c (.cv (.sc .nilFunc))))⟩])

  (.seq (.reg [
  ⟨none, (some 3), (.mkfn 42 [(.t 1)])⟩,
  ⟨none, (some 2), (.mv (.t 3))⟩])
  .ret))⟩
theorem f31_ok : compF Proofs.Try.prog [] [] Proofs.Try.f31 = some f31 := by kernel_rfl

def f32_0 : IR :=

  (.seq (.reg [
  ⟨none, (some 11), (.mv (.t 0))⟩,
  ⟨none, (some 12), (.bin .lss (.t 11) (.c (.cv (.sc (.int .i64 0)))))⟩,
  ⟨none, (some 13), (.mv (.t 12))⟩,
  ⟨(some (13, false)), (some 14), (.mv (.t 0))⟩,
  ⟨(some (13, false)), (some 15), (.bin .gtr (.t 14) (.c (.cv (.sc (.int .i64 4)))))⟩,
  ⟨none, (some 16), (.pick (.t 13) (.c (.cv (.sc (.bool true)))) (.t 15))⟩,
  ⟨none, (some 17), (.mv (.t 16))⟩,
  ⟨(some (17, false)), (some 18), (.mv (.t 1))⟩,
  ⟨(some (17, false)), (some 19), (.call 43 true [(.t 18)])⟩,
  ⟨(some (17, false)), (some 20), (.mv (.t 1))⟩,
  ⟨(some (17, false)), (some 21), (.len false (.t 20))⟩,
  ⟨(some (17, false)), (some 22), (.bin .lss (.t 19) (.t 21))⟩,
  ⟨none, (some 23), (.pick (.t 17) (.c (.cv (.sc (.bool true)))) (.t 22))⟩])
  (.cond (.t 23)
  (.seq (.reg [
  ⟨none, (some 4), (.mv (.c (.cv (.sc (.slice none 0 0)))))⟩,
  ⟨none, (some 5), (.mv (.c (.cv (.sc (.bool false)))))⟩])
  .ret) .skip))
def f32_1 : IR :=
  (.cond (.t 34) .skip (.exit 0))
def f32_2 : IR :=

  (.seq (.reg [
  ⟨none, (some 34), (.bin .lss (.t 33) (.t 32))⟩])

  (.seq f32_1

  (.seq (.block 1
  (.seq (.reg [
  ⟨none, (some 35), (.mv (.t 33))⟩,
  ⟨none, (some 36), (.iadL 2 (.t 31) (.t 33))⟩,
  ⟨none, (some 37), (.ld true 2 (.t 36))⟩,
  ⟨none, (some 9), (.alloc [(.cv (.sc (.string ⟨#[]⟩))), (.cv (.sc (.slice none 0 0)))])⟩,
  ⟨none, (some 8), (.mv (.t 35))⟩,
  ⟨none, none, (.st 2 (.t 9) (.t 37))⟩])

  (.seq (.reg [
  ⟨none, (some 38), (.ld true 2 (.t 9))⟩,
  ⟨none, (some 39), (.call 44 true [(.t 38)])⟩,
  ⟨none, (some 10), (.mv (.t 39))⟩])

  (.seq (.reg [
  ⟨none, (some 40), (.mv (.t 7))⟩,
  ⟨none, (some 41), (.mv (.t 10))⟩,
  ⟨none, (some 42), (.len false (.t 41))⟩,
  ⟨none, (some 43), (.bin .sub (.t 40) (.t 42))⟩,
  ⟨none, (some 7), (.mv (.t 43))⟩])

  (.seq (.reg [
  ⟨none, (some 44), (.mv (.t 8))⟩,
  ⟨none, (some 45), (.bin .add (.c (.cv (.sc (.int .i64 2)))) (.t 44))⟩,
  ⟨none, (some 46), (.mv (.t 7))⟩,
  ⟨none, (some 47), (.cvI .u8 (.t 46))⟩,
  ⟨none, (some 48), (.iadA 252 1 (.t 6) (.t 45))⟩,
  ⟨none, none, (.st 1 (.t 48) (.t 47))⟩])
  (.reg [
  ⟨none, (some 49), (.mv (.t 7))⟩,
  ⟨none, (some 50), (.slA 252 1 (.t 6) (some (.t 49)) none)⟩,
  ⟨none, (some 51), (.mv (.t 10))⟩,
  ⟨none, (some 52), (.cpy 1 (.t 50) (.t 51))⟩]))))))
  (.reg [
  ⟨none, (some 53), (.bin .add (.t 33) (.c (.cv (.sc (.int .i64 1)))))⟩,
  ⟨none, (some 33), (.mv (.t 53))⟩]))))
def f32 : FnIR := ⟨56, [(.t 4), (.t 5)],

  (.seq (.reg [
  ⟨none, (some 4), (.mv (.c (.cv (.sc (.slice none 0 0)))))⟩,
  ⟨none, (some 5), (.mv (.c (.cv (.sc (.bool false)))))⟩])

  (.seq f32_0

  (.seq (.reg [
  ⟨none, (some 6), (.alloc (List.replicate 252 (.cv (.sc (.int .u8 0)))))⟩])

  (.seq (.reg [
  ⟨none, (some 24), (.mv (.t 0))⟩,
  ⟨none, (some 25), (.cvI .u8 (.t 24))⟩,
  ⟨none, (some 26), (.mv (.t 1))⟩,
  ⟨none, (some 27), (.len false (.t 26))⟩,
  ⟨none, (some 28), (.cvI .u8 (.t 27))⟩,
  ⟨none, (some 29), (.iadA 252 1 (.t 6) (.c (.cv (.sc (.int .i64 0)))))⟩,
  ⟨none, none, (.st 1 (.t 29) (.t 25))⟩,
  ⟨none, (some 30), (.iadA 252 1 (.t 6) (.c (.cv (.sc (.int .i64 1)))))⟩,
  ⟨none, none, (.st 1 (.t 30) (.t 28))⟩])

  (.seq (.reg [
  ⟨none, (some 7), (.mv (.c (.cv (.sc (.int .i64 252)))))⟩])

  (.seq
  (.seq (.reg [
  ⟨none, (some 31), (.mv (.t 1))⟩,
  ⟨none, (some 32), (.len false (.t 31))⟩,
  ⟨none, (some 33), (.mv (.c (.cv (.sc (.int .i64 0)))))⟩])
  (.block 0 (.loop f32_2)))

  (.seq (.reg [
  ⟨none, (some 54), (.slA 252 1 (.t 6) none none)⟩,
  ⟨none, (some 55), (.call 45 false [(.t 54)])⟩,
  ⟨none, (some 4), (.mv (.t 55))⟩,
  ⟨none, (some 5), (.mv (.c (.cv (.sc (.bool true)))))⟩])
  .ret)))))))⟩
theorem f32_ok : compF Proofs.Try.prog [45] [] Proofs.Try.f32 = some f32 := by kernel_rfl

def f33_0 : IR :=

  (.seq
  (.seq (.reg [
  ⟨none, (some 7), (.mv (.t 0))⟩,
  ⟨none, (some 8), (.bin .gtr (.t 7) (.c (.cv (.sc (.int .i64 127)))))⟩])
  (.cond (.t 8) .skip (.exit 0)))

  (.seq (.block 1 (.reg [
  ⟨none, (some 11), (.mv (.t 3))⟩,
  ⟨none, (some 12), (.mv (.t 0))⟩,
  ⟨none, (some 13), (.cvI .u8 (.t 12))⟩,
  ⟨none, (some 14), (.bin .or (.t 13) (.c (.cv (.sc (.int .u8 128)))))⟩,
  ⟨none, (some 15), (.mksl 1 1 [(.cv (.sc (.int .u8 0)))] [(0, (1, (.t 14)))] false)⟩,
  ⟨none, (some 16), (.app 1 1 [(.sc (.int .u8 0))] (.t 11) (.t 15))⟩,
  ⟨none, (some 3), (.mv (.t 16))⟩]))
  (.reg [
  ⟨none, (some 9), (.mv (.t 0))⟩,
  ⟨none, (some 10), (.bin .shr (.t 9) (.c (.cv (.sc (.int .u64 7)))))⟩,
  ⟨none, (some 0), (.mv (.t 10))⟩])))
def f33 : FnIR := ⟨22, [(.t 2)],

  (.seq (.reg [
  ⟨none, (some 2), (.mv (.c (.cv (.sc (.slice none 0 0)))))⟩])

  (.seq (.reg [
  ⟨none, (some 3), (.mv (.c (.cv (.sc (.slice none 0 0)))))⟩])

  (.seq
  (.seq (.reg [
  ⟨none, (some 4), (.mv (.t 0))⟩,
  ⟨none, (some 5), (.mnmx true [(.t 4), (.c (.cv (.sc (.int .i64 9007199254740992))))])⟩,
  ⟨none, (some 6), (.mnmx false [(.c (.cv (.sc (.int .i64 0)))), (.t 5)])⟩,
  ⟨none, (some 0), (.mv (.t 6))⟩])
  (.block 0 (.loop f33_0)))

  (.seq (.reg [
  ⟨none, (some 17), (.mv (.t 3))⟩,
  ⟨none, (some 18), (.mv (.t 0))⟩,
  ⟨none, (some 19), (.cvI .u8 (.t 18))⟩,
  ⟨none, (some 20), (.mksl 1 1 [(.cv (.sc (.int .u8 0)))] [(0, (1, (.t 19)))] false)⟩,
  ⟨none, (some 21), (.app 1 1 [(.sc (.int .u8 0))] (.t 17) (.t 20))⟩,
  ⟨none, (some 2), (.mv (.t 21))⟩])
  .ret))))⟩
theorem f33_ok : compF Proofs.Try.prog [] [] Proofs.Try.f33 = some f33 := by kernel_rfl

def f34 : FnIR := ⟨17, [(.t 2)],

  (.seq (.reg [
  ⟨none, (some 2), (.mv (.c (.cv (.sc (.bool false)))))⟩])

  (.seq (.reg [
  ⟨none, (some 4), (.mv (.t 0))⟩,
  ⟨none, (some 5), (.len false (.t 4))⟩,
  ⟨none, (some 6), (.bin .sub (.t 5) (.c (.cv (.sc (.int .i64 4)))))⟩,
  ⟨none, (some 3), (.mv (.t 6))⟩])

  (.seq (.reg [
  ⟨none, (some 7), (.mv (.t 3))⟩,
  ⟨none, (some 8), (.bin .geq (.t 7) (.c (.cv (.sc (.int .i64 0)))))⟩,
  ⟨none, (some 9), (.mv (.t 8))⟩,
  ⟨(some (9, true)), (some 10), (.mv (.t 0))⟩,
  ⟨(some (9, true)), (some 11), (.mv (.t 3))⟩,
  ⟨(some (9, true)), (some 12), (.slL 1 (.t 10) none (some (.t 11)) none)⟩,
  ⟨(some (9, true)), (some 13), (.call 45 true [(.t 12)])⟩,
  ⟨(some (9, true)), (some 14), (.mv (.t 0))⟩,
  ⟨(some (9, true)), (some 15), (.call 26 true [(.t 13), (.t 14)])⟩,
  ⟨none, (some 16), (.pick (.t 9) (.t 15) (.c (.cv (.sc (.bool false)))))⟩,
  ⟨none, (some 2), (.mv (.t 16))⟩])
  .ret)))⟩
theorem f34_ok : compF Proofs.Try.prog [] [] Proofs.Try.f34 = some f34 := by kernel_rfl

def f35_0 : IR :=

  (.seq (.reg [
  ⟨none, (some 12), (.mv (.t 1))⟩,
  ⟨none, (some 13), (.mv (.t 2))⟩,
  ⟨none, (some 14), (.bin .geq (.t 12) (.t 13))⟩])
  (.cond (.t 14)
  (.seq (.reg [
  ⟨none, (some 15), (.ld true 2 (.t 6))⟩,
  ⟨none, none, (.st 2 (.t 6) (.t 15))⟩,
  ⟨none, (some 7), (.mv (.c (.cv (.sc (.bool false)))))⟩])
  .ret) .skip))
def f35_1 : IR :=

  (.seq (.reg [
  ⟨none, (some 25), (.mv (.t 10))⟩,
  ⟨none, (some 26), (.bin .neq (.t 25) (.c (.cv (.sc (.int .u16 0)))))⟩])
  (.cond (.t 26)
  (.seq (.reg [
  ⟨none, (some 27), (.ld true 2 (.t 6))⟩,
  ⟨none, none, (.st 2 (.t 6) (.t 27))⟩,
  ⟨none, (some 7), (.mv (.c (.cv (.sc (.bool false)))))⟩])
  .ret) .skip))
def f35 : FnIR := ⟨48, [(.cell 6 true 2), (.t 7)],

  (.seq (.reg [
  ⟨none, (some 6), (.alloc [(.cv (.sc (.string ⟨#[]⟩))), (.cv (.sc (.slice none 0 0)))])⟩,
  ⟨none, (some 7), (.mv (.c (.cv (.sc (.bool false)))))⟩])

  (.seq f35_0

  (.seq (.reg [
  ⟨none, (some 17), (.mv (.t 0))⟩,
  ⟨none, (some 18), (.mv (.t 2))⟩,
  ⟨none, (some 19), (.slL 1 (.t 17) none (some (.t 18)) none)⟩,
  ⟨none, (some 20), (.mv (.t 1))⟩,
  ⟨none, (some 21), (.call 46 true [(.t 19), (.t 20), (.c (.cv (.sc (.int .i64 30))))])⟩,
  ⟨none, (some 16), (.mv (.t 21))⟩,
  ⟨none, (some 22), (.ext (.t 16) 0)⟩,
  ⟨none, (some 23), (.ext (.t 16) 1)⟩,
  ⟨none, (some 24), (.ext (.t 16) 2)⟩,
  ⟨none, (some 8), (.mv (.t 22))⟩,
  ⟨none, (some 9), (.mv (.t 23))⟩,
  ⟨none, (some 10), (.mv (.t 24))⟩])

  (.seq f35_1

  (.seq (.reg [
  ⟨none, (some 29), (.mv (.t 0))⟩,
  ⟨none, (some 30), (.mv (.t 2))⟩,
  ⟨none, (some 31), (.slL 1 (.t 29) none (some (.t 30)) none)⟩,
  ⟨none, (some 32), (.mv (.t 9))⟩,
  ⟨none, (some 33), (.call 46 true [(.t 31), (.t 32), (.c (.cv (.sc (.int .i64 150))))])⟩,
  ⟨none, (some 28), (.mv (.t 33))⟩,
  ⟨none, (some 34), (.ext (.t 28) 0)⟩,
  ⟨none, (some 35), (.ext (.t 28) 1)⟩,
  ⟨none, (some 36), (.ext (.t 28) 2)⟩,
  ⟨none, (some 11), (.mv (.t 34))⟩,
  ⟨none, (some 9), (.mv (.t 35))⟩,
  ⟨none, (some 10), (.mv (.t 36))⟩])

  (.seq (.reg [
  ⟨none, (some 37), (.mv (.t 8))⟩,
  ⟨none, (some 38), (.mv (.t 11))⟩,
  ⟨none, (some 39), (.cvSB false (.t 38))⟩,
  ⟨none, (some 40), (.build [(.cv (.sc (.string ⟨#[]⟩))), (.cv (.sc (.slice none 0 0)))] [(0, (1, (.t 37))), (1, (1, (.t 39)))])⟩,
  ⟨none, (some 41), (.mv (.t 10))⟩,
  ⟨none, (some 42), (.bin .eql (.t 41) (.c (.cv (.sc (.int .u16 0)))))⟩,
  ⟨none, (some 43), (.mv (.t 42))⟩,
  ⟨(some (43, true)), (some 44), (.mv (.t 9))⟩,
  ⟨(some (43, true)), (some 45), (.mv (.t 2))⟩,
  ⟨(some (43, true)), (some 46), (.bin .eql (.t 44) (.t 45))⟩,
  ⟨none, (some 47), (.pick (.t 43) (.t 46) (.c (.cv (.sc (.bool false)))))⟩,
  ⟨none, none, (.st 2 (.t 6) (.t 40))⟩,
  ⟨none, (some 7), (.mv (.t 47))⟩])
  .ret))))))⟩
theorem f35_ok : compF Proofs.Try.prog [] [] Proofs.Try.f35 = some f35 := by kernel_rfl

def f36_0 : IR :=
  (.cond (.t 9) .skip (.exit 0))
def f36_1 : IR :=

  (.seq (.reg [
  ⟨none, (some 9), (.bin .lss (.t 8) (.t 7))⟩])

  (.seq f36_0

  (.seq (.block 1
  (.seq (.reg [
  ⟨none, (some 10), (.mv (.t 8))⟩,
  ⟨none, (some 5), (.mv (.t 10))⟩])

  (.seq (.reg [
  ⟨none, (some 11), (.mv (.t 1))⟩,
  ⟨none, (some 12), (.mv (.t 0))⟩,
  ⟨none, (some 13), (.mv (.t 5))⟩,
  ⟨none, (some 14), (.iadL 2 (.t 12) (.t 13))⟩,
  ⟨none, (some 15), (.ld true 2 (.t 14))⟩,
  ⟨none, (some 16), (.callv false (.t 11) [(.t 15)])⟩])
  (.cond (.t 16)
  (.seq (.reg [
  ⟨none, (some 17), (.mv (.t 5))⟩,
  ⟨none, (some 4), (.mv (.t 17))⟩])
  .ret) .skip))))
  (.reg [
  ⟨none, (some 18), (.bin .add (.t 8) (.c (.cv (.sc (.int .i64 1)))))⟩,
  ⟨none, (some 8), (.mv (.t 18))⟩]))))
def f36 : FnIR := ⟨19, [(.t 4)],

  (.seq (.reg [
  ⟨none, (some 4), (.mv (.c (.cv (.sc (.int .i64 0)))))⟩])

  (.seq
  (.seq (.reg [
  ⟨none, (some 6), (.mv (.t 0))⟩,
  ⟨none, (some 7), (.len false (.t 6))⟩,
  ⟨none, (some 8), (.mv (.c (.cv (.sc (.int .i64 0)))))⟩])
  (.block 0 (.loop f36_1)))

  (.seq (.reg [
  ⟨none, (some 4), (.mv (.c (.cv (.sc (.int .i64 (-1))))))⟩])
  .ret)))⟩
theorem f36_ok : compF Proofs.Try.prog [3000000] [] Proofs.Try.f36 = some f36 := by kernel_rfl

def f37_0 : IR :=
  (.cond (.t 10) .skip (.exit 0))
def f37_1 : IR :=

  (.seq (.reg [
  ⟨none, (some 10), (.bin .lss (.t 9) (.t 8))⟩])

  (.seq f37_0

  (.seq (.block 1
  (.seq (.reg [
  ⟨none, (some 11), (.mv (.t 9))⟩,
  ⟨none, (some 12), (.iadL 2 (.t 7) (.t 9))⟩,
  ⟨none, (some 13), (.ld true 2 (.t 12))⟩,
  ⟨none, (some 6), (.alloc [(.cv (.sc (.string ⟨#[]⟩))), (.cv (.sc (.slice none 0 0)))])⟩,
  ⟨none, (some 5), (.mv (.t 11))⟩,
  ⟨none, none, (.st 2 (.t 6) (.t 13))⟩])

  (.seq (.reg [
  ⟨none, (some 14), (.fad 0 (.t 6))⟩,
  ⟨none, (some 15), (.ld false 1 (.t 14))⟩,
  ⟨none, (some 16), (.mv (.t 1))⟩,
  ⟨none, (some 17), (.bin .gtr (.t 15) (.t 16))⟩])
  (.cond (.t 17)
  (.seq (.reg [
  ⟨none, (some 18), (.mv (.t 5))⟩,
  ⟨none, (some 19), (.bin .sub (.t 18) (.c (.cv (.sc (.int .i64 1)))))⟩,
  ⟨none, (some 4), (.mv (.t 19))⟩])
  .ret) .skip))))
  (.reg [
  ⟨none, (some 20), (.bin .add (.t 9) (.c (.cv (.sc (.int .i64 1)))))⟩,
  ⟨none, (some 9), (.mv (.t 20))⟩]))))
def f37 : FnIR := ⟨24, [(.t 4)],

  (.seq (.reg [
  ⟨none, (some 4), (.mv (.c (.cv (.sc (.int .i64 0)))))⟩])

  (.seq
  (.seq (.reg [
  ⟨none, (some 7), (.mv (.t 0))⟩,
  ⟨none, (some 8), (.len false (.t 7))⟩,
  ⟨none, (some 9), (.mv (.c (.cv (.sc (.int .i64 0)))))⟩])
  (.block 0 (.loop f37_1)))

  (.seq (.reg [
  ⟨none, (some 21), (.mv (.t 0))⟩,
  ⟨none, (some 22), (.len false (.t 21))⟩,
  ⟨none, (some 23), (.bin .sub (.t 22) (.c (.cv (.sc (.int .i64 1)))))⟩,
  ⟨none, (some 4), (.mv (.t 23))⟩])
  .ret)))⟩
theorem f37_ok : compF Proofs.Try.prog [] [] Proofs.Try.f37 = some f37 := by kernel_rfl

def f38 : FnIR := ⟨31, [(.t 4), (.t 5)],

  (.seq (.reg [
  ⟨none, (some 2), (.box 2 (.t 0))⟩,
  ⟨none, (some 4), (.mv (.c (.cv (.sc (.int .i64 0)))))⟩,
  ⟨none, (some 5), (.mv (.c (.cv (.sc (.bool false)))))⟩])

  (.seq (.reg [
  ⟨none, (some 10), (.fad 1 (.t 2))⟩,
  ⟨none, (some 11), (.ld false 1 (.t 10))⟩,
  ⟨none, (some 12), (.call 47 true [(.t 11), (.c (.cv (.sc (.int .i64 0))))])⟩,
  ⟨none, (some 9), (.mv (.t 12))⟩,
  ⟨none, (some 13), (.ext (.t 9) 0)⟩,
  ⟨none, (some 14), (.ext (.t 9) 1)⟩,
  ⟨none, (some 15), (.ext (.t 9) 2)⟩,
  ⟨none, (some 6), (.mv (.t 13))⟩,
  ⟨none, (some 7), (.mv (.t 14))⟩,
  ⟨none, (some 8), (.mv (.t 15))⟩])

  (.seq (.reg [
  ⟨none, (some 16), (.mv (.t 6))⟩,
  ⟨none, (some 17), (.mv (.t 8))⟩,
  ⟨none, (some 18), (.bin .eql (.t 17) (.c (.cv (.sc (.int .u16 0)))))⟩,
  ⟨none, (some 19), (.mv (.t 18))⟩,
  ⟨(some (19, true)), (some 20), (.mv (.t 7))⟩,
  ⟨(some (19, true)), (some 21), (.fad 1 (.t 2))⟩,
  ⟨(some (19, true)), (some 22), (.ld false 1 (.t 21))⟩,
  ⟨(some (19, true)), (some 23), (.len false (.t 22))⟩,
  ⟨(some (19, true)), (some 24), (.bin .eql (.t 20) (.t 23))⟩,
  ⟨none, (some 25), (.pick (.t 19) (.t 24) (.c (.cv (.sc (.bool false)))))⟩,
  ⟨none, (some 26), (.mv (.t 25))⟩,
  ⟨(some (26, true)), (some 27), (.mv (.t 6))⟩,
  ⟨(some (26, true)), (some 28), (.mv (.t 1))⟩,
  ⟨(some (26, true)), (some 29), (.bin .lss (.t 27) (.t 28))⟩,
  ⟨none, (some 30), (.pick (.t 26) (.t 29) (.c (.cv (.sc (.bool false)))))⟩,
  ⟨none, (some 4), (.mv (.t 16))⟩,
  ⟨none, (some 5), (.mv (.t 30))⟩])
  .ret)))⟩
theorem f38_ok : compF Proofs.Try.prog [] [] Proofs.Try.f38 = some f38 := by kernel_rfl

def f39_0 : IR :=

  (.seq (.reg [
  ⟨none, (some 11), (.mv (.t 0))⟩,
  ⟨none, (some 12), (.mv (.t 4))⟩,
  ⟨none, (some 13), (.iadL 2 (.t 11) (.t 12))⟩,
  ⟨none, (some 14), (.fad 0 (.t 13))⟩,
  ⟨none, (some 15), (.ld false 1 (.t 14))⟩,
  ⟨none, (some 16), (.len true (.t 15))⟩,
  ⟨none, (some 17), (.bin .gtr (.t 16) (.c (.cv (.sc (.int .i64 30)))))⟩,
  ⟨none, (some 18), (.mv (.t 17))⟩,
  ⟨(some (18, false)), (some 19), (.mv (.t 0))⟩,
  ⟨(some (18, false)), (some 20), (.mv (.t 4))⟩,
  ⟨(some (18, false)), (some 21), (.iadL 2 (.t 19) (.t 20))⟩,
  ⟨(some (18, false)), (some 22), (.fad 1 (.t 21))⟩,
  ⟨(some (18, false)), (some 23), (.ld false 1 (.t 22))⟩,
  ⟨(some (18, false)), (some 24), (.len false (.t 23))⟩,
  ⟨(some (18, false)), (some 25), (.bin .gtr (.t 24) (.c (.cv (.sc (.int .i64 150)))))⟩,
  ⟨none, (some 26), (.pick (.t 18) (.c (.cv (.sc (.bool true)))) (.t 25))⟩])
  (.cond (.t 26)
  (.seq (.reg [
  ⟨none, (some 27), (.mv (.t 4))⟩,
  ⟨none, (some 2), (.mv (.t 27))⟩])
  .ret) .skip))
def f39_1 : IR :=

  (.seq
  (.seq (.reg [
  ⟨none, (some 5), (.mv (.t 4))⟩,
  ⟨none, (some 6), (.mv (.t 0))⟩,
  ⟨none, (some 7), (.len false (.t 6))⟩,
  ⟨none, (some 8), (.bin .lss (.t 5) (.t 7))⟩])
  (.cond (.t 8) .skip (.exit 0)))

  (.seq (.block 1
  (.seq f39_0

  (.seq (.reg [
  ⟨none, (some 28), (.mv (.t 3))⟩,
  ⟨none, (some 29), (.mv (.t 0))⟩,
  ⟨none, (some 30), (.mv (.t 4))⟩,
  ⟨none, (some 31), (.iadL 2 (.t 29) (.t 30))⟩,
  ⟨none, (some 32), (.ld true 2 (.t 31))⟩,
  ⟨none, (some 33), (.call 48 true [(.t 32)])⟩,
  ⟨none, (some 34), (.len false (.t 33))⟩,
  ⟨none, (some 35), (.bin .add (.c (.cv (.sc (.int .i64 1)))) (.t 34))⟩,
  ⟨none, (some 36), (.bin .add (.t 28) (.t 35))⟩,
  ⟨none, (some 3), (.mv (.t 36))⟩])

  (.seq (.reg [
  ⟨none, (some 37), (.mv (.t 3))⟩,
  ⟨none, (some 38), (.bin .gtr (.t 37) (.c (.cv (.sc (.int .i64 250)))))⟩])
  (.cond (.t 38)
  (.seq (.reg [
  ⟨none, (some 39), (.mv (.t 4))⟩,
  ⟨none, (some 2), (.mv (.t 39))⟩])
  .ret) .skip)))))
  (.reg [
  ⟨none, (some 9), (.mv (.t 4))⟩,
  ⟨none, (some 10), (.bin .add (.t 9) (.c (.cv (.sc (.int .i64 1)))))⟩,
  ⟨none, (some 4), (.mv (.t 10))⟩])))
def f39 : FnIR := ⟨42, [(.t 2)],

  (.seq (.reg [
  ⟨none, (some 2), (.mv (.c (.cv (.sc (.int .i64 0)))))⟩])

  (.seq (.reg [
  ⟨none, (some 3), (.mv (.c (.cv (.sc (.int .i64 0)))))⟩])

  (.seq
  (.seq (.reg [
  ⟨none, (some 4), (.mv (.c (.cv (.sc (.int .i64 0)))))⟩])
  (.block 0 (.loop f39_1)))

  (.seq (.reg [
  ⟨none, (some 40), (.mv (.t 0))⟩,
  ⟨none, (some 41), (.len false (.t 40))⟩,
  ⟨none, (some 2), (.mv (.t 41))⟩])
  .ret))))⟩
theorem f39_ok : compF Proofs.Try.prog [] [] Proofs.Try.f39 = some f39 := by kernel_rfl

def f40_0 : IR :=

  (.seq (.reg [
  ⟨none, (some 11), (.mv (.t 0))⟩,
  ⟨none, (some 12), (.bin .lss (.t 11) (.c (.cv (.sc (.int .i64 0)))))⟩,
  ⟨none, (some 13), (.mv (.t 12))⟩,
  ⟨(some (13, false)), (some 14), (.mv (.t 0))⟩,
  ⟨(some (13, false)), (some 15), (.bin .gtr (.t 14) (.c (.cv (.sc (.int .i64 4)))))⟩,
  ⟨none, (some 16), (.pick (.t 13) (.c (.cv (.sc (.bool true)))) (.t 15))⟩,
  ⟨none, (some 17), (.mv (.t 16))⟩,
  ⟨(some (17, false)), (some 18), (.mv (.t 1))⟩,
  ⟨(some (17, false)), (some 19), (.call 39 true [(.t 18)])⟩,
  ⟨(some (17, false)), (some 20), (.mv (.t 1))⟩,
  ⟨(some (17, false)), (some 21), (.len false (.t 20))⟩,
  ⟨(some (17, false)), (some 22), (.bin .lss (.t 19) (.t 21))⟩,
  ⟨none, (some 23), (.pick (.t 17) (.c (.cv (.sc (.bool true)))) (.t 22))⟩])
  (.cond (.t 23)
  (.seq (.reg [
  ⟨none, (some 4), (.mv (.c (.cv (.sc (.slice none 0 0)))))⟩,
  ⟨none, (some 5), (.mv (.c (.cv (.sc (.bool false)))))⟩])
  .ret) .skip))
def f40_1 : IR :=

  (.seq
  (.seq (.reg [
  ⟨none, (some 55), (.mv (.t 10))⟩,
  ⟨none, (some 56), (.mv (.t 9))⟩,
  ⟨none, (some 57), (.len false (.t 56))⟩,
  ⟨none, (some 58), (.bin .lss (.t 55) (.t 57))⟩])
  (.cond (.t 58) .skip (.exit 2)))

  (.seq (.block 3 (.reg [
  ⟨none, (some 61), (.mv (.t 6))⟩,
  ⟨none, (some 62), (.mv (.t 7))⟩,
  ⟨none, (some 63), (.mv (.t 10))⟩,
  ⟨none, (some 64), (.bin .add (.t 62) (.t 63))⟩,
  ⟨none, (some 65), (.mv (.t 9))⟩,
  ⟨none, (some 66), (.mv (.t 10))⟩,
  ⟨none, (some 67), (.iadL 1 (.t 65) (.t 66))⟩,
  ⟨none, (some 68), (.ld false 1 (.t 67))⟩,
  ⟨none, (some 69), (.iadL 1 (.t 61) (.t 64))⟩,
  ⟨none, none, (.st 1 (.t 69) (.t 68))⟩]))
  (.reg [
  ⟨none, (some 59), (.mv (.t 10))⟩,
  ⟨none, (some 60), (.bin .add (.t 59) (.c (.cv (.sc (.int .i64 1)))))⟩,
  ⟨none, (some 10), (.mv (.t 60))⟩])))
def f40_2 : IR :=

  (.seq
  (.seq (.reg [
  ⟨none, (some 34), (.mv (.t 8))⟩,
  ⟨none, (some 35), (.mv (.t 1))⟩,
  ⟨none, (some 36), (.len false (.t 35))⟩,
  ⟨none, (some 37), (.bin .lss (.t 34) (.t 36))⟩])
  (.cond (.t 37) .skip (.exit 0)))

  (.seq (.block 1
  (.seq (.reg [
  ⟨none, (some 40), (.mv (.t 1))⟩,
  ⟨none, (some 41), (.mv (.t 8))⟩,
  ⟨none, (some 42), (.iadL 2 (.t 40) (.t 41))⟩,
  ⟨none, (some 43), (.ld true 2 (.t 42))⟩,
  ⟨none, (some 44), (.call 48 true [(.t 43)])⟩,
  ⟨none, (some 9), (.mv (.t 44))⟩])

  (.seq (.reg [
  ⟨none, (some 45), (.mv (.t 7))⟩,
  ⟨none, (some 46), (.mv (.t 9))⟩,
  ⟨none, (some 47), (.len false (.t 46))⟩,
  ⟨none, (some 48), (.bin .sub (.t 45) (.t 47))⟩,
  ⟨none, (some 7), (.mv (.t 48))⟩])

  (.seq (.reg [
  ⟨none, (some 49), (.mv (.t 6))⟩,
  ⟨none, (some 50), (.mv (.t 8))⟩,
  ⟨none, (some 51), (.bin .add (.c (.cv (.sc (.int .i64 2)))) (.t 50))⟩,
  ⟨none, (some 52), (.mv (.t 7))⟩,
  ⟨none, (some 53), (.cvI .u8 (.t 52))⟩,
  ⟨none, (some 54), (.iadL 1 (.t 49) (.t 51))⟩,
  ⟨none, none, (.st 1 (.t 54) (.t 53))⟩])

  (.seq (.reg [
  ⟨none, (some 10), (.mv (.c (.cv (.sc (.int .i64 0)))))⟩])
  (.block 2 (.loop f40_1)))))))
  (.reg [
  ⟨none, (some 38), (.mv (.t 8))⟩,
  ⟨none, (some 39), (.bin .add (.t 38) (.c (.cv (.sc (.int .i64 1)))))⟩,
  ⟨none, (some 8), (.mv (.t 39))⟩])))
def f40 : FnIR := ⟨72, [(.t 4), (.t 5)],

  (.seq (.reg [
  ⟨none, (some 4), (.mv (.c (.cv (.sc (.slice none 0 0)))))⟩,
  ⟨none, (some 5), (.mv (.c (.cv (.sc (.bool false)))))⟩])

  (.seq f40_0

  (.seq (.reg [
  ⟨none, (some 24), (.mks 1 1 [(.sc (.int .u8 0))] (.c (.cv (.sc (.int .i64 252)))) (.c (.cv (.sc (.int .i64 252)))) true)⟩,
  ⟨none, (some 6), (.mv (.t 24))⟩])

  (.seq (.reg [
  ⟨none, (some 25), (.mv (.t 6))⟩,
  ⟨none, (some 26), (.mv (.t 0))⟩,
  ⟨none, (some 27), (.cvI .u8 (.t 26))⟩,
  ⟨none, (some 28), (.iadL 1 (.t 25) (.c (.cv (.sc (.int .i64 0)))))⟩,
  ⟨none, none, (.st 1 (.t 28) (.t 27))⟩])

  (.seq (.reg [
  ⟨none, (some 29), (.mv (.t 6))⟩,
  ⟨none, (some 30), (.mv (.t 1))⟩,
  ⟨none, (some 31), (.len false (.t 30))⟩,
  ⟨none, (some 32), (.cvI .u8 (.t 31))⟩,
  ⟨none, (some 33), (.iadL 1 (.t 29) (.c (.cv (.sc (.int .i64 1)))))⟩,
  ⟨none, none, (.st 1 (.t 33) (.t 32))⟩])

  (.seq (.reg [
  ⟨none, (some 7), (.mv (.c (.cv (.sc (.int .i64 252)))))⟩])

  (.seq
  (.seq (.reg [
  ⟨none, (some 8), (.mv (.c (.cv (.sc (.int .i64 0)))))⟩])
  (.block 0 (.loop f40_2)))

  (.seq (.reg [
  ⟨none, (some 70), (.mv (.t 6))⟩,
  ⟨none, (some 71), (.call 49 false [(.t 70)])⟩,
  ⟨none, (some 4), (.mv (.t 71))⟩,
  ⟨none, (some 5), (.mv (.c (.cv (.sc (.bool true)))))⟩])
  .ret))))))))⟩
theorem f40_ok : compF Proofs.Try.prog [49] [(3, 0)] Proofs.Try.f40 = some f40 := by kernel_rfl

def f41_0 : IR :=

  (.seq
  (.seq (.reg [
  ⟨none, (some 7), (.mv (.t 0))⟩,
  ⟨none, (some 8), (.bin .gtr (.t 7) (.c (.cv (.sc (.int .i64 127)))))⟩])
  (.cond (.t 8) .skip (.exit 0)))
  (.block 1
  (.seq (.reg [
  ⟨none, (some 9), (.mv (.t 3))⟩,
  ⟨none, (some 10), (.mv (.t 0))⟩,
  ⟨none, (some 11), (.bin .rem (.t 10) (.c (.cv (.sc (.int .i64 128)))))⟩,
  ⟨none, (some 12), (.bin .add (.c (.cv (.sc (.int .i64 128)))) (.t 11))⟩,
  ⟨none, (some 13), (.cvI .u8 (.t 12))⟩,
  ⟨none, (some 14), (.mksl 1 1 [(.cv (.sc (.int .u8 0)))] [(0, (1, (.t 13)))] false)⟩,
  ⟨none, (some 15), (.app 1 1 [(.sc (.int .u8 0))] (.t 9) (.t 14))⟩,
  ⟨none, (some 3), (.mv (.t 15))⟩])
  (.reg [
  ⟨none, (some 16), (.mv (.t 0))⟩,
  ⟨none, (some 17), (.bin .quo (.t 16) (.c (.cv (.sc (.int .i64 128)))))⟩,
  ⟨none, (some 0), (.mv (.t 17))⟩]))))
def f41 : FnIR := ⟨24, [(.t 2)],

  (.seq (.reg [
  ⟨none, (some 2), (.mv (.c (.cv (.sc (.slice none 0 0)))))⟩])

  (.seq (.reg [
  ⟨none, (some 4), (.mv (.t 0))⟩,
  ⟨none, (some 5), (.mnmx true [(.t 4), (.c (.cv (.sc (.int .i64 9007199254740992))))])⟩,
  ⟨none, (some 6), (.mnmx false [(.c (.cv (.sc (.int .i64 0)))), (.t 5)])⟩,
  ⟨none, (some 0), (.mv (.t 6))⟩])

  (.seq (.reg [
  ⟨none, (some 3), (.mv (.c (.cv (.sc (.slice none 0 0)))))⟩])

  (.seq (.block 0 (.loop f41_0))

  (.seq (.reg [
  ⟨none, (some 18), (.mv (.t 3))⟩,
  ⟨none, (some 19), (.mv (.t 0))⟩,
  ⟨none, (some 20), (.cvI .u8 (.t 19))⟩,
  ⟨none, (some 21), (.mksl 1 1 [(.cv (.sc (.int .u8 0)))] [(0, (1, (.t 20)))] false)⟩,
  ⟨none, (some 22), (.app 1 1 [(.sc (.int .u8 0))] (.t 18) (.t 21))⟩,
  ⟨none, (some 3), (.mv (.t 22))⟩])

  (.seq (.reg [
  ⟨none, (some 23), (.mv (.t 3))⟩,
  ⟨none, (some 2), (.mv (.t 23))⟩])
  .ret))))))⟩
theorem f41_ok : compF Proofs.Try.prog [] [] Proofs.Try.f41 = some f41 := by kernel_rfl

def f42_0 : IR :=

  (.seq (.reg [
  ⟨none, (some 6), (.mv (.t 0))⟩,
  ⟨none, (some 7), (.ld false 1 (.t 1))⟩,
  ⟨none, (some 8), (.mv (.t 3))⟩,
  ⟨none, (some 9), (.slL 2 (.t 7) none (some (.t 8)) none)⟩,
  ⟨none, (some 10), (.callv false (.t 6) [(.t 9)])⟩,
  ⟨none, (some 11), (.un .not (.t 10))⟩,
  ⟨none, (some 12), (.mv (.t 11))⟩,
  ⟨(some (12, false)), (some 13), (.mv (.t 3))⟩,
  ⟨(some (12, false)), (some 14), (.bin .eql (.t 13) (.c (.cv (.sc (.int .i64 0)))))⟩,
  ⟨none, (some 15), (.pick (.t 12) (.c (.cv (.sc (.bool true)))) (.t 14))⟩,
  ⟨none, (some 16), (.mv (.t 15))⟩,
  ⟨(some (16, false)), (some 17), (.mv (.t 3))⟩,
  ⟨(some (16, false)), (some 18), (.ld false 1 (.t 1))⟩,
  ⟨(some (16, false)), (some 19), (.len false (.t 18))⟩,
  ⟨(some (16, false)), (some 20), (.bin .eql (.t 17) (.t 19))⟩,
  ⟨none, (some 21), (.pick (.t 16) (.c (.cv (.sc (.bool true)))) (.t 20))⟩])
  (.cond (.t 21) .ret .skip))
def f42_1 : IR :=
  (.block 1
  (.seq (.reg [
  ⟨none, (some 4), (.ld false 1 (.t 1))⟩,
  ⟨none, (some 5), (.call 43 true [(.t 4)])⟩,
  ⟨none, (some 3), (.mv (.t 5))⟩])

  (.seq f42_0
  (.reg [
  ⟨none, (some 22), (.ld false 1 (.t 1))⟩,
  ⟨none, (some 23), (.mv (.t 3))⟩,
  ⟨none, (some 24), (.slL 2 (.t 22) (some (.t 23)) none none)⟩,
  ⟨none, none, (.st 1 (.t 1) (.t 24))⟩]))))
def f42 : FnIR := ⟨25, [],
  (.block 0 (.loop f42_1))⟩
theorem f42_ok : compF Proofs.Try.prog [3000000] [] Proofs.Try.f42 = some f42 := by kernel_rfl

def f43_0 : IR :=
  (.cond (.t 9) .skip (.exit 0))
def f43_1 : IR :=

  (.seq (.reg [
  ⟨none, (some 13), (.fad 0 (.t 5))⟩,
  ⟨none, (some 14), (.ld false 1 (.t 13))⟩,
  ⟨none, (some 15), (.len true (.t 14))⟩,
  ⟨none, (some 16), (.bin .gtr (.t 15) (.c (.cv (.sc (.int .i64 30)))))⟩,
  ⟨none, (some 17), (.mv (.t 16))⟩,
  ⟨(some (17, false)), (some 18), (.fad 1 (.t 5))⟩,
  ⟨(some (17, false)), (some 19), (.ld false 1 (.t 18))⟩,
  ⟨(some (17, false)), (some 20), (.len false (.t 19))⟩,
  ⟨(some (17, false)), (some 21), (.bin .gtr (.t 20) (.c (.cv (.sc (.int .i64 150)))))⟩,
  ⟨none, (some 22), (.pick (.t 17) (.c (.cv (.sc (.bool true)))) (.t 21))⟩])
  (.cond (.t 22)
  (.seq (.reg [
  ⟨none, (some 23), (.mv (.t 4))⟩,
  ⟨none, (some 2), (.mv (.t 23))⟩])
  .ret) .skip))
def f43_2 : IR :=

  (.seq (.reg [
  ⟨none, (some 9), (.bin .lss (.t 8) (.t 7))⟩])

  (.seq f43_0

  (.seq (.block 1
  (.seq (.reg [
  ⟨none, (some 10), (.mv (.t 8))⟩,
  ⟨none, (some 11), (.iadL 2 (.t 6) (.t 8))⟩,
  ⟨none, (some 12), (.ld true 2 (.t 11))⟩,
  ⟨none, (some 5), (.alloc [(.cv (.sc (.string ⟨#[]⟩))), (.cv (.sc (.slice none 0 0)))])⟩,
  ⟨none, (some 4), (.mv (.t 10))⟩,
  ⟨none, none, (.st 2 (.t 5) (.t 12))⟩])

  (.seq f43_1

  (.seq (.reg [
  ⟨none, (some 24), (.mv (.t 3))⟩,
  ⟨none, (some 25), (.ld true 2 (.t 5))⟩,
  ⟨none, (some 26), (.call 44 true [(.t 25)])⟩,
  ⟨none, (some 27), (.len false (.t 26))⟩,
  ⟨none, (some 28), (.bin .add (.c (.cv (.sc (.int .i64 1)))) (.t 27))⟩,
  ⟨none, (some 29), (.bin .add (.t 24) (.t 28))⟩,
  ⟨none, (some 3), (.mv (.t 29))⟩])

  (.seq (.reg [
  ⟨none, (some 30), (.mv (.t 3))⟩,
  ⟨none, (some 31), (.bin .gtr (.t 30) (.c (.cv (.sc (.int .i64 250)))))⟩])
  (.cond (.t 31)
  (.seq (.reg [
  ⟨none, (some 32), (.mv (.t 4))⟩,
  ⟨none, (some 2), (.mv (.t 32))⟩])
  .ret) .skip))))))
  (.reg [
  ⟨none, (some 33), (.bin .add (.t 8) (.c (.cv (.sc (.int .i64 1)))))⟩,
  ⟨none, (some 8), (.mv (.t 33))⟩]))))
def f43 : FnIR := ⟨36, [(.t 2)],

  (.seq (.reg [
  ⟨none, (some 2), (.mv (.c (.cv (.sc (.int .i64 0)))))⟩])

  (.seq (.reg [
  ⟨none, (some 3), (.mv (.c (.cv (.sc (.int .i64 0)))))⟩])

  (.seq
  (.seq (.reg [
  ⟨none, (some 6), (.mv (.t 0))⟩,
  ⟨none, (some 7), (.len false (.t 6))⟩,
  ⟨none, (some 8), (.mv (.c (.cv (.sc (.int .i64 0)))))⟩])
  (.block 0 (.loop f43_2)))

  (.seq (.reg [
  ⟨none, (some 34), (.mv (.t 0))⟩,
  ⟨none, (some 35), (.len false (.t 34))⟩,
  ⟨none, (some 2), (.mv (.t 35))⟩])
  .ret))))⟩
theorem f43_ok : compF Proofs.Try.prog [] [] Proofs.Try.f43 = some f43 := by kernel_rfl

def f44 : FnIR := ⟨11, [(.t 2)],

  (.seq (.reg [
  ⟨none, (some 1), (.box 2 (.t 0))⟩,
  ⟨none, (some 2), (.mv (.c (.cv (.sc (.slice none 0 0)))))⟩])

  (.seq (.draw [(
  ⟨none, (some 3), (.fad 0 (.t 1))⟩, .p), (
  ⟨none, (some 4), (.ld false 1 (.t 3))⟩, (.r 0 0)), (
  ⟨none, (some 5), (.call 50 false [(.t 4)])⟩, .k), (
  ⟨none, (some 6), (.fad 1 (.t 1))⟩, .p), (
  ⟨none, (some 7), (.ld false 1 (.t 6))⟩, (.r 0 1)), (
  ⟨none, (some 8), (.cvBS (.t 7))⟩, (.r 0 1)), (
  ⟨none, (some 9), (.call 50 false [(.t 8)])⟩, .k), (
  ⟨none, (some 10), (.app 1 1 [(.sc (.int .u8 0))] (.t 5) (.t 9))⟩, .k), (
  ⟨none, (some 2), (.mv (.t 10))⟩, .p)])
  .ret))⟩
theorem f44_ok : compF Proofs.Try.prog [50] [] Proofs.Try.f44 = some f44 := by kernel_rfl

def f45 : FnIR := ⟨27, [(.t 2)],

  (.seq (.reg [
  ⟨none, (some 2), (.mv (.c (.cv (.sc (.slice none 0 0)))))⟩])

  (.seq (.reg [
  ⟨none, (some 5), (.mv (.t 0))⟩,
  ⟨none, (some 6), (.call 51 true [(.t 5)])⟩,
  ⟨none, (some 3), (.mv (.t 6))⟩])

  (.seq (.reg [
  ⟨none, (some 7), (.mv (.t 0))⟩,
  ⟨none, (some 8), (.len false (.t 7))⟩,
  ⟨none, (some 9), (.bin .add (.t 8) (.c (.cv (.sc (.int .i64 4)))))⟩,
  ⟨none, (some 10), (.mks 1 1 [(.sc (.int .u8 0))] (.c (.cv (.sc (.int .i64 0)))) (.t 9) true)⟩,
  ⟨none, (some 11), (.mv (.t 0))⟩,
  ⟨none, (some 12), (.app 1 1 [(.sc (.int .u8 0))] (.t 10) (.t 11))⟩,
  ⟨none, (some 4), (.mv (.t 12))⟩])

  (.seq (.reg [
  ⟨none, (some 13), (.mv (.t 4))⟩,
  ⟨none, (some 14), (.mv (.t 3))⟩,
  ⟨none, (some 15), (.cvI .u8 (.t 14))⟩,
  ⟨none, (some 16), (.mv (.t 3))⟩,
  ⟨none, (some 17), (.bin .shr (.t 16) (.c (.cv (.sc (.int .u64 8)))))⟩,
  ⟨none, (some 18), (.cvI .u8 (.t 17))⟩,
  ⟨none, (some 19), (.mv (.t 3))⟩,
  ⟨none, (some 20), (.bin .shr (.t 19) (.c (.cv (.sc (.int .u64 16)))))⟩,
  ⟨none, (some 21), (.cvI .u8 (.t 20))⟩,
  ⟨none, (some 22), (.mv (.t 3))⟩,
  ⟨none, (some 23), (.bin .shr (.t 22) (.c (.cv (.sc (.int .u64 24)))))⟩,
  ⟨none, (some 24), (.cvI .u8 (.t 23))⟩,
  ⟨none, (some 25), (.mksl 1 4 [(.cv (.sc (.int .u8 0))), (.cv (.sc (.int .u8 0))), (.cv (.sc (.int .u8 0))), (.cv (.sc (.int .u8 0)))] [(0, (1, (.t 15))), (1, (1, (.t 18))), (2, (1, (.t 21))), (3, (1, (.t 24)))] false)⟩,
  ⟨none, (some 26), (.app 1 1 [(.sc (.int .u8 0))] (.t 13) (.t 25))⟩,
  ⟨none, (some 2), (.mv (.t 26))⟩])
  .ret))))⟩
theorem f45_ok : compF Proofs.Try.prog [] [(2, 3)] Proofs.Try.f45 = some f45 := by kernel_rfl

def f46 : FnIR := ⟨44, [(.t 6), (.t 7), (.t 8)],

  (.seq (.reg [
  ⟨none, (some 6), (.mv (.c (.cv (.sc (.string ⟨#[]⟩)))))⟩,
  ⟨none, (some 7), (.mv (.c (.cv (.sc (.int .i64 0)))))⟩,
  ⟨none, (some 8), (.mv (.c (.cv (.sc (.int .u16 0)))))⟩])

  (.seq (.reg [
  ⟨none, (some 13), (.mv (.t 0))⟩,
  ⟨none, (some 14), (.mv (.t 1))⟩,
  ⟨none, (some 15), (.call 47 true [(.t 13), (.t 14)])⟩,
  ⟨none, (some 12), (.mv (.t 15))⟩,
  ⟨none, (some 16), (.ext (.t 12) 0)⟩,
  ⟨none, (some 17), (.ext (.t 12) 1)⟩,
  ⟨none, (some 18), (.ext (.t 12) 2)⟩,
  ⟨none, (some 9), (.mv (.t 16))⟩,
  ⟨none, (some 10), (.mv (.t 17))⟩,
  ⟨none, (some 11), (.mv (.t 18))⟩])

  (.seq (.block 0
  (.seq (.reg [
  ⟨none, (some 20), (.mv (.t 11))⟩,
  ⟨none, (some 21), (.bin .neq (.t 20) (.c (.cv (.sc (.int .u16 0)))))⟩,
  ⟨none, (some 19), (.mv (.t 21))⟩])
  (.cond (.t 19)
  (.seq (.reg [
  ⟨none, (some 22), (.mv (.t 11))⟩,
  ⟨none, (some 6), (.mv (.c (.cv (.sc (.string ⟨#[]⟩)))))⟩,
  ⟨none, (some 7), (.mv (.c (.cv (.sc (.int .i64 0)))))⟩,
  ⟨none, (some 8), (.mv (.t 22))⟩])
  .ret)
  (.seq (.reg [
  ⟨none, (some 24), (.mv (.t 9))⟩,
  ⟨none, (some 25), (.mv (.t 2))⟩,
  ⟨none, (some 26), (.bin .gtr (.t 24) (.t 25))⟩,
  ⟨none, (some 23), (.mv (.t 26))⟩])
  (.cond (.t 23)
  (.seq (.reg [
  ⟨none, (some 6), (.mv (.c (.cv (.sc (.string ⟨#[]⟩)))))⟩,
  ⟨none, (some 7), (.mv (.c (.cv (.sc (.int .i64 0)))))⟩,
  ⟨none, (some 8), (.mv (.c (.cv (.sc (.int .u16 3)))))⟩])
  .ret)
  (.seq (.reg [
  ⟨none, (some 28), (.mv (.t 9))⟩,
  ⟨none, (some 29), (.mv (.t 0))⟩,
  ⟨none, (some 30), (.len false (.t 29))⟩,
  ⟨none, (some 31), (.mv (.t 10))⟩,
  ⟨none, (some 32), (.bin .sub (.t 30) (.t 31))⟩,
  ⟨none, (some 33), (.bin .gtr (.t 28) (.t 32))⟩,
  ⟨none, (some 27), (.mv (.t 33))⟩])
  (.cond (.t 27)
  (.seq (.reg [
  ⟨none, (some 6), (.mv (.c (.cv (.sc (.string ⟨#[]⟩)))))⟩,
  ⟨none, (some 7), (.mv (.c (.cv (.sc (.int .i64 0)))))⟩,
  ⟨none, (some 8), (.mv (.c (.cv (.sc (.int .u16 10)))))⟩])
  .ret) .skip)))))))

  (.seq (.reg [
  ⟨none, (some 34), (.mv (.t 0))⟩,
  ⟨none, (some 35), (.mv (.t 10))⟩,
  ⟨none, (some 36), (.mv (.t 10))⟩,
  ⟨none, (some 37), (.mv (.t 9))⟩,
  ⟨none, (some 38), (.bin .add (.t 36) (.t 37))⟩,
  ⟨none, (some 39), (.slL 1 (.t 34) (some (.t 35)) (some (.t 38)) none)⟩,
  ⟨none, (some 40), (.cvBS (.t 39))⟩,
  ⟨none, (some 41), (.mv (.t 10))⟩,
  ⟨none, (some 42), (.mv (.t 9))⟩,
  ⟨none, (some 43), (.bin .add (.t 41) (.t 42))⟩,
  ⟨none, (some 6), (.mv (.t 40))⟩,
  ⟨none, (some 7), (.mv (.t 43))⟩,
  ⟨none, (some 8), (.mv (.c (.cv (.sc (.int .u16 0)))))⟩])
  .ret))))⟩
theorem f46_ok : compF Proofs.Try.prog [] [] Proofs.Try.f46 = some f46 := by kernel_rfl

def f47_0 : IR :=

  (.seq
  (.seq (.reg [
  ⟨none, (some 18), (.mv (.t 8))⟩,
  ⟨none, (some 19), (.bin .lss (.t 18) (.c (.cv (.sc (.int .i64 8)))))⟩])
  (.cond (.t 19) .skip (.exit 0)))

  (.seq (.block 1
  (.seq
  (.seq (.reg [
  ⟨none, (some 22), (.mv (.t 1))⟩,
  ⟨none, (some 23), (.mv (.t 8))⟩,
  ⟨none, (some 24), (.bin .add (.t 22) (.t 23))⟩,
  ⟨none, (some 25), (.mv (.t 0))⟩,
  ⟨none, (some 26), (.len false (.t 25))⟩,
  ⟨none, (some 27), (.bin .eql (.t 24) (.t 26))⟩])
  (.cond (.t 27) (.goto 0) .skip))

  (.seq (.reg [
  ⟨none, (some 28), (.mv (.t 0))⟩,
  ⟨none, (some 29), (.mv (.t 1))⟩,
  ⟨none, (some 30), (.mv (.t 8))⟩,
  ⟨none, (some 31), (.bin .add (.t 29) (.t 30))⟩,
  ⟨none, (some 32), (.iadL 1 (.t 28) (.t 31))⟩,
  ⟨none, (some 33), (.ld false 1 (.t 32))⟩,
  ⟨none, (some 9), (.mv (.t 33))⟩])

  (.seq (.reg [
  ⟨none, (some 34), (.mv (.t 7))⟩,
  ⟨none, (some 35), (.mv (.t 9))⟩,
  ⟨none, (some 36), (.bin .and (.t 35) (.c (.cv (.sc (.int .u8 127)))))⟩,
  ⟨none, (some 37), (.cvI .i64 (.t 36))⟩,
  ⟨none, (some 38), (.mv (.t 8))⟩,
  ⟨none, (some 39), (.bin .mul (.c (.cv (.sc (.int .i64 7)))) (.t 38))⟩,
  ⟨none, (some 40), (.bin .shl (.t 37) (.t 39))⟩,
  ⟨none, (some 41), (.bin .or (.t 34) (.t 40))⟩,
  ⟨none, (some 7), (.mv (.t 41))⟩])

  (.seq (.reg [
  ⟨none, (some 42), (.mv (.t 9))⟩,
  ⟨none, (some 43), (.bin .and (.t 42) (.c (.cv (.sc (.int .u8 128)))))⟩,
  ⟨none, (some 44), (.bin .eql (.t 43) (.c (.cv (.sc (.int .u8 0)))))⟩])
  (.cond (.t 44)
  (.seq
  (.seq (.reg [
  ⟨none, (some 45), (.mv (.t 9))⟩,
  ⟨none, (some 46), (.bin .eql (.t 45) (.c (.cv (.sc (.int .u8 0)))))⟩,
  ⟨none, (some 47), (.mv (.t 46))⟩,
  ⟨(some (47, true)), (some 48), (.mv (.t 8))⟩,
  ⟨(some (47, true)), (some 49), (.bin .gtr (.t 48) (.c (.cv (.sc (.int .i64 0)))))⟩,
  ⟨none, (some 50), (.pick (.t 47) (.t 49) (.c (.cv (.sc (.bool false)))))⟩,
  ⟨none, (some 51), (.mv (.t 50))⟩,
  ⟨(some (51, false)), (some 52), (.mv (.t 7))⟩,
  ⟨(some (51, false)), (some 53), (.bin .gtr (.t 52) (.c (.cv (.sc (.int .i64 9007199254740992)))))⟩,
  ⟨none, (some 54), (.pick (.t 51) (.c (.cv (.sc (.bool true)))) (.t 53))⟩])
  (.cond (.t 54) (.goto 1) .skip))

  (.seq (.reg [
  ⟨none, (some 55), (.mv (.t 7))⟩,
  ⟨none, (some 56), (.mv (.t 1))⟩,
  ⟨none, (some 57), (.mv (.t 8))⟩,
  ⟨none, (some 58), (.bin .add (.t 56) (.t 57))⟩,
  ⟨none, (some 59), (.bin .add (.t 58) (.c (.cv (.sc (.int .i64 1)))))⟩,
  ⟨none, (some 4), (.mv (.t 55))⟩,
  ⟨none, (some 5), (.mv (.t 59))⟩,
  ⟨none, (some 6), (.mv (.c (.cv (.sc (.int .u16 0)))))⟩])
  .ret)) .skip))))))
  (.reg [
  ⟨none, (some 20), (.mv (.t 8))⟩,
  ⟨none, (some 21), (.bin .add (.t 20) (.c (.cv (.sc (.int .i64 1)))))⟩,
  ⟨none, (some 8), (.mv (.t 21))⟩])))
def f47_1 : IR :=

  (.seq (.reg [
  ⟨none, (some 7), (.mv (.c (.cv (.sc (.int .i64 0)))))⟩,
  ⟨none, (some 8), (.mv (.c (.cv (.sc (.int .i64 0)))))⟩])

  (.seq
  (.seq (.reg [
  ⟨none, (some 10), (.mv (.t 1))⟩,
  ⟨none, (some 11), (.bin .lss (.t 10) (.c (.cv (.sc (.int .i64 0)))))⟩,
  ⟨none, (some 12), (.mv (.t 11))⟩,
  ⟨(some (12, false)), (some 13), (.mv (.t 1))⟩,
  ⟨(some (12, false)), (some 14), (.mv (.t 0))⟩,
  ⟨(some (12, false)), (some 15), (.len false (.t 14))⟩,
  ⟨(some (12, false)), (some 16), (.bin .gtr (.t 13) (.t 15))⟩,
  ⟨none, (some 17), (.pick (.t 12) (.c (.cv (.sc (.bool true)))) (.t 16))⟩])
  (.cond (.t 17) (.goto 0) .skip))

  (.seq (.block 0 (.loop f47_0))

  (.seq (.label 1)

  (.seq
  (.seq (.reg [
  ⟨none, (some 4), (.mv (.c (.cv (.sc (.int .i64 0)))))⟩,
  ⟨none, (some 5), (.mv (.c (.cv (.sc (.int .i64 0)))))⟩,
  ⟨none, (some 6), (.mv (.c (.cv (.sc (.int .u16 11)))))⟩])
  .ret)

  (.seq (.label 0)

  (.seq (.reg [
  ⟨none, (some 4), (.mv (.c (.cv (.sc (.int .i64 0)))))⟩,
  ⟨none, (some 5), (.mv (.c (.cv (.sc (.int .i64 0)))))⟩,
  ⟨none, (some 6), (.mv (.c (.cv (.sc (.int .u16 10)))))⟩])
  .ret)))))))
def f47 : FnIR := ⟨60, [(.t 4), (.t 5), (.t 6)],

  (.seq (.reg [
  ⟨none, (some 4), (.mv (.c (.cv (.sc (.int .i64 0)))))⟩,
  ⟨none, (some 5), (.mv (.c (.cv (.sc (.int .i64 0)))))⟩,
  ⟨none, (some 6), (.mv (.c (.cv (.sc (.int .u16 0)))))⟩])
  (.scope f47_1))⟩
theorem f47_ok : compF Proofs.Try.prog [] [] Proofs.Try.f47 = some f47 := by kernel_rfl

def f48 : FnIR := ⟨16, [(.t 2)],

  (.seq (.reg [
  ⟨none, (some 1), (.box 2 (.t 0))⟩,
  ⟨none, (some 2), (.mv (.c (.cv (.sc (.slice none 0 0)))))⟩])

  (.seq (.reg [
  ⟨none, (some 5), (.fad 0 (.t 1))⟩,
  ⟨none, (some 6), (.ld false 1 (.t 5))⟩,
  ⟨none, (some 7), (.call 52 false [(.t 6)])⟩,
  ⟨none, (some 3), (.mv (.t 7))⟩])

  (.seq (.reg [
  ⟨none, (some 8), (.fad 1 (.t 1))⟩,
  ⟨none, (some 9), (.ld false 1 (.t 8))⟩,
  ⟨none, (some 10), (.cvBS (.t 9))⟩,
  ⟨none, (some 11), (.call 52 false [(.t 10)])⟩,
  ⟨none, (some 4), (.mv (.t 11))⟩])

  (.seq (.reg [
  ⟨none, (some 12), (.mv (.t 3))⟩,
  ⟨none, (some 13), (.mv (.t 4))⟩,
  ⟨none, (some 14), (.app 1 1 [(.sc (.int .u8 0))] (.t 12) (.t 13))⟩,
  ⟨none, (some 3), (.mv (.t 14))⟩])

  (.seq (.reg [
  ⟨none, (some 15), (.mv (.t 3))⟩,
  ⟨none, (some 2), (.mv (.t 15))⟩])
  .ret)))))⟩
theorem f48_ok : compF Proofs.Try.prog [52] [] Proofs.Try.f48 = some f48 := by kernel_rfl

def f49 : FnIR := ⟨28, [(.t 2)],

  (.seq (.reg [
  ⟨none, (some 2), (.mv (.c (.cv (.sc (.slice none 0 0)))))⟩])

  (.seq (.reg [
  ⟨none, (some 5), (.mv (.t 0))⟩,
  ⟨none, (some 6), (.call 53 true [(.t 5)])⟩,
  ⟨none, (some 3), (.mv (.t 6))⟩])

  (.seq (.reg [
  ⟨none, (some 4), (.mv (.c (.cv (.sc (.slice none 0 0)))))⟩])

  (.seq (.reg [
  ⟨none, (some 7), (.mv (.t 4))⟩,
  ⟨none, (some 8), (.mv (.t 0))⟩,
  ⟨none, (some 9), (.app 1 1 [(.sc (.int .u8 0))] (.t 7) (.t 8))⟩,
  ⟨none, (some 4), (.mv (.t 9))⟩])

  (.seq (.reg [
  ⟨none, (some 10), (.mv (.t 4))⟩,
  ⟨none, (some 11), (.mv (.t 3))⟩,
  ⟨none, (some 12), (.bin .rem (.t 11) (.c (.cv (.sc (.int .u32 256)))))⟩,
  ⟨none, (some 13), (.cvI .u8 (.t 12))⟩,
  ⟨none, (some 14), (.mv (.t 3))⟩,
  ⟨none, (some 15), (.bin .quo (.t 14) (.c (.cv (.sc (.int .u32 256)))))⟩,
  ⟨none, (some 16), (.bin .rem (.t 15) (.c (.cv (.sc (.int .u32 256)))))⟩,
  ⟨none, (some 17), (.cvI .u8 (.t 16))⟩,
  ⟨none, (some 18), (.mv (.t 3))⟩,
  ⟨none, (some 19), (.bin .quo (.t 18) (.c (.cv (.sc (.int .u32 65536)))))⟩,
  ⟨none, (some 20), (.bin .rem (.t 19) (.c (.cv (.sc (.int .u32 256)))))⟩,
  ⟨none, (some 21), (.cvI .u8 (.t 20))⟩,
  ⟨none, (some 22), (.mv (.t 3))⟩,
  ⟨none, (some 23), (.bin .quo (.t 22) (.c (.cv (.sc (.int .u32 16777216)))))⟩,
  ⟨none, (some 24), (.cvI .u8 (.t 23))⟩,
  ⟨none, (some 25), (.mksl 1 4 [(.cv (.sc (.int .u8 0))), (.cv (.sc (.int .u8 0))), (.cv (.sc (.int .u8 0))), (.cv (.sc (.int .u8 0)))] [(0, (1, (.t 13))), (1, (1, (.t 17))), (2, (1, (.t 21))), (3, (1, (.t 24)))] false)⟩,
  ⟨none, (some 26), (.app 1 1 [(.sc (.int .u8 0))] (.t 10) (.t 25))⟩,
  ⟨none, (some 4), (.mv (.t 26))⟩])

  (.seq (.reg [
  ⟨none, (some 27), (.mv (.t 4))⟩,
  ⟨none, (some 2), (.mv (.t 27))⟩])
  .ret))))))⟩
theorem f49_ok : compF Proofs.Try.prog [] [] Proofs.Try.f49 = some f49 := by kernel_rfl

def f50 : FnIR := ⟨8, [(.t 2)],

  (.seq (.reg [
  ⟨none, (some 2), (.mv (.c (.cv (.sc (.slice none 0 0)))))⟩])

  (.seq (.reg [
  ⟨none, (some 3), (.mv (.t 0))⟩,
  ⟨none, (some 4), (.len true (.t 3))⟩,
  ⟨none, (some 5), (.call 33 false [(.t 4)])⟩,
  ⟨none, (some 6), (.mv (.t 0))⟩,
  ⟨none, (some 7), (.app 1 1 [(.sc (.int .u8 0))] (.t 5) (.t 6))⟩,
  ⟨none, (some 2), (.mv (.t 7))⟩])
  .ret))⟩
theorem f50_ok : compF Proofs.Try.prog [33] [] Proofs.Try.f50 = some f50 := by kernel_rfl

def f51 : FnIR := ⟨5, [(.t 2)],

  (.seq (.reg [
  ⟨none, (some 2), (.mv (.c (.cv (.sc (.int .u32 0)))))⟩])

  (.seq (.reg [
  ⟨none, (some 3), (.mv (.t 0))⟩,
  ⟨none, (some 4), (.call 54 true [(.c (.cv (.sc (.int .u32 0)))), (.t 3)])⟩,
  ⟨none, (some 2), (.mv (.t 4))⟩])
  .ret))⟩
theorem f51_ok : compF Proofs.Try.prog [] [] Proofs.Try.f51 = some f51 := by kernel_rfl

def f52 : FnIR := ⟨9, [(.t 2)],

  (.seq (.reg [
  ⟨none, (some 2), (.mv (.c (.cv (.sc (.slice none 0 0)))))⟩])

  (.seq (.reg [
  ⟨none, (some 3), (.mv (.t 0))⟩,
  ⟨none, (some 4), (.len true (.t 3))⟩,
  ⟨none, (some 5), (.call 41 true [(.t 4)])⟩,
  ⟨none, (some 6), (.mv (.t 0))⟩,
  ⟨none, (some 7), (.cvSB false (.t 6))⟩,
  ⟨none, (some 8), (.call 55 false [(.t 5), (.t 7)])⟩,
  ⟨none, (some 2), (.mv (.t 8))⟩])
  .ret))⟩
theorem f52_ok : compF Proofs.Try.prog [55] [] Proofs.Try.f52 = some f52 := by kernel_rfl

def f53 : FnIR := ⟨5, [(.t 2)],

  (.seq (.reg [
  ⟨none, (some 2), (.mv (.c (.cv (.sc (.int .u32 0)))))⟩])

  (.seq (.reg [
  ⟨none, (some 3), (.mv (.t 0))⟩,
  ⟨none, (some 4), (.call 56 true [(.c (.cv (.sc (.int .u32 0)))), (.t 3)])⟩,
  ⟨none, (some 2), (.mv (.t 4))⟩])
  .ret))⟩
theorem f53_ok : compF Proofs.Try.prog [] [] Proofs.Try.f53 = some f53 := by kernel_rfl

def f54_0 : IR :=
  (.cond (.t 14) .skip (.exit 0))
def f54_1 : IR :=

  (.seq (.reg [
  ⟨none, (some 14), (.bin .lss (.t 13) (.t 12))⟩])

  (.seq f54_0

  (.seq (.block 1
  (.seq (.reg [
  ⟨none, (some 15), (.iadL 1 (.t 11) (.t 13))⟩,
  ⟨none, (some 16), (.ld false 1 (.t 15))⟩,
  ⟨none, (some 7), (.mv (.t 16))⟩])
  (.reg [
  ⟨none, (some 17), (.mv (.t 0))⟩,
  ⟨none, (some 18), (.bin .shr (.t 17) (.c (.cv (.sc (.int .u64 8)))))⟩,
  ⟨none, (some 19), (.mv (.t 0))⟩,
  ⟨none, (some 20), (.cvI .u8 (.t 19))⟩,
  ⟨none, (some 21), (.mv (.t 7))⟩,
  ⟨none, (some 22), (.bin .xor (.t 20) (.t 21))⟩,
  ⟨none, (some 23), (.iadA 256 1 (.t 5) (.t 22))⟩,
  ⟨none, (some 24), (.ld false 1 (.t 23))⟩,
  ⟨none, (some 25), (.bin .xor (.t 18) (.t 24))⟩,
  ⟨none, (some 0), (.mv (.t 25))⟩])))
  (.reg [
  ⟨none, (some 26), (.bin .add (.t 13) (.c (.cv (.sc (.int .i64 1)))))⟩,
  ⟨none, (some 13), (.mv (.t 26))⟩]))))
def f54 : FnIR := ⟨29, [(.t 4)],

  (.seq (.reg [
  ⟨none, (some 4), (.mv (.c (.cv (.sc (.int .u32 0)))))⟩])

  (.seq (.reg [
  ⟨none, (some 8), (.call 57 true [])⟩,
  ⟨none, (some 5), (.alloc (List.replicate 256 (.cv (.sc (.int .u32 0)))))⟩,
  ⟨none, none, (.st 256 (.t 5) (.t 8))⟩])

  (.seq (.reg [
  ⟨none, (some 9), (.mv (.t 0))⟩,
  ⟨none, (some 10), (.un .xor (.t 9))⟩,
  ⟨none, (some 0), (.mv (.t 10))⟩])

  (.seq
  (.seq (.reg [
  ⟨none, (some 11), (.mv (.t 1))⟩,
  ⟨none, (some 12), (.len false (.t 11))⟩,
  ⟨none, (some 13), (.mv (.c (.cv (.sc (.int .i64 0)))))⟩])
  (.block 0 (.loop f54_1)))

  (.seq (.reg [
  ⟨none, (some 27), (.mv (.t 0))⟩,
  ⟨none, (some 28), (.un .xor (.t 27))⟩,
  ⟨none, (some 4), (.mv (.t 28))⟩])
  .ret)))))⟩
theorem f54_ok : compF Proofs.Try.prog [] [] Proofs.Try.f54 = some f54 := by kernel_rfl

def f55 : FnIR := ⟨13, [(.t 4)],

  (.seq (.reg [
  ⟨none, (some 4), (.mv (.c (.cv (.sc (.slice none 0 0)))))⟩])

  (.seq (.reg [
  ⟨none, (some 5), (.mv (.c (.cv (.sc (.slice none 0 0)))))⟩])

  (.seq (.reg [
  ⟨none, (some 6), (.mv (.t 5))⟩,
  ⟨none, (some 7), (.mv (.t 0))⟩,
  ⟨none, (some 8), (.app 1 1 [(.sc (.int .u8 0))] (.t 6) (.t 7))⟩,
  ⟨none, (some 5), (.mv (.t 8))⟩])

  (.seq (.reg [
  ⟨none, (some 9), (.mv (.t 5))⟩,
  ⟨none, (some 10), (.mv (.t 1))⟩,
  ⟨none, (some 11), (.app 1 1 [(.sc (.int .u8 0))] (.t 9) (.t 10))⟩,
  ⟨none, (some 5), (.mv (.t 11))⟩])

  (.seq (.reg [
  ⟨none, (some 12), (.mv (.t 5))⟩,
  ⟨none, (some 4), (.mv (.t 12))⟩])
  .ret)))))⟩
theorem f55_ok : compF Proofs.Try.prog [] [] Proofs.Try.f55 = some f55 := by kernel_rfl

def f56_0 : IR :=

  (.seq
  (.seq (.reg [
  ⟨none, (some 22), (.mv (.t 6))⟩,
  ⟨none, (some 23), (.bin .lss (.t 22) (.c (.cv (.sc (.int .i64 8)))))⟩])
  (.cond (.t 23) .skip (.exit 2)))

  (.seq (.block 3
  (.seq (.reg [
  ⟨none, (some 26), (.mv (.t 0))⟩,
  ⟨none, (some 27), (.bin .rem (.t 26) (.c (.cv (.sc (.int .u32 2)))))⟩,
  ⟨none, (some 28), (.bin .eql (.t 27) (.c (.cv (.sc (.int .u32 1)))))⟩])
  (.cond (.t 28) (.reg [
  ⟨none, (some 29), (.mv (.t 0))⟩,
  ⟨none, (some 30), (.bin .quo (.t 29) (.c (.cv (.sc (.int .u32 2)))))⟩,
  ⟨none, (some 31), (.bin .xor (.t 30) (.c (.cv (.sc (.int .u32 3988292384)))))⟩,
  ⟨none, (some 0), (.mv (.t 31))⟩]) (.reg [
  ⟨none, (some 32), (.mv (.t 0))⟩,
  ⟨none, (some 33), (.bin .quo (.t 32) (.c (.cv (.sc (.int .u32 2)))))⟩,
  ⟨none, (some 0), (.mv (.t 33))⟩]))))
  (.reg [
  ⟨none, (some 24), (.mv (.t 6))⟩,
  ⟨none, (some 25), (.bin .add (.t 24) (.c (.cv (.sc (.int .i64 1)))))⟩,
  ⟨none, (some 6), (.mv (.t 25))⟩])))
def f56_1 : IR :=

  (.seq
  (.seq (.reg [
  ⟨none, (some 9), (.mv (.t 5))⟩,
  ⟨none, (some 10), (.mv (.t 1))⟩,
  ⟨none, (some 11), (.len false (.t 10))⟩,
  ⟨none, (some 12), (.bin .lss (.t 9) (.t 11))⟩])
  (.cond (.t 12) .skip (.exit 0)))

  (.seq (.block 1
  (.seq (.reg [
  ⟨none, (some 15), (.mv (.t 0))⟩,
  ⟨none, (some 16), (.mv (.t 1))⟩,
  ⟨none, (some 17), (.mv (.t 5))⟩,
  ⟨none, (some 18), (.iadL 1 (.t 16) (.t 17))⟩,
  ⟨none, (some 19), (.ld false 1 (.t 18))⟩,
  ⟨none, (some 20), (.cvI .u32 (.t 19))⟩,
  ⟨none, (some 21), (.bin .xor (.t 15) (.t 20))⟩,
  ⟨none, (some 0), (.mv (.t 21))⟩])

  (.seq (.reg [
  ⟨none, (some 6), (.mv (.c (.cv (.sc (.int .i64 0)))))⟩])
  (.block 2 (.loop f56_0)))))
  (.reg [
  ⟨none, (some 13), (.mv (.t 5))⟩,
  ⟨none, (some 14), (.bin .add (.t 13) (.c (.cv (.sc (.int .i64 1)))))⟩,
  ⟨none, (some 5), (.mv (.t 14))⟩])))
def f56 : FnIR := ⟨36, [(.t 4)],

  (.seq (.reg [
  ⟨none, (some 4), (.mv (.c (.cv (.sc (.int .u32 0)))))⟩])

  (.seq (.reg [
  ⟨none, (some 7), (.mv (.t 0))⟩,
  ⟨none, (some 8), (.bin .xor (.t 7) (.c (.cv (.sc (.int .u32 4294967295)))))⟩,
  ⟨none, (some 0), (.mv (.t 8))⟩])

  (.seq
  (.seq (.reg [
  ⟨none, (some 5), (.mv (.c (.cv (.sc (.int .i64 0)))))⟩])
  (.block 0 (.loop f56_1)))

  (.seq (.reg [
  ⟨none, (some 34), (.mv (.t 0))⟩,
  ⟨none, (some 35), (.bin .xor (.t 34) (.c (.cv (.sc (.int .u32 4294967295)))))⟩,
  ⟨none, (some 4), (.mv (.t 35))⟩])
  .ret))))⟩
theorem f56_ok : compF Proofs.Try.prog [] [] Proofs.Try.f56 = some f56 := by kernel_rfl

def f57_0 : IR :=
  (.cond (.t 5) .skip (.exit 0))
def f57_1 : IR :=
  (.cond (.t 10) .skip (.exit 2))
def f57_2 : IR :=

  (.seq (.reg [
  ⟨none, (some 10), (.bin .lss (.t 9) (.c (.cv (.sc (.int .i64 8)))))⟩])

  (.seq f57_1

  (.seq (.block 3 (.reg [
  ⟨none, (some 11), (.mv (.t 3))⟩,
  ⟨none, (some 12), (.bin .shr (.t 11) (.c (.cv (.sc (.int .u64 1)))))⟩,
  ⟨none, (some 13), (.mv (.t 3))⟩,
  ⟨none, (some 14), (.bin .and (.t 13) (.c (.cv (.sc (.int .u32 1)))))⟩,
  ⟨none, (some 15), (.bin .mul (.c (.cv (.sc (.int .u32 3988292384)))) (.t 14))⟩,
  ⟨none, (some 16), (.bin .xor (.t 12) (.t 15))⟩,
  ⟨none, (some 3), (.mv (.t 16))⟩]))
  (.reg [
  ⟨none, (some 17), (.bin .add (.t 9) (.c (.cv (.sc (.int .i64 1)))))⟩,
  ⟨none, (some 9), (.mv (.t 17))⟩]))))
def f57_3 : IR :=

  (.seq (.reg [
  ⟨none, (some 5), (.bin .lss (.t 4) (.c (.cv (.sc (.int .i64 256)))))⟩])

  (.seq f57_0

  (.seq (.block 1
  (.seq (.reg [
  ⟨none, (some 6), (.mv (.t 4))⟩,
  ⟨none, (some 2), (.mv (.t 6))⟩])

  (.seq (.reg [
  ⟨none, (some 7), (.mv (.t 2))⟩,
  ⟨none, (some 8), (.cvI .u32 (.t 7))⟩,
  ⟨none, (some 3), (.mv (.t 8))⟩])

  (.seq
  (.seq (.reg [
  ⟨none, (some 9), (.mv (.c (.cv (.sc (.int .i64 0)))))⟩])
  (.block 2 (.loop f57_2)))
  (.reg [
  ⟨none, (some 18), (.mv (.t 2))⟩,
  ⟨none, (some 19), (.mv (.t 3))⟩,
  ⟨none, (some 20), (.iadA 256 1 (.t 1) (.t 18))⟩,
  ⟨none, none, (.st 1 (.t 20) (.t 19))⟩])))))
  (.reg [
  ⟨none, (some 21), (.bin .add (.t 4) (.c (.cv (.sc (.int .i64 1)))))⟩,
  ⟨none, (some 4), (.mv (.t 21))⟩]))))
def f57 : FnIR := ⟨23, [(.cell 0 true 256)],

  (.seq (.reg [
  ⟨none, (some 0), (.alloc (List.replicate 256 (.cv (.sc (.int .u32 0)))))⟩])

  (.seq (.reg [
  ⟨none, (some 1), (.alloc (List.replicate 256 (.cv (.sc (.int .u32 0)))))⟩])

  (.seq
  (.seq (.reg [
  ⟨none, (some 4), (.mv (.c (.cv (.sc (.int .i64 0)))))⟩])
  (.block 0 (.loop f57_3)))

  (.seq (.reg [
  ⟨none, (some 22), (.ld true 256 (.t 1))⟩,
  ⟨none, none, (.st 256 (.t 0) (.t 22))⟩])
  .ret))))⟩
theorem f57_ok : compF Proofs.Try.prog [] [] Proofs.Try.f57 = some f57 := by kernel_rfl


def F : Nat → Option FnIR := fun n => match n with
  | 3 => some f3
  | 4 => some f4
  | 5 => some f5
  | 6 => some f6
  | 7 => some f7
  | 8 => some f8
  | 9 => some f9
  | 10 => some f10
  | 11 => some f11
  | 12 => some f12
  | 13 => some f13
  | 14 => some f14
  | 15 => some f15
  | 16 => some f16
  | 17 => some f17
  | 18 => some f18
  | 19 => some f19
  | 20 => some f20
  | 21 => some f21
  | 22 => some f22
  | 23 => some f23
  | 24 => some f24
  | 25 => some f25
  | 26 => some f26
  | 27 => some f27
  | 28 => some f28
  | 29 => some f29
  | 30 => some f30
  | 31 => some f31
  | 32 => some f32
  | 33 => some f33
  | 34 => some f34
  | 35 => some f35
  | 36 => some f36
  | 37 => some f37
  | 38 => some f38
  | 39 => some f39
  | 40 => some f40
  | 41 => some f41
  | 42 => some f42
  | 43 => some f43
  | 44 => some f44
  | 45 => some f45
  | 46 => some f46
  | 47 => some f47
  | 48 => some f48
  | 49 => some f49
  | 50 => some f50
  | 51 => some f51
  | 52 => some f52
  | 53 => some f53
  | 54 => some f54
  | 55 => some f55
  | 56 => some f56
  | 57 => some f57
  | _ => none

theorem tbl : TblOK Proofs.Try.prog F := by
  refine ⟨by kernel_rfl, fun f fn h => ?_⟩
  unfold F at h
  split at h
  · cases h; exact ⟨by decide, _, _, _, Proofs.Try.func3, by kernel_rfl, f3_ok⟩
  · cases h; exact ⟨by decide, _, _, _, Proofs.Try.func4, by kernel_rfl, f4_ok⟩
  · cases h; exact ⟨by decide, _, _, _, Proofs.Try.func5, by kernel_rfl, f5_ok⟩
  · cases h; exact ⟨by decide, _, _, _, Proofs.Try.func6, by kernel_rfl, f6_ok⟩
  · cases h; exact ⟨by decide, _, _, _, Proofs.Try.func7, by kernel_rfl, f7_ok⟩
  · cases h; exact ⟨by decide, _, _, _, Proofs.Try.func8, by kernel_rfl, f8_ok⟩
  · cases h; exact ⟨by decide, _, _, _, Proofs.Try.func9, by kernel_rfl, f9_ok⟩
  · cases h; exact ⟨by decide, _, _, _, Proofs.Try.func10, by kernel_rfl, f10_ok⟩
  · cases h; exact ⟨by decide, _, _, _, Proofs.Try.func11, by kernel_rfl, f11_ok⟩
  · cases h; exact ⟨by decide, _, _, _, Proofs.Try.func12, by kernel_rfl, f12_ok⟩
  · cases h; exact ⟨by decide, _, _, _, Proofs.Try.func13, by kernel_rfl, f13_ok⟩
  · cases h; exact ⟨by decide, _, _, _, Proofs.Try.func14, by kernel_rfl, f14_ok⟩
  · cases h; exact ⟨by decide, _, _, _, Proofs.Try.func15, by kernel_rfl, f15_ok⟩
  · cases h; exact ⟨by decide, _, _, _, Proofs.Try.func16, by kernel_rfl, f16_ok⟩
  · cases h; exact ⟨by decide, _, _, _, Proofs.Try.func17, by kernel_rfl, f17_ok⟩
  · cases h; exact ⟨by decide, _, _, _, Proofs.Try.func18, by kernel_rfl, f18_ok⟩
  · cases h; exact ⟨by decide, _, _, _, Proofs.Try.func19, by kernel_rfl, f19_ok⟩
  · cases h; exact ⟨by decide, _, _, _, Proofs.Try.func20, by kernel_rfl, f20_ok⟩
  · cases h; exact ⟨by decide, _, _, _, Proofs.Try.func21, by kernel_rfl, f21_ok⟩
  · cases h; exact ⟨by decide, _, _, _, Proofs.Try.func22, by kernel_rfl, f22_ok⟩
  · cases h; exact ⟨by decide, _, _, _, Proofs.Try.func23, by kernel_rfl, f23_ok⟩
  · cases h; exact ⟨by decide, _, _, _, Proofs.Try.func24, by kernel_rfl, f24_ok⟩
  · cases h; exact ⟨by decide, _, _, _, Proofs.Try.func25, by kernel_rfl, f25_ok⟩
  · cases h; exact ⟨by decide, _, _, _, Proofs.Try.func26, by kernel_rfl, f26_ok⟩
  · cases h; exact ⟨by decide, _, _, _, Proofs.Try.func27, by kernel_rfl, f27_ok⟩
  · cases h; exact ⟨by decide, _, _, _, Proofs.Try.func28, by kernel_rfl, f28_ok⟩
  · cases h; exact ⟨by decide, _, _, _, Proofs.Try.func29, by kernel_rfl, f29_ok⟩
  · cases h; exact ⟨by decide, _, _, _, Proofs.Try.func30, by kernel_rfl, f30_ok⟩
  · cases h; exact ⟨by decide, _, _, _, Proofs.Try.func31, by kernel_rfl, f31_ok⟩
  · cases h; exact ⟨by decide, _, _, _, Proofs.Try.func32, by kernel_rfl, f32_ok⟩
  · cases h; exact ⟨by decide, _, _, _, Proofs.Try.func33, by kernel_rfl, f33_ok⟩
  · cases h; exact ⟨by decide, _, _, _, Proofs.Try.func34, by kernel_rfl, f34_ok⟩
  · cases h; exact ⟨by decide, _, _, _, Proofs.Try.func35, by kernel_rfl, f35_ok⟩
  · cases h; exact ⟨by decide, _, _, _, Proofs.Try.func36, by kernel_rfl, f36_ok⟩
  · cases h; exact ⟨by decide, _, _, _, Proofs.Try.func37, by kernel_rfl, f37_ok⟩
  · cases h; exact ⟨by decide, _, _, _, Proofs.Try.func38, by kernel_rfl, f38_ok⟩
  · cases h; exact ⟨by decide, _, _, _, Proofs.Try.func39, by kernel_rfl, f39_ok⟩
  · cases h; exact ⟨by decide, _, _, _, Proofs.Try.func40, by kernel_rfl, f40_ok⟩
  · cases h; exact ⟨by decide, _, _, _, Proofs.Try.func41, by kernel_rfl, f41_ok⟩
  · cases h; exact ⟨by decide, _, _, _, Proofs.Try.func42, by kernel_rfl, f42_ok⟩
  · cases h; exact ⟨by decide, _, _, _, Proofs.Try.func43, by kernel_rfl, f43_ok⟩
  · cases h; exact ⟨by decide, _, _, _, Proofs.Try.func44, by kernel_rfl, f44_ok⟩
  · cases h; exact ⟨by decide, _, _, _, Proofs.Try.func45, by kernel_rfl, f45_ok⟩
  · cases h; exact ⟨by decide, _, _, _, Proofs.Try.func46, by kernel_rfl, f46_ok⟩
  · cases h; exact ⟨by decide, _, _, _, Proofs.Try.func47, by kernel_rfl, f47_ok⟩
  · cases h; exact ⟨by decide, _, _, _, Proofs.Try.func48, by kernel_rfl, f48_ok⟩
  · cases h; exact ⟨by decide, _, _, _, Proofs.Try.func49, by kernel_rfl, f49_ok⟩
  · cases h; exact ⟨by decide, _, _, _, Proofs.Try.func50, by kernel_rfl, f50_ok⟩
  · cases h; exact ⟨by decide, _, _, _, Proofs.Try.func51, by kernel_rfl, f51_ok⟩
  · cases h; exact ⟨by decide, _, _, _, Proofs.Try.func52, by kernel_rfl, f52_ok⟩
  · cases h; exact ⟨by decide, _, _, _, Proofs.Try.func53, by kernel_rfl, f53_ok⟩
  · cases h; exact ⟨by decide, _, _, _, Proofs.Try.func54, by kernel_rfl, f54_ok⟩
  · cases h; exact ⟨by decide, _, _, _, Proofs.Try.func55, by kernel_rfl, f55_ok⟩
  · cases h; exact ⟨by decide, _, _, _, Proofs.Try.func56, by kernel_rfl, f56_ok⟩
  · cases h; exact ⟨by decide, _, _, _, Proofs.Try.func57, by kernel_rfl, f57_ok⟩
  · cases h

end Go.V06
