/-
  Chapter 01: the program's functions, as the small code (printed by a program of ours, checked by the kernel).
-/
import Derived.Test.YtpingdgbndmcnaaVmAll1
import Derived.Test.YtpingdgbndmcnaaProg
namespace Go.V01
open Go Go.Vm

def f3 : FnIR := ⟨112, [(.t 6)],

  (.seq (.reg [
  ⟨none, (some 6), (.mv (.c (.cv (.sc (.bool false)))))⟩])

  (.seq
  (.seq (.reg [
  ⟨none, (some 22), (.mv (.t 1))⟩,
  ⟨none, (some 23), (.len true (.t 22))⟩,
  ⟨none, (some 24), (.bin .gtr (.t 23) (.c (.cv (.sc (.int .i64 200)))))⟩])
  (.cond (.t 24)
  (.seq (.reg [
  ⟨none, (some 25), (.call 11 true [])⟩,
  ⟨none, (some 6), (.mv (.t 25))⟩])
  .ret) .skip))

  (.seq (.reg [
  ⟨none, (some 26), (.mv (.t 0))⟩,
  ⟨none, (some 27), (.call 12 true [(.t 26)])⟩,
  ⟨none, (some 7), (.mv (.t 27))⟩])

  (.seq
  (.seq (.reg [
  ⟨none, (some 28), (.mv (.t 7))⟩,
  ⟨none, (some 29), (.len false (.t 28))⟩,
  ⟨none, (some 30), (.bin .eql (.t 29) (.c (.cv (.sc (.int .i64 0)))))⟩])
  (.cond (.t 30)
  (.seq (.reg [
  ⟨none, (some 6), (.mv (.c (.cv (.sc (.bool false)))))⟩])
  .ret) .skip))

  (.seq (.reg [
  ⟨none, (some 32), (.mv (.t 7))⟩,
  ⟨none, (some 33), (.mv (.t 7))⟩,
  ⟨none, (some 34), (.len false (.t 33))⟩,
  ⟨none, (some 35), (.bin .sub (.t 34) (.c (.cv (.sc (.int .i64 1)))))⟩,
  ⟨none, (some 36), (.slL 1 (.t 32) none (some (.t 35)) none)⟩,
  ⟨none, (some 37), (.call 13 true [(.t 36), (.c (.cv (.sc (.int .i64 0))))])⟩,
  ⟨none, (some 31), (.mv (.t 37))⟩,
  ⟨none, (some 38), (.ext (.t 31) 0)⟩,
  ⟨none, (some 39), (.ext (.t 31) 1)⟩,
  ⟨none, (some 40), (.ext (.t 31) 2)⟩,
  ⟨none, (some 8), (.mv (.t 38))⟩,
  ⟨none, (some 9), (.mv (.t 39))⟩,
  ⟨none, (some 10), (.mv (.t 40))⟩])

  (.seq (.reg [
  ⟨none, (some 41), (.mv (.t 1))⟩,
  ⟨none, (some 42), (.call 14 true [(.t 41)])⟩,
  ⟨none, (some 11), (.mv (.t 42))⟩])

  (.seq (.reg [
  ⟨none, (some 44), (.mv (.t 11))⟩,
  ⟨none, (some 45), (.mv (.t 11))⟩,
  ⟨none, (some 46), (.len false (.t 45))⟩,
  ⟨none, (some 47), (.bin .sub (.t 46) (.c (.cv (.sc (.int .i64 1)))))⟩,
  ⟨none, (some 48), (.slL 1 (.t 44) none (some (.t 47)) none)⟩,
  ⟨none, (some 49), (.call 15 true [(.t 48), (.c (.cv (.sc (.int .i64 0)))), (.c (.cv (.sc (.int .i64 1000))))])⟩,
  ⟨none, (some 43), (.mv (.t 49))⟩,
  ⟨none, (some 50), (.ext (.t 43) 0)⟩,
  ⟨none, (some 51), (.ext (.t 43) 1)⟩,
  ⟨none, (some 52), (.ext (.t 43) 2)⟩,
  ⟨none, (some 12), (.mv (.t 50))⟩,
  ⟨none, (some 13), (.mv (.t 51))⟩,
  ⟨none, (some 14), (.mv (.t 52))⟩])

  (.seq (.reg [
  ⟨none, (some 15), (.mv (.c (.cv (.sc (.slice none 0 0)))))⟩])

  (.seq (.reg [
  ⟨none, (some 53), (.mv (.t 15))⟩,
  ⟨none, (some 54), (.mv (.t 7))⟩,
  ⟨none, (some 55), (.app 1 1 [(.sc (.int .u8 0))] (.t 53) (.t 54))⟩,
  ⟨none, (some 15), (.mv (.t 55))⟩])

  (.seq (.reg [
  ⟨none, (some 56), (.mv (.t 15))⟩,
  ⟨none, (some 57), (.mv (.t 15))⟩,
  ⟨none, (some 58), (.len false (.t 57))⟩,
  ⟨none, (some 59), (.bin .sub (.t 58) (.c (.cv (.sc (.int .i64 1)))))⟩,
  ⟨none, (some 60), (.iadL 1 (.t 56) (.t 59))⟩,
  ⟨none, (some 61), (.ld false 1 (.t 60))⟩,
  ⟨none, (some 62), (.bin .or (.t 61) (.c (.cv (.sc (.int .u8 128)))))⟩,
  ⟨none, (some 63), (.iadL 1 (.t 56) (.t 59))⟩,
  ⟨none, none, (.st 1 (.t 63) (.t 62))⟩])

  (.seq (.reg [
  ⟨none, (some 64), (.mv (.t 15))⟩,
  ⟨none, (some 65), (.mksl 1 1 [(.cv (.sc (.int .u8 0)))] [(0, (1, (.c (.cv (.sc (.int .u8 0))))))] false)⟩,
  ⟨none, (some 66), (.app 1 1 [(.sc (.int .u8 0))] (.t 64) (.t 65))⟩,
  ⟨none, (some 15), (.mv (.t 66))⟩])

  (.seq (.reg [
  ⟨none, (some 68), (.mv (.t 15))⟩,
  ⟨none, (some 69), (.call 13 true [(.t 68), (.c (.cv (.sc (.int .i64 0))))])⟩,
  ⟨none, (some 67), (.mv (.t 69))⟩,
  ⟨none, (some 70), (.ext (.t 67) 0)⟩,
  ⟨none, (some 71), (.ext (.t 67) 1)⟩,
  ⟨none, (some 72), (.ext (.t 67) 2)⟩,
  ⟨none, (some 16), (.mv (.t 70))⟩,
  ⟨none, (some 17), (.mv (.t 71))⟩,
  ⟨none, (some 18), (.mv (.t 72))⟩])

  (.seq (.reg [
  ⟨none, (some 74), (.mv (.t 11))⟩,
  ⟨none, (some 75), (.mv (.t 2))⟩,
  ⟨none, (some 76), (.cvI .i64 (.t 75))⟩,
  ⟨none, (some 77), (.call 15 true [(.t 74), (.c (.cv (.sc (.int .i64 0)))), (.t 76)])⟩,
  ⟨none, (some 73), (.mv (.t 77))⟩,
  ⟨none, (some 78), (.ext (.t 73) 0)⟩,
  ⟨none, (some 79), (.ext (.t 73) 1)⟩,
  ⟨none, (some 80), (.ext (.t 73) 2)⟩,
  ⟨none, (some 19), (.mv (.t 78))⟩,
  ⟨none, (some 20), (.mv (.t 79))⟩,
  ⟨none, (some 21), (.mv (.t 80))⟩])

  (.seq (.reg [
  ⟨none, (some 81), (.call 11 true [])⟩,
  ⟨none, (some 82), (.mv (.t 81))⟩,
  ⟨(some (82, true)), (some 83), (.mv (.t 10))⟩,
  ⟨(some (82, true)), (some 84), (.bin .eql (.t 83) (.c (.cv (.sc (.int .u16 10)))))⟩,
  ⟨none, (some 85), (.pick (.t 82) (.t 84) (.c (.cv (.sc (.bool false)))))⟩,
  ⟨none, (some 86), (.mv (.t 85))⟩,
  ⟨(some (86, true)), (some 87), (.mv (.t 14))⟩,
  ⟨(some (86, true)), (some 88), (.bin .eql (.t 87) (.c (.cv (.sc (.int .u16 10)))))⟩,
  ⟨none, (some 89), (.pick (.t 86) (.t 88) (.c (.cv (.sc (.bool false)))))⟩,
  ⟨none, (some 90), (.mv (.t 89))⟩,
  ⟨(some (90, true)), (some 91), (.mv (.t 18))⟩,
  ⟨(some (90, true)), (some 92), (.bin .eql (.t 91) (.c (.cv (.sc (.int .u16 11)))))⟩,
  ⟨none, (some 93), (.pick (.t 90) (.t 92) (.c (.cv (.sc (.bool false)))))⟩,
  ⟨none, (some 94), (.mv (.t 93))⟩,
  ⟨(some (94, true)), (some 95), (.mv (.t 21))⟩,
  ⟨(some (94, true)), (some 96), (.bin .eql (.t 95) (.c (.cv (.sc (.int .u16 3)))))⟩,
  ⟨(some (94, true)), (some 97), (.mv (.t 1))⟩,
  ⟨(some (94, true)), (some 98), (.len true (.t 97))⟩,
  ⟨(some (94, true)), (some 99), (.mv (.t 2))⟩,
  ⟨(some (94, true)), (some 100), (.cvI .i64 (.t 99))⟩,
  ⟨(some (94, true)), (some 101), (.bin .gtr (.t 98) (.t 100))⟩,
  ⟨(some (94, true)), (some 102), (.eqb false (.t 96) (.t 101))⟩,
  ⟨none, (some 103), (.pick (.t 94) (.t 102) (.c (.cv (.sc (.bool false)))))⟩,
  ⟨none, (some 104), (.mv (.t 103))⟩,
  ⟨(some (104, true)), (some 105), (.mv (.t 21))⟩,
  ⟨(some (104, true)), (some 106), (.bin .eql (.t 105) (.c (.cv (.sc (.int .u16 0)))))⟩,
  ⟨(some (104, true)), (some 107), (.mv (.t 106))⟩,
  ⟨(some (107, false)), (some 108), (.mv (.t 21))⟩,
  ⟨(some (107, false)), (some 109), (.bin .eql (.t 108) (.c (.cv (.sc (.int .u16 3)))))⟩,
  ⟨(some (104, true)), (some 110), (.pick (.t 107) (.c (.cv (.sc (.bool true)))) (.t 109))⟩,
  ⟨none, (some 111), (.pick (.t 104) (.t 110) (.c (.cv (.sc (.bool false)))))⟩,
  ⟨none, (some 6), (.mv (.t 111))⟩])
  .ret))))))))))))))⟩
theorem f3_ok : compF Proofs.Try.prog [] [] Proofs.Try.f3 = some f3 := by kernel_rfl

def f4 : FnIR := ⟨49, [(.t 4)],

  (.seq (.reg [
  ⟨none, (some 4), (.mv (.c (.cv (.sc (.bool false)))))⟩])

  (.seq (.reg [
  ⟨none, (some 8), (.mv (.t 0))⟩,
  ⟨none, (some 9), (.bin .rem (.t 8) (.c (.cv (.sc (.int .u64 9007199254740993)))))⟩,
  ⟨none, (some 10), (.cvI .i64 (.t 9))⟩,
  ⟨none, (some 5), (.mv (.t 10))⟩])

  (.seq (.reg [
  ⟨none, (some 11), (.mv (.t 1))⟩,
  ⟨none, (some 12), (.bin .rem (.t 11) (.c (.cv (.sc (.int .u64 9007199254740993)))))⟩,
  ⟨none, (some 13), (.cvI .i64 (.t 12))⟩,
  ⟨none, (some 6), (.mv (.t 13))⟩])

  (.seq
  (.seq (.reg [
  ⟨none, (some 14), (.mv (.t 5))⟩,
  ⟨none, (some 15), (.mv (.t 6))⟩,
  ⟨none, (some 16), (.bin .gtr (.t 14) (.t 15))⟩])
  (.cond (.t 16)
  (.seq (.reg [
  ⟨none, (some 17), (.mv (.t 5))⟩,
  ⟨none, (some 7), (.mv (.t 17))⟩])

  (.seq (.reg [
  ⟨none, (some 18), (.mv (.t 6))⟩,
  ⟨none, (some 5), (.mv (.t 18))⟩])
  (.reg [
  ⟨none, (some 19), (.mv (.t 7))⟩,
  ⟨none, (some 6), (.mv (.t 19))⟩]))) .skip))

  (.seq (.draw [(
  ⟨none, (some 20), (.call 11 true [])⟩, (.r 0 0)), (
  ⟨none, (some 21), (.mv (.t 20))⟩, .p), (
  ⟨(some (21, true)), (some 22), (.mv (.t 5))⟩, .p), (
  ⟨(some (21, true)), (some 23), (.call 12 true [(.t 22)])⟩, (.r 0 0)), (
  ⟨(some (21, true)), (some 24), (.len false (.t 23))⟩, .p), (
  ⟨(some (21, true)), (some 25), (.mv (.t 6))⟩, .p), (
  ⟨(some (21, true)), (some 26), (.call 12 true [(.t 25)])⟩, (.r 0 0)), (
  ⟨(some (21, true)), (some 27), (.len false (.t 26))⟩, .p), (
  ⟨(some (21, true)), (some 28), (.bin .leq (.t 24) (.t 27))⟩, .p), (
  ⟨none, (some 29), (.pick (.t 21) (.t 28) (.c (.cv (.sc (.bool false)))))⟩, .p), (
  ⟨none, (some 30), (.mv (.t 29))⟩, .p), (
  ⟨(some (30, true)), (some 31), (.mv (.t 5))⟩, .p), (
  ⟨(some (30, true)), (some 32), (.mv (.t 6))⟩, .p), (
  ⟨(some (30, true)), (some 33), (.bin .eql (.t 31) (.t 32))⟩, .p), (
  ⟨(some (30, true)), (some 34), (.mv (.t 5))⟩, .p), (
  ⟨(some (30, true)), (some 35), (.call 12 true [(.t 34)])⟩, (.r 0 0)), (
  ⟨(some (30, true)), (some 36), (.cvBS (.t 35))⟩, (.r 0 0)), (
  ⟨(some (30, true)), (some 37), (.mv (.t 6))⟩, .p), (
  ⟨(some (30, true)), (some 38), (.call 12 true [(.t 37)])⟩, (.r 0 0)), (
  ⟨(some (30, true)), (some 39), (.cvBS (.t 38))⟩, (.r 0 0)), (
  ⟨(some (30, true)), (some 40), (.bin .eql (.t 36) (.t 39))⟩, .p), (
  ⟨(some (30, true)), (some 41), (.eqb false (.t 33) (.t 40))⟩, .p), (
  ⟨none, (some 42), (.pick (.t 30) (.t 41) (.c (.cv (.sc (.bool false)))))⟩, .p), (
  ⟨none, (some 43), (.mv (.t 42))⟩, .p), (
  ⟨(some (43, true)), (some 44), (.mv (.t 6))⟩, .p), (
  ⟨(some (43, true)), (some 45), (.call 12 true [(.t 44)])⟩, (.r 0 0)), (
  ⟨(some (43, true)), (some 46), (.len false (.t 45))⟩, .p), (
  ⟨(some (43, true)), (some 47), (.bin .leq (.t 46) (.c (.cv (.sc (.int .i64 8)))))⟩, .p), (
  ⟨none, (some 48), (.pick (.t 43) (.t 47) (.c (.cv (.sc (.bool false)))))⟩, .p), (
  ⟨none, (some 4), (.mv (.t 48))⟩, .p)])
  .ret)))))⟩
theorem f4_ok : compF Proofs.Try.prog [] [] Proofs.Try.f4 = some f4 := by kernel_rfl

def f5_0 : IR :=

  (.seq (.reg [
  ⟨none, (some 13), (.mv (.t 1))⟩,
  ⟨none, (some 14), (.len true (.t 13))⟩,
  ⟨none, (some 15), (.bin .gtr (.t 14) (.c (.cv (.sc (.int .i64 500)))))⟩,
  ⟨none, (some 16), (.mv (.t 15))⟩,
  ⟨(some (16, false)), (some 17), (.mv (.t 2))⟩,
  ⟨(some (16, false)), (some 18), (.call 16 true [(.t 17)])⟩,
  ⟨none, (some 19), (.pick (.t 16) (.c (.cv (.sc (.bool true)))) (.t 18))⟩,
  ⟨none, (some 20), (.mv (.t 19))⟩,
  ⟨(some (20, false)), (some 21), (.call 11 true [])⟩,
  ⟨(some (20, false)), (some 22), (.un .not (.t 21))⟩,
  ⟨none, (some 23), (.pick (.t 20) (.c (.cv (.sc (.bool true)))) (.t 22))⟩])
  (.cond (.t 23)
  (.seq (.reg [
  ⟨none, (some 24), (.call 11 true [])⟩,
  ⟨none, (some 10), (.mv (.t 24))⟩])
  .ret) .skip))
def f5 : FnIR := ⟨77, [(.t 10)],

  (.seq (.reg [
  ⟨none, (some 10), (.mv (.c (.cv (.sc (.bool false)))))⟩])

  (.seq f5_0

  (.seq (.reg [
  ⟨none, (some 25), (.mv (.t 3))⟩,
  ⟨none, (some 26), (.call 17 true [(.t 25), (.c (.cv (.sc (.int .i64 12))))])⟩,
  ⟨none, (some 11), (.mv (.t 26))⟩])

  (.seq (.draw [(
  ⟨none, (some 27), (.mv (.t 0))⟩, .p), (
  ⟨none, (some 28), (.call 12 true [(.t 27)])⟩, (.r 0 0)), (
  ⟨none, (some 29), (.cvBS (.t 28))⟩, (.r 0 0)), (
  ⟨none, (some 30), (.mv (.t 0))⟩, .p), (
  ⟨none, (some 31), (.call 18 true [(.t 30)])⟩, (.r 0 0)), (
  ⟨none, (some 32), (.cvBS (.t 31))⟩, (.r 0 0)), (
  ⟨none, (some 33), (.bin .eql (.t 29) (.t 32))⟩, .p), (
  ⟨none, (some 34), (.mv (.t 33))⟩, .p), (
  ⟨(some (34, true)), (some 35), (.mv (.t 0))⟩, .p), (
  ⟨(some (34, true)), (some 36), (.mv (.t 4))⟩, .p), (
  ⟨(some (34, true)), (some 37), (.bin .rem (.t 36) (.c (.cv (.sc (.int .u8 64)))))⟩, .p), (
  ⟨(some (34, true)), (some 38), (.bin .shr (.t 35) (.t 37))⟩, .p), (
  ⟨(some (34, true)), (some 39), (.call 12 true [(.t 38)])⟩, (.r 0 0)), (
  ⟨(some (34, true)), (some 40), (.cvBS (.t 39))⟩, (.r 0 0)), (
  ⟨(some (34, true)), (some 41), (.mv (.t 0))⟩, .p), (
  ⟨(some (34, true)), (some 42), (.mv (.t 4))⟩, .p), (
  ⟨(some (34, true)), (some 43), (.bin .rem (.t 42) (.c (.cv (.sc (.int .u8 64)))))⟩, .p), (
  ⟨(some (34, true)), (some 44), (.bin .shr (.t 41) (.t 43))⟩, .p), (
  ⟨(some (34, true)), (some 45), (.call 18 true [(.t 44)])⟩, (.r 0 0)), (
  ⟨(some (34, true)), (some 46), (.cvBS (.t 45))⟩, (.r 0 0)), (
  ⟨(some (34, true)), (some 47), (.bin .eql (.t 40) (.t 46))⟩, .p), (
  ⟨none, (some 48), (.pick (.t 34) (.t 47) (.c (.cv (.sc (.bool false)))))⟩, .p), (
  ⟨none, (some 49), (.mv (.t 48))⟩, .p), (
  ⟨(some (49, true)), (some 50), (.mv (.t 1))⟩, .p), (
  ⟨(some (49, true)), (some 51), (.call 14 true [(.t 50)])⟩, (.r 0 0)), (
  ⟨(some (49, true)), (some 52), (.cvBS (.t 51))⟩, (.r 0 0)), (
  ⟨(some (49, true)), (some 53), (.mv (.t 1))⟩, .p), (
  ⟨(some (49, true)), (some 54), (.call 19 true [(.t 53)])⟩, (.r 0 0)), (
  ⟨(some (49, true)), (some 55), (.cvBS (.t 54))⟩, (.r 0 0)), (
  ⟨(some (49, true)), (some 56), (.bin .eql (.t 52) (.t 55))⟩, .p), (
  ⟨none, (some 57), (.pick (.t 49) (.t 56) (.c (.cv (.sc (.bool false)))))⟩, .p), (
  ⟨none, (some 12), (.mv (.t 57))⟩, .p)])

  (.seq (.draw [(
  ⟨none, (some 58), (.mv (.t 12))⟩, .p), (
  ⟨none, (some 59), (.mv (.t 58))⟩, .p), (
  ⟨(some (59, true)), (some 60), (.mv (.t 2))⟩, .p), (
  ⟨(some (59, true)), (some 61), (.call 20 true [(.t 60)])⟩, (.r 0 0)), (
  ⟨(some (59, true)), (some 62), (.cvBS (.t 61))⟩, (.r 0 0)), (
  ⟨(some (59, true)), (some 63), (.mv (.t 2))⟩, .p), (
  ⟨(some (59, true)), (some 64), (.call 21 true [(.t 63)])⟩, (.r 0 0)), (
  ⟨(some (59, true)), (some 65), (.cvBS (.t 64))⟩, (.r 0 0)), (
  ⟨(some (59, true)), (some 66), (.bin .eql (.t 62) (.t 65))⟩, .p), (
  ⟨none, (some 67), (.pick (.t 59) (.t 66) (.c (.cv (.sc (.bool false)))))⟩, .p), (
  ⟨none, (some 68), (.mv (.t 67))⟩, .p), (
  ⟨(some (68, true)), (some 69), (.mv (.t 11))⟩, .p), (
  ⟨(some (68, true)), (some 70), (.call 20 true [(.t 69)])⟩, (.r 0 0)), (
  ⟨(some (68, true)), (some 71), (.cvBS (.t 70))⟩, (.r 0 0)), (
  ⟨(some (68, true)), (some 72), (.mv (.t 11))⟩, .p), (
  ⟨(some (68, true)), (some 73), (.call 21 true [(.t 72)])⟩, (.r 0 0)), (
  ⟨(some (68, true)), (some 74), (.cvBS (.t 73))⟩, (.r 0 0)), (
  ⟨(some (68, true)), (some 75), (.bin .eql (.t 71) (.t 74))⟩, .p), (
  ⟨none, (some 76), (.pick (.t 68) (.t 75) (.c (.cv (.sc (.bool false)))))⟩, .p), (
  ⟨none, (some 10), (.mv (.t 76))⟩, .p)])
  .ret)))))⟩
theorem f5_ok : compF Proofs.Try.prog [] [] Proofs.Try.f5 = some f5 := by kernel_rfl

def f6_0 : IR :=

  (.seq (.reg [
  ⟨none, (some 24), (.mv (.t 1))⟩,
  ⟨none, (some 25), (.len true (.t 24))⟩,
  ⟨none, (some 26), (.bin .gtr (.t 25) (.c (.cv (.sc (.int .i64 300)))))⟩,
  ⟨none, (some 27), (.mv (.t 26))⟩,
  ⟨(some (27, false)), (some 28), (.mv (.t 2))⟩,
  ⟨(some (27, false)), (some 29), (.len false (.t 28))⟩,
  ⟨(some (27, false)), (some 30), (.bin .gtr (.t 29) (.c (.cv (.sc (.int .i64 300)))))⟩,
  ⟨none, (some 31), (.pick (.t 27) (.c (.cv (.sc (.bool true)))) (.t 30))⟩])
  (.cond (.t 31)
  (.seq (.reg [
  ⟨none, (some 32), (.call 11 true [])⟩,
  ⟨none, (some 8), (.mv (.t 32))⟩])
  .ret) .skip))
def f6_1 : IR :=

  (.seq
  (.seq (.reg [
  ⟨none, (some 68), (.mv (.t 20))⟩,
  ⟨none, (some 69), (.mv (.t 19))⟩,
  ⟨none, (some 70), (.len false (.t 69))⟩,
  ⟨none, (some 71), (.bin .lss (.t 68) (.t 70))⟩])
  (.cond (.t 71) .skip (.exit 0)))

  (.seq (.block 1 (.draw [(
  ⟨none, (some 74), (.mv (.t 19))⟩, .p), (
  ⟨none, (some 75), (.mv (.t 20))⟩, .p), (
  ⟨none, (some 76), (.mv (.t 19))⟩, .p), (
  ⟨none, (some 77), (.mv (.t 20))⟩, .p), (
  ⟨none, (some 78), (.iadL 2 (.t 76) (.t 77))⟩, (.r 0 0)), (
  ⟨none, (some 79), (.fad 1 (.t 78))⟩, .p), (
  ⟨none, (some 80), (.ld false 1 (.t 79))⟩, (.r 0 0)), (
  ⟨none, (some 81), (.mv (.t 19))⟩, .p), (
  ⟨none, (some 82), (.mv (.t 20))⟩, .p), (
  ⟨none, (some 83), (.iadL 2 (.t 81) (.t 82))⟩, (.r 0 0)), (
  ⟨none, (some 84), (.fad 1 (.t 83))⟩, .p), (
  ⟨none, (some 85), (.ld false 1 (.t 84))⟩, (.r 0 0)), (
  ⟨none, (some 86), (.len false (.t 85))⟩, .p), (
  ⟨none, (some 87), (.mnmx true [(.t 86), (.c (.cv (.sc (.int .i64 150))))])⟩, .p), (
  ⟨none, (some 88), (.slL 1 (.t 80) none (some (.t 87)) none)⟩, (.r 0 0)), (
  ⟨none, (some 89), (.iadL 2 (.t 74) (.t 75))⟩, (.r 0 0)), (
  ⟨none, (some 90), (.fad 1 (.t 89))⟩, .p), (
  ⟨none, none, (.st 1 (.t 90) (.t 88))⟩, .k)]))
  (.reg [
  ⟨none, (some 72), (.mv (.t 20))⟩,
  ⟨none, (some 73), (.bin .add (.t 72) (.c (.cv (.sc (.int .i64 1)))))⟩,
  ⟨none, (some 20), (.mv (.t 73))⟩])))
def f6 : FnIR := ⟨132, [(.t 8)],

  (.seq (.reg [
  ⟨none, (some 8), (.mv (.c (.cv (.sc (.bool false)))))⟩])

  (.seq f6_0

  (.seq (.reg [
  ⟨none, (some 33), (.mv (.t 0))⟩,
  ⟨none, (some 34), (.mnmx true [(.t 33), (.c (.cv (.sc (.int .i64 9007199254740992))))])⟩,
  ⟨none, (some 35), (.mnmx false [(.c (.cv (.sc (.int .i64 0)))), (.t 34)])⟩,
  ⟨none, (some 9), (.mv (.t 35))⟩])

  (.seq (.reg [
  ⟨none, (some 10), (.mv (.c (.cv (.sc (.slice none 0 0)))))⟩])

  (.seq (.reg [
  ⟨none, (some 36), (.mv (.t 10))⟩,
  ⟨none, (some 37), (.mv (.t 2))⟩,
  ⟨none, (some 38), (.app 1 1 [(.sc (.int .u8 0))] (.t 36) (.t 37))⟩,
  ⟨none, (some 10), (.mv (.t 38))⟩])

  (.seq (.reg [
  ⟨none, (some 39), (.mv (.t 0))⟩,
  ⟨none, (some 40), (.call 12 true [(.t 39)])⟩,
  ⟨none, (some 11), (.mv (.t 40))⟩])

  (.seq (.reg [
  ⟨none, (some 41), (.mv (.t 1))⟩,
  ⟨none, (some 42), (.call 14 true [(.t 41)])⟩,
  ⟨none, (some 12), (.mv (.t 42))⟩])

  (.seq (.reg [
  ⟨none, (some 43), (.mv (.t 10))⟩,
  ⟨none, (some 44), (.mv (.t 11))⟩,
  ⟨none, (some 45), (.app 1 1 [(.sc (.int .u8 0))] (.t 43) (.t 44))⟩,
  ⟨none, (some 10), (.mv (.t 45))⟩])

  (.seq (.reg [
  ⟨none, (some 46), (.mv (.t 10))⟩,
  ⟨none, (some 47), (.mv (.t 12))⟩,
  ⟨none, (some 48), (.app 1 1 [(.sc (.int .u8 0))] (.t 46) (.t 47))⟩,
  ⟨none, (some 10), (.mv (.t 48))⟩])

  (.seq (.reg [
  ⟨none, (some 50), (.mv (.t 10))⟩,
  ⟨none, (some 51), (.mv (.t 2))⟩,
  ⟨none, (some 52), (.len false (.t 51))⟩,
  ⟨none, (some 53), (.call 13 true [(.t 50), (.t 52)])⟩,
  ⟨none, (some 49), (.mv (.t 53))⟩,
  ⟨none, (some 54), (.ext (.t 49) 0)⟩,
  ⟨none, (some 55), (.ext (.t 49) 1)⟩,
  ⟨none, (some 56), (.ext (.t 49) 2)⟩,
  ⟨none, (some 13), (.mv (.t 54))⟩,
  ⟨none, (some 14), (.mv (.t 55))⟩,
  ⟨none, (some 15), (.mv (.t 56))⟩])

  (.seq (.reg [
  ⟨none, (some 58), (.mv (.t 10))⟩,
  ⟨none, (some 59), (.mv (.t 14))⟩,
  ⟨none, (some 60), (.mv (.t 1))⟩,
  ⟨none, (some 61), (.len true (.t 60))⟩,
  ⟨none, (some 62), (.call 15 true [(.t 58), (.t 59), (.t 61)])⟩,
  ⟨none, (some 57), (.mv (.t 62))⟩,
  ⟨none, (some 63), (.ext (.t 57) 0)⟩,
  ⟨none, (some 64), (.ext (.t 57) 1)⟩,
  ⟨none, (some 65), (.ext (.t 57) 2)⟩,
  ⟨none, (some 16), (.mv (.t 63))⟩,
  ⟨none, (some 17), (.mv (.t 64))⟩,
  ⟨none, (some 18), (.mv (.t 65))⟩])

  (.seq (.reg [
  ⟨none, (some 66), (.mv (.t 3))⟩,
  ⟨none, (some 67), (.call 17 false [(.t 66), (.c (.cv (.sc (.int .i64 10))))])⟩,
  ⟨none, (some 19), (.mv (.t 67))⟩])

  (.seq
  (.seq (.reg [
  ⟨none, (some 20), (.mv (.c (.cv (.sc (.int .i64 0)))))⟩])
  (.block 0 (.loop f6_1)))

  (.seq (.reg [
  ⟨none, (some 92), (.mv (.t 19))⟩,
  ⟨none, (some 93), (.call 20 true [(.t 92)])⟩,
  ⟨none, (some 94), (.call 22 true [(.t 93)])⟩,
  ⟨none, (some 91), (.mv (.t 94))⟩,
  ⟨none, (some 95), (.ext (.t 91) 0)⟩,
  ⟨none, (some 96), (.ext (.t 91) 1)⟩,
  ⟨none, (some 21), (.mv (.t 95))⟩,
  ⟨none, (some 22), (.mv (.t 96))⟩])

  (.seq (.reg [
  ⟨none, (some 97), (.mv (.t 19))⟩,
  ⟨none, (some 98), (.mv (.t 21))⟩,
  ⟨none, (some 99), (.call 23 true [(.t 97), (.t 98)])⟩,
  ⟨none, (some 23), (.mv (.t 99))⟩])

  (.seq (.reg [
  ⟨none, (some 100), (.call 11 true [])⟩,
  ⟨none, (some 101), (.mv (.t 100))⟩,
  ⟨(some (101, true)), (some 102), (.mv (.t 15))⟩,
  ⟨(some (101, true)), (some 103), (.bin .eql (.t 102) (.c (.cv (.sc (.int .u16 0)))))⟩,
  ⟨none, (some 104), (.pick (.t 101) (.t 103) (.c (.cv (.sc (.bool false)))))⟩,
  ⟨none, (some 105), (.mv (.t 104))⟩,
  ⟨(some (105, true)), (some 106), (.mv (.t 18))⟩,
  ⟨(some (105, true)), (some 107), (.bin .eql (.t 106) (.c (.cv (.sc (.int .u16 0)))))⟩,
  ⟨none, (some 108), (.pick (.t 105) (.t 107) (.c (.cv (.sc (.bool false)))))⟩,
  ⟨none, (some 109), (.mv (.t 108))⟩,
  ⟨(some (109, true)), (some 110), (.mv (.t 13))⟩,
  ⟨(some (109, true)), (some 111), (.mv (.t 9))⟩,
  ⟨(some (109, true)), (some 112), (.bin .eql (.t 110) (.t 111))⟩,
  ⟨none, (some 113), (.pick (.t 109) (.t 112) (.c (.cv (.sc (.bool false)))))⟩,
  ⟨none, (some 114), (.mv (.t 113))⟩,
  ⟨(some (114, true)), (some 115), (.mv (.t 16))⟩,
  ⟨(some (114, true)), (some 116), (.mv (.t 1))⟩,
  ⟨(some (114, true)), (some 117), (.bin .eql (.t 115) (.t 116))⟩,
  ⟨none, (some 118), (.pick (.t 114) (.t 117) (.c (.cv (.sc (.bool false)))))⟩,
  ⟨none, (some 119), (.mv (.t 118))⟩,
  ⟨(some (119, true)), (some 120), (.mv (.t 17))⟩,
  ⟨(some (119, true)), (some 121), (.mv (.t 10))⟩,
  ⟨(some (119, true)), (some 122), (.len false (.t 121))⟩,
  ⟨(some (119, true)), (some 123), (.bin .eql (.t 120) (.t 122))⟩,
  ⟨none, (some 124), (.pick (.t 119) (.t 123) (.c (.cv (.sc (.bool false)))))⟩,
  ⟨none, (some 125), (.mv (.t 124))⟩,
  ⟨(some (125, true)), (some 126), (.mv (.t 22))⟩,
  ⟨(some (125, true)), (some 127), (.bin .eql (.t 126) (.c (.cv (.sc (.int .u16 0)))))⟩,
  ⟨none, (some 128), (.pick (.t 125) (.t 127) (.c (.cv (.sc (.bool false)))))⟩,
  ⟨none, (some 129), (.mv (.t 128))⟩,
  ⟨(some (129, true)), (some 130), (.mv (.t 23))⟩,
  ⟨none, (some 131), (.pick (.t 129) (.t 130) (.c (.cv (.sc (.bool false)))))⟩,
  ⟨none, (some 8), (.mv (.t 131))⟩])
  .ret))))))))))))))))⟩
theorem f6_ok : compF Proofs.Try.prog [17] [] Proofs.Try.f6 = some f6 := by kernel_rfl

def f7_0 : IR :=

  (.seq
  (.seq (.reg [
  ⟨none, (some 20), (.mv (.t 8))⟩,
  ⟨none, (some 21), (.mv (.t 0))⟩,
  ⟨none, (some 22), (.bin .rem (.t 21) (.c (.cv (.sc (.int .u8 20)))))⟩,
  ⟨none, (some 23), (.cvI .i64 (.t 22))⟩,
  ⟨none, (some 24), (.bin .add (.c (.cv (.sc (.int .i64 4990)))) (.t 23))⟩,
  ⟨none, (some 25), (.bin .lss (.t 20) (.t 24))⟩])
  (.cond (.t 25) .skip (.exit 0)))

  (.seq (.block 1 (.reg [
  ⟨none, (some 28), (.mv (.t 7))⟩,
  ⟨none, (some 29), (.mksl 1 2 [(.cv (.sc (.int .u8 0))), (.cv (.sc (.int .u8 0)))] [(0, (1, (.c (.cv (.sc (.int .u8 0)))))), (1, (1, (.c (.cv (.sc (.int .u8 1))))))] false)⟩,
  ⟨none, (some 30), (.app 1 1 [(.sc (.int .u8 0))] (.t 28) (.t 29))⟩,
  ⟨none, (some 7), (.mv (.t 30))⟩]))
  (.reg [
  ⟨none, (some 26), (.mv (.t 8))⟩,
  ⟨none, (some 27), (.bin .add (.t 26) (.c (.cv (.sc (.int .i64 1)))))⟩,
  ⟨none, (some 8), (.mv (.t 27))⟩])))
def f7 : FnIR := ⟨90, [(.t 6)],

  (.seq (.reg [
  ⟨none, (some 6), (.mv (.c (.cv (.sc (.bool false)))))⟩])

  (.seq (.reg [
  ⟨none, (some 15), (.mv (.t 0))⟩,
  ⟨none, (some 16), (.bin .rem (.t 15) (.c (.cv (.sc (.int .u8 20)))))⟩,
  ⟨none, (some 17), (.cvI .i64 (.t 16))⟩,
  ⟨none, (some 18), (.bin .add (.c (.cv (.sc (.int .i64 4990)))) (.t 17))⟩,
  ⟨none, (some 19), (.call 12 false [(.t 18)])⟩,
  ⟨none, (some 7), (.mv (.t 19))⟩])

  (.seq
  (.seq (.reg [
  ⟨none, (some 8), (.mv (.c (.cv (.sc (.int .i64 0)))))⟩])
  (.block 0 (.loop f7_0)))

  (.seq (.reg [
  ⟨none, (some 32), (.mv (.t 7))⟩,
  ⟨none, (some 33), (.call 24 true [(.t 32)])⟩,
  ⟨none, (some 31), (.mv (.t 33))⟩,
  ⟨none, (some 34), (.ext (.t 31) 0)⟩,
  ⟨none, (some 35), (.ext (.t 31) 1)⟩,
  ⟨none, (some 9), (.mv (.t 34))⟩,
  ⟨none, (some 10), (.mv (.t 35))⟩])

  (.seq (.reg [
  ⟨none, (some 36), (.mv (.t 1))⟩,
  ⟨none, (some 37), (.bin .rem (.t 36) (.c (.cv (.sc (.int .u8 40)))))⟩,
  ⟨none, (some 38), (.cvI .i64 (.t 37))⟩,
  ⟨none, (some 39), (.mks 1 1 [(.sc (.int .u8 0))] (.t 38) (.t 38) true)⟩,
  ⟨none, (some 11), (.mv (.t 39))⟩])

  (.seq (.reg [
  ⟨none, (some 40), (.mv (.t 2))⟩,
  ⟨none, (some 41), (.cvI .i64 (.t 40))⟩,
  ⟨none, (some 42), (.mks 1 1 [(.sc (.int .u8 0))] (.t 41) (.t 41) true)⟩,
  ⟨none, (some 12), (.mv (.t 42))⟩])

  (.seq (.reg [
  ⟨none, (some 44), (.mv (.t 11))⟩,
  ⟨none, (some 45), (.cvBS (.t 44))⟩,
  ⟨none, (some 46), (.mv (.t 12))⟩,
  ⟨none, (some 47), (.build [(.cv (.sc (.string ⟨#[]⟩))), (.cv (.sc (.slice none 0 0)))] [(0, (1, (.t 45))), (1, (1, (.t 46)))])⟩,
  ⟨none, (some 48), (.mksl 2 1 [(.cv (.sc (.string ⟨#[]⟩))), (.cv (.sc (.slice none 0 0)))] [(0, (2, (.t 47)))] false)⟩,
  ⟨none, (some 49), (.call 20 true [(.t 48)])⟩,
  ⟨none, (some 50), (.call 22 true [(.t 49)])⟩,
  ⟨none, (some 43), (.mv (.t 50))⟩,
  ⟨none, (some 51), (.ext (.t 43) 0)⟩,
  ⟨none, (some 52), (.ext (.t 43) 1)⟩,
  ⟨none, (some 13), (.mv (.t 51))⟩,
  ⟨none, (some 14), (.mv (.t 52))⟩])

  (.seq (.reg [
  ⟨none, (some 53), (.call 11 true [])⟩,
  ⟨none, (some 54), (.mv (.t 53))⟩,
  ⟨(some (54, true)), (some 55), (.mv (.t 10))⟩,
  ⟨(some (54, true)), (some 56), (.bin .eql (.t 55) (.c (.cv (.sc (.int .u16 3)))))⟩,
  ⟨(some (54, true)), (some 57), (.mv (.t 0))⟩,
  ⟨(some (54, true)), (some 58), (.bin .rem (.t 57) (.c (.cv (.sc (.int .u8 20)))))⟩,
  ⟨(some (54, true)), (some 59), (.bin .gtr (.t 58) (.c (.cv (.sc (.int .u8 10)))))⟩,
  ⟨(some (54, true)), (some 60), (.eqb false (.t 56) (.t 59))⟩,
  ⟨none, (some 61), (.pick (.t 54) (.t 60) (.c (.cv (.sc (.bool false)))))⟩,
  ⟨none, (some 62), (.mv (.t 61))⟩,
  ⟨(some (62, true)), (some 63), (.mv (.t 10))⟩,
  ⟨(some (62, true)), (some 64), (.bin .eql (.t 63) (.c (.cv (.sc (.int .u16 0)))))⟩,
  ⟨(some (62, true)), (some 65), (.mv (.t 64))⟩,
  ⟨(some (65, false)), (some 66), (.mv (.t 10))⟩,
  ⟨(some (65, false)), (some 67), (.bin .eql (.t 66) (.c (.cv (.sc (.int .u16 3)))))⟩,
  ⟨(some (62, true)), (some 68), (.pick (.t 65) (.c (.cv (.sc (.bool true)))) (.t 67))⟩,
  ⟨none, (some 69), (.pick (.t 62) (.t 68) (.c (.cv (.sc (.bool false)))))⟩,
  ⟨none, (some 70), (.mv (.t 69))⟩,
  ⟨(some (70, true)), (some 71), (.mv (.t 14))⟩,
  ⟨(some (70, true)), (some 72), (.bin .eql (.t 71) (.c (.cv (.sc (.int .u16 3)))))⟩,
  ⟨(some (70, true)), (some 73), (.mv (.t 1))⟩,
  ⟨(some (70, true)), (some 74), (.bin .rem (.t 73) (.c (.cv (.sc (.int .u8 40)))))⟩,
  ⟨(some (70, true)), (some 75), (.bin .gtr (.t 74) (.c (.cv (.sc (.int .u8 30)))))⟩,
  ⟨(some (70, true)), (some 76), (.mv (.t 75))⟩,
  ⟨(some (76, false)), (some 77), (.mv (.t 2))⟩,
  ⟨(some (76, false)), (some 78), (.bin .gtr (.t 77) (.c (.cv (.sc (.int .u8 150)))))⟩,
  ⟨(some (70, true)), (some 79), (.pick (.t 76) (.c (.cv (.sc (.bool true)))) (.t 78))⟩,
  ⟨(some (70, true)), (some 80), (.eqb false (.t 72) (.t 79))⟩,
  ⟨none, (some 81), (.pick (.t 70) (.t 80) (.c (.cv (.sc (.bool false)))))⟩,
  ⟨none, (some 82), (.mv (.t 81))⟩,
  ⟨(some (82, true)), (some 83), (.mv (.t 14))⟩,
  ⟨(some (82, true)), (some 84), (.bin .eql (.t 83) (.c (.cv (.sc (.int .u16 0)))))⟩,
  ⟨(some (82, true)), (some 85), (.mv (.t 84))⟩,
  ⟨(some (85, false)), (some 86), (.mv (.t 14))⟩,
  ⟨(some (85, false)), (some 87), (.bin .eql (.t 86) (.c (.cv (.sc (.int .u16 3)))))⟩,
  ⟨(some (82, true)), (some 88), (.pick (.t 85) (.c (.cv (.sc (.bool true)))) (.t 87))⟩,
  ⟨none, (some 89), (.pick (.t 82) (.t 88) (.c (.cv (.sc (.bool false)))))⟩,
  ⟨none, (some 6), (.mv (.t 89))⟩])
  .ret))))))))⟩
theorem f7_ok : compF Proofs.Try.prog [12] [(7, 3), (8, 2)] Proofs.Try.f7 = some f7 := by kernel_rfl

def f8_0 : IR :=

  (.seq (.reg [
  ⟨none, (some 16), (.mv (.t 0))⟩,
  ⟨none, (some 17), (.len false (.t 16))⟩,
  ⟨none, (some 18), (.bin .gtr (.t 17) (.c (.cv (.sc (.int .i64 500)))))⟩,
  ⟨none, (some 19), (.mv (.t 18))⟩,
  ⟨(some (19, false)), (some 20), (.call 11 true [])⟩,
  ⟨(some (19, false)), (some 21), (.un .not (.t 20))⟩,
  ⟨none, (some 22), (.pick (.t 19) (.c (.cv (.sc (.bool true)))) (.t 21))⟩])
  (.cond (.t 22)
  (.seq (.reg [
  ⟨none, (some 23), (.call 11 true [])⟩,
  ⟨none, (some 14), (.mv (.t 23))⟩])
  .ret) .skip))
def f8 : FnIR := ⟨59, [(.t 14)],

  (.seq (.reg [
  ⟨none, (some 14), (.mv (.c (.cv (.sc (.bool false)))))⟩])

  (.seq f8_0

  (.seq (.reg [
  ⟨none, (some 24), (.mv (.t 3))⟩,
  ⟨none, (some 25), (.call 17 true [(.t 24), (.c (.cv (.sc (.int .i64 8))))])⟩,
  ⟨none, (some 26), (.call 21 true [(.t 25)])⟩,
  ⟨none, (some 27), (.mv (.t 4))⟩,
  ⟨none, (some 28), (.mv (.t 5))⟩,
  ⟨none, (some 29), (.mv (.t 6))⟩,
  ⟨none, (some 30), (.call 25 true [(.t 26), (.t 27), (.t 28), (.t 29)])⟩,
  ⟨none, (some 15), (.mv (.t 30))⟩])

  (.seq (.reg [
  ⟨none, (some 31), (.mv (.t 0))⟩,
  ⟨none, (some 32), (.mv (.t 1))⟩,
  ⟨none, (some 33), (.mv (.t 2))⟩,
  ⟨none, (some 34), (.call 26 true [(.t 31), (.t 32), (.t 33)])⟩,
  ⟨none, (some 35), (.mv (.t 34))⟩,
  ⟨(some (35, true)), (some 36), (.mv (.t 15))⟩,
  ⟨(some (35, true)), (some 37), (.mv (.t 4))⟩,
  ⟨(some (35, true)), (some 38), (.cvI .i64 (.t 37))⟩,
  ⟨(some (35, true)), (some 39), (.bin .rem (.t 38) (.c (.cv (.sc (.int .i64 50)))))⟩,
  ⟨(some (35, true)), (some 40), (.mv (.t 5))⟩,
  ⟨(some (35, true)), (some 41), (.cvI .i64 (.t 40))⟩,
  ⟨(some (35, true)), (some 42), (.call 26 true [(.t 36), (.t 39), (.t 41)])⟩,
  ⟨none, (some 43), (.pick (.t 35) (.t 42) (.c (.cv (.sc (.bool false)))))⟩,
  ⟨none, (some 44), (.mv (.t 43))⟩,
  ⟨(some (44, true)), (some 45), (.mv (.t 0))⟩,
  ⟨(some (44, true)), (some 46), (.mv (.t 4))⟩,
  ⟨(some (44, true)), (some 47), (.cvI .i64 (.t 46))⟩,
  ⟨(some (44, true)), (some 48), (.mv (.t 0))⟩,
  ⟨(some (44, true)), (some 49), (.len false (.t 48))⟩,
  ⟨(some (44, true)), (some 50), (.bin .add (.t 49) (.c (.cv (.sc (.int .i64 2)))))⟩,
  ⟨(some (44, true)), (some 51), (.bin .rem (.t 47) (.t 50))⟩,
  ⟨(some (44, true)), (some 52), (.bin .sub (.t 51) (.c (.cv (.sc (.int .i64 1)))))⟩,
  ⟨(some (44, true)), (some 53), (.call 26 true [(.t 45), (.t 52), (.c (.cv (.sc (.int .i64 9))))])⟩,
  ⟨none, (some 54), (.pick (.t 44) (.t 53) (.c (.cv (.sc (.bool false)))))⟩,
  ⟨none, (some 55), (.mv (.t 54))⟩,
  ⟨(some (55, true)), (some 56), (.mv (.t 15))⟩,
  ⟨(some (55, true)), (some 57), (.call 27 true [(.t 56)])⟩,
  ⟨none, (some 58), (.pick (.t 55) (.t 57) (.c (.cv (.sc (.bool false)))))⟩,
  ⟨none, (some 14), (.mv (.t 58))⟩])
  .ret))))⟩
theorem f8_ok : compF Proofs.Try.prog [] [] Proofs.Try.f8 = some f8 := by kernel_rfl

def f9_0 : IR :=

  (.seq
  (.seq (.reg [
  ⟨none, (some 21), (.mv (.t 14))⟩,
  ⟨none, (some 22), (.mv (.t 0))⟩,
  ⟨none, (some 23), (.len false (.t 22))⟩,
  ⟨none, (some 24), (.bin .lss (.t 21) (.t 23))⟩])
  (.cond (.t 24) .skip (.exit 0)))

  (.seq (.block 1 (.draw [(
  ⟨none, (some 27), (.mv (.t 13))⟩, .p), (
  ⟨none, (some 28), (.mv (.t 0))⟩, .p), (
  ⟨none, (some 29), (.mv (.t 14))⟩, .p), (
  ⟨none, (some 30), (.iadL 3 (.t 28) (.t 29))⟩, (.r 0 0)), (
  ⟨none, (some 31), (.fad 0 (.t 30))⟩, .p), (
  ⟨none, (some 32), (.ld false 1 (.t 31))⟩, (.r 0 0)), (
  ⟨none, (some 33), (.len true (.t 32))⟩, .p), (
  ⟨none, (some 34), (.mv (.t 0))⟩, .p), (
  ⟨none, (some 35), (.mv (.t 14))⟩, .p), (
  ⟨none, (some 36), (.iadL 3 (.t 34) (.t 35))⟩, (.r 0 0)), (
  ⟨none, (some 37), (.fad 1 (.t 36))⟩, .p), (
  ⟨none, (some 38), (.ld false 1 (.t 37))⟩, (.r 0 0)), (
  ⟨none, (some 39), (.len false (.t 38))⟩, .p), (
  ⟨none, (some 40), (.bin .add (.t 33) (.t 39))⟩, .p), (
  ⟨none, (some 41), (.bin .add (.t 27) (.t 40))⟩, .p), (
  ⟨none, (some 13), (.mv (.t 41))⟩, .p)]))
  (.reg [
  ⟨none, (some 25), (.mv (.t 14))⟩,
  ⟨none, (some 26), (.bin .add (.t 25) (.c (.cv (.sc (.int .i64 1)))))⟩,
  ⟨none, (some 14), (.mv (.t 26))⟩])))
def f9_1 : IR :=

  (.seq (.reg [
  ⟨none, (some 42), (.mv (.t 13))⟩,
  ⟨none, (some 43), (.bin .gtr (.t 42) (.c (.cv (.sc (.int .i64 1500)))))⟩,
  ⟨none, (some 44), (.mv (.t 43))⟩,
  ⟨(some (44, false)), (some 45), (.call 11 true [])⟩,
  ⟨(some (44, false)), (some 46), (.un .not (.t 45))⟩,
  ⟨none, (some 47), (.pick (.t 44) (.c (.cv (.sc (.bool true)))) (.t 46))⟩])
  (.cond (.t 47)
  (.seq (.reg [
  ⟨none, (some 48), (.call 11 true [])⟩,
  ⟨none, (some 12), (.mv (.t 48))⟩])
  .ret) .skip))
def f9 : FnIR := ⟨80, [(.t 12)],

  (.seq (.reg [
  ⟨none, (some 12), (.mv (.c (.cv (.sc (.bool false)))))⟩])

  (.seq (.reg [
  ⟨none, (some 16), (.mv (.t 0))⟩,
  ⟨none, (some 17), (.len false (.t 16))⟩,
  ⟨none, (some 18), (.mv (.t 1))⟩,
  ⟨none, (some 19), (.len false (.t 18))⟩,
  ⟨none, (some 20), (.bin .add (.t 17) (.t 19))⟩,
  ⟨none, (some 13), (.mv (.t 20))⟩])

  (.seq
  (.seq (.reg [
  ⟨none, (some 14), (.mv (.c (.cv (.sc (.int .i64 0)))))⟩])
  (.block 0 (.loop f9_0)))

  (.seq f9_1

  (.seq (.reg [
  ⟨none, (some 49), (.mv (.t 2))⟩,
  ⟨none, (some 50), (.call 29 true [(.t 49), (.c (.cv (.sc (.int .i64 8))))])⟩,
  ⟨none, (some 51), (.call 28 true [(.t 50)])⟩,
  ⟨none, (some 15), (.mv (.t 51))⟩])

  (.seq (.draw [(
  ⟨none, (some 52), (.mv (.t 0))⟩, .p), (
  ⟨none, (some 53), (.call 30 true [(.t 52)])⟩, (.r 0 0)), (
  ⟨none, (some 54), (.cvBS (.t 53))⟩, (.r 0 0)), (
  ⟨none, (some 55), (.mv (.t 0))⟩, .p), (
  ⟨none, (some 56), (.call 28 true [(.t 55)])⟩, (.r 0 0)), (
  ⟨none, (some 57), (.cvBS (.t 56))⟩, (.r 0 0)), (
  ⟨none, (some 58), (.bin .eql (.t 54) (.t 57))⟩, .p), (
  ⟨none, (some 59), (.mv (.t 58))⟩, .p), (
  ⟨(some (59, true)), (some 60), (.mv (.t 2))⟩, .p), (
  ⟨(some (59, true)), (some 61), (.call 29 true [(.t 60), (.c (.cv (.sc (.int .i64 8))))])⟩, (.r 0 0)), (
  ⟨(some (59, true)), (some 62), (.call 30 true [(.t 61)])⟩, (.r 0 0)), (
  ⟨(some (59, true)), (some 63), (.cvBS (.t 62))⟩, (.r 0 0)), (
  ⟨(some (59, true)), (some 64), (.mv (.t 15))⟩, .p), (
  ⟨(some (59, true)), (some 65), (.cvBS (.t 64))⟩, (.r 0 0)), (
  ⟨(some (59, true)), (some 66), (.bin .eql (.t 63) (.t 65))⟩, .p), (
  ⟨none, (some 67), (.pick (.t 59) (.t 66) (.c (.cv (.sc (.bool false)))))⟩, .p), (
  ⟨none, (some 68), (.mv (.t 67))⟩, .p), (
  ⟨(some (68, true)), (some 69), (.mv (.t 1))⟩, .p), (
  ⟨(some (68, true)), (some 70), (.call 27 true [(.t 69)])⟩, (.r 0 0)), (
  ⟨none, (some 71), (.pick (.t 68) (.t 70) (.c (.cv (.sc (.bool false)))))⟩, .p), (
  ⟨none, (some 72), (.mv (.t 71))⟩, .p), (
  ⟨(some (72, true)), (some 73), (.mv (.t 15))⟩, .p), (
  ⟨(some (72, true)), (some 74), (.mv (.t 3))⟩, .p), (
  ⟨(some (72, true)), (some 75), (.mv (.t 4))⟩, .p), (
  ⟨(some (72, true)), (some 76), (.mv (.t 5))⟩, .p), (
  ⟨(some (72, true)), (some 77), (.call 25 true [(.t 73), (.t 74), (.t 75), (.t 76)])⟩, (.r 0 0)), (
  ⟨(some (72, true)), (some 78), (.call 27 true [(.t 77)])⟩, (.r 0 0)), (
  ⟨none, (some 79), (.pick (.t 72) (.t 78) (.c (.cv (.sc (.bool false)))))⟩, .p), (
  ⟨none, (some 12), (.mv (.t 79))⟩, .p)])
  .ret))))))⟩
theorem f9_ok : compF Proofs.Try.prog [] [] Proofs.Try.f9 = some f9 := by kernel_rfl

def f10_0 : IR :=

  (.seq (.reg [
  ⟨none, (some 18), (.mv (.t 0))⟩,
  ⟨none, (some 19), (.len false (.t 18))⟩,
  ⟨none, (some 20), (.bin .gtr (.t 19) (.c (.cv (.sc (.int .i64 500)))))⟩])
  (.cond (.t 20)
  (.seq (.reg [
  ⟨none, (some 21), (.call 11 true [])⟩,
  ⟨none, (some 10), (.mv (.t 21))⟩])
  .ret) .skip))
def f10 : FnIR := ⟨81, [(.t 10)],

  (.seq (.reg [
  ⟨none, (some 10), (.mv (.c (.cv (.sc (.bool false)))))⟩])

  (.seq f10_0

  (.seq (.reg [
  ⟨none, (some 22), (.mv (.t 1))⟩,
  ⟨none, (some 23), (.call 17 true [(.t 22), (.c (.cv (.sc (.int .i64 8))))])⟩,
  ⟨none, (some 24), (.call 21 true [(.t 23)])⟩,
  ⟨none, (some 25), (.mv (.t 2))⟩,
  ⟨none, (some 26), (.mv (.t 3))⟩,
  ⟨none, (some 27), (.mv (.t 4))⟩,
  ⟨none, (some 28), (.call 25 true [(.t 24), (.t 25), (.t 26), (.t 27)])⟩,
  ⟨none, (some 11), (.mv (.t 28))⟩])

  (.seq (.reg [
  ⟨none, (some 30), (.mv (.t 11))⟩,
  ⟨none, (some 31), (.call 22 true [(.t 30)])⟩,
  ⟨none, (some 29), (.mv (.t 31))⟩,
  ⟨none, (some 32), (.ext (.t 29) 0)⟩,
  ⟨none, (some 33), (.ext (.t 29) 1)⟩,
  ⟨none, (some 12), (.mv (.t 32))⟩,
  ⟨none, (some 13), (.mv (.t 33))⟩])

  (.seq (.reg [
  ⟨none, (some 35), (.mv (.t 0))⟩,
  ⟨none, (some 36), (.call 22 true [(.t 35)])⟩,
  ⟨none, (some 34), (.mv (.t 36))⟩,
  ⟨none, (some 37), (.ext (.t 34) 0)⟩,
  ⟨none, (some 38), (.ext (.t 34) 1)⟩,
  ⟨none, (some 14), (.mv (.t 37))⟩,
  ⟨none, (some 15), (.mv (.t 38))⟩])

  (.seq (.reg [
  ⟨none, (some 40), (.mv (.t 0))⟩,
  ⟨none, (some 41), (.call 24 true [(.t 40)])⟩,
  ⟨none, (some 39), (.mv (.t 41))⟩,
  ⟨none, (some 42), (.ext (.t 39) 0)⟩,
  ⟨none, (some 43), (.ext (.t 39) 1)⟩,
  ⟨none, (some 16), (.mv (.t 42))⟩,
  ⟨none, (some 17), (.mv (.t 43))⟩])

  (.seq (.draw [(
  ⟨none, (some 44), (.call 11 true [])⟩, (.r 0 0)), (
  ⟨none, (some 45), (.mv (.t 44))⟩, .p), (
  ⟨(some (45, true)), (some 46), (.mv (.t 13))⟩, .p), (
  ⟨(some (45, true)), (some 47), (.bin .neq (.t 46) (.c (.cv (.sc (.int .u16 0)))))⟩, .p), (
  ⟨(some (45, true)), (some 48), (.mv (.t 47))⟩, .p), (
  ⟨(some (48, false)), (some 49), (.mv (.t 12))⟩, .p), (
  ⟨(some (48, false)), (some 50), (.call 20 true [(.t 49)])⟩, (.r 0 0)), (
  ⟨(some (48, false)), (some 51), (.cvBS (.t 50))⟩, (.r 0 0)), (
  ⟨(some (48, false)), (some 52), (.mv (.t 11))⟩, .p), (
  ⟨(some (48, false)), (some 53), (.cvBS (.t 52))⟩, (.r 0 0)), (
  ⟨(some (48, false)), (some 54), (.bin .eql (.t 51) (.t 53))⟩, .p), (
  ⟨(some (45, true)), (some 55), (.pick (.t 48) (.c (.cv (.sc (.bool true)))) (.t 54))⟩, .p), (
  ⟨none, (some 56), (.pick (.t 45) (.t 55) (.c (.cv (.sc (.bool false)))))⟩, .p), (
  ⟨none, (some 57), (.mv (.t 56))⟩, .p), (
  ⟨(some (57, true)), (some 58), (.mv (.t 15))⟩, .p), (
  ⟨(some (57, true)), (some 59), (.bin .neq (.t 58) (.c (.cv (.sc (.int .u16 0)))))⟩, .p), (
  ⟨(some (57, true)), (some 60), (.mv (.t 59))⟩, .p), (
  ⟨(some (60, false)), (some 61), (.mv (.t 14))⟩, .p), (
  ⟨(some (60, false)), (some 62), (.call 20 true [(.t 61)])⟩, (.r 0 0)), (
  ⟨(some (60, false)), (some 63), (.cvBS (.t 62))⟩, (.r 0 0)), (
  ⟨(some (60, false)), (some 64), (.mv (.t 0))⟩, .p), (
  ⟨(some (60, false)), (some 65), (.cvBS (.t 64))⟩, (.r 0 0)), (
  ⟨(some (60, false)), (some 66), (.bin .eql (.t 63) (.t 65))⟩, .p), (
  ⟨(some (57, true)), (some 67), (.pick (.t 60) (.c (.cv (.sc (.bool true)))) (.t 66))⟩, .p), (
  ⟨none, (some 68), (.pick (.t 57) (.t 67) (.c (.cv (.sc (.bool false)))))⟩, .p), (
  ⟨none, (some 69), (.mv (.t 68))⟩, .p), (
  ⟨(some (69, true)), (some 70), (.mv (.t 17))⟩, .p), (
  ⟨(some (69, true)), (some 71), (.bin .neq (.t 70) (.c (.cv (.sc (.int .u16 0)))))⟩, .p), (
  ⟨(some (69, true)), (some 72), (.mv (.t 71))⟩, .p), (
  ⟨(some (72, false)), (some 73), (.mv (.t 16))⟩, .p), (
  ⟨(some (72, false)), (some 74), (.call 30 true [(.t 73)])⟩, (.r 0 0)), (
  ⟨(some (72, false)), (some 75), (.cvBS (.t 74))⟩, (.r 0 0)), (
  ⟨(some (72, false)), (some 76), (.mv (.t 0))⟩, .p), (
  ⟨(some (72, false)), (some 77), (.cvBS (.t 76))⟩, (.r 0 0)), (
  ⟨(some (72, false)), (some 78), (.bin .eql (.t 75) (.t 77))⟩, .p), (
  ⟨(some (69, true)), (some 79), (.pick (.t 72) (.c (.cv (.sc (.bool true)))) (.t 78))⟩, .p), (
  ⟨none, (some 80), (.pick (.t 69) (.t 79) (.c (.cv (.sc (.bool false)))))⟩, .p), (
  ⟨none, (some 10), (.mv (.t 80))⟩, .p)])
  .ret)))))))⟩
theorem f10_ok : compF Proofs.Try.prog [] [] Proofs.Try.f10 = some f10 := by kernel_rfl

def f11 : FnIR := ⟨47, [(.t 0)],

  (.seq (.reg [
  ⟨none, (some 0), (.mv (.c (.cv (.sc (.bool false)))))⟩])

  (.seq (.reg [
  ⟨none, (some 7), (.mksl 1 5 [(.cv (.sc (.int .u8 0))), (.cv (.sc (.int .u8 0))), (.cv (.sc (.int .u8 0))), (.cv (.sc (.int .u8 0))), (.cv (.sc (.int .u8 0)))] [(0, (1, (.c (.cv (.sc (.int .u8 1)))))), (1, (1, (.c (.cv (.sc (.int .u8 1)))))), (2, (1, (.c (.cv (.sc (.int .u8 97)))))), (3, (1, (.c (.cv (.sc (.int .u8 1)))))), (4, (1, (.c (.cv (.sc (.int .u8 49))))))] true)⟩,
  ⟨none, (some 8), (.mrk (.t 7))⟩,
  ⟨none, (some 9), (.call 22 true [(.t 8)])⟩,
  ⟨none, (some 6), (.mv (.t 9))⟩,
  ⟨none, (some 10), (.ext (.t 6) 0)⟩,
  ⟨none, (some 11), (.ext (.t 6) 1)⟩,
  ⟨none, (some 1), (.mv (.t 10))⟩,
  ⟨none, (some 2), (.mv (.t 11))⟩])

  (.seq (.reg [
  ⟨none, (some 13), (.mksl 1 2 [(.cv (.sc (.int .u8 0))), (.cv (.sc (.int .u8 0)))] [(0, (1, (.c (.cv (.sc (.int .u8 128)))))), (1, (1, (.c (.cv (.sc (.int .u8 0))))))] false)⟩,
  ⟨none, (some 14), (.call 13 true [(.t 13), (.c (.cv (.sc (.int .i64 0))))])⟩,
  ⟨none, (some 12), (.mv (.t 14))⟩,
  ⟨none, (some 15), (.ext (.t 12) 0)⟩,
  ⟨none, (some 16), (.ext (.t 12) 1)⟩,
  ⟨none, (some 17), (.ext (.t 12) 2)⟩,
  ⟨none, (some 3), (.mv (.t 15))⟩,
  ⟨none, (some 4), (.mv (.t 16))⟩,
  ⟨none, (some 5), (.mv (.t 17))⟩])

  (.seq (.reg [
  ⟨none, (some 18), (.call 12 true [(.c (.cv (.sc (.int .i64 300))))])⟩,
  ⟨none, (some 19), (.cvBS (.t 18))⟩,
  ⟨none, (some 20), (.bin .eql (.t 19) (.c (.cv (.sc (.string ⟨#[172, 2]⟩)))))⟩,
  ⟨none, (some 21), (.mv (.t 20))⟩,
  ⟨(some (21, true)), (some 22), (.mv (.t 2))⟩,
  ⟨(some (21, true)), (some 23), (.bin .eql (.t 22) (.c (.cv (.sc (.int .u16 0)))))⟩,
  ⟨none, (some 24), (.pick (.t 21) (.t 23) (.c (.cv (.sc (.bool false)))))⟩,
  ⟨none, (some 25), (.mv (.t 24))⟩,
  ⟨(some (25, true)), (some 26), (.mv (.t 1))⟩,
  ⟨(some (25, true)), (some 27), (.len false (.t 26))⟩,
  ⟨(some (25, true)), (some 28), (.bin .eql (.t 27) (.c (.cv (.sc (.int .i64 1)))))⟩,
  ⟨none, (some 29), (.pick (.t 25) (.t 28) (.c (.cv (.sc (.bool false)))))⟩,
  ⟨none, (some 30), (.mv (.t 29))⟩,
  ⟨(some (30, true)), (some 31), (.mv (.t 1))⟩,
  ⟨(some (30, true)), (some 32), (.iadL 2 (.t 31) (.c (.cv (.sc (.int .i64 0)))))⟩,
  ⟨(some (30, true)), (some 33), (.fad 0 (.t 32))⟩,
  ⟨(some (30, true)), (some 34), (.ld false 1 (.t 33))⟩,
  ⟨(some (30, true)), (some 35), (.bin .eql (.t 34) (.c (.cv (.sc (.string ⟨#[97]⟩)))))⟩,
  ⟨none, (some 36), (.pick (.t 30) (.t 35) (.c (.cv (.sc (.bool false)))))⟩,
  ⟨none, (some 37), (.mv (.t 36))⟩,
  ⟨(some (37, true)), (some 38), (.mv (.t 1))⟩,
  ⟨(some (37, true)), (some 39), (.call 20 true [(.t 38)])⟩,
  ⟨(some (37, true)), (some 40), (.cvBS (.t 39))⟩,
  ⟨(some (37, true)), (some 41), (.bin .eql (.t 40) (.c (.cv (.sc (.string ⟨#[1, 1, 97, 1, 49]⟩)))))⟩,
  ⟨none, (some 42), (.pick (.t 37) (.t 41) (.c (.cv (.sc (.bool false)))))⟩,
  ⟨none, (some 43), (.mv (.t 42))⟩,
  ⟨(some (43, true)), (some 44), (.mv (.t 5))⟩,
  ⟨(some (43, true)), (some 45), (.bin .eql (.t 44) (.c (.cv (.sc (.int .u16 11)))))⟩,
  ⟨none, (some 46), (.pick (.t 43) (.t 45) (.c (.cv (.sc (.bool false)))))⟩,
  ⟨none, (some 0), (.mv (.t 46))⟩])
  .ret))))⟩
theorem f11_ok : compF Proofs.Try.prog [] [(1, 0)] Proofs.Try.f11 = some f11 := by kernel_rfl

def f12_0 : IR :=

  (.seq
  (.seq (.reg [
  ⟨none, (some 7), (.mv (.t 0))⟩,
  ⟨none, (some 8), (.bin .gtr (.t 7) (.c (.cv (.sc (.int .i64 127)))))⟩])
  (.cond (.t 8) .skip (.exit 0)))

  (.seq (.block 1 (.reg [
  ⟨none, (some 11), (.mv (.t 3))⟩,
  ⟨none, (some 12), (.mv (.t 0))⟩,
  ⟨none, (some 13), (.cvI .u8 (.t 12))⟩,
  ⟨none, (some 14), (.bin .or (.t 13) (.c (.cv (.sc (.int .u8 128)))))⟩,
  ⟨none, (some 15), (.mksl 1 1 [(.cv (.sc (.int .u8 0)))] [(0, (1, (.t 14)))] false)⟩,
  ⟨none, (some 16), (.app 1 1 [(.sc (.int .u8 0))] (.t 11) (.t 15))⟩,
  ⟨none, (some 3), (.mv (.t 16))⟩]))
  (.reg [
  ⟨none, (some 9), (.mv (.t 0))⟩,
  ⟨none, (some 10), (.bin .shr (.t 9) (.c (.cv (.sc (.int .u64 7)))))⟩,
  ⟨none, (some 0), (.mv (.t 10))⟩])))
def f12 : FnIR := ⟨22, [(.t 2)],

  (.seq (.reg [
  ⟨none, (some 2), (.mv (.c (.cv (.sc (.slice none 0 0)))))⟩])

  (.seq (.reg [
  ⟨none, (some 3), (.mv (.c (.cv (.sc (.slice none 0 0)))))⟩])

  (.seq
  (.seq (.reg [
  ⟨none, (some 4), (.mv (.t 0))⟩,
  ⟨none, (some 5), (.mnmx true [(.t 4), (.c (.cv (.sc (.int .i64 9007199254740992))))])⟩,
  ⟨none, (some 6), (.mnmx false [(.c (.cv (.sc (.int .i64 0)))), (.t 5)])⟩,
  ⟨none, (some 0), (.mv (.t 6))⟩])
  (.block 0 (.loop f12_0)))

  (.seq (.reg [
  ⟨none, (some 17), (.mv (.t 3))⟩,
  ⟨none, (some 18), (.mv (.t 0))⟩,
  ⟨none, (some 19), (.cvI .u8 (.t 18))⟩,
  ⟨none, (some 20), (.mksl 1 1 [(.cv (.sc (.int .u8 0)))] [(0, (1, (.t 19)))] false)⟩,
  ⟨none, (some 21), (.app 1 1 [(.sc (.int .u8 0))] (.t 17) (.t 20))⟩,
  ⟨none, (some 2), (.mv (.t 21))⟩])
  .ret))))⟩
theorem f12_ok : compF Proofs.Try.prog [] [] Proofs.Try.f12 = some f12 := by kernel_rfl

def f13_0 : IR :=

  (.seq
  (.seq (.reg [
  ⟨none, (some 18), (.mv (.t 8))⟩,
  ⟨none, (some 19), (.bin .lss (.t 18) (.c (.cv (.sc (.int .i64 8)))))⟩])
  (.cond (.t 19) .skip (.exit 0)))

  (.seq (.block 1
  (.seq
  (.seq (.reg [
  ⟨none, (some 22), (.mv (.t 1))⟩,
  ⟨none, (some 23), (.mv (.t 8))⟩,
  ⟨none, (some 24), (.bin .add (.t 22) (.t 23))⟩,
  ⟨none, (some 25), (.mv (.t 0))⟩,
  ⟨none, (some 26), (.len false (.t 25))⟩,
  ⟨none, (some 27), (.bin .eql (.t 24) (.t 26))⟩])
  (.cond (.t 27) (.goto 0) .skip))

  (.seq (.reg [
  ⟨none, (some 28), (.mv (.t 0))⟩,
  ⟨none, (some 29), (.mv (.t 1))⟩,
  ⟨none, (some 30), (.mv (.t 8))⟩,
  ⟨none, (some 31), (.bin .add (.t 29) (.t 30))⟩,
  ⟨none, (some 32), (.iadL 1 (.t 28) (.t 31))⟩,
  ⟨none, (some 33), (.ld false 1 (.t 32))⟩,
  ⟨none, (some 9), (.mv (.t 33))⟩])

  (.seq (.reg [
  ⟨none, (some 34), (.mv (.t 7))⟩,
  ⟨none, (some 35), (.mv (.t 9))⟩,
  ⟨none, (some 36), (.bin .and (.t 35) (.c (.cv (.sc (.int .u8 127)))))⟩,
  ⟨none, (some 37), (.cvI .i64 (.t 36))⟩,
  ⟨none, (some 38), (.mv (.t 8))⟩,
  ⟨none, (some 39), (.bin .mul (.c (.cv (.sc (.int .i64 7)))) (.t 38))⟩,
  ⟨none, (some 40), (.bin .shl (.t 37) (.t 39))⟩,
  ⟨none, (some 41), (.bin .or (.t 34) (.t 40))⟩,
  ⟨none, (some 7), (.mv (.t 41))⟩])

  (.seq (.reg [
  ⟨none, (some 42), (.mv (.t 9))⟩,
  ⟨none, (some 43), (.bin .and (.t 42) (.c (.cv (.sc (.int .u8 128)))))⟩,
  ⟨none, (some 44), (.bin .eql (.t 43) (.c (.cv (.sc (.int .u8 0)))))⟩])
  (.cond (.t 44)
  (.seq
  (.seq (.reg [
  ⟨none, (some 45), (.mv (.t 9))⟩,
  ⟨none, (some 46), (.bin .eql (.t 45) (.c (.cv (.sc (.int .u8 0)))))⟩,
  ⟨none, (some 47), (.mv (.t 46))⟩,
  ⟨(some (47, true)), (some 48), (.mv (.t 8))⟩,
  ⟨(some (47, true)), (some 49), (.bin .gtr (.t 48) (.c (.cv (.sc (.int .i64 0)))))⟩,
  ⟨none, (some 50), (.pick (.t 47) (.t 49) (.c (.cv (.sc (.bool false)))))⟩,
  ⟨none, (some 51), (.mv (.t 50))⟩,
  ⟨(some (51, false)), (some 52), (.mv (.t 7))⟩,
  ⟨(some (51, false)), (some 53), (.bin .gtr (.t 52) (.c (.cv (.sc (.int .i64 9007199254740992)))))⟩,
  ⟨none, (some 54), (.pick (.t 51) (.c (.cv (.sc (.bool true)))) (.t 53))⟩])
  (.cond (.t 54) (.goto 1) .skip))

  (.seq (.reg [
  ⟨none, (some 55), (.mv (.t 7))⟩,
  ⟨none, (some 56), (.mv (.t 1))⟩,
  ⟨none, (some 57), (.mv (.t 8))⟩,
  ⟨none, (some 58), (.bin .add (.t 56) (.t 57))⟩,
  ⟨none, (some 59), (.bin .add (.t 58) (.c (.cv (.sc (.int .i64 1)))))⟩,
  ⟨none, (some 4), (.mv (.t 55))⟩,
  ⟨none, (some 5), (.mv (.t 59))⟩,
  ⟨none, (some 6), (.mv (.c (.cv (.sc (.int .u16 0)))))⟩])
  .ret)) .skip))))))
  (.reg [
  ⟨none, (some 20), (.mv (.t 8))⟩,
  ⟨none, (some 21), (.bin .add (.t 20) (.c (.cv (.sc (.int .i64 1)))))⟩,
  ⟨none, (some 8), (.mv (.t 21))⟩])))
def f13_1 : IR :=

  (.seq (.reg [
  ⟨none, (some 7), (.mv (.c (.cv (.sc (.int .i64 0)))))⟩,
  ⟨none, (some 8), (.mv (.c (.cv (.sc (.int .i64 0)))))⟩])

  (.seq
  (.seq (.reg [
  ⟨none, (some 10), (.mv (.t 1))⟩,
  ⟨none, (some 11), (.bin .lss (.t 10) (.c (.cv (.sc (.int .i64 0)))))⟩,
  ⟨none, (some 12), (.mv (.t 11))⟩,
  ⟨(some (12, false)), (some 13), (.mv (.t 1))⟩,
  ⟨(some (12, false)), (some 14), (.mv (.t 0))⟩,
  ⟨(some (12, false)), (some 15), (.len false (.t 14))⟩,
  ⟨(some (12, false)), (some 16), (.bin .gtr (.t 13) (.t 15))⟩,
  ⟨none, (some 17), (.pick (.t 12) (.c (.cv (.sc (.bool true)))) (.t 16))⟩])
  (.cond (.t 17) (.goto 0) .skip))

  (.seq (.block 0 (.loop f13_0))

  (.seq (.label 1)

  (.seq
  (.seq (.reg [
  ⟨none, (some 4), (.mv (.c (.cv (.sc (.int .i64 0)))))⟩,
  ⟨none, (some 5), (.mv (.c (.cv (.sc (.int .i64 0)))))⟩,
  ⟨none, (some 6), (.mv (.c (.cv (.sc (.int .u16 11)))))⟩])
  .ret)

  (.seq (.label 0)

  (.seq (.reg [
  ⟨none, (some 4), (.mv (.c (.cv (.sc (.int .i64 0)))))⟩,
  ⟨none, (some 5), (.mv (.c (.cv (.sc (.int .i64 0)))))⟩,
  ⟨none, (some 6), (.mv (.c (.cv (.sc (.int .u16 10)))))⟩])
  .ret)))))))
def f13 : FnIR := ⟨60, [(.t 4), (.t 5), (.t 6)],

  (.seq (.reg [
  ⟨none, (some 4), (.mv (.c (.cv (.sc (.int .i64 0)))))⟩,
  ⟨none, (some 5), (.mv (.c (.cv (.sc (.int .i64 0)))))⟩,
  ⟨none, (some 6), (.mv (.c (.cv (.sc (.int .u16 0)))))⟩])
  (.scope f13_1))⟩
theorem f13_ok : compF Proofs.Try.prog [] [] Proofs.Try.f13 = some f13 := by kernel_rfl

def f14 : FnIR := ⟨8, [(.t 2)],

  (.seq (.reg [
  ⟨none, (some 2), (.mv (.c (.cv (.sc (.slice none 0 0)))))⟩])

  (.seq (.reg [
  ⟨none, (some 3), (.mv (.t 0))⟩,
  ⟨none, (some 4), (.len true (.t 3))⟩,
  ⟨none, (some 5), (.call 12 false [(.t 4)])⟩,
  ⟨none, (some 6), (.mv (.t 0))⟩,
  ⟨none, (some 7), (.app 1 1 [(.sc (.int .u8 0))] (.t 5) (.t 6))⟩,
  ⟨none, (some 2), (.mv (.t 7))⟩])
  .ret))⟩
theorem f14_ok : compF Proofs.Try.prog [12] [] Proofs.Try.f14 = some f14 := by kernel_rfl

def f15 : FnIR := ⟨44, [(.t 6), (.t 7), (.t 8)],

  (.seq (.reg [
  ⟨none, (some 6), (.mv (.c (.cv (.sc (.string ⟨#[]⟩)))))⟩,
  ⟨none, (some 7), (.mv (.c (.cv (.sc (.int .i64 0)))))⟩,
  ⟨none, (some 8), (.mv (.c (.cv (.sc (.int .u16 0)))))⟩])

  (.seq (.reg [
  ⟨none, (some 13), (.mv (.t 0))⟩,
  ⟨none, (some 14), (.mv (.t 1))⟩,
  ⟨none, (some 15), (.call 13 true [(.t 13), (.t 14)])⟩,
  ⟨none, (some 12), (.mv (.t 15))⟩,
  ⟨none, (some 16), (.ext (.t 12) 0)⟩,
  ⟨none, (some 17), (.ext (.t 12) 1)⟩,
  ⟨none, (some 18), (.ext (.t 12) 2)⟩,
  ⟨none, (some 9), (.mv (.t 16))⟩,
  ⟨none, (some 10), (.mv (.t 17))⟩,
  ⟨none, (some 11), (.mv (.t 18))⟩])

  (.seq (.block 0
  (.seq (.reg [
  ⟨none, (some 20), (.mv (.t 11))⟩,
  ⟨none, (some 21), (.bin .neq (.t 20) (.c (.cv (.sc (.int .u16 0)))))⟩,
  ⟨none, (some 19), (.mv (.t 21))⟩])
  (.cond (.t 19)
  (.seq (.reg [
  ⟨none, (some 22), (.mv (.t 11))⟩,
  ⟨none, (some 6), (.mv (.c (.cv (.sc (.string ⟨#[]⟩)))))⟩,
  ⟨none, (some 7), (.mv (.c (.cv (.sc (.int .i64 0)))))⟩,
  ⟨none, (some 8), (.mv (.t 22))⟩])
  .ret)
  (.seq (.reg [
  ⟨none, (some 24), (.mv (.t 9))⟩,
  ⟨none, (some 25), (.mv (.t 2))⟩,
  ⟨none, (some 26), (.bin .gtr (.t 24) (.t 25))⟩,
  ⟨none, (some 23), (.mv (.t 26))⟩])
  (.cond (.t 23)
  (.seq (.reg [
  ⟨none, (some 6), (.mv (.c (.cv (.sc (.string ⟨#[]⟩)))))⟩,
  ⟨none, (some 7), (.mv (.c (.cv (.sc (.int .i64 0)))))⟩,
  ⟨none, (some 8), (.mv (.c (.cv (.sc (.int .u16 3)))))⟩])
  .ret)
  (.seq (.reg [
  ⟨none, (some 28), (.mv (.t 9))⟩,
  ⟨none, (some 29), (.mv (.t 0))⟩,
  ⟨none, (some 30), (.len false (.t 29))⟩,
  ⟨none, (some 31), (.mv (.t 10))⟩,
  ⟨none, (some 32), (.bin .sub (.t 30) (.t 31))⟩,
  ⟨none, (some 33), (.bin .gtr (.t 28) (.t 32))⟩,
  ⟨none, (some 27), (.mv (.t 33))⟩])
  (.cond (.t 27)
  (.seq (.reg [
  ⟨none, (some 6), (.mv (.c (.cv (.sc (.string ⟨#[]⟩)))))⟩,
  ⟨none, (some 7), (.mv (.c (.cv (.sc (.int .i64 0)))))⟩,
  ⟨none, (some 8), (.mv (.c (.cv (.sc (.int .u16 10)))))⟩])
  .ret) .skip)))))))

  (.seq (.reg [
  ⟨none, (some 34), (.mv (.t 0))⟩,
  ⟨none, (some 35), (.mv (.t 10))⟩,
  ⟨none, (some 36), (.mv (.t 10))⟩,
  ⟨none, (some 37), (.mv (.t 9))⟩,
  ⟨none, (some 38), (.bin .add (.t 36) (.t 37))⟩,
  ⟨none, (some 39), (.slL 1 (.t 34) (some (.t 35)) (some (.t 38)) none)⟩,
  ⟨none, (some 40), (.cvBS (.t 39))⟩,
  ⟨none, (some 41), (.mv (.t 10))⟩,
  ⟨none, (some 42), (.mv (.t 9))⟩,
  ⟨none, (some 43), (.bin .add (.t 41) (.t 42))⟩,
  ⟨none, (some 6), (.mv (.t 40))⟩,
  ⟨none, (some 7), (.mv (.t 43))⟩,
  ⟨none, (some 8), (.mv (.c (.cv (.sc (.int .u16 0)))))⟩])
  .ret))))⟩
theorem f15_ok : compF Proofs.Try.prog [] [] Proofs.Try.f15 = some f15 := by kernel_rfl

def f16_0 : IR :=

  (.seq
  (.seq (.reg [
  ⟨none, (some 7), (.mv (.t 4))⟩,
  ⟨none, (some 8), (.mv (.t 0))⟩,
  ⟨none, (some 9), (.len false (.t 8))⟩,
  ⟨none, (some 10), (.bin .lss (.t 7) (.t 9))⟩])
  (.cond (.t 10) .skip (.exit 0)))

  (.seq (.block 1 (.draw [(
  ⟨none, (some 13), (.mv (.t 3))⟩, .p), (
  ⟨none, (some 14), (.mv (.t 0))⟩, .p), (
  ⟨none, (some 15), (.mv (.t 4))⟩, .p), (
  ⟨none, (some 16), (.iadL 2 (.t 14) (.t 15))⟩, (.r 0 0)), (
  ⟨none, (some 17), (.fad 0 (.t 16))⟩, .p), (
  ⟨none, (some 18), (.ld false 1 (.t 17))⟩, (.r 0 0)), (
  ⟨none, (some 19), (.len true (.t 18))⟩, .p), (
  ⟨none, (some 20), (.mv (.t 0))⟩, .p), (
  ⟨none, (some 21), (.mv (.t 4))⟩, .p), (
  ⟨none, (some 22), (.iadL 2 (.t 20) (.t 21))⟩, (.r 0 0)), (
  ⟨none, (some 23), (.fad 1 (.t 22))⟩, .p), (
  ⟨none, (some 24), (.ld false 1 (.t 23))⟩, (.r 0 0)), (
  ⟨none, (some 25), (.len false (.t 24))⟩, .p), (
  ⟨none, (some 26), (.bin .add (.t 19) (.t 25))⟩, .p), (
  ⟨none, (some 27), (.bin .add (.t 13) (.t 26))⟩, .p), (
  ⟨none, (some 3), (.mv (.t 27))⟩, .p)]))
  (.reg [
  ⟨none, (some 11), (.mv (.t 4))⟩,
  ⟨none, (some 12), (.bin .add (.t 11) (.c (.cv (.sc (.int .i64 1)))))⟩,
  ⟨none, (some 4), (.mv (.t 12))⟩])))
def f16 : FnIR := ⟨30, [(.t 2)],

  (.seq (.reg [
  ⟨none, (some 2), (.mv (.c (.cv (.sc (.bool false)))))⟩])

  (.seq (.reg [
  ⟨none, (some 5), (.mv (.t 0))⟩,
  ⟨none, (some 6), (.len false (.t 5))⟩,
  ⟨none, (some 3), (.mv (.t 6))⟩])

  (.seq
  (.seq (.reg [
  ⟨none, (some 4), (.mv (.c (.cv (.sc (.int .i64 0)))))⟩])
  (.block 0 (.loop f16_0)))

  (.seq (.reg [
  ⟨none, (some 28), (.mv (.t 3))⟩,
  ⟨none, (some 29), (.bin .gtr (.t 28) (.c (.cv (.sc (.int .i64 1500)))))⟩,
  ⟨none, (some 2), (.mv (.t 29))⟩])
  .ret))))⟩
theorem f16_ok : compF Proofs.Try.prog [] [] Proofs.Try.f16 = some f16 := by kernel_rfl

def f17_0 : IR :=

  (.seq
  (.seq (.reg [
  ⟨none, (some 44), (.mv (.t 8))⟩,
  ⟨none, (some 45), (.mv (.t 7))⟩,
  ⟨none, (some 46), (.len false (.t 45))⟩,
  ⟨none, (some 47), (.bin .lss (.t 44) (.t 46))⟩])
  (.cond (.t 47) .skip (.exit 2)))

  (.seq (.block 3 (.reg [
  ⟨none, (some 50), (.mv (.t 7))⟩,
  ⟨none, (some 51), (.mv (.t 8))⟩,
  ⟨none, (some 52), (.mv (.t 0))⟩,
  ⟨none, (some 53), (.mv (.t 6))⟩,
  ⟨none, (some 54), (.bin .add (.t 53) (.c (.cv (.sc (.int .i64 1)))))⟩,
  ⟨none, (some 55), (.iadL 1 (.t 52) (.t 54))⟩,
  ⟨none, (some 56), (.ld false 1 (.t 55))⟩,
  ⟨none, (some 57), (.mv (.t 8))⟩,
  ⟨none, (some 58), (.cvI .u8 (.t 57))⟩,
  ⟨none, (some 59), (.bin .add (.t 56) (.t 58))⟩,
  ⟨none, (some 60), (.iadL 1 (.t 50) (.t 51))⟩,
  ⟨none, none, (.st 1 (.t 60) (.t 59))⟩]))
  (.reg [
  ⟨none, (some 48), (.mv (.t 8))⟩,
  ⟨none, (some 49), (.bin .add (.t 48) (.c (.cv (.sc (.int .i64 1)))))⟩,
  ⟨none, (some 8), (.mv (.t 49))⟩])))
def f17_1 : IR :=

  (.seq
  (.seq (.reg [
  ⟨none, (some 9), (.mv (.t 6))⟩,
  ⟨none, (some 10), (.bin .add (.t 9) (.c (.cv (.sc (.int .i64 1)))))⟩,
  ⟨none, (some 11), (.mv (.t 0))⟩,
  ⟨none, (some 12), (.len false (.t 11))⟩,
  ⟨none, (some 13), (.bin .lss (.t 10) (.t 12))⟩,
  ⟨none, (some 14), (.mv (.t 13))⟩,
  ⟨(some (14, true)), (some 15), (.mv (.t 6))⟩,
  ⟨(some (14, true)), (some 16), (.mv (.t 1))⟩,
  ⟨(some (14, true)), (some 17), (.bin .mul (.c (.cv (.sc (.int .i64 2)))) (.t 16))⟩,
  ⟨(some (14, true)), (some 18), (.bin .lss (.t 15) (.t 17))⟩,
  ⟨none, (some 19), (.pick (.t 14) (.t 18) (.c (.cv (.sc (.bool false)))))⟩])
  (.cond (.t 19) .skip (.exit 0)))

  (.seq (.block 1
  (.seq (.reg [
  ⟨none, (some 22), (.mv (.t 0))⟩,
  ⟨none, (some 23), (.mv (.t 6))⟩,
  ⟨none, (some 24), (.bin .add (.t 23) (.c (.cv (.sc (.int .i64 1)))))⟩,
  ⟨none, (some 25), (.iadL 1 (.t 22) (.t 24))⟩,
  ⟨none, (some 26), (.ld false 1 (.t 25))⟩,
  ⟨none, (some 27), (.bin .rem (.t 26) (.c (.cv (.sc (.int .u8 40)))))⟩,
  ⟨none, (some 28), (.cvI .i64 (.t 27))⟩,
  ⟨none, (some 29), (.mks 1 1 [(.sc (.int .u8 0))] (.t 28) (.t 28) true)⟩,
  ⟨none, (some 7), (.mv (.t 29))⟩])

  (.seq
  (.seq (.reg [
  ⟨none, (some 30), (.mv (.t 0))⟩,
  ⟨none, (some 31), (.mv (.t 6))⟩,
  ⟨none, (some 32), (.iadL 1 (.t 30) (.t 31))⟩,
  ⟨none, (some 33), (.ld false 1 (.t 32))⟩,
  ⟨none, (some 34), (.bin .gtr (.t 33) (.c (.cv (.sc (.int .u8 230)))))⟩])
  (.cond (.t 34) (.reg [
  ⟨none, (some 35), (.mv (.t 0))⟩,
  ⟨none, (some 36), (.mv (.t 6))⟩,
  ⟨none, (some 37), (.bin .add (.t 36) (.c (.cv (.sc (.int .i64 1)))))⟩,
  ⟨none, (some 38), (.iadL 1 (.t 35) (.t 37))⟩,
  ⟨none, (some 39), (.ld false 1 (.t 38))⟩,
  ⟨none, (some 40), (.bin .rem (.t 39) (.c (.cv (.sc (.int .u8 50)))))⟩,
  ⟨none, (some 41), (.cvI .i64 (.t 40))⟩,
  ⟨none, (some 42), (.bin .add (.c (.cv (.sc (.int .i64 100)))) (.t 41))⟩,
  ⟨none, (some 43), (.mks 1 1 [(.sc (.int .u8 0))] (.t 42) (.t 42) true)⟩,
  ⟨none, (some 7), (.mv (.t 43))⟩]) .skip))

  (.seq
  (.seq (.reg [
  ⟨none, (some 8), (.mv (.c (.cv (.sc (.int .i64 0)))))⟩])
  (.block 2 (.loop f17_0)))
  (.draw [(
  ⟨none, (some 61), (.mv (.t 5))⟩, .p), (
  ⟨none, (some 62), (.mv (.t 0))⟩, .p), (
  ⟨none, (some 63), (.mv (.t 6))⟩, .p), (
  ⟨none, (some 64), (.iadL 1 (.t 62) (.t 63))⟩, (.r 0 0)), (
  ⟨none, (some 65), (.ld false 1 (.t 64))⟩, (.r 0 0)), (
  ⟨none, (some 66), (.bin .rem (.t 65) (.c (.cv (.sc (.int .u8 16)))))⟩, .p), (
  ⟨none, (some 67), (.bin .add (.c (.cv (.sc (.int .u8 97)))) (.t 66))⟩, .p), (
  ⟨none, (some 68), (.mv (.t 0))⟩, .p), (
  ⟨none, (some 69), (.mv (.t 6))⟩, .p), (
  ⟨none, (some 70), (.iadL 1 (.t 68) (.t 69))⟩, (.r 0 0)), (
  ⟨none, (some 71), (.ld false 1 (.t 70))⟩, (.r 0 0)), (
  ⟨none, (some 72), (.bin .quo (.t 71) (.c (.cv (.sc (.int .u8 16)))))⟩, .p), (
  ⟨none, (some 73), (.bin .rem (.t 72) (.c (.cv (.sc (.int .u8 4)))))⟩, .p), (
  ⟨none, (some 74), (.bin .add (.c (.cv (.sc (.int .u8 97)))) (.t 73))⟩, .p), (
  ⟨none, (some 75), (.mksl 1 2 [(.cv (.sc (.int .u8 0))), (.cv (.sc (.int .u8 0)))] [(0, (1, (.t 67))), (1, (1, (.t 74)))] false)⟩, (.r 0 0)), (
  ⟨none, (some 76), (.cvBS (.t 75))⟩, (.r 0 0)), (
  ⟨none, (some 77), (.mv (.t 7))⟩, .p), (
  ⟨none, (some 78), (.build [(.cv (.sc (.string ⟨#[]⟩))), (.cv (.sc (.slice none 0 0)))] [(0, (1, (.t 76))), (1, (1, (.t 77)))])⟩, .p), (
  ⟨none, (some 79), (.mksl 2 1 [(.cv (.sc (.string ⟨#[]⟩))), (.cv (.sc (.slice none 0 0)))] [(0, (2, (.t 78)))] true)⟩, .k), (
  ⟨none, (some 80), (.app 2 40 [(.sc (.string ⟨#[]⟩)), (.sc (.slice none 0 0))] (.t 61) (.t 79))⟩, .k), (
  ⟨none, (some 5), (.mv (.t 80))⟩, .p)])))))
  (.reg [
  ⟨none, (some 20), (.mv (.t 6))⟩,
  ⟨none, (some 21), (.bin .add (.t 20) (.c (.cv (.sc (.int .i64 2)))))⟩,
  ⟨none, (some 6), (.mv (.t 21))⟩])))
def f17 : FnIR := ⟨82, [(.t 4)],

  (.seq (.reg [
  ⟨none, (some 4), (.mv (.c (.cv (.sc (.slice none 0 0)))))⟩])

  (.seq (.reg [
  ⟨none, (some 5), (.mv (.c (.cv (.sc (.slice none 0 0)))))⟩])

  (.seq
  (.seq (.reg [
  ⟨none, (some 6), (.mv (.c (.cv (.sc (.int .i64 0)))))⟩])
  (.block 0 (.loop f17_1)))

  (.seq (.reg [
  ⟨none, (some 81), (.mv (.t 5))⟩,
  ⟨none, (some 4), (.mv (.t 81))⟩])
  .ret))))⟩
theorem f17_ok : compF Proofs.Try.prog [] [(5, 7), (7, 8), (12, 18)] Proofs.Try.f17 = some f17 := by kernel_rfl

def f18_0 : IR :=

  (.seq
  (.seq (.reg [
  ⟨none, (some 7), (.mv (.t 0))⟩,
  ⟨none, (some 8), (.bin .gtr (.t 7) (.c (.cv (.sc (.int .i64 127)))))⟩])
  (.cond (.t 8) .skip (.exit 0)))
  (.block 1
  (.seq (.reg [
  ⟨none, (some 9), (.mv (.t 3))⟩,
  ⟨none, (some 10), (.mv (.t 0))⟩,
  ⟨none, (some 11), (.bin .rem (.t 10) (.c (.cv (.sc (.int .i64 128)))))⟩,
  ⟨none, (some 12), (.bin .add (.c (.cv (.sc (.int .i64 128)))) (.t 11))⟩,
  ⟨none, (some 13), (.cvI .u8 (.t 12))⟩,
  ⟨none, (some 14), (.mksl 1 1 [(.cv (.sc (.int .u8 0)))] [(0, (1, (.t 13)))] false)⟩,
  ⟨none, (some 15), (.app 1 1 [(.sc (.int .u8 0))] (.t 9) (.t 14))⟩,
  ⟨none, (some 3), (.mv (.t 15))⟩])
  (.reg [
  ⟨none, (some 16), (.mv (.t 0))⟩,
  ⟨none, (some 17), (.bin .quo (.t 16) (.c (.cv (.sc (.int .i64 128)))))⟩,
  ⟨none, (some 0), (.mv (.t 17))⟩]))))
def f18 : FnIR := ⟨24, [(.t 2)],

  (.seq (.reg [
  ⟨none, (some 2), (.mv (.c (.cv (.sc (.slice none 0 0)))))⟩])

  (.seq (.reg [
  ⟨none, (some 4), (.mv (.t 0))⟩,
  ⟨none, (some 5), (.mnmx true [(.t 4), (.c (.cv (.sc (.int .i64 9007199254740992))))])⟩,
  ⟨none, (some 6), (.mnmx false [(.c (.cv (.sc (.int .i64 0)))), (.t 5)])⟩,
  ⟨none, (some 0), (.mv (.t 6))⟩])

  (.seq (.reg [
  ⟨none, (some 3), (.mv (.c (.cv (.sc (.slice none 0 0)))))⟩])

  (.seq (.block 0 (.loop f18_0))

  (.seq (.reg [
  ⟨none, (some 18), (.mv (.t 3))⟩,
  ⟨none, (some 19), (.mv (.t 0))⟩,
  ⟨none, (some 20), (.cvI .u8 (.t 19))⟩,
  ⟨none, (some 21), (.mksl 1 1 [(.cv (.sc (.int .u8 0)))] [(0, (1, (.t 20)))] false)⟩,
  ⟨none, (some 22), (.app 1 1 [(.sc (.int .u8 0))] (.t 18) (.t 21))⟩,
  ⟨none, (some 3), (.mv (.t 22))⟩])

  (.seq (.reg [
  ⟨none, (some 23), (.mv (.t 3))⟩,
  ⟨none, (some 2), (.mv (.t 23))⟩])
  .ret))))))⟩
theorem f18_ok : compF Proofs.Try.prog [] [] Proofs.Try.f18 = some f18 := by kernel_rfl

def f19 : FnIR := ⟨9, [(.t 2)],

  (.seq (.reg [
  ⟨none, (some 2), (.mv (.c (.cv (.sc (.slice none 0 0)))))⟩])

  (.seq (.reg [
  ⟨none, (some 3), (.mv (.t 0))⟩,
  ⟨none, (some 4), (.len true (.t 3))⟩,
  ⟨none, (some 5), (.call 18 true [(.t 4)])⟩,
  ⟨none, (some 6), (.mv (.t 0))⟩,
  ⟨none, (some 7), (.cvSB false (.t 6))⟩,
  ⟨none, (some 8), (.call 31 true [(.t 5), (.t 7)])⟩,
  ⟨none, (some 2), (.mv (.t 8))⟩])
  .ret))⟩
theorem f19_ok : compF Proofs.Try.prog [] [] Proofs.Try.f19 = some f19 := by kernel_rfl

def f20_0 : IR :=

  (.seq (.reg [
  ⟨none, (some 12), (.bin .lss (.t 11) (.t 10))⟩])

  (.seq (.cond (.t 12) .skip (.exit 0))

  (.seq (.block 1
  (.seq (.reg [
  ⟨none, (some 13), (.iadL 2 (.t 9) (.t 11))⟩,
  ⟨none, (some 14), (.ld true 2 (.t 13))⟩,
  ⟨none, (some 5), (.alloc [(.cv (.sc (.string ⟨#[]⟩))), (.cv (.sc (.slice none 0 0)))])⟩,
  ⟨none, none, (.st 2 (.t 5) (.t 14))⟩])

  (.seq (.reg [
  ⟨none, (some 15), (.mv (.t 3))⟩,
  ⟨none, (some 16), (.fad 0 (.t 5))⟩,
  ⟨none, (some 17), (.ld false 1 (.t 16))⟩,
  ⟨none, (some 18), (.call 14 true [(.t 17)])⟩,
  ⟨none, (some 19), (.app 1 1 [(.sc (.int .u8 0))] (.t 15) (.t 18))⟩,
  ⟨none, (some 3), (.mv (.t 19))⟩])
  (.reg [
  ⟨none, (some 20), (.mv (.t 3))⟩,
  ⟨none, (some 21), (.fad 1 (.t 5))⟩,
  ⟨none, (some 22), (.ld false 1 (.t 21))⟩,
  ⟨none, (some 23), (.cvBS (.t 22))⟩,
  ⟨none, (some 24), (.call 14 true [(.t 23)])⟩,
  ⟨none, (some 25), (.app 1 1 [(.sc (.int .u8 0))] (.t 20) (.t 24))⟩,
  ⟨none, (some 3), (.mv (.t 25))⟩]))))
  (.reg [
  ⟨none, (some 26), (.bin .add (.t 11) (.c (.cv (.sc (.int .i64 1)))))⟩,
  ⟨none, (some 11), (.mv (.t 26))⟩]))))
def f20 : FnIR := ⟨28, [(.t 2)],

  (.seq (.reg [
  ⟨none, (some 2), (.mv (.c (.cv (.sc (.slice none 0 0)))))⟩])

  (.seq (.reg [
  ⟨none, (some 6), (.mv (.t 0))⟩,
  ⟨none, (some 7), (.len false (.t 6))⟩,
  ⟨none, (some 8), (.call 12 false [(.t 7)])⟩,
  ⟨none, (some 3), (.mv (.t 8))⟩])

  (.seq
  (.seq (.reg [
  ⟨none, (some 9), (.mv (.t 0))⟩,
  ⟨none, (some 10), (.len false (.t 9))⟩,
  ⟨none, (some 11), (.mv (.c (.cv (.sc (.int .i64 0)))))⟩])
  (.block 0 (.loop f20_0)))

  (.seq (.reg [
  ⟨none, (some 27), (.mv (.t 3))⟩,
  ⟨none, (some 2), (.mv (.t 27))⟩])
  .ret))))⟩
theorem f20_ok : compF Proofs.Try.prog [12] [] Proofs.Try.f20 = some f20 := by kernel_rfl

def f21_0 : IR :=

  (.seq
  (.seq (.reg [
  ⟨none, (some 8), (.mv (.t 4))⟩,
  ⟨none, (some 9), (.mv (.t 0))⟩,
  ⟨none, (some 10), (.len false (.t 9))⟩,
  ⟨none, (some 11), (.bin .lss (.t 8) (.t 10))⟩])
  (.cond (.t 11) .skip (.exit 0)))

  (.seq (.block 1 (.draw [(
  ⟨none, (some 14), (.mv (.t 3))⟩, .p), (
  ⟨none, (some 15), (.mv (.t 0))⟩, .p), (
  ⟨none, (some 16), (.mv (.t 4))⟩, .p), (
  ⟨none, (some 17), (.iadL 2 (.t 15) (.t 16))⟩, (.r 0 0)), (
  ⟨none, (some 18), (.fad 0 (.t 17))⟩, .p), (
  ⟨none, (some 19), (.ld false 1 (.t 18))⟩, (.r 0 0)), (
  ⟨none, (some 20), (.call 19 true [(.t 19)])⟩, (.r 0 0)), (
  ⟨none, (some 21), (.call 31 true [(.t 14), (.t 20)])⟩, (.r 0 0)), (
  ⟨none, (some 22), (.mv (.t 0))⟩, .p), (
  ⟨none, (some 23), (.mv (.t 4))⟩, .p), (
  ⟨none, (some 24), (.iadL 2 (.t 22) (.t 23))⟩, (.r 0 0)), (
  ⟨none, (some 25), (.fad 1 (.t 24))⟩, .p), (
  ⟨none, (some 26), (.ld false 1 (.t 25))⟩, (.r 0 0)), (
  ⟨none, (some 27), (.cvBS (.t 26))⟩, (.r 0 0)), (
  ⟨none, (some 28), (.call 19 true [(.t 27)])⟩, (.r 0 0)), (
  ⟨none, (some 29), (.call 31 true [(.t 21), (.t 28)])⟩, (.r 0 0)), (
  ⟨none, (some 3), (.mv (.t 29))⟩, .p)]))
  (.reg [
  ⟨none, (some 12), (.mv (.t 4))⟩,
  ⟨none, (some 13), (.bin .add (.t 12) (.c (.cv (.sc (.int .i64 1)))))⟩,
  ⟨none, (some 4), (.mv (.t 13))⟩])))
def f21 : FnIR := ⟨31, [(.t 2)],

  (.seq (.reg [
  ⟨none, (some 2), (.mv (.c (.cv (.sc (.slice none 0 0)))))⟩])

  (.seq (.reg [
  ⟨none, (some 5), (.mv (.t 0))⟩,
  ⟨none, (some 6), (.len false (.t 5))⟩,
  ⟨none, (some 7), (.call 18 true [(.t 6)])⟩,
  ⟨none, (some 3), (.mv (.t 7))⟩])

  (.seq
  (.seq (.reg [
  ⟨none, (some 4), (.mv (.c (.cv (.sc (.int .i64 0)))))⟩])
  (.block 0 (.loop f21_0)))

  (.seq (.reg [
  ⟨none, (some 30), (.mv (.t 3))⟩,
  ⟨none, (some 2), (.mv (.t 30))⟩])
  .ret))))⟩
theorem f21_ok : compF Proofs.Try.prog [] [] Proofs.Try.f21 = some f21 := by kernel_rfl

def f22 : FnIR := ⟨8, [(.t 2), (.t 3)],

  (.seq (.reg [
  ⟨none, (some 2), (.mv (.c (.cv (.sc (.slice none 0 0)))))⟩,
  ⟨none, (some 3), (.mv (.c (.cv (.sc (.int .u16 0)))))⟩])

  (.seq (.reg [
  ⟨none, (some 4), (.mv (.t 0))⟩,
  ⟨none, (some 5), (.call 32 true [(.t 4), (.c (.func 33 []))])⟩,
  ⟨none, (some 6), (.ext (.t 5) 0)⟩,
  ⟨none, (some 7), (.ext (.t 5) 1)⟩,
  ⟨none, (some 2), (.mv (.t 6))⟩,
  ⟨none, (some 3), (.mv (.t 7))⟩])
  .ret))⟩
theorem f22_ok : compF Proofs.Try.prog [] [] Proofs.Try.f22 = some f22 := by kernel_rfl

def f23_0 : IR :=

  (.seq (.reg [
  ⟨none, (some 6), (.mv (.t 0))⟩,
  ⟨none, (some 7), (.len false (.t 6))⟩,
  ⟨none, (some 8), (.mv (.t 1))⟩,
  ⟨none, (some 9), (.len false (.t 8))⟩,
  ⟨none, (some 10), (.bin .neq (.t 7) (.t 9))⟩])
  (.cond (.t 10)
  (.seq (.reg [
  ⟨none, (some 4), (.mv (.c (.cv (.sc (.bool false)))))⟩])
  .ret) .skip))
def f23_1 : IR :=

  (.seq
  (.seq (.reg [
  ⟨none, (some 11), (.mv (.t 5))⟩,
  ⟨none, (some 12), (.mv (.t 0))⟩,
  ⟨none, (some 13), (.len false (.t 12))⟩,
  ⟨none, (some 14), (.bin .lss (.t 11) (.t 13))⟩])
  (.cond (.t 14) .skip (.exit 0)))

  (.seq (.block 1
  (.seq (.draw [(
  ⟨none, (some 17), (.mv (.t 0))⟩, .p), (
  ⟨none, (some 18), (.mv (.t 5))⟩, .p), (
  ⟨none, (some 19), (.iadL 2 (.t 17) (.t 18))⟩, (.r 0 0)), (
  ⟨none, (some 20), (.fad 0 (.t 19))⟩, .p), (
  ⟨none, (some 21), (.ld false 1 (.t 20))⟩, (.r 0 0)), (
  ⟨none, (some 22), (.mv (.t 1))⟩, .p), (
  ⟨none, (some 23), (.mv (.t 5))⟩, .p), (
  ⟨none, (some 24), (.iadL 2 (.t 22) (.t 23))⟩, (.r 0 0)), (
  ⟨none, (some 25), (.fad 0 (.t 24))⟩, .p), (
  ⟨none, (some 26), (.ld false 1 (.t 25))⟩, (.r 0 0)), (
  ⟨none, (some 27), (.bin .neq (.t 21) (.t 26))⟩, .p), (
  ⟨none, (some 28), (.mv (.t 27))⟩, .p), (
  ⟨(some (28, false)), (some 29), (.mv (.t 0))⟩, .p), (
  ⟨(some (28, false)), (some 30), (.mv (.t 5))⟩, .p), (
  ⟨(some (28, false)), (some 31), (.iadL 2 (.t 29) (.t 30))⟩, (.r 0 0)), (
  ⟨(some (28, false)), (some 32), (.fad 1 (.t 31))⟩, .p), (
  ⟨(some (28, false)), (some 33), (.ld false 1 (.t 32))⟩, (.r 0 0)), (
  ⟨(some (28, false)), (some 34), (.cvBS (.t 33))⟩, (.r 0 0)), (
  ⟨(some (28, false)), (some 35), (.mv (.t 1))⟩, .p), (
  ⟨(some (28, false)), (some 36), (.mv (.t 5))⟩, .p), (
  ⟨(some (28, false)), (some 37), (.iadL 2 (.t 35) (.t 36))⟩, (.r 0 0)), (
  ⟨(some (28, false)), (some 38), (.fad 1 (.t 37))⟩, .p), (
  ⟨(some (28, false)), (some 39), (.ld false 1 (.t 38))⟩, (.r 0 0)), (
  ⟨(some (28, false)), (some 40), (.cvBS (.t 39))⟩, (.r 0 0)), (
  ⟨(some (28, false)), (some 41), (.bin .neq (.t 34) (.t 40))⟩, .p), (
  ⟨none, (some 42), (.pick (.t 28) (.c (.cv (.sc (.bool true)))) (.t 41))⟩, .p)])
  (.cond (.t 42)
  (.seq (.reg [
  ⟨none, (some 4), (.mv (.c (.cv (.sc (.bool false)))))⟩])
  .ret) .skip)))
  (.reg [
  ⟨none, (some 15), (.mv (.t 5))⟩,
  ⟨none, (some 16), (.bin .add (.t 15) (.c (.cv (.sc (.int .i64 1)))))⟩,
  ⟨none, (some 5), (.mv (.t 16))⟩])))
def f23 : FnIR := ⟨43, [(.t 4)],

  (.seq (.reg [
  ⟨none, (some 4), (.mv (.c (.cv (.sc (.bool false)))))⟩])

  (.seq f23_0

  (.seq
  (.seq (.reg [
  ⟨none, (some 5), (.mv (.c (.cv (.sc (.int .i64 0)))))⟩])
  (.block 0 (.loop f23_1)))

  (.seq (.reg [
  ⟨none, (some 4), (.mv (.c (.cv (.sc (.bool true)))))⟩])
  .ret))))⟩
theorem f23_ok : compF Proofs.Try.prog [] [] Proofs.Try.f23 = some f23 := by kernel_rfl

def f24 : FnIR := ⟨8, [(.t 2), (.t 3)],

  (.seq (.reg [
  ⟨none, (some 2), (.mv (.c (.cv (.sc (.slice none 0 0)))))⟩,
  ⟨none, (some 3), (.mv (.c (.cv (.sc (.int .u16 0)))))⟩])

  (.seq (.reg [
  ⟨none, (some 4), (.mv (.t 0))⟩,
  ⟨none, (some 5), (.call 34 true [(.t 4), (.c (.func 35 []))])⟩,
  ⟨none, (some 6), (.ext (.t 5) 0)⟩,
  ⟨none, (some 7), (.ext (.t 5) 1)⟩,
  ⟨none, (some 2), (.mv (.t 6))⟩,
  ⟨none, (some 3), (.mv (.t 7))⟩])
  .ret))⟩
theorem f24_ok : compF Proofs.Try.prog [] [] Proofs.Try.f24 = some f24 := by kernel_rfl

def f25_0 : IR :=

  (.seq (.reg [
  ⟨none, (some 13), (.mv (.t 9))⟩,
  ⟨none, (some 14), (.len false (.t 13))⟩,
  ⟨none, (some 15), (.bin .gtr (.t 14) (.c (.cv (.sc (.int .i64 0)))))⟩,
  ⟨none, (some 16), (.mv (.t 15))⟩,
  ⟨(some (16, true)), (some 17), (.mv (.t 3))⟩,
  ⟨(some (16, true)), (some 18), (.bin .rem (.t 17) (.c (.cv (.sc (.int .u8 3)))))⟩,
  ⟨(some (16, true)), (some 19), (.bin .eql (.t 18) (.c (.cv (.sc (.int .u8 0)))))⟩,
  ⟨none, (some 20), (.pick (.t 16) (.t 19) (.c (.cv (.sc (.bool false)))))⟩])
  (.cond (.t 20) (.reg [
  ⟨none, (some 21), (.mv (.t 9))⟩,
  ⟨none, (some 22), (.mv (.t 1))⟩,
  ⟨none, (some 23), (.cvI .i64 (.t 22))⟩,
  ⟨none, (some 24), (.mv (.t 9))⟩,
  ⟨none, (some 25), (.len false (.t 24))⟩,
  ⟨none, (some 26), (.bin .rem (.t 23) (.t 25))⟩,
  ⟨none, (some 27), (.mv (.t 2))⟩,
  ⟨none, (some 28), (.iadL 1 (.t 21) (.t 26))⟩,
  ⟨none, none, (.st 1 (.t 28) (.t 27))⟩]) .skip))
def f25_1 : IR :=

  (.seq (.reg [
  ⟨none, (some 29), (.mv (.t 3))⟩,
  ⟨none, (some 30), (.bin .rem (.t 29) (.c (.cv (.sc (.int .u8 3)))))⟩,
  ⟨none, (some 31), (.bin .eql (.t 30) (.c (.cv (.sc (.int .u8 1)))))⟩])
  (.cond (.t 31) (.reg [
  ⟨none, (some 32), (.mv (.t 9))⟩,
  ⟨none, (some 33), (.mv (.t 1))⟩,
  ⟨none, (some 34), (.cvI .i64 (.t 33))⟩,
  ⟨none, (some 35), (.mv (.t 9))⟩,
  ⟨none, (some 36), (.len false (.t 35))⟩,
  ⟨none, (some 37), (.bin .add (.t 36) (.c (.cv (.sc (.int .i64 1)))))⟩,
  ⟨none, (some 38), (.bin .rem (.t 34) (.t 37))⟩,
  ⟨none, (some 39), (.slL 1 (.t 32) none (some (.t 38)) none)⟩,
  ⟨none, (some 9), (.mv (.t 39))⟩]) .skip))
def f25_2 : IR :=

  (.seq (.reg [
  ⟨none, (some 40), (.mv (.t 3))⟩,
  ⟨none, (some 41), (.bin .rem (.t 40) (.c (.cv (.sc (.int .u8 9)))))⟩,
  ⟨none, (some 42), (.bin .eql (.t 41) (.c (.cv (.sc (.int .u8 2)))))⟩])
  (.cond (.t 42) (.reg [
  ⟨none, (some 43), (.mv (.t 9))⟩,
  ⟨none, (some 44), (.mv (.t 2))⟩,
  ⟨none, (some 45), (.mksl 1 1 [(.cv (.sc (.int .u8 0)))] [(0, (1, (.t 44)))] false)⟩,
  ⟨none, (some 46), (.app 1 1 [(.sc (.int .u8 0))] (.t 43) (.t 45))⟩,
  ⟨none, (some 9), (.mv (.t 46))⟩]) .skip))
def f25 : FnIR := ⟨48, [(.t 8)],

  (.seq (.reg [
  ⟨none, (some 8), (.mv (.c (.cv (.sc (.slice none 0 0)))))⟩])

  (.seq (.reg [
  ⟨none, (some 9), (.mv (.c (.cv (.sc (.slice none 0 0)))))⟩])

  (.seq (.reg [
  ⟨none, (some 10), (.mv (.t 9))⟩,
  ⟨none, (some 11), (.mv (.t 0))⟩,
  ⟨none, (some 12), (.app 1 1 [(.sc (.int .u8 0))] (.t 10) (.t 11))⟩,
  ⟨none, (some 9), (.mv (.t 12))⟩])

  (.seq f25_0

  (.seq f25_1

  (.seq f25_2

  (.seq (.reg [
  ⟨none, (some 47), (.mv (.t 9))⟩,
  ⟨none, (some 8), (.mv (.t 47))⟩])
  .ret)))))))⟩
theorem f25_ok : compF Proofs.Try.prog [] [] Proofs.Try.f25 = some f25 := by kernel_rfl

def f26 : FnIR := ⟨79, [(.t 6)],

  (.seq (.reg [
  ⟨none, (some 6), (.mv (.c (.cv (.sc (.bool false)))))⟩])

  (.seq (.reg [
  ⟨none, (some 20), (.mv (.t 0))⟩,
  ⟨none, (some 21), (.mv (.t 1))⟩,
  ⟨none, (some 22), (.call 13 true [(.t 20), (.t 21)])⟩,
  ⟨none, (some 19), (.mv (.t 22))⟩,
  ⟨none, (some 23), (.ext (.t 19) 0)⟩,
  ⟨none, (some 24), (.ext (.t 19) 1)⟩,
  ⟨none, (some 25), (.ext (.t 19) 2)⟩,
  ⟨none, (some 7), (.mv (.t 23))⟩,
  ⟨none, (some 8), (.mv (.t 24))⟩,
  ⟨none, (some 9), (.mv (.t 25))⟩])

  (.seq (.reg [
  ⟨none, (some 27), (.mv (.t 0))⟩,
  ⟨none, (some 28), (.mv (.t 1))⟩,
  ⟨none, (some 29), (.call 36 true [(.t 27), (.t 28)])⟩,
  ⟨none, (some 26), (.mv (.t 29))⟩,
  ⟨none, (some 30), (.ext (.t 26) 0)⟩,
  ⟨none, (some 31), (.ext (.t 26) 1)⟩,
  ⟨none, (some 32), (.ext (.t 26) 2)⟩,
  ⟨none, (some 10), (.mv (.t 30))⟩,
  ⟨none, (some 11), (.mv (.t 31))⟩,
  ⟨none, (some 12), (.mv (.t 32))⟩])

  (.seq (.reg [
  ⟨none, (some 34), (.mv (.t 0))⟩,
  ⟨none, (some 35), (.mv (.t 1))⟩,
  ⟨none, (some 36), (.mv (.t 2))⟩,
  ⟨none, (some 37), (.call 15 true [(.t 34), (.t 35), (.t 36)])⟩,
  ⟨none, (some 33), (.mv (.t 37))⟩,
  ⟨none, (some 38), (.ext (.t 33) 0)⟩,
  ⟨none, (some 39), (.ext (.t 33) 1)⟩,
  ⟨none, (some 40), (.ext (.t 33) 2)⟩,
  ⟨none, (some 13), (.mv (.t 38))⟩,
  ⟨none, (some 14), (.mv (.t 39))⟩,
  ⟨none, (some 15), (.mv (.t 40))⟩])

  (.seq (.reg [
  ⟨none, (some 42), (.mv (.t 0))⟩,
  ⟨none, (some 43), (.mv (.t 1))⟩,
  ⟨none, (some 44), (.mv (.t 2))⟩,
  ⟨none, (some 45), (.call 37 true [(.t 42), (.t 43), (.t 44)])⟩,
  ⟨none, (some 41), (.mv (.t 45))⟩,
  ⟨none, (some 46), (.ext (.t 41) 0)⟩,
  ⟨none, (some 47), (.ext (.t 41) 1)⟩,
  ⟨none, (some 48), (.ext (.t 41) 2)⟩,
  ⟨none, (some 16), (.mv (.t 46))⟩,
  ⟨none, (some 17), (.mv (.t 47))⟩,
  ⟨none, (some 18), (.mv (.t 48))⟩])

  (.seq (.reg [
  ⟨none, (some 49), (.mv (.t 7))⟩,
  ⟨none, (some 50), (.mv (.t 10))⟩,
  ⟨none, (some 51), (.bin .eql (.t 49) (.t 50))⟩,
  ⟨none, (some 52), (.mv (.t 51))⟩,
  ⟨(some (52, true)), (some 53), (.mv (.t 8))⟩,
  ⟨(some (52, true)), (some 54), (.mv (.t 11))⟩,
  ⟨(some (52, true)), (some 55), (.bin .eql (.t 53) (.t 54))⟩,
  ⟨none, (some 56), (.pick (.t 52) (.t 55) (.c (.cv (.sc (.bool false)))))⟩,
  ⟨none, (some 57), (.mv (.t 56))⟩,
  ⟨(some (57, true)), (some 58), (.mv (.t 9))⟩,
  ⟨(some (57, true)), (some 59), (.cvI .i64 (.t 58))⟩,
  ⟨(some (57, true)), (some 60), (.mv (.t 12))⟩,
  ⟨(some (57, true)), (some 61), (.bin .eql (.t 59) (.t 60))⟩,
  ⟨none, (some 62), (.pick (.t 57) (.t 61) (.c (.cv (.sc (.bool false)))))⟩,
  ⟨none, (some 63), (.mv (.t 62))⟩,
  ⟨(some (63, true)), (some 64), (.mv (.t 13))⟩,
  ⟨(some (63, true)), (some 65), (.mv (.t 16))⟩,
  ⟨(some (63, true)), (some 66), (.bin .eql (.t 64) (.t 65))⟩,
  ⟨none, (some 67), (.pick (.t 63) (.t 66) (.c (.cv (.sc (.bool false)))))⟩,
  ⟨none, (some 68), (.mv (.t 67))⟩,
  ⟨(some (68, true)), (some 69), (.mv (.t 14))⟩,
  ⟨(some (68, true)), (some 70), (.mv (.t 17))⟩,
  ⟨(some (68, true)), (some 71), (.bin .eql (.t 69) (.t 70))⟩,
  ⟨none, (some 72), (.pick (.t 68) (.t 71) (.c (.cv (.sc (.bool false)))))⟩,
  ⟨none, (some 73), (.mv (.t 72))⟩,
  ⟨(some (73, true)), (some 74), (.mv (.t 15))⟩,
  ⟨(some (73, true)), (some 75), (.cvI .i64 (.t 74))⟩,
  ⟨(some (73, true)), (some 76), (.mv (.t 18))⟩,
  ⟨(some (73, true)), (some 77), (.bin .eql (.t 75) (.t 76))⟩,
  ⟨none, (some 78), (.pick (.t 73) (.t 77) (.c (.cv (.sc (.bool false)))))⟩,
  ⟨none, (some 6), (.mv (.t 78))⟩])
  .ret))))))⟩
theorem f26_ok : compF Proofs.Try.prog [] [] Proofs.Try.f26 = some f26 := by kernel_rfl

def f27 : FnIR := ⟨55, [(.t 2)],

  (.seq (.reg [
  ⟨none, (some 2), (.mv (.c (.cv (.sc (.bool false)))))⟩])

  (.seq (.reg [
  ⟨none, (some 14), (.mv (.t 0))⟩,
  ⟨none, (some 15), (.call 24 true [(.t 14)])⟩,
  ⟨none, (some 13), (.mv (.t 15))⟩,
  ⟨none, (some 16), (.ext (.t 13) 0)⟩,
  ⟨none, (some 17), (.ext (.t 13) 1)⟩,
  ⟨none, (some 3), (.mv (.t 16))⟩,
  ⟨none, (some 4), (.mv (.t 17))⟩])

  (.seq (.reg [
  ⟨none, (some 19), (.mv (.t 0))⟩,
  ⟨none, (some 20), (.call 38 true [(.t 19)])⟩,
  ⟨none, (some 18), (.mv (.t 20))⟩,
  ⟨none, (some 21), (.ext (.t 18) 0)⟩,
  ⟨none, (some 22), (.ext (.t 18) 1)⟩,
  ⟨none, (some 5), (.mv (.t 21))⟩,
  ⟨none, (some 6), (.mv (.t 22))⟩])

  (.seq (.reg [
  ⟨none, (some 23), (.mv (.t 3))⟩,
  ⟨none, (some 24), (.mv (.t 5))⟩,
  ⟨none, (some 25), (.call 39 true [(.t 23), (.t 24)])⟩,
  ⟨none, (some 7), (.mv (.t 25))⟩])

  (.seq (.reg [
  ⟨none, (some 27), (.mv (.t 0))⟩,
  ⟨none, (some 28), (.call 22 true [(.t 27)])⟩,
  ⟨none, (some 26), (.mv (.t 28))⟩,
  ⟨none, (some 29), (.ext (.t 26) 0)⟩,
  ⟨none, (some 30), (.ext (.t 26) 1)⟩,
  ⟨none, (some 8), (.mv (.t 29))⟩,
  ⟨none, (some 9), (.mv (.t 30))⟩])

  (.seq (.reg [
  ⟨none, (some 32), (.mv (.t 0))⟩,
  ⟨none, (some 33), (.call 40 true [(.t 32)])⟩,
  ⟨none, (some 31), (.mv (.t 33))⟩,
  ⟨none, (some 34), (.ext (.t 31) 0)⟩,
  ⟨none, (some 35), (.ext (.t 31) 1)⟩,
  ⟨none, (some 10), (.mv (.t 34))⟩,
  ⟨none, (some 11), (.mv (.t 35))⟩])

  (.seq (.reg [
  ⟨none, (some 36), (.mv (.t 8))⟩,
  ⟨none, (some 37), (.mv (.t 10))⟩,
  ⟨none, (some 38), (.call 23 true [(.t 36), (.t 37)])⟩,
  ⟨none, (some 12), (.mv (.t 38))⟩])

  (.seq (.reg [
  ⟨none, (some 39), (.mv (.t 7))⟩,
  ⟨none, (some 40), (.mv (.t 39))⟩,
  ⟨(some (40, true)), (some 41), (.mv (.t 4))⟩,
  ⟨(some (40, true)), (some 42), (.cvI .i64 (.t 41))⟩,
  ⟨(some (40, true)), (some 43), (.mv (.t 6))⟩,
  ⟨(some (40, true)), (some 44), (.bin .eql (.t 42) (.t 43))⟩,
  ⟨none, (some 45), (.pick (.t 40) (.t 44) (.c (.cv (.sc (.bool false)))))⟩,
  ⟨none, (some 46), (.mv (.t 45))⟩,
  ⟨(some (46, true)), (some 47), (.mv (.t 12))⟩,
  ⟨none, (some 48), (.pick (.t 46) (.t 47) (.c (.cv (.sc (.bool false)))))⟩,
  ⟨none, (some 49), (.mv (.t 48))⟩,
  ⟨(some (49, true)), (some 50), (.mv (.t 9))⟩,
  ⟨(some (49, true)), (some 51), (.cvI .i64 (.t 50))⟩,
  ⟨(some (49, true)), (some 52), (.mv (.t 11))⟩,
  ⟨(some (49, true)), (some 53), (.bin .eql (.t 51) (.t 52))⟩,
  ⟨none, (some 54), (.pick (.t 49) (.t 53) (.c (.cv (.sc (.bool false)))))⟩,
  ⟨none, (some 2), (.mv (.t 54))⟩])
  .ret))))))))⟩
theorem f27_ok : compF Proofs.Try.prog [] [] Proofs.Try.f27 = some f27 := by kernel_rfl

def f28_0 : IR :=

  (.seq
  (.seq (.reg [
  ⟨none, (some 8), (.mv (.t 4))⟩,
  ⟨none, (some 9), (.mv (.t 0))⟩,
  ⟨none, (some 10), (.len false (.t 9))⟩,
  ⟨none, (some 11), (.bin .lss (.t 8) (.t 10))⟩])
  (.cond (.t 11) .skip (.exit 0)))

  (.seq (.block 1
  (.seq (.reg [
  ⟨none, (some 14), (.mv (.t 0))⟩,
  ⟨none, (some 15), (.mv (.t 4))⟩,
  ⟨none, (some 16), (.iadL 3 (.t 14) (.t 15))⟩,
  ⟨none, (some 17), (.fad 2 (.t 16))⟩,
  ⟨none, (some 18), (.ld false 1 (.t 17))⟩])
  (.cond (.t 18) (.reg [
  ⟨none, (some 19), (.mv (.t 3))⟩,
  ⟨none, (some 20), (.mv (.t 0))⟩,
  ⟨none, (some 21), (.mv (.t 4))⟩,
  ⟨none, (some 22), (.iadL 3 (.t 20) (.t 21))⟩,
  ⟨none, (some 23), (.fad 0 (.t 22))⟩,
  ⟨none, (some 24), (.ld false 1 (.t 23))⟩,
  ⟨none, (some 25), (.call 19 true [(.t 24)])⟩,
  ⟨none, (some 26), (.call 31 true [(.t 19), (.t 25)])⟩,
  ⟨none, (some 27), (.mksl 1 1 [(.cv (.sc (.int .u8 0)))] [(0, (1, (.c (.cv (.sc (.int .u8 1))))))] false)⟩,
  ⟨none, (some 28), (.call 31 true [(.t 26), (.t 27)])⟩,
  ⟨none, (some 3), (.mv (.t 28))⟩]) (.draw [(
  ⟨none, (some 29), (.mv (.t 3))⟩, .p), (
  ⟨none, (some 30), (.mv (.t 0))⟩, .p), (
  ⟨none, (some 31), (.mv (.t 4))⟩, .p), (
  ⟨none, (some 32), (.iadL 3 (.t 30) (.t 31))⟩, (.r 0 0)), (
  ⟨none, (some 33), (.fad 0 (.t 32))⟩, .p), (
  ⟨none, (some 34), (.ld false 1 (.t 33))⟩, (.r 0 0)), (
  ⟨none, (some 35), (.call 19 true [(.t 34)])⟩, (.r 0 0)), (
  ⟨none, (some 36), (.call 31 true [(.t 29), (.t 35)])⟩, (.r 0 0)), (
  ⟨none, (some 37), (.mksl 1 1 [(.cv (.sc (.int .u8 0)))] [(0, (1, (.c (.cv (.sc (.int .u8 0))))))] false)⟩, (.r 0 0)), (
  ⟨none, (some 38), (.call 31 true [(.t 36), (.t 37)])⟩, (.r 0 0)), (
  ⟨none, (some 39), (.mv (.t 0))⟩, .p), (
  ⟨none, (some 40), (.mv (.t 4))⟩, .p), (
  ⟨none, (some 41), (.iadL 3 (.t 39) (.t 40))⟩, (.r 0 0)), (
  ⟨none, (some 42), (.fad 1 (.t 41))⟩, .p), (
  ⟨none, (some 43), (.ld false 1 (.t 42))⟩, (.r 0 0)), (
  ⟨none, (some 44), (.cvBS (.t 43))⟩, (.r 0 0)), (
  ⟨none, (some 45), (.call 19 true [(.t 44)])⟩, (.r 0 0)), (
  ⟨none, (some 46), (.call 31 true [(.t 38), (.t 45)])⟩, (.r 0 0)), (
  ⟨none, (some 3), (.mv (.t 46))⟩, .p)]))))
  (.reg [
  ⟨none, (some 12), (.mv (.t 4))⟩,
  ⟨none, (some 13), (.bin .add (.t 12) (.c (.cv (.sc (.int .i64 1)))))⟩,
  ⟨none, (some 4), (.mv (.t 13))⟩])))
def f28 : FnIR := ⟨48, [(.t 2)],

  (.seq (.reg [
  ⟨none, (some 2), (.mv (.c (.cv (.sc (.slice none 0 0)))))⟩])

  (.seq (.reg [
  ⟨none, (some 5), (.mv (.t 0))⟩,
  ⟨none, (some 6), (.len false (.t 5))⟩,
  ⟨none, (some 7), (.call 18 true [(.t 6)])⟩,
  ⟨none, (some 3), (.mv (.t 7))⟩])

  (.seq
  (.seq (.reg [
  ⟨none, (some 4), (.mv (.c (.cv (.sc (.int .i64 0)))))⟩])
  (.block 0 (.loop f28_0)))

  (.seq (.reg [
  ⟨none, (some 47), (.mv (.t 3))⟩,
  ⟨none, (some 2), (.mv (.t 47))⟩])
  .ret))))⟩
theorem f28_ok : compF Proofs.Try.prog [] [] Proofs.Try.f28 = some f28 := by kernel_rfl

def f29_0 : IR :=

  (.seq (.reg [
  ⟨none, (some 29), (.fad 1 (.t 8))⟩,
  ⟨none, (some 30), (.ld false 1 (.t 29))⟩,
  ⟨none, (some 31), (.len false (.t 30))⟩,
  ⟨none, (some 32), (.bin .rem (.t 31) (.c (.cv (.sc (.int .i64 4)))))⟩,
  ⟨none, (some 33), (.bin .eql (.t 32) (.c (.cv (.sc (.int .i64 0)))))⟩])
  (.cond (.t 33) (.reg [
  ⟨none, (some 34), (.fad 0 (.t 8))⟩,
  ⟨none, (some 35), (.ld false 1 (.t 34))⟩,
  ⟨none, (some 36), (.build [(.cv (.sc (.string ⟨#[]⟩))), (.cv (.sc (.slice none 0 0))), (.cv (.sc (.bool false)))] [(0, (1, (.t 35))), (2, (1, (.c (.cv (.sc (.bool true))))))])⟩,
  ⟨none, none, (.st 3 (.t 8) (.t 36))⟩]) .skip))
def f29_1 : IR :=

  (.seq
  (.seq (.reg [
  ⟨none, (some 12), (.mv (.t 7))⟩,
  ⟨none, (some 13), (.mv (.t 6))⟩,
  ⟨none, (some 14), (.len false (.t 13))⟩,
  ⟨none, (some 15), (.bin .lss (.t 12) (.t 14))⟩])
  (.cond (.t 15) .skip (.exit 0)))

  (.seq (.block 1
  (.seq (.draw [(
  ⟨none, (some 18), (.mv (.t 6))⟩, .p), (
  ⟨none, (some 19), (.mv (.t 7))⟩, .p), (
  ⟨none, (some 20), (.iadL 2 (.t 18) (.t 19))⟩, (.r 0 1)), (
  ⟨none, (some 21), (.fad 0 (.t 20))⟩, .p), (
  ⟨none, (some 22), (.ld false 1 (.t 21))⟩, (.r 0 1)), (
  ⟨none, (some 23), (.mv (.t 6))⟩, .p), (
  ⟨none, (some 24), (.mv (.t 7))⟩, .p), (
  ⟨none, (some 25), (.iadL 2 (.t 23) (.t 24))⟩, (.r 0 1)), (
  ⟨none, (some 26), (.fad 1 (.t 25))⟩, .p), (
  ⟨none, (some 27), (.ld false 1 (.t 26))⟩, (.r 0 1)), (
  ⟨none, (some 28), (.build [(.cv (.sc (.string ⟨#[]⟩))), (.cv (.sc (.slice none 0 0))), (.cv (.sc (.bool false)))] [(0, (1, (.t 22))), (1, (1, (.t 27)))])⟩, .p), (
  ⟨none, (some 8), (.alloc [(.cv (.sc (.string ⟨#[]⟩))), (.cv (.sc (.slice none 0 0))), (.cv (.sc (.bool false)))])⟩, .k), (
  ⟨none, none, (.st 3 (.t 8) (.t 28))⟩, .k)])

  (.seq f29_0
  (.reg [
  ⟨none, (some 37), (.mv (.t 5))⟩,
  ⟨none, (some 38), (.ld true 3 (.t 8))⟩,
  ⟨none, (some 39), (.mksl 3 1 [(.cv (.sc (.string ⟨#[]⟩))), (.cv (.sc (.slice none 0 0))), (.cv (.sc (.bool false)))] [(0, (3, (.t 38)))] false)⟩,
  ⟨none, (some 40), (.app 3 48 [(.sc (.string ⟨#[]⟩)), (.sc (.slice none 0 0)), (.sc (.bool false))] (.t 37) (.t 39))⟩,
  ⟨none, (some 5), (.mv (.t 40))⟩]))))
  (.reg [
  ⟨none, (some 16), (.mv (.t 7))⟩,
  ⟨none, (some 17), (.bin .add (.t 16) (.c (.cv (.sc (.int .i64 1)))))⟩,
  ⟨none, (some 7), (.mv (.t 17))⟩])))
def f29 : FnIR := ⟨42, [(.t 4)],

  (.seq (.reg [
  ⟨none, (some 4), (.mv (.c (.cv (.sc (.slice none 0 0)))))⟩])

  (.seq (.reg [
  ⟨none, (some 5), (.mv (.c (.cv (.sc (.slice none 0 0)))))⟩])

  (.seq (.reg [
  ⟨none, (some 9), (.mv (.t 0))⟩,
  ⟨none, (some 10), (.mv (.t 1))⟩,
  ⟨none, (some 11), (.call 17 true [(.t 9), (.t 10)])⟩,
  ⟨none, (some 6), (.mv (.t 11))⟩])

  (.seq
  (.seq (.reg [
  ⟨none, (some 7), (.mv (.c (.cv (.sc (.int .i64 0)))))⟩])
  (.block 0 (.loop f29_1)))

  (.seq (.reg [
  ⟨none, (some 41), (.mv (.t 5))⟩,
  ⟨none, (some 4), (.mv (.t 41))⟩])
  .ret)))))⟩
theorem f29_ok : compF Proofs.Try.prog [] [] Proofs.Try.f29 = some f29 := by kernel_rfl

def f30_0 : IR :=
  (.cond (.t 12) .skip (.exit 0))
def f30_1 : IR :=

  (.seq (.reg [
  ⟨none, (some 20), (.fad 2 (.t 5))⟩,
  ⟨none, (some 21), (.ld false 1 (.t 20))⟩])
  (.cond (.t 21)
  (.seq (.reg [
  ⟨none, (some 22), (.mv (.t 3))⟩,
  ⟨none, (some 23), (.mksl 1 1 [(.cv (.sc (.int .u8 0)))] [(0, (1, (.c (.cv (.sc (.int .u8 1))))))] false)⟩,
  ⟨none, (some 24), (.app 1 1 [(.sc (.int .u8 0))] (.t 22) (.t 23))⟩,
  ⟨none, (some 3), (.mv (.t 24))⟩])
  (.exit 1)) .skip))
def f30_2 : IR :=

  (.seq (.reg [
  ⟨none, (some 12), (.bin .lss (.t 11) (.t 10))⟩])

  (.seq f30_0

  (.seq (.block 1
  (.seq (.reg [
  ⟨none, (some 13), (.iadL 3 (.t 9) (.t 11))⟩,
  ⟨none, (some 14), (.ld true 3 (.t 13))⟩,
  ⟨none, (some 5), (.alloc [(.cv (.sc (.string ⟨#[]⟩))), (.cv (.sc (.slice none 0 0))), (.cv (.sc (.bool false)))])⟩,
  ⟨none, none, (.st 3 (.t 5) (.t 14))⟩])

  (.seq (.reg [
  ⟨none, (some 15), (.mv (.t 3))⟩,
  ⟨none, (some 16), (.fad 0 (.t 5))⟩,
  ⟨none, (some 17), (.ld false 1 (.t 16))⟩,
  ⟨none, (some 18), (.call 14 true [(.t 17)])⟩,
  ⟨none, (some 19), (.app 1 1 [(.sc (.int .u8 0))] (.t 15) (.t 18))⟩,
  ⟨none, (some 3), (.mv (.t 19))⟩])

  (.seq f30_1

  (.seq (.reg [
  ⟨none, (some 25), (.mv (.t 3))⟩,
  ⟨none, (some 26), (.mksl 1 1 [(.cv (.sc (.int .u8 0)))] [(0, (1, (.c (.cv (.sc (.int .u8 0))))))] false)⟩,
  ⟨none, (some 27), (.app 1 1 [(.sc (.int .u8 0))] (.t 25) (.t 26))⟩,
  ⟨none, (some 3), (.mv (.t 27))⟩])
  (.reg [
  ⟨none, (some 28), (.mv (.t 3))⟩,
  ⟨none, (some 29), (.fad 1 (.t 5))⟩,
  ⟨none, (some 30), (.ld false 1 (.t 29))⟩,
  ⟨none, (some 31), (.cvBS (.t 30))⟩,
  ⟨none, (some 32), (.call 14 true [(.t 31)])⟩,
  ⟨none, (some 33), (.app 1 1 [(.sc (.int .u8 0))] (.t 28) (.t 32))⟩,
  ⟨none, (some 3), (.mv (.t 33))⟩]))))))
  (.reg [
  ⟨none, (some 34), (.bin .add (.t 11) (.c (.cv (.sc (.int .i64 1)))))⟩,
  ⟨none, (some 11), (.mv (.t 34))⟩]))))
def f30 : FnIR := ⟨36, [(.t 2)],

  (.seq (.reg [
  ⟨none, (some 2), (.mv (.c (.cv (.sc (.slice none 0 0)))))⟩])

  (.seq (.reg [
  ⟨none, (some 6), (.mv (.t 0))⟩,
  ⟨none, (some 7), (.len false (.t 6))⟩,
  ⟨none, (some 8), (.call 12 false [(.t 7)])⟩,
  ⟨none, (some 3), (.mv (.t 8))⟩])

  (.seq
  (.seq (.reg [
  ⟨none, (some 9), (.mv (.t 0))⟩,
  ⟨none, (some 10), (.len false (.t 9))⟩,
  ⟨none, (some 11), (.mv (.c (.cv (.sc (.int .i64 0)))))⟩])
  (.block 0 (.loop f30_2)))

  (.seq (.reg [
  ⟨none, (some 35), (.mv (.t 3))⟩,
  ⟨none, (some 2), (.mv (.t 35))⟩])
  .ret))))⟩
theorem f30_ok : compF Proofs.Try.prog [12] [] Proofs.Try.f30 = some f30 := by kernel_rfl

def f31 : FnIR := ⟨13, [(.t 4)],

  (.seq (.reg [
  ⟨none, (some 4), (.mv (.c (.cv (.sc (.slice none 0 0)))))⟩])

  (.seq (.reg [
  ⟨none, (some 5), (.mv (.c (.cv (.sc (.slice none 0 0)))))⟩])

  (.seq (.reg [
  ⟨none, (some 6), (.mv (.t 5))⟩,
  ⟨none, (some 7), (.mv (.t 0))⟩,
  ⟨none, (some 8), (.app 1 1 [(.sc (.int .u8 0))] (.t 6) (.t 7))⟩,
  ⟨none, (some 5), (.mv (.t 8))⟩])

  (.seq (.reg [
  ⟨none, (some 9), (.mv (.t 5))⟩,
  ⟨none, (some 10), (.mv (.t 1))⟩,
  ⟨none, (some 11), (.app 1 1 [(.sc (.int .u8 0))] (.t 9) (.t 10))⟩,
  ⟨none, (some 5), (.mv (.t 11))⟩])

  (.seq (.reg [
  ⟨none, (some 12), (.mv (.t 5))⟩,
  ⟨none, (some 4), (.mv (.t 12))⟩])
  .ret)))))⟩
theorem f31_ok : compF Proofs.Try.prog [] [] Proofs.Try.f31 = some f31 := by kernel_rfl

def f32_0 : IR :=

  (.seq
  (.seq (.reg [
  ⟨none, (some 23), (.mv (.t 9))⟩,
  ⟨none, (some 24), (.bin .eql (.t 23) (.c (.cv (.sc (.int .u16 0)))))⟩,
  ⟨none, (some 25), (.mv (.t 24))⟩,
  ⟨(some (25, true)), (some 26), (.mv (.t 7))⟩,
  ⟨(some (25, true)), (some 27), (.bin .gtr (.t 26) (.c (.cv (.sc (.int .i64 0)))))⟩,
  ⟨none, (some 28), (.pick (.t 25) (.t 27) (.c (.cv (.sc (.bool false)))))⟩])
  (.cond (.t 28) .skip (.exit 0)))

  (.seq (.block 1
  (.seq (.reg [
  ⟨none, (some 10), (.alloc [(.cv (.sc (.string ⟨#[]⟩))), (.cv (.sc (.slice none 0 0)))])⟩])

  (.seq (.reg [
  ⟨none, (some 32), (.mv (.t 1))⟩,
  ⟨none, (some 33), (.mv (.t 0))⟩,
  ⟨none, (some 34), (.mv (.t 8))⟩,
  ⟨none, (some 35), (.callv true (.t 32) [(.t 33), (.t 34)])⟩,
  ⟨none, (some 31), (.mv (.t 35))⟩,
  ⟨none, (some 36), (.ext (.t 31) 0)⟩,
  ⟨none, (some 37), (.ext (.t 31) 1)⟩,
  ⟨none, (some 38), (.ext (.t 31) 2)⟩,
  ⟨none, none, (.st 2 (.t 10) (.t 36))⟩,
  ⟨none, (some 8), (.mv (.t 37))⟩,
  ⟨none, (some 9), (.mv (.t 38))⟩])

  (.seq (.reg [
  ⟨none, (some 39), (.mv (.t 9))⟩,
  ⟨none, (some 40), (.bin .eql (.t 39) (.c (.cv (.sc (.int .u16 0)))))⟩])
  (.cond (.t 40) (.reg [
  ⟨none, (some 41), (.mv (.t 6))⟩,
  ⟨none, (some 42), (.ld true 2 (.t 10))⟩,
  ⟨none, (some 43), (.mksl 2 1 [(.cv (.sc (.string ⟨#[]⟩))), (.cv (.sc (.slice none 0 0)))] [(0, (2, (.t 42)))] false)⟩,
  ⟨none, (some 44), (.app 2 40 [(.sc (.string ⟨#[]⟩)), (.sc (.slice none 0 0))] (.t 41) (.t 43))⟩,
  ⟨none, (some 6), (.mv (.t 44))⟩]) .skip)))))
  (.reg [
  ⟨none, (some 29), (.mv (.t 7))⟩,
  ⟨none, (some 30), (.bin .sub (.t 29) (.c (.cv (.sc (.int .i64 1)))))⟩,
  ⟨none, (some 7), (.mv (.t 30))⟩])))
def f32 : FnIR := ⟨55, [(.t 4), (.t 5)],

  (.seq (.reg [
  ⟨none, (some 4), (.mv (.c (.cv (.sc (.slice none 0 0)))))⟩,
  ⟨none, (some 5), (.mv (.c (.cv (.sc (.int .u16 0)))))⟩])

  (.seq (.reg [
  ⟨none, (some 6), (.mv (.c (.cv (.sc (.slice none 0 0)))))⟩])

  (.seq (.reg [
  ⟨none, (some 12), (.mv (.t 0))⟩,
  ⟨none, (some 13), (.call 13 true [(.t 12), (.c (.cv (.sc (.int .i64 0))))])⟩,
  ⟨none, (some 11), (.mv (.t 13))⟩,
  ⟨none, (some 14), (.ext (.t 11) 0)⟩,
  ⟨none, (some 15), (.ext (.t 11) 1)⟩,
  ⟨none, (some 16), (.ext (.t 11) 2)⟩,
  ⟨none, (some 7), (.mv (.t 14))⟩,
  ⟨none, (some 8), (.mv (.t 15))⟩,
  ⟨none, (some 9), (.mv (.t 16))⟩])

  (.seq
  (.seq (.reg [
  ⟨none, (some 17), (.mv (.t 9))⟩,
  ⟨none, (some 18), (.bin .eql (.t 17) (.c (.cv (.sc (.int .u16 0)))))⟩,
  ⟨none, (some 19), (.mv (.t 18))⟩,
  ⟨(some (19, true)), (some 20), (.mv (.t 7))⟩,
  ⟨(some (19, true)), (some 21), (.bin .gtr (.t 20) (.c (.cv (.sc (.int .i64 5000)))))⟩,
  ⟨none, (some 22), (.pick (.t 19) (.t 21) (.c (.cv (.sc (.bool false)))))⟩])
  (.cond (.t 22) (.reg [
  ⟨none, (some 9), (.mv (.c (.cv (.sc (.int .u16 3)))))⟩]) .skip))

  (.seq (.block 0 (.loop f32_0))

  (.seq (.block 2
  (.seq (.reg [
  ⟨none, (some 46), (.mv (.t 9))⟩,
  ⟨none, (some 47), (.bin .neq (.t 46) (.c (.cv (.sc (.int .u16 0)))))⟩,
  ⟨none, (some 45), (.mv (.t 47))⟩])
  (.cond (.t 45)
  (.seq (.reg [
  ⟨none, (some 48), (.mv (.t 9))⟩,
  ⟨none, (some 4), (.mv (.c (.cv (.sc (.slice none 0 0)))))⟩,
  ⟨none, (some 5), (.mv (.t 48))⟩])
  .ret)
  (.seq (.reg [
  ⟨none, (some 50), (.mv (.t 8))⟩,
  ⟨none, (some 51), (.mv (.t 0))⟩,
  ⟨none, (some 52), (.len false (.t 51))⟩,
  ⟨none, (some 53), (.bin .lss (.t 50) (.t 52))⟩,
  ⟨none, (some 49), (.mv (.t 53))⟩])
  (.cond (.t 49)
  (.seq (.reg [
  ⟨none, (some 4), (.mv (.c (.cv (.sc (.slice none 0 0)))))⟩,
  ⟨none, (some 5), (.mv (.c (.cv (.sc (.int .u16 11)))))⟩])
  .ret) .skip)))))

  (.seq (.reg [
  ⟨none, (some 54), (.mv (.t 6))⟩,
  ⟨none, (some 4), (.mv (.t 54))⟩,
  ⟨none, (some 5), (.mv (.c (.cv (.sc (.int .u16 0)))))⟩])
  .ret)))))))⟩
theorem f32_ok : compF Proofs.Try.prog [] [] Proofs.Try.f32 = some f32 := by kernel_rfl

def f33 : FnIR := ⟨34, [(.cell 4 true 2), (.t 5), (.t 6)],

  (.seq (.reg [
  ⟨none, (some 4), (.alloc [(.cv (.sc (.string ⟨#[]⟩))), (.cv (.sc (.slice none 0 0)))])⟩,
  ⟨none, (some 5), (.mv (.c (.cv (.sc (.int .i64 0)))))⟩,
  ⟨none, (some 6), (.mv (.c (.cv (.sc (.int .u16 0)))))⟩])

  (.seq (.reg [
  ⟨none, (some 11), (.mv (.t 0))⟩,
  ⟨none, (some 12), (.mv (.t 1))⟩,
  ⟨none, (some 13), (.call 15 true [(.t 11), (.t 12), (.c (.cv (.sc (.int .i64 30))))])⟩,
  ⟨none, (some 10), (.mv (.t 13))⟩,
  ⟨none, (some 14), (.ext (.t 10) 0)⟩,
  ⟨none, (some 15), (.ext (.t 10) 1)⟩,
  ⟨none, (some 16), (.ext (.t 10) 2)⟩,
  ⟨none, (some 7), (.mv (.t 14))⟩,
  ⟨none, (some 1), (.mv (.t 15))⟩,
  ⟨none, (some 8), (.mv (.t 16))⟩])

  (.seq
  (.seq (.reg [
  ⟨none, (some 17), (.mv (.t 8))⟩,
  ⟨none, (some 18), (.bin .neq (.t 17) (.c (.cv (.sc (.int .u16 0)))))⟩])
  (.cond (.t 18)
  (.seq (.reg [
  ⟨none, (some 19), (.build [(.cv (.sc (.string ⟨#[]⟩))), (.cv (.sc (.slice none 0 0)))] [])⟩,
  ⟨none, (some 20), (.mv (.t 8))⟩,
  ⟨none, none, (.st 2 (.t 4) (.t 19))⟩,
  ⟨none, (some 5), (.mv (.c (.cv (.sc (.int .i64 0)))))⟩,
  ⟨none, (some 6), (.mv (.t 20))⟩])
  .ret) .skip))

  (.seq (.reg [
  ⟨none, (some 22), (.mv (.t 0))⟩,
  ⟨none, (some 23), (.mv (.t 1))⟩,
  ⟨none, (some 24), (.call 15 true [(.t 22), (.t 23), (.c (.cv (.sc (.int .i64 150))))])⟩,
  ⟨none, (some 21), (.mv (.t 24))⟩,
  ⟨none, (some 25), (.ext (.t 21) 0)⟩,
  ⟨none, (some 26), (.ext (.t 21) 1)⟩,
  ⟨none, (some 27), (.ext (.t 21) 2)⟩,
  ⟨none, (some 9), (.mv (.t 25))⟩,
  ⟨none, (some 1), (.mv (.t 26))⟩,
  ⟨none, (some 8), (.mv (.t 27))⟩])

  (.seq (.reg [
  ⟨none, (some 28), (.mv (.t 7))⟩,
  ⟨none, (some 29), (.mv (.t 9))⟩,
  ⟨none, (some 30), (.cvSB false (.t 29))⟩,
  ⟨none, (some 31), (.build [(.cv (.sc (.string ⟨#[]⟩))), (.cv (.sc (.slice none 0 0)))] [(0, (1, (.t 28))), (1, (1, (.t 30)))])⟩,
  ⟨none, (some 32), (.mv (.t 1))⟩,
  ⟨none, (some 33), (.mv (.t 8))⟩,
  ⟨none, none, (.st 2 (.t 4) (.t 31))⟩,
  ⟨none, (some 5), (.mv (.t 32))⟩,
  ⟨none, (some 6), (.mv (.t 33))⟩])
  .ret)))))⟩
theorem f33_ok : compF Proofs.Try.prog [] [] Proofs.Try.f33 = some f33 := by kernel_rfl

def f34_0 : IR :=

  (.seq
  (.seq (.reg [
  ⟨none, (some 23), (.mv (.t 9))⟩,
  ⟨none, (some 24), (.bin .eql (.t 23) (.c (.cv (.sc (.int .u16 0)))))⟩,
  ⟨none, (some 25), (.mv (.t 24))⟩,
  ⟨(some (25, true)), (some 26), (.mv (.t 7))⟩,
  ⟨(some (25, true)), (some 27), (.bin .gtr (.t 26) (.c (.cv (.sc (.int .i64 0)))))⟩,
  ⟨none, (some 28), (.pick (.t 25) (.t 27) (.c (.cv (.sc (.bool false)))))⟩])
  (.cond (.t 28) .skip (.exit 0)))

  (.seq (.block 1
  (.seq (.reg [
  ⟨none, (some 10), (.alloc [(.cv (.sc (.string ⟨#[]⟩))), (.cv (.sc (.slice none 0 0))), (.cv (.sc (.bool false)))])⟩])

  (.seq (.reg [
  ⟨none, (some 32), (.mv (.t 1))⟩,
  ⟨none, (some 33), (.mv (.t 0))⟩,
  ⟨none, (some 34), (.mv (.t 8))⟩,
  ⟨none, (some 35), (.callv true (.t 32) [(.t 33), (.t 34)])⟩,
  ⟨none, (some 31), (.mv (.t 35))⟩,
  ⟨none, (some 36), (.ext (.t 31) 0)⟩,
  ⟨none, (some 37), (.ext (.t 31) 1)⟩,
  ⟨none, (some 38), (.ext (.t 31) 2)⟩,
  ⟨none, none, (.st 3 (.t 10) (.t 36))⟩,
  ⟨none, (some 8), (.mv (.t 37))⟩,
  ⟨none, (some 9), (.mv (.t 38))⟩])

  (.seq (.reg [
  ⟨none, (some 39), (.mv (.t 9))⟩,
  ⟨none, (some 40), (.bin .eql (.t 39) (.c (.cv (.sc (.int .u16 0)))))⟩])
  (.cond (.t 40) (.reg [
  ⟨none, (some 41), (.mv (.t 6))⟩,
  ⟨none, (some 42), (.ld true 3 (.t 10))⟩,
  ⟨none, (some 43), (.mksl 3 1 [(.cv (.sc (.string ⟨#[]⟩))), (.cv (.sc (.slice none 0 0))), (.cv (.sc (.bool false)))] [(0, (3, (.t 42)))] false)⟩,
  ⟨none, (some 44), (.app 3 48 [(.sc (.string ⟨#[]⟩)), (.sc (.slice none 0 0)), (.sc (.bool false))] (.t 41) (.t 43))⟩,
  ⟨none, (some 6), (.mv (.t 44))⟩]) .skip)))))
  (.reg [
  ⟨none, (some 29), (.mv (.t 7))⟩,
  ⟨none, (some 30), (.bin .sub (.t 29) (.c (.cv (.sc (.int .i64 1)))))⟩,
  ⟨none, (some 7), (.mv (.t 30))⟩])))
def f34 : FnIR := ⟨55, [(.t 4), (.t 5)],

  (.seq (.reg [
  ⟨none, (some 4), (.mv (.c (.cv (.sc (.slice none 0 0)))))⟩,
  ⟨none, (some 5), (.mv (.c (.cv (.sc (.int .u16 0)))))⟩])

  (.seq (.reg [
  ⟨none, (some 6), (.mv (.c (.cv (.sc (.slice none 0 0)))))⟩])

  (.seq (.reg [
  ⟨none, (some 12), (.mv (.t 0))⟩,
  ⟨none, (some 13), (.call 13 true [(.t 12), (.c (.cv (.sc (.int .i64 0))))])⟩,
  ⟨none, (some 11), (.mv (.t 13))⟩,
  ⟨none, (some 14), (.ext (.t 11) 0)⟩,
  ⟨none, (some 15), (.ext (.t 11) 1)⟩,
  ⟨none, (some 16), (.ext (.t 11) 2)⟩,
  ⟨none, (some 7), (.mv (.t 14))⟩,
  ⟨none, (some 8), (.mv (.t 15))⟩,
  ⟨none, (some 9), (.mv (.t 16))⟩])

  (.seq
  (.seq (.reg [
  ⟨none, (some 17), (.mv (.t 9))⟩,
  ⟨none, (some 18), (.bin .eql (.t 17) (.c (.cv (.sc (.int .u16 0)))))⟩,
  ⟨none, (some 19), (.mv (.t 18))⟩,
  ⟨(some (19, true)), (some 20), (.mv (.t 7))⟩,
  ⟨(some (19, true)), (some 21), (.bin .gtr (.t 20) (.c (.cv (.sc (.int .i64 5000)))))⟩,
  ⟨none, (some 22), (.pick (.t 19) (.t 21) (.c (.cv (.sc (.bool false)))))⟩])
  (.cond (.t 22) (.reg [
  ⟨none, (some 9), (.mv (.c (.cv (.sc (.int .u16 3)))))⟩]) .skip))

  (.seq (.block 0 (.loop f34_0))

  (.seq (.block 2
  (.seq (.reg [
  ⟨none, (some 46), (.mv (.t 9))⟩,
  ⟨none, (some 47), (.bin .neq (.t 46) (.c (.cv (.sc (.int .u16 0)))))⟩,
  ⟨none, (some 45), (.mv (.t 47))⟩])
  (.cond (.t 45)
  (.seq (.reg [
  ⟨none, (some 48), (.mv (.t 9))⟩,
  ⟨none, (some 4), (.mv (.c (.cv (.sc (.slice none 0 0)))))⟩,
  ⟨none, (some 5), (.mv (.t 48))⟩])
  .ret)
  (.seq (.reg [
  ⟨none, (some 50), (.mv (.t 8))⟩,
  ⟨none, (some 51), (.mv (.t 0))⟩,
  ⟨none, (some 52), (.len false (.t 51))⟩,
  ⟨none, (some 53), (.bin .lss (.t 50) (.t 52))⟩,
  ⟨none, (some 49), (.mv (.t 53))⟩])
  (.cond (.t 49)
  (.seq (.reg [
  ⟨none, (some 4), (.mv (.c (.cv (.sc (.slice none 0 0)))))⟩,
  ⟨none, (some 5), (.mv (.c (.cv (.sc (.int .u16 11)))))⟩])
  .ret) .skip)))))

  (.seq (.reg [
  ⟨none, (some 54), (.mv (.t 6))⟩,
  ⟨none, (some 4), (.mv (.t 54))⟩,
  ⟨none, (some 5), (.mv (.c (.cv (.sc (.int .u16 0)))))⟩])
  .ret)))))))⟩
theorem f34_ok : compF Proofs.Try.prog [] [] Proofs.Try.f34 = some f34 := by kernel_rfl

def f35 : FnIR := ⟨59, [(.cell 4 true 3), (.t 5), (.t 6)],

  (.seq (.reg [
  ⟨none, (some 4), (.alloc [(.cv (.sc (.string ⟨#[]⟩))), (.cv (.sc (.slice none 0 0))), (.cv (.sc (.bool false)))])⟩,
  ⟨none, (some 5), (.mv (.c (.cv (.sc (.int .i64 0)))))⟩,
  ⟨none, (some 6), (.mv (.c (.cv (.sc (.int .u16 0)))))⟩])

  (.seq (.reg [
  ⟨none, (some 11), (.mv (.t 0))⟩,
  ⟨none, (some 12), (.mv (.t 1))⟩,
  ⟨none, (some 13), (.call 15 true [(.t 11), (.t 12), (.c (.cv (.sc (.int .i64 30))))])⟩,
  ⟨none, (some 10), (.mv (.t 13))⟩,
  ⟨none, (some 14), (.ext (.t 10) 0)⟩,
  ⟨none, (some 15), (.ext (.t 10) 1)⟩,
  ⟨none, (some 16), (.ext (.t 10) 2)⟩,
  ⟨none, (some 7), (.mv (.t 14))⟩,
  ⟨none, (some 1), (.mv (.t 15))⟩,
  ⟨none, (some 8), (.mv (.t 16))⟩])

  (.seq (.block 0
  (.seq (.reg [
  ⟨none, (some 18), (.mv (.t 8))⟩,
  ⟨none, (some 19), (.bin .neq (.t 18) (.c (.cv (.sc (.int .u16 0)))))⟩,
  ⟨none, (some 17), (.mv (.t 19))⟩])
  (.cond (.t 17)
  (.seq (.reg [
  ⟨none, (some 20), (.build [(.cv (.sc (.string ⟨#[]⟩))), (.cv (.sc (.slice none 0 0))), (.cv (.sc (.bool false)))] [])⟩,
  ⟨none, (some 21), (.mv (.t 8))⟩,
  ⟨none, none, (.st 3 (.t 4) (.t 20))⟩,
  ⟨none, (some 5), (.mv (.c (.cv (.sc (.int .i64 0)))))⟩,
  ⟨none, (some 6), (.mv (.t 21))⟩])
  .ret)
  (.seq (.reg [
  ⟨none, (some 23), (.mv (.t 1))⟩,
  ⟨none, (some 24), (.mv (.t 0))⟩,
  ⟨none, (some 25), (.len false (.t 24))⟩,
  ⟨none, (some 26), (.bin .eql (.t 23) (.t 25))⟩,
  ⟨none, (some 22), (.mv (.t 26))⟩])
  (.cond (.t 22)
  (.seq (.reg [
  ⟨none, (some 27), (.build [(.cv (.sc (.string ⟨#[]⟩))), (.cv (.sc (.slice none 0 0))), (.cv (.sc (.bool false)))] [])⟩,
  ⟨none, none, (.st 3 (.t 4) (.t 27))⟩,
  ⟨none, (some 5), (.mv (.c (.cv (.sc (.int .i64 0)))))⟩,
  ⟨none, (some 6), (.mv (.c (.cv (.sc (.int .u16 10)))))⟩])
  .ret)
  (.seq (.reg [
  ⟨none, (some 29), (.mv (.t 0))⟩,
  ⟨none, (some 30), (.mv (.t 1))⟩,
  ⟨none, (some 31), (.iadL 1 (.t 29) (.t 30))⟩,
  ⟨none, (some 32), (.ld false 1 (.t 31))⟩,
  ⟨none, (some 33), (.bin .eql (.t 32) (.c (.cv (.sc (.int .u8 1)))))⟩,
  ⟨none, (some 28), (.mv (.t 33))⟩])
  (.cond (.t 28)
  (.seq (.reg [
  ⟨none, (some 34), (.mv (.t 7))⟩,
  ⟨none, (some 35), (.build [(.cv (.sc (.string ⟨#[]⟩))), (.cv (.sc (.slice none 0 0))), (.cv (.sc (.bool false)))] [(0, (1, (.t 34))), (2, (1, (.c (.cv (.sc (.bool true))))))])⟩,
  ⟨none, (some 36), (.mv (.t 1))⟩,
  ⟨none, (some 37), (.bin .add (.t 36) (.c (.cv (.sc (.int .i64 1)))))⟩,
  ⟨none, none, (.st 3 (.t 4) (.t 35))⟩,
  ⟨none, (some 5), (.mv (.t 37))⟩,
  ⟨none, (some 6), (.mv (.c (.cv (.sc (.int .u16 0)))))⟩])
  .ret)
  (.seq (.reg [
  ⟨none, (some 39), (.mv (.t 0))⟩,
  ⟨none, (some 40), (.mv (.t 1))⟩,
  ⟨none, (some 41), (.iadL 1 (.t 39) (.t 40))⟩,
  ⟨none, (some 42), (.ld false 1 (.t 41))⟩,
  ⟨none, (some 43), (.bin .gtr (.t 42) (.c (.cv (.sc (.int .u8 1)))))⟩,
  ⟨none, (some 38), (.mv (.t 43))⟩])
  (.cond (.t 38)
  (.seq (.reg [
  ⟨none, (some 44), (.build [(.cv (.sc (.string ⟨#[]⟩))), (.cv (.sc (.slice none 0 0))), (.cv (.sc (.bool false)))] [])⟩,
  ⟨none, none, (.st 3 (.t 4) (.t 44))⟩,
  ⟨none, (some 5), (.mv (.c (.cv (.sc (.int .i64 0)))))⟩,
  ⟨none, (some 6), (.mv (.c (.cv (.sc (.int .u16 11)))))⟩])
  .ret) .skip)))))))))

  (.seq (.reg [
  ⟨none, (some 46), (.mv (.t 0))⟩,
  ⟨none, (some 47), (.mv (.t 1))⟩,
  ⟨none, (some 48), (.bin .add (.t 47) (.c (.cv (.sc (.int .i64 1)))))⟩,
  ⟨none, (some 49), (.call 15 true [(.t 46), (.t 48), (.c (.cv (.sc (.int .i64 150))))])⟩,
  ⟨none, (some 45), (.mv (.t 49))⟩,
  ⟨none, (some 50), (.ext (.t 45) 0)⟩,
  ⟨none, (some 51), (.ext (.t 45) 1)⟩,
  ⟨none, (some 52), (.ext (.t 45) 2)⟩,
  ⟨none, (some 9), (.mv (.t 50))⟩,
  ⟨none, (some 1), (.mv (.t 51))⟩,
  ⟨none, (some 8), (.mv (.t 52))⟩])

  (.seq (.reg [
  ⟨none, (some 53), (.mv (.t 7))⟩,
  ⟨none, (some 54), (.mv (.t 9))⟩,
  ⟨none, (some 55), (.cvSB false (.t 54))⟩,
  ⟨none, (some 56), (.build [(.cv (.sc (.string ⟨#[]⟩))), (.cv (.sc (.slice none 0 0))), (.cv (.sc (.bool false)))] [(0, (1, (.t 53))), (1, (1, (.t 55)))])⟩,
  ⟨none, (some 57), (.mv (.t 1))⟩,
  ⟨none, (some 58), (.mv (.t 8))⟩,
  ⟨none, none, (.st 3 (.t 4) (.t 56))⟩,
  ⟨none, (some 5), (.mv (.t 57))⟩,
  ⟨none, (some 6), (.mv (.t 58))⟩])
  .ret)))))⟩
theorem f35_ok : compF Proofs.Try.prog [] [] Proofs.Try.f35 = some f35 := by kernel_rfl

def f36_0 : IR :=

  (.seq (.reg [
  ⟨none, (some 11), (.mv (.t 1))⟩,
  ⟨none, (some 12), (.bin .lss (.t 11) (.c (.cv (.sc (.int .i64 0)))))⟩,
  ⟨none, (some 13), (.mv (.t 12))⟩,
  ⟨(some (13, false)), (some 14), (.mv (.t 1))⟩,
  ⟨(some (13, false)), (some 15), (.mv (.t 0))⟩,
  ⟨(some (13, false)), (some 16), (.len false (.t 15))⟩,
  ⟨(some (13, false)), (some 17), (.bin .gtr (.t 14) (.t 16))⟩,
  ⟨none, (some 18), (.pick (.t 13) (.c (.cv (.sc (.bool true)))) (.t 17))⟩])
  (.cond (.t 18)
  (.seq (.reg [
  ⟨none, (some 4), (.mv (.c (.cv (.sc (.int .i64 0)))))⟩,
  ⟨none, (some 5), (.mv (.c (.cv (.sc (.int .i64 0)))))⟩,
  ⟨none, (some 6), (.mv (.c (.cv (.sc (.int .i64 10)))))⟩])
  .ret) .skip))
def f36_1 : IR :=

  (.seq (.reg [
  ⟨none, (some 23), (.mv (.t 1))⟩,
  ⟨none, (some 24), (.mv (.t 9))⟩,
  ⟨none, (some 25), (.bin .add (.t 23) (.t 24))⟩,
  ⟨none, (some 26), (.mv (.t 0))⟩,
  ⟨none, (some 27), (.len false (.t 26))⟩,
  ⟨none, (some 28), (.bin .eql (.t 25) (.t 27))⟩])
  (.cond (.t 28)
  (.seq (.reg [
  ⟨none, (some 4), (.mv (.c (.cv (.sc (.int .i64 0)))))⟩,
  ⟨none, (some 5), (.mv (.c (.cv (.sc (.int .i64 0)))))⟩,
  ⟨none, (some 6), (.mv (.c (.cv (.sc (.int .i64 10)))))⟩])
  .ret) .skip))
def f36_2 : IR :=

  (.seq (.reg [
  ⟨none, (some 46), (.mv (.t 10))⟩,
  ⟨none, (some 47), (.bin .eql (.t 46) (.c (.cv (.sc (.int .i64 0)))))⟩,
  ⟨none, (some 48), (.mv (.t 47))⟩,
  ⟨(some (48, true)), (some 49), (.mv (.t 9))⟩,
  ⟨(some (48, true)), (some 50), (.bin .gtr (.t 49) (.c (.cv (.sc (.int .i64 0)))))⟩,
  ⟨none, (some 51), (.pick (.t 48) (.t 50) (.c (.cv (.sc (.bool false)))))⟩,
  ⟨none, (some 52), (.mv (.t 51))⟩,
  ⟨(some (52, false)), (some 53), (.mv (.t 7))⟩,
  ⟨(some (52, false)), (some 54), (.bin .gtr (.t 53) (.c (.cv (.sc (.int .i64 9007199254740992)))))⟩,
  ⟨none, (some 55), (.pick (.t 52) (.c (.cv (.sc (.bool true)))) (.t 54))⟩])
  (.cond (.t 55)
  (.seq (.reg [
  ⟨none, (some 4), (.mv (.c (.cv (.sc (.int .i64 0)))))⟩,
  ⟨none, (some 5), (.mv (.c (.cv (.sc (.int .i64 0)))))⟩,
  ⟨none, (some 6), (.mv (.c (.cv (.sc (.int .i64 11)))))⟩])
  .ret) .skip))
def f36_3 : IR :=

  (.seq
  (.seq (.reg [
  ⟨none, (some 19), (.mv (.t 9))⟩,
  ⟨none, (some 20), (.bin .lss (.t 19) (.c (.cv (.sc (.int .i64 8)))))⟩])
  (.cond (.t 20) .skip (.exit 0)))

  (.seq (.block 1
  (.seq f36_1

  (.seq (.reg [
  ⟨none, (some 29), (.mv (.t 0))⟩,
  ⟨none, (some 30), (.mv (.t 1))⟩,
  ⟨none, (some 31), (.mv (.t 9))⟩,
  ⟨none, (some 32), (.bin .add (.t 30) (.t 31))⟩,
  ⟨none, (some 33), (.iadL 1 (.t 29) (.t 32))⟩,
  ⟨none, (some 34), (.ld false 1 (.t 33))⟩,
  ⟨none, (some 35), (.cvI .i64 (.t 34))⟩,
  ⟨none, (some 10), (.mv (.t 35))⟩])

  (.seq (.reg [
  ⟨none, (some 36), (.mv (.t 7))⟩,
  ⟨none, (some 37), (.mv (.t 10))⟩,
  ⟨none, (some 38), (.bin .rem (.t 37) (.c (.cv (.sc (.int .i64 128)))))⟩,
  ⟨none, (some 39), (.mv (.t 8))⟩,
  ⟨none, (some 40), (.bin .mul (.t 38) (.t 39))⟩,
  ⟨none, (some 41), (.bin .add (.t 36) (.t 40))⟩,
  ⟨none, (some 7), (.mv (.t 41))⟩])

  (.seq (.reg [
  ⟨none, (some 42), (.mv (.t 8))⟩,
  ⟨none, (some 43), (.bin .mul (.t 42) (.c (.cv (.sc (.int .i64 128)))))⟩,
  ⟨none, (some 8), (.mv (.t 43))⟩])

  (.seq (.reg [
  ⟨none, (some 44), (.mv (.t 10))⟩,
  ⟨none, (some 45), (.bin .lss (.t 44) (.c (.cv (.sc (.int .i64 128)))))⟩])
  (.cond (.t 45)
  (.seq f36_2

  (.seq (.reg [
  ⟨none, (some 56), (.mv (.t 7))⟩,
  ⟨none, (some 57), (.mv (.t 1))⟩,
  ⟨none, (some 58), (.mv (.t 9))⟩,
  ⟨none, (some 59), (.bin .add (.t 57) (.t 58))⟩,
  ⟨none, (some 60), (.bin .add (.t 59) (.c (.cv (.sc (.int .i64 1)))))⟩,
  ⟨none, (some 4), (.mv (.t 56))⟩,
  ⟨none, (some 5), (.mv (.t 60))⟩,
  ⟨none, (some 6), (.mv (.c (.cv (.sc (.int .i64 0)))))⟩])
  .ret)) .skip)))))))
  (.reg [
  ⟨none, (some 21), (.mv (.t 9))⟩,
  ⟨none, (some 22), (.bin .add (.t 21) (.c (.cv (.sc (.int .i64 1)))))⟩,
  ⟨none, (some 9), (.mv (.t 22))⟩])))
def f36 : FnIR := ⟨61, [(.t 4), (.t 5), (.t 6)],

  (.seq (.reg [
  ⟨none, (some 4), (.mv (.c (.cv (.sc (.int .i64 0)))))⟩,
  ⟨none, (some 5), (.mv (.c (.cv (.sc (.int .i64 0)))))⟩,
  ⟨none, (some 6), (.mv (.c (.cv (.sc (.int .i64 0)))))⟩])

  (.seq f36_0

  (.seq (.reg [
  ⟨none, (some 7), (.mv (.c (.cv (.sc (.int .i64 0)))))⟩])

  (.seq (.reg [
  ⟨none, (some 8), (.mv (.c (.cv (.sc (.int .i64 1)))))⟩])

  (.seq
  (.seq (.reg [
  ⟨none, (some 9), (.mv (.c (.cv (.sc (.int .i64 0)))))⟩])
  (.block 0 (.loop f36_3)))

  (.seq (.reg [
  ⟨none, (some 4), (.mv (.c (.cv (.sc (.int .i64 0)))))⟩,
  ⟨none, (some 5), (.mv (.c (.cv (.sc (.int .i64 0)))))⟩,
  ⟨none, (some 6), (.mv (.c (.cv (.sc (.int .i64 11)))))⟩])
  .ret))))))⟩
theorem f36_ok : compF Proofs.Try.prog [] [] Proofs.Try.f36 = some f36 := by kernel_rfl

def f37_0 : IR :=

  (.seq (.reg [
  ⟨none, (some 19), (.mv (.t 11))⟩,
  ⟨none, (some 20), (.bin .eql (.t 19) (.c (.cv (.sc (.int .i64 0)))))⟩,
  ⟨none, (some 21), (.mv (.t 20))⟩,
  ⟨(some (21, true)), (some 22), (.mv (.t 9))⟩,
  ⟨(some (21, true)), (some 23), (.mv (.t 2))⟩,
  ⟨(some (21, true)), (some 24), (.bin .gtr (.t 22) (.t 23))⟩,
  ⟨none, (some 25), (.pick (.t 21) (.t 24) (.c (.cv (.sc (.bool false)))))⟩])
  (.cond (.t 25) (.reg [
  ⟨none, (some 11), (.mv (.c (.cv (.sc (.int .i64 3)))))⟩]) .skip))
def f37_1 : IR :=

  (.seq (.reg [
  ⟨none, (some 26), (.mv (.t 11))⟩,
  ⟨none, (some 27), (.bin .eql (.t 26) (.c (.cv (.sc (.int .i64 0)))))⟩,
  ⟨none, (some 28), (.mv (.t 27))⟩,
  ⟨(some (28, true)), (some 29), (.mv (.t 9))⟩,
  ⟨(some (28, true)), (some 30), (.mv (.t 0))⟩,
  ⟨(some (28, true)), (some 31), (.len false (.t 30))⟩,
  ⟨(some (28, true)), (some 32), (.mv (.t 10))⟩,
  ⟨(some (28, true)), (some 33), (.bin .sub (.t 31) (.t 32))⟩,
  ⟨(some (28, true)), (some 34), (.bin .gtr (.t 29) (.t 33))⟩,
  ⟨none, (some 35), (.pick (.t 28) (.t 34) (.c (.cv (.sc (.bool false)))))⟩])
  (.cond (.t 35) (.reg [
  ⟨none, (some 11), (.mv (.c (.cv (.sc (.int .i64 10)))))⟩]) .skip))
def f37_2 : IR :=

  (.seq (.reg [
  ⟨none, (some 36), (.mv (.t 11))⟩,
  ⟨none, (some 37), (.bin .neq (.t 36) (.c (.cv (.sc (.int .i64 0)))))⟩])
  (.cond (.t 37)
  (.seq (.reg [
  ⟨none, (some 38), (.mv (.t 11))⟩,
  ⟨none, (some 6), (.mv (.c (.cv (.sc (.string ⟨#[]⟩)))))⟩,
  ⟨none, (some 7), (.mv (.c (.cv (.sc (.int .i64 0)))))⟩,
  ⟨none, (some 8), (.mv (.t 38))⟩])
  .ret) .skip))
def f37 : FnIR := ⟨49, [(.t 6), (.t 7), (.t 8)],

  (.seq (.reg [
  ⟨none, (some 6), (.mv (.c (.cv (.sc (.string ⟨#[]⟩)))))⟩,
  ⟨none, (some 7), (.mv (.c (.cv (.sc (.int .i64 0)))))⟩,
  ⟨none, (some 8), (.mv (.c (.cv (.sc (.int .i64 0)))))⟩])

  (.seq (.reg [
  ⟨none, (some 13), (.mv (.t 0))⟩,
  ⟨none, (some 14), (.mv (.t 1))⟩,
  ⟨none, (some 15), (.call 36 true [(.t 13), (.t 14)])⟩,
  ⟨none, (some 12), (.mv (.t 15))⟩,
  ⟨none, (some 16), (.ext (.t 12) 0)⟩,
  ⟨none, (some 17), (.ext (.t 12) 1)⟩,
  ⟨none, (some 18), (.ext (.t 12) 2)⟩,
  ⟨none, (some 9), (.mv (.t 16))⟩,
  ⟨none, (some 10), (.mv (.t 17))⟩,
  ⟨none, (some 11), (.mv (.t 18))⟩])

  (.seq f37_0

  (.seq f37_1

  (.seq f37_2

  (.seq (.reg [
  ⟨none, (some 39), (.mv (.t 0))⟩,
  ⟨none, (some 40), (.mv (.t 10))⟩,
  ⟨none, (some 41), (.mv (.t 10))⟩,
  ⟨none, (some 42), (.mv (.t 9))⟩,
  ⟨none, (some 43), (.bin .add (.t 41) (.t 42))⟩,
  ⟨none, (some 44), (.slL 1 (.t 39) (some (.t 40)) (some (.t 43)) none)⟩,
  ⟨none, (some 45), (.cvBS (.t 44))⟩,
  ⟨none, (some 46), (.mv (.t 10))⟩,
  ⟨none, (some 47), (.mv (.t 9))⟩,
  ⟨none, (some 48), (.bin .add (.t 46) (.t 47))⟩,
  ⟨none, (some 6), (.mv (.t 45))⟩,
  ⟨none, (some 7), (.mv (.t 48))⟩,
  ⟨none, (some 8), (.mv (.c (.cv (.sc (.int .i64 0)))))⟩])
  .ret))))))⟩
theorem f37_ok : compF Proofs.Try.prog [] [] Proofs.Try.f37 = some f37 := by kernel_rfl

def f38_0 : IR :=

  (.seq (.reg [
  ⟨none, (some 34), (.mv (.t 11))⟩,
  ⟨none, (some 35), (.bin .neq (.t 34) (.c (.cv (.sc (.int .i64 0)))))⟩])
  (.cond (.t 35)
  (.seq (.reg [
  ⟨none, (some 36), (.mv (.t 11))⟩,
  ⟨none, (some 2), (.mv (.c (.cv (.sc (.slice none 0 0)))))⟩,
  ⟨none, (some 3), (.mv (.t 36))⟩])
  .ret) .skip))
def f38_1 : IR :=

  (.seq
  (.seq (.reg [
  ⟨none, (some 18), (.mv (.t 8))⟩,
  ⟨none, (some 19), (.mv (.t 4))⟩,
  ⟨none, (some 20), (.bin .lss (.t 18) (.t 19))⟩,
  ⟨none, (some 21), (.mv (.t 20))⟩,
  ⟨(some (21, true)), (some 22), (.mv (.t 6))⟩,
  ⟨(some (21, true)), (some 23), (.bin .eql (.t 22) (.c (.cv (.sc (.int .i64 0)))))⟩,
  ⟨none, (some 24), (.pick (.t 21) (.t 23) (.c (.cv (.sc (.bool false)))))⟩])
  (.cond (.t 24) .skip (.exit 0)))

  (.seq (.block 1
  (.seq (.reg [
  ⟨none, (some 28), (.mv (.t 0))⟩,
  ⟨none, (some 29), (.mv (.t 5))⟩,
  ⟨none, (some 30), (.call 42 true [(.t 28), (.t 29)])⟩,
  ⟨none, (some 27), (.mv (.t 30))⟩,
  ⟨none, (some 31), (.ext (.t 27) 0)⟩,
  ⟨none, (some 32), (.ext (.t 27) 1)⟩,
  ⟨none, (some 33), (.ext (.t 27) 2)⟩,
  ⟨none, (some 9), (.alloc [(.cv (.sc (.string ⟨#[]⟩))), (.cv (.sc (.slice none 0 0))), (.cv (.sc (.bool false)))])⟩,
  ⟨none, none, (.st 3 (.t 9) (.t 31))⟩,
  ⟨none, (some 10), (.mv (.t 32))⟩,
  ⟨none, (some 11), (.mv (.t 33))⟩])

  (.seq f38_0

  (.seq (.reg [
  ⟨none, (some 37), (.mv (.t 7))⟩,
  ⟨none, (some 38), (.ld true 3 (.t 9))⟩,
  ⟨none, (some 39), (.mksl 3 1 [(.cv (.sc (.string ⟨#[]⟩))), (.cv (.sc (.slice none 0 0))), (.cv (.sc (.bool false)))] [(0, (3, (.t 38)))] false)⟩,
  ⟨none, (some 40), (.app 3 48 [(.sc (.string ⟨#[]⟩)), (.sc (.slice none 0 0)), (.sc (.bool false))] (.t 37) (.t 39))⟩,
  ⟨none, (some 7), (.mv (.t 40))⟩])
  (.reg [
  ⟨none, (some 41), (.mv (.t 10))⟩,
  ⟨none, (some 5), (.mv (.t 41))⟩])))))
  (.reg [
  ⟨none, (some 25), (.mv (.t 8))⟩,
  ⟨none, (some 26), (.bin .add (.t 25) (.c (.cv (.sc (.int .i64 1)))))⟩,
  ⟨none, (some 8), (.mv (.t 26))⟩])))
def f38_2 : IR :=

  (.seq (.reg [
  ⟨none, (some 42), (.mv (.t 6))⟩,
  ⟨none, (some 43), (.bin .eql (.t 42) (.c (.cv (.sc (.int .i64 0)))))⟩,
  ⟨none, (some 44), (.mv (.t 43))⟩,
  ⟨(some (44, true)), (some 45), (.mv (.t 5))⟩,
  ⟨(some (44, true)), (some 46), (.mv (.t 0))⟩,
  ⟨(some (44, true)), (some 47), (.len false (.t 46))⟩,
  ⟨(some (44, true)), (some 48), (.bin .lss (.t 45) (.t 47))⟩,
  ⟨none, (some 49), (.pick (.t 44) (.t 48) (.c (.cv (.sc (.bool false)))))⟩])
  (.cond (.t 49) (.reg [
  ⟨none, (some 6), (.mv (.c (.cv (.sc (.int .i64 11)))))⟩]) .skip))
def f38_3 : IR :=

  (.seq (.reg [
  ⟨none, (some 50), (.mv (.t 6))⟩,
  ⟨none, (some 51), (.bin .neq (.t 50) (.c (.cv (.sc (.int .i64 0)))))⟩])
  (.cond (.t 51)
  (.seq (.reg [
  ⟨none, (some 52), (.mv (.t 6))⟩,
  ⟨none, (some 2), (.mv (.c (.cv (.sc (.slice none 0 0)))))⟩,
  ⟨none, (some 3), (.mv (.t 52))⟩])
  .ret) .skip))
def f38 : FnIR := ⟨54, [(.t 2), (.t 3)],

  (.seq (.reg [
  ⟨none, (some 2), (.mv (.c (.cv (.sc (.slice none 0 0)))))⟩,
  ⟨none, (some 3), (.mv (.c (.cv (.sc (.int .i64 0)))))⟩])

  (.seq (.reg [
  ⟨none, (some 13), (.mv (.t 0))⟩,
  ⟨none, (some 14), (.call 41 true [(.t 13)])⟩,
  ⟨none, (some 12), (.mv (.t 14))⟩,
  ⟨none, (some 15), (.ext (.t 12) 0)⟩,
  ⟨none, (some 16), (.ext (.t 12) 1)⟩,
  ⟨none, (some 17), (.ext (.t 12) 2)⟩,
  ⟨none, (some 4), (.mv (.t 15))⟩,
  ⟨none, (some 5), (.mv (.t 16))⟩,
  ⟨none, (some 6), (.mv (.t 17))⟩])

  (.seq (.reg [
  ⟨none, (some 7), (.mv (.c (.cv (.sc (.slice none 0 0)))))⟩])

  (.seq
  (.seq (.reg [
  ⟨none, (some 8), (.mv (.c (.cv (.sc (.int .i64 0)))))⟩])
  (.block 0 (.loop f38_1)))

  (.seq f38_2

  (.seq f38_3

  (.seq (.reg [
  ⟨none, (some 53), (.mv (.t 7))⟩,
  ⟨none, (some 2), (.mv (.t 53))⟩,
  ⟨none, (some 3), (.mv (.c (.cv (.sc (.int .i64 0)))))⟩])
  .ret)))))))⟩
theorem f38_ok : compF Proofs.Try.prog [] [] Proofs.Try.f38 = some f38 := by kernel_rfl

def f39_0 : IR :=

  (.seq (.reg [
  ⟨none, (some 6), (.mv (.t 0))⟩,
  ⟨none, (some 7), (.len false (.t 6))⟩,
  ⟨none, (some 8), (.mv (.t 1))⟩,
  ⟨none, (some 9), (.len false (.t 8))⟩,
  ⟨none, (some 10), (.bin .neq (.t 7) (.t 9))⟩])
  (.cond (.t 10)
  (.seq (.reg [
  ⟨none, (some 4), (.mv (.c (.cv (.sc (.bool false)))))⟩])
  .ret) .skip))
def f39_1 : IR :=

  (.seq
  (.seq (.reg [
  ⟨none, (some 11), (.mv (.t 5))⟩,
  ⟨none, (some 12), (.mv (.t 0))⟩,
  ⟨none, (some 13), (.len false (.t 12))⟩,
  ⟨none, (some 14), (.bin .lss (.t 11) (.t 13))⟩])
  (.cond (.t 14) .skip (.exit 0)))

  (.seq (.block 1
  (.seq (.draw [(
  ⟨none, (some 17), (.mv (.t 0))⟩, .p), (
  ⟨none, (some 18), (.mv (.t 5))⟩, .p), (
  ⟨none, (some 19), (.iadL 3 (.t 17) (.t 18))⟩, (.r 0 0)), (
  ⟨none, (some 20), (.fad 0 (.t 19))⟩, .p), (
  ⟨none, (some 21), (.ld false 1 (.t 20))⟩, (.r 0 0)), (
  ⟨none, (some 22), (.mv (.t 1))⟩, .p), (
  ⟨none, (some 23), (.mv (.t 5))⟩, .p), (
  ⟨none, (some 24), (.iadL 3 (.t 22) (.t 23))⟩, (.r 0 0)), (
  ⟨none, (some 25), (.fad 0 (.t 24))⟩, .p), (
  ⟨none, (some 26), (.ld false 1 (.t 25))⟩, (.r 0 0)), (
  ⟨none, (some 27), (.bin .neq (.t 21) (.t 26))⟩, .p), (
  ⟨none, (some 28), (.mv (.t 27))⟩, .p), (
  ⟨(some (28, false)), (some 29), (.mv (.t 0))⟩, .p), (
  ⟨(some (28, false)), (some 30), (.mv (.t 5))⟩, .p), (
  ⟨(some (28, false)), (some 31), (.iadL 3 (.t 29) (.t 30))⟩, (.r 0 0)), (
  ⟨(some (28, false)), (some 32), (.fad 1 (.t 31))⟩, .p), (
  ⟨(some (28, false)), (some 33), (.ld false 1 (.t 32))⟩, (.r 0 0)), (
  ⟨(some (28, false)), (some 34), (.cvBS (.t 33))⟩, (.r 0 0)), (
  ⟨(some (28, false)), (some 35), (.mv (.t 1))⟩, .p), (
  ⟨(some (28, false)), (some 36), (.mv (.t 5))⟩, .p), (
  ⟨(some (28, false)), (some 37), (.iadL 3 (.t 35) (.t 36))⟩, (.r 0 0)), (
  ⟨(some (28, false)), (some 38), (.fad 1 (.t 37))⟩, .p), (
  ⟨(some (28, false)), (some 39), (.ld false 1 (.t 38))⟩, (.r 0 0)), (
  ⟨(some (28, false)), (some 40), (.cvBS (.t 39))⟩, (.r 0 0)), (
  ⟨(some (28, false)), (some 41), (.bin .neq (.t 34) (.t 40))⟩, .p), (
  ⟨none, (some 42), (.pick (.t 28) (.c (.cv (.sc (.bool true)))) (.t 41))⟩, .p), (
  ⟨none, (some 43), (.mv (.t 42))⟩, .p), (
  ⟨(some (43, false)), (some 44), (.mv (.t 0))⟩, .p), (
  ⟨(some (43, false)), (some 45), (.mv (.t 5))⟩, .p), (
  ⟨(some (43, false)), (some 46), (.iadL 3 (.t 44) (.t 45))⟩, (.r 0 0)), (
  ⟨(some (43, false)), (some 47), (.fad 2 (.t 46))⟩, .p), (
  ⟨(some (43, false)), (some 48), (.ld false 1 (.t 47))⟩, (.r 0 0)), (
  ⟨(some (43, false)), (some 49), (.mv (.t 1))⟩, .p), (
  ⟨(some (43, false)), (some 50), (.mv (.t 5))⟩, .p), (
  ⟨(some (43, false)), (some 51), (.iadL 3 (.t 49) (.t 50))⟩, (.r 0 0)), (
  ⟨(some (43, false)), (some 52), (.fad 2 (.t 51))⟩, .p), (
  ⟨(some (43, false)), (some 53), (.ld false 1 (.t 52))⟩, (.r 0 0)), (
  ⟨(some (43, false)), (some 54), (.eqb true (.t 48) (.t 53))⟩, .p), (
  ⟨none, (some 55), (.pick (.t 43) (.c (.cv (.sc (.bool true)))) (.t 54))⟩, .p)])
  (.cond (.t 55)
  (.seq (.reg [
  ⟨none, (some 4), (.mv (.c (.cv (.sc (.bool false)))))⟩])
  .ret) .skip)))
  (.reg [
  ⟨none, (some 15), (.mv (.t 5))⟩,
  ⟨none, (some 16), (.bin .add (.t 15) (.c (.cv (.sc (.int .i64 1)))))⟩,
  ⟨none, (some 5), (.mv (.t 16))⟩])))
def f39 : FnIR := ⟨56, [(.t 4)],

  (.seq (.reg [
  ⟨none, (some 4), (.mv (.c (.cv (.sc (.bool false)))))⟩])

  (.seq f39_0

  (.seq
  (.seq (.reg [
  ⟨none, (some 5), (.mv (.c (.cv (.sc (.int .i64 0)))))⟩])
  (.block 0 (.loop f39_1)))

  (.seq (.reg [
  ⟨none, (some 4), (.mv (.c (.cv (.sc (.bool true)))))⟩])
  .ret))))⟩
theorem f39_ok : compF Proofs.Try.prog [] [] Proofs.Try.f39 = some f39 := by kernel_rfl

def f40_0 : IR :=

  (.seq (.reg [
  ⟨none, (some 37), (.mv (.t 11))⟩,
  ⟨none, (some 38), (.bin .neq (.t 37) (.c (.cv (.sc (.int .i64 0)))))⟩])
  (.cond (.t 38)
  (.seq (.reg [
  ⟨none, (some 39), (.mv (.t 11))⟩,
  ⟨none, (some 2), (.mv (.c (.cv (.sc (.slice none 0 0)))))⟩,
  ⟨none, (some 3), (.mv (.t 39))⟩])
  .ret) .skip))
def f40_1 : IR :=

  (.seq (.reg [
  ⟨none, (some 47), (.mv (.t 14))⟩,
  ⟨none, (some 48), (.bin .neq (.t 47) (.c (.cv (.sc (.int .i64 0)))))⟩])
  (.cond (.t 48)
  (.seq (.reg [
  ⟨none, (some 49), (.mv (.t 14))⟩,
  ⟨none, (some 2), (.mv (.c (.cv (.sc (.slice none 0 0)))))⟩,
  ⟨none, (some 3), (.mv (.t 49))⟩])
  .ret) .skip))
def f40_2 : IR :=

  (.seq
  (.seq (.reg [
  ⟨none, (some 21), (.mv (.t 8))⟩,
  ⟨none, (some 22), (.mv (.t 4))⟩,
  ⟨none, (some 23), (.bin .lss (.t 21) (.t 22))⟩,
  ⟨none, (some 24), (.mv (.t 23))⟩,
  ⟨(some (24, true)), (some 25), (.mv (.t 6))⟩,
  ⟨(some (24, true)), (some 26), (.bin .eql (.t 25) (.c (.cv (.sc (.int .i64 0)))))⟩,
  ⟨none, (some 27), (.pick (.t 24) (.t 26) (.c (.cv (.sc (.bool false)))))⟩])
  (.cond (.t 27) .skip (.exit 0)))

  (.seq (.block 1
  (.seq (.reg [
  ⟨none, (some 31), (.mv (.t 0))⟩,
  ⟨none, (some 32), (.mv (.t 5))⟩,
  ⟨none, (some 33), (.call 37 true [(.t 31), (.t 32), (.c (.cv (.sc (.int .i64 30))))])⟩,
  ⟨none, (some 30), (.mv (.t 33))⟩,
  ⟨none, (some 34), (.ext (.t 30) 0)⟩,
  ⟨none, (some 35), (.ext (.t 30) 1)⟩,
  ⟨none, (some 36), (.ext (.t 30) 2)⟩,
  ⟨none, (some 9), (.mv (.t 34))⟩,
  ⟨none, (some 10), (.mv (.t 35))⟩,
  ⟨none, (some 11), (.mv (.t 36))⟩])

  (.seq f40_0

  (.seq (.reg [
  ⟨none, (some 41), (.mv (.t 0))⟩,
  ⟨none, (some 42), (.mv (.t 10))⟩,
  ⟨none, (some 43), (.call 37 true [(.t 41), (.t 42), (.c (.cv (.sc (.int .i64 150))))])⟩,
  ⟨none, (some 40), (.mv (.t 43))⟩,
  ⟨none, (some 44), (.ext (.t 40) 0)⟩,
  ⟨none, (some 45), (.ext (.t 40) 1)⟩,
  ⟨none, (some 46), (.ext (.t 40) 2)⟩,
  ⟨none, (some 12), (.mv (.t 44))⟩,
  ⟨none, (some 13), (.mv (.t 45))⟩,
  ⟨none, (some 14), (.mv (.t 46))⟩])

  (.seq f40_1

  (.seq (.reg [
  ⟨none, (some 50), (.mv (.t 7))⟩,
  ⟨none, (some 51), (.mv (.t 9))⟩,
  ⟨none, (some 52), (.mv (.t 12))⟩,
  ⟨none, (some 53), (.cvSB false (.t 52))⟩,
  ⟨none, (some 54), (.build [(.cv (.sc (.string ⟨#[]⟩))), (.cv (.sc (.slice none 0 0)))] [(0, (1, (.t 51))), (1, (1, (.t 53)))])⟩,
  ⟨none, (some 55), (.mksl 2 1 [(.cv (.sc (.string ⟨#[]⟩))), (.cv (.sc (.slice none 0 0)))] [(0, (2, (.t 54)))] false)⟩,
  ⟨none, (some 56), (.app 2 40 [(.sc (.string ⟨#[]⟩)), (.sc (.slice none 0 0))] (.t 50) (.t 55))⟩,
  ⟨none, (some 7), (.mv (.t 56))⟩])
  (.reg [
  ⟨none, (some 57), (.mv (.t 13))⟩,
  ⟨none, (some 5), (.mv (.t 57))⟩])))))))
  (.reg [
  ⟨none, (some 28), (.mv (.t 8))⟩,
  ⟨none, (some 29), (.bin .add (.t 28) (.c (.cv (.sc (.int .i64 1)))))⟩,
  ⟨none, (some 8), (.mv (.t 29))⟩])))
def f40_3 : IR :=

  (.seq (.reg [
  ⟨none, (some 58), (.mv (.t 6))⟩,
  ⟨none, (some 59), (.bin .eql (.t 58) (.c (.cv (.sc (.int .i64 0)))))⟩,
  ⟨none, (some 60), (.mv (.t 59))⟩,
  ⟨(some (60, true)), (some 61), (.mv (.t 5))⟩,
  ⟨(some (60, true)), (some 62), (.mv (.t 0))⟩,
  ⟨(some (60, true)), (some 63), (.len false (.t 62))⟩,
  ⟨(some (60, true)), (some 64), (.bin .lss (.t 61) (.t 63))⟩,
  ⟨none, (some 65), (.pick (.t 60) (.t 64) (.c (.cv (.sc (.bool false)))))⟩])
  (.cond (.t 65) (.reg [
  ⟨none, (some 6), (.mv (.c (.cv (.sc (.int .i64 11)))))⟩]) .skip))
def f40_4 : IR :=

  (.seq (.reg [
  ⟨none, (some 66), (.mv (.t 6))⟩,
  ⟨none, (some 67), (.bin .neq (.t 66) (.c (.cv (.sc (.int .i64 0)))))⟩])
  (.cond (.t 67)
  (.seq (.reg [
  ⟨none, (some 68), (.mv (.t 6))⟩,
  ⟨none, (some 2), (.mv (.c (.cv (.sc (.slice none 0 0)))))⟩,
  ⟨none, (some 3), (.mv (.t 68))⟩])
  .ret) .skip))
def f40 : FnIR := ⟨70, [(.t 2), (.t 3)],

  (.seq (.reg [
  ⟨none, (some 2), (.mv (.c (.cv (.sc (.slice none 0 0)))))⟩,
  ⟨none, (some 3), (.mv (.c (.cv (.sc (.int .i64 0)))))⟩])

  (.seq (.reg [
  ⟨none, (some 16), (.mv (.t 0))⟩,
  ⟨none, (some 17), (.call 41 true [(.t 16)])⟩,
  ⟨none, (some 15), (.mv (.t 17))⟩,
  ⟨none, (some 18), (.ext (.t 15) 0)⟩,
  ⟨none, (some 19), (.ext (.t 15) 1)⟩,
  ⟨none, (some 20), (.ext (.t 15) 2)⟩,
  ⟨none, (some 4), (.mv (.t 18))⟩,
  ⟨none, (some 5), (.mv (.t 19))⟩,
  ⟨none, (some 6), (.mv (.t 20))⟩])

  (.seq (.reg [
  ⟨none, (some 7), (.mv (.c (.cv (.sc (.slice none 0 0)))))⟩])

  (.seq
  (.seq (.reg [
  ⟨none, (some 8), (.mv (.c (.cv (.sc (.int .i64 0)))))⟩])
  (.block 0 (.loop f40_2)))

  (.seq f40_3

  (.seq f40_4

  (.seq (.reg [
  ⟨none, (some 69), (.mv (.t 7))⟩,
  ⟨none, (some 2), (.mv (.t 69))⟩,
  ⟨none, (some 3), (.mv (.c (.cv (.sc (.int .i64 0)))))⟩])
  .ret)))))))⟩
theorem f40_ok : compF Proofs.Try.prog [] [] Proofs.Try.f40 = some f40 := by kernel_rfl

def f41_0 : IR :=

  (.seq (.reg [
  ⟨none, (some 14), (.mv (.t 7))⟩,
  ⟨none, (some 15), (.bin .eql (.t 14) (.c (.cv (.sc (.int .i64 0)))))⟩,
  ⟨none, (some 16), (.mv (.t 15))⟩,
  ⟨(some (16, true)), (some 17), (.mv (.t 5))⟩,
  ⟨(some (16, true)), (some 18), (.bin .gtr (.t 17) (.c (.cv (.sc (.int .i64 5000)))))⟩,
  ⟨none, (some 19), (.pick (.t 16) (.t 18) (.c (.cv (.sc (.bool false)))))⟩])
  (.cond (.t 19) (.reg [
  ⟨none, (some 7), (.mv (.c (.cv (.sc (.int .i64 3)))))⟩]) .skip))
def f41 : FnIR := ⟨23, [(.t 2), (.t 3), (.t 4)],

  (.seq (.reg [
  ⟨none, (some 2), (.mv (.c (.cv (.sc (.int .i64 0)))))⟩,
  ⟨none, (some 3), (.mv (.c (.cv (.sc (.int .i64 0)))))⟩,
  ⟨none, (some 4), (.mv (.c (.cv (.sc (.int .i64 0)))))⟩])

  (.seq (.reg [
  ⟨none, (some 9), (.mv (.t 0))⟩,
  ⟨none, (some 10), (.call 36 true [(.t 9), (.c (.cv (.sc (.int .i64 0))))])⟩,
  ⟨none, (some 8), (.mv (.t 10))⟩,
  ⟨none, (some 11), (.ext (.t 8) 0)⟩,
  ⟨none, (some 12), (.ext (.t 8) 1)⟩,
  ⟨none, (some 13), (.ext (.t 8) 2)⟩,
  ⟨none, (some 5), (.mv (.t 11))⟩,
  ⟨none, (some 6), (.mv (.t 12))⟩,
  ⟨none, (some 7), (.mv (.t 13))⟩])

  (.seq f41_0

  (.seq (.reg [
  ⟨none, (some 20), (.mv (.t 5))⟩,
  ⟨none, (some 21), (.mv (.t 6))⟩,
  ⟨none, (some 22), (.mv (.t 7))⟩,
  ⟨none, (some 2), (.mv (.t 20))⟩,
  ⟨none, (some 3), (.mv (.t 21))⟩,
  ⟨none, (some 4), (.mv (.t 22))⟩])
  .ret))))⟩
theorem f41_ok : compF Proofs.Try.prog [] [] Proofs.Try.f41 = some f41 := by kernel_rfl

def f42_0 : IR :=

  (.seq (.reg [
  ⟨none, (some 20), (.mv (.t 9))⟩,
  ⟨none, (some 21), (.bin .eql (.t 20) (.c (.cv (.sc (.int .i64 0)))))⟩,
  ⟨none, (some 22), (.mv (.t 21))⟩,
  ⟨(some (22, true)), (some 23), (.mv (.t 8))⟩,
  ⟨(some (22, true)), (some 24), (.mv (.t 0))⟩,
  ⟨(some (22, true)), (some 25), (.len false (.t 24))⟩,
  ⟨(some (22, true)), (some 26), (.bin .eql (.t 23) (.t 25))⟩,
  ⟨none, (some 27), (.pick (.t 22) (.t 26) (.c (.cv (.sc (.bool false)))))⟩])
  (.cond (.t 27) (.reg [
  ⟨none, (some 9), (.mv (.c (.cv (.sc (.int .i64 10)))))⟩]) .skip))
def f42_1 : IR :=

  (.seq (.reg [
  ⟨none, (some 28), (.mv (.t 9))⟩,
  ⟨none, (some 29), (.bin .eql (.t 28) (.c (.cv (.sc (.int .i64 0)))))⟩,
  ⟨none, (some 30), (.mv (.t 29))⟩,
  ⟨(some (30, true)), (some 31), (.mv (.t 0))⟩,
  ⟨(some (30, true)), (some 32), (.mv (.t 8))⟩,
  ⟨(some (30, true)), (some 33), (.iadL 1 (.t 31) (.t 32))⟩,
  ⟨(some (30, true)), (some 34), (.ld false 1 (.t 33))⟩,
  ⟨(some (30, true)), (some 35), (.bin .gtr (.t 34) (.c (.cv (.sc (.int .u8 1)))))⟩,
  ⟨none, (some 36), (.pick (.t 30) (.t 35) (.c (.cv (.sc (.bool false)))))⟩])
  (.cond (.t 36) (.reg [
  ⟨none, (some 9), (.mv (.c (.cv (.sc (.int .i64 11)))))⟩]) .skip))
def f42_2 : IR :=

  (.seq (.reg [
  ⟨none, (some 37), (.mv (.t 9))⟩,
  ⟨none, (some 38), (.bin .neq (.t 37) (.c (.cv (.sc (.int .i64 0)))))⟩])
  (.cond (.t 38)
  (.seq (.reg [
  ⟨none, (some 39), (.build [(.cv (.sc (.string ⟨#[]⟩))), (.cv (.sc (.slice none 0 0))), (.cv (.sc (.bool false)))] [])⟩,
  ⟨none, (some 40), (.mv (.t 9))⟩,
  ⟨none, none, (.st 3 (.t 4) (.t 39))⟩,
  ⟨none, (some 5), (.mv (.c (.cv (.sc (.int .i64 0)))))⟩,
  ⟨none, (some 6), (.mv (.t 40))⟩])
  .ret) .skip))
def f42_3 : IR :=

  (.seq (.reg [
  ⟨none, (some 41), (.mv (.t 0))⟩,
  ⟨none, (some 42), (.mv (.t 8))⟩,
  ⟨none, (some 43), (.iadL 1 (.t 41) (.t 42))⟩,
  ⟨none, (some 44), (.ld false 1 (.t 43))⟩,
  ⟨none, (some 45), (.bin .eql (.t 44) (.c (.cv (.sc (.int .u8 1)))))⟩])
  (.cond (.t 45)
  (.seq (.reg [
  ⟨none, (some 46), (.mv (.t 7))⟩,
  ⟨none, (some 47), (.build [(.cv (.sc (.string ⟨#[]⟩))), (.cv (.sc (.slice none 0 0))), (.cv (.sc (.bool false)))] [(0, (1, (.t 46))), (2, (1, (.c (.cv (.sc (.bool true))))))])⟩,
  ⟨none, (some 48), (.mv (.t 8))⟩,
  ⟨none, (some 49), (.bin .add (.t 48) (.c (.cv (.sc (.int .i64 1)))))⟩,
  ⟨none, none, (.st 3 (.t 4) (.t 47))⟩,
  ⟨none, (some 5), (.mv (.t 49))⟩,
  ⟨none, (some 6), (.mv (.c (.cv (.sc (.int .i64 0)))))⟩])
  .ret) .skip))
def f42_4 : IR :=

  (.seq (.reg [
  ⟨none, (some 58), (.mv (.t 12))⟩,
  ⟨none, (some 59), (.bin .neq (.t 58) (.c (.cv (.sc (.int .i64 0)))))⟩])
  (.cond (.t 59)
  (.seq (.reg [
  ⟨none, (some 60), (.build [(.cv (.sc (.string ⟨#[]⟩))), (.cv (.sc (.slice none 0 0))), (.cv (.sc (.bool false)))] [])⟩,
  ⟨none, (some 61), (.mv (.t 12))⟩,
  ⟨none, none, (.st 3 (.t 4) (.t 60))⟩,
  ⟨none, (some 5), (.mv (.c (.cv (.sc (.int .i64 0)))))⟩,
  ⟨none, (some 6), (.mv (.t 61))⟩])
  .ret) .skip))
def f42 : FnIR := ⟨67, [(.cell 4 true 3), (.t 5), (.t 6)],

  (.seq (.reg [
  ⟨none, (some 4), (.alloc [(.cv (.sc (.string ⟨#[]⟩))), (.cv (.sc (.slice none 0 0))), (.cv (.sc (.bool false)))])⟩,
  ⟨none, (some 5), (.mv (.c (.cv (.sc (.int .i64 0)))))⟩,
  ⟨none, (some 6), (.mv (.c (.cv (.sc (.int .i64 0)))))⟩])

  (.seq (.reg [
  ⟨none, (some 14), (.mv (.t 0))⟩,
  ⟨none, (some 15), (.mv (.t 1))⟩,
  ⟨none, (some 16), (.call 37 true [(.t 14), (.t 15), (.c (.cv (.sc (.int .i64 30))))])⟩,
  ⟨none, (some 13), (.mv (.t 16))⟩,
  ⟨none, (some 17), (.ext (.t 13) 0)⟩,
  ⟨none, (some 18), (.ext (.t 13) 1)⟩,
  ⟨none, (some 19), (.ext (.t 13) 2)⟩,
  ⟨none, (some 7), (.mv (.t 17))⟩,
  ⟨none, (some 8), (.mv (.t 18))⟩,
  ⟨none, (some 9), (.mv (.t 19))⟩])

  (.seq f42_0

  (.seq f42_1

  (.seq f42_2

  (.seq f42_3

  (.seq (.reg [
  ⟨none, (some 51), (.mv (.t 0))⟩,
  ⟨none, (some 52), (.mv (.t 8))⟩,
  ⟨none, (some 53), (.bin .add (.t 52) (.c (.cv (.sc (.int .i64 1)))))⟩,
  ⟨none, (some 54), (.call 37 true [(.t 51), (.t 53), (.c (.cv (.sc (.int .i64 150))))])⟩,
  ⟨none, (some 50), (.mv (.t 54))⟩,
  ⟨none, (some 55), (.ext (.t 50) 0)⟩,
  ⟨none, (some 56), (.ext (.t 50) 1)⟩,
  ⟨none, (some 57), (.ext (.t 50) 2)⟩,
  ⟨none, (some 10), (.mv (.t 55))⟩,
  ⟨none, (some 11), (.mv (.t 56))⟩,
  ⟨none, (some 12), (.mv (.t 57))⟩])

  (.seq f42_4

  (.seq (.reg [
  ⟨none, (some 62), (.mv (.t 7))⟩,
  ⟨none, (some 63), (.mv (.t 10))⟩,
  ⟨none, (some 64), (.cvSB false (.t 63))⟩,
  ⟨none, (some 65), (.build [(.cv (.sc (.string ⟨#[]⟩))), (.cv (.sc (.slice none 0 0))), (.cv (.sc (.bool false)))] [(0, (1, (.t 62))), (1, (1, (.t 64)))])⟩,
  ⟨none, (some 66), (.mv (.t 11))⟩,
  ⟨none, none, (.st 3 (.t 4) (.t 65))⟩,
  ⟨none, (some 5), (.mv (.t 66))⟩,
  ⟨none, (some 6), (.mv (.c (.cv (.sc (.int .i64 0)))))⟩])
  .ret)))))))))⟩
theorem f42_ok : compF Proofs.Try.prog [] [] Proofs.Try.f42 = some f42 := by kernel_rfl


def F : Nat → Option FnIR := fun n => match n with
  | 3 => some f3
  | 4 => some f4
  | 5 => some f5
  | 6 => some f6
  | 7 => some f7
  | 8 => some f8
  | 9 => some f9
  | 10 => some f10
  | 11 => some f11
  | 12 => some f12
  | 13 => some f13
  | 14 => some f14
  | 15 => some f15
  | 16 => some f16
  | 17 => some f17
  | 18 => some f18
  | 19 => some f19
  | 20 => some f20
  | 21 => some f21
  | 22 => some f22
  | 23 => some f23
  | 24 => some f24
  | 25 => some f25
  | 26 => some f26
  | 27 => some f27
  | 28 => some f28
  | 29 => some f29
  | 30 => some f30
  | 31 => some f31
  | 32 => some f32
  | 33 => some f33
  | 34 => some f34
  | 35 => some f35
  | 36 => some f36
  | 37 => some f37
  | 38 => some f38
  | 39 => some f39
  | 40 => some f40
  | 41 => some f41
  | 42 => some f42
  | _ => none

theorem tbl : TblOK Proofs.Try.prog F := by
  refine ⟨by kernel_rfl, fun f fn h => ?_⟩
  unfold F at h
  split at h
  · cases h; exact ⟨_, _, _, Proofs.Try.func3, by kernel_rfl, f3_ok⟩
  · cases h; exact ⟨_, _, _, Proofs.Try.func4, by kernel_rfl, f4_ok⟩
  · cases h; exact ⟨_, _, _, Proofs.Try.func5, by kernel_rfl, f5_ok⟩
  · cases h; exact ⟨_, _, _, Proofs.Try.func6, by kernel_rfl, f6_ok⟩
  · cases h; exact ⟨_, _, _, Proofs.Try.func7, by kernel_rfl, f7_ok⟩
  · cases h; exact ⟨_, _, _, Proofs.Try.func8, by kernel_rfl, f8_ok⟩
  · cases h; exact ⟨_, _, _, Proofs.Try.func9, by kernel_rfl, f9_ok⟩
  · cases h; exact ⟨_, _, _, Proofs.Try.func10, by kernel_rfl, f10_ok⟩
  · cases h; exact ⟨_, _, _, Proofs.Try.func11, by kernel_rfl, f11_ok⟩
  · cases h; exact ⟨_, _, _, Proofs.Try.func12, by kernel_rfl, f12_ok⟩
  · cases h; exact ⟨_, _, _, Proofs.Try.func13, by kernel_rfl, f13_ok⟩
  · cases h; exact ⟨_, _, _, Proofs.Try.func14, by kernel_rfl, f14_ok⟩
  · cases h; exact ⟨_, _, _, Proofs.Try.func15, by kernel_rfl, f15_ok⟩
  · cases h; exact ⟨_, _, _, Proofs.Try.func16, by kernel_rfl, f16_ok⟩
  · cases h; exact ⟨_, _, _, Proofs.Try.func17, by kernel_rfl, f17_ok⟩
  · cases h; exact ⟨_, _, _, Proofs.Try.func18, by kernel_rfl, f18_ok⟩
  · cases h; exact ⟨_, _, _, Proofs.Try.func19, by kernel_rfl, f19_ok⟩
  · cases h; exact ⟨_, _, _, Proofs.Try.func20, by kernel_rfl, f20_ok⟩
  · cases h; exact ⟨_, _, _, Proofs.Try.func21, by kernel_rfl, f21_ok⟩
  · cases h; exact ⟨_, _, _, Proofs.Try.func22, by kernel_rfl, f22_ok⟩
  · cases h; exact ⟨_, _, _, Proofs.Try.func23, by kernel_rfl, f23_ok⟩
  · cases h; exact ⟨_, _, _, Proofs.Try.func24, by kernel_rfl, f24_ok⟩
  · cases h; exact ⟨_, _, _, Proofs.Try.func25, by kernel_rfl, f25_ok⟩
  · cases h; exact ⟨_, _, _, Proofs.Try.func26, by kernel_rfl, f26_ok⟩
  · cases h; exact ⟨_, _, _, Proofs.Try.func27, by kernel_rfl, f27_ok⟩
  · cases h; exact ⟨_, _, _, Proofs.Try.func28, by kernel_rfl, f28_ok⟩
  · cases h; exact ⟨_, _, _, Proofs.Try.func29, by kernel_rfl, f29_ok⟩
  · cases h; exact ⟨_, _, _, Proofs.Try.func30, by kernel_rfl, f30_ok⟩
  · cases h; exact ⟨_, _, _, Proofs.Try.func31, by kernel_rfl, f31_ok⟩
  · cases h; exact ⟨_, _, _, Proofs.Try.func32, by kernel_rfl, f32_ok⟩
  · cases h; exact ⟨_, _, _, Proofs.Try.func33, by kernel_rfl, f33_ok⟩
  · cases h; exact ⟨_, _, _, Proofs.Try.func34, by kernel_rfl, f34_ok⟩
  · cases h; exact ⟨_, _, _, Proofs.Try.func35, by kernel_rfl, f35_ok⟩
  · cases h; exact ⟨_, _, _, Proofs.Try.func36, by kernel_rfl, f36_ok⟩
  · cases h; exact ⟨_, _, _, Proofs.Try.func37, by kernel_rfl, f37_ok⟩
  · cases h; exact ⟨_, _, _, Proofs.Try.func38, by kernel_rfl, f38_ok⟩
  · cases h; exact ⟨_, _, _, Proofs.Try.func39, by kernel_rfl, f39_ok⟩
  · cases h; exact ⟨_, _, _, Proofs.Try.func40, by kernel_rfl, f40_ok⟩
  · cases h; exact ⟨_, _, _, Proofs.Try.func41, by kernel_rfl, f41_ok⟩
  · cases h; exact ⟨_, _, _, Proofs.Try.func42, by kernel_rfl, f42_ok⟩
  · cases h

end Go.V01
