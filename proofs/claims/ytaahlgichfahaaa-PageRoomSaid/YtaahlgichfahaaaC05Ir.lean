/-
  Chapter 05: the program's functions, as the small code (printed by a program of ours, checked by the kernel).
-/
import Derived.Test.YtaahlgichfahaaaVmAll2
import Derived.Test.YtaahlgichfahaaaProg
namespace Go.V05
open Go Go.Vm

def f3_0 : IR :=

  (.seq (.reg [
  ⟨none, (some 29), (.mv (.t 11))⟩,
  ⟨none, (some 30), (.un .not (.t 29))⟩,
  ⟨none, (some 31), (.mv (.t 30))⟩,
  ⟨(some (31, false)), (some 32), (.mv (.t 10))⟩,
  ⟨(some (31, false)), (some 33), (.len false (.t 32))⟩,
  ⟨(some (31, false)), (some 34), (.bin .neq (.t 33) (.c (.cv (.sc (.int .i64 256)))))⟩,
  ⟨none, (some 35), (.pick (.t 31) (.c (.cv (.sc (.bool true)))) (.t 34))⟩])
  (.cond (.t 35)
  (.seq (.reg [
  ⟨none, (some 8), (.mv (.c (.cv (.sc (.bool false)))))⟩])
  .ret) .skip))
def f3 : FnIR := ⟨81, [(.t 8)],

  (.seq (.reg [
  ⟨none, (some 8), (.mv (.c (.cv (.sc (.bool false)))))⟩])

  (.seq (.reg [
  ⟨none, (some 19), (.mv (.t 0))⟩,
  ⟨none, (some 20), (.call 9 true [(.t 19), (.c (.cv (.sc (.int .i64 12))))])⟩,
  ⟨none, (some 9), (.mv (.t 20))⟩])

  (.seq (.reg [
  ⟨none, (some 22), (.mv (.t 9))⟩,
  ⟨none, (some 23), (.mv (.t 9))⟩,
  ⟨none, (some 24), (.call 11 true [(.t 23)])⟩,
  ⟨none, (some 25), (.slL 2 (.t 22) none (some (.t 24)) none)⟩,
  ⟨none, (some 26), (.call 10 false [(.c (.cv (.sc (.int .i64 0)))), (.t 25)])⟩,
  ⟨none, (some 21), (.mv (.t 26))⟩,
  ⟨none, (some 27), (.ext (.t 21) 0)⟩,
  ⟨none, (some 28), (.ext (.t 21) 1)⟩,
  ⟨none, (some 10), (.mv (.t 27))⟩,
  ⟨none, (some 11), (.mv (.t 28))⟩])

  (.seq f3_0

  (.seq (.reg [
  ⟨none, (some 36), (.mv (.t 10))⟩,
  ⟨none, (some 37), (.mv (.t 1))⟩,
  ⟨none, (some 38), (.iadL 1 (.t 36) (.t 37))⟩,
  ⟨none, (some 39), (.ld false 1 (.t 38))⟩,
  ⟨none, (some 12), (.mv (.t 39))⟩])

  (.seq (.reg [
  ⟨none, (some 41), (.mv (.t 10))⟩,
  ⟨none, (some 42), (.mv (.t 3))⟩,
  ⟨none, (some 43), (.cvI .i64 (.t 42))⟩,
  ⟨none, (some 44), (.bin .rem (.t 43) (.c (.cv (.sc (.int .i64 256)))))⟩,
  ⟨none, (some 45), (.slL 1 (.t 41) none (some (.t 44)) none)⟩,
  ⟨none, (some 46), (.call 1000012 true [(.t 45)])⟩,
  ⟨none, (some 40), (.mv (.t 46))⟩,
  ⟨none, (some 47), (.ext (.t 40) 0)⟩,
  ⟨none, (some 48), (.ext (.t 40) 1)⟩,
  ⟨none, (some 49), (.ext (.t 40) 2)⟩,
  ⟨none, (some 13), (.mv (.t 47))⟩,
  ⟨none, (some 14), (.mv (.t 48))⟩,
  ⟨none, (some 15), (.mv (.t 49))⟩])

  (.seq (.reg [
  ⟨none, (some 50), (.mv (.t 10))⟩,
  ⟨none, (some 51), (.mv (.t 1))⟩,
  ⟨none, (some 52), (.mv (.t 2))⟩,
  ⟨none, (some 53), (.iadL 1 (.t 50) (.t 51))⟩,
  ⟨none, none, (.st 1 (.t 53) (.t 52))⟩])

  (.seq (.reg [
  ⟨none, (some 55), (.mv (.t 10))⟩,
  ⟨none, (some 56), (.call 1000012 true [(.t 55)])⟩,
  ⟨none, (some 54), (.mv (.t 56))⟩,
  ⟨none, (some 57), (.ext (.t 54) 0)⟩,
  ⟨none, (some 58), (.ext (.t 54) 1)⟩,
  ⟨none, (some 59), (.ext (.t 54) 2)⟩,
  ⟨none, (some 16), (.mv (.t 57))⟩,
  ⟨none, (some 17), (.mv (.t 58))⟩,
  ⟨none, (some 18), (.mv (.t 59))⟩])

  (.seq (.reg [
  ⟨none, (some 60), (.call 13 true [])⟩,
  ⟨none, (some 61), (.mv (.t 60))⟩,
  ⟨(some (61, true)), (some 62), (.mv (.t 18))⟩,
  ⟨(some (61, true)), (some 63), (.bin .eql (.t 62) (.c (.cv (.sc (.int .u16 0)))))⟩,
  ⟨(some (61, true)), (some 64), (.mv (.t 2))⟩,
  ⟨(some (61, true)), (some 65), (.mv (.t 12))⟩,
  ⟨(some (61, true)), (some 66), (.bin .eql (.t 64) (.t 65))⟩,
  ⟨(some (61, true)), (some 67), (.eqb false (.t 63) (.t 66))⟩,
  ⟨none, (some 68), (.pick (.t 61) (.t 67) (.c (.cv (.sc (.bool false)))))⟩,
  ⟨none, (some 69), (.mv (.t 68))⟩,
  ⟨(some (69, true)), (some 70), (.mv (.t 18))⟩,
  ⟨(some (69, true)), (some 71), (.bin .eql (.t 70) (.c (.cv (.sc (.int .u16 0)))))⟩,
  ⟨(some (69, true)), (some 72), (.mv (.t 71))⟩,
  ⟨(some (72, false)), (some 73), (.mv (.t 18))⟩,
  ⟨(some (72, false)), (some 74), (.bin .eql (.t 73) (.c (.cv (.sc (.int .u16 12)))))⟩,
  ⟨(some (69, true)), (some 75), (.pick (.t 72) (.c (.cv (.sc (.bool true)))) (.t 74))⟩,
  ⟨none, (some 76), (.pick (.t 69) (.t 75) (.c (.cv (.sc (.bool false)))))⟩,
  ⟨none, (some 77), (.mv (.t 76))⟩,
  ⟨(some (77, true)), (some 78), (.mv (.t 15))⟩,
  ⟨(some (77, true)), (some 79), (.bin .eql (.t 78) (.c (.cv (.sc (.int .u16 11)))))⟩,
  ⟨none, (some 80), (.pick (.t 77) (.t 79) (.c (.cv (.sc (.bool false)))))⟩,
  ⟨none, (some 8), (.mv (.t 80))⟩])
  .ret)))))))))⟩
theorem f3_ok : compF Proofs.Try.prog [10, 1000012] [] Proofs.Try.f3 = some f3 := by kernel_rfl

def f4_0 : IR :=

  (.seq
  (.seq (.reg [
  ⟨none, (some 9), (.mv (.t 6))⟩,
  ⟨none, (some 10), (.bin .lss (.t 9) (.c (.cv (.sc (.int .i64 90)))))⟩])
  (.cond (.t 10) .skip (.exit 0)))

  (.seq (.block 1 (.reg [
  ⟨none, (some 13), (.mv (.t 5))⟩,
  ⟨none, (some 14), (.mv (.t 0))⟩,
  ⟨none, (some 15), (.bin .rem (.t 14) (.c (.cv (.sc (.int .u8 100)))))⟩,
  ⟨none, (some 16), (.cvI .i64 (.t 15))⟩,
  ⟨none, (some 17), (.mks 1 1 [(.sc (.int .u8 0))] (.t 16) (.t 16) true)⟩,
  ⟨none, (some 18), (.build [(.cv (.sc (.string ⟨#[]⟩))), (.cv (.sc (.slice none 0 0)))] [(0, (1, (.c (.cv (.sc (.string ⟨#[107]⟩)))))), (1, (1, (.t 17)))])⟩,
  ⟨none, (some 19), (.mksl 2 1 [(.cv (.sc (.string ⟨#[]⟩))), (.cv (.sc (.slice none 0 0)))] [(0, (2, (.t 18)))] false)⟩,
  ⟨none, (some 20), (.app 2 40 [(.sc (.string ⟨#[]⟩)), (.sc (.slice none 0 0))] (.t 13) (.t 19))⟩,
  ⟨none, (some 5), (.mv (.t 20))⟩]))
  (.reg [
  ⟨none, (some 11), (.mv (.t 6))⟩,
  ⟨none, (some 12), (.bin .add (.t 11) (.c (.cv (.sc (.int .i64 1)))))⟩,
  ⟨none, (some 6), (.mv (.t 12))⟩])))
def f4 : FnIR := ⟨48, [(.t 4)],

  (.seq (.reg [
  ⟨none, (some 4), (.mv (.c (.cv (.sc (.bool false)))))⟩])

  (.seq (.reg [
  ⟨none, (some 5), (.mv (.c (.cv (.sc (.slice none 0 0)))))⟩])

  (.seq
  (.seq (.reg [
  ⟨none, (some 6), (.mv (.c (.cv (.sc (.int .i64 0)))))⟩])
  (.block 0 (.loop f4_0)))

  (.seq (.reg [
  ⟨none, (some 22), (.mv (.t 1))⟩,
  ⟨none, (some 23), (.call 10 true [(.t 22), (.c (.cv (.sc (.slice none 0 0))))])⟩,
  ⟨none, (some 21), (.mv (.t 23))⟩,
  ⟨none, (some 24), (.ext (.t 21) 0)⟩,
  ⟨none, (some 25), (.ext (.t 21) 1)⟩,
  ⟨none, (some 7), (.mv (.t 24))⟩,
  ⟨none, (some 8), (.mv (.t 25))⟩])

  (.seq (.draw [(
  ⟨none, (some 26), (.call 13 true [])⟩, (.r 0 0)), (
  ⟨none, (some 27), (.mv (.t 26))⟩, .p), (
  ⟨(some (27, true)), (some 28), (.mv (.t 5))⟩, .p), (
  ⟨(some (27, true)), (some 29), (.call 1000011 true [(.t 28)])⟩, (.r 0 0)), (
  ⟨(some (27, true)), (some 30), (.mv (.t 0))⟩, .p), (
  ⟨(some (27, true)), (some 31), (.bin .rem (.t 30) (.c (.cv (.sc (.int .u8 100)))))⟩, .p), (
  ⟨(some (27, true)), (some 32), (.cvI .i64 (.t 31))⟩, .p), (
  ⟨(some (27, true)), (some 33), (.bin .add (.c (.cv (.sc (.int .i64 4)))) (.t 32))⟩, .p), (
  ⟨(some (27, true)), (some 34), (.bin .quo (.c (.cv (.sc (.int .i64 250)))) (.t 33))⟩, .p), (
  ⟨(some (27, true)), (some 35), (.mnmx true [(.c (.cv (.sc (.int .i64 90)))), (.t 34)])⟩, .p), (
  ⟨(some (27, true)), (some 36), (.bin .eql (.t 29) (.t 35))⟩, .p), (
  ⟨none, (some 37), (.pick (.t 27) (.t 36) (.c (.cv (.sc (.bool false)))))⟩, .p), (
  ⟨none, (some 38), (.mv (.t 37))⟩, .p), (
  ⟨(some (38, true)), (some 39), (.mv (.t 8))⟩, .p), (
  ⟨(some (38, true)), (some 40), (.mv (.t 1))⟩, .p), (
  ⟨(some (38, true)), (some 41), (.bin .geq (.t 40) (.c (.cv (.sc (.int .i64 0)))))⟩, .p), (
  ⟨(some (38, true)), (some 42), (.mv (.t 41))⟩, .p), (
  ⟨(some (42, true)), (some 43), (.mv (.t 1))⟩, .p), (
  ⟨(some (42, true)), (some 44), (.bin .leq (.t 43) (.c (.cv (.sc (.int .i64 4)))))⟩, .p), (
  ⟨(some (38, true)), (some 45), (.pick (.t 42) (.t 44) (.c (.cv (.sc (.bool false)))))⟩, .p), (
  ⟨(some (38, true)), (some 46), (.eqb false (.t 39) (.t 45))⟩, .p), (
  ⟨none, (some 47), (.pick (.t 38) (.t 46) (.c (.cv (.sc (.bool false)))))⟩, .p), (
  ⟨none, (some 4), (.mv (.t 47))⟩, .p)])
  .ret)))))⟩
theorem f4_ok : compF Proofs.Try.prog [1000011] [(5, 4)] Proofs.Try.f4 = some f4 := by kernel_rfl

def f5_0 : IR :=

  (.seq (.reg [
  ⟨none, (some 16), (.mv (.t 0))⟩,
  ⟨none, (some 17), (.len false (.t 16))⟩,
  ⟨none, (some 18), (.bin .gtr (.t 17) (.c (.cv (.sc (.int .i64 300)))))⟩,
  ⟨none, (some 19), (.mv (.t 18))⟩,
  ⟨(some (19, false)), (some 20), (.call 13 true [])⟩,
  ⟨(some (19, false)), (some 21), (.un .not (.t 20))⟩,
  ⟨none, (some 22), (.pick (.t 19) (.c (.cv (.sc (.bool true)))) (.t 21))⟩])
  (.cond (.t 22)
  (.seq (.reg [
  ⟨none, (some 23), (.call 13 true [])⟩,
  ⟨none, (some 12), (.mv (.t 23))⟩])
  .ret) .skip))
def f5_1 : IR :=

  (.seq (.reg [
  ⟨none, (some 37), (.mv (.t 4))⟩,
  ⟨none, (some 38), (.bin .rem (.t 37) (.c (.cv (.sc (.int .u8 3)))))⟩,
  ⟨none, (some 39), (.bin .gtr (.t 38) (.c (.cv (.sc (.int .u8 0)))))⟩])
  (.cond (.t 39) (.reg [
  ⟨none, (some 40), (.mv (.t 14))⟩,
  ⟨none, (some 41), (.mv (.t 2))⟩,
  ⟨none, (some 42), (.mv (.t 3))⟩,
  ⟨none, (some 43), (.iadL 1 (.t 40) (.t 41))⟩,
  ⟨none, none, (.st 1 (.t 43) (.t 42))⟩]) .skip))
def f5_2 : IR :=

  (.seq (.reg [
  ⟨none, (some 44), (.mv (.t 5))⟩])
  (.cond (.t 44) (.reg [
  ⟨none, (some 45), (.mv (.t 14))⟩,
  ⟨none, (some 46), (.slL 1 (.t 45) none (some (.c (.cv (.sc (.int .i64 252))))) none)⟩,
  ⟨none, (some 47), (.call 16 false [(.t 46)])⟩,
  ⟨none, (some 14), (.mv (.t 47))⟩]) .skip))
def f5 : FnIR := ⟨60, [(.t 12)],

  (.seq (.reg [
  ⟨none, (some 12), (.mv (.c (.cv (.sc (.bool false)))))⟩])

  (.seq f5_0

  (.seq (.reg [
  ⟨none, (some 24), (.mv (.t 1))⟩,
  ⟨none, (some 25), (.call 9 true [(.t 24), (.c (.cv (.sc (.int .i64 10))))])⟩,
  ⟨none, (some 13), (.mv (.t 25))⟩])

  (.seq (.reg [
  ⟨none, (some 27), (.mv (.t 4))⟩,
  ⟨none, (some 28), (.bin .rem (.t 27) (.c (.cv (.sc (.int .u8 5)))))⟩,
  ⟨none, (some 29), (.cvI .i64 (.t 28))⟩,
  ⟨none, (some 30), (.mv (.t 13))⟩,
  ⟨none, (some 31), (.mv (.t 13))⟩,
  ⟨none, (some 32), (.call 15 true [(.t 31)])⟩,
  ⟨none, (some 33), (.slL 2 (.t 30) none (some (.t 32)) none)⟩,
  ⟨none, (some 34), (.call 14 false [(.t 29), (.t 33)])⟩,
  ⟨none, (some 26), (.mv (.t 34))⟩,
  ⟨none, (some 35), (.ext (.t 26) 0)⟩,
  ⟨none, (some 36), (.ext (.t 26) 1)⟩,
  ⟨none, (some 14), (.mv (.t 35))⟩,
  ⟨none, (some 15), (.mv (.t 36))⟩])

  (.seq f5_1

  (.seq f5_2

  (.seq (.reg [
  ⟨none, (some 48), (.mv (.t 0))⟩,
  ⟨none, (some 49), (.call 17 true [(.t 48)])⟩,
  ⟨none, (some 50), (.mv (.t 49))⟩,
  ⟨(some (50, true)), (some 51), (.mv (.t 14))⟩,
  ⟨(some (50, true)), (some 52), (.call 17 true [(.t 51)])⟩,
  ⟨none, (some 53), (.pick (.t 50) (.t 52) (.c (.cv (.sc (.bool false)))))⟩,
  ⟨none, (some 54), (.mv (.t 53))⟩,
  ⟨(some (54, true)), (some 55), (.mv (.t 14))⟩,
  ⟨(some (54, true)), (some 56), (.mv (.t 2))⟩,
  ⟨(some (54, true)), (some 57), (.slL 1 (.t 55) none (some (.t 56)) none)⟩,
  ⟨(some (54, true)), (some 58), (.call 17 true [(.t 57)])⟩,
  ⟨none, (some 59), (.pick (.t 54) (.t 58) (.c (.cv (.sc (.bool false)))))⟩,
  ⟨none, (some 12), (.mv (.t 59))⟩])
  .ret)))))))⟩
theorem f5_ok : compF Proofs.Try.prog [14, 16] [] Proofs.Try.f5 = some f5 := by kernel_rfl

def f6_0 : IR :=

  (.seq (.reg [
  ⟨none, (some 19), (.mv (.t 6))⟩,
  ⟨none, (some 20), (.bin .lss (.t 19) (.c (.cv (.sc (.int .i64 0)))))⟩,
  ⟨none, (some 21), (.mv (.t 20))⟩,
  ⟨(some (21, false)), (some 22), (.mv (.t 6))⟩,
  ⟨(some (21, false)), (some 23), (.mv (.t 5))⟩,
  ⟨(some (21, false)), (some 24), (.len false (.t 23))⟩,
  ⟨(some (21, false)), (some 25), (.bin .gtr (.t 22) (.t 24))⟩,
  ⟨none, (some 26), (.pick (.t 21) (.c (.cv (.sc (.bool true)))) (.t 25))⟩])
  (.cond (.t 26)
  (.seq (.reg [
  ⟨none, (some 4), (.mv (.c (.cv (.sc (.bool false)))))⟩])
  .ret) .skip))
def f6_1 : IR :=

  (.seq (.reg [
  ⟨none, (some 48), (.mv (.t 8))⟩,
  ⟨none, (some 49), (.un .not (.t 48))⟩,
  ⟨none, (some 50), (.mv (.t 49))⟩,
  ⟨(some (50, false)), (some 51), (.mv (.t 7))⟩,
  ⟨(some (50, false)), (some 52), (.len false (.t 51))⟩,
  ⟨(some (50, false)), (some 53), (.bin .neq (.t 52) (.c (.cv (.sc (.int .i64 256)))))⟩,
  ⟨none, (some 54), (.pick (.t 50) (.c (.cv (.sc (.bool true)))) (.t 53))⟩,
  ⟨none, (some 55), (.mv (.t 54))⟩,
  ⟨(some (55, false)), (some 56), (.mv (.t 11))⟩,
  ⟨(some (55, false)), (some 57), (.bin .neq (.t 56) (.c (.cv (.sc (.int .u16 0)))))⟩,
  ⟨none, (some 58), (.pick (.t 55) (.c (.cv (.sc (.bool true)))) (.t 57))⟩,
  ⟨none, (some 59), (.mv (.t 58))⟩,
  ⟨(some (59, false)), (some 60), (.mv (.t 9))⟩,
  ⟨(some (59, false)), (some 61), (.mv (.t 1))⟩,
  ⟨(some (59, false)), (some 62), (.bin .rem (.t 61) (.c (.cv (.sc (.int .u8 5)))))⟩,
  ⟨(some (59, false)), (some 63), (.cvI .i64 (.t 62))⟩,
  ⟨(some (59, false)), (some 64), (.bin .neq (.t 60) (.t 63))⟩,
  ⟨none, (some 65), (.pick (.t 59) (.c (.cv (.sc (.bool true)))) (.t 64))⟩,
  ⟨none, (some 66), (.mv (.t 65))⟩,
  ⟨(some (66, false)), (some 67), (.mv (.t 12))⟩,
  ⟨(some (66, false)), (some 68), (.un .not (.t 67))⟩,
  ⟨none, (some 69), (.pick (.t 66) (.c (.cv (.sc (.bool true)))) (.t 68))⟩])
  (.cond (.t 69)
  (.seq (.reg [
  ⟨none, (some 4), (.mv (.c (.cv (.sc (.bool false)))))⟩])
  .ret) .skip))
def f6_2 : IR :=

  (.seq (.reg [
  ⟨none, (some 70), (.mv (.t 6))⟩,
  ⟨none, (some 71), (.mv (.t 5))⟩,
  ⟨none, (some 72), (.len false (.t 71))⟩,
  ⟨none, (some 73), (.bin .lss (.t 70) (.t 72))⟩])
  (.cond (.t 73)
  (.seq (.reg [
  ⟨none, (some 75), (.mv (.t 5))⟩,
  ⟨none, (some 76), (.mv (.t 6))⟩,
  ⟨none, (some 77), (.bin .add (.t 76) (.c (.cv (.sc (.int .i64 1)))))⟩,
  ⟨none, (some 78), (.slL 2 (.t 75) none (some (.t 77)) none)⟩,
  ⟨none, (some 79), (.call 10 true [(.c (.cv (.sc (.int .i64 0)))), (.t 78)])⟩,
  ⟨none, (some 74), (.mv (.t 79))⟩,
  ⟨none, (some 80), (.ext (.t 74) 0)⟩,
  ⟨none, (some 81), (.ext (.t 74) 1)⟩,
  ⟨none, (some 13), (.mv (.t 80))⟩,
  ⟨none, (some 14), (.mv (.t 81))⟩])

  (.seq (.reg [
  ⟨none, (some 82), (.call 13 true [])⟩,
  ⟨none, (some 83), (.mv (.t 82))⟩,
  ⟨(some (83, true)), (some 84), (.mv (.t 14))⟩,
  ⟨(some (83, true)), (some 85), (.un .not (.t 84))⟩,
  ⟨none, (some 86), (.pick (.t 83) (.t 85) (.c (.cv (.sc (.bool false)))))⟩,
  ⟨none, (some 4), (.mv (.t 86))⟩])
  .ret)) .skip))
def f6 : FnIR := ⟨88, [(.t 4)],

  (.seq (.reg [
  ⟨none, (some 4), (.mv (.c (.cv (.sc (.bool false)))))⟩])

  (.seq (.reg [
  ⟨none, (some 15), (.mv (.t 0))⟩,
  ⟨none, (some 16), (.call 9 true [(.t 15), (.c (.cv (.sc (.int .i64 20))))])⟩,
  ⟨none, (some 5), (.mv (.t 16))⟩])

  (.seq (.reg [
  ⟨none, (some 17), (.mv (.t 5))⟩,
  ⟨none, (some 18), (.call 11 true [(.t 17)])⟩,
  ⟨none, (some 6), (.mv (.t 18))⟩])

  (.seq f6_0

  (.seq (.reg [
  ⟨none, (some 28), (.mv (.t 1))⟩,
  ⟨none, (some 29), (.bin .rem (.t 28) (.c (.cv (.sc (.int .u8 5)))))⟩,
  ⟨none, (some 30), (.cvI .i64 (.t 29))⟩,
  ⟨none, (some 31), (.mv (.t 5))⟩,
  ⟨none, (some 32), (.mv (.t 6))⟩,
  ⟨none, (some 33), (.slL 2 (.t 31) none (some (.t 32)) none)⟩,
  ⟨none, (some 34), (.call 10 true [(.t 30), (.t 33)])⟩,
  ⟨none, (some 27), (.mv (.t 34))⟩,
  ⟨none, (some 35), (.ext (.t 27) 0)⟩,
  ⟨none, (some 36), (.ext (.t 27) 1)⟩,
  ⟨none, (some 7), (.mv (.t 35))⟩,
  ⟨none, (some 8), (.mv (.t 36))⟩])

  (.seq (.reg [
  ⟨none, (some 38), (.mv (.t 7))⟩,
  ⟨none, (some 39), (.call 12 true [(.t 38)])⟩,
  ⟨none, (some 37), (.mv (.t 39))⟩,
  ⟨none, (some 40), (.ext (.t 37) 0)⟩,
  ⟨none, (some 41), (.ext (.t 37) 1)⟩,
  ⟨none, (some 42), (.ext (.t 37) 2)⟩,
  ⟨none, (some 9), (.mv (.t 40))⟩,
  ⟨none, (some 10), (.mv (.t 41))⟩,
  ⟨none, (some 11), (.mv (.t 42))⟩])

  (.seq (.reg [
  ⟨none, (some 43), (.mv (.t 5))⟩,
  ⟨none, (some 44), (.mv (.t 6))⟩,
  ⟨none, (some 45), (.slL 2 (.t 43) none (some (.t 44)) none)⟩,
  ⟨none, (some 46), (.mv (.t 10))⟩,
  ⟨none, (some 47), (.call 18 true [(.t 45), (.t 46)])⟩,
  ⟨none, (some 12), (.mv (.t 47))⟩])

  (.seq f6_1

  (.seq f6_2

  (.seq (.reg [
  ⟨none, (some 87), (.call 13 true [])⟩,
  ⟨none, (some 4), (.mv (.t 87))⟩])
  .ret))))))))))⟩
theorem f6_ok : compF Proofs.Try.prog [] [] Proofs.Try.f6 = some f6 := by kernel_rfl

def f7_0 : IR :=

  (.seq (.reg [
  ⟨none, (some 12), (.mv (.t 1))⟩,
  ⟨none, (some 13), (.call 19 true [(.t 12)])⟩,
  ⟨none, (some 14), (.mv (.t 13))⟩,
  ⟨(some (14, false)), (some 15), (.call 13 true [])⟩,
  ⟨(some (14, false)), (some 16), (.un .not (.t 15))⟩,
  ⟨none, (some 17), (.pick (.t 14) (.c (.cv (.sc (.bool true)))) (.t 16))⟩])
  (.cond (.t 17)
  (.seq (.reg [
  ⟨none, (some 18), (.call 13 true [])⟩,
  ⟨none, (some 10), (.mv (.t 18))⟩])
  .ret) .skip))
def f7 : FnIR := ⟨56, [(.t 10)],

  (.seq (.reg [
  ⟨none, (some 10), (.mv (.c (.cv (.sc (.bool false)))))⟩])

  (.seq f7_0

  (.seq (.reg [
  ⟨none, (some 19), (.mv (.t 2))⟩,
  ⟨none, (some 20), (.call 9 true [(.t 19), (.c (.cv (.sc (.int .i64 12))))])⟩,
  ⟨none, (some 11), (.mv (.t 20))⟩])

  (.seq (.reg [
  ⟨none, (some 21), (.mv (.t 0))⟩,
  ⟨none, (some 22), (.mv (.t 1))⟩,
  ⟨none, (some 23), (.mv (.t 3))⟩,
  ⟨none, (some 24), (.call 20 true [(.t 21), (.t 22), (.t 23)])⟩,
  ⟨none, (some 25), (.mv (.t 24))⟩,
  ⟨(some (25, true)), (some 26), (.mv (.t 4))⟩,
  ⟨(some (25, true)), (some 27), (.bin .rem (.t 26) (.c (.cv (.sc (.int .u8 7)))))⟩,
  ⟨(some (25, true)), (some 28), (.cvI .i64 (.t 27))⟩,
  ⟨(some (25, true)), (some 29), (.bin .sub (.t 28) (.c (.cv (.sc (.int .i64 1)))))⟩,
  ⟨(some (25, true)), (some 30), (.mv (.t 11))⟩,
  ⟨(some (25, true)), (some 31), (.mv (.t 4))⟩,
  ⟨(some (25, true)), (some 32), (.bin .rem (.t 31) (.c (.cv (.sc (.int .u8 16)))))⟩,
  ⟨(some (25, true)), (some 33), (.bin .add (.c (.cv (.sc (.int .u8 97)))) (.t 32))⟩,
  ⟨(some (25, true)), (some 34), (.mksl 1 1 [(.cv (.sc (.int .u8 0)))] [(0, (1, (.t 33)))] false)⟩,
  ⟨(some (25, true)), (some 35), (.cvBS (.t 34))⟩,
  ⟨(some (25, true)), (some 36), (.call 20 true [(.t 29), (.t 30), (.t 35)])⟩,
  ⟨none, (some 37), (.pick (.t 25) (.t 36) (.c (.cv (.sc (.bool false)))))⟩,
  ⟨none, (some 38), (.mv (.t 37))⟩,
  ⟨(some (38, true)), (some 39), (.mv (.t 4))⟩,
  ⟨(some (38, true)), (some 40), (.bin .rem (.t 39) (.c (.cv (.sc (.int .u8 5)))))⟩,
  ⟨(some (38, true)), (some 41), (.cvI .i64 (.t 40))⟩,
  ⟨(some (38, true)), (some 42), (.mv (.t 11))⟩,
  ⟨(some (38, true)), (some 43), (.mv (.t 11))⟩,
  ⟨(some (38, true)), (some 44), (.call 15 true [(.t 43)])⟩,
  ⟨(some (38, true)), (some 45), (.slL 2 (.t 42) none (some (.t 44)) none)⟩,
  ⟨(some (38, true)), (some 46), (.call 20 true [(.t 41), (.t 45), (.c (.cv (.sc (.string ⟨#[98]⟩))))])⟩,
  ⟨none, (some 47), (.pick (.t 38) (.t 46) (.c (.cv (.sc (.bool false)))))⟩,
  ⟨none, (some 48), (.mv (.t 47))⟩,
  ⟨(some (48, true)), (some 49), (.mv (.t 1))⟩,
  ⟨(some (48, true)), (some 50), (.mv (.t 1))⟩,
  ⟨(some (48, true)), (some 51), (.call 15 true [(.t 50)])⟩,
  ⟨(some (48, true)), (some 52), (.slL 2 (.t 49) none (some (.t 51)) none)⟩,
  ⟨(some (48, true)), (some 53), (.mv (.t 3))⟩,
  ⟨(some (48, true)), (some 54), (.call 20 true [(.c (.cv (.sc (.int .i64 0)))), (.t 52), (.t 53)])⟩,
  ⟨none, (some 55), (.pick (.t 48) (.t 54) (.c (.cv (.sc (.bool false)))))⟩,
  ⟨none, (some 10), (.mv (.t 55))⟩])
  .ret))))⟩
theorem f7_ok : compF Proofs.Try.prog [] [] Proofs.Try.f7 = some f7 := by kernel_rfl

def f8_0 : IR :=

  (.seq (.reg [
  ⟨none, (some 8), (.mv (.t 1))⟩,
  ⟨none, (some 9), (.len true (.t 8))⟩,
  ⟨none, (some 10), (.bin .gtr (.t 9) (.c (.cv (.sc (.int .i64 40)))))⟩])
  (.cond (.t 10)
  (.seq (.reg [
  ⟨none, (some 11), (.call 13 true [])⟩,
  ⟨none, (some 4), (.mv (.t 11))⟩])
  .ret) .skip))
def f8_1 : IR :=

  (.seq
  (.seq (.reg [
  ⟨none, (some 12), (.mv (.t 6))⟩,
  ⟨none, (some 13), (.mv (.t 0))⟩,
  ⟨none, (some 14), (.bin .rem (.t 13) (.c (.cv (.sc (.int .u8 26)))))⟩,
  ⟨none, (some 15), (.cvI .i64 (.t 14))⟩,
  ⟨none, (some 16), (.bin .lss (.t 12) (.t 15))⟩])
  (.cond (.t 16) .skip (.exit 0)))

  (.seq (.block 1 (.reg [
  ⟨none, (some 19), (.mv (.t 5))⟩,
  ⟨none, (some 20), (.mv (.t 6))⟩,
  ⟨none, (some 21), (.cvI .u8 (.t 20))⟩,
  ⟨none, (some 22), (.bin .add (.c (.cv (.sc (.int .u8 97)))) (.t 21))⟩,
  ⟨none, (some 23), (.mksl 1 1 [(.cv (.sc (.int .u8 0)))] [(0, (1, (.t 22)))] false)⟩,
  ⟨none, (some 24), (.cvBS (.t 23))⟩,
  ⟨none, (some 25), (.build [(.cv (.sc (.string ⟨#[]⟩))), (.cv (.sc (.slice none 0 0)))] [(0, (1, (.t 24)))])⟩,
  ⟨none, (some 26), (.mksl 2 1 [(.cv (.sc (.string ⟨#[]⟩))), (.cv (.sc (.slice none 0 0)))] [(0, (2, (.t 25)))] false)⟩,
  ⟨none, (some 27), (.app 2 40 [(.sc (.string ⟨#[]⟩)), (.sc (.slice none 0 0))] (.t 19) (.t 26))⟩,
  ⟨none, (some 5), (.mv (.t 27))⟩]))
  (.reg [
  ⟨none, (some 17), (.mv (.t 6))⟩,
  ⟨none, (some 18), (.bin .add (.t 17) (.c (.cv (.sc (.int .i64 1)))))⟩,
  ⟨none, (some 6), (.mv (.t 18))⟩])))
def f8_2 : IR :=

  (.seq
  (.seq (.reg [
  ⟨none, (some 28), (.mv (.t 7))⟩,
  ⟨none, (some 29), (.mv (.t 5))⟩,
  ⟨none, (some 30), (.len false (.t 29))⟩,
  ⟨none, (some 31), (.bin .lss (.t 28) (.t 30))⟩])
  (.cond (.t 31) .skip (.exit 2)))

  (.seq (.block 3
  (.seq (.reg [
  ⟨none, (some 34), (.mv (.t 5))⟩,
  ⟨none, (some 35), (.mv (.t 5))⟩,
  ⟨none, (some 36), (.mv (.t 7))⟩,
  ⟨none, (some 37), (.iadL 2 (.t 35) (.t 36))⟩,
  ⟨none, (some 38), (.fad 0 (.t 37))⟩,
  ⟨none, (some 39), (.ld false 1 (.t 38))⟩,
  ⟨none, (some 40), (.call 21 true [(.t 34), (.t 39)])⟩,
  ⟨none, (some 41), (.mv (.t 7))⟩,
  ⟨none, (some 42), (.bin .neq (.t 40) (.t 41))⟩,
  ⟨none, (some 43), (.mv (.t 42))⟩,
  ⟨(some (43, false)), (some 44), (.mv (.t 5))⟩,
  ⟨(some (43, false)), (some 45), (.mv (.t 5))⟩,
  ⟨(some (43, false)), (some 46), (.mv (.t 7))⟩,
  ⟨(some (43, false)), (some 47), (.iadL 2 (.t 45) (.t 46))⟩,
  ⟨(some (43, false)), (some 48), (.fad 0 (.t 47))⟩,
  ⟨(some (43, false)), (some 49), (.ld false 1 (.t 48))⟩,
  ⟨(some (43, false)), (some 50), (.mv (.t 1))⟩,
  ⟨(some (43, false)), (some 51), (.bin .add (.t 49) (.t 50))⟩,
  ⟨(some (43, false)), (some 52), (.call 21 true [(.t 44), (.t 51)])⟩,
  ⟨(some (43, false)), (some 53), (.mv (.t 7))⟩,
  ⟨(some (43, false)), (some 54), (.bin .neq (.t 52) (.t 53))⟩,
  ⟨none, (some 55), (.pick (.t 43) (.c (.cv (.sc (.bool true)))) (.t 54))⟩])
  (.cond (.t 55)
  (.seq (.reg [
  ⟨none, (some 4), (.mv (.c (.cv (.sc (.bool false)))))⟩])
  .ret) .skip)))
  (.reg [
  ⟨none, (some 32), (.mv (.t 7))⟩,
  ⟨none, (some 33), (.bin .add (.t 32) (.c (.cv (.sc (.int .i64 1)))))⟩,
  ⟨none, (some 7), (.mv (.t 33))⟩])))
def f8 : FnIR := ⟨67, [(.t 4)],

  (.seq (.reg [
  ⟨none, (some 4), (.mv (.c (.cv (.sc (.bool false)))))⟩])

  (.seq f8_0

  (.seq (.reg [
  ⟨none, (some 5), (.mv (.c (.cv (.sc (.slice none 0 0)))))⟩])

  (.seq
  (.seq (.reg [
  ⟨none, (some 6), (.mv (.c (.cv (.sc (.int .i64 0)))))⟩])
  (.block 0 (.loop f8_1)))

  (.seq
  (.seq (.reg [
  ⟨none, (some 7), (.mv (.c (.cv (.sc (.int .i64 0)))))⟩])
  (.block 2 (.loop f8_2)))

  (.seq (.reg [
  ⟨none, (some 56), (.call 13 true [])⟩,
  ⟨none, (some 57), (.mv (.t 56))⟩,
  ⟨(some (57, true)), (some 58), (.mv (.t 5))⟩,
  ⟨(some (57, true)), (some 59), (.call 21 true [(.t 58), (.c (.cv (.sc (.string ⟨#[65]⟩))))])⟩,
  ⟨(some (57, true)), (some 60), (.bin .eql (.t 59) (.c (.cv (.sc (.int .i64 (-1))))))⟩,
  ⟨none, (some 61), (.pick (.t 57) (.t 60) (.c (.cv (.sc (.bool false)))))⟩,
  ⟨none, (some 62), (.mv (.t 61))⟩,
  ⟨(some (62, true)), (some 63), (.mv (.t 1))⟩,
  ⟨(some (62, true)), (some 64), (.call 21 true [(.c (.cv (.sc (.slice none 0 0)))), (.t 63)])⟩,
  ⟨(some (62, true)), (some 65), (.bin .eql (.t 64) (.c (.cv (.sc (.int .i64 (-1))))))⟩,
  ⟨none, (some 66), (.pick (.t 62) (.t 65) (.c (.cv (.sc (.bool false)))))⟩,
  ⟨none, (some 4), (.mv (.t 66))⟩])
  .ret))))))⟩
theorem f8_ok : compF Proofs.Try.prog [] [] Proofs.Try.f8 = some f8 := by kernel_rfl

def f9_0 : IR :=

  (.seq
  (.seq (.reg [
  ⟨none, (some 44), (.mv (.t 8))⟩,
  ⟨none, (some 45), (.mv (.t 7))⟩,
  ⟨none, (some 46), (.len false (.t 45))⟩,
  ⟨none, (some 47), (.bin .lss (.t 44) (.t 46))⟩])
  (.cond (.t 47) .skip (.exit 2)))

  (.seq (.block 3 (.reg [
  ⟨none, (some 50), (.mv (.t 7))⟩,
  ⟨none, (some 51), (.mv (.t 8))⟩,
  ⟨none, (some 52), (.mv (.t 0))⟩,
  ⟨none, (some 53), (.mv (.t 6))⟩,
  ⟨none, (some 54), (.bin .add (.t 53) (.c (.cv (.sc (.int .i64 1)))))⟩,
  ⟨none, (some 55), (.iadL 1 (.t 52) (.t 54))⟩,
  ⟨none, (some 56), (.ld false 1 (.t 55))⟩,
  ⟨none, (some 57), (.mv (.t 8))⟩,
  ⟨none, (some 58), (.cvI .u8 (.t 57))⟩,
  ⟨none, (some 59), (.bin .add (.t 56) (.t 58))⟩,
  ⟨none, (some 60), (.iadL 1 (.t 50) (.t 51))⟩,
  ⟨none, none, (.st 1 (.t 60) (.t 59))⟩]))
  (.reg [
  ⟨none, (some 48), (.mv (.t 8))⟩,
  ⟨none, (some 49), (.bin .add (.t 48) (.c (.cv (.sc (.int .i64 1)))))⟩,
  ⟨none, (some 8), (.mv (.t 49))⟩])))
def f9_1 : IR :=

  (.seq
  (.seq (.reg [
  ⟨none, (some 9), (.mv (.t 6))⟩,
  ⟨none, (some 10), (.bin .add (.t 9) (.c (.cv (.sc (.int .i64 1)))))⟩,
  ⟨none, (some 11), (.mv (.t 0))⟩,
  ⟨none, (some 12), (.len false (.t 11))⟩,
  ⟨none, (some 13), (.bin .lss (.t 10) (.t 12))⟩,
  ⟨none, (some 14), (.mv (.t 13))⟩,
  ⟨(some (14, true)), (some 15), (.mv (.t 6))⟩,
  ⟨(some (14, true)), (some 16), (.mv (.t 1))⟩,
  ⟨(some (14, true)), (some 17), (.bin .mul (.c (.cv (.sc (.int .i64 2)))) (.t 16))⟩,
  ⟨(some (14, true)), (some 18), (.bin .lss (.t 15) (.t 17))⟩,
  ⟨none, (some 19), (.pick (.t 14) (.t 18) (.c (.cv (.sc (.bool false)))))⟩])
  (.cond (.t 19) .skip (.exit 0)))

  (.seq (.block 1
  (.seq (.reg [
  ⟨none, (some 22), (.mv (.t 0))⟩,
  ⟨none, (some 23), (.mv (.t 6))⟩,
  ⟨none, (some 24), (.bin .add (.t 23) (.c (.cv (.sc (.int .i64 1)))))⟩,
  ⟨none, (some 25), (.iadL 1 (.t 22) (.t 24))⟩,
  ⟨none, (some 26), (.ld false 1 (.t 25))⟩,
  ⟨none, (some 27), (.bin .rem (.t 26) (.c (.cv (.sc (.int .u8 40)))))⟩,
  ⟨none, (some 28), (.cvI .i64 (.t 27))⟩,
  ⟨none, (some 29), (.mks 1 1 [(.sc (.int .u8 0))] (.t 28) (.t 28) true)⟩,
  ⟨none, (some 7), (.mv (.t 29))⟩])

  (.seq
  (.seq (.reg [
  ⟨none, (some 30), (.mv (.t 0))⟩,
  ⟨none, (some 31), (.mv (.t 6))⟩,
  ⟨none, (some 32), (.iadL 1 (.t 30) (.t 31))⟩,
  ⟨none, (some 33), (.ld false 1 (.t 32))⟩,
  ⟨none, (some 34), (.bin .gtr (.t 33) (.c (.cv (.sc (.int .u8 230)))))⟩])
  (.cond (.t 34) (.reg [
  ⟨none, (some 35), (.mv (.t 0))⟩,
  ⟨none, (some 36), (.mv (.t 6))⟩,
  ⟨none, (some 37), (.bin .add (.t 36) (.c (.cv (.sc (.int .i64 1)))))⟩,
  ⟨none, (some 38), (.iadL 1 (.t 35) (.t 37))⟩,
  ⟨none, (some 39), (.ld false 1 (.t 38))⟩,
  ⟨none, (some 40), (.bin .rem (.t 39) (.c (.cv (.sc (.int .u8 50)))))⟩,
  ⟨none, (some 41), (.cvI .i64 (.t 40))⟩,
  ⟨none, (some 42), (.bin .add (.c (.cv (.sc (.int .i64 100)))) (.t 41))⟩,
  ⟨none, (some 43), (.mks 1 1 [(.sc (.int .u8 0))] (.t 42) (.t 42) true)⟩,
  ⟨none, (some 7), (.mv (.t 43))⟩]) .skip))

  (.seq
  (.seq (.reg [
  ⟨none, (some 8), (.mv (.c (.cv (.sc (.int .i64 0)))))⟩])
  (.block 2 (.loop f9_0)))
  (.draw [(
  ⟨none, (some 61), (.mv (.t 5))⟩, .p), (
  ⟨none, (some 62), (.mv (.t 0))⟩, .p), (
  ⟨none, (some 63), (.mv (.t 6))⟩, .p), (
  ⟨none, (some 64), (.iadL 1 (.t 62) (.t 63))⟩, (.r 0 0)), (
  ⟨none, (some 65), (.ld false 1 (.t 64))⟩, (.r 0 0)), (
  ⟨none, (some 66), (.bin .rem (.t 65) (.c (.cv (.sc (.int .u8 16)))))⟩, .p), (
  ⟨none, (some 67), (.bin .add (.c (.cv (.sc (.int .u8 97)))) (.t 66))⟩, .p), (
  ⟨none, (some 68), (.mv (.t 0))⟩, .p), (
  ⟨none, (some 69), (.mv (.t 6))⟩, .p), (
  ⟨none, (some 70), (.iadL 1 (.t 68) (.t 69))⟩, (.r 0 0)), (
  ⟨none, (some 71), (.ld false 1 (.t 70))⟩, (.r 0 0)), (
  ⟨none, (some 72), (.bin .quo (.t 71) (.c (.cv (.sc (.int .u8 16)))))⟩, .p), (
  ⟨none, (some 73), (.bin .rem (.t 72) (.c (.cv (.sc (.int .u8 4)))))⟩, .p), (
  ⟨none, (some 74), (.bin .add (.c (.cv (.sc (.int .u8 97)))) (.t 73))⟩, .p), (
  ⟨none, (some 75), (.mksl 1 2 [(.cv (.sc (.int .u8 0))), (.cv (.sc (.int .u8 0)))] [(0, (1, (.t 67))), (1, (1, (.t 74)))] false)⟩, (.r 0 0)), (
  ⟨none, (some 76), (.cvBS (.t 75))⟩, (.r 0 0)), (
  ⟨none, (some 77), (.mv (.t 7))⟩, .p), (
  ⟨none, (some 78), (.build [(.cv (.sc (.string ⟨#[]⟩))), (.cv (.sc (.slice none 0 0)))] [(0, (1, (.t 76))), (1, (1, (.t 77)))])⟩, .p), (
  ⟨none, (some 79), (.mksl 2 1 [(.cv (.sc (.string ⟨#[]⟩))), (.cv (.sc (.slice none 0 0)))] [(0, (2, (.t 78)))] true)⟩, .k), (
  ⟨none, (some 80), (.app 2 40 [(.sc (.string ⟨#[]⟩)), (.sc (.slice none 0 0))] (.t 61) (.t 79))⟩, .k), (
  ⟨none, (some 5), (.mv (.t 80))⟩, .p)])))))
  (.reg [
  ⟨none, (some 20), (.mv (.t 6))⟩,
  ⟨none, (some 21), (.bin .add (.t 20) (.c (.cv (.sc (.int .i64 2)))))⟩,
  ⟨none, (some 6), (.mv (.t 21))⟩])))
def f9 : FnIR := ⟨82, [(.t 4)],

  (.seq (.reg [
  ⟨none, (some 4), (.mv (.c (.cv (.sc (.slice none 0 0)))))⟩])

  (.seq (.reg [
  ⟨none, (some 5), (.mv (.c (.cv (.sc (.slice none 0 0)))))⟩])

  (.seq
  (.seq (.reg [
  ⟨none, (some 6), (.mv (.c (.cv (.sc (.int .i64 0)))))⟩])
  (.block 0 (.loop f9_1)))

  (.seq (.reg [
  ⟨none, (some 81), (.mv (.t 5))⟩,
  ⟨none, (some 4), (.mv (.t 81))⟩])
  .ret))))⟩
theorem f9_ok : compF Proofs.Try.prog [] [(5, 7), (7, 8), (12, 18)] Proofs.Try.f9 = some f9 := by kernel_rfl

def f10_0 : IR :=

  (.seq (.reg [
  ⟨none, (some 11), (.mv (.t 0))⟩,
  ⟨none, (some 12), (.bin .lss (.t 11) (.c (.cv (.sc (.int .i64 0)))))⟩,
  ⟨none, (some 13), (.mv (.t 12))⟩,
  ⟨(some (13, false)), (some 14), (.mv (.t 0))⟩,
  ⟨(some (13, false)), (some 15), (.bin .gtr (.t 14) (.c (.cv (.sc (.int .i64 4)))))⟩,
  ⟨none, (some 16), (.pick (.t 13) (.c (.cv (.sc (.bool true)))) (.t 15))⟩,
  ⟨none, (some 17), (.mv (.t 16))⟩,
  ⟨(some (17, false)), (some 18), (.mv (.t 1))⟩,
  ⟨(some (17, false)), (some 19), (.call 11 true [(.t 18)])⟩,
  ⟨(some (17, false)), (some 20), (.mv (.t 1))⟩,
  ⟨(some (17, false)), (some 21), (.len false (.t 20))⟩,
  ⟨(some (17, false)), (some 22), (.bin .lss (.t 19) (.t 21))⟩,
  ⟨none, (some 23), (.pick (.t 17) (.c (.cv (.sc (.bool true)))) (.t 22))⟩])
  (.cond (.t 23)
  (.seq (.reg [
  ⟨none, (some 4), (.mv (.c (.cv (.sc (.slice none 0 0)))))⟩,
  ⟨none, (some 5), (.mv (.c (.cv (.sc (.bool false)))))⟩])
  .ret) .skip))
def f10_1 : IR :=
  (.cond (.t 34) .skip (.exit 0))
def f10_2 : IR :=

  (.seq (.reg [
  ⟨none, (some 34), (.bin .lss (.t 33) (.t 32))⟩])

  (.seq f10_1

  (.seq (.block 1
  (.seq (.reg [
  ⟨none, (some 35), (.mv (.t 33))⟩,
  ⟨none, (some 36), (.iadL 2 (.t 31) (.t 33))⟩,
  ⟨none, (some 37), (.ld true 2 (.t 36))⟩,
  ⟨none, (some 9), (.alloc [(.cv (.sc (.string ⟨#[]⟩))), (.cv (.sc (.slice none 0 0)))])⟩,
  ⟨none, (some 8), (.mv (.t 35))⟩,
  ⟨none, none, (.st 2 (.t 9) (.t 37))⟩])

  (.seq (.reg [
  ⟨none, (some 38), (.ld true 2 (.t 9))⟩,
  ⟨none, (some 39), (.call 22 true [(.t 38)])⟩,
  ⟨none, (some 10), (.mv (.t 39))⟩])

  (.seq (.reg [
  ⟨none, (some 40), (.mv (.t 7))⟩,
  ⟨none, (some 41), (.mv (.t 10))⟩,
  ⟨none, (some 42), (.len false (.t 41))⟩,
  ⟨none, (some 43), (.bin .sub (.t 40) (.t 42))⟩,
  ⟨none, (some 7), (.mv (.t 43))⟩])

  (.seq (.reg [
  ⟨none, (some 44), (.mv (.t 8))⟩,
  ⟨none, (some 45), (.bin .add (.c (.cv (.sc (.int .i64 2)))) (.t 44))⟩,
  ⟨none, (some 46), (.mv (.t 7))⟩,
  ⟨none, (some 47), (.cvI .u8 (.t 46))⟩,
  ⟨none, (some 48), (.iadA 252 1 (.t 6) (.t 45))⟩,
  ⟨none, none, (.st 1 (.t 48) (.t 47))⟩])
  (.reg [
  ⟨none, (some 49), (.mv (.t 7))⟩,
  ⟨none, (some 50), (.slA 252 1 (.t 6) (some (.t 49)) none)⟩,
  ⟨none, (some 51), (.mv (.t 10))⟩,
  ⟨none, (some 52), (.cpy 1 (.t 50) (.t 51))⟩]))))))
  (.reg [
  ⟨none, (some 53), (.bin .add (.t 33) (.c (.cv (.sc (.int .i64 1)))))⟩,
  ⟨none, (some 33), (.mv (.t 53))⟩]))))
def f10 : FnIR := ⟨56, [(.t 4), (.t 5)],

  (.seq (.reg [
  ⟨none, (some 4), (.mv (.c (.cv (.sc (.slice none 0 0)))))⟩,
  ⟨none, (some 5), (.mv (.c (.cv (.sc (.bool false)))))⟩])

  (.seq f10_0

  (.seq (.reg [
  ⟨none, (some 6), (.alloc (List.replicate 252 (.cv (.sc (.int .u8 0)))))⟩])

  (.seq (.reg [
  ⟨none, (some 24), (.mv (.t 0))⟩,
  ⟨none, (some 25), (.cvI .u8 (.t 24))⟩,
  ⟨none, (some 26), (.mv (.t 1))⟩,
  ⟨none, (some 27), (.len false (.t 26))⟩,
  ⟨none, (some 28), (.cvI .u8 (.t 27))⟩,
  ⟨none, (some 29), (.iadA 252 1 (.t 6) (.c (.cv (.sc (.int .i64 0)))))⟩,
  ⟨none, none, (.st 1 (.t 29) (.t 25))⟩,
  ⟨none, (some 30), (.iadA 252 1 (.t 6) (.c (.cv (.sc (.int .i64 1)))))⟩,
  ⟨none, none, (.st 1 (.t 30) (.t 28))⟩])

  (.seq (.reg [
  ⟨none, (some 7), (.mv (.c (.cv (.sc (.int .i64 252)))))⟩])

  (.seq
  (.seq (.reg [
  ⟨none, (some 31), (.mv (.t 1))⟩,
  ⟨none, (some 32), (.len false (.t 31))⟩,
  ⟨none, (some 33), (.mv (.c (.cv (.sc (.int .i64 0)))))⟩])
  (.block 0 (.loop f10_2)))

  (.seq (.reg [
  ⟨none, (some 54), (.slA 252 1 (.t 6) none none)⟩,
  ⟨none, (some 55), (.call 23 false [(.t 54)])⟩,
  ⟨none, (some 4), (.mv (.t 55))⟩,
  ⟨none, (some 5), (.mv (.c (.cv (.sc (.bool true)))))⟩])
  .ret)))))))⟩
theorem f10_ok : compF Proofs.Try.prog [23] [] Proofs.Try.f10 = some f10 := by kernel_rfl

def f11_0 : IR :=
  (.cond (.t 9) .skip (.exit 0))
def f11_1 : IR :=

  (.seq (.reg [
  ⟨none, (some 13), (.fad 0 (.t 5))⟩,
  ⟨none, (some 14), (.ld false 1 (.t 13))⟩,
  ⟨none, (some 15), (.len true (.t 14))⟩,
  ⟨none, (some 16), (.bin .gtr (.t 15) (.c (.cv (.sc (.int .i64 30)))))⟩,
  ⟨none, (some 17), (.mv (.t 16))⟩,
  ⟨(some (17, false)), (some 18), (.fad 1 (.t 5))⟩,
  ⟨(some (17, false)), (some 19), (.ld false 1 (.t 18))⟩,
  ⟨(some (17, false)), (some 20), (.len false (.t 19))⟩,
  ⟨(some (17, false)), (some 21), (.bin .gtr (.t 20) (.c (.cv (.sc (.int .i64 150)))))⟩,
  ⟨none, (some 22), (.pick (.t 17) (.c (.cv (.sc (.bool true)))) (.t 21))⟩])
  (.cond (.t 22)
  (.seq (.reg [
  ⟨none, (some 23), (.mv (.t 4))⟩,
  ⟨none, (some 2), (.mv (.t 23))⟩])
  .ret) .skip))
def f11_2 : IR :=

  (.seq (.reg [
  ⟨none, (some 9), (.bin .lss (.t 8) (.t 7))⟩])

  (.seq f11_0

  (.seq (.block 1
  (.seq (.reg [
  ⟨none, (some 10), (.mv (.t 8))⟩,
  ⟨none, (some 11), (.iadL 2 (.t 6) (.t 8))⟩,
  ⟨none, (some 12), (.ld true 2 (.t 11))⟩,
  ⟨none, (some 5), (.alloc [(.cv (.sc (.string ⟨#[]⟩))), (.cv (.sc (.slice none 0 0)))])⟩,
  ⟨none, (some 4), (.mv (.t 10))⟩,
  ⟨none, none, (.st 2 (.t 5) (.t 12))⟩])

  (.seq f11_1

  (.seq (.reg [
  ⟨none, (some 24), (.mv (.t 3))⟩,
  ⟨none, (some 25), (.ld true 2 (.t 5))⟩,
  ⟨none, (some 26), (.call 22 true [(.t 25)])⟩,
  ⟨none, (some 27), (.len false (.t 26))⟩,
  ⟨none, (some 28), (.bin .add (.c (.cv (.sc (.int .i64 1)))) (.t 27))⟩,
  ⟨none, (some 29), (.bin .add (.t 24) (.t 28))⟩,
  ⟨none, (some 3), (.mv (.t 29))⟩])

  (.seq (.reg [
  ⟨none, (some 30), (.mv (.t 3))⟩,
  ⟨none, (some 31), (.bin .gtr (.t 30) (.c (.cv (.sc (.int .i64 250)))))⟩])
  (.cond (.t 31)
  (.seq (.reg [
  ⟨none, (some 32), (.mv (.t 4))⟩,
  ⟨none, (some 2), (.mv (.t 32))⟩])
  .ret) .skip))))))
  (.reg [
  ⟨none, (some 33), (.bin .add (.t 8) (.c (.cv (.sc (.int .i64 1)))))⟩,
  ⟨none, (some 8), (.mv (.t 33))⟩]))))
def f11 : FnIR := ⟨36, [(.t 2)],

  (.seq (.reg [
  ⟨none, (some 2), (.mv (.c (.cv (.sc (.int .i64 0)))))⟩])

  (.seq (.reg [
  ⟨none, (some 3), (.mv (.c (.cv (.sc (.int .i64 0)))))⟩])

  (.seq
  (.seq (.reg [
  ⟨none, (some 6), (.mv (.t 0))⟩,
  ⟨none, (some 7), (.len false (.t 6))⟩,
  ⟨none, (some 8), (.mv (.c (.cv (.sc (.int .i64 0)))))⟩])
  (.block 0 (.loop f11_2)))

  (.seq (.reg [
  ⟨none, (some 34), (.mv (.t 0))⟩,
  ⟨none, (some 35), (.len false (.t 34))⟩,
  ⟨none, (some 2), (.mv (.t 35))⟩])
  .ret))))⟩
theorem f11_ok : compF Proofs.Try.prog [] [] Proofs.Try.f11 = some f11 := by kernel_rfl

def f12_0 : IR :=
  (.cond (.t 26) .skip (.exit 1))
def f12_1 : IR :=

  (.seq (.reg [
  ⟨none, (some 28), (.mv (.t 7))⟩,
  ⟨none, (some 29), (.bin .add (.c (.cv (.sc (.int .i64 2)))) (.t 28))⟩,
  ⟨none, (some 30), (.mv (.t 6))⟩,
  ⟨none, (some 31), (.bin .geq (.t 29) (.t 30))⟩])
  (.cond (.t 31)
  (.seq (.reg [
  ⟨none, (some 2), (.mv (.c (.cv (.sc (.int .i64 0)))))⟩,
  ⟨none, (some 3), (.mv (.c (.cv (.sc (.slice none 0 0)))))⟩,
  ⟨none, (some 4), (.mv (.c (.cv (.sc (.int .u16 11)))))⟩])
  .ret) .skip))
def f12_2 : IR :=

  (.seq (.reg [
  ⟨none, (some 45), (.mv (.t 10))⟩,
  ⟨none, (some 46), (.un .not (.t 45))⟩])
  (.cond (.t 46)
  (.seq (.reg [
  ⟨none, (some 2), (.mv (.c (.cv (.sc (.int .i64 0)))))⟩,
  ⟨none, (some 3), (.mv (.c (.cv (.sc (.slice none 0 0)))))⟩,
  ⟨none, (some 4), (.mv (.c (.cv (.sc (.int .u16 11)))))⟩])
  .ret) .skip))
def f12_3 : IR :=

  (.seq (.reg [
  ⟨none, (some 26), (.bin .lss (.t 25) (.t 24))⟩])

  (.seq f12_0

  (.seq (.block 2
  (.seq (.reg [
  ⟨none, (some 27), (.mv (.t 25))⟩,
  ⟨none, (some 7), (.mv (.t 27))⟩])

  (.seq f12_1

  (.seq (.reg [
  ⟨none, (some 32), (.mv (.t 0))⟩,
  ⟨none, (some 33), (.mv (.t 7))⟩,
  ⟨none, (some 34), (.bin .add (.c (.cv (.sc (.int .i64 2)))) (.t 33))⟩,
  ⟨none, (some 35), (.iadL 1 (.t 32) (.t 34))⟩,
  ⟨none, (some 36), (.ld false 1 (.t 35))⟩,
  ⟨none, (some 37), (.cvI .i64 (.t 36))⟩,
  ⟨none, (some 8), (.mv (.t 37))⟩])

  (.seq (.reg [
  ⟨none, (some 39), (.mv (.t 0))⟩,
  ⟨none, (some 40), (.mv (.t 8))⟩,
  ⟨none, (some 41), (.mv (.t 6))⟩,
  ⟨none, (some 42), (.call 25 true [(.t 39), (.t 40), (.t 41)])⟩,
  ⟨none, (some 38), (.mv (.t 42))⟩,
  ⟨none, (some 43), (.ext (.t 38) 0)⟩,
  ⟨none, (some 44), (.ext (.t 38) 1)⟩,
  ⟨none, (some 9), (.alloc [(.cv (.sc (.string ⟨#[]⟩))), (.cv (.sc (.slice none 0 0)))])⟩,
  ⟨none, none, (.st 2 (.t 9) (.t 43))⟩,
  ⟨none, (some 10), (.mv (.t 44))⟩])

  (.seq f12_2
  (.reg [
  ⟨none, (some 47), (.mv (.t 5))⟩,
  ⟨none, (some 48), (.ld true 2 (.t 9))⟩,
  ⟨none, (some 49), (.mksl 2 1 [(.cv (.sc (.string ⟨#[]⟩))), (.cv (.sc (.slice none 0 0)))] [(0, (2, (.t 48)))] false)⟩,
  ⟨none, (some 50), (.app 2 40 [(.sc (.string ⟨#[]⟩)), (.sc (.slice none 0 0))] (.t 47) (.t 49))⟩,
  ⟨none, (some 51), (.mv (.t 8))⟩,
  ⟨none, (some 5), (.mv (.t 50))⟩,
  ⟨none, (some 6), (.mv (.t 51))⟩])))))))
  (.reg [
  ⟨none, (some 52), (.bin .add (.t 25) (.c (.cv (.sc (.int .i64 1)))))⟩,
  ⟨none, (some 25), (.mv (.t 52))⟩]))))
def f12 : FnIR := ⟨75, [(.t 2), (.t 3), (.t 4)],

  (.seq (.reg [
  ⟨none, (some 2), (.mv (.c (.cv (.sc (.int .i64 0)))))⟩,
  ⟨none, (some 3), (.mv (.c (.cv (.sc (.slice none 0 0)))))⟩,
  ⟨none, (some 4), (.mv (.c (.cv (.sc (.int .u16 0)))))⟩])

  (.seq (.block 0
  (.seq (.reg [
  ⟨none, (some 14), (.mv (.t 0))⟩,
  ⟨none, (some 15), (.len false (.t 14))⟩,
  ⟨none, (some 16), (.bin .neq (.t 15) (.c (.cv (.sc (.int .i64 256)))))⟩,
  ⟨none, (some 13), (.mv (.t 16))⟩])
  (.cond (.t 13)
  (.seq (.reg [
  ⟨none, (some 2), (.mv (.c (.cv (.sc (.int .i64 0)))))⟩,
  ⟨none, (some 3), (.mv (.c (.cv (.sc (.slice none 0 0)))))⟩,
  ⟨none, (some 4), (.mv (.c (.cv (.sc (.int .u16 11)))))⟩])
  .ret)
  (.seq (.reg [
  ⟨none, (some 18), (.mv (.t 0))⟩,
  ⟨none, (some 19), (.call 24 true [(.t 18)])⟩,
  ⟨none, (some 20), (.un .not (.t 19))⟩,
  ⟨none, (some 17), (.mv (.t 20))⟩])
  (.cond (.t 17)
  (.seq (.reg [
  ⟨none, (some 2), (.mv (.c (.cv (.sc (.int .i64 0)))))⟩,
  ⟨none, (some 3), (.mv (.c (.cv (.sc (.slice none 0 0)))))⟩,
  ⟨none, (some 4), (.mv (.c (.cv (.sc (.int .u16 12)))))⟩])
  .ret) .skip)))))

  (.seq (.reg [
  ⟨none, (some 5), (.mv (.c (.cv (.sc (.slice none 0 0)))))⟩])

  (.seq (.reg [
  ⟨none, (some 6), (.mv (.c (.cv (.sc (.int .i64 252)))))⟩])

  (.seq
  (.seq (.reg [
  ⟨none, (some 21), (.mv (.t 0))⟩,
  ⟨none, (some 22), (.iadL 1 (.t 21) (.c (.cv (.sc (.int .i64 1)))))⟩,
  ⟨none, (some 23), (.ld false 1 (.t 22))⟩,
  ⟨none, (some 24), (.cvI .i64 (.t 23))⟩,
  ⟨none, (some 25), (.mv (.c (.cv (.sc (.int .i64 0)))))⟩])
  (.block 1 (.loop f12_3)))

  (.seq
  (.seq (.reg [
  ⟨none, (some 54), (.mv (.t 0))⟩,
  ⟨none, (some 55), (.iadL 1 (.t 54) (.c (.cv (.sc (.int .i64 0)))))⟩,
  ⟨none, (some 56), (.ld false 1 (.t 55))⟩,
  ⟨none, (some 57), (.cvI .i64 (.t 56))⟩,
  ⟨none, (some 58), (.mv (.t 5))⟩,
  ⟨none, (some 59), (.call 10 true [(.t 57), (.t 58)])⟩,
  ⟨none, (some 53), (.mv (.t 59))⟩,
  ⟨none, (some 60), (.ext (.t 53) 0)⟩,
  ⟨none, (some 61), (.ext (.t 53) 1)⟩,
  ⟨none, (some 11), (.mv (.t 60))⟩,
  ⟨none, (some 12), (.mv (.t 61))⟩])

  (.seq (.reg [
  ⟨none, (some 62), (.mv (.t 12))⟩,
  ⟨none, (some 63), (.un .not (.t 62))⟩,
  ⟨none, (some 64), (.mv (.t 63))⟩,
  ⟨(some (64, false)), (some 65), (.mv (.t 11))⟩,
  ⟨(some (64, false)), (some 66), (.mv (.t 0))⟩,
  ⟨(some (64, false)), (some 67), (.call 26 true [(.t 65), (.t 66)])⟩,
  ⟨(some (64, false)), (some 68), (.un .not (.t 67))⟩,
  ⟨none, (some 69), (.pick (.t 64) (.c (.cv (.sc (.bool true)))) (.t 68))⟩])
  (.cond (.t 69)
  (.seq (.reg [
  ⟨none, (some 2), (.mv (.c (.cv (.sc (.int .i64 0)))))⟩,
  ⟨none, (some 3), (.mv (.c (.cv (.sc (.slice none 0 0)))))⟩,
  ⟨none, (some 4), (.mv (.c (.cv (.sc (.int .u16 11)))))⟩])
  .ret) .skip)))

  (.seq (.reg [
  ⟨none, (some 70), (.mv (.t 0))⟩,
  ⟨none, (some 71), (.iadL 1 (.t 70) (.c (.cv (.sc (.int .i64 0)))))⟩,
  ⟨none, (some 72), (.ld false 1 (.t 71))⟩,
  ⟨none, (some 73), (.cvI .i64 (.t 72))⟩,
  ⟨none, (some 74), (.mv (.t 5))⟩,
  ⟨none, (some 2), (.mv (.t 73))⟩,
  ⟨none, (some 3), (.mv (.t 74))⟩,
  ⟨none, (some 4), (.mv (.c (.cv (.sc (.int .u16 0)))))⟩])
  .ret)))))))⟩
theorem f12_ok : compF Proofs.Try.prog [] [] Proofs.Try.f12 = some f12 := by kernel_rfl

def f13 : FnIR := ⟨41, [(.t 0)],

  (.seq (.reg [
  ⟨none, (some 0), (.mv (.c (.cv (.sc (.bool false)))))⟩])

  (.seq (.reg [
  ⟨none, (some 7), (.call 10 true [(.c (.cv (.sc (.int .i64 0)))), (.c (.cv (.sc (.slice none 0 0))))])⟩,
  ⟨none, (some 6), (.mv (.t 7))⟩,
  ⟨none, (some 8), (.ext (.t 6) 0)⟩,
  ⟨none, (some 9), (.ext (.t 6) 1)⟩,
  ⟨none, (some 1), (.mv (.t 8))⟩,
  ⟨none, (some 2), (.mv (.t 9))⟩])

  (.seq (.reg [
  ⟨none, (some 11), (.mv (.t 1))⟩,
  ⟨none, (some 12), (.call 12 true [(.t 11)])⟩,
  ⟨none, (some 10), (.mv (.t 12))⟩,
  ⟨none, (some 13), (.ext (.t 10) 0)⟩,
  ⟨none, (some 14), (.ext (.t 10) 1)⟩,
  ⟨none, (some 15), (.ext (.t 10) 2)⟩,
  ⟨none, (some 3), (.mv (.t 13))⟩,
  ⟨none, (some 4), (.mv (.t 14))⟩,
  ⟨none, (some 5), (.mv (.t 15))⟩])

  (.seq (.reg [
  ⟨none, (some 16), (.mv (.t 2))⟩,
  ⟨none, (some 17), (.mv (.t 16))⟩,
  ⟨(some (17, true)), (some 18), (.mv (.t 1))⟩,
  ⟨(some (17, true)), (some 19), (.len false (.t 18))⟩,
  ⟨(some (17, true)), (some 20), (.bin .eql (.t 19) (.c (.cv (.sc (.int .i64 256)))))⟩,
  ⟨none, (some 21), (.pick (.t 17) (.t 20) (.c (.cv (.sc (.bool false)))))⟩,
  ⟨none, (some 22), (.mv (.t 21))⟩,
  ⟨(some (22, true)), (some 23), (.mv (.t 1))⟩,
  ⟨(some (22, true)), (some 24), (.iadL 1 (.t 23) (.c (.cv (.sc (.int .i64 1)))))⟩,
  ⟨(some (22, true)), (some 25), (.ld false 1 (.t 24))⟩,
  ⟨(some (22, true)), (some 26), (.bin .eql (.t 25) (.c (.cv (.sc (.int .u8 0)))))⟩,
  ⟨none, (some 27), (.pick (.t 22) (.t 26) (.c (.cv (.sc (.bool false)))))⟩,
  ⟨none, (some 28), (.mv (.t 27))⟩,
  ⟨(some (28, true)), (some 29), (.mv (.t 3))⟩,
  ⟨(some (28, true)), (some 30), (.bin .eql (.t 29) (.c (.cv (.sc (.int .i64 0)))))⟩,
  ⟨none, (some 31), (.pick (.t 28) (.t 30) (.c (.cv (.sc (.bool false)))))⟩,
  ⟨none, (some 32), (.mv (.t 31))⟩,
  ⟨(some (32, true)), (some 33), (.mv (.t 4))⟩,
  ⟨(some (32, true)), (some 34), (.len false (.t 33))⟩,
  ⟨(some (32, true)), (some 35), (.bin .eql (.t 34) (.c (.cv (.sc (.int .i64 0)))))⟩,
  ⟨none, (some 36), (.pick (.t 32) (.t 35) (.c (.cv (.sc (.bool false)))))⟩,
  ⟨none, (some 37), (.mv (.t 36))⟩,
  ⟨(some (37, true)), (some 38), (.mv (.t 5))⟩,
  ⟨(some (37, true)), (some 39), (.bin .eql (.t 38) (.c (.cv (.sc (.int .u16 0)))))⟩,
  ⟨none, (some 40), (.pick (.t 37) (.t 39) (.c (.cv (.sc (.bool false)))))⟩,
  ⟨none, (some 0), (.mv (.t 40))⟩])
  .ret))))⟩
theorem f13_ok : compF Proofs.Try.prog [] [] Proofs.Try.f13 = some f13 := by kernel_rfl

def f14_0 : IR :=

  (.seq (.reg [
  ⟨none, (some 11), (.mv (.t 0))⟩,
  ⟨none, (some 12), (.bin .lss (.t 11) (.c (.cv (.sc (.int .i64 0)))))⟩,
  ⟨none, (some 13), (.mv (.t 12))⟩,
  ⟨(some (13, false)), (some 14), (.mv (.t 0))⟩,
  ⟨(some (13, false)), (some 15), (.bin .gtr (.t 14) (.c (.cv (.sc (.int .i64 4)))))⟩,
  ⟨none, (some 16), (.pick (.t 13) (.c (.cv (.sc (.bool true)))) (.t 15))⟩,
  ⟨none, (some 17), (.mv (.t 16))⟩,
  ⟨(some (17, false)), (some 18), (.mv (.t 1))⟩,
  ⟨(some (17, false)), (some 19), (.call 15 true [(.t 18)])⟩,
  ⟨(some (17, false)), (some 20), (.mv (.t 1))⟩,
  ⟨(some (17, false)), (some 21), (.len false (.t 20))⟩,
  ⟨(some (17, false)), (some 22), (.bin .lss (.t 19) (.t 21))⟩,
  ⟨none, (some 23), (.pick (.t 17) (.c (.cv (.sc (.bool true)))) (.t 22))⟩])
  (.cond (.t 23)
  (.seq (.reg [
  ⟨none, (some 4), (.mv (.c (.cv (.sc (.slice none 0 0)))))⟩,
  ⟨none, (some 5), (.mv (.c (.cv (.sc (.bool false)))))⟩])
  .ret) .skip))
def f14_1 : IR :=

  (.seq
  (.seq (.reg [
  ⟨none, (some 55), (.mv (.t 10))⟩,
  ⟨none, (some 56), (.mv (.t 9))⟩,
  ⟨none, (some 57), (.len false (.t 56))⟩,
  ⟨none, (some 58), (.bin .lss (.t 55) (.t 57))⟩])
  (.cond (.t 58) .skip (.exit 2)))

  (.seq (.block 3 (.reg [
  ⟨none, (some 61), (.mv (.t 6))⟩,
  ⟨none, (some 62), (.mv (.t 7))⟩,
  ⟨none, (some 63), (.mv (.t 10))⟩,
  ⟨none, (some 64), (.bin .add (.t 62) (.t 63))⟩,
  ⟨none, (some 65), (.mv (.t 9))⟩,
  ⟨none, (some 66), (.mv (.t 10))⟩,
  ⟨none, (some 67), (.iadL 1 (.t 65) (.t 66))⟩,
  ⟨none, (some 68), (.ld false 1 (.t 67))⟩,
  ⟨none, (some 69), (.iadL 1 (.t 61) (.t 64))⟩,
  ⟨none, none, (.st 1 (.t 69) (.t 68))⟩]))
  (.reg [
  ⟨none, (some 59), (.mv (.t 10))⟩,
  ⟨none, (some 60), (.bin .add (.t 59) (.c (.cv (.sc (.int .i64 1)))))⟩,
  ⟨none, (some 10), (.mv (.t 60))⟩])))
def f14_2 : IR :=

  (.seq
  (.seq (.reg [
  ⟨none, (some 34), (.mv (.t 8))⟩,
  ⟨none, (some 35), (.mv (.t 1))⟩,
  ⟨none, (some 36), (.len false (.t 35))⟩,
  ⟨none, (some 37), (.bin .lss (.t 34) (.t 36))⟩])
  (.cond (.t 37) .skip (.exit 0)))

  (.seq (.block 1
  (.seq (.reg [
  ⟨none, (some 40), (.mv (.t 1))⟩,
  ⟨none, (some 41), (.mv (.t 8))⟩,
  ⟨none, (some 42), (.iadL 2 (.t 40) (.t 41))⟩,
  ⟨none, (some 43), (.ld true 2 (.t 42))⟩,
  ⟨none, (some 44), (.call 27 true [(.t 43)])⟩,
  ⟨none, (some 9), (.mv (.t 44))⟩])

  (.seq (.reg [
  ⟨none, (some 45), (.mv (.t 7))⟩,
  ⟨none, (some 46), (.mv (.t 9))⟩,
  ⟨none, (some 47), (.len false (.t 46))⟩,
  ⟨none, (some 48), (.bin .sub (.t 45) (.t 47))⟩,
  ⟨none, (some 7), (.mv (.t 48))⟩])

  (.seq (.reg [
  ⟨none, (some 49), (.mv (.t 6))⟩,
  ⟨none, (some 50), (.mv (.t 8))⟩,
  ⟨none, (some 51), (.bin .add (.c (.cv (.sc (.int .i64 2)))) (.t 50))⟩,
  ⟨none, (some 52), (.mv (.t 7))⟩,
  ⟨none, (some 53), (.cvI .u8 (.t 52))⟩,
  ⟨none, (some 54), (.iadL 1 (.t 49) (.t 51))⟩,
  ⟨none, none, (.st 1 (.t 54) (.t 53))⟩])

  (.seq (.reg [
  ⟨none, (some 10), (.mv (.c (.cv (.sc (.int .i64 0)))))⟩])
  (.block 2 (.loop f14_1)))))))
  (.reg [
  ⟨none, (some 38), (.mv (.t 8))⟩,
  ⟨none, (some 39), (.bin .add (.t 38) (.c (.cv (.sc (.int .i64 1)))))⟩,
  ⟨none, (some 8), (.mv (.t 39))⟩])))
def f14 : FnIR := ⟨72, [(.t 4), (.t 5)],

  (.seq (.reg [
  ⟨none, (some 4), (.mv (.c (.cv (.sc (.slice none 0 0)))))⟩,
  ⟨none, (some 5), (.mv (.c (.cv (.sc (.bool false)))))⟩])

  (.seq f14_0

  (.seq (.reg [
  ⟨none, (some 24), (.mks 1 1 [(.sc (.int .u8 0))] (.c (.cv (.sc (.int .i64 252)))) (.c (.cv (.sc (.int .i64 252)))) true)⟩,
  ⟨none, (some 6), (.mv (.t 24))⟩])

  (.seq (.reg [
  ⟨none, (some 25), (.mv (.t 6))⟩,
  ⟨none, (some 26), (.mv (.t 0))⟩,
  ⟨none, (some 27), (.cvI .u8 (.t 26))⟩,
  ⟨none, (some 28), (.iadL 1 (.t 25) (.c (.cv (.sc (.int .i64 0)))))⟩,
  ⟨none, none, (.st 1 (.t 28) (.t 27))⟩])

  (.seq (.reg [
  ⟨none, (some 29), (.mv (.t 6))⟩,
  ⟨none, (some 30), (.mv (.t 1))⟩,
  ⟨none, (some 31), (.len false (.t 30))⟩,
  ⟨none, (some 32), (.cvI .u8 (.t 31))⟩,
  ⟨none, (some 33), (.iadL 1 (.t 29) (.c (.cv (.sc (.int .i64 1)))))⟩,
  ⟨none, none, (.st 1 (.t 33) (.t 32))⟩])

  (.seq (.reg [
  ⟨none, (some 7), (.mv (.c (.cv (.sc (.int .i64 252)))))⟩])

  (.seq
  (.seq (.reg [
  ⟨none, (some 8), (.mv (.c (.cv (.sc (.int .i64 0)))))⟩])
  (.block 0 (.loop f14_2)))

  (.seq (.reg [
  ⟨none, (some 70), (.mv (.t 6))⟩,
  ⟨none, (some 71), (.call 16 false [(.t 70)])⟩,
  ⟨none, (some 4), (.mv (.t 71))⟩,
  ⟨none, (some 5), (.mv (.c (.cv (.sc (.bool true)))))⟩])
  .ret))))))))⟩
theorem f14_ok : compF Proofs.Try.prog [16] [(3, 0)] Proofs.Try.f14 = some f14 := by kernel_rfl

def f15_0 : IR :=

  (.seq (.reg [
  ⟨none, (some 11), (.mv (.t 0))⟩,
  ⟨none, (some 12), (.mv (.t 4))⟩,
  ⟨none, (some 13), (.iadL 2 (.t 11) (.t 12))⟩,
  ⟨none, (some 14), (.fad 0 (.t 13))⟩,
  ⟨none, (some 15), (.ld false 1 (.t 14))⟩,
  ⟨none, (some 16), (.len true (.t 15))⟩,
  ⟨none, (some 17), (.bin .gtr (.t 16) (.c (.cv (.sc (.int .i64 30)))))⟩,
  ⟨none, (some 18), (.mv (.t 17))⟩,
  ⟨(some (18, false)), (some 19), (.mv (.t 0))⟩,
  ⟨(some (18, false)), (some 20), (.mv (.t 4))⟩,
  ⟨(some (18, false)), (some 21), (.iadL 2 (.t 19) (.t 20))⟩,
  ⟨(some (18, false)), (some 22), (.fad 1 (.t 21))⟩,
  ⟨(some (18, false)), (some 23), (.ld false 1 (.t 22))⟩,
  ⟨(some (18, false)), (some 24), (.len false (.t 23))⟩,
  ⟨(some (18, false)), (some 25), (.bin .gtr (.t 24) (.c (.cv (.sc (.int .i64 150)))))⟩,
  ⟨none, (some 26), (.pick (.t 18) (.c (.cv (.sc (.bool true)))) (.t 25))⟩])
  (.cond (.t 26)
  (.seq (.reg [
  ⟨none, (some 27), (.mv (.t 4))⟩,
  ⟨none, (some 2), (.mv (.t 27))⟩])
  .ret) .skip))
def f15_1 : IR :=

  (.seq
  (.seq (.reg [
  ⟨none, (some 5), (.mv (.t 4))⟩,
  ⟨none, (some 6), (.mv (.t 0))⟩,
  ⟨none, (some 7), (.len false (.t 6))⟩,
  ⟨none, (some 8), (.bin .lss (.t 5) (.t 7))⟩])
  (.cond (.t 8) .skip (.exit 0)))

  (.seq (.block 1
  (.seq f15_0

  (.seq (.reg [
  ⟨none, (some 28), (.mv (.t 3))⟩,
  ⟨none, (some 29), (.mv (.t 0))⟩,
  ⟨none, (some 30), (.mv (.t 4))⟩,
  ⟨none, (some 31), (.iadL 2 (.t 29) (.t 30))⟩,
  ⟨none, (some 32), (.ld true 2 (.t 31))⟩,
  ⟨none, (some 33), (.call 27 true [(.t 32)])⟩,
  ⟨none, (some 34), (.len false (.t 33))⟩,
  ⟨none, (some 35), (.bin .add (.c (.cv (.sc (.int .i64 1)))) (.t 34))⟩,
  ⟨none, (some 36), (.bin .add (.t 28) (.t 35))⟩,
  ⟨none, (some 3), (.mv (.t 36))⟩])

  (.seq (.reg [
  ⟨none, (some 37), (.mv (.t 3))⟩,
  ⟨none, (some 38), (.bin .gtr (.t 37) (.c (.cv (.sc (.int .i64 250)))))⟩])
  (.cond (.t 38)
  (.seq (.reg [
  ⟨none, (some 39), (.mv (.t 4))⟩,
  ⟨none, (some 2), (.mv (.t 39))⟩])
  .ret) .skip)))))
  (.reg [
  ⟨none, (some 9), (.mv (.t 4))⟩,
  ⟨none, (some 10), (.bin .add (.t 9) (.c (.cv (.sc (.int .i64 1)))))⟩,
  ⟨none, (some 4), (.mv (.t 10))⟩])))
def f15 : FnIR := ⟨42, [(.t 2)],

  (.seq (.reg [
  ⟨none, (some 2), (.mv (.c (.cv (.sc (.int .i64 0)))))⟩])

  (.seq (.reg [
  ⟨none, (some 3), (.mv (.c (.cv (.sc (.int .i64 0)))))⟩])

  (.seq
  (.seq (.reg [
  ⟨none, (some 4), (.mv (.c (.cv (.sc (.int .i64 0)))))⟩])
  (.block 0 (.loop f15_1)))

  (.seq (.reg [
  ⟨none, (some 40), (.mv (.t 0))⟩,
  ⟨none, (some 41), (.len false (.t 40))⟩,
  ⟨none, (some 2), (.mv (.t 41))⟩])
  .ret))))⟩
theorem f15_ok : compF Proofs.Try.prog [] [] Proofs.Try.f15 = some f15 := by kernel_rfl

def f16 : FnIR := ⟨28, [(.t 2)],

  (.seq (.reg [
  ⟨none, (some 2), (.mv (.c (.cv (.sc (.slice none 0 0)))))⟩])

  (.seq (.reg [
  ⟨none, (some 5), (.mv (.t 0))⟩,
  ⟨none, (some 6), (.call 28 true [(.t 5)])⟩,
  ⟨none, (some 3), (.mv (.t 6))⟩])

  (.seq (.reg [
  ⟨none, (some 4), (.mv (.c (.cv (.sc (.slice none 0 0)))))⟩])

  (.seq (.reg [
  ⟨none, (some 7), (.mv (.t 4))⟩,
  ⟨none, (some 8), (.mv (.t 0))⟩,
  ⟨none, (some 9), (.app 1 1 [(.sc (.int .u8 0))] (.t 7) (.t 8))⟩,
  ⟨none, (some 4), (.mv (.t 9))⟩])

  (.seq (.reg [
  ⟨none, (some 10), (.mv (.t 4))⟩,
  ⟨none, (some 11), (.mv (.t 3))⟩,
  ⟨none, (some 12), (.bin .rem (.t 11) (.c (.cv (.sc (.int .u32 256)))))⟩,
  ⟨none, (some 13), (.cvI .u8 (.t 12))⟩,
  ⟨none, (some 14), (.mv (.t 3))⟩,
  ⟨none, (some 15), (.bin .quo (.t 14) (.c (.cv (.sc (.int .u32 256)))))⟩,
  ⟨none, (some 16), (.bin .rem (.t 15) (.c (.cv (.sc (.int .u32 256)))))⟩,
  ⟨none, (some 17), (.cvI .u8 (.t 16))⟩,
  ⟨none, (some 18), (.mv (.t 3))⟩,
  ⟨none, (some 19), (.bin .quo (.t 18) (.c (.cv (.sc (.int .u32 65536)))))⟩,
  ⟨none, (some 20), (.bin .rem (.t 19) (.c (.cv (.sc (.int .u32 256)))))⟩,
  ⟨none, (some 21), (.cvI .u8 (.t 20))⟩,
  ⟨none, (some 22), (.mv (.t 3))⟩,
  ⟨none, (some 23), (.bin .quo (.t 22) (.c (.cv (.sc (.int .u32 16777216)))))⟩,
  ⟨none, (some 24), (.cvI .u8 (.t 23))⟩,
  ⟨none, (some 25), (.mksl 1 4 [(.cv (.sc (.int .u8 0))), (.cv (.sc (.int .u8 0))), (.cv (.sc (.int .u8 0))), (.cv (.sc (.int .u8 0)))] [(0, (1, (.t 13))), (1, (1, (.t 17))), (2, (1, (.t 21))), (3, (1, (.t 24)))] false)⟩,
  ⟨none, (some 26), (.app 1 1 [(.sc (.int .u8 0))] (.t 10) (.t 25))⟩,
  ⟨none, (some 4), (.mv (.t 26))⟩])

  (.seq (.reg [
  ⟨none, (some 27), (.mv (.t 4))⟩,
  ⟨none, (some 2), (.mv (.t 27))⟩])
  .ret))))))⟩
theorem f16_ok : compF Proofs.Try.prog [] [] Proofs.Try.f16 = some f16 := by kernel_rfl

def f17 : FnIR := ⟨37, [(.t 2)],

  (.seq (.reg [
  ⟨none, (some 2), (.mv (.c (.cv (.sc (.bool false)))))⟩])

  (.seq (.reg [
  ⟨none, (some 11), (.mv (.t 0))⟩,
  ⟨none, (some 12), (.call 12 true [(.t 11)])⟩,
  ⟨none, (some 10), (.mv (.t 12))⟩,
  ⟨none, (some 13), (.ext (.t 10) 0)⟩,
  ⟨none, (some 14), (.ext (.t 10) 1)⟩,
  ⟨none, (some 15), (.ext (.t 10) 2)⟩,
  ⟨none, (some 3), (.mv (.t 13))⟩,
  ⟨none, (some 4), (.mv (.t 14))⟩,
  ⟨none, (some 5), (.mv (.t 15))⟩])

  (.seq (.reg [
  ⟨none, (some 17), (.mv (.t 0))⟩,
  ⟨none, (some 18), (.call 29 true [(.t 17)])⟩,
  ⟨none, (some 16), (.mv (.t 18))⟩,
  ⟨none, (some 19), (.ext (.t 16) 0)⟩,
  ⟨none, (some 20), (.ext (.t 16) 1)⟩,
  ⟨none, (some 21), (.ext (.t 16) 2)⟩,
  ⟨none, (some 6), (.mv (.t 19))⟩,
  ⟨none, (some 7), (.mv (.t 20))⟩,
  ⟨none, (some 8), (.mv (.t 21))⟩])

  (.seq (.reg [
  ⟨none, (some 22), (.mv (.t 4))⟩,
  ⟨none, (some 23), (.mv (.t 7))⟩,
  ⟨none, (some 24), (.call 18 true [(.t 22), (.t 23)])⟩,
  ⟨none, (some 9), (.mv (.t 24))⟩])

  (.seq (.reg [
  ⟨none, (some 25), (.mv (.t 3))⟩,
  ⟨none, (some 26), (.mv (.t 6))⟩,
  ⟨none, (some 27), (.bin .eql (.t 25) (.t 26))⟩,
  ⟨none, (some 28), (.mv (.t 27))⟩,
  ⟨(some (28, true)), (some 29), (.mv (.t 9))⟩,
  ⟨none, (some 30), (.pick (.t 28) (.t 29) (.c (.cv (.sc (.bool false)))))⟩,
  ⟨none, (some 31), (.mv (.t 30))⟩,
  ⟨(some (31, true)), (some 32), (.mv (.t 5))⟩,
  ⟨(some (31, true)), (some 33), (.cvI .i64 (.t 32))⟩,
  ⟨(some (31, true)), (some 34), (.mv (.t 8))⟩,
  ⟨(some (31, true)), (some 35), (.bin .eql (.t 33) (.t 34))⟩,
  ⟨none, (some 36), (.pick (.t 31) (.t 35) (.c (.cv (.sc (.bool false)))))⟩,
  ⟨none, (some 2), (.mv (.t 36))⟩])
  .ret)))))⟩
theorem f17_ok : compF Proofs.Try.prog [] [] Proofs.Try.f17 = some f17 := by kernel_rfl

def f18_0 : IR :=

  (.seq (.reg [
  ⟨none, (some 6), (.mv (.t 0))⟩,
  ⟨none, (some 7), (.len false (.t 6))⟩,
  ⟨none, (some 8), (.mv (.t 1))⟩,
  ⟨none, (some 9), (.len false (.t 8))⟩,
  ⟨none, (some 10), (.bin .neq (.t 7) (.t 9))⟩])
  (.cond (.t 10)
  (.seq (.reg [
  ⟨none, (some 4), (.mv (.c (.cv (.sc (.bool false)))))⟩])
  .ret) .skip))
def f18_1 : IR :=

  (.seq
  (.seq (.reg [
  ⟨none, (some 11), (.mv (.t 5))⟩,
  ⟨none, (some 12), (.mv (.t 0))⟩,
  ⟨none, (some 13), (.len false (.t 12))⟩,
  ⟨none, (some 14), (.bin .lss (.t 11) (.t 13))⟩])
  (.cond (.t 14) .skip (.exit 0)))

  (.seq (.block 1
  (.seq (.draw [(
  ⟨none, (some 17), (.mv (.t 0))⟩, .p), (
  ⟨none, (some 18), (.mv (.t 5))⟩, .p), (
  ⟨none, (some 19), (.iadL 2 (.t 17) (.t 18))⟩, (.r 0 0)), (
  ⟨none, (some 20), (.fad 0 (.t 19))⟩, .p), (
  ⟨none, (some 21), (.ld false 1 (.t 20))⟩, (.r 0 0)), (
  ⟨none, (some 22), (.mv (.t 1))⟩, .p), (
  ⟨none, (some 23), (.mv (.t 5))⟩, .p), (
  ⟨none, (some 24), (.iadL 2 (.t 22) (.t 23))⟩, (.r 0 0)), (
  ⟨none, (some 25), (.fad 0 (.t 24))⟩, .p), (
  ⟨none, (some 26), (.ld false 1 (.t 25))⟩, (.r 0 0)), (
  ⟨none, (some 27), (.bin .neq (.t 21) (.t 26))⟩, .p), (
  ⟨none, (some 28), (.mv (.t 27))⟩, .p), (
  ⟨(some (28, false)), (some 29), (.mv (.t 0))⟩, .p), (
  ⟨(some (28, false)), (some 30), (.mv (.t 5))⟩, .p), (
  ⟨(some (28, false)), (some 31), (.iadL 2 (.t 29) (.t 30))⟩, (.r 0 0)), (
  ⟨(some (28, false)), (some 32), (.fad 1 (.t 31))⟩, .p), (
  ⟨(some (28, false)), (some 33), (.ld false 1 (.t 32))⟩, (.r 0 0)), (
  ⟨(some (28, false)), (some 34), (.cvBS (.t 33))⟩, (.r 0 0)), (
  ⟨(some (28, false)), (some 35), (.mv (.t 1))⟩, .p), (
  ⟨(some (28, false)), (some 36), (.mv (.t 5))⟩, .p), (
  ⟨(some (28, false)), (some 37), (.iadL 2 (.t 35) (.t 36))⟩, (.r 0 0)), (
  ⟨(some (28, false)), (some 38), (.fad 1 (.t 37))⟩, .p), (
  ⟨(some (28, false)), (some 39), (.ld false 1 (.t 38))⟩, (.r 0 0)), (
  ⟨(some (28, false)), (some 40), (.cvBS (.t 39))⟩, (.r 0 0)), (
  ⟨(some (28, false)), (some 41), (.bin .neq (.t 34) (.t 40))⟩, .p), (
  ⟨none, (some 42), (.pick (.t 28) (.c (.cv (.sc (.bool true)))) (.t 41))⟩, .p)])
  (.cond (.t 42)
  (.seq (.reg [
  ⟨none, (some 4), (.mv (.c (.cv (.sc (.bool false)))))⟩])
  .ret) .skip)))
  (.reg [
  ⟨none, (some 15), (.mv (.t 5))⟩,
  ⟨none, (some 16), (.bin .add (.t 15) (.c (.cv (.sc (.int .i64 1)))))⟩,
  ⟨none, (some 5), (.mv (.t 16))⟩])))
def f18 : FnIR := ⟨43, [(.t 4)],

  (.seq (.reg [
  ⟨none, (some 4), (.mv (.c (.cv (.sc (.bool false)))))⟩])

  (.seq f18_0

  (.seq
  (.seq (.reg [
  ⟨none, (some 5), (.mv (.c (.cv (.sc (.int .i64 0)))))⟩])
  (.block 0 (.loop f18_1)))

  (.seq (.reg [
  ⟨none, (some 4), (.mv (.c (.cv (.sc (.bool true)))))⟩])
  .ret))))⟩
theorem f18_ok : compF Proofs.Try.prog [] [] Proofs.Try.f18 = some f18 := by kernel_rfl

def f19_0 : IR :=

  (.seq
  (.seq (.reg [
  ⟨none, (some 7), (.mv (.t 4))⟩,
  ⟨none, (some 8), (.mv (.t 0))⟩,
  ⟨none, (some 9), (.len false (.t 8))⟩,
  ⟨none, (some 10), (.bin .lss (.t 7) (.t 9))⟩])
  (.cond (.t 10) .skip (.exit 0)))

  (.seq (.block 1 (.draw [(
  ⟨none, (some 13), (.mv (.t 3))⟩, .p), (
  ⟨none, (some 14), (.mv (.t 0))⟩, .p), (
  ⟨none, (some 15), (.mv (.t 4))⟩, .p), (
  ⟨none, (some 16), (.iadL 2 (.t 14) (.t 15))⟩, (.r 0 0)), (
  ⟨none, (some 17), (.fad 0 (.t 16))⟩, .p), (
  ⟨none, (some 18), (.ld false 1 (.t 17))⟩, (.r 0 0)), (
  ⟨none, (some 19), (.len true (.t 18))⟩, .p), (
  ⟨none, (some 20), (.mv (.t 0))⟩, .p), (
  ⟨none, (some 21), (.mv (.t 4))⟩, .p), (
  ⟨none, (some 22), (.iadL 2 (.t 20) (.t 21))⟩, (.r 0 0)), (
  ⟨none, (some 23), (.fad 1 (.t 22))⟩, .p), (
  ⟨none, (some 24), (.ld false 1 (.t 23))⟩, (.r 0 0)), (
  ⟨none, (some 25), (.len false (.t 24))⟩, .p), (
  ⟨none, (some 26), (.bin .add (.t 19) (.t 25))⟩, .p), (
  ⟨none, (some 27), (.bin .add (.t 13) (.t 26))⟩, .p), (
  ⟨none, (some 3), (.mv (.t 27))⟩, .p)]))
  (.reg [
  ⟨none, (some 11), (.mv (.t 4))⟩,
  ⟨none, (some 12), (.bin .add (.t 11) (.c (.cv (.sc (.int .i64 1)))))⟩,
  ⟨none, (some 4), (.mv (.t 12))⟩])))
def f19 : FnIR := ⟨30, [(.t 2)],

  (.seq (.reg [
  ⟨none, (some 2), (.mv (.c (.cv (.sc (.bool false)))))⟩])

  (.seq (.reg [
  ⟨none, (some 5), (.mv (.t 0))⟩,
  ⟨none, (some 6), (.len false (.t 5))⟩,
  ⟨none, (some 3), (.mv (.t 6))⟩])

  (.seq
  (.seq (.reg [
  ⟨none, (some 4), (.mv (.c (.cv (.sc (.int .i64 0)))))⟩])
  (.block 0 (.loop f19_0)))

  (.seq (.reg [
  ⟨none, (some 28), (.mv (.t 3))⟩,
  ⟨none, (some 29), (.bin .gtr (.t 28) (.c (.cv (.sc (.int .i64 1500)))))⟩,
  ⟨none, (some 2), (.mv (.t 29))⟩])
  .ret))))⟩
theorem f19_ok : compF Proofs.Try.prog [] [] Proofs.Try.f19 = some f19 := by kernel_rfl

def f20 : FnIR := ⟨49, [(.t 6)],

  (.seq (.reg [
  ⟨none, (some 6), (.mv (.c (.cv (.sc (.bool false)))))⟩])

  (.seq (.reg [
  ⟨none, (some 12), (.mv (.t 0))⟩,
  ⟨none, (some 13), (.mv (.t 1))⟩,
  ⟨none, (some 14), (.call 10 true [(.t 12), (.t 13)])⟩,
  ⟨none, (some 11), (.mv (.t 14))⟩,
  ⟨none, (some 15), (.ext (.t 11) 0)⟩,
  ⟨none, (some 16), (.ext (.t 11) 1)⟩,
  ⟨none, (some 7), (.mv (.t 15))⟩,
  ⟨none, (some 8), (.mv (.t 16))⟩])

  (.seq (.reg [
  ⟨none, (some 18), (.mv (.t 0))⟩,
  ⟨none, (some 19), (.mv (.t 1))⟩,
  ⟨none, (some 20), (.call 14 true [(.t 18), (.t 19)])⟩,
  ⟨none, (some 17), (.mv (.t 20))⟩,
  ⟨none, (some 21), (.ext (.t 17) 0)⟩,
  ⟨none, (some 22), (.ext (.t 17) 1)⟩,
  ⟨none, (some 9), (.mv (.t 21))⟩,
  ⟨none, (some 10), (.mv (.t 22))⟩])

  (.seq (.reg [
  ⟨none, (some 23), (.mv (.t 1))⟩,
  ⟨none, (some 24), (.call 11 true [(.t 23)])⟩,
  ⟨none, (some 25), (.mv (.t 1))⟩,
  ⟨none, (some 26), (.call 15 true [(.t 25)])⟩,
  ⟨none, (some 27), (.bin .eql (.t 24) (.t 26))⟩,
  ⟨none, (some 28), (.mv (.t 27))⟩,
  ⟨(some (28, true)), (some 29), (.mv (.t 7))⟩,
  ⟨(some (28, true)), (some 30), (.cvBS (.t 29))⟩,
  ⟨(some (28, true)), (some 31), (.mv (.t 9))⟩,
  ⟨(some (28, true)), (some 32), (.cvBS (.t 31))⟩,
  ⟨(some (28, true)), (some 33), (.bin .eql (.t 30) (.t 32))⟩,
  ⟨none, (some 34), (.pick (.t 28) (.t 33) (.c (.cv (.sc (.bool false)))))⟩,
  ⟨none, (some 35), (.mv (.t 34))⟩,
  ⟨(some (35, true)), (some 36), (.mv (.t 8))⟩,
  ⟨(some (35, true)), (some 37), (.mv (.t 10))⟩,
  ⟨(some (35, true)), (some 38), (.eqb false (.t 36) (.t 37))⟩,
  ⟨none, (some 39), (.pick (.t 35) (.t 38) (.c (.cv (.sc (.bool false)))))⟩,
  ⟨none, (some 40), (.mv (.t 39))⟩,
  ⟨(some (40, true)), (some 41), (.mv (.t 1))⟩,
  ⟨(some (40, true)), (some 42), (.mv (.t 2))⟩,
  ⟨(some (40, true)), (some 43), (.call 21 true [(.t 41), (.t 42)])⟩,
  ⟨(some (40, true)), (some 44), (.mv (.t 1))⟩,
  ⟨(some (40, true)), (some 45), (.mv (.t 2))⟩,
  ⟨(some (40, true)), (some 46), (.call 30 true [(.t 44), (.t 45)])⟩,
  ⟨(some (40, true)), (some 47), (.bin .eql (.t 43) (.t 46))⟩,
  ⟨none, (some 48), (.pick (.t 40) (.t 47) (.c (.cv (.sc (.bool false)))))⟩,
  ⟨none, (some 6), (.mv (.t 48))⟩])
  .ret))))⟩
theorem f20_ok : compF Proofs.Try.prog [] [] Proofs.Try.f20 = some f20 := by kernel_rfl

def f21_0 : IR :=
  (.cond (.t 10) .skip (.exit 0))
def f21_1 : IR :=

  (.seq (.reg [
  ⟨none, (some 10), (.bin .lss (.t 9) (.t 8))⟩])

  (.seq f21_0

  (.seq (.block 1
  (.seq (.reg [
  ⟨none, (some 11), (.mv (.t 9))⟩,
  ⟨none, (some 12), (.iadL 2 (.t 7) (.t 9))⟩,
  ⟨none, (some 13), (.ld true 2 (.t 12))⟩,
  ⟨none, (some 6), (.alloc [(.cv (.sc (.string ⟨#[]⟩))), (.cv (.sc (.slice none 0 0)))])⟩,
  ⟨none, (some 5), (.mv (.t 11))⟩,
  ⟨none, none, (.st 2 (.t 6) (.t 13))⟩])

  (.seq (.reg [
  ⟨none, (some 14), (.fad 0 (.t 6))⟩,
  ⟨none, (some 15), (.ld false 1 (.t 14))⟩,
  ⟨none, (some 16), (.mv (.t 1))⟩,
  ⟨none, (some 17), (.bin .gtr (.t 15) (.t 16))⟩])
  (.cond (.t 17)
  (.seq (.reg [
  ⟨none, (some 18), (.mv (.t 5))⟩,
  ⟨none, (some 19), (.bin .sub (.t 18) (.c (.cv (.sc (.int .i64 1)))))⟩,
  ⟨none, (some 4), (.mv (.t 19))⟩])
  .ret) .skip))))
  (.reg [
  ⟨none, (some 20), (.bin .add (.t 9) (.c (.cv (.sc (.int .i64 1)))))⟩,
  ⟨none, (some 9), (.mv (.t 20))⟩]))))
def f21 : FnIR := ⟨24, [(.t 4)],

  (.seq (.reg [
  ⟨none, (some 4), (.mv (.c (.cv (.sc (.int .i64 0)))))⟩])

  (.seq
  (.seq (.reg [
  ⟨none, (some 7), (.mv (.t 0))⟩,
  ⟨none, (some 8), (.len false (.t 7))⟩,
  ⟨none, (some 9), (.mv (.c (.cv (.sc (.int .i64 0)))))⟩])
  (.block 0 (.loop f21_1)))

  (.seq (.reg [
  ⟨none, (some 21), (.mv (.t 0))⟩,
  ⟨none, (some 22), (.len false (.t 21))⟩,
  ⟨none, (some 23), (.bin .sub (.t 22) (.c (.cv (.sc (.int .i64 1)))))⟩,
  ⟨none, (some 4), (.mv (.t 23))⟩])
  .ret)))⟩
theorem f21_ok : compF Proofs.Try.prog [] [] Proofs.Try.f21 = some f21 := by kernel_rfl

def f22 : FnIR := ⟨11, [(.t 2)],

  (.seq (.reg [
  ⟨none, (some 1), (.box 2 (.t 0))⟩,
  ⟨none, (some 2), (.mv (.c (.cv (.sc (.slice none 0 0)))))⟩])

  (.seq (.draw [(
  ⟨none, (some 3), (.fad 0 (.t 1))⟩, .p), (
  ⟨none, (some 4), (.ld false 1 (.t 3))⟩, (.r 0 0)), (
  ⟨none, (some 5), (.call 31 false [(.t 4)])⟩, .k), (
  ⟨none, (some 6), (.fad 1 (.t 1))⟩, .p), (
  ⟨none, (some 7), (.ld false 1 (.t 6))⟩, (.r 0 1)), (
  ⟨none, (some 8), (.cvBS (.t 7))⟩, (.r 0 1)), (
  ⟨none, (some 9), (.call 31 false [(.t 8)])⟩, .k), (
  ⟨none, (some 10), (.app 1 1 [(.sc (.int .u8 0))] (.t 5) (.t 9))⟩, .k), (
  ⟨none, (some 2), (.mv (.t 10))⟩, .p)])
  .ret))⟩
theorem f22_ok : compF Proofs.Try.prog [31] [] Proofs.Try.f22 = some f22 := by kernel_rfl

def f23 : FnIR := ⟨27, [(.t 2)],

  (.seq (.reg [
  ⟨none, (some 2), (.mv (.c (.cv (.sc (.slice none 0 0)))))⟩])

  (.seq (.reg [
  ⟨none, (some 5), (.mv (.t 0))⟩,
  ⟨none, (some 6), (.call 32 true [(.t 5)])⟩,
  ⟨none, (some 3), (.mv (.t 6))⟩])

  (.seq (.reg [
  ⟨none, (some 7), (.mv (.t 0))⟩,
  ⟨none, (some 8), (.len false (.t 7))⟩,
  ⟨none, (some 9), (.bin .add (.t 8) (.c (.cv (.sc (.int .i64 4)))))⟩,
  ⟨none, (some 10), (.mks 1 1 [(.sc (.int .u8 0))] (.c (.cv (.sc (.int .i64 0)))) (.t 9) true)⟩,
  ⟨none, (some 11), (.mv (.t 0))⟩,
  ⟨none, (some 12), (.app 1 1 [(.sc (.int .u8 0))] (.t 10) (.t 11))⟩,
  ⟨none, (some 4), (.mv (.t 12))⟩])

  (.seq (.reg [
  ⟨none, (some 13), (.mv (.t 4))⟩,
  ⟨none, (some 14), (.mv (.t 3))⟩,
  ⟨none, (some 15), (.cvI .u8 (.t 14))⟩,
  ⟨none, (some 16), (.mv (.t 3))⟩,
  ⟨none, (some 17), (.bin .shr (.t 16) (.c (.cv (.sc (.int .u64 8)))))⟩,
  ⟨none, (some 18), (.cvI .u8 (.t 17))⟩,
  ⟨none, (some 19), (.mv (.t 3))⟩,
  ⟨none, (some 20), (.bin .shr (.t 19) (.c (.cv (.sc (.int .u64 16)))))⟩,
  ⟨none, (some 21), (.cvI .u8 (.t 20))⟩,
  ⟨none, (some 22), (.mv (.t 3))⟩,
  ⟨none, (some 23), (.bin .shr (.t 22) (.c (.cv (.sc (.int .u64 24)))))⟩,
  ⟨none, (some 24), (.cvI .u8 (.t 23))⟩,
  ⟨none, (some 25), (.mksl 1 4 [(.cv (.sc (.int .u8 0))), (.cv (.sc (.int .u8 0))), (.cv (.sc (.int .u8 0))), (.cv (.sc (.int .u8 0)))] [(0, (1, (.t 15))), (1, (1, (.t 18))), (2, (1, (.t 21))), (3, (1, (.t 24)))] false)⟩,
  ⟨none, (some 26), (.app 1 1 [(.sc (.int .u8 0))] (.t 13) (.t 25))⟩,
  ⟨none, (some 2), (.mv (.t 26))⟩])
  .ret))))⟩
theorem f23_ok : compF Proofs.Try.prog [] [(2, 3)] Proofs.Try.f23 = some f23 := by kernel_rfl

def f24 : FnIR := ⟨17, [(.t 2)],

  (.seq (.reg [
  ⟨none, (some 2), (.mv (.c (.cv (.sc (.bool false)))))⟩])

  (.seq (.reg [
  ⟨none, (some 4), (.mv (.t 0))⟩,
  ⟨none, (some 5), (.len false (.t 4))⟩,
  ⟨none, (some 6), (.bin .sub (.t 5) (.c (.cv (.sc (.int .i64 4)))))⟩,
  ⟨none, (some 3), (.mv (.t 6))⟩])

  (.seq (.reg [
  ⟨none, (some 7), (.mv (.t 3))⟩,
  ⟨none, (some 8), (.bin .geq (.t 7) (.c (.cv (.sc (.int .i64 0)))))⟩,
  ⟨none, (some 9), (.mv (.t 8))⟩,
  ⟨(some (9, true)), (some 10), (.mv (.t 0))⟩,
  ⟨(some (9, true)), (some 11), (.mv (.t 3))⟩,
  ⟨(some (9, true)), (some 12), (.slL 1 (.t 10) none (some (.t 11)) none)⟩,
  ⟨(some (9, true)), (some 13), (.call 23 true [(.t 12)])⟩,
  ⟨(some (9, true)), (some 14), (.mv (.t 0))⟩,
  ⟨(some (9, true)), (some 15), (.call 26 true [(.t 13), (.t 14)])⟩,
  ⟨none, (some 16), (.pick (.t 9) (.t 15) (.c (.cv (.sc (.bool false)))))⟩,
  ⟨none, (some 2), (.mv (.t 16))⟩])
  .ret)))⟩
theorem f24_ok : compF Proofs.Try.prog [] [] Proofs.Try.f24 = some f24 := by kernel_rfl

def f25_0 : IR :=

  (.seq (.reg [
  ⟨none, (some 12), (.mv (.t 1))⟩,
  ⟨none, (some 13), (.mv (.t 2))⟩,
  ⟨none, (some 14), (.bin .geq (.t 12) (.t 13))⟩])
  (.cond (.t 14)
  (.seq (.reg [
  ⟨none, (some 15), (.ld true 2 (.t 6))⟩,
  ⟨none, none, (.st 2 (.t 6) (.t 15))⟩,
  ⟨none, (some 7), (.mv (.c (.cv (.sc (.bool false)))))⟩])
  .ret) .skip))
def f25_1 : IR :=

  (.seq (.reg [
  ⟨none, (some 25), (.mv (.t 10))⟩,
  ⟨none, (some 26), (.bin .neq (.t 25) (.c (.cv (.sc (.int .u16 0)))))⟩])
  (.cond (.t 26)
  (.seq (.reg [
  ⟨none, (some 27), (.ld true 2 (.t 6))⟩,
  ⟨none, none, (.st 2 (.t 6) (.t 27))⟩,
  ⟨none, (some 7), (.mv (.c (.cv (.sc (.bool false)))))⟩])
  .ret) .skip))
def f25 : FnIR := ⟨48, [(.cell 6 true 2), (.t 7)],

  (.seq (.reg [
  ⟨none, (some 6), (.alloc [(.cv (.sc (.string ⟨#[]⟩))), (.cv (.sc (.slice none 0 0)))])⟩,
  ⟨none, (some 7), (.mv (.c (.cv (.sc (.bool false)))))⟩])

  (.seq f25_0

  (.seq (.reg [
  ⟨none, (some 17), (.mv (.t 0))⟩,
  ⟨none, (some 18), (.mv (.t 2))⟩,
  ⟨none, (some 19), (.slL 1 (.t 17) none (some (.t 18)) none)⟩,
  ⟨none, (some 20), (.mv (.t 1))⟩,
  ⟨none, (some 21), (.call 33 true [(.t 19), (.t 20), (.c (.cv (.sc (.int .i64 30))))])⟩,
  ⟨none, (some 16), (.mv (.t 21))⟩,
  ⟨none, (some 22), (.ext (.t 16) 0)⟩,
  ⟨none, (some 23), (.ext (.t 16) 1)⟩,
  ⟨none, (some 24), (.ext (.t 16) 2)⟩,
  ⟨none, (some 8), (.mv (.t 22))⟩,
  ⟨none, (some 9), (.mv (.t 23))⟩,
  ⟨none, (some 10), (.mv (.t 24))⟩])

  (.seq f25_1

  (.seq (.reg [
  ⟨none, (some 29), (.mv (.t 0))⟩,
  ⟨none, (some 30), (.mv (.t 2))⟩,
  ⟨none, (some 31), (.slL 1 (.t 29) none (some (.t 30)) none)⟩,
  ⟨none, (some 32), (.mv (.t 9))⟩,
  ⟨none, (some 33), (.call 33 true [(.t 31), (.t 32), (.c (.cv (.sc (.int .i64 150))))])⟩,
  ⟨none, (some 28), (.mv (.t 33))⟩,
  ⟨none, (some 34), (.ext (.t 28) 0)⟩,
  ⟨none, (some 35), (.ext (.t 28) 1)⟩,
  ⟨none, (some 36), (.ext (.t 28) 2)⟩,
  ⟨none, (some 11), (.mv (.t 34))⟩,
  ⟨none, (some 9), (.mv (.t 35))⟩,
  ⟨none, (some 10), (.mv (.t 36))⟩])

  (.seq (.reg [
  ⟨none, (some 37), (.mv (.t 8))⟩,
  ⟨none, (some 38), (.mv (.t 11))⟩,
  ⟨none, (some 39), (.cvSB false (.t 38))⟩,
  ⟨none, (some 40), (.build [(.cv (.sc (.string ⟨#[]⟩))), (.cv (.sc (.slice none 0 0)))] [(0, (1, (.t 37))), (1, (1, (.t 39)))])⟩,
  ⟨none, (some 41), (.mv (.t 10))⟩,
  ⟨none, (some 42), (.bin .eql (.t 41) (.c (.cv (.sc (.int .u16 0)))))⟩,
  ⟨none, (some 43), (.mv (.t 42))⟩,
  ⟨(some (43, true)), (some 44), (.mv (.t 9))⟩,
  ⟨(some (43, true)), (some 45), (.mv (.t 2))⟩,
  ⟨(some (43, true)), (some 46), (.bin .eql (.t 44) (.t 45))⟩,
  ⟨none, (some 47), (.pick (.t 43) (.t 46) (.c (.cv (.sc (.bool false)))))⟩,
  ⟨none, none, (.st 2 (.t 6) (.t 40))⟩,
  ⟨none, (some 7), (.mv (.t 47))⟩])
  .ret))))))⟩
theorem f25_ok : compF Proofs.Try.prog [] [] Proofs.Try.f25 = some f25 := by kernel_rfl

def f26 : FnIR := ⟨10, [(.t 4)],

  (.seq (.reg [
  ⟨none, (some 4), (.mv (.c (.cv (.sc (.bool false)))))⟩])

  (.seq (.reg [
  ⟨none, (some 5), (.mv (.t 0))⟩,
  ⟨none, (some 6), (.cvBS (.t 5))⟩,
  ⟨none, (some 7), (.mv (.t 1))⟩,
  ⟨none, (some 8), (.cvBS (.t 7))⟩,
  ⟨none, (some 9), (.bin .eql (.t 6) (.t 8))⟩,
  ⟨none, (some 4), (.mv (.t 9))⟩])
  .ret))⟩
theorem f26_ok : compF Proofs.Try.prog [] [] Proofs.Try.f26 = some f26 := by kernel_rfl

def f27 : FnIR := ⟨16, [(.t 2)],

  (.seq (.reg [
  ⟨none, (some 1), (.box 2 (.t 0))⟩,
  ⟨none, (some 2), (.mv (.c (.cv (.sc (.slice none 0 0)))))⟩])

  (.seq (.reg [
  ⟨none, (some 5), (.fad 0 (.t 1))⟩,
  ⟨none, (some 6), (.ld false 1 (.t 5))⟩,
  ⟨none, (some 7), (.call 34 false [(.t 6)])⟩,
  ⟨none, (some 3), (.mv (.t 7))⟩])

  (.seq (.reg [
  ⟨none, (some 8), (.fad 1 (.t 1))⟩,
  ⟨none, (some 9), (.ld false 1 (.t 8))⟩,
  ⟨none, (some 10), (.cvBS (.t 9))⟩,
  ⟨none, (some 11), (.call 34 false [(.t 10)])⟩,
  ⟨none, (some 4), (.mv (.t 11))⟩])

  (.seq (.reg [
  ⟨none, (some 12), (.mv (.t 3))⟩,
  ⟨none, (some 13), (.mv (.t 4))⟩,
  ⟨none, (some 14), (.app 1 1 [(.sc (.int .u8 0))] (.t 12) (.t 13))⟩,
  ⟨none, (some 3), (.mv (.t 14))⟩])

  (.seq (.reg [
  ⟨none, (some 15), (.mv (.t 3))⟩,
  ⟨none, (some 2), (.mv (.t 15))⟩])
  .ret)))))⟩
theorem f27_ok : compF Proofs.Try.prog [34] [] Proofs.Try.f27 = some f27 := by kernel_rfl

def f28 : FnIR := ⟨5, [(.t 2)],

  (.seq (.reg [
  ⟨none, (some 2), (.mv (.c (.cv (.sc (.int .u32 0)))))⟩])

  (.seq (.reg [
  ⟨none, (some 3), (.mv (.t 0))⟩,
  ⟨none, (some 4), (.call 35 true [(.c (.cv (.sc (.int .u32 0)))), (.t 3)])⟩,
  ⟨none, (some 2), (.mv (.t 4))⟩])
  .ret))⟩
theorem f28_ok : compF Proofs.Try.prog [] [] Proofs.Try.f28 = some f28 := by kernel_rfl

def f29_0 : IR :=

  (.seq (.reg [
  ⟨none, (some 13), (.mv (.t 0))⟩,
  ⟨none, (some 14), (.len false (.t 13))⟩,
  ⟨none, (some 15), (.bin .neq (.t 14) (.c (.cv (.sc (.int .i64 256)))))⟩])
  (.cond (.t 15)
  (.seq (.reg [
  ⟨none, (some 2), (.mv (.c (.cv (.sc (.int .i64 0)))))⟩,
  ⟨none, (some 3), (.mv (.c (.cv (.sc (.slice none 0 0)))))⟩,
  ⟨none, (some 4), (.mv (.c (.cv (.sc (.int .i64 11)))))⟩])
  .ret) .skip))
def f29_1 : IR :=

  (.seq (.reg [
  ⟨none, (some 16), (.mv (.t 0))⟩,
  ⟨none, (some 17), (.call 36 true [(.t 16)])⟩,
  ⟨none, (some 18), (.un .not (.t 17))⟩])
  (.cond (.t 18)
  (.seq (.reg [
  ⟨none, (some 2), (.mv (.c (.cv (.sc (.int .i64 0)))))⟩,
  ⟨none, (some 3), (.mv (.c (.cv (.sc (.slice none 0 0)))))⟩,
  ⟨none, (some 4), (.mv (.c (.cv (.sc (.int .i64 12)))))⟩])
  .ret) .skip))
def f29_2 : IR :=

  (.seq (.reg [
  ⟨none, (some 35), (.mv (.t 10))⟩,
  ⟨none, (some 36), (.un .not (.t 35))⟩])
  (.cond (.t 36)
  (.seq (.reg [
  ⟨none, (some 2), (.mv (.c (.cv (.sc (.int .i64 0)))))⟩,
  ⟨none, (some 3), (.mv (.c (.cv (.sc (.slice none 0 0)))))⟩,
  ⟨none, (some 4), (.mv (.c (.cv (.sc (.int .i64 11)))))⟩])
  .ret) .skip))
def f29_3 : IR :=

  (.seq
  (.seq (.reg [
  ⟨none, (some 19), (.mv (.t 7))⟩,
  ⟨none, (some 20), (.mv (.t 0))⟩,
  ⟨none, (some 21), (.iadL 1 (.t 20) (.c (.cv (.sc (.int .i64 1)))))⟩,
  ⟨none, (some 22), (.ld false 1 (.t 21))⟩,
  ⟨none, (some 23), (.cvI .i64 (.t 22))⟩,
  ⟨none, (some 24), (.bin .lss (.t 19) (.t 23))⟩])
  (.cond (.t 24) .skip (.exit 0)))

  (.seq (.block 1
  (.seq (.reg [
  ⟨none, (some 28), (.mv (.t 0))⟩,
  ⟨none, (some 29), (.mv (.t 7))⟩,
  ⟨none, (some 30), (.mv (.t 6))⟩,
  ⟨none, (some 31), (.call 37 true [(.t 28), (.t 29), (.t 30)])⟩,
  ⟨none, (some 27), (.mv (.t 31))⟩,
  ⟨none, (some 32), (.ext (.t 27) 0)⟩,
  ⟨none, (some 33), (.ext (.t 27) 1)⟩,
  ⟨none, (some 34), (.ext (.t 27) 2)⟩,
  ⟨none, (some 8), (.alloc [(.cv (.sc (.string ⟨#[]⟩))), (.cv (.sc (.slice none 0 0)))])⟩,
  ⟨none, none, (.st 2 (.t 8) (.t 32))⟩,
  ⟨none, (some 9), (.mv (.t 33))⟩,
  ⟨none, (some 10), (.mv (.t 34))⟩])

  (.seq f29_2

  (.seq (.reg [
  ⟨none, (some 37), (.mv (.t 5))⟩,
  ⟨none, (some 38), (.ld true 2 (.t 8))⟩,
  ⟨none, (some 39), (.mksl 2 1 [(.cv (.sc (.string ⟨#[]⟩))), (.cv (.sc (.slice none 0 0)))] [(0, (2, (.t 38)))] false)⟩,
  ⟨none, (some 40), (.app 2 40 [(.sc (.string ⟨#[]⟩)), (.sc (.slice none 0 0))] (.t 37) (.t 39))⟩,
  ⟨none, (some 5), (.mv (.t 40))⟩])
  (.reg [
  ⟨none, (some 41), (.mv (.t 9))⟩,
  ⟨none, (some 6), (.mv (.t 41))⟩])))))
  (.reg [
  ⟨none, (some 25), (.mv (.t 7))⟩,
  ⟨none, (some 26), (.bin .add (.t 25) (.c (.cv (.sc (.int .i64 1)))))⟩,
  ⟨none, (some 7), (.mv (.t 26))⟩])))
def f29_4 : IR :=

  (.seq (.reg [
  ⟨none, (some 51), (.mv (.t 12))⟩,
  ⟨none, (some 52), (.un .not (.t 51))⟩,
  ⟨none, (some 53), (.mv (.t 52))⟩,
  ⟨(some (53, false)), (some 54), (.mv (.t 11))⟩,
  ⟨(some (53, false)), (some 55), (.cvBS (.t 54))⟩,
  ⟨(some (53, false)), (some 56), (.mv (.t 0))⟩,
  ⟨(some (53, false)), (some 57), (.cvBS (.t 56))⟩,
  ⟨(some (53, false)), (some 58), (.bin .neq (.t 55) (.t 57))⟩,
  ⟨none, (some 59), (.pick (.t 53) (.c (.cv (.sc (.bool true)))) (.t 58))⟩])
  (.cond (.t 59)
  (.seq (.reg [
  ⟨none, (some 2), (.mv (.c (.cv (.sc (.int .i64 0)))))⟩,
  ⟨none, (some 3), (.mv (.c (.cv (.sc (.slice none 0 0)))))⟩,
  ⟨none, (some 4), (.mv (.c (.cv (.sc (.int .i64 11)))))⟩])
  .ret) .skip))
def f29 : FnIR := ⟨65, [(.t 2), (.t 3), (.t 4)],

  (.seq (.reg [
  ⟨none, (some 2), (.mv (.c (.cv (.sc (.int .i64 0)))))⟩,
  ⟨none, (some 3), (.mv (.c (.cv (.sc (.slice none 0 0)))))⟩,
  ⟨none, (some 4), (.mv (.c (.cv (.sc (.int .i64 0)))))⟩])

  (.seq f29_0

  (.seq f29_1

  (.seq (.reg [
  ⟨none, (some 5), (.mv (.c (.cv (.sc (.slice none 0 0)))))⟩])

  (.seq (.reg [
  ⟨none, (some 6), (.mv (.c (.cv (.sc (.int .i64 252)))))⟩])

  (.seq
  (.seq (.reg [
  ⟨none, (some 7), (.mv (.c (.cv (.sc (.int .i64 0)))))⟩])
  (.block 0 (.loop f29_3)))

  (.seq (.reg [
  ⟨none, (some 43), (.mv (.t 0))⟩,
  ⟨none, (some 44), (.iadL 1 (.t 43) (.c (.cv (.sc (.int .i64 0)))))⟩,
  ⟨none, (some 45), (.ld false 1 (.t 44))⟩,
  ⟨none, (some 46), (.cvI .i64 (.t 45))⟩,
  ⟨none, (some 47), (.mv (.t 5))⟩,
  ⟨none, (some 48), (.call 14 true [(.t 46), (.t 47)])⟩,
  ⟨none, (some 42), (.mv (.t 48))⟩,
  ⟨none, (some 49), (.ext (.t 42) 0)⟩,
  ⟨none, (some 50), (.ext (.t 42) 1)⟩,
  ⟨none, (some 11), (.mv (.t 49))⟩,
  ⟨none, (some 12), (.mv (.t 50))⟩])

  (.seq f29_4

  (.seq (.reg [
  ⟨none, (some 60), (.mv (.t 0))⟩,
  ⟨none, (some 61), (.iadL 1 (.t 60) (.c (.cv (.sc (.int .i64 0)))))⟩,
  ⟨none, (some 62), (.ld false 1 (.t 61))⟩,
  ⟨none, (some 63), (.cvI .i64 (.t 62))⟩,
  ⟨none, (some 64), (.mv (.t 5))⟩,
  ⟨none, (some 2), (.mv (.t 63))⟩,
  ⟨none, (some 3), (.mv (.t 64))⟩,
  ⟨none, (some 4), (.mv (.c (.cv (.sc (.int .i64 0)))))⟩])
  .ret)))))))))⟩
theorem f29_ok : compF Proofs.Try.prog [] [] Proofs.Try.f29 = some f29 := by kernel_rfl

def f30_0 : IR :=

  (.seq
  (.seq (.reg [
  ⟨none, (some 7), (.mv (.t 6))⟩,
  ⟨none, (some 8), (.mv (.t 0))⟩,
  ⟨none, (some 9), (.len false (.t 8))⟩,
  ⟨none, (some 10), (.bin .lss (.t 7) (.t 9))⟩,
  ⟨none, (some 11), (.mv (.t 10))⟩,
  ⟨(some (11, true)), (some 12), (.mv (.t 0))⟩,
  ⟨(some (11, true)), (some 13), (.mv (.t 6))⟩,
  ⟨(some (11, true)), (some 14), (.iadL 2 (.t 12) (.t 13))⟩,
  ⟨(some (11, true)), (some 15), (.fad 0 (.t 14))⟩,
  ⟨(some (11, true)), (some 16), (.ld false 1 (.t 15))⟩,
  ⟨(some (11, true)), (some 17), (.mv (.t 1))⟩,
  ⟨(some (11, true)), (some 18), (.bin .leq (.t 16) (.t 17))⟩,
  ⟨none, (some 19), (.pick (.t 11) (.t 18) (.c (.cv (.sc (.bool false)))))⟩])
  (.cond (.t 19) .skip (.exit 0)))

  (.seq (.block 1 (.reg [
  ⟨none, (some 22), (.mv (.t 6))⟩,
  ⟨none, (some 5), (.mv (.t 22))⟩]))
  (.reg [
  ⟨none, (some 20), (.mv (.t 6))⟩,
  ⟨none, (some 21), (.bin .add (.t 20) (.c (.cv (.sc (.int .i64 1)))))⟩,
  ⟨none, (some 6), (.mv (.t 21))⟩])))
def f30 : FnIR := ⟨24, [(.t 4)],

  (.seq (.reg [
  ⟨none, (some 4), (.mv (.c (.cv (.sc (.int .i64 0)))))⟩])

  (.seq (.reg [
  ⟨none, (some 5), (.mv (.c (.cv (.sc (.int .i64 (-1))))))⟩])

  (.seq
  (.seq (.reg [
  ⟨none, (some 6), (.mv (.c (.cv (.sc (.int .i64 0)))))⟩])
  (.block 0 (.loop f30_0)))

  (.seq (.reg [
  ⟨none, (some 23), (.mv (.t 5))⟩,
  ⟨none, (some 4), (.mv (.t 23))⟩])
  .ret))))⟩
theorem f30_ok : compF Proofs.Try.prog [] [] Proofs.Try.f30 = some f30 := by kernel_rfl

def f31 : FnIR := ⟨8, [(.t 2)],

  (.seq (.reg [
  ⟨none, (some 2), (.mv (.c (.cv (.sc (.slice none 0 0)))))⟩])

  (.seq (.reg [
  ⟨none, (some 3), (.mv (.t 0))⟩,
  ⟨none, (some 4), (.len true (.t 3))⟩,
  ⟨none, (some 5), (.call 38 false [(.t 4)])⟩,
  ⟨none, (some 6), (.mv (.t 0))⟩,
  ⟨none, (some 7), (.app 1 1 [(.sc (.int .u8 0))] (.t 5) (.t 6))⟩,
  ⟨none, (some 2), (.mv (.t 7))⟩])
  .ret))⟩
theorem f31_ok : compF Proofs.Try.prog [38] [] Proofs.Try.f31 = some f31 := by kernel_rfl

def f32 : FnIR := ⟨5, [(.t 2)],

  (.seq (.reg [
  ⟨none, (some 2), (.mv (.c (.cv (.sc (.int .u32 0)))))⟩])

  (.seq (.reg [
  ⟨none, (some 3), (.mv (.t 0))⟩,
  ⟨none, (some 4), (.call 39 true [(.c (.cv (.sc (.int .u32 0)))), (.t 3)])⟩,
  ⟨none, (some 2), (.mv (.t 4))⟩])
  .ret))⟩
theorem f32_ok : compF Proofs.Try.prog [] [] Proofs.Try.f32 = some f32 := by kernel_rfl

def f33 : FnIR := ⟨44, [(.t 6), (.t 7), (.t 8)],

  (.seq (.reg [
  ⟨none, (some 6), (.mv (.c (.cv (.sc (.string ⟨#[]⟩)))))⟩,
  ⟨none, (some 7), (.mv (.c (.cv (.sc (.int .i64 0)))))⟩,
  ⟨none, (some 8), (.mv (.c (.cv (.sc (.int .u16 0)))))⟩])

  (.seq (.reg [
  ⟨none, (some 13), (.mv (.t 0))⟩,
  ⟨none, (some 14), (.mv (.t 1))⟩,
  ⟨none, (some 15), (.call 40 true [(.t 13), (.t 14)])⟩,
  ⟨none, (some 12), (.mv (.t 15))⟩,
  ⟨none, (some 16), (.ext (.t 12) 0)⟩,
  ⟨none, (some 17), (.ext (.t 12) 1)⟩,
  ⟨none, (some 18), (.ext (.t 12) 2)⟩,
  ⟨none, (some 9), (.mv (.t 16))⟩,
  ⟨none, (some 10), (.mv (.t 17))⟩,
  ⟨none, (some 11), (.mv (.t 18))⟩])

  (.seq (.block 0
  (.seq (.reg [
  ⟨none, (some 20), (.mv (.t 11))⟩,
  ⟨none, (some 21), (.bin .neq (.t 20) (.c (.cv (.sc (.int .u16 0)))))⟩,
  ⟨none, (some 19), (.mv (.t 21))⟩])
  (.cond (.t 19)
  (.seq (.reg [
  ⟨none, (some 22), (.mv (.t 11))⟩,
  ⟨none, (some 6), (.mv (.c (.cv (.sc (.string ⟨#[]⟩)))))⟩,
  ⟨none, (some 7), (.mv (.c (.cv (.sc (.int .i64 0)))))⟩,
  ⟨none, (some 8), (.mv (.t 22))⟩])
  .ret)
  (.seq (.reg [
  ⟨none, (some 24), (.mv (.t 9))⟩,
  ⟨none, (some 25), (.mv (.t 2))⟩,
  ⟨none, (some 26), (.bin .gtr (.t 24) (.t 25))⟩,
  ⟨none, (some 23), (.mv (.t 26))⟩])
  (.cond (.t 23)
  (.seq (.reg [
  ⟨none, (some 6), (.mv (.c (.cv (.sc (.string ⟨#[]⟩)))))⟩,
  ⟨none, (some 7), (.mv (.c (.cv (.sc (.int .i64 0)))))⟩,
  ⟨none, (some 8), (.mv (.c (.cv (.sc (.int .u16 3)))))⟩])
  .ret)
  (.seq (.reg [
  ⟨none, (some 28), (.mv (.t 9))⟩,
  ⟨none, (some 29), (.mv (.t 0))⟩,
  ⟨none, (some 30), (.len false (.t 29))⟩,
  ⟨none, (some 31), (.mv (.t 10))⟩,
  ⟨none, (some 32), (.bin .sub (.t 30) (.t 31))⟩,
  ⟨none, (some 33), (.bin .gtr (.t 28) (.t 32))⟩,
  ⟨none, (some 27), (.mv (.t 33))⟩])
  (.cond (.t 27)
  (.seq (.reg [
  ⟨none, (some 6), (.mv (.c (.cv (.sc (.string ⟨#[]⟩)))))⟩,
  ⟨none, (some 7), (.mv (.c (.cv (.sc (.int .i64 0)))))⟩,
  ⟨none, (some 8), (.mv (.c (.cv (.sc (.int .u16 10)))))⟩])
  .ret) .skip)))))))

  (.seq (.reg [
  ⟨none, (some 34), (.mv (.t 0))⟩,
  ⟨none, (some 35), (.mv (.t 10))⟩,
  ⟨none, (some 36), (.mv (.t 10))⟩,
  ⟨none, (some 37), (.mv (.t 9))⟩,
  ⟨none, (some 38), (.bin .add (.t 36) (.t 37))⟩,
  ⟨none, (some 39), (.slL 1 (.t 34) (some (.t 35)) (some (.t 38)) none)⟩,
  ⟨none, (some 40), (.cvBS (.t 39))⟩,
  ⟨none, (some 41), (.mv (.t 10))⟩,
  ⟨none, (some 42), (.mv (.t 9))⟩,
  ⟨none, (some 43), (.bin .add (.t 41) (.t 42))⟩,
  ⟨none, (some 6), (.mv (.t 40))⟩,
  ⟨none, (some 7), (.mv (.t 43))⟩,
  ⟨none, (some 8), (.mv (.c (.cv (.sc (.int .u16 0)))))⟩])
  .ret))))⟩
theorem f33_ok : compF Proofs.Try.prog [] [] Proofs.Try.f33 = some f33 := by kernel_rfl

def f34 : FnIR := ⟨9, [(.t 2)],

  (.seq (.reg [
  ⟨none, (some 2), (.mv (.c (.cv (.sc (.slice none 0 0)))))⟩])

  (.seq (.reg [
  ⟨none, (some 3), (.mv (.t 0))⟩,
  ⟨none, (some 4), (.len true (.t 3))⟩,
  ⟨none, (some 5), (.call 42 true [(.t 4)])⟩,
  ⟨none, (some 6), (.mv (.t 0))⟩,
  ⟨none, (some 7), (.cvSB false (.t 6))⟩,
  ⟨none, (some 8), (.call 41 false [(.t 5), (.t 7)])⟩,
  ⟨none, (some 2), (.mv (.t 8))⟩])
  .ret))⟩
theorem f34_ok : compF Proofs.Try.prog [41] [] Proofs.Try.f34 = some f34 := by kernel_rfl

def f35_0 : IR :=

  (.seq
  (.seq (.reg [
  ⟨none, (some 22), (.mv (.t 6))⟩,
  ⟨none, (some 23), (.bin .lss (.t 22) (.c (.cv (.sc (.int .i64 8)))))⟩])
  (.cond (.t 23) .skip (.exit 2)))

  (.seq (.block 3
  (.seq (.reg [
  ⟨none, (some 26), (.mv (.t 0))⟩,
  ⟨none, (some 27), (.bin .rem (.t 26) (.c (.cv (.sc (.int .u32 2)))))⟩,
  ⟨none, (some 28), (.bin .eql (.t 27) (.c (.cv (.sc (.int .u32 1)))))⟩])
  (.cond (.t 28) (.reg [
  ⟨none, (some 29), (.mv (.t 0))⟩,
  ⟨none, (some 30), (.bin .quo (.t 29) (.c (.cv (.sc (.int .u32 2)))))⟩,
  ⟨none, (some 31), (.bin .xor (.t 30) (.c (.cv (.sc (.int .u32 3988292384)))))⟩,
  ⟨none, (some 0), (.mv (.t 31))⟩]) (.reg [
  ⟨none, (some 32), (.mv (.t 0))⟩,
  ⟨none, (some 33), (.bin .quo (.t 32) (.c (.cv (.sc (.int .u32 2)))))⟩,
  ⟨none, (some 0), (.mv (.t 33))⟩]))))
  (.reg [
  ⟨none, (some 24), (.mv (.t 6))⟩,
  ⟨none, (some 25), (.bin .add (.t 24) (.c (.cv (.sc (.int .i64 1)))))⟩,
  ⟨none, (some 6), (.mv (.t 25))⟩])))
def f35_1 : IR :=

  (.seq
  (.seq (.reg [
  ⟨none, (some 9), (.mv (.t 5))⟩,
  ⟨none, (some 10), (.mv (.t 1))⟩,
  ⟨none, (some 11), (.len false (.t 10))⟩,
  ⟨none, (some 12), (.bin .lss (.t 9) (.t 11))⟩])
  (.cond (.t 12) .skip (.exit 0)))

  (.seq (.block 1
  (.seq (.reg [
  ⟨none, (some 15), (.mv (.t 0))⟩,
  ⟨none, (some 16), (.mv (.t 1))⟩,
  ⟨none, (some 17), (.mv (.t 5))⟩,
  ⟨none, (some 18), (.iadL 1 (.t 16) (.t 17))⟩,
  ⟨none, (some 19), (.ld false 1 (.t 18))⟩,
  ⟨none, (some 20), (.cvI .u32 (.t 19))⟩,
  ⟨none, (some 21), (.bin .xor (.t 15) (.t 20))⟩,
  ⟨none, (some 0), (.mv (.t 21))⟩])

  (.seq (.reg [
  ⟨none, (some 6), (.mv (.c (.cv (.sc (.int .i64 0)))))⟩])
  (.block 2 (.loop f35_0)))))
  (.reg [
  ⟨none, (some 13), (.mv (.t 5))⟩,
  ⟨none, (some 14), (.bin .add (.t 13) (.c (.cv (.sc (.int .i64 1)))))⟩,
  ⟨none, (some 5), (.mv (.t 14))⟩])))
def f35 : FnIR := ⟨36, [(.t 4)],

  (.seq (.reg [
  ⟨none, (some 4), (.mv (.c (.cv (.sc (.int .u32 0)))))⟩])

  (.seq (.reg [
  ⟨none, (some 7), (.mv (.t 0))⟩,
  ⟨none, (some 8), (.bin .xor (.t 7) (.c (.cv (.sc (.int .u32 4294967295)))))⟩,
  ⟨none, (some 0), (.mv (.t 8))⟩])

  (.seq
  (.seq (.reg [
  ⟨none, (some 5), (.mv (.c (.cv (.sc (.int .i64 0)))))⟩])
  (.block 0 (.loop f35_1)))

  (.seq (.reg [
  ⟨none, (some 34), (.mv (.t 0))⟩,
  ⟨none, (some 35), (.bin .xor (.t 34) (.c (.cv (.sc (.int .u32 4294967295)))))⟩,
  ⟨none, (some 4), (.mv (.t 35))⟩])
  .ret))))⟩
theorem f35_ok : compF Proofs.Try.prog [] [] Proofs.Try.f35 = some f35 := by kernel_rfl

def f36 : FnIR := ⟨18, [(.t 2)],

  (.seq (.reg [
  ⟨none, (some 2), (.mv (.c (.cv (.sc (.bool false)))))⟩])

  (.seq (.draw [(
  ⟨none, (some 3), (.mv (.t 0))⟩, .p), (
  ⟨none, (some 4), (.len false (.t 3))⟩, .p), (
  ⟨none, (some 5), (.bin .geq (.t 4) (.c (.cv (.sc (.int .i64 4)))))⟩, .p), (
  ⟨none, (some 6), (.mv (.t 5))⟩, .p), (
  ⟨(some (6, true)), (some 7), (.mv (.t 0))⟩, .p), (
  ⟨(some (6, true)), (some 8), (.mv (.t 0))⟩, .p), (
  ⟨(some (6, true)), (some 9), (.len false (.t 8))⟩, .p), (
  ⟨(some (6, true)), (some 10), (.bin .sub (.t 9) (.c (.cv (.sc (.int .i64 4)))))⟩, .p), (
  ⟨(some (6, true)), (some 11), (.slL 1 (.t 7) none (some (.t 10)) none)⟩, (.r 0 0)), (
  ⟨(some (6, true)), (some 12), (.call 16 true [(.t 11)])⟩, (.r 0 0)), (
  ⟨(some (6, true)), (some 13), (.cvBS (.t 12))⟩, (.r 0 0)), (
  ⟨(some (6, true)), (some 14), (.mv (.t 0))⟩, .p), (
  ⟨(some (6, true)), (some 15), (.cvBS (.t 14))⟩, (.r 0 0)), (
  ⟨(some (6, true)), (some 16), (.bin .eql (.t 13) (.t 15))⟩, .p), (
  ⟨none, (some 17), (.pick (.t 6) (.t 16) (.c (.cv (.sc (.bool false)))))⟩, .p), (
  ⟨none, (some 2), (.mv (.t 17))⟩, .p)])
  .ret))⟩
theorem f36_ok : compF Proofs.Try.prog [] [] Proofs.Try.f36 = some f36 := by kernel_rfl

def f37_0 : IR :=

  (.seq (.reg [
  ⟨none, (some 16), (.mv (.t 1))⟩,
  ⟨none, (some 17), (.bin .add (.c (.cv (.sc (.int .i64 2)))) (.t 16))⟩,
  ⟨none, (some 18), (.mv (.t 2))⟩,
  ⟨none, (some 19), (.bin .geq (.t 17) (.t 18))⟩,
  ⟨none, (some 20), (.mv (.t 19))⟩,
  ⟨(some (20, false)), (some 21), (.mv (.t 0))⟩,
  ⟨(some (20, false)), (some 22), (.mv (.t 1))⟩,
  ⟨(some (20, false)), (some 23), (.bin .add (.c (.cv (.sc (.int .i64 2)))) (.t 22))⟩,
  ⟨(some (20, false)), (some 24), (.iadL 1 (.t 21) (.t 23))⟩,
  ⟨(some (20, false)), (some 25), (.ld false 1 (.t 24))⟩,
  ⟨(some (20, false)), (some 26), (.cvI .i64 (.t 25))⟩,
  ⟨(some (20, false)), (some 27), (.mv (.t 2))⟩,
  ⟨(some (20, false)), (some 28), (.bin .geq (.t 26) (.t 27))⟩,
  ⟨none, (some 29), (.pick (.t 20) (.c (.cv (.sc (.bool true)))) (.t 28))⟩])
  (.cond (.t 29)
  (.seq (.reg [
  ⟨none, (some 30), (.build [(.cv (.sc (.string ⟨#[]⟩))), (.cv (.sc (.slice none 0 0)))] [])⟩,
  ⟨none, none, (.st 2 (.t 6) (.t 30))⟩,
  ⟨none, (some 7), (.mv (.c (.cv (.sc (.int .i64 0)))))⟩,
  ⟨none, (some 8), (.mv (.c (.cv (.sc (.bool false)))))⟩])
  .ret) .skip))
def f37_1 : IR :=

  (.seq (.reg [
  ⟨none, (some 46), (.mv (.t 12))⟩,
  ⟨none, (some 47), (.bin .neq (.t 46) (.c (.cv (.sc (.int .i64 0)))))⟩])
  (.cond (.t 47)
  (.seq (.reg [
  ⟨none, (some 48), (.build [(.cv (.sc (.string ⟨#[]⟩))), (.cv (.sc (.slice none 0 0)))] [])⟩,
  ⟨none, none, (.st 2 (.t 6) (.t 48))⟩,
  ⟨none, (some 7), (.mv (.c (.cv (.sc (.int .i64 0)))))⟩,
  ⟨none, (some 8), (.mv (.c (.cv (.sc (.bool false)))))⟩])
  .ret) .skip))
def f37 : FnIR := ⟨70, [(.cell 6 true 2), (.t 7), (.t 8)],

  (.seq (.reg [
  ⟨none, (some 6), (.alloc [(.cv (.sc (.string ⟨#[]⟩))), (.cv (.sc (.slice none 0 0)))])⟩,
  ⟨none, (some 7), (.mv (.c (.cv (.sc (.int .i64 0)))))⟩,
  ⟨none, (some 8), (.mv (.c (.cv (.sc (.bool false)))))⟩])

  (.seq f37_0

  (.seq (.reg [
  ⟨none, (some 31), (.mv (.t 0))⟩,
  ⟨none, (some 32), (.mv (.t 1))⟩,
  ⟨none, (some 33), (.bin .add (.c (.cv (.sc (.int .i64 2)))) (.t 32))⟩,
  ⟨none, (some 34), (.iadL 1 (.t 31) (.t 33))⟩,
  ⟨none, (some 35), (.ld false 1 (.t 34))⟩,
  ⟨none, (some 36), (.cvI .i64 (.t 35))⟩,
  ⟨none, (some 9), (.mv (.t 36))⟩])

  (.seq (.reg [
  ⟨none, (some 38), (.mv (.t 0))⟩,
  ⟨none, (some 39), (.mv (.t 2))⟩,
  ⟨none, (some 40), (.slL 1 (.t 38) none (some (.t 39)) none)⟩,
  ⟨none, (some 41), (.mv (.t 9))⟩,
  ⟨none, (some 42), (.call 43 true [(.t 40), (.t 41), (.c (.cv (.sc (.int .i64 30))))])⟩,
  ⟨none, (some 37), (.mv (.t 42))⟩,
  ⟨none, (some 43), (.ext (.t 37) 0)⟩,
  ⟨none, (some 44), (.ext (.t 37) 1)⟩,
  ⟨none, (some 45), (.ext (.t 37) 2)⟩,
  ⟨none, (some 10), (.mv (.t 43))⟩,
  ⟨none, (some 11), (.mv (.t 44))⟩,
  ⟨none, (some 12), (.mv (.t 45))⟩])

  (.seq f37_1

  (.seq (.reg [
  ⟨none, (some 50), (.mv (.t 0))⟩,
  ⟨none, (some 51), (.mv (.t 2))⟩,
  ⟨none, (some 52), (.slL 1 (.t 50) none (some (.t 51)) none)⟩,
  ⟨none, (some 53), (.mv (.t 11))⟩,
  ⟨none, (some 54), (.call 43 true [(.t 52), (.t 53), (.c (.cv (.sc (.int .i64 150))))])⟩,
  ⟨none, (some 49), (.mv (.t 54))⟩,
  ⟨none, (some 55), (.ext (.t 49) 0)⟩,
  ⟨none, (some 56), (.ext (.t 49) 1)⟩,
  ⟨none, (some 57), (.ext (.t 49) 2)⟩,
  ⟨none, (some 13), (.mv (.t 55))⟩,
  ⟨none, (some 14), (.mv (.t 56))⟩,
  ⟨none, (some 15), (.mv (.t 57))⟩])

  (.seq (.reg [
  ⟨none, (some 58), (.mv (.t 10))⟩,
  ⟨none, (some 59), (.mv (.t 13))⟩,
  ⟨none, (some 60), (.cvSB false (.t 59))⟩,
  ⟨none, (some 61), (.build [(.cv (.sc (.string ⟨#[]⟩))), (.cv (.sc (.slice none 0 0)))] [(0, (1, (.t 58))), (1, (1, (.t 60)))])⟩,
  ⟨none, (some 62), (.mv (.t 9))⟩,
  ⟨none, (some 63), (.mv (.t 15))⟩,
  ⟨none, (some 64), (.bin .eql (.t 63) (.c (.cv (.sc (.int .i64 0)))))⟩,
  ⟨none, (some 65), (.mv (.t 64))⟩,
  ⟨(some (65, true)), (some 66), (.mv (.t 14))⟩,
  ⟨(some (65, true)), (some 67), (.mv (.t 2))⟩,
  ⟨(some (65, true)), (some 68), (.bin .eql (.t 66) (.t 67))⟩,
  ⟨none, (some 69), (.pick (.t 65) (.t 68) (.c (.cv (.sc (.bool false)))))⟩,
  ⟨none, none, (.st 2 (.t 6) (.t 61))⟩,
  ⟨none, (some 7), (.mv (.t 62))⟩,
  ⟨none, (some 8), (.mv (.t 69))⟩])
  .ret)))))))⟩
theorem f37_ok : compF Proofs.Try.prog [] [] Proofs.Try.f37 = some f37 := by kernel_rfl

def f38_0 : IR :=

  (.seq
  (.seq (.reg [
  ⟨none, (some 7), (.mv (.t 0))⟩,
  ⟨none, (some 8), (.bin .gtr (.t 7) (.c (.cv (.sc (.int .i64 127)))))⟩])
  (.cond (.t 8) .skip (.exit 0)))

  (.seq (.block 1 (.reg [
  ⟨none, (some 11), (.mv (.t 3))⟩,
  ⟨none, (some 12), (.mv (.t 0))⟩,
  ⟨none, (some 13), (.cvI .u8 (.t 12))⟩,
  ⟨none, (some 14), (.bin .or (.t 13) (.c (.cv (.sc (.int .u8 128)))))⟩,
  ⟨none, (some 15), (.mksl 1 1 [(.cv (.sc (.int .u8 0)))] [(0, (1, (.t 14)))] false)⟩,
  ⟨none, (some 16), (.app 1 1 [(.sc (.int .u8 0))] (.t 11) (.t 15))⟩,
  ⟨none, (some 3), (.mv (.t 16))⟩]))
  (.reg [
  ⟨none, (some 9), (.mv (.t 0))⟩,
  ⟨none, (some 10), (.bin .shr (.t 9) (.c (.cv (.sc (.int .u64 7)))))⟩,
  ⟨none, (some 0), (.mv (.t 10))⟩])))
def f38 : FnIR := ⟨22, [(.t 2)],

  (.seq (.reg [
  ⟨none, (some 2), (.mv (.c (.cv (.sc (.slice none 0 0)))))⟩])

  (.seq (.reg [
  ⟨none, (some 3), (.mv (.c (.cv (.sc (.slice none 0 0)))))⟩])

  (.seq
  (.seq (.reg [
  ⟨none, (some 4), (.mv (.t 0))⟩,
  ⟨none, (some 5), (.mnmx true [(.t 4), (.c (.cv (.sc (.int .i64 9007199254740992))))])⟩,
  ⟨none, (some 6), (.mnmx false [(.c (.cv (.sc (.int .i64 0)))), (.t 5)])⟩,
  ⟨none, (some 0), (.mv (.t 6))⟩])
  (.block 0 (.loop f38_0)))

  (.seq (.reg [
  ⟨none, (some 17), (.mv (.t 3))⟩,
  ⟨none, (some 18), (.mv (.t 0))⟩,
  ⟨none, (some 19), (.cvI .u8 (.t 18))⟩,
  ⟨none, (some 20), (.mksl 1 1 [(.cv (.sc (.int .u8 0)))] [(0, (1, (.t 19)))] false)⟩,
  ⟨none, (some 21), (.app 1 1 [(.sc (.int .u8 0))] (.t 17) (.t 20))⟩,
  ⟨none, (some 2), (.mv (.t 21))⟩])
  .ret))))⟩
theorem f38_ok : compF Proofs.Try.prog [] [] Proofs.Try.f38 = some f38 := by kernel_rfl

def f39_0 : IR :=
  (.cond (.t 14) .skip (.exit 0))
def f39_1 : IR :=

  (.seq (.reg [
  ⟨none, (some 14), (.bin .lss (.t 13) (.t 12))⟩])

  (.seq f39_0

  (.seq (.block 1
  (.seq (.reg [
  ⟨none, (some 15), (.iadL 1 (.t 11) (.t 13))⟩,
  ⟨none, (some 16), (.ld false 1 (.t 15))⟩,
  ⟨none, (some 7), (.mv (.t 16))⟩])
  (.reg [
  ⟨none, (some 17), (.mv (.t 0))⟩,
  ⟨none, (some 18), (.bin .shr (.t 17) (.c (.cv (.sc (.int .u64 8)))))⟩,
  ⟨none, (some 19), (.mv (.t 0))⟩,
  ⟨none, (some 20), (.cvI .u8 (.t 19))⟩,
  ⟨none, (some 21), (.mv (.t 7))⟩,
  ⟨none, (some 22), (.bin .xor (.t 20) (.t 21))⟩,
  ⟨none, (some 23), (.iadA 256 1 (.t 5) (.t 22))⟩,
  ⟨none, (some 24), (.ld false 1 (.t 23))⟩,
  ⟨none, (some 25), (.bin .xor (.t 18) (.t 24))⟩,
  ⟨none, (some 0), (.mv (.t 25))⟩])))
  (.reg [
  ⟨none, (some 26), (.bin .add (.t 13) (.c (.cv (.sc (.int .i64 1)))))⟩,
  ⟨none, (some 13), (.mv (.t 26))⟩]))))
def f39 : FnIR := ⟨29, [(.t 4)],

  (.seq (.reg [
  ⟨none, (some 4), (.mv (.c (.cv (.sc (.int .u32 0)))))⟩])

  (.seq (.reg [
  ⟨none, (some 8), (.call 44 true [])⟩,
  ⟨none, (some 5), (.alloc (List.replicate 256 (.cv (.sc (.int .u32 0)))))⟩,
  ⟨none, none, (.st 256 (.t 5) (.t 8))⟩])

  (.seq (.reg [
  ⟨none, (some 9), (.mv (.t 0))⟩,
  ⟨none, (some 10), (.un .xor (.t 9))⟩,
  ⟨none, (some 0), (.mv (.t 10))⟩])

  (.seq
  (.seq (.reg [
  ⟨none, (some 11), (.mv (.t 1))⟩,
  ⟨none, (some 12), (.len false (.t 11))⟩,
  ⟨none, (some 13), (.mv (.c (.cv (.sc (.int .i64 0)))))⟩])
  (.block 0 (.loop f39_1)))

  (.seq (.reg [
  ⟨none, (some 27), (.mv (.t 0))⟩,
  ⟨none, (some 28), (.un .xor (.t 27))⟩,
  ⟨none, (some 4), (.mv (.t 28))⟩])
  .ret)))))⟩
theorem f39_ok : compF Proofs.Try.prog [] [] Proofs.Try.f39 = some f39 := by kernel_rfl

def f40_0 : IR :=

  (.seq
  (.seq (.reg [
  ⟨none, (some 18), (.mv (.t 8))⟩,
  ⟨none, (some 19), (.bin .lss (.t 18) (.c (.cv (.sc (.int .i64 8)))))⟩])
  (.cond (.t 19) .skip (.exit 0)))

  (.seq (.block 1
  (.seq
  (.seq (.reg [
  ⟨none, (some 22), (.mv (.t 1))⟩,
  ⟨none, (some 23), (.mv (.t 8))⟩,
  ⟨none, (some 24), (.bin .add (.t 22) (.t 23))⟩,
  ⟨none, (some 25), (.mv (.t 0))⟩,
  ⟨none, (some 26), (.len false (.t 25))⟩,
  ⟨none, (some 27), (.bin .eql (.t 24) (.t 26))⟩])
  (.cond (.t 27) (.goto 0) .skip))

  (.seq (.reg [
  ⟨none, (some 28), (.mv (.t 0))⟩,
  ⟨none, (some 29), (.mv (.t 1))⟩,
  ⟨none, (some 30), (.mv (.t 8))⟩,
  ⟨none, (some 31), (.bin .add (.t 29) (.t 30))⟩,
  ⟨none, (some 32), (.iadL 1 (.t 28) (.t 31))⟩,
  ⟨none, (some 33), (.ld false 1 (.t 32))⟩,
  ⟨none, (some 9), (.mv (.t 33))⟩])

  (.seq (.reg [
  ⟨none, (some 34), (.mv (.t 7))⟩,
  ⟨none, (some 35), (.mv (.t 9))⟩,
  ⟨none, (some 36), (.bin .and (.t 35) (.c (.cv (.sc (.int .u8 127)))))⟩,
  ⟨none, (some 37), (.cvI .i64 (.t 36))⟩,
  ⟨none, (some 38), (.mv (.t 8))⟩,
  ⟨none, (some 39), (.bin .mul (.c (.cv (.sc (.int .i64 7)))) (.t 38))⟩,
  ⟨none, (some 40), (.bin .shl (.t 37) (.t 39))⟩,
  ⟨none, (some 41), (.bin .or (.t 34) (.t 40))⟩,
  ⟨none, (some 7), (.mv (.t 41))⟩])

  (.seq (.reg [
  ⟨none, (some 42), (.mv (.t 9))⟩,
  ⟨none, (some 43), (.bin .and (.t 42) (.c (.cv (.sc (.int .u8 128)))))⟩,
  ⟨none, (some 44), (.bin .eql (.t 43) (.c (.cv (.sc (.int .u8 0)))))⟩])
  (.cond (.t 44)
  (.seq
  (.seq (.reg [
  ⟨none, (some 45), (.mv (.t 9))⟩,
  ⟨none, (some 46), (.bin .eql (.t 45) (.c (.cv (.sc (.int .u8 0)))))⟩,
  ⟨none, (some 47), (.mv (.t 46))⟩,
  ⟨(some (47, true)), (some 48), (.mv (.t 8))⟩,
  ⟨(some (47, true)), (some 49), (.bin .gtr (.t 48) (.c (.cv (.sc (.int .i64 0)))))⟩,
  ⟨none, (some 50), (.pick (.t 47) (.t 49) (.c (.cv (.sc (.bool false)))))⟩,
  ⟨none, (some 51), (.mv (.t 50))⟩,
  ⟨(some (51, false)), (some 52), (.mv (.t 7))⟩,
  ⟨(some (51, false)), (some 53), (.bin .gtr (.t 52) (.c (.cv (.sc (.int .i64 9007199254740992)))))⟩,
  ⟨none, (some 54), (.pick (.t 51) (.c (.cv (.sc (.bool true)))) (.t 53))⟩])
  (.cond (.t 54) (.goto 1) .skip))

  (.seq (.reg [
  ⟨none, (some 55), (.mv (.t 7))⟩,
  ⟨none, (some 56), (.mv (.t 1))⟩,
  ⟨none, (some 57), (.mv (.t 8))⟩,
  ⟨none, (some 58), (.bin .add (.t 56) (.t 57))⟩,
  ⟨none, (some 59), (.bin .add (.t 58) (.c (.cv (.sc (.int .i64 1)))))⟩,
  ⟨none, (some 4), (.mv (.t 55))⟩,
  ⟨none, (some 5), (.mv (.t 59))⟩,
  ⟨none, (some 6), (.mv (.c (.cv (.sc (.int .u16 0)))))⟩])
  .ret)) .skip))))))
  (.reg [
  ⟨none, (some 20), (.mv (.t 8))⟩,
  ⟨none, (some 21), (.bin .add (.t 20) (.c (.cv (.sc (.int .i64 1)))))⟩,
  ⟨none, (some 8), (.mv (.t 21))⟩])))
def f40_1 : IR :=

  (.seq (.reg [
  ⟨none, (some 7), (.mv (.c (.cv (.sc (.int .i64 0)))))⟩,
  ⟨none, (some 8), (.mv (.c (.cv (.sc (.int .i64 0)))))⟩])

  (.seq
  (.seq (.reg [
  ⟨none, (some 10), (.mv (.t 1))⟩,
  ⟨none, (some 11), (.bin .lss (.t 10) (.c (.cv (.sc (.int .i64 0)))))⟩,
  ⟨none, (some 12), (.mv (.t 11))⟩,
  ⟨(some (12, false)), (some 13), (.mv (.t 1))⟩,
  ⟨(some (12, false)), (some 14), (.mv (.t 0))⟩,
  ⟨(some (12, false)), (some 15), (.len false (.t 14))⟩,
  ⟨(some (12, false)), (some 16), (.bin .gtr (.t 13) (.t 15))⟩,
  ⟨none, (some 17), (.pick (.t 12) (.c (.cv (.sc (.bool true)))) (.t 16))⟩])
  (.cond (.t 17) (.goto 0) .skip))

  (.seq (.block 0 (.loop f40_0))

  (.seq (.label 1)

  (.seq
  (.seq (.reg [
  ⟨none, (some 4), (.mv (.c (.cv (.sc (.int .i64 0)))))⟩,
  ⟨none, (some 5), (.mv (.c (.cv (.sc (.int .i64 0)))))⟩,
  ⟨none, (some 6), (.mv (.c (.cv (.sc (.int .u16 11)))))⟩])
  .ret)

  (.seq (.label 0)

  (.seq (.reg [
  ⟨none, (some 4), (.mv (.c (.cv (.sc (.int .i64 0)))))⟩,
  ⟨none, (some 5), (.mv (.c (.cv (.sc (.int .i64 0)))))⟩,
  ⟨none, (some 6), (.mv (.c (.cv (.sc (.int .u16 10)))))⟩])
  .ret)))))))
def f40 : FnIR := ⟨60, [(.t 4), (.t 5), (.t 6)],

  (.seq (.reg [
  ⟨none, (some 4), (.mv (.c (.cv (.sc (.int .i64 0)))))⟩,
  ⟨none, (some 5), (.mv (.c (.cv (.sc (.int .i64 0)))))⟩,
  ⟨none, (some 6), (.mv (.c (.cv (.sc (.int .u16 0)))))⟩])
  (.scope f40_1))⟩
theorem f40_ok : compF Proofs.Try.prog [] [] Proofs.Try.f40 = some f40 := by kernel_rfl

def f41 : FnIR := ⟨13, [(.t 4)],

  (.seq (.reg [
  ⟨none, (some 4), (.mv (.c (.cv (.sc (.slice none 0 0)))))⟩])

  (.seq (.reg [
  ⟨none, (some 5), (.mv (.c (.cv (.sc (.slice none 0 0)))))⟩])

  (.seq (.reg [
  ⟨none, (some 6), (.mv (.t 5))⟩,
  ⟨none, (some 7), (.mv (.t 0))⟩,
  ⟨none, (some 8), (.app 1 1 [(.sc (.int .u8 0))] (.t 6) (.t 7))⟩,
  ⟨none, (some 5), (.mv (.t 8))⟩])

  (.seq (.reg [
  ⟨none, (some 9), (.mv (.t 5))⟩,
  ⟨none, (some 10), (.mv (.t 1))⟩,
  ⟨none, (some 11), (.app 1 1 [(.sc (.int .u8 0))] (.t 9) (.t 10))⟩,
  ⟨none, (some 5), (.mv (.t 11))⟩])

  (.seq (.reg [
  ⟨none, (some 12), (.mv (.t 5))⟩,
  ⟨none, (some 4), (.mv (.t 12))⟩])
  .ret)))))⟩
theorem f41_ok : compF Proofs.Try.prog [] [] Proofs.Try.f41 = some f41 := by kernel_rfl

def f42_0 : IR :=

  (.seq
  (.seq (.reg [
  ⟨none, (some 7), (.mv (.t 0))⟩,
  ⟨none, (some 8), (.bin .gtr (.t 7) (.c (.cv (.sc (.int .i64 127)))))⟩])
  (.cond (.t 8) .skip (.exit 0)))
  (.block 1
  (.seq (.reg [
  ⟨none, (some 9), (.mv (.t 3))⟩,
  ⟨none, (some 10), (.mv (.t 0))⟩,
  ⟨none, (some 11), (.bin .rem (.t 10) (.c (.cv (.sc (.int .i64 128)))))⟩,
  ⟨none, (some 12), (.bin .add (.c (.cv (.sc (.int .i64 128)))) (.t 11))⟩,
  ⟨none, (some 13), (.cvI .u8 (.t 12))⟩,
  ⟨none, (some 14), (.mksl 1 1 [(.cv (.sc (.int .u8 0)))] [(0, (1, (.t 13)))] false)⟩,
  ⟨none, (some 15), (.app 1 1 [(.sc (.int .u8 0))] (.t 9) (.t 14))⟩,
  ⟨none, (some 3), (.mv (.t 15))⟩])
  (.reg [
  ⟨none, (some 16), (.mv (.t 0))⟩,
  ⟨none, (some 17), (.bin .quo (.t 16) (.c (.cv (.sc (.int .i64 128)))))⟩,
  ⟨none, (some 0), (.mv (.t 17))⟩]))))
def f42 : FnIR := ⟨24, [(.t 2)],

  (.seq (.reg [
  ⟨none, (some 2), (.mv (.c (.cv (.sc (.slice none 0 0)))))⟩])

  (.seq (.reg [
  ⟨none, (some 4), (.mv (.t 0))⟩,
  ⟨none, (some 5), (.mnmx true [(.t 4), (.c (.cv (.sc (.int .i64 9007199254740992))))])⟩,
  ⟨none, (some 6), (.mnmx false [(.c (.cv (.sc (.int .i64 0)))), (.t 5)])⟩,
  ⟨none, (some 0), (.mv (.t 6))⟩])

  (.seq (.reg [
  ⟨none, (some 3), (.mv (.c (.cv (.sc (.slice none 0 0)))))⟩])

  (.seq (.block 0 (.loop f42_0))

  (.seq (.reg [
  ⟨none, (some 18), (.mv (.t 3))⟩,
  ⟨none, (some 19), (.mv (.t 0))⟩,
  ⟨none, (some 20), (.cvI .u8 (.t 19))⟩,
  ⟨none, (some 21), (.mksl 1 1 [(.cv (.sc (.int .u8 0)))] [(0, (1, (.t 20)))] false)⟩,
  ⟨none, (some 22), (.app 1 1 [(.sc (.int .u8 0))] (.t 18) (.t 21))⟩,
  ⟨none, (some 3), (.mv (.t 22))⟩])

  (.seq (.reg [
  ⟨none, (some 23), (.mv (.t 3))⟩,
  ⟨none, (some 2), (.mv (.t 23))⟩])
  .ret))))))⟩
theorem f42_ok : compF Proofs.Try.prog [] [] Proofs.Try.f42 = some f42 := by kernel_rfl

def f43_0 : IR :=

  (.seq (.reg [
  ⟨none, (some 19), (.mv (.t 11))⟩,
  ⟨none, (some 20), (.bin .eql (.t 19) (.c (.cv (.sc (.int .i64 0)))))⟩,
  ⟨none, (some 21), (.mv (.t 20))⟩,
  ⟨(some (21, true)), (some 22), (.mv (.t 9))⟩,
  ⟨(some (21, true)), (some 23), (.mv (.t 2))⟩,
  ⟨(some (21, true)), (some 24), (.bin .gtr (.t 22) (.t 23))⟩,
  ⟨none, (some 25), (.pick (.t 21) (.t 24) (.c (.cv (.sc (.bool false)))))⟩])
  (.cond (.t 25) (.reg [
  ⟨none, (some 11), (.mv (.c (.cv (.sc (.int .i64 3)))))⟩]) .skip))
def f43_1 : IR :=

  (.seq (.reg [
  ⟨none, (some 26), (.mv (.t 11))⟩,
  ⟨none, (some 27), (.bin .eql (.t 26) (.c (.cv (.sc (.int .i64 0)))))⟩,
  ⟨none, (some 28), (.mv (.t 27))⟩,
  ⟨(some (28, true)), (some 29), (.mv (.t 9))⟩,
  ⟨(some (28, true)), (some 30), (.mv (.t 0))⟩,
  ⟨(some (28, true)), (some 31), (.len false (.t 30))⟩,
  ⟨(some (28, true)), (some 32), (.mv (.t 10))⟩,
  ⟨(some (28, true)), (some 33), (.bin .sub (.t 31) (.t 32))⟩,
  ⟨(some (28, true)), (some 34), (.bin .gtr (.t 29) (.t 33))⟩,
  ⟨none, (some 35), (.pick (.t 28) (.t 34) (.c (.cv (.sc (.bool false)))))⟩])
  (.cond (.t 35) (.reg [
  ⟨none, (some 11), (.mv (.c (.cv (.sc (.int .i64 10)))))⟩]) .skip))
def f43_2 : IR :=

  (.seq (.reg [
  ⟨none, (some 36), (.mv (.t 11))⟩,
  ⟨none, (some 37), (.bin .neq (.t 36) (.c (.cv (.sc (.int .i64 0)))))⟩])
  (.cond (.t 37)
  (.seq (.reg [
  ⟨none, (some 38), (.mv (.t 11))⟩,
  ⟨none, (some 6), (.mv (.c (.cv (.sc (.string ⟨#[]⟩)))))⟩,
  ⟨none, (some 7), (.mv (.c (.cv (.sc (.int .i64 0)))))⟩,
  ⟨none, (some 8), (.mv (.t 38))⟩])
  .ret) .skip))
def f43 : FnIR := ⟨49, [(.t 6), (.t 7), (.t 8)],

  (.seq (.reg [
  ⟨none, (some 6), (.mv (.c (.cv (.sc (.string ⟨#[]⟩)))))⟩,
  ⟨none, (some 7), (.mv (.c (.cv (.sc (.int .i64 0)))))⟩,
  ⟨none, (some 8), (.mv (.c (.cv (.sc (.int .i64 0)))))⟩])

  (.seq (.reg [
  ⟨none, (some 13), (.mv (.t 0))⟩,
  ⟨none, (some 14), (.mv (.t 1))⟩,
  ⟨none, (some 15), (.call 45 true [(.t 13), (.t 14)])⟩,
  ⟨none, (some 12), (.mv (.t 15))⟩,
  ⟨none, (some 16), (.ext (.t 12) 0)⟩,
  ⟨none, (some 17), (.ext (.t 12) 1)⟩,
  ⟨none, (some 18), (.ext (.t 12) 2)⟩,
  ⟨none, (some 9), (.mv (.t 16))⟩,
  ⟨none, (some 10), (.mv (.t 17))⟩,
  ⟨none, (some 11), (.mv (.t 18))⟩])

  (.seq f43_0

  (.seq f43_1

  (.seq f43_2

  (.seq (.reg [
  ⟨none, (some 39), (.mv (.t 0))⟩,
  ⟨none, (some 40), (.mv (.t 10))⟩,
  ⟨none, (some 41), (.mv (.t 10))⟩,
  ⟨none, (some 42), (.mv (.t 9))⟩,
  ⟨none, (some 43), (.bin .add (.t 41) (.t 42))⟩,
  ⟨none, (some 44), (.slL 1 (.t 39) (some (.t 40)) (some (.t 43)) none)⟩,
  ⟨none, (some 45), (.cvBS (.t 44))⟩,
  ⟨none, (some 46), (.mv (.t 10))⟩,
  ⟨none, (some 47), (.mv (.t 9))⟩,
  ⟨none, (some 48), (.bin .add (.t 46) (.t 47))⟩,
  ⟨none, (some 6), (.mv (.t 45))⟩,
  ⟨none, (some 7), (.mv (.t 48))⟩,
  ⟨none, (some 8), (.mv (.c (.cv (.sc (.int .i64 0)))))⟩])
  .ret))))))⟩
theorem f43_ok : compF Proofs.Try.prog [] [] Proofs.Try.f43 = some f43 := by kernel_rfl

def f44_0 : IR :=
  (.cond (.t 5) .skip (.exit 0))
def f44_1 : IR :=
  (.cond (.t 10) .skip (.exit 2))
def f44_2 : IR :=

  (.seq (.reg [
  ⟨none, (some 10), (.bin .lss (.t 9) (.c (.cv (.sc (.int .i64 8)))))⟩])

  (.seq f44_1

  (.seq (.block 3 (.reg [
  ⟨none, (some 11), (.mv (.t 3))⟩,
  ⟨none, (some 12), (.bin .shr (.t 11) (.c (.cv (.sc (.int .u64 1)))))⟩,
  ⟨none, (some 13), (.mv (.t 3))⟩,
  ⟨none, (some 14), (.bin .and (.t 13) (.c (.cv (.sc (.int .u32 1)))))⟩,
  ⟨none, (some 15), (.bin .mul (.c (.cv (.sc (.int .u32 3988292384)))) (.t 14))⟩,
  ⟨none, (some 16), (.bin .xor (.t 12) (.t 15))⟩,
  ⟨none, (some 3), (.mv (.t 16))⟩]))
  (.reg [
  ⟨none, (some 17), (.bin .add (.t 9) (.c (.cv (.sc (.int .i64 1)))))⟩,
  ⟨none, (some 9), (.mv (.t 17))⟩]))))
def f44_3 : IR :=

  (.seq (.reg [
  ⟨none, (some 5), (.bin .lss (.t 4) (.c (.cv (.sc (.int .i64 256)))))⟩])

  (.seq f44_0

  (.seq (.block 1
  (.seq (.reg [
  ⟨none, (some 6), (.mv (.t 4))⟩,
  ⟨none, (some 2), (.mv (.t 6))⟩])

  (.seq (.reg [
  ⟨none, (some 7), (.mv (.t 2))⟩,
  ⟨none, (some 8), (.cvI .u32 (.t 7))⟩,
  ⟨none, (some 3), (.mv (.t 8))⟩])

  (.seq
  (.seq (.reg [
  ⟨none, (some 9), (.mv (.c (.cv (.sc (.int .i64 0)))))⟩])
  (.block 2 (.loop f44_2)))
  (.reg [
  ⟨none, (some 18), (.mv (.t 2))⟩,
  ⟨none, (some 19), (.mv (.t 3))⟩,
  ⟨none, (some 20), (.iadA 256 1 (.t 1) (.t 18))⟩,
  ⟨none, none, (.st 1 (.t 20) (.t 19))⟩])))))
  (.reg [
  ⟨none, (some 21), (.bin .add (.t 4) (.c (.cv (.sc (.int .i64 1)))))⟩,
  ⟨none, (some 4), (.mv (.t 21))⟩]))))
def f44 : FnIR := ⟨23, [(.cell 0 true 256)],

  (.seq (.reg [
  ⟨none, (some 0), (.alloc (List.replicate 256 (.cv (.sc (.int .u32 0)))))⟩])

  (.seq (.reg [
  ⟨none, (some 1), (.alloc (List.replicate 256 (.cv (.sc (.int .u32 0)))))⟩])

  (.seq
  (.seq (.reg [
  ⟨none, (some 4), (.mv (.c (.cv (.sc (.int .i64 0)))))⟩])
  (.block 0 (.loop f44_3)))

  (.seq (.reg [
  ⟨none, (some 22), (.ld true 256 (.t 1))⟩,
  ⟨none, none, (.st 256 (.t 0) (.t 22))⟩])
  .ret))))⟩
theorem f44_ok : compF Proofs.Try.prog [] [] Proofs.Try.f44 = some f44 := by kernel_rfl

def f45_0 : IR :=

  (.seq (.reg [
  ⟨none, (some 11), (.mv (.t 1))⟩,
  ⟨none, (some 12), (.bin .lss (.t 11) (.c (.cv (.sc (.int .i64 0)))))⟩,
  ⟨none, (some 13), (.mv (.t 12))⟩,
  ⟨(some (13, false)), (some 14), (.mv (.t 1))⟩,
  ⟨(some (13, false)), (some 15), (.mv (.t 0))⟩,
  ⟨(some (13, false)), (some 16), (.len false (.t 15))⟩,
  ⟨(some (13, false)), (some 17), (.bin .gtr (.t 14) (.t 16))⟩,
  ⟨none, (some 18), (.pick (.t 13) (.c (.cv (.sc (.bool true)))) (.t 17))⟩])
  (.cond (.t 18)
  (.seq (.reg [
  ⟨none, (some 4), (.mv (.c (.cv (.sc (.int .i64 0)))))⟩,
  ⟨none, (some 5), (.mv (.c (.cv (.sc (.int .i64 0)))))⟩,
  ⟨none, (some 6), (.mv (.c (.cv (.sc (.int .i64 10)))))⟩])
  .ret) .skip))
def f45_1 : IR :=

  (.seq (.reg [
  ⟨none, (some 23), (.mv (.t 1))⟩,
  ⟨none, (some 24), (.mv (.t 9))⟩,
  ⟨none, (some 25), (.bin .add (.t 23) (.t 24))⟩,
  ⟨none, (some 26), (.mv (.t 0))⟩,
  ⟨none, (some 27), (.len false (.t 26))⟩,
  ⟨none, (some 28), (.bin .eql (.t 25) (.t 27))⟩])
  (.cond (.t 28)
  (.seq (.reg [
  ⟨none, (some 4), (.mv (.c (.cv (.sc (.int .i64 0)))))⟩,
  ⟨none, (some 5), (.mv (.c (.cv (.sc (.int .i64 0)))))⟩,
  ⟨none, (some 6), (.mv (.c (.cv (.sc (.int .i64 10)))))⟩])
  .ret) .skip))
def f45_2 : IR :=

  (.seq (.reg [
  ⟨none, (some 46), (.mv (.t 10))⟩,
  ⟨none, (some 47), (.bin .eql (.t 46) (.c (.cv (.sc (.int .i64 0)))))⟩,
  ⟨none, (some 48), (.mv (.t 47))⟩,
  ⟨(some (48, true)), (some 49), (.mv (.t 9))⟩,
  ⟨(some (48, true)), (some 50), (.bin .gtr (.t 49) (.c (.cv (.sc (.int .i64 0)))))⟩,
  ⟨none, (some 51), (.pick (.t 48) (.t 50) (.c (.cv (.sc (.bool false)))))⟩,
  ⟨none, (some 52), (.mv (.t 51))⟩,
  ⟨(some (52, false)), (some 53), (.mv (.t 7))⟩,
  ⟨(some (52, false)), (some 54), (.bin .gtr (.t 53) (.c (.cv (.sc (.int .i64 9007199254740992)))))⟩,
  ⟨none, (some 55), (.pick (.t 52) (.c (.cv (.sc (.bool true)))) (.t 54))⟩])
  (.cond (.t 55)
  (.seq (.reg [
  ⟨none, (some 4), (.mv (.c (.cv (.sc (.int .i64 0)))))⟩,
  ⟨none, (some 5), (.mv (.c (.cv (.sc (.int .i64 0)))))⟩,
  ⟨none, (some 6), (.mv (.c (.cv (.sc (.int .i64 11)))))⟩])
  .ret) .skip))
def f45_3 : IR :=

  (.seq
  (.seq (.reg [
  ⟨none, (some 19), (.mv (.t 9))⟩,
  ⟨none, (some 20), (.bin .lss (.t 19) (.c (.cv (.sc (.int .i64 8)))))⟩])
  (.cond (.t 20) .skip (.exit 0)))

  (.seq (.block 1
  (.seq f45_1

  (.seq (.reg [
  ⟨none, (some 29), (.mv (.t 0))⟩,
  ⟨none, (some 30), (.mv (.t 1))⟩,
  ⟨none, (some 31), (.mv (.t 9))⟩,
  ⟨none, (some 32), (.bin .add (.t 30) (.t 31))⟩,
  ⟨none, (some 33), (.iadL 1 (.t 29) (.t 32))⟩,
  ⟨none, (some 34), (.ld false 1 (.t 33))⟩,
  ⟨none, (some 35), (.cvI .i64 (.t 34))⟩,
  ⟨none, (some 10), (.mv (.t 35))⟩])

  (.seq (.reg [
  ⟨none, (some 36), (.mv (.t 7))⟩,
  ⟨none, (some 37), (.mv (.t 10))⟩,
  ⟨none, (some 38), (.bin .rem (.t 37) (.c (.cv (.sc (.int .i64 128)))))⟩,
  ⟨none, (some 39), (.mv (.t 8))⟩,
  ⟨none, (some 40), (.bin .mul (.t 38) (.t 39))⟩,
  ⟨none, (some 41), (.bin .add (.t 36) (.t 40))⟩,
  ⟨none, (some 7), (.mv (.t 41))⟩])

  (.seq (.reg [
  ⟨none, (some 42), (.mv (.t 8))⟩,
  ⟨none, (some 43), (.bin .mul (.t 42) (.c (.cv (.sc (.int .i64 128)))))⟩,
  ⟨none, (some 8), (.mv (.t 43))⟩])

  (.seq (.reg [
  ⟨none, (some 44), (.mv (.t 10))⟩,
  ⟨none, (some 45), (.bin .lss (.t 44) (.c (.cv (.sc (.int .i64 128)))))⟩])
  (.cond (.t 45)
  (.seq f45_2

  (.seq (.reg [
  ⟨none, (some 56), (.mv (.t 7))⟩,
  ⟨none, (some 57), (.mv (.t 1))⟩,
  ⟨none, (some 58), (.mv (.t 9))⟩,
  ⟨none, (some 59), (.bin .add (.t 57) (.t 58))⟩,
  ⟨none, (some 60), (.bin .add (.t 59) (.c (.cv (.sc (.int .i64 1)))))⟩,
  ⟨none, (some 4), (.mv (.t 56))⟩,
  ⟨none, (some 5), (.mv (.t 60))⟩,
  ⟨none, (some 6), (.mv (.c (.cv (.sc (.int .i64 0)))))⟩])
  .ret)) .skip)))))))
  (.reg [
  ⟨none, (some 21), (.mv (.t 9))⟩,
  ⟨none, (some 22), (.bin .add (.t 21) (.c (.cv (.sc (.int .i64 1)))))⟩,
  ⟨none, (some 9), (.mv (.t 22))⟩])))
def f45 : FnIR := ⟨61, [(.t 4), (.t 5), (.t 6)],

  (.seq (.reg [
  ⟨none, (some 4), (.mv (.c (.cv (.sc (.int .i64 0)))))⟩,
  ⟨none, (some 5), (.mv (.c (.cv (.sc (.int .i64 0)))))⟩,
  ⟨none, (some 6), (.mv (.c (.cv (.sc (.int .i64 0)))))⟩])

  (.seq f45_0

  (.seq (.reg [
  ⟨none, (some 7), (.mv (.c (.cv (.sc (.int .i64 0)))))⟩])

  (.seq (.reg [
  ⟨none, (some 8), (.mv (.c (.cv (.sc (.int .i64 1)))))⟩])

  (.seq
  (.seq (.reg [
  ⟨none, (some 9), (.mv (.c (.cv (.sc (.int .i64 0)))))⟩])
  (.block 0 (.loop f45_3)))

  (.seq (.reg [
  ⟨none, (some 4), (.mv (.c (.cv (.sc (.int .i64 0)))))⟩,
  ⟨none, (some 5), (.mv (.c (.cv (.sc (.int .i64 0)))))⟩,
  ⟨none, (some 6), (.mv (.c (.cv (.sc (.int .i64 11)))))⟩])
  .ret))))))⟩
theorem f45_ok : compF Proofs.Try.prog [] [] Proofs.Try.f45 = some f45 := by kernel_rfl


def F : Nat → Option FnIR := fun n => match n with
  | 3 => some f3
  | 4 => some f4
  | 5 => some f5
  | 6 => some f6
  | 7 => some f7
  | 8 => some f8
  | 9 => some f9
  | 10 => some f10
  | 11 => some f11
  | 12 => some f12
  | 13 => some f13
  | 14 => some f14
  | 15 => some f15
  | 16 => some f16
  | 17 => some f17
  | 18 => some f18
  | 19 => some f19
  | 20 => some f20
  | 21 => some f21
  | 22 => some f22
  | 23 => some f23
  | 24 => some f24
  | 25 => some f25
  | 26 => some f26
  | 27 => some f27
  | 28 => some f28
  | 29 => some f29
  | 30 => some f30
  | 31 => some f31
  | 32 => some f32
  | 33 => some f33
  | 34 => some f34
  | 35 => some f35
  | 36 => some f36
  | 37 => some f37
  | 38 => some f38
  | 39 => some f39
  | 40 => some f40
  | 41 => some f41
  | 42 => some f42
  | 43 => some f43
  | 44 => some f44
  | 45 => some f45
  | _ => none

theorem tbl : TblOK Proofs.Try.prog F := by
  refine ⟨by kernel_rfl, fun f fn h => ?_⟩
  unfold F at h
  split at h
  · cases h; exact ⟨by decide, _, _, _, Proofs.Try.func3, by kernel_rfl, f3_ok⟩
  · cases h; exact ⟨by decide, _, _, _, Proofs.Try.func4, by kernel_rfl, f4_ok⟩
  · cases h; exact ⟨by decide, _, _, _, Proofs.Try.func5, by kernel_rfl, f5_ok⟩
  · cases h; exact ⟨by decide, _, _, _, Proofs.Try.func6, by kernel_rfl, f6_ok⟩
  · cases h; exact ⟨by decide, _, _, _, Proofs.Try.func7, by kernel_rfl, f7_ok⟩
  · cases h; exact ⟨by decide, _, _, _, Proofs.Try.func8, by kernel_rfl, f8_ok⟩
  · cases h; exact ⟨by decide, _, _, _, Proofs.Try.func9, by kernel_rfl, f9_ok⟩
  · cases h; exact ⟨by decide, _, _, _, Proofs.Try.func10, by kernel_rfl, f10_ok⟩
  · cases h; exact ⟨by decide, _, _, _, Proofs.Try.func11, by kernel_rfl, f11_ok⟩
  · cases h; exact ⟨by decide, _, _, _, Proofs.Try.func12, by kernel_rfl, f12_ok⟩
  · cases h; exact ⟨by decide, _, _, _, Proofs.Try.func13, by kernel_rfl, f13_ok⟩
  · cases h; exact ⟨by decide, _, _, _, Proofs.Try.func14, by kernel_rfl, f14_ok⟩
  · cases h; exact ⟨by decide, _, _, _, Proofs.Try.func15, by kernel_rfl, f15_ok⟩
  · cases h; exact ⟨by decide, _, _, _, Proofs.Try.func16, by kernel_rfl, f16_ok⟩
  · cases h; exact ⟨by decide, _, _, _, Proofs.Try.func17, by kernel_rfl, f17_ok⟩
  · cases h; exact ⟨by decide, _, _, _, Proofs.Try.func18, by kernel_rfl, f18_ok⟩
  · cases h; exact ⟨by decide, _, _, _, Proofs.Try.func19, by kernel_rfl, f19_ok⟩
  · cases h; exact ⟨by decide, _, _, _, Proofs.Try.func20, by kernel_rfl, f20_ok⟩
  · cases h; exact ⟨by decide, _, _, _, Proofs.Try.func21, by kernel_rfl, f21_ok⟩
  · cases h; exact ⟨by decide, _, _, _, Proofs.Try.func22, by kernel_rfl, f22_ok⟩
  · cases h; exact ⟨by decide, _, _, _, Proofs.Try.func23, by kernel_rfl, f23_ok⟩
  · cases h; exact ⟨by decide, _, _, _, Proofs.Try.func24, by kernel_rfl, f24_ok⟩
  · cases h; exact ⟨by decide, _, _, _, Proofs.Try.func25, by kernel_rfl, f25_ok⟩
  · cases h; exact ⟨by decide, _, _, _, Proofs.Try.func26, by kernel_rfl, f26_ok⟩
  · cases h; exact ⟨by decide, _, _, _, Proofs.Try.func27, by kernel_rfl, f27_ok⟩
  · cases h; exact ⟨by decide, _, _, _, Proofs.Try.func28, by kernel_rfl, f28_ok⟩
  · cases h; exact ⟨by decide, _, _, _, Proofs.Try.func29, by kernel_rfl, f29_ok⟩
  · cases h; exact ⟨by decide, _, _, _, Proofs.Try.func30, by kernel_rfl, f30_ok⟩
  · cases h; exact ⟨by decide, _, _, _, Proofs.Try.func31, by kernel_rfl, f31_ok⟩
  · cases h; exact ⟨by decide, _, _, _, Proofs.Try.func32, by kernel_rfl, f32_ok⟩
  · cases h; exact ⟨by decide, _, _, _, Proofs.Try.func33, by kernel_rfl, f33_ok⟩
  · cases h; exact ⟨by decide, _, _, _, Proofs.Try.func34, by kernel_rfl, f34_ok⟩
  · cases h; exact ⟨by decide, _, _, _, Proofs.Try.func35, by kernel_rfl, f35_ok⟩
  · cases h; exact ⟨by decide, _, _, _, Proofs.Try.func36, by kernel_rfl, f36_ok⟩
  · cases h; exact ⟨by decide, _, _, _, Proofs.Try.func37, by kernel_rfl, f37_ok⟩
  · cases h; exact ⟨by decide, _, _, _, Proofs.Try.func38, by kernel_rfl, f38_ok⟩
  · cases h; exact ⟨by decide, _, _, _, Proofs.Try.func39, by kernel_rfl, f39_ok⟩
  · cases h; exact ⟨by decide, _, _, _, Proofs.Try.func40, by kernel_rfl, f40_ok⟩
  · cases h; exact ⟨by decide, _, _, _, Proofs.Try.func41, by kernel_rfl, f41_ok⟩
  · cases h; exact ⟨by decide, _, _, _, Proofs.Try.func42, by kernel_rfl, f42_ok⟩
  · cases h; exact ⟨by decide, _, _, _, Proofs.Try.func43, by kernel_rfl, f43_ok⟩
  · cases h; exact ⟨by decide, _, _, _, Proofs.Try.func44, by kernel_rfl, f44_ok⟩
  · cases h; exact ⟨by decide, _, _, _, Proofs.Try.func45, by kernel_rfl, f45_ok⟩
  · cases h

end Go.V05
