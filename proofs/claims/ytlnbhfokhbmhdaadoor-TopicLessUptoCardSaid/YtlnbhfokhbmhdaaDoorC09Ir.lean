/-
  Chapter 09: the program's functions, as the small code (printed by a program of ours, checked by the kernel).
-/
import Derived.Test.YtlnbhfokhbmhdaaDoorVmAll2
import Derived.Test.YtlnbhfokhbmhdaaDoorProg
import Derived.Test.YtlnbhfokhbmhdaaDoorC09fn
namespace Go.V09
open Go Go.Vm

def f3_0 : IR :=

  (.seq (.reg [
  ⟨none, (some 11), (.mv (.t 0))⟩,
  ⟨none, (some 12), (.len true (.t 11))⟩,
  ⟨none, (some 13), (.mv (.t 1))⟩,
  ⟨none, (some 14), (.len true (.t 13))⟩,
  ⟨none, (some 15), (.bin .add (.t 12) (.t 14))⟩,
  ⟨none, (some 16), (.bin .gtr (.t 15) (.c (.cv (.sc (.int .i64 300)))))⟩,
  ⟨none, (some 17), (.mv (.t 16))⟩,
  ⟨(some (17, false)), (some 18), (.call 9 true [])⟩,
  ⟨(some (17, false)), (some 19), (.un .not (.t 18))⟩,
  ⟨none, (some 20), (.pick (.t 17) (.c (.cv (.sc (.bool true)))) (.t 19))⟩])
  (.cond (.t 20)
  (.seq (.reg [
  ⟨none, (some 21), (.call 9 true [])⟩,
  ⟨none, (some 8), (.mv (.t 21))⟩])
  .ret) .skip))
def f3 : FnIR := ⟨54, [(.t 8)],

  (.seq (.reg [
  ⟨none, (some 8), (.mv (.c (.cv (.sc (.bool false)))))⟩])

  (.seq f3_0

  (.seq (.reg [
  ⟨none, (some 22), (.mv (.t 2))⟩,
  ⟨none, (some 23), (.call 10 true [(.t 22), (.c (.cv (.sc (.bool true))))])⟩,
  ⟨none, (some 9), (.mv (.t 23))⟩])

  (.seq (.reg [
  ⟨none, (some 24), (.mv (.t 3))⟩,
  ⟨none, (some 25), (.call 10 true [(.t 24), (.c (.cv (.sc (.bool false))))])⟩,
  ⟨none, (some 10), (.mv (.t 25))⟩])

  (.seq (.reg [
  ⟨none, (some 26), (.mv (.t 0))⟩,
  ⟨none, (some 27), (.mv (.t 1))⟩,
  ⟨none, (some 28), (.call 11 true [(.t 26), (.t 27)])⟩,
  ⟨none, (some 29), (.mv (.t 28))⟩,
  ⟨(some (29, true)), (some 30), (.mv (.t 9))⟩,
  ⟨(some (29, true)), (some 31), (.mv (.t 10))⟩,
  ⟨(some (29, true)), (some 32), (.call 11 true [(.t 30), (.t 31)])⟩,
  ⟨none, (some 33), (.pick (.t 29) (.t 32) (.c (.cv (.sc (.bool false)))))⟩,
  ⟨none, (some 34), (.mv (.t 33))⟩,
  ⟨(some (34, true)), (some 35), (.mv (.t 9))⟩,
  ⟨(some (34, true)), (some 36), (.mv (.t 1))⟩,
  ⟨(some (34, true)), (some 37), (.call 11 true [(.t 35), (.t 36)])⟩,
  ⟨none, (some 38), (.pick (.t 34) (.t 37) (.c (.cv (.sc (.bool false)))))⟩,
  ⟨none, (some 39), (.mv (.t 38))⟩,
  ⟨(some (39, true)), (some 40), (.mv (.t 0))⟩,
  ⟨(some (39, true)), (some 41), (.mv (.t 10))⟩,
  ⟨(some (39, true)), (some 42), (.call 11 true [(.t 40), (.t 41)])⟩,
  ⟨none, (some 43), (.pick (.t 39) (.t 42) (.c (.cv (.sc (.bool false)))))⟩,
  ⟨none, (some 44), (.mv (.t 43))⟩,
  ⟨(some (44, true)), (some 45), (.mv (.t 2))⟩,
  ⟨(some (44, true)), (some 46), (.call 10 true [(.t 45), (.c (.cv (.sc (.bool false))))])⟩,
  ⟨(some (44, true)), (some 47), (.mv (.t 10))⟩,
  ⟨(some (44, true)), (some 48), (.call 11 true [(.t 46), (.t 47)])⟩,
  ⟨none, (some 49), (.pick (.t 44) (.t 48) (.c (.cv (.sc (.bool false)))))⟩,
  ⟨none, (some 50), (.mv (.t 49))⟩,
  ⟨(some (50, true)), (some 51), (.mv (.t 10))⟩,
  ⟨(some (50, true)), (some 52), (.call 11 true [(.c (.cv (.sc (.string ⟨#[35]⟩)))), (.t 51)])⟩,
  ⟨none, (some 53), (.pick (.t 50) (.t 52) (.c (.cv (.sc (.bool false)))))⟩,
  ⟨none, (some 8), (.mv (.t 53))⟩])
  .ret)))))⟩
theorem f3_ok : compF Proofs.Tryd.prog [] [] Proofs.Tryd.f3 = some f3 := by kernel_rfl

def f7_0 : IR :=

  (.seq (.reg [
  ⟨none, (some 9), (.mv (.t 5))⟩,
  ⟨none, (some 10), (.call 15 true [(.t 9)])⟩,
  ⟨none, (some 11), (.un .not (.t 10))⟩])
  (.cond (.t 11)
  (.seq (.reg [
  ⟨none, (some 12), (.call 9 true [])⟩,
  ⟨none, (some 13), (.mv (.t 12))⟩,
  ⟨(some (13, true)), (some 14), (.mv (.t 5))⟩,
  ⟨(some (13, true)), (some 15), (.mv (.t 5))⟩,
  ⟨(some (13, true)), (some 16), (.call 18 true [(.t 14), (.t 15)])⟩,
  ⟨(some (13, true)), (some 17), (.un .not (.t 16))⟩,
  ⟨none, (some 18), (.pick (.t 13) (.t 17) (.c (.cv (.sc (.bool false)))))⟩,
  ⟨none, (some 19), (.mv (.t 18))⟩,
  ⟨(some (19, true)), (some 20), (.mv (.t 5))⟩,
  ⟨(some (19, true)), (some 21), (.call 18 true [(.c (.cv (.sc (.string ⟨#[]⟩)))), (.t 20)])⟩,
  ⟨(some (19, true)), (some 22), (.un .not (.t 21))⟩,
  ⟨none, (some 23), (.pick (.t 19) (.t 22) (.c (.cv (.sc (.bool false)))))⟩,
  ⟨none, (some 4), (.mv (.t 23))⟩])
  .ret) .skip))
def f7 : FnIR := ⟨58, [(.t 4)],

  (.seq (.reg [
  ⟨none, (some 4), (.mv (.c (.cv (.sc (.bool false)))))⟩])

  (.seq (.reg [
  ⟨none, (some 7), (.mv (.t 0))⟩,
  ⟨none, (some 8), (.call 17 true [(.t 7)])⟩,
  ⟨none, (some 5), (.mv (.t 8))⟩])

  (.seq f7_0

  (.seq (.reg [
  ⟨none, (some 24), (.mv (.t 0))⟩,
  ⟨none, (some 25), (.mv (.t 0))⟩,
  ⟨none, (some 26), (.len false (.t 25))⟩,
  ⟨none, (some 27), (.bin .sub (.t 26) (.c (.cv (.sc (.int .i64 1)))))⟩,
  ⟨none, (some 28), (.mnmx false [(.t 27), (.c (.cv (.sc (.int .i64 0))))])⟩,
  ⟨none, (some 29), (.slL 1 (.t 24) none (some (.t 28)) none)⟩,
  ⟨none, (some 30), (.call 17 true [(.t 29)])⟩,
  ⟨none, (some 6), (.mv (.t 30))⟩])

  (.seq (.reg [
  ⟨none, (some 31), (.call 9 true [])⟩,
  ⟨none, (some 32), (.mv (.t 31))⟩,
  ⟨(some (32, true)), (some 33), (.mv (.t 5))⟩,
  ⟨(some (32, true)), (some 34), (.mv (.t 5))⟩,
  ⟨(some (32, true)), (some 35), (.call 18 true [(.t 33), (.t 34)])⟩,
  ⟨none, (some 36), (.pick (.t 32) (.t 35) (.c (.cv (.sc (.bool false)))))⟩,
  ⟨none, (some 37), (.mv (.t 36))⟩,
  ⟨(some (37, true)), (some 38), (.mv (.t 5))⟩,
  ⟨(some (37, true)), (some 39), (.call 18 true [(.c (.cv (.sc (.string ⟨#[]⟩)))), (.t 38)])⟩,
  ⟨none, (some 40), (.pick (.t 37) (.t 39) (.c (.cv (.sc (.bool false)))))⟩,
  ⟨none, (some 41), (.mv (.t 40))⟩,
  ⟨(some (41, true)), (some 42), (.mv (.t 0))⟩,
  ⟨(some (41, true)), (some 43), (.len false (.t 42))⟩,
  ⟨(some (41, true)), (some 44), (.bin .gtr (.t 43) (.c (.cv (.sc (.int .i64 5)))))⟩,
  ⟨(some (41, true)), (some 45), (.mv (.t 44))⟩,
  ⟨(some (45, false)), (some 46), (.mv (.t 6))⟩,
  ⟨(some (45, false)), (some 47), (.mv (.t 5))⟩,
  ⟨(some (45, false)), (some 48), (.call 18 true [(.t 46), (.t 47)])⟩,
  ⟨(some (41, true)), (some 49), (.pick (.t 45) (.c (.cv (.sc (.bool true)))) (.t 48))⟩,
  ⟨none, (some 50), (.pick (.t 41) (.t 49) (.c (.cv (.sc (.bool false)))))⟩,
  ⟨none, (some 51), (.mv (.t 50))⟩,
  ⟨(some (51, true)), (some 52), (.mv (.t 1))⟩,
  ⟨(some (51, true)), (some 53), (.call 18 true [(.c (.cv (.sc (.string ⟨#[]⟩)))), (.t 52)])⟩,
  ⟨(some (51, true)), (some 54), (.mv (.t 1))⟩,
  ⟨(some (51, true)), (some 55), (.call 15 true [(.t 54)])⟩,
  ⟨(some (51, true)), (some 56), (.eqb false (.t 53) (.t 55))⟩,
  ⟨none, (some 57), (.pick (.t 51) (.t 56) (.c (.cv (.sc (.bool false)))))⟩,
  ⟨none, (some 4), (.mv (.t 57))⟩])
  .ret)))))⟩
theorem f7_ok : compF Proofs.Tryd.prog [] [] Proofs.Tryd.f7 = some f7 := by kernel_rfl

def f9 : FnIR := ⟨20, [(.t 0)],

  (.seq (.reg [
  ⟨none, (some 0), (.mv (.c (.cv (.sc (.bool false)))))⟩])

  (.seq (.reg [
  ⟨none, (some 1), (.call 13 true [(.c (.cv (.sc (.string ⟨#[97, 47, 43]⟩)))), (.c (.cv (.sc (.string ⟨#[97, 47, 98]⟩))))])⟩,
  ⟨none, (some 2), (.mv (.t 1))⟩,
  ⟨(some (2, true)), (some 3), (.call 13 true [(.c (.cv (.sc (.string ⟨#[97, 47, 35]⟩)))), (.c (.cv (.sc (.string ⟨#[97]⟩))))])⟩,
  ⟨(some (2, true)), (some 4), (.un .not (.t 3))⟩,
  ⟨none, (some 5), (.pick (.t 2) (.t 4) (.c (.cv (.sc (.bool false)))))⟩,
  ⟨none, (some 6), (.mv (.t 5))⟩,
  ⟨(some (6, true)), (some 7), (.call 18 true [(.c (.cv (.sc (.string ⟨#[]⟩)))), (.c (.cv (.sc (.string ⟨#[97, 61, 49]⟩))))])⟩,
  ⟨none, (some 8), (.pick (.t 6) (.t 7) (.c (.cv (.sc (.bool false)))))⟩,
  ⟨none, (some 9), (.mv (.t 8))⟩,
  ⟨(some (9, true)), (some 10), (.call 18 true [(.c (.cv (.sc (.string ⟨#[97, 61, 49]⟩)))), (.c (.cv (.sc (.string ⟨#[]⟩))))])⟩,
  ⟨(some (9, true)), (some 11), (.un .not (.t 10))⟩,
  ⟨none, (some 12), (.pick (.t 9) (.t 11) (.c (.cv (.sc (.bool false)))))⟩,
  ⟨none, (some 13), (.mv (.t 12))⟩,
  ⟨(some (13, true)), (some 14), (.call 12 true [(.c (.cv (.sc (.string ⟨#[]⟩))))])⟩,
  ⟨(some (13, true)), (some 15), (.un .not (.t 14))⟩,
  ⟨none, (some 16), (.pick (.t 13) (.t 15) (.c (.cv (.sc (.bool false)))))⟩,
  ⟨none, (some 17), (.mv (.t 16))⟩,
  ⟨(some (17, true)), (some 18), (.call 14 true [(.c (.cv (.sc (.string ⟨#[35]⟩))))])⟩,
  ⟨none, (some 19), (.pick (.t 17) (.t 18) (.c (.cv (.sc (.bool false)))))⟩,
  ⟨none, (some 0), (.mv (.t 19))⟩])
  .ret))⟩
theorem f9_ok : compF Proofs.Tryd.prog [] [] Proofs.Tryd.f9 = some f9 := by kernel_rfl

def f12_0 : IR :=
  (.reg [
  ⟨none, (some 3), (.mv (.t 6))⟩])
def f12_1 : IR :=
  (.block 1
  (.seq (.reg [
  ⟨none, (some 7), (.mv (.t 3))⟩,
  ⟨none, (some 8), (.call 23 true [(.t 7)])⟩,
  ⟨none, (some 9), (.un .not (.t 8))⟩])
  (.cond (.t 9)
  (.seq (.reg [
  ⟨none, none, (.st 1 (.t 2) (.c (.cv (.sc (.bool false)))))⟩])
  .ret) .skip)))
def f12 : FnIR := ⟨13, [(.cell 2 false 1)],

  (.seq (.reg [
  ⟨none, (some 2), (.alloc [(.cv (.sc (.bool false)))])⟩])

  (.seq
  (.seq (.reg [
  ⟨none, (some 4), (.mv (.t 0))⟩,
  ⟨none, (some 5), (.call 22 false [(.t 4), (.c (.cv (.sc (.string ⟨#[47]⟩))))])⟩])
  (.block 0 (.rangeF (.t 5) [6] f12_0 f12_1)))

  (.seq (.reg [
  ⟨none, (some 10), (.mv (.t 0))⟩,
  ⟨none, (some 11), (.len true (.t 10))⟩,
  ⟨none, (some 12), (.bin .leq (.t 11) (.c (.cv (.sc (.int .i64 30)))))⟩,
  ⟨none, none, (.st 1 (.t 2) (.t 12))⟩])
  .ret)))⟩
theorem f12_ok : compF Proofs.Tryd.prog [22] [] Proofs.Tryd.f12 = some f12 := by kernel_rfl

def f13_0 : IR :=

  (.seq (.reg [
  ⟨none, (some 7), (.mv (.t 0))⟩,
  ⟨none, (some 8), (.call 14 true [(.t 7)])⟩,
  ⟨none, (some 9), (.un .not (.t 8))⟩,
  ⟨none, (some 10), (.mv (.t 9))⟩,
  ⟨(some (10, false)), (some 11), (.mv (.t 1))⟩,
  ⟨(some (10, false)), (some 12), (.call 12 true [(.t 11)])⟩,
  ⟨(some (10, false)), (some 13), (.un .not (.t 12))⟩,
  ⟨none, (some 14), (.pick (.t 10) (.c (.cv (.sc (.bool true)))) (.t 13))⟩])
  (.cond (.t 14)
  (.seq (.reg [
  ⟨none, none, (.st 1 (.t 4) (.c (.cv (.sc (.bool false)))))⟩])
  .ret) .skip))
def f13_1 : IR :=
  (.reg [
  ⟨none, (some 6), (.mv (.t 19))⟩])
def f13_2 : IR :=
  (.block 1
  (.seq (.block 2
  (.seq (.reg [
  ⟨none, (some 21), (.ld false 1 (.t 5))⟩,
  ⟨none, (some 22), (.len false (.t 21))⟩,
  ⟨none, (some 23), (.bin .eql (.t 22) (.c (.cv (.sc (.int .i64 0)))))⟩,
  ⟨none, (some 20), (.mv (.t 23))⟩])
  (.cond (.t 20)
  (.seq (.reg [
  ⟨none, none, (.st 1 (.t 4) (.c (.cv (.sc (.bool false)))))⟩])
  .ret)
  (.seq (.reg [
  ⟨none, (some 25), (.mv (.t 6))⟩,
  ⟨none, (some 26), (.bin .eql (.t 25) (.c (.cv (.sc (.string ⟨#[35]⟩)))))⟩,
  ⟨none, (some 24), (.mv (.t 26))⟩])
  (.cond (.t 24)
  (.seq (.reg [
  ⟨none, none, (.st 1 (.t 4) (.c (.cv (.sc (.bool true)))))⟩])
  .ret)
  (.seq (.reg [
  ⟨none, (some 28), (.mv (.t 6))⟩,
  ⟨none, (some 29), (.bin .neq (.t 28) (.c (.cv (.sc (.string ⟨#[43]⟩)))))⟩,
  ⟨none, (some 30), (.mv (.t 29))⟩,
  ⟨(some (30, true)), (some 31), (.mv (.t 6))⟩,
  ⟨(some (30, true)), (some 32), (.ld false 1 (.t 5))⟩,
  ⟨(some (30, true)), (some 33), (.iadL 1 (.t 32) (.c (.cv (.sc (.int .i64 0)))))⟩,
  ⟨(some (30, true)), (some 34), (.ld false 1 (.t 33))⟩,
  ⟨(some (30, true)), (some 35), (.bin .neq (.t 31) (.t 34))⟩,
  ⟨none, (some 36), (.pick (.t 30) (.t 35) (.c (.cv (.sc (.bool false)))))⟩,
  ⟨none, (some 27), (.mv (.t 36))⟩])
  (.cond (.t 27)
  (.seq (.reg [
  ⟨none, none, (.st 1 (.t 4) (.c (.cv (.sc (.bool false)))))⟩])
  .ret) .skip)))))))
  (.reg [
  ⟨none, (some 37), (.ld false 1 (.t 5))⟩,
  ⟨none, (some 38), (.slL 1 (.t 37) (some (.c (.cv (.sc (.int .i64 1))))) none none)⟩,
  ⟨none, none, (.st 1 (.t 5) (.t 38))⟩])))
def f13 : FnIR := ⟨42, [(.cell 4 false 1)],

  (.seq (.reg [
  ⟨none, (some 4), (.alloc [(.cv (.sc (.bool false)))])⟩])

  (.seq f13_0

  (.seq (.reg [
  ⟨none, (some 15), (.mv (.t 1))⟩,
  ⟨none, (some 16), (.call 24 true [(.t 15), (.c (.cv (.sc (.string ⟨#[47]⟩))))])⟩,
  ⟨none, (some 5), (.alloc [(.cv (.sc (.slice none 0 0)))])⟩,
  ⟨none, none, (.st 1 (.t 5) (.t 16))⟩])

  (.seq
  (.seq (.reg [
  ⟨none, (some 17), (.mv (.t 0))⟩,
  ⟨none, (some 18), (.call 22 false [(.t 17), (.c (.cv (.sc (.string ⟨#[47]⟩))))])⟩])
  (.block 0 (.rangeF (.t 18) [19] f13_1 f13_2)))

  (.seq (.reg [
  ⟨none, (some 39), (.ld false 1 (.t 5))⟩,
  ⟨none, (some 40), (.len false (.t 39))⟩,
  ⟨none, (some 41), (.bin .eql (.t 40) (.c (.cv (.sc (.int .i64 0)))))⟩,
  ⟨none, none, (.st 1 (.t 4) (.t 41))⟩])
  .ret)))))⟩
theorem f13_ok : compF Proofs.Tryd.prog [22] [] Proofs.Tryd.f13 = some f13 := by kernel_rfl

def f14_0 : IR :=

  (.seq (.reg [
  ⟨none, (some 5), (.mv (.t 0))⟩,
  ⟨none, (some 6), (.bin .eql (.t 5) (.c (.cv (.sc (.string ⟨#[35]⟩)))))⟩])
  (.cond (.t 6)
  (.seq (.reg [
  ⟨none, none, (.st 1 (.t 2) (.c (.cv (.sc (.bool true)))))⟩])
  .ret) .skip))
def f14_1 : IR :=
  (.reg [
  ⟨none, (some 4), (.mv (.t 11))⟩])
def f14_2 : IR :=
  (.block 1
  (.seq (.reg [
  ⟨none, (some 12), (.mv (.t 4))⟩,
  ⟨none, (some 13), (.bin .neq (.t 12) (.c (.cv (.sc (.string ⟨#[43]⟩)))))⟩,
  ⟨none, (some 14), (.mv (.t 13))⟩,
  ⟨(some (14, true)), (some 15), (.mv (.t 4))⟩,
  ⟨(some (14, true)), (some 16), (.call 23 true [(.t 15)])⟩,
  ⟨(some (14, true)), (some 17), (.un .not (.t 16))⟩,
  ⟨none, (some 18), (.pick (.t 14) (.t 17) (.c (.cv (.sc (.bool false)))))⟩])
  (.cond (.t 18)
  (.seq (.reg [
  ⟨none, none, (.st 1 (.t 2) (.c (.cv (.sc (.bool false)))))⟩])
  .ret) .skip)))
def f14 : FnIR := ⟨22, [(.cell 2 false 1)],

  (.seq (.reg [
  ⟨none, (some 2), (.alloc [(.cv (.sc (.bool false)))])⟩])

  (.seq f14_0

  (.seq (.reg [
  ⟨none, (some 7), (.mv (.t 0))⟩,
  ⟨none, (some 8), (.call 25 true [(.t 7), (.c (.cv (.sc (.string ⟨#[47, 35]⟩))))])⟩,
  ⟨none, (some 3), (.mv (.t 8))⟩])

  (.seq
  (.seq (.reg [
  ⟨none, (some 9), (.mv (.t 3))⟩,
  ⟨none, (some 10), (.call 22 false [(.t 9), (.c (.cv (.sc (.string ⟨#[47]⟩))))])⟩])
  (.block 0 (.rangeF (.t 10) [11] f14_1 f14_2)))

  (.seq (.reg [
  ⟨none, (some 19), (.mv (.t 0))⟩,
  ⟨none, (some 20), (.len true (.t 19))⟩,
  ⟨none, (some 21), (.bin .leq (.t 20) (.c (.cv (.sc (.int .i64 30)))))⟩,
  ⟨none, none, (.st 1 (.t 2) (.t 21))⟩])
  .ret)))))⟩
theorem f14_ok : compF Proofs.Tryd.prog [22] [] Proofs.Tryd.f14 = some f14 := by kernel_rfl

def f15 : FnIR := ⟨11, [(.t 2)],

  (.seq (.reg [
  ⟨none, (some 2), (.mv (.c (.cv (.sc (.bool false)))))⟩])

  (.seq (.reg [
  ⟨none, (some 6), (.mv (.t 0))⟩,
  ⟨none, (some 7), (.call 26 true [(.t 6)])⟩,
  ⟨none, (some 5), (.mv (.t 7))⟩,
  ⟨none, (some 8), (.ext (.t 5) 0)⟩,
  ⟨none, (some 9), (.ext (.t 5) 1)⟩,
  ⟨none, (some 3), (.mv (.t 8))⟩,
  ⟨none, (some 4), (.mv (.t 9))⟩])

  (.seq (.reg [
  ⟨none, (some 10), (.mv (.t 4))⟩,
  ⟨none, (some 2), (.mv (.t 10))⟩])
  .ret)))⟩
theorem f15_ok : compF Proofs.Tryd.prog [] [] Proofs.Tryd.f15 = some f15 := by kernel_rfl

def f17_0 : IR :=

  (.seq (.reg [
  ⟨none, (some 16), (.mv (.t 5))⟩,
  ⟨none, (some 17), (.bin .gtr (.t 16) (.c (.cv (.sc (.int .i64 0)))))⟩])
  (.cond (.t 17) (.reg [
  ⟨none, (some 18), (.mv (.t 3))⟩,
  ⟨none, (some 19), (.bin .add (.t 18) (.c (.cv (.sc (.string ⟨#[44]⟩)))))⟩,
  ⟨none, (some 3), (.mv (.t 19))⟩]) .skip))
def f17_1 : IR :=

  (.seq (.reg [
  ⟨none, (some 28), (.mv (.t 0))⟩,
  ⟨none, (some 29), (.mv (.t 5))⟩,
  ⟨none, (some 30), (.iadL 1 (.t 28) (.t 29))⟩,
  ⟨none, (some 31), (.ld false 1 (.t 30))⟩,
  ⟨none, (some 32), (.bin .gtr (.t 31) (.c (.cv (.sc (.int .u8 245)))))⟩])
  (.cond (.t 32) (.reg [
  ⟨none, (some 33), (.mv (.t 4))⟩,
  ⟨none, (some 34), (.bin .sub (.t 33) (.c (.cv (.sc (.int .u8 3)))))⟩,
  ⟨none, (some 4), (.mv (.t 34))⟩]) .skip))
def f17_2 : IR :=

  (.seq
  (.seq (.reg [
  ⟨none, (some 6), (.mv (.t 5))⟩,
  ⟨none, (some 7), (.mv (.t 0))⟩,
  ⟨none, (some 8), (.len false (.t 7))⟩,
  ⟨none, (some 9), (.bin .lss (.t 6) (.t 8))⟩,
  ⟨none, (some 10), (.mv (.t 9))⟩,
  ⟨(some (10, true)), (some 11), (.mv (.t 5))⟩,
  ⟨(some (10, true)), (some 12), (.bin .lss (.t 11) (.c (.cv (.sc (.int .i64 5)))))⟩,
  ⟨none, (some 13), (.pick (.t 10) (.t 12) (.c (.cv (.sc (.bool false)))))⟩])
  (.cond (.t 13) .skip (.exit 0)))

  (.seq (.block 1
  (.seq f17_0

  (.seq (.reg [
  ⟨none, (some 20), (.mv (.t 4))⟩,
  ⟨none, (some 21), (.mv (.t 0))⟩,
  ⟨none, (some 22), (.mv (.t 5))⟩,
  ⟨none, (some 23), (.iadL 1 (.t 21) (.t 22))⟩,
  ⟨none, (some 24), (.ld false 1 (.t 23))⟩,
  ⟨none, (some 25), (.bin .rem (.t 24) (.c (.cv (.sc (.int .u8 3)))))⟩,
  ⟨none, (some 26), (.bin .add (.t 25) (.c (.cv (.sc (.int .u8 1)))))⟩,
  ⟨none, (some 27), (.bin .add (.t 20) (.t 26))⟩,
  ⟨none, (some 4), (.mv (.t 27))⟩])

  (.seq f17_1
  (.draw [(
  ⟨none, (some 35), (.mv (.t 3))⟩, .p), (
  ⟨none, (some 36), (.mv (.t 4))⟩, .p), (
  ⟨none, (some 37), (.mksl 1 1 [(.cv (.sc (.int .u8 0)))] [(0, (1, (.t 36)))] false)⟩, (.r 0 0)), (
  ⟨none, (some 38), (.cvBS (.t 37))⟩, (.r 0 0)), (
  ⟨none, (some 39), (.bin .add (.t 35) (.t 38))⟩, .p), (
  ⟨none, (some 40), (.bin .add (.t 39) (.c (.cv (.sc (.string ⟨#[61]⟩)))))⟩, .p), (
  ⟨none, (some 41), (.mksl 1 4 [(.cv (.sc (.string ⟨#[]⟩))), (.cv (.sc (.string ⟨#[]⟩))), (.cv (.sc (.string ⟨#[]⟩))), (.cv (.sc (.string ⟨#[]⟩)))] [(0, (1, (.c (.cv (.sc (.string ⟨#[49]⟩)))))), (1, (1, (.c (.cv (.sc (.string ⟨#[50]⟩)))))), (2, (1, (.c (.cv (.sc (.string ⟨#[120]⟩)))))), (3, (1, (.c (.cv (.sc (.string ⟨#[121]⟩))))))] false)⟩, (.r 0 0)), (
  ⟨none, (some 42), (.mv (.t 0))⟩, .p), (
  ⟨none, (some 43), (.mv (.t 5))⟩, .p), (
  ⟨none, (some 44), (.iadL 1 (.t 42) (.t 43))⟩, (.r 0 0)), (
  ⟨none, (some 45), (.ld false 1 (.t 44))⟩, (.r 0 0)), (
  ⟨none, (some 46), (.bin .quo (.t 45) (.c (.cv (.sc (.int .u8 8)))))⟩, .p), (
  ⟨none, (some 47), (.bin .rem (.t 46) (.c (.cv (.sc (.int .u8 4)))))⟩, .p), (
  ⟨none, (some 48), (.iadL 1 (.t 41) (.t 47))⟩, (.r 0 0)), (
  ⟨none, (some 49), (.ld false 1 (.t 48))⟩, (.r 0 0)), (
  ⟨none, (some 50), (.bin .add (.t 40) (.t 49))⟩, .p), (
  ⟨none, (some 3), (.mv (.t 50))⟩, .p)])))))
  (.reg [
  ⟨none, (some 14), (.mv (.t 5))⟩,
  ⟨none, (some 15), (.bin .add (.t 14) (.c (.cv (.sc (.int .i64 1)))))⟩,
  ⟨none, (some 5), (.mv (.t 15))⟩])))
def f17 : FnIR := ⟨52, [(.t 2)],

  (.seq (.reg [
  ⟨none, (some 2), (.mv (.c (.cv (.sc (.string ⟨#[]⟩)))))⟩])

  (.seq (.reg [
  ⟨none, (some 3), (.mv (.c (.cv (.sc (.string ⟨#[]⟩)))))⟩])

  (.seq (.reg [
  ⟨none, (some 4), (.mv (.c (.cv (.sc (.int .u8 97)))))⟩])

  (.seq
  (.seq (.reg [
  ⟨none, (some 5), (.mv (.c (.cv (.sc (.int .i64 0)))))⟩])
  (.block 0 (.loop f17_2)))

  (.seq (.reg [
  ⟨none, (some 51), (.mv (.t 3))⟩,
  ⟨none, (some 2), (.mv (.t 51))⟩])
  .ret)))))⟩
theorem f17_ok : compF Proofs.Tryd.prog [] [] Proofs.Tryd.f17 = some f17 := by kernel_rfl

def f18 : FnIR := ⟨31, [(.t 4)],

  (.seq (.reg [
  ⟨none, (some 4), (.mv (.c (.cv (.sc (.bool false)))))⟩])

  (.seq (.reg [
  ⟨none, (some 11), (.mv (.t 0))⟩,
  ⟨none, (some 12), (.call 26 true [(.t 11)])⟩,
  ⟨none, (some 10), (.mv (.t 12))⟩,
  ⟨none, (some 13), (.ext (.t 10) 0)⟩,
  ⟨none, (some 14), (.ext (.t 10) 1)⟩,
  ⟨none, (some 5), (.mv (.t 13))⟩,
  ⟨none, (some 6), (.mv (.t 14))⟩])

  (.seq (.reg [
  ⟨none, (some 16), (.mv (.t 1))⟩,
  ⟨none, (some 17), (.call 26 true [(.t 16)])⟩,
  ⟨none, (some 15), (.mv (.t 17))⟩,
  ⟨none, (some 18), (.ext (.t 15) 0)⟩,
  ⟨none, (some 19), (.ext (.t 15) 1)⟩,
  ⟨none, (some 7), (.alloc [(.cv (.sc (.slice none 0 0)))])⟩,
  ⟨none, none, (.st 1 (.t 7) (.t 18))⟩,
  ⟨none, (some 8), (.mv (.t 19))⟩])

  (.seq (.reg [
  ⟨none, (some 20), (.mkfn 29 [(.t 7)])⟩,
  ⟨none, (some 9), (.mv (.t 20))⟩])

  (.seq (.reg [
  ⟨none, (some 21), (.mv (.t 6))⟩,
  ⟨none, (some 22), (.mv (.t 21))⟩,
  ⟨(some (22, true)), (some 23), (.mv (.t 8))⟩,
  ⟨none, (some 24), (.pick (.t 22) (.t 23) (.c (.cv (.sc (.bool false)))))⟩,
  ⟨none, (some 25), (.mv (.t 24))⟩,
  ⟨(some (25, true)), (some 26), (.mv (.t 5))⟩,
  ⟨(some (25, true)), (some 27), (.mv (.t 9))⟩,
  ⟨(some (25, true)), (some 28), (.call 31 false [(.t 26), (.t 27)])⟩,
  ⟨(some (25, true)), (some 29), (.un .not (.t 28))⟩,
  ⟨none, (some 30), (.pick (.t 25) (.t 29) (.c (.cv (.sc (.bool false)))))⟩,
  ⟨none, (some 4), (.mv (.t 30))⟩])
  .ret)))))⟩
theorem f18_ok : compF Proofs.Tryd.prog [31] [] Proofs.Tryd.f18 = some f18 := by kernel_rfl

def f22 : FnIR := ⟨8, [(.t 4)],

  (.seq (.reg [
  ⟨none, (some 4), (.mv (.c (.cv (.sc .nilFunc))))⟩])

  (.seq (.reg [
  ⟨none, (some 5), (.mv (.t 0))⟩,
  ⟨none, (some 6), (.mv (.t 1))⟩,
  ⟨none, (some 7), (.call 34 false [(.t 5), (.t 6), (.c (.cv (.sc (.int .i64 0))))])⟩,
  ⟨none, (some 4), (.mv (.t 7))⟩])
  .ret))⟩
theorem f22_ok : compF Proofs.Tryd.prog [34] [] Proofs.Tryd.f22 = some f22 := by kernel_rfl

def f24 : FnIR := ⟨8, [(.t 4)],

  (.seq (.reg [
  ⟨none, (some 4), (.mv (.c (.cv (.sc (.slice none 0 0)))))⟩])

  (.seq (.reg [
  ⟨none, (some 5), (.mv (.t 0))⟩,
  ⟨none, (some 6), (.mv (.t 1))⟩,
  ⟨none, (some 7), (.call 35 true [(.t 5), (.t 6), (.c (.cv (.sc (.int .i64 0)))), (.c (.cv (.sc (.int .i64 (-1)))))])⟩,
  ⟨none, (some 4), (.mv (.t 7))⟩])
  .ret))⟩
theorem f24_ok : compF Proofs.Tryd.prog [] [] Proofs.Tryd.f24 = some f24 := by kernel_rfl

def f25 : FnIR := ⟨8, [(.t 4)],

  (.seq (.reg [
  ⟨none, (some 4), (.mv (.c (.cv (.sc (.string ⟨#[]⟩)))))⟩])

  (.seq (.reg [
  ⟨none, (some 5), (.mv (.t 0))⟩,
  ⟨none, (some 6), (.mv (.t 1))⟩,
  ⟨none, (some 7), (.call 36 true [(.t 5), (.t 6)])⟩,
  ⟨none, (some 4), (.mv (.t 7))⟩])
  .ret))⟩
theorem f25_ok : compF Proofs.Tryd.prog [] [] Proofs.Tryd.f25 = some f25 := by kernel_rfl

def f26_0 : IR :=

  (.seq (.reg [
  ⟨none, (some 11), (.mv (.t 0))⟩,
  ⟨none, (some 12), (.bin .eql (.t 11) (.c (.cv (.sc (.string ⟨#[]⟩)))))⟩])
  (.cond (.t 12)
  (.seq (.reg [
  ⟨none, (some 2), (.mv (.c (.cv (.sc (.slice none 0 0)))))⟩,
  ⟨none, (some 3), (.mv (.c (.cv (.sc (.bool true)))))⟩])
  .ret) .skip))
def f26_1 : IR :=
  (.cond (.t 18) .skip (.exit 0))
def f26_2 : IR :=

  (.seq (.reg [
  ⟨none, (some 27), (.mv (.t 10))⟩,
  ⟨none, (some 28), (.un .not (.t 27))⟩,
  ⟨none, (some 29), (.mv (.t 28))⟩,
  ⟨(some (29, false)), (some 30), (.mv (.t 8))⟩,
  ⟨(some (29, false)), (some 31), (.call 23 true [(.t 30)])⟩,
  ⟨(some (29, false)), (some 32), (.un .not (.t 31))⟩,
  ⟨none, (some 33), (.pick (.t 29) (.c (.cv (.sc (.bool true)))) (.t 32))⟩,
  ⟨none, (some 34), (.mv (.t 33))⟩,
  ⟨(some (34, false)), (some 35), (.mv (.t 9))⟩,
  ⟨(some (34, false)), (some 36), (.call 23 true [(.t 35)])⟩,
  ⟨(some (34, false)), (some 37), (.un .not (.t 36))⟩,
  ⟨none, (some 38), (.pick (.t 34) (.c (.cv (.sc (.bool true)))) (.t 37))⟩,
  ⟨none, (some 39), (.mv (.t 38))⟩,
  ⟨(some (39, false)), (some 40), (.mv (.t 8))⟩,
  ⟨(some (39, false)), (some 41), (.mv (.t 5))⟩,
  ⟨(some (39, false)), (some 42), (.bin .leq (.t 40) (.t 41))⟩,
  ⟨none, (some 43), (.pick (.t 39) (.c (.cv (.sc (.bool true)))) (.t 42))⟩])
  (.cond (.t 43)
  (.seq (.reg [
  ⟨none, (some 2), (.mv (.c (.cv (.sc (.slice none 0 0)))))⟩,
  ⟨none, (some 3), (.mv (.c (.cv (.sc (.bool false)))))⟩])
  .ret) .skip))
def f26_3 : IR :=

  (.seq (.reg [
  ⟨none, (some 18), (.bin .lss (.t 17) (.t 16))⟩])

  (.seq f26_1

  (.seq (.block 1
  (.seq (.reg [
  ⟨none, (some 19), (.iadL 1 (.t 15) (.t 17))⟩,
  ⟨none, (some 20), (.ld false 1 (.t 19))⟩,
  ⟨none, (some 7), (.mv (.t 20))⟩])

  (.seq (.reg [
  ⟨none, (some 22), (.mv (.t 7))⟩,
  ⟨none, (some 23), (.call 37 true [(.t 22), (.c (.cv (.sc (.string ⟨#[61]⟩))))])⟩,
  ⟨none, (some 21), (.mv (.t 23))⟩,
  ⟨none, (some 24), (.ext (.t 21) 0)⟩,
  ⟨none, (some 25), (.ext (.t 21) 1)⟩,
  ⟨none, (some 26), (.ext (.t 21) 2)⟩,
  ⟨none, (some 8), (.mv (.t 24))⟩,
  ⟨none, (some 9), (.mv (.t 25))⟩,
  ⟨none, (some 10), (.mv (.t 26))⟩])

  (.seq f26_2
  (.reg [
  ⟨none, (some 44), (.mv (.t 8))⟩,
  ⟨none, (some 5), (.mv (.t 44))⟩])))))
  (.reg [
  ⟨none, (some 45), (.bin .add (.t 17) (.c (.cv (.sc (.int .i64 1)))))⟩,
  ⟨none, (some 17), (.mv (.t 45))⟩]))))
def f26 : FnIR := ⟨50, [(.t 2), (.t 3)],

  (.seq (.reg [
  ⟨none, (some 2), (.mv (.c (.cv (.sc (.slice none 0 0)))))⟩,
  ⟨none, (some 3), (.mv (.c (.cv (.sc (.bool false)))))⟩])

  (.seq f26_0

  (.seq (.reg [
  ⟨none, (some 13), (.mv (.t 0))⟩,
  ⟨none, (some 14), (.call 24 true [(.t 13), (.c (.cv (.sc (.string ⟨#[44]⟩))))])⟩,
  ⟨none, (some 4), (.mv (.t 14))⟩])

  (.seq (.reg [
  ⟨none, (some 5), (.mv (.c (.cv (.sc (.string ⟨#[]⟩)))))⟩])

  (.seq
  (.seq (.reg [
  ⟨none, (some 15), (.mv (.t 4))⟩,
  ⟨none, (some 16), (.len false (.t 15))⟩,
  ⟨none, (some 17), (.mv (.c (.cv (.sc (.int .i64 0)))))⟩])
  (.block 0 (.loop f26_3)))

  (.seq (.reg [
  ⟨none, (some 46), (.mv (.t 4))⟩,
  ⟨none, (some 47), (.mv (.t 0))⟩,
  ⟨none, (some 48), (.len true (.t 47))⟩,
  ⟨none, (some 49), (.bin .leq (.t 48) (.c (.cv (.sc (.int .i64 30)))))⟩,
  ⟨none, (some 2), (.mv (.t 46))⟩,
  ⟨none, (some 3), (.mv (.t 49))⟩])
  .ret))))))⟩
theorem f26_ok : compF Proofs.Tryd.prog [] [] Proofs.Tryd.f26 = some f26 := by kernel_rfl

def f29 : FnIR := ⟨8, [(.t 3)],

  (.seq (.reg [
  ⟨none, (some 3), (.mv (.c (.cv (.sc (.bool false)))))⟩])

  (.seq (.reg [
  ⟨none, (some 4), (.ld false 1 (.t 1))⟩,
  ⟨none, (some 5), (.mv (.t 0))⟩,
  ⟨none, (some 6), (.call 30 true [(.t 4), (.t 5)])⟩,
  ⟨none, (some 7), (.un .not (.t 6))⟩,
  ⟨none, (some 3), (.mv (.t 7))⟩])
  .ret))⟩
theorem f29_ok : compF Proofs.Tryd.prog [] [] Proofs.Tryd.f29 = some f29 := by kernel_rfl

def f30 : FnIR := ⟨9, [(.t 4)],

  (.seq (.reg [
  ⟨none, (some 4), (.mv (.c (.cv (.sc (.bool false)))))⟩])

  (.seq (.reg [
  ⟨none, (some 5), (.mv (.t 0))⟩,
  ⟨none, (some 6), (.mv (.t 1))⟩,
  ⟨none, (some 7), (.call 39 true [(.t 5), (.t 6)])⟩,
  ⟨none, (some 8), (.bin .geq (.t 7) (.c (.cv (.sc (.int .i64 0)))))⟩,
  ⟨none, (some 4), (.mv (.t 8))⟩])
  .ret))⟩
theorem f30_ok : compF Proofs.Tryd.prog [] [] Proofs.Tryd.f30 = some f30 := by kernel_rfl

def f31 : FnIR := ⟨9, [(.t 4)],

  (.seq (.reg [
  ⟨none, (some 4), (.mv (.c (.cv (.sc (.bool false)))))⟩])

  (.seq (.reg [
  ⟨none, (some 5), (.mv (.t 0))⟩,
  ⟨none, (some 6), (.mv (.t 1))⟩,
  ⟨none, (some 7), (.call 40 false [(.t 5), (.t 6)])⟩,
  ⟨none, (some 8), (.bin .geq (.t 7) (.c (.cv (.sc (.int .i64 0)))))⟩,
  ⟨none, (some 4), (.mv (.t 8))⟩])
  .ret))⟩
theorem f31_ok : compF Proofs.Tryd.prog [40] [] Proofs.Tryd.f31 = some f31 := by kernel_rfl

def f34 : FnIR := ⟨8, [(.t 6)],

  (.seq (.reg [
  ⟨none, (some 3), (.box 1 (.t 0))⟩,
  ⟨none, (some 4), (.box 1 (.t 1))⟩,
  ⟨none, (some 5), (.box 1 (.t 2))⟩,
  ⟨none, (some 6), (.mv (.c (.cv (.sc .nilFunc))))⟩])

  (.seq (.reg [
  ⟨none, (some 7), (.mkfn 41 [(.t 4), (.t 3), (.t 5)])⟩,
  ⟨none, (some 6), (.mv (.t 7))⟩])
  .ret))⟩
theorem f34_ok : compF Proofs.Tryd.prog [] [] Proofs.Tryd.f34 = some f34 := by kernel_rfl

def f35_0 : IR :=

  (.seq (.reg [
  ⟨none, (some 12), (.mv (.t 3))⟩,
  ⟨none, (some 13), (.bin .eql (.t 12) (.c (.cv (.sc (.int .i64 0)))))⟩])
  (.cond (.t 13)
  (.seq (.reg [
  ⟨none, (some 8), (.mv (.c (.cv (.sc (.slice none 0 0)))))⟩])
  .ret) .skip))
def f35_1 : IR :=

  (.seq (.reg [
  ⟨none, (some 14), (.mv (.t 1))⟩,
  ⟨none, (some 15), (.bin .eql (.t 14) (.c (.cv (.sc (.string ⟨#[]⟩)))))⟩])
  (.cond (.t 15)
  (.seq (.reg [
  ⟨none, (some 16), (.mv (.t 0))⟩,
  ⟨none, (some 17), (.mv (.t 3))⟩,
  ⟨none, (some 18), (.call 44 true [(.t 16), (.t 17)])⟩,
  ⟨none, (some 8), (.mv (.t 18))⟩])
  .ret) .skip))
def f35_2 : IR :=

  (.seq (.reg [
  ⟨none, (some 19), (.mv (.t 3))⟩,
  ⟨none, (some 20), (.bin .lss (.t 19) (.c (.cv (.sc (.int .i64 0)))))⟩])
  (.cond (.t 20) (.reg [
  ⟨none, (some 21), (.mv (.t 0))⟩,
  ⟨none, (some 22), (.mv (.t 1))⟩,
  ⟨none, (some 23), (.call 45 true [(.t 21), (.t 22)])⟩,
  ⟨none, (some 24), (.bin .add (.t 23) (.c (.cv (.sc (.int .i64 1)))))⟩,
  ⟨none, (some 3), (.mv (.t 24))⟩]) .skip))
def f35_3 : IR :=

  (.seq (.reg [
  ⟨none, (some 40), (.mv (.t 11))⟩,
  ⟨none, (some 41), (.bin .lss (.t 40) (.c (.cv (.sc (.int .i64 0)))))⟩])
  (.cond (.t 41) (.exit 0) .skip))
def f35_4 : IR :=

  (.seq
  (.seq (.reg [
  ⟨none, (some 34), (.mv (.t 10))⟩,
  ⟨none, (some 35), (.mv (.t 3))⟩,
  ⟨none, (some 36), (.bin .lss (.t 34) (.t 35))⟩])
  (.cond (.t 36) .skip (.exit 0)))
  (.block 1
  (.seq (.reg [
  ⟨none, (some 37), (.mv (.t 0))⟩,
  ⟨none, (some 38), (.mv (.t 1))⟩,
  ⟨none, (some 39), (.call 43 true [(.t 37), (.t 38)])⟩,
  ⟨none, (some 11), (.mv (.t 39))⟩])

  (.seq f35_3

  (.seq (.reg [
  ⟨none, (some 42), (.mv (.t 9))⟩,
  ⟨none, (some 43), (.mv (.t 10))⟩,
  ⟨none, (some 44), (.mv (.t 0))⟩,
  ⟨none, (some 45), (.mv (.t 11))⟩,
  ⟨none, (some 46), (.mv (.t 2))⟩,
  ⟨none, (some 47), (.bin .add (.t 45) (.t 46))⟩,
  ⟨none, (some 48), (.slS (.t 44) none (some (.t 47)))⟩,
  ⟨none, (some 49), (.iadL 1 (.t 42) (.t 43))⟩,
  ⟨none, none, (.st 1 (.t 49) (.t 48))⟩])

  (.seq (.reg [
  ⟨none, (some 50), (.mv (.t 0))⟩,
  ⟨none, (some 51), (.mv (.t 11))⟩,
  ⟨none, (some 52), (.mv (.t 1))⟩,
  ⟨none, (some 53), (.len true (.t 52))⟩,
  ⟨none, (some 54), (.bin .add (.t 51) (.t 53))⟩,
  ⟨none, (some 55), (.slS (.t 50) (some (.t 54)) none)⟩,
  ⟨none, (some 0), (.mv (.t 55))⟩])
  (.reg [
  ⟨none, (some 56), (.mv (.t 10))⟩,
  ⟨none, (some 57), (.bin .add (.t 56) (.c (.cv (.sc (.int .i64 1)))))⟩,
  ⟨none, (some 10), (.mv (.t 57))⟩])))))))
def f35 : FnIR := ⟨66, [(.t 8)],

  (.seq (.reg [
  ⟨none, (some 8), (.mv (.c (.cv (.sc (.slice none 0 0)))))⟩])

  (.seq f35_0

  (.seq f35_1

  (.seq f35_2

  (.seq (.reg [
  ⟨none, (some 25), (.mv (.t 3))⟩,
  ⟨none, (some 26), (.mv (.t 0))⟩,
  ⟨none, (some 27), (.len true (.t 26))⟩,
  ⟨none, (some 28), (.bin .add (.t 27) (.c (.cv (.sc (.int .i64 1)))))⟩,
  ⟨none, (some 29), (.mnmx true [(.t 25), (.t 28)])⟩,
  ⟨none, (some 3), (.mv (.t 29))⟩])

  (.seq (.reg [
  ⟨none, (some 30), (.mv (.t 3))⟩,
  ⟨none, (some 31), (.mks 1 16 [(.sc (.string ⟨#[]⟩))] (.t 30) (.t 30) true)⟩,
  ⟨none, (some 9), (.mv (.t 31))⟩])

  (.seq (.reg [
  ⟨none, (some 32), (.mv (.t 3))⟩,
  ⟨none, (some 33), (.bin .sub (.t 32) (.c (.cv (.sc (.int .i64 1)))))⟩,
  ⟨none, (some 3), (.mv (.t 33))⟩])

  (.seq (.reg [
  ⟨none, (some 10), (.mv (.c (.cv (.sc (.int .i64 0)))))⟩])

  (.seq (.block 0 (.loop f35_4))

  (.seq (.reg [
  ⟨none, (some 58), (.mv (.t 9))⟩,
  ⟨none, (some 59), (.mv (.t 10))⟩,
  ⟨none, (some 60), (.mv (.t 0))⟩,
  ⟨none, (some 61), (.iadL 1 (.t 58) (.t 59))⟩,
  ⟨none, none, (.st 1 (.t 61) (.t 60))⟩])

  (.seq (.reg [
  ⟨none, (some 62), (.mv (.t 9))⟩,
  ⟨none, (some 63), (.mv (.t 10))⟩,
  ⟨none, (some 64), (.bin .add (.t 63) (.c (.cv (.sc (.int .i64 1)))))⟩,
  ⟨none, (some 65), (.slL 1 (.t 62) none (some (.t 64)) none)⟩,
  ⟨none, (some 8), (.mv (.t 65))⟩])
  .ret)))))))))))⟩
theorem f35_ok : compF Proofs.Tryd.prog [3000001] [] Proofs.Tryd.f35 = some f35 := by kernel_rfl

def f36_0 : IR :=

  (.seq (.reg [
  ⟨none, (some 5), (.mv (.t 0))⟩,
  ⟨none, (some 6), (.mv (.t 1))⟩,
  ⟨none, (some 7), (.call 46 true [(.t 5), (.t 6)])⟩])
  (.cond (.t 7)
  (.seq (.reg [
  ⟨none, (some 8), (.mv (.t 0))⟩,
  ⟨none, (some 9), (.mv (.t 0))⟩,
  ⟨none, (some 10), (.len true (.t 9))⟩,
  ⟨none, (some 11), (.mv (.t 1))⟩,
  ⟨none, (some 12), (.len true (.t 11))⟩,
  ⟨none, (some 13), (.bin .sub (.t 10) (.t 12))⟩,
  ⟨none, (some 14), (.slS (.t 8) none (some (.t 13)))⟩,
  ⟨none, (some 4), (.mv (.t 14))⟩])
  .ret) .skip))
def f36 : FnIR := ⟨16, [(.t 4)],

  (.seq (.reg [
  ⟨none, (some 4), (.mv (.c (.cv (.sc (.string ⟨#[]⟩)))))⟩])

  (.seq f36_0

  (.seq (.reg [
  ⟨none, (some 15), (.mv (.t 0))⟩,
  ⟨none, (some 4), (.mv (.t 15))⟩])
  .ret)))⟩
theorem f36_ok : compF Proofs.Tryd.prog [] [] Proofs.Tryd.f36 = some f36 := by kernel_rfl

def f37 : FnIR := ⟨13, [(.t 4), (.t 5), (.t 6)],

  (.seq (.reg [
  ⟨none, (some 4), (.mv (.c (.cv (.sc (.string ⟨#[]⟩)))))⟩,
  ⟨none, (some 5), (.mv (.c (.cv (.sc (.string ⟨#[]⟩)))))⟩,
  ⟨none, (some 6), (.mv (.c (.cv (.sc (.bool false)))))⟩])

  (.seq (.reg [
  ⟨none, (some 7), (.mv (.t 0))⟩,
  ⟨none, (some 8), (.mv (.t 1))⟩,
  ⟨none, (some 9), (.call 47 true [(.t 7), (.t 8)])⟩,
  ⟨none, (some 10), (.ext (.t 9) 0)⟩,
  ⟨none, (some 11), (.ext (.t 9) 1)⟩,
  ⟨none, (some 12), (.ext (.t 9) 2)⟩,
  ⟨none, (some 4), (.mv (.t 10))⟩,
  ⟨none, (some 5), (.mv (.t 11))⟩,
  ⟨none, (some 6), (.mv (.t 12))⟩])
  .ret))⟩
theorem f37_ok : compF Proofs.Tryd.prog [] [] Proofs.Tryd.f37 = some f37 := by kernel_rfl

def f39_0 : IR :=
  (.cond (.t 9) .skip (.exit 0))
def f39_1 : IR :=

  (.seq (.reg [
  ⟨none, (some 9), (.bin .lss (.t 8) (.t 7))⟩])

  (.seq f39_0

  (.seq (.block 1
  (.seq (.reg [
  ⟨none, (some 10), (.mv (.t 8))⟩,
  ⟨none, (some 5), (.mv (.t 10))⟩])

  (.seq (.reg [
  ⟨none, (some 11), (.mv (.t 1))⟩,
  ⟨none, (some 12), (.mv (.t 0))⟩,
  ⟨none, (some 13), (.mv (.t 5))⟩,
  ⟨none, (some 14), (.iadL 1 (.t 12) (.t 13))⟩,
  ⟨none, (some 15), (.ld false 1 (.t 14))⟩,
  ⟨none, (some 16), (.bin .eql (.t 11) (.t 15))⟩])
  (.cond (.t 16)
  (.seq (.reg [
  ⟨none, (some 17), (.mv (.t 5))⟩,
  ⟨none, (some 4), (.mv (.t 17))⟩])
  .ret) .skip))))
  (.reg [
  ⟨none, (some 18), (.bin .add (.t 8) (.c (.cv (.sc (.int .i64 1)))))⟩,
  ⟨none, (some 8), (.mv (.t 18))⟩]))))
def f39 : FnIR := ⟨19, [(.t 4)],

  (.seq (.reg [
  ⟨none, (some 4), (.mv (.c (.cv (.sc (.int .i64 0)))))⟩])

  (.seq
  (.seq (.reg [
  ⟨none, (some 6), (.mv (.t 0))⟩,
  ⟨none, (some 7), (.len false (.t 6))⟩,
  ⟨none, (some 8), (.mv (.c (.cv (.sc (.int .i64 0)))))⟩])
  (.block 0 (.loop f39_1)))

  (.seq (.reg [
  ⟨none, (some 4), (.mv (.c (.cv (.sc (.int .i64 (-1))))))⟩])
  .ret)))⟩
theorem f39_ok : compF Proofs.Tryd.prog [] [] Proofs.Tryd.f39 = some f39 := by kernel_rfl

def f40_0 : IR :=
  (.cond (.t 9) .skip (.exit 0))
def f40_1 : IR :=

  (.seq (.reg [
  ⟨none, (some 9), (.bin .lss (.t 8) (.t 7))⟩])

  (.seq f40_0

  (.seq (.block 1
  (.seq (.reg [
  ⟨none, (some 10), (.mv (.t 8))⟩,
  ⟨none, (some 5), (.mv (.t 10))⟩])

  (.seq (.reg [
  ⟨none, (some 11), (.mv (.t 1))⟩,
  ⟨none, (some 12), (.mv (.t 0))⟩,
  ⟨none, (some 13), (.mv (.t 5))⟩,
  ⟨none, (some 14), (.iadL 1 (.t 12) (.t 13))⟩,
  ⟨none, (some 15), (.ld false 1 (.t 14))⟩,
  ⟨none, (some 16), (.callv false (.t 11) [(.t 15)])⟩])
  (.cond (.t 16)
  (.seq (.reg [
  ⟨none, (some 17), (.mv (.t 5))⟩,
  ⟨none, (some 4), (.mv (.t 17))⟩])
  .ret) .skip))))
  (.reg [
  ⟨none, (some 18), (.bin .add (.t 8) (.c (.cv (.sc (.int .i64 1)))))⟩,
  ⟨none, (some 8), (.mv (.t 18))⟩]))))
def f40 : FnIR := ⟨19, [(.t 4)],

  (.seq (.reg [
  ⟨none, (some 4), (.mv (.c (.cv (.sc (.int .i64 0)))))⟩])

  (.seq
  (.seq (.reg [
  ⟨none, (some 6), (.mv (.t 0))⟩,
  ⟨none, (some 7), (.len false (.t 6))⟩,
  ⟨none, (some 8), (.mv (.c (.cv (.sc (.int .i64 0)))))⟩])
  (.block 0 (.loop f40_1)))

  (.seq (.reg [
  ⟨none, (some 4), (.mv (.c (.cv (.sc (.int .i64 (-1))))))⟩])
  .ret)))⟩
theorem f40_ok : compF Proofs.Tryd.prog [3000000] [] Proofs.Tryd.f40 = some f40 := by kernel_rfl

def f41_0 : IR :=

  (.seq
  (.seq (.reg [
  ⟨none, (some 12), (.ld false 1 (.t 2))⟩,
  ⟨none, (some 13), (.len true (.t 12))⟩,
  ⟨none, (some 14), (.bin .gtr (.t 13) (.c (.cv (.sc (.int .i64 0)))))⟩])
  (.cond (.t 14) .skip (.exit 0)))
  (.block 1
  (.seq (.reg [
  ⟨none, (some 16), (.ld false 1 (.t 2))⟩,
  ⟨none, (some 17), (.call 42 true [(.t 16)])⟩,
  ⟨none, (some 15), (.mv (.t 17))⟩,
  ⟨none, (some 18), (.ext (.t 15) 0)⟩,
  ⟨none, (some 19), (.ext (.t 15) 1)⟩,
  ⟨none, (some 5), (.mv (.t 18))⟩,
  ⟨none, (some 6), (.mv (.t 19))⟩])

  (.seq
  (.seq (.reg [
  ⟨none, (some 20), (.mv (.t 0))⟩,
  ⟨none, (some 21), (.ld false 1 (.t 2))⟩,
  ⟨none, (some 22), (.mv (.t 6))⟩,
  ⟨none, (some 23), (.slS (.t 21) none (some (.t 22)))⟩,
  ⟨none, (some 24), (.callv false (.t 20) [(.t 23)])⟩,
  ⟨none, (some 25), (.un .not (.t 24))⟩])
  (.cond (.t 25) .ret .skip))
  (.reg [
  ⟨none, (some 26), (.ld false 1 (.t 2))⟩,
  ⟨none, (some 27), (.mv (.t 6))⟩,
  ⟨none, (some 28), (.slS (.t 26) (some (.t 27)) none)⟩,
  ⟨none, none, (.st 1 (.t 2) (.t 28))⟩])))))
def f41_1 : IR :=

  (.seq (.reg [
  ⟨none, (some 9), (.ld false 1 (.t 1))⟩,
  ⟨none, (some 10), (.len true (.t 9))⟩,
  ⟨none, (some 11), (.bin .eql (.t 10) (.c (.cv (.sc (.int .i64 0)))))⟩])
  (.cond (.t 11)
  (.seq (.block 0 (.loop f41_0))
  .ret) .skip))
def f41_2 : IR :=

  (.seq (.reg [
  ⟨none, (some 32), (.mv (.t 7))⟩,
  ⟨none, (some 33), (.bin .lss (.t 32) (.c (.cv (.sc (.int .i64 0)))))⟩])
  (.cond (.t 33) (.exit 2) .skip))
def f41_3 : IR :=

  (.seq (.reg [
  ⟨none, (some 39), (.mv (.t 0))⟩,
  ⟨none, (some 40), (.mv (.t 8))⟩,
  ⟨none, (some 41), (.callv false (.t 39) [(.t 40)])⟩,
  ⟨none, (some 42), (.un .not (.t 41))⟩])
  (.cond (.t 42) .ret .skip))
def f41_4 : IR :=
  (.block 3
  (.seq (.reg [
  ⟨none, (some 29), (.ld false 1 (.t 2))⟩,
  ⟨none, (some 30), (.ld false 1 (.t 1))⟩,
  ⟨none, (some 31), (.call 43 true [(.t 29), (.t 30)])⟩,
  ⟨none, (some 7), (.mv (.t 31))⟩])

  (.seq f41_2

  (.seq (.reg [
  ⟨none, (some 34), (.ld false 1 (.t 2))⟩,
  ⟨none, (some 35), (.mv (.t 7))⟩,
  ⟨none, (some 36), (.ld false 1 (.t 3))⟩,
  ⟨none, (some 37), (.bin .add (.t 35) (.t 36))⟩,
  ⟨none, (some 38), (.slS (.t 34) none (some (.t 37)))⟩,
  ⟨none, (some 8), (.mv (.t 38))⟩])

  (.seq f41_3
  (.reg [
  ⟨none, (some 43), (.ld false 1 (.t 2))⟩,
  ⟨none, (some 44), (.mv (.t 7))⟩,
  ⟨none, (some 45), (.ld false 1 (.t 1))⟩,
  ⟨none, (some 46), (.len true (.t 45))⟩,
  ⟨none, (some 47), (.bin .add (.t 44) (.t 46))⟩,
  ⟨none, (some 48), (.slS (.t 43) (some (.t 47)) none)⟩,
  ⟨none, none, (.st 1 (.t 2) (.t 48))⟩]))))))
def f41 : FnIR := ⟨52, [],

  (.seq f41_1

  (.seq (.block 2 (.loop f41_4))
  (.reg [
  ⟨none, (some 49), (.mv (.t 0))⟩,
  ⟨none, (some 50), (.ld false 1 (.t 2))⟩,
  ⟨none, (some 51), (.callv false (.t 49) [(.t 50)])⟩])))⟩
theorem f41_ok : compF Proofs.Tryd.prog [3000000] [] Proofs.Tryd.f41 = some f41 := by kernel_rfl

def f43 : FnIR := ⟨8, [(.t 4)],

  (.seq (.reg [
  ⟨none, (some 4), (.mv (.c (.cv (.sc (.int .i64 0)))))⟩])

  (.seq (.reg [
  ⟨none, (some 5), (.mv (.t 0))⟩,
  ⟨none, (some 6), (.mv (.t 1))⟩,
  ⟨none, (some 7), (.call 49 true [(.t 5), (.t 6)])⟩,
  ⟨none, (some 4), (.mv (.t 7))⟩])
  .ret))⟩
theorem f43_ok : compF Proofs.Tryd.prog [] [] Proofs.Tryd.f43 = some f43 := by kernel_rfl

def f46 : FnIR := ⟨21, [(.t 4)],

  (.seq (.reg [
  ⟨none, (some 4), (.mv (.c (.cv (.sc (.bool false)))))⟩])

  (.seq (.reg [
  ⟨none, (some 5), (.mv (.t 0))⟩,
  ⟨none, (some 6), (.len true (.t 5))⟩,
  ⟨none, (some 7), (.mv (.t 1))⟩,
  ⟨none, (some 8), (.len true (.t 7))⟩,
  ⟨none, (some 9), (.bin .geq (.t 6) (.t 8))⟩,
  ⟨none, (some 10), (.mv (.t 9))⟩,
  ⟨(some (10, true)), (some 11), (.mv (.t 0))⟩,
  ⟨(some (10, true)), (some 12), (.mv (.t 0))⟩,
  ⟨(some (10, true)), (some 13), (.len true (.t 12))⟩,
  ⟨(some (10, true)), (some 14), (.mv (.t 1))⟩,
  ⟨(some (10, true)), (some 15), (.len true (.t 14))⟩,
  ⟨(some (10, true)), (some 16), (.bin .sub (.t 13) (.t 15))⟩,
  ⟨(some (10, true)), (some 17), (.slS (.t 11) (some (.t 16)) none)⟩,
  ⟨(some (10, true)), (some 18), (.mv (.t 1))⟩,
  ⟨(some (10, true)), (some 19), (.bin .eql (.t 17) (.t 18))⟩,
  ⟨none, (some 20), (.pick (.t 10) (.t 19) (.c (.cv (.sc (.bool false)))))⟩,
  ⟨none, (some 4), (.mv (.t 20))⟩])
  .ret))⟩
theorem f46_ok : compF Proofs.Tryd.prog [] [] Proofs.Tryd.f46 = some f46 := by kernel_rfl

def f47 : FnIR := ⟨23, [(.t 4), (.t 5), (.t 6)],

  (.seq (.reg [
  ⟨none, (some 4), (.mv (.c (.cv (.sc (.string ⟨#[]⟩)))))⟩,
  ⟨none, (some 5), (.mv (.c (.cv (.sc (.string ⟨#[]⟩)))))⟩,
  ⟨none, (some 6), (.mv (.c (.cv (.sc (.bool false)))))⟩])

  (.seq
  (.seq (.reg [
  ⟨none, (some 8), (.mv (.t 0))⟩,
  ⟨none, (some 9), (.mv (.t 1))⟩,
  ⟨none, (some 10), (.call 49 true [(.t 8), (.t 9)])⟩,
  ⟨none, (some 7), (.mv (.t 10))⟩])

  (.seq (.reg [
  ⟨none, (some 11), (.mv (.t 7))⟩,
  ⟨none, (some 12), (.bin .geq (.t 11) (.c (.cv (.sc (.int .i64 0)))))⟩])
  (.cond (.t 12)
  (.seq (.draw [(
  ⟨none, (some 13), (.mv (.t 0))⟩, .p), (
  ⟨none, (some 14), (.mv (.t 7))⟩, .p), (
  ⟨none, (some 15), (.slS (.t 13) none (some (.t 14)))⟩, .p), (
  ⟨none, (some 16), (.mv (.t 0))⟩, .p), (
  ⟨none, (some 17), (.mv (.t 7))⟩, .p), (
  ⟨none, (some 18), (.mv (.t 1))⟩, .p), (
  ⟨none, (some 19), (.len true (.t 18))⟩, .p), (
  ⟨none, (some 20), (.bin .add (.t 17) (.t 19))⟩, .p), (
  ⟨none, (some 21), (.slS (.t 16) (some (.t 20)) none)⟩, .p), (
  ⟨none, (some 4), (.mv (.t 15))⟩, .p), (
  ⟨none, (some 5), (.mv (.t 21))⟩, .p), (
  ⟨none, (some 6), (.mv (.c (.cv (.sc (.bool true)))))⟩, .p)])
  .ret) .skip)))

  (.seq (.reg [
  ⟨none, (some 22), (.mv (.t 0))⟩,
  ⟨none, (some 4), (.mv (.t 22))⟩,
  ⟨none, (some 5), (.mv (.c (.cv (.sc (.string ⟨#[]⟩)))))⟩,
  ⟨none, (some 6), (.mv (.c (.cv (.sc (.bool false)))))⟩])
  .ret)))⟩
theorem f47_ok : compF Proofs.Tryd.prog [] [] Proofs.Tryd.f47 = some f47 := by kernel_rfl

def f49_0 : IR :=
  .skip
def f49_1 : IR :=

  (.seq (.reg [
  ⟨none, (some 60), (.mv (.t 0))⟩,
  ⟨none, (some 61), (.mv (.t 8))⟩,
  ⟨none, (some 62), (.ixS (.t 60) (.t 61))⟩,
  ⟨none, (some 63), (.mv (.t 6))⟩,
  ⟨none, (some 64), (.bin .neq (.t 62) (.t 63))⟩])
  (.cond (.t 64)
  (.seq (.reg [
  ⟨none, (some 65), (.mv (.t 0))⟩,
  ⟨none, (some 66), (.mv (.t 8))⟩,
  ⟨none, (some 67), (.bin .add (.t 66) (.c (.cv (.sc (.int .i64 1)))))⟩,
  ⟨none, (some 68), (.mv (.t 9))⟩,
  ⟨none, (some 69), (.slS (.t 65) (some (.t 67)) (some (.t 68)))⟩,
  ⟨none, (some 70), (.mv (.t 6))⟩,
  ⟨none, (some 71), (.call 52 true [(.t 69), (.t 70)])⟩,
  ⟨none, (some 11), (.mv (.t 71))⟩])

  (.seq
  (.seq (.reg [
  ⟨none, (some 72), (.mv (.t 11))⟩,
  ⟨none, (some 73), (.bin .lss (.t 72) (.c (.cv (.sc (.int .i64 0)))))⟩])
  (.cond (.t 73)
  (.seq (.reg [
  ⟨none, (some 4), (.mv (.c (.cv (.sc (.int .i64 (-1))))))⟩])
  .ret) .skip))
  (.reg [
  ⟨none, (some 74), (.mv (.t 8))⟩,
  ⟨none, (some 75), (.mv (.t 11))⟩,
  ⟨none, (some 76), (.bin .add (.t 75) (.c (.cv (.sc (.int .i64 1)))))⟩,
  ⟨none, (some 77), (.bin .add (.t 74) (.t 76))⟩,
  ⟨none, (some 8), (.mv (.t 77))⟩]))) .skip))
def f49_2 : IR :=

  (.seq (.reg [
  ⟨none, (some 78), (.mv (.t 0))⟩,
  ⟨none, (some 79), (.mv (.t 8))⟩,
  ⟨none, (some 80), (.bin .add (.t 79) (.c (.cv (.sc (.int .i64 1)))))⟩,
  ⟨none, (some 81), (.ixS (.t 78) (.t 80))⟩,
  ⟨none, (some 82), (.mv (.t 7))⟩,
  ⟨none, (some 83), (.bin .eql (.t 81) (.t 82))⟩,
  ⟨none, (some 84), (.mv (.t 83))⟩,
  ⟨(some (84, true)), (some 85), (.mv (.t 0))⟩,
  ⟨(some (84, true)), (some 86), (.mv (.t 8))⟩,
  ⟨(some (84, true)), (some 87), (.mv (.t 8))⟩,
  ⟨(some (84, true)), (some 88), (.mv (.t 5))⟩,
  ⟨(some (84, true)), (some 89), (.bin .add (.t 87) (.t 88))⟩,
  ⟨(some (84, true)), (some 90), (.slS (.t 85) (some (.t 86)) (some (.t 89)))⟩,
  ⟨(some (84, true)), (some 91), (.mv (.t 1))⟩,
  ⟨(some (84, true)), (some 92), (.bin .eql (.t 90) (.t 91))⟩,
  ⟨none, (some 93), (.pick (.t 84) (.t 92) (.c (.cv (.sc (.bool false)))))⟩])
  (.cond (.t 93)
  (.seq (.reg [
  ⟨none, (some 94), (.mv (.t 8))⟩,
  ⟨none, (some 4), (.mv (.t 94))⟩])
  .ret) .skip))
def f49_3 : IR :=
  .skip
def f49_4 : IR :=

  (.seq (.reg [
  ⟨none, (some 113), (.mv (.t 12))⟩,
  ⟨none, (some 114), (.bin .geq (.t 113) (.c (.cv (.sc (.int .i64 0)))))⟩])
  (.cond (.t 114)
  (.seq (.reg [
  ⟨none, (some 115), (.mv (.t 12))⟩,
  ⟨none, (some 116), (.mv (.t 8))⟩,
  ⟨none, (some 117), (.bin .add (.t 115) (.t 116))⟩,
  ⟨none, (some 4), (.mv (.t 117))⟩])
  .ret) .skip))
def f49_5 : IR :=
  .skip
def f49_6 : IR :=

  (.seq (.reg [
  ⟨none, (some 138), (.mv (.t 13))⟩,
  ⟨none, (some 139), (.bin .lss (.t 138) (.c (.cv (.sc (.int .i64 0)))))⟩])
  (.cond (.t 139)
  (.seq (.reg [
  ⟨none, (some 4), (.mv (.c (.cv (.sc (.int .i64 (-1))))))⟩])
  .ret) .skip))
def f49_7 : IR :=

  (.seq
  (.seq (.reg [
  ⟨none, (some 57), (.mv (.t 8))⟩,
  ⟨none, (some 58), (.mv (.t 9))⟩,
  ⟨none, (some 59), (.bin .lss (.t 57) (.t 58))⟩])
  (.cond (.t 59) .skip (.exit 1)))
  (.block 2
  (.seq f49_1

  (.seq f49_2

  (.seq (.reg [
  ⟨none, (some 95), (.mv (.t 8))⟩,
  ⟨none, (some 96), (.bin .add (.t 95) (.c (.cv (.sc (.int .i64 1)))))⟩,
  ⟨none, (some 8), (.mv (.t 96))⟩])

  (.seq (.reg [
  ⟨none, (some 97), (.mv (.t 10))⟩,
  ⟨none, (some 98), (.bin .add (.t 97) (.c (.cv (.sc (.int .i64 1)))))⟩,
  ⟨none, (some 10), (.mv (.t 98))⟩])

  (.seq (.loop f49_3)
  (.cond (.t 107)
  (.seq (.reg [
  ⟨none, (some 108), (.mv (.t 0))⟩,
  ⟨none, (some 109), (.mv (.t 8))⟩,
  ⟨none, (some 110), (.slS (.t 108) (some (.t 109)) none)⟩,
  ⟨none, (some 111), (.mv (.t 1))⟩,
  ⟨none, (some 112), (.call 53 true [(.t 110), (.t 111)])⟩,
  ⟨none, (some 12), (.mv (.t 112))⟩])

  (.seq f49_4

  (.seq (.reg [
  ⟨none, (some 4), (.mv (.c (.cv (.sc (.int .i64 (-1))))))⟩])
  .ret)))
  (.seq (.loop f49_5)
  (.cond (.t 132)
  (.seq (.reg [
  ⟨none, (some 133), (.mv (.t 0))⟩,
  ⟨none, (some 134), (.mv (.t 8))⟩,
  ⟨none, (some 135), (.slS (.t 133) (some (.t 134)) none)⟩,
  ⟨none, (some 136), (.mv (.t 1))⟩,
  ⟨none, (some 137), (.call 55 true [(.t 135), (.t 136)])⟩,
  ⟨none, (some 13), (.mv (.t 137))⟩])

  (.seq f49_6

  (.seq (.reg [
  ⟨none, (some 140), (.mv (.t 8))⟩,
  ⟨none, (some 141), (.mv (.t 13))⟩,
  ⟨none, (some 142), (.bin .add (.t 140) (.t 141))⟩,
  ⟨none, (some 4), (.mv (.t 142))⟩])
  .ret))) .skip))))))))))
def f49 : FnIR := ⟨143, [(.t 4)],

  (.seq (.reg [
  ⟨none, (some 4), (.mv (.c (.cv (.sc (.int .i64 0)))))⟩])

  (.seq (.reg [
  ⟨none, (some 14), (.mv (.t 1))⟩,
  ⟨none, (some 15), (.len true (.t 14))⟩,
  ⟨none, (some 5), (.mv (.t 15))⟩])

  (.seq (.block 0
  (.seq (.reg [
  ⟨none, (some 17), (.mv (.t 5))⟩,
  ⟨none, (some 18), (.bin .eql (.t 17) (.c (.cv (.sc (.int .i64 0)))))⟩,
  ⟨none, (some 19), (.mv (.t 18))⟩,
  ⟨(some (19, false)), (some 20), (.mv (.t 1))⟩,
  ⟨(some (19, false)), (some 21), (.mv (.t 0))⟩,
  ⟨(some (19, false)), (some 22), (.bin .eql (.t 20) (.t 21))⟩,
  ⟨none, (some 23), (.pick (.t 19) (.c (.cv (.sc (.bool true)))) (.t 22))⟩,
  ⟨none, (some 16), (.mv (.t 23))⟩])
  (.cond (.t 16)
  (.seq (.reg [
  ⟨none, (some 4), (.mv (.c (.cv (.sc (.int .i64 0)))))⟩])
  .ret)
  (.seq (.reg [
  ⟨none, (some 25), (.mv (.t 5))⟩,
  ⟨none, (some 26), (.bin .eql (.t 25) (.c (.cv (.sc (.int .i64 1)))))⟩,
  ⟨none, (some 24), (.mv (.t 26))⟩])
  (.cond (.t 24)
  (.seq (.reg [
  ⟨none, (some 27), (.mv (.t 0))⟩,
  ⟨none, (some 28), (.mv (.t 1))⟩,
  ⟨none, (some 29), (.ixS (.t 28) (.c (.cv (.sc (.int .i64 0)))))⟩,
  ⟨none, (some 30), (.call 52 true [(.t 27), (.t 29)])⟩,
  ⟨none, (some 4), (.mv (.t 30))⟩])
  .ret)
  (.seq (.reg [
  ⟨none, (some 32), (.mv (.t 5))⟩,
  ⟨none, (some 33), (.mv (.t 0))⟩,
  ⟨none, (some 34), (.len true (.t 33))⟩,
  ⟨none, (some 35), (.bin .geq (.t 32) (.t 34))⟩,
  ⟨none, (some 31), (.mv (.t 35))⟩])
  (.cond (.t 31)
  (.seq (.reg [
  ⟨none, (some 4), (.mv (.c (.cv (.sc (.int .i64 (-1))))))⟩])
  .ret)
  (.seq (.loop f49_0)
  (.cond (.t 36)
  (.seq (.reg [
  ⟨none, (some 45), (.mv (.t 0))⟩,
  ⟨none, (some 46), (.mv (.t 1))⟩,
  ⟨none, (some 47), (.call 53 true [(.t 45), (.t 46)])⟩,
  ⟨none, (some 4), (.mv (.t 47))⟩])
  .ret) .skip)))))))))

  (.seq (.reg [
  ⟨none, (some 48), (.mv (.t 1))⟩,
  ⟨none, (some 49), (.ixS (.t 48) (.c (.cv (.sc (.int .i64 0)))))⟩,
  ⟨none, (some 6), (.mv (.t 49))⟩])

  (.seq (.reg [
  ⟨none, (some 50), (.mv (.t 1))⟩,
  ⟨none, (some 51), (.ixS (.t 50) (.c (.cv (.sc (.int .i64 1)))))⟩,
  ⟨none, (some 7), (.mv (.t 51))⟩])

  (.seq (.reg [
  ⟨none, (some 8), (.mv (.c (.cv (.sc (.int .i64 0)))))⟩])

  (.seq (.reg [
  ⟨none, (some 52), (.mv (.t 0))⟩,
  ⟨none, (some 53), (.len true (.t 52))⟩,
  ⟨none, (some 54), (.mv (.t 5))⟩,
  ⟨none, (some 55), (.bin .sub (.t 53) (.t 54))⟩,
  ⟨none, (some 56), (.bin .add (.t 55) (.c (.cv (.sc (.int .i64 1)))))⟩,
  ⟨none, (some 9), (.mv (.t 56))⟩])

  (.seq (.reg [
  ⟨none, (some 10), (.mv (.c (.cv (.sc (.int .i64 0)))))⟩])

  (.seq (.block 1 (.loop f49_7))

  (.seq (.reg [
  ⟨none, (some 4), (.mv (.c (.cv (.sc (.int .i64 (-1))))))⟩])
  .ret))))))))))⟩
theorem f49_ok : compF Proofs.Tryd.prog [3000004] [] Proofs.Tryd.f49 = some f49 := by kernel_rfl


def F : Nat → Option FnIR := fun n => match n with
  | 3 => some f3
  | 7 => some f7
  | 9 => some f9
  | 12 => some f12
  | 13 => some f13
  | 14 => some f14
  | 15 => some f15
  | 17 => some f17
  | 18 => some f18
  | 22 => some f22
  | 23 => some f23x
  | 24 => some f24
  | 25 => some f25
  | 26 => some f26
  | 29 => some f29
  | 30 => some f30
  | 31 => some f31
  | 34 => some f34
  | 35 => some f35
  | 36 => some f36
  | 37 => some f37
  | 39 => some f39
  | 40 => some f40
  | 41 => some f41
  | 43 => some f43
  | 45 => some f45x
  | 46 => some f46
  | 47 => some f47
  | 49 => some f49
  | 52 => some f52x
  | _ => none

theorem tlt {f : Nat} {fn : FnIR} (h : F f = some fn) : f < YB := by
  unfold F at h
  split at h
  · decide
  · decide
  · decide
  · decide
  · decide
  · decide
  · decide
  · decide
  · decide
  · decide
  · decide
  · decide
  · decide
  · decide
  · decide
  · decide
  · decide
  · decide
  · decide
  · decide
  · decide
  · decide
  · decide
  · decide
  · decide
  · decide
  · decide
  · decide
  · decide
  · decide
  · cases h

theorem tbl0 (h23 : NatOK Proofs.Tryd.prog 23 f23x) (h52 : NatOK Proofs.Tryd.prog 52 f52x) (h45 : NatOK Proofs.Tryd.prog 45 f45x) : TblOK Proofs.Tryd.prog F := by
  refine ⟨by kernel_rfl, fun f fn h => ?_⟩
  unfold F at h
  split at h
  · cases h; exact ⟨by decide, .inl ⟨_, _, _, Proofs.Tryd.func3, by kernel_rfl, f3_ok⟩⟩
  · cases h; exact ⟨by decide, .inl ⟨_, _, _, Proofs.Tryd.func7, by kernel_rfl, f7_ok⟩⟩
  · cases h; exact ⟨by decide, .inl ⟨_, _, _, Proofs.Tryd.func9, by kernel_rfl, f9_ok⟩⟩
  · cases h; exact ⟨by decide, .inl ⟨_, _, _, Proofs.Tryd.func12, by kernel_rfl, f12_ok⟩⟩
  · cases h; exact ⟨by decide, .inl ⟨_, _, _, Proofs.Tryd.func13, by kernel_rfl, f13_ok⟩⟩
  · cases h; exact ⟨by decide, .inl ⟨_, _, _, Proofs.Tryd.func14, by kernel_rfl, f14_ok⟩⟩
  · cases h; exact ⟨by decide, .inl ⟨_, _, _, Proofs.Tryd.func15, by kernel_rfl, f15_ok⟩⟩
  · cases h; exact ⟨by decide, .inl ⟨_, _, _, Proofs.Tryd.func17, by kernel_rfl, f17_ok⟩⟩
  · cases h; exact ⟨by decide, .inl ⟨_, _, _, Proofs.Tryd.func18, by kernel_rfl, f18_ok⟩⟩
  · cases h; exact ⟨by decide, .inl ⟨_, _, _, Proofs.Tryd.func22, by kernel_rfl, f22_ok⟩⟩
  · cases h; exact ⟨by decide, .inr h23⟩
  · cases h; exact ⟨by decide, .inl ⟨_, _, _, Proofs.Tryd.func24, by kernel_rfl, f24_ok⟩⟩
  · cases h; exact ⟨by decide, .inl ⟨_, _, _, Proofs.Tryd.func25, by kernel_rfl, f25_ok⟩⟩
  · cases h; exact ⟨by decide, .inl ⟨_, _, _, Proofs.Tryd.func26, by kernel_rfl, f26_ok⟩⟩
  · cases h; exact ⟨by decide, .inl ⟨_, _, _, Proofs.Tryd.func29, by kernel_rfl, f29_ok⟩⟩
  · cases h; exact ⟨by decide, .inl ⟨_, _, _, Proofs.Tryd.func30, by kernel_rfl, f30_ok⟩⟩
  · cases h; exact ⟨by decide, .inl ⟨_, _, _, Proofs.Tryd.func31, by kernel_rfl, f31_ok⟩⟩
  · cases h; exact ⟨by decide, .inl ⟨_, _, _, Proofs.Tryd.func34, by kernel_rfl, f34_ok⟩⟩
  · cases h; exact ⟨by decide, .inl ⟨_, _, _, Proofs.Tryd.func35, by kernel_rfl, f35_ok⟩⟩
  · cases h; exact ⟨by decide, .inl ⟨_, _, _, Proofs.Tryd.func36, by kernel_rfl, f36_ok⟩⟩
  · cases h; exact ⟨by decide, .inl ⟨_, _, _, Proofs.Tryd.func37, by kernel_rfl, f37_ok⟩⟩
  · cases h; exact ⟨by decide, .inl ⟨_, _, _, Proofs.Tryd.func39, by kernel_rfl, f39_ok⟩⟩
  · cases h; exact ⟨by decide, .inl ⟨_, _, _, Proofs.Tryd.func40, by kernel_rfl, f40_ok⟩⟩
  · cases h; exact ⟨by decide, .inl ⟨_, _, _, Proofs.Tryd.func41, by kernel_rfl, f41_ok⟩⟩
  · cases h; exact ⟨by decide, .inl ⟨_, _, _, Proofs.Tryd.func43, by kernel_rfl, f43_ok⟩⟩
  · cases h; exact ⟨by decide, .inr h45⟩
  · cases h; exact ⟨by decide, .inl ⟨_, _, _, Proofs.Tryd.func46, by kernel_rfl, f46_ok⟩⟩
  · cases h; exact ⟨by decide, .inl ⟨_, _, _, Proofs.Tryd.func47, by kernel_rfl, f47_ok⟩⟩
  · cases h; exact ⟨by decide, .inl ⟨_, _, _, Proofs.Tryd.func49, by kernel_rfl, f49_ok⟩⟩
  · cases h; exact ⟨by decide, .inr h52⟩
  · cases h

end Go.V09
