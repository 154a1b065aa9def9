/-
 Chapter 08: the program's functions, as the small code (printed by a program of ours, checked by the kernel).
-/
import Derived.Test.YtbhoknaipfnlnaaVmAll1
import Derived.Test.YtbhoknaipfnlnaaProg
namespace Go.V08
open Go Go.Vm
theorem eE1 {F : Nat → Option FnIR} {f n : Nat} {fn : FnIR} (hf : F f = some fn) (hn : fn.nt = n) {a0 : VV} {h : ae} {P : VV → ae → Prop} (k : ∀ s : List VV, s.length = n → s.getD 0 .undef = a0 → X F fn.body ⟨s, h⟩ (RQ fn.res P)) (hb : Nat.ble 1 n = true := by rfl) : ∃ v h', call F f [a0] h = some (.ret v, h') ∧ P v h' := by
  subst hn
  exact bc hf (k _ (by have := Nat.le_of_ble_eq_true hb; simp <;> omega) rfl) hb
theorem eE2 {F : Nat → Option FnIR} {f n : Nat} {fn : FnIR} (hf : F f = some fn) (hn : fn.nt = n) {a0 a1 : VV} {h : ae} {P : VV → ae → Prop} (k : ∀ s : List VV, s.length = n → s.getD 0 .undef = a0 → s.getD 1 .undef = a1 → X F fn.body ⟨s, h⟩ (RQ fn.res P)) (hb : Nat.ble 2 n = true := by rfl) : ∃ v h', call F f [a0, a1] h = some (.ret v, h') ∧ P v h' := by
  subst hn
  exact bc hf (k _ (by have := Nat.le_of_ble_eq_true hb; simp <;> omega) rfl rfl) hb
theorem eE3 {F : Nat → Option FnIR} {f n : Nat} {fn : FnIR} (hf : F f = some fn) (hn : fn.nt = n) {a0 a1 a2 : VV} {h : ae} {P : VV → ae → Prop} (k : ∀ s : List VV, s.length = n → s.getD 0 .undef = a0 → s.getD 1 .undef = a1 → s.getD 2 .undef = a2 → X F fn.body ⟨s, h⟩ (RQ fn.res P)) (hb : Nat.ble 3 n = true := by rfl) : ∃ v h', call F f [a0, a1, a2] h = some (.ret v, h') ∧ P v h' := by
  subst hn
  exact bc hf (k _ (by have := Nat.le_of_ble_eq_true hb; simp <;> omega) rfl rfl rfl) hb
theorem eE4 {F : Nat → Option FnIR} {f n : Nat} {fn : FnIR} (hf : F f = some fn) (hn : fn.nt = n) {a0 a1 a2 a3 : VV} {h : ae} {P : VV → ae → Prop} (k : ∀ s : List VV, s.length = n → s.getD 0 .undef = a0 → s.getD 1 .undef = a1 → s.getD 2 .undef = a2 → s.getD 3 .undef = a3 → X F fn.body ⟨s, h⟩ (RQ fn.res P)) (hb : Nat.ble 4 n = true := by rfl) : ∃ v h', call F f [a0, a1, a2, a3] h = some (.ret v, h') ∧ P v h' := by
  subst hn
  exact bc hf (k _ (by have := Nat.le_of_ble_eq_true hb; simp <;> omega) rfl rfl rfl rfl) hb
theorem eE5 {F : Nat → Option FnIR} {f n : Nat} {fn : FnIR} (hf : F f = some fn) (hn : fn.nt = n) {a0 a1 a2 a3 a4 : VV} {h : ae} {P : VV → ae → Prop} (k : ∀ s : List VV, s.length = n → s.getD 0 .undef = a0 → s.getD 1 .undef = a1 → s.getD 2 .undef = a2 → s.getD 3 .undef = a3 → s.getD 4 .undef = a4 → X F fn.body ⟨s, h⟩ (RQ fn.res P)) (hb : Nat.ble 5 n = true := by rfl) : ∃ v h', call F f [a0, a1, a2, a3, a4] h = some (.ret v, h') ∧ P v h' := by
  subst hn
  exact bc hf (k _ (by have := Nat.le_of_ble_eq_true hb; simp <;> omega) rfl rfl rfl rfl rfl) hb
abbrev aai : VV := .cv (.sc (.bool true))
abbrev abx : VV := .cv (.sc (.bool false))
abbrev Tf : VV := .cv (.sc (.slice none 0 0))
abbrev ala : VV := .cv (.sc (.string ⟨#[]⟩))
abbrev ak (l : List Op1) (c : IR) : IR := .seq (.reg l) c
abbrev da (n : Nat) (a b : IR) : IR := .cond (.t n) a b
abbrev um : Cl := .r 0 1
abbrev ab (a b : Nat) : Op1 := ⟨none, some a, .mv (.t b)⟩
abbrev ay (a b : Nat) : Op1 := ⟨none, some a, .ld false 1 (.t b)⟩
abbrev bo (a b c : Nat) : Op1 := ⟨none, some a, .ext (.t b) c⟩
abbrev bq (a b c : Nat) : Op1 := ⟨none, some a, .fad b (.t c)⟩
abbrev ce (a : Nat) (b : Int) : Op1 := ⟨none, some a, .mv (.c (vi .i64 b))⟩
abbrev co (a b c : Nat) : Op1 := ⟨none, none, .st a (.t b) (.t c)⟩
abbrev dg (a : Nat) : Op1 := ⟨none, some a, .mv (.c Tf)⟩
abbrev di (a b : Nat) : Op1 := ⟨none, some a, .len false (.t b)⟩
abbrev dp (a : Nat) (b : Int) : Op1 := ⟨none, some a, .mv (.c (vi .u16 b))⟩
abbrev eo (a b : Nat) : Op1 := ⟨none, some a, .nilck (.t b)⟩
abbrev gj (a b : Nat) (c : Int) : Op1 := ⟨none, some a, .bin .add (.t b) (.c (vi .i64 c))⟩
abbrev gn (a : Nat) : Op1 := ⟨none, some a, .mv (.c abx)⟩
abbrev gx (a b c : Nat) : Op1 := ⟨some (a, false), some b, .mv (.t c)⟩
abbrev iq (a b c d : Nat) : Op1 := ⟨none, some a, .iadL b (.t c) (.t d)⟩
abbrev iy (a b c : Nat) : Op1 := ⟨none, some a, .ld true b (.t c)⟩
abbrev jg (a b c : Nat) : Op1 := ⟨none, some a, .call b true [.t c]⟩
abbrev jp (a b c : Nat) : Op1 := ⟨none, some a, .pick (.t b) (.c aai) (.t c)⟩
abbrev jm (a b c : Nat) : Op1 := ⟨some (a, true), some b, .mv (.t c)⟩
abbrev kk (a b c : Nat) : Op1 := ⟨none, some a, .bin .lss (.t b) (.t c)⟩
abbrev ls (a b c : Nat) : Op1 := ⟨none, some a, .call b false [.t c]⟩
abbrev mw (a b c : Nat) : Op1 := ⟨none, some a, .pick (.t b) (.t c) (.c abx)⟩
abbrev mu (a b c : Nat) : Op1 := ⟨none, some a, .bin .add (.t b) (.t c)⟩
abbrev ol (a b : Nat) : Op1 := ⟨none, some a, .un .not (.t b)⟩
abbrev qk (a b : Nat) : Op1 := ⟨none, some a, .cvI .u8 (.t b)⟩
abbrev tj (a b : Nat) (c : Int) : Op1 := ⟨none, some a, .bin .lss (.t b) (.c (vi .i64 c))⟩
abbrev th (a b c : Nat) : Op1 := ⟨none, some a, .box b (.t c)⟩
abbrev tw (a b c d : Nat) : Op1 := ⟨none, some a, .call b false [.t c, .t d]⟩
abbrev vw (a b c d : Nat) : Op1 := ⟨none, some a, .slL b (.t c) (some (.t d)) none none⟩
abbrev wi (a b : Nat) : Op1 := ⟨none, some a, .cvI .i64 (.t b)⟩
abbrev xy (a b c : Nat) : Op1 := ⟨none, some a, .app 1 1 [.sc (.int .u8 0)] (.t b) (.t c)⟩
abbrev wy (a b c : Nat) (d : Int) : Op1 := ⟨none, some a, .iadL b (.t c) (.c (vi .i64 d))⟩
abbrev yw (a b c : Nat) : Op1 := ⟨some (a, false), some b, .len false (.t c)⟩
abbrev Bj (a b : Nat) : Op1 := ⟨none, some a, .bin .neq (.t b) (.c (vi .u16 0))⟩
abbrev Cw (a b c : Nat) (d : Int) : Op1 := ⟨some (a, false), some b, .bin .gtr (.t c) (.c (vi .i64 d))⟩
abbrev Cq (a : Nat) (b : Int) (c : Nat) : Op1 := ⟨none, some a, .bin .add (.c (vi .i64 b)) (.t c)⟩
abbrev Co (a b : Nat) (c : Int) : Op1 := ⟨none, some a, .bin .eql (.t b) (.c (vi .i64 c))⟩
abbrev Cp (a b c d : Nat) : Op1 := ⟨none, some a, .call b true [.t c, .t d]⟩
abbrev Hw (a b : Nat) : Op1 := ⟨none, some a, .eqn .ptr false (.t b)⟩
abbrev Iv (a : Nat) : Op1 := ⟨none, some a, .alloc [.cv (.sc (.string ⟨#[]⟩)), .cv (.sc (.slice none 0 0))]⟩
abbrev Iw (a b c : Nat) : Op1 := ⟨some (a, false), some b, .ld false 1 (.t c)⟩
abbrev Je  : Op1 := ⟨none, some 2, .mv (.c (.cv (.sc (.pointer none))))⟩
abbrev Jj (a : Nat) : Op1 := ⟨none, some a, .alloc [.cv (.sc (.int .i64 0)), .cv (.sc (.int .i64 0)), .cv (.sc (.int .i64 0))]⟩
abbrev Ka (a : Nat) : Op1 := ⟨none, some a, .mv (.c aai)⟩
abbrev Ie (a b : Nat) (c : Int) : Op1 := ⟨none, some a, .bin .gtr (.t b) (.c (vi .i64 c))⟩
abbrev Ia (a b c d : Nat) : Op1 := ⟨none, some a, .cpy b (.t c) (.t d)⟩
abbrev Jh (a b c : Nat) (d : Int) : Op1 := ⟨none, some a, .iadA b 1 (.t c) (.c (vi .i64 d))⟩
abbrev Ih (a b c : Nat) : Op1 := ⟨none, some a, .bin .eql (.t b) (.t c)⟩
abbrev Jv (a b c d : Nat) : Op1 := ⟨none, some a, .slL b (.t c) none (some (.t d)) none⟩
abbrev Ld (a b c d : Nat) : Op1 := ⟨some (a, false), some b, .call c false [.t d]⟩
abbrev Mr (a b : Nat) : Op1 := ⟨none, some a, .mkif 23 (.t b)⟩
abbrev Nh (a b c : Nat) : Op1 := ⟨none, some a, .slA b 1 (.t c) none none⟩
abbrev Md (a b c d : Nat) : Op1 := ⟨some (a, true), some b, .fad c (.t d)⟩
abbrev Mp (a b c : Nat) : Op1 := ⟨some (a, true), some b, .ld false 1 (.t c)⟩
abbrev Nb (a b : Nat) (c : Int) : Op1 := ⟨none, some a, .bin .shr (.t b) (.c (vi .u64 c))⟩
abbrev Sf (a b : Nat) : Op1 := ⟨none, some a, .cvBS (.t b)⟩
abbrev Qn (a b c d : Nat) : Op1 := ⟨some (a, false), some b, .fad c (.t d)⟩
abbrev Qf (a b c : Nat) : Op1 := ⟨none, some a, .bin .sub (.t b) (.t c)⟩
abbrev Vb (a : Nat) : Op1 := ⟨none, some a, .alloc [.cv (.sc (.string ⟨#[]⟩)), .cv (.sc (.slice none 0 0)), .cv (.sc (.bool false))]⟩
abbrev Yf (a b c d : Nat) : Op1 := ⟨some (a, true), some b, .call c false [.t d]⟩
abbrev Wu (a b c : Nat) (d : Int) : Op1 := ⟨some (a, true), some b, .bin .eql (.t c) (.c (vi .i64 d))⟩
abbrev Vt (a b c : Nat) : Op1 := ⟨some (a, false), some b, .un .not (.t c)⟩
abbrev Wt (a b c : Nat) : Op1 := ⟨none, some a, .bin .gtr (.t b) (.t c)⟩
abbrev Xe (a b : Nat) : Op1 := ⟨none, some a, .mksl 1 1 [.cv (.sc (.slice none 0 0))] [(0, (1, .t b))] false⟩
abbrev Vc (a b c : Nat) : Op1 := ⟨none, some a, .app 1 24 [.sc (.slice none 0 0)] (.t b) (.t c)⟩
abbrev Ti (a b c : Nat) (d : Int) : Op1 := ⟨none, some a, .call b false [.t c, .c (vi .i64 d)]⟩
abbrev Uq (a b : Nat) (c : Int) : Op1 := ⟨none, some a, .bin .geq (.t b) (.c (vi .i64 c))⟩
abbrev Xh (a b c : Nat) : Op1 := ⟨none, some a, .callv false (.t b) [.t c]⟩
abbrev Td (a b c : Nat) : Op1 := ⟨none, some a, .bin .or (.t b) (.t c)⟩
abbrev Xn (a b c : Nat) : Op1 := ⟨none, some a, .app 2 40 [.sc (.string ⟨#[]⟩), .sc (.slice none 0 0)] (.t b) (.t c)⟩
abbrev Yc (a b : Nat) : Op1 := ⟨none, some a, .bin .eql (.t b) (.c (vi .u16 0))⟩
abbrev Yx (a b c : Nat) : Op1 := ⟨some (a, false), some b, .bin .neq (.t c) (.c (vi .u16 0))⟩
abbrev Yz (a b : Nat) (c : Int) : Op1 := ⟨none, some a, .bin .eql (.t b) (.c (vi .u8 c))⟩
abbrev aar (a b : Nat) : Op1 := ⟨none, some a, .inv [(17, 116), (23, 29)] (.t b) []⟩
abbrev aa3 (a b : Nat) (c : Int) : Op1 := ⟨none, some a, .bin .sub (.t b) (.c (vi .i64 c))⟩
abbrev aan (a b c d e : Nat) : Op1 := ⟨none, some a, .call b false [.t c, .t d, .t e]⟩
abbrev Zg (a b c d : Nat) : Op1 := ⟨none, some a, .iadA b 1 (.t c) (.t d)⟩
abbrev aac (a b : Nat) (c : Int) : Op1 := ⟨none, some a, .bin .shl (.t b) (.c (vi .u64 c))⟩
abbrev abc (a b c : Nat) (d : Int) : Op1 := ⟨none, some a, .call 99 true [.t b, .t c, .c (vi .i64 d)]⟩
abbrev aas  : Op1 := ⟨none, some 6, .mv (.c ala)⟩
abbrev ags (a b : Nat) : Op1 := ⟨none, some a, .call b true []⟩
abbrev adf (a b : Nat) : Op1 := ⟨none, some a, .mksl 3 1 [.cv (.sc (.string ⟨#[]⟩)), .cv (.sc (.slice none 0 0)), .cv (.sc (.bool false))] [(0, (3, .t b))] false⟩
abbrev ads (a b : Nat) : Op1 := ⟨none, some a, .mksl 1 1 [.cv (.sc (.int .u8 0))] [(0, (1, .t b))] false⟩
abbrev aeg (a : Nat) (b : Int) : Op1 := ⟨none, some a, .call 10 false [.c (vi .i64 b)]⟩
abbrev ag1 (a b c : Nat) : Op1 := ⟨some (a, true), some b, .len false (.t c)⟩
abbrev ae2 (a b c d : Nat) : Op1 := ⟨some (a, false), some b, .bin .gtr (.t c) (.t d)⟩
abbrev ado (a b c d e : Nat) : Op1 := ⟨none, some a, .call b true [.t c, .t d, .t e]⟩
abbrev adk (a b c d : Nat) : Op1 := ⟨none, some a, .inv [(23, 31)] (.t b) [.t c, .t d]⟩
abbrev afq (a b : Nat) : Op1 := ⟨none, some a, .inv [(23, 32)] (.t b) []⟩
abbrev af5 (a : Nat) (b : Int) (c : Nat) : Op1 := ⟨none, some a, .bin .sub (.c (vi .i64 b)) (.t c)⟩
abbrev agp (a : Nat) : Op1 := ⟨none, none, .st 1 (.t a) (.c (vi .i64 0))⟩
abbrev aek (a b c d : Nat) : Op1 := ⟨some (a, true), some b, .bin .leq (.t c) (.t d)⟩
abbrev aer (a b c : Nat) : Op1 := ⟨none, some a, .mkfn b [.t c]⟩
abbrev ad0 (a b : Nat) : Op1 := ⟨none, some a, .mksl 2 1 [.cv (.sc (.string ⟨#[]⟩)), .cv (.sc (.slice none 0 0))] [(0, (2, .t b))] false⟩
abbrev agl (a b : Nat) : Op1 := ⟨none, some a, .len true (.t b)⟩
abbrev adx (a : Nat) : Op1 := ⟨none, none, .panic (.t a)⟩
abbrev aes (a b c : Nat) (d : Int) : Op1 := ⟨some (a, true), some b, .bin .leq (.t c) (.c (vi .i64 d))⟩
abbrev age (a : Nat) (b : Int) (c : Nat) : Op1 := ⟨none, some a, .bin .mul (.c (vi .i64 b)) (.t c)⟩
abbrev afv (a b : Nat) : Op1 := ⟨none, some a, .cap (.t b)⟩
abbrev aex (a b c : Nat) (d : Int) : Op1 := ⟨some (a, true), some b, .bin .gtr (.t c) (.c (vi .i64 d))⟩
abbrev ag2 (a : Nat) : Op1 := ⟨none, some a, .build [.cv (.sc (.string ⟨#[]⟩)), .cv (.sc (.slice none 0 0)), .cv (.sc (.bool false))] []⟩
abbrev ae5 (a b c : Nat) : Op1 := ⟨none, some a, .bin .xor (.t b) (.t c)⟩
abbrev aik (a b : Nat) (c : Int) : Op1 := ⟨none, some a, .bin .gtr (.t b) (.c (vi .u8 c))⟩
abbrev akv (a b : Nat) : Op1 := ⟨none, some a, .build [.cv (.sc (.string ⟨#[]⟩)), .cv (.sc (.slice none 0 0)), .cv (.sc (.bool false))] [(0, (1, .t b)), (2, (1, .c aai))]⟩
abbrev air (a b : Nat) (c : Int) : Op1 := ⟨none, some a, .bin .rem (.t b) (.c (vi .u8 c))⟩
abbrev aip (a b c : Nat) : Op1 := ⟨none, some a, .build [.cv (.sc (.string ⟨#[]⟩)), .cv (.sc (.slice none 0 0)), .cv (.sc (.bool false))] [(0, (1, .t b)), (1, (1, .t c))]⟩
abbrev aiz (a b c : Nat) : Op1 := ⟨none, some a, .app 3 48 [.sc (.string ⟨#[]⟩), .sc (.slice none 0 0), .sc (.bool false)] (.t b) (.t c)⟩
abbrev ah0 (a b c : Nat) : Op1 := ⟨some (a, true), some b, .bin .eql (.t c) (.c (vi .u16 0))⟩
abbrev ajg (a b : Nat) (c : Int) : Op1 := ⟨none, some a, .bin .quo (.t b) (.c (vi .i64 c))⟩
abbrev ahl (a b c d : Nat) : Op1 := ⟨none, some a, .bin .add (.t b) (.c (.cv (.sc (.complex .f64 c d))))⟩
abbrev aje  : Op1 := ⟨none, some 9, .alloc [.cv (.sc (.int .i64 0))]⟩
abbrev aji (a b c d : Nat) : Op1 := ⟨none, some a, .build [.cv (.sc (.int .i64 0)), .cv (.sc (.int .i64 0)), .cv (.sc (.int .i64 0))] [(0, (1, .t b)), (1, (1, .t c)), (2, (1, .t d))]⟩
abbrev ajs (a b : Nat) : Op1 := ⟨none, some a, .bin .mul (.t b) (.c (vi .i64 4))⟩
abbrev akh (a b c : Nat) : Op1 := ⟨none, some a, .build [.cv (.sc (.string ⟨#[]⟩)), .cv (.sc (.slice none 0 0))] [(0, (1, .t b)), (1, (1, .t c))]⟩
abbrev ahn (a b c : Nat) : Op1 := ⟨none, some a, .call b false [.c Tf, .t c]⟩
abbrev ajn (a : Nat) : Op1 := ⟨none, some a, .mv (.c (.cv (.sc .nilFunc)))⟩
abbrev ai2 (a : Nat) (b : Int) : Op1 := ⟨none, some a, .mksl 1 1 [.cv (.sc (.int .u8 0))] [(0, (1, .c (vi .u8 b)))] false⟩
abbrev aj6 (a : Nat) (b : Int) : Op1 := ⟨none, some a, .slA 60 1 (.t 11) (some (.c (vi .i64 b))) none⟩
abbrev akn  : Op1 := ⟨none, some 4, .eqn .slice false (.t 3)⟩
abbrev ajq (a : Nat) : Op1 := ⟨none, none, .st 1 (.t a) (.c Tf)⟩
abbrev ah1 (a b c : Nat) : Op1 := ⟨none, some a, .slL 1 (.t b) (some (.c (vi .i64 11))) (some (.t c)) none⟩
abbrev ahc (a : Nat) : Op1 := ⟨none, some a, .alloc [.cv (.sc (.slice none 0 0))]⟩
abbrev ajk (a : Nat) : Op1 := ⟨none, some a, .mv (.c (vi .u32 0))⟩
abbrev akr (a b : Nat) (c : Int) : Op1 := ⟨none, some a, .bin .and (.t b) (.c (vi .u8 c))⟩
def f3_0 : IR := ak [ab 18 5, Hw 19 18, ab 20 19, gx 20 21 6, ⟨some (20, false), some 22, .eqn .ptr false (.t 21)⟩, jp 23 20 22, ab 24 23, gx 24 25 1,
 yw 24 26 25, Cw 24 27 26 40, jp 28 24 27, ab 29 28, gx 29 30 5, Ld 29 31 11 30, Yx 29 32 31, jp 33 29 32, ab 34 33, gx 34 35 6, Ld 34 36 11 35,
 Yx 34 37 36, jp 38 34 37] (da 38 (ak [ags 39 12, ab 4 39] .ret) .skip)
def f3_1 : IR := ak [ab 50 8, Bj 51 50, ab 52 51, gx 52 53 10, Yx 52 54 53, jp 55 52 54] (da 55 (ak [gn 4] .ret) .skip)
def f3_2 : IR := ak [ab 77 1, ab 78 12, iq 79 1 77 78, ay 80 79, aik 81 80 200] (da 81 (.reg [bq 82 0 13, ay 83 82, akv 84 83, co 3 13 84]) .skip)
def f3_3 : IR := ak [ab 89 7, iy 90 3 13, adf 91 90, tw 92 14 89 91, Bj 93 92] (da 93 (ak [gn 4] .ret) .skip)
def f3_4 : IR := .seq (ak [ab 56 12, ab 57 1, di 58 57, kk 59 56 58] (da 59 .skip (.exit 0))) (.seq (.block 1 (.seq (.draw [(ab 62 1,.p), (ab 63 12,.p),
 (iq 64 1 62 63, um), (ay 65 64, um), (air 66 65 16,.p), (⟨none, some 67, .bin .add (.c (vi .u8 97)) (.t 66)⟩, .p), (ads 68 67, um), (Sf 69 68, um),
 (ab 70 1,.p), (ab 71 12,.p), (iq 72 1 70 71, um), (ay 73 72, um), (ab 74 0,.p), (⟨none, some 75, .mksl 1 2 [.cv (.sc (.int .u8 0)), .cv (.sc (.int .u8 0))] [(0,
 (1, .t 73)), (1, (1, .t 74))] false⟩, um), (aip 76 69 75,.p), (Vb 13,.k), (co 3 13 76,.k)]) (.seq f3_2 (ak [ab 85 11, iy 86 3 13, adf 87 86, aiz 88 85 87,
 ab 11 88] (.seq f3_3 (ak [ab 94 1, ab 95 12, iq 96 1 94 95, ay 97 96, air 98 97 8, Yz 99 98 0, ab 100 99, jm 100 101 7, Yf 100 102 15 101,
 ⟨some (100, true), some 103, .bin .neq (.t 102) (.c (vi .u16 0))⟩, mw 104 100 103] (da 104 (ak [gn 4] .ret) .skip))))))) (.reg [ab 60 12, gj 61 60 1, ab 12 61]))
def f3_5 : IR := ak [ab 105 9, ab 106 11, tw 107 14 105 106, Bj 108 107, ab 109 108, gx 109 110 7, Ld 109 111 16 110, yw 109 112 111, gx 109 113 9,
 Ld 109 114 16 113, yw 109 115 114, ⟨some (109, false), some 116, .bin .neq (.t 112) (.t 115)⟩, jp 117 109 116] (da 117 (ak [gn 4] .ret) .skip)
def f3_6 : IR := da 122 .skip (.exit 2)
def f3_7 : IR := ak [kk 122 121 120] (.seq f3_6 (.seq (.block 3 (ak [ab 123 121, iq 124 2 119 121, iy 125 2 124, Iv 15, ab 14 123,
 co 2 15 125] (.seq (.draw [(ab 126 7,.p), (ls 127 16 126,.k), (ab 128 14,.p), (iq 129 2 127 128, .r 1 1), (bq 130 0 129,.p), (ay 131 130, .r 1 1),
 (bq 132 0 15,.p), (ay 133 132, um), (⟨none, some 134, .bin .neq (.t 131) (.t 133)⟩, .p), (ab 135 134,.p), (gx 135 136 7,.p), (Ld 135 137 16 136,.k),
 (gx 135 138 14,.p), (⟨some (135, false), some 139, .iadL 2 (.t 137) (.t 138)⟩, .r 2 2), (Qn 135 140 1 139,.p), (Iw 135 141 140, .r 2 2), (⟨some (135, false), some 142,
 .cvBS (.t 141)⟩, .r 2 2), (Qn 135 143 1 15,.p), (Iw 135 144 143, .r 1 2), (⟨some (135, false), some 145, .cvBS (.t 144)⟩, .r 1 2), (⟨some (135, false), some 146,
 .bin .neq (.t 142) (.t 145)⟩, .p), (jp 147 135 146,.p)]) (da 147 (ak [gn 4] .ret) .skip)))) (.reg [gj 148 121 1, ab 121 148])))
def f3 : FnIR := ⟨150, [.t 4], ak [gn 4] (ak [aeg 16 1000, ab 5 16] (ak [aeg 17 1000, ab 6 17] (.seq f3_0 (ak [ab 41 5, ls 42 13 41, ab 40 42,
 bo 43 40 0, bo 44 40 1, ab 7 43, ab 8 44] (ak [ab 46 6, ls 47 13 46, ab 45 47, bo 48 45 0, bo 49 45 1, ab 9 48,
 ab 10 49] (.seq f3_1 (ak [dg 11] (.seq (ak [ce 12 0] (.block 0 (.loop f3_4))) (.seq f3_5 (.seq (ak [ab 118 9, ls 119 16 118, di 120 119,
 ce 121 0] (.block 2 (.loop f3_7))) (ak [ags 149 12, ab 4 149] .ret)))))))))))⟩
def f10_0 : IR := ak [ab 3 0, tj 4 3 0, ab 5 4, gx 5 6 0, Cw 5 7 6 4096, jp 8 5 7] (da 8 (ak [Je] .ret) .skip)
def f10 : FnIR := ⟨13, [.t 2], ak [Je] (.seq f10_0 (ak [ab 9 0, ⟨none, some 10, .mks 64 64 (List.replicate 64 (.sc (.int .u8 0))) (.t 9) (.t 9) true⟩, ⟨none, some 11,
 .build [.cv (.sc (.slice none 0 0)), .cv (.sc (.slice none 0 0)), .cv (.sc (.complex .f64 0 0)), .cv (.sc (.bool false)), .cv (.sc (.int .i64 0))] [(0, (1, .t 10))]⟩,
 th 12 5 11, ab 2 12] .ret))⟩
def f11_0 : IR := ak [ab 8 0, ls 9 29 8, tj 10 9 64] (da 10 (ak [dp 2 20] .ret) .skip)
def f11_1 : IR := da 20 .skip (.exit 0)
def f11_2 : IR := ak [kk 20 19 18] (.seq f11_1 (.seq (.block 1 (ak [ab 21 19, ab 5 21] (.reg [ab 22 0, ab 23 5, ⟨none, some 24, .call 31 false [.t 22, .t 23,
 .c Tf]⟩]))) (.reg [gj 25 19 1, ab 19 25])))
def f11 : FnIR := ⟨38, [.t 2], ak [dp 2 0] (.seq f11_0 (ak [ab 12 0, ls 13 29 12, jg 14 30 13, ab 11 14, bo 15 11 0, bo 16 11 1, ab 3 15,
 ab 4 16] (.seq (ak [ab 17 3, Cq 18 2 17, ce 19 0] (.block 0 (.loop f11_2))) (ak [ab 26 0, ls 27 32 26] (ak [ab 29 0, Mr 30 29, ⟨none, some 31,
 .call 33 false [.t 30, .c Tf]⟩, ab 28 31, bo 32 28 0, bo 33 28 1, ab 6 32, ab 7 33] (ak [ab 34 0, Mr 35 34, ab 36 6, ⟨none, some 37,
 .call 34 false [.t 35, .t 36, .c (vi .i64 0), .c (vi .i64 1)]⟩] (ak [dp 2 0] .ret)))))))⟩
def f12_0 : IR := ak [ab 11 3, Hw 12 11, ab 13 12, gx 13 14 3, Ld 13 15 11 14, Yx 13 16 15, jp 17 13 16] (da 17 (ak [gn 0] .ret) .skip)
def f12 : FnIR := ⟨57, [.t 0], ak [gn 0] (ak [⟨none, some 7, .call 30 true [.c (vi .i64 64)]⟩, ab 6 7, bo 8 6 0, bo 9 6 1, ab 1 8, ab 2 9] (ak [aeg 10 64,
 ab 3 10] (.seq f12_0 (ak [ab 19 3, ls 20 13 19, ab 18 20, bo 21 18 0, bo 22 18 1, ab 4 21, ab 5 22] (ak [ab 23 1, Co 24 23 16, ab 25 24,
 jm 25 26 2, Wu 25 27 26 5, mw 28 25 27, ab 29 28, jm 29 30 5, ah0 29 31 30, mw 32 29 31, ab 33 32, jm 33 34 4, Yf 33 35 20 34, Wu 33 36 35 2,
 mw 37 33 36, ab 38 37, jm 38 39 4, Yf 38 40 16 39, ag1 38 41 40, Wu 38 42 41 0, mw 43 38 42, ab 44 43, jm 44 45 4, ⟨some (44, true), some 46,
 .build [.cv (.sc (.string ⟨#[]⟩)), .cv (.sc (.slice none 0 0)), .cv (.sc (.bool false))] [(0, (1, .c (.cv (.sc (.string ⟨#[97]⟩)))))]⟩, ⟨some (44, true), some 47,
 .mksl 3 1 [.cv (.sc (.string ⟨#[]⟩)), .cv (.sc (.slice none 0 0)), .cv (.sc (.bool false))] [(0, (3, .t 46))] false⟩, ⟨some (44, true), some 48, .call 14 false [.t 45, .t 47]⟩,
 ah0 44 49 48, mw 50 44 49, ab 51 50, jm 51 52 4, Yf 51 53 16 52, ag1 51 54 53, Wu 51 55 54 1, mw 56 51 55, ab 0 56] .ret)))))⟩
def f13_0 : IR := ak [ab 17 0, ls 18 29 17, tj 19 18 64] (da 19 (ak [Je, dp 3 20] .ret) .skip)
def f13_1 : IR := ak [ab 26 5, ol 27 26] (da 27 (ak [Je, dp 3 11] .ret) .skip)
def f13_2 : IR := ak [ab 35 7, Bj 36 35] (da 36 (ak [ab 37 7, Je, ab 3 37] .ret) .skip)
def f13_3 : IR := da 57 .skip (.exit 0)
def f13_4 : IR := ak [kk 57 56 55] (.seq f13_3 (.seq (.block 1 (ak [iq 58 1 54 56, ay 59 58, ab 13 59] (.reg [ab 60 6, ab 61 13, Cp 62 39 60 61,
 ab 6 62]))) (.reg [gj 63 56 1, ab 56 63])))
def f13 : FnIR := ⟨87, [.t 2, .t 3], ak [Je, dp 3 0] (.seq f13_0 (ak [ab 21 0, Mr 22 21, ls 23 35 22, ab 20 23, bo 24 20 0, bo 25 20 1, Jj 4,
 co 3 4 24, ab 5 25] (.seq f13_1 (ak [ab 29 0, Mr 30 29, iy 31 3 4, tw 32 36 30 31, ab 28 32, bo 33 28 0, bo 34 28 1, ab 6 33,
 ab 7 34] (.seq f13_2 (ak [ab 39 0, ls 40 29 39, jg 41 30 40, ab 38 41, bo 42 38 0, bo 43 38 1, ab 8 42, ab 9 43] (.seq (.draw [(bq 45 0 4,.p),
 (ay 46 45, um), (ab 47 0,.p), (Mr 48 47,.p), (ab 49 8,.p), (⟨none, some 50, .call 38 false [.t 48, .c (vi .i64 2), .t 49]⟩, .k), (Cp 51 37 46 50,.k),
 (ab 44 51,.p), (bo 52 44 0,.p), (bo 53 44 1,.p), (ab 10 52,.p), (ab 11 53,.p)]) (.seq (ak [ab 54 10, di 55 54,
 ce 56 0] (.block 0 (.loop f13_4))) (.seq (ak [ab 65 0, Mr 66 65, ab 67 6, tw 68 33 66 67, ab 64 68, bo 69 64 0, bo 70 64 1, ab 14 69,
 ab 15 70] (.block 2 (ak [ab 72 15, ol 73 72, ab 71 73] (da 71 (ak [Je, dp 3 21] .ret) (ak [bq 75 0 4, ay 76 75, Co 77 76 1073741824,
 ab 74 77] (da 74 (ak [Je, dp 3 32] .ret) .skip)))))) (ak [ab 78 0, Mr 79 78, ab 80 6, iy 81 3 4, ⟨none, some 82, .build [.cv (.sc .nilIface),
 .cv (.sc (.slice none 0 0)), .cv (.sc (.int .i64 0)), .cv (.sc (.int .i64 0)), .cv (.sc (.int .i64 0)), .cv (.sc (.int .i64 0)), .cv (.sc (.int .i64 0))] [(0, (1, .t 79)), (1, (1,
 .t 80)), (2, (3, .t 81))]⟩, th 83 7 82, ab 16 83] (ak [ab 84 16, ab 85 16, ls 86 15 85, ab 2 84, ab 3 86] .ret)))))))))))⟩
def f14_0 : IR := ak [ab 63 9, ol 64 63, ab 65 64, gx 65 66 11, Vt 65 67 66, jp 68 65 67, ab 69 68, gx 69 70 10, yw 69 71 70, gx 69 72 6,
 ae2 69 73 71 72, jp 74 69 73] (da 74 (ak [dp 4 21] .ret) .skip)
def f14_1 : IR := ak [ab 75 0, eo 76 75, bq 77 5 76, ay 78 77, ab 79 10, di 80 79, mu 81 78 80, ab 82 6, Wt 83 81 82] (da 83 (.seq (ak [ab 84 0,
 ls 85 15 84, ab 12 85] (ak [ab 86 12, Bj 87 86] (da 87 (ak [ab 88 12, ab 4 88] .ret) .skip))) (.draw [(ab 90 0,.p), (eo 91 90,.p), (bq 92 2 91,.p),
 (bq 93 0 92,.p), (ay 94 93, .r 0 0), (ab 95 0,.p), (eo 96 95,.p), (bq 97 6 96,.p), (ay 98 97, .r 0 0), (ab 99 1,.p), (ado 100 19 94 98 99, .r 0 0),
 (ab 89 100,.p), (bo 101 89 0,.p), (bo 102 89 1,.p), (ab 10 101,.p)])) .skip)
def f14_2 : IR := da 106 .skip (.exit 1)
def f14_3 : IR := ak [kk 106 105 104] (.seq f14_2 (.seq (.block 2 (ak [ab 107 105, iq 108 1 103 105, ay 109 108, ab 13 107,
 ab 14 109] (.draw [(ab 110 0,.p), (eo 111 110,.p), (bq 112 0 111,.p), (ay 113 112, .r 0 0), (ab 114 0,.p), (eo 115 114,.p), (bq 116 5 115,.p),
 (ay 117 116, .r 0 0), (Cq 118 2 117,.p), (ab 119 13,.p), (mu 120 118 119,.p), (ab 121 14,.p), (eo 122 113,.p), (ab 123 113,.p),
 (adk 124 123 120 121,.k)]))) (.reg [gj 125 105 1, ab 105 125])))
def f14 : FnIR := ⟨152, [.t 4], ak [dp 4 0] (.seq (.block 0 (ak [ab 16 0, Hw 17 16, ab 15 17] (da 15 (ak [dp 4 30] .ret) (ak [ab 19 1, di 20 19,
 Co 21 20 0, ab 18 21] (da 18 (ak [dp 4 0] .ret) (ak [ab 23 1, ⟨none, some 24, .call 40 true [.t 23, .c (.func 41 [])]⟩,
 ab 22 24] (da 22 (ak [dp 4 3] .ret) .skip))))))) (ak [ab 25 0, eo 26 25, bq 27 1 26, ay 28 27, ab 29 1, Cp 30 39 28 29, ab 5 30] (ak [ab 32 0,
 eo 33 32, bq 34 0 33, ay 35 34, aar 36 35, jg 37 30 36, ab 31 37, bo 38 31 0, bo 39 31 1, ab 6 38, ab 7 39] (ak [ab 41 0, eo 42 41,
 bq 43 0 42, ay 44 43, ab 45 5, tw 46 33 44 45, ab 40 46, bo 47 40 0, bo 48 40 1, ab 8 47, ab 9 48] (.seq (.draw [(ab 50 0,.p), (eo 51 50,.p),
 (bq 52 2 51,.p), (bq 53 0 52,.p), (ay 54 53, .r 0 0), (ab 55 0,.p), (eo 56 55,.p), (bq 57 6 56,.p), (ay 58 57, .r 0 0), (ab 59 1,.p), (ado 60 19 54 58 59,
 .r 0 0), (ab 49 60,.p), (bo 61 49 0,.p), (bo 62 49 1,.p), (ab 10 61,.p), (ab 11 62,.p)]) (.seq f14_0 (.seq f14_1 (.seq (ak [ab 103 10, di 104 103,
 ce 105 0] (.block 1 (.loop f14_3))) (ak [ab 126 0, eo 127 126, bq 128 0 127, ay 129 128, afq 130 129] (ak [ab 131 0, ab 132 0, ab 133 5, ab 134 0,
 eo 135 134, bq 136 5 135, ay 137 136, ab 138 10, di 139 138, mu 140 137 139, eo 141 131, bq 142 1 141, co 1 142 133, eo 143 132, bq 144 5 143,
 co 1 144 140] (ak [ab 145 0, eo 146 145, bq 147 6 146, ay 148 147, gj 149 148 1, eo 150 145, bq 151 6 150,
 co 1 151 149] (ak [dp 4 0] .ret))))))))))))⟩
def f15 : FnIR := ⟨54, [.t 2], ak [dp 2 0] (.seq (.block 0 (ak [ab 6 0, Hw 7 6, ab 5 7] (da 5 (ak [dp 2 30] .ret) (ak [ab 9 0, eo 10 9, bq 11 2 10,
 bq 12 0 11, ay 13 12, Co 14 13 1073741824, ab 8 14] (da 8 (ak [dp 2 32] .ret) .skip))))) (.seq (.draw [(ab 16 0,.p), (eo 17 16,.p), (bq 18 0 17,.p),
 (ay 19 18, .r 0 0), (ab 20 0,.p), (eo 21 20,.p), (bq 22 1 21,.p), (ay 23 22, .r 0 0), (tw 24 33 19 23,.k), (ab 15 24,.p), (bo 25 15 0,.p),
 (bo 26 15 1,.p), (ab 3 25,.p), (ab 4 26,.p)]) (.seq (.draw [(ab 27 0,.p), (ab 28 0,.p), (eo 29 28,.p), (bq 30 0 29,.p), (ay 31 30, .r 0 0), (ab 32 3,.p),
 (ab 33 0,.p), (eo 34 33,.p), (bq 35 2 34,.p), (bq 36 1 35,.p), (ay 37 36, .r 0 0), (af5 38 1 37,.p), (ab 39 0,.p), (eo 40 39,.p), (bq 41 2 40,.p),
 (bq 42 0 41,.p), (ay 43 42, .r 0 0), (gj 44 43 1,.p), (⟨none, some 45, .call 34 false [.t 31, .t 32, .t 38, .t 44]⟩,.k), (eo 46 27,.p), (bq 47 2 46,.p),
 (co 3 47 45,.k)]) (ak [ab 48 0, ab 49 0, eo 50 48, bq 51 5 50, agp 51, eo 52 49, bq 53 6 52, agp 53] (ak [dp 2 0] .ret)))))⟩
def f16_0 : IR := ak [ab 3 0, Hw 4 3] (da 4 (ak [dg 2] .ret) .skip)
def f16 : FnIR := ⟨10, [.t 2], ak [dg 2] (.seq f16_0 (ak [ab 5 0, eo 6 5, bq 7 1 6, ay 8 7, jg 9 42 8, ab 2 9] .ret))⟩
def f19_0 : IR := ak [ab 16 0, jg 17 47 16, ol 18 17, ab 19 18, gx 19 20 1, ⟨some (19, false), some 21, .call 47 true [.t 20]⟩, Vt 19 22 21, jp 23 19 22,
 ab 24 23, gx 24 25 8, yw 24 26 25, Cw 24 27 26 200, jp 28 24 27] (da 28 (ak [dg 6, gn 7] .ret) .skip)
def f19_1 : IR := da 32 .skip (.exit 0)
def f19_2 : IR := ak [kk 32 31 30] (.seq f19_1 (.seq (.block 1 (ak [ab 33 31, iq 34 1 29 31, ay 35 34, ab 10 33, ab 11 35] (.reg [ab 36 9, ab 37 0,
 ab 38 1, ab 39 10, ab 40 8, di 41 40, ab 42 11, ⟨none, some 43, .call 48 true [.t 37, .t 38, .t 39, .t 41, .t 42]⟩, Xe 44 43, Vc 45 36 44,
 ab 9 45]))) (.reg [gj 46 31 1, ab 31 46])))
def f19 : FnIR := ⟨48, [.t 6, .t 7], ak [dg 6, gn 7] (ak [ab 12 2, jg 13 46 12, Ti 14 45 13 49, ls 15 44 14,
 ab 8 15] (.seq f19_0 (ak [dg 9] (.seq (ak [ab 29 8, di 30 29, ce 31 0] (.block 0 (.loop f19_2))) (ak [ab 47 9, ab 6 47, Ka 7] .ret)))))⟩
def f20_0 : IR := ak [ab 3 0, Hw 4 3] (da 4 (ak [ce 2 0] .ret) .skip)
def f20 : FnIR := ⟨10, [.t 2], ak [ce 2 0] (.seq f20_0 (ak [ab 5 0, eo 6 5, bq 7 2 6, bq 8 0 7, ay 9 8, ab 2 9] .ret))⟩
def f29_0 : IR := ak [ab 3 0, Hw 4 3] (da 4 (ak [ce 2 0] .ret) .skip)
def f29 : FnIR := ⟨10, [.t 2], ak [ce 2 0] (.seq f29_0 (ak [ab 5 0, eo 6 5, bq 7 0 6, ay 8 7, di 9 8, ab 2 9] .ret))⟩
def f30_0 : IR := ak [ab 5 0, tj 6 5 64] (da 6 (ak [ce 2 0, ce 3 0] .ret) .skip)
def f30 : FnIR := ⟨15, [.t 2, .t 3], ak [ce 2 0, ce 3 0] (.seq f30_0 (ak [ab 7 0, ajg 8 7 4, ab 4 8] (ak [ab 9 4, ab 10 0, aa3 11 10 2, ab 12 4,
 Qf 13 11 12, ajg 14 13 8, ab 2 9, ab 3 14] .ret)))⟩
def f31_0 : IR := ak [ab 17 0, ls 18 57 17, ol 19 18] (da 19 (ak [dp 6 0] .ret) .skip)
def f31 : FnIR := ⟨43, [.t 6], ak [dp 6 0] (.seq (.block 0 (ak [ab 9 0, ab 10 1, tw 11 56 9 10, ol 12 11,
 ab 8 12] (da 8 (ak [dp 6 20] .ret) (ak [ab 14 2, di 15 14, Ie 16 15 64, ab 13 16] (da 13 (ak [dp 6 3] .ret) .skip))))) (.seq f31_0 (ak [ab 20 1,
 ⟨none, some 21, .build ((.cv (.sc (.int .i64 0))) :: List.replicate 64 (.cv (.sc (.int .u8 0)))) [(0, (1, .t 20))]⟩, ⟨none, some 7,
 .alloc ((.cv (.sc (.int .i64 0))) :: List.replicate 64 (.cv (.sc (.int .u8 0))))⟩, co 65 7 21] (ak [bq 22 1 7, Nh 23 64 22, ab 24 2,
 Ia 25 1 23 24] (.seq (.draw [(ab 26 0,.p), (ab 27 0,.p), (eo 28 27,.p), (bq 29 1 28,.p), (ay 30 29, .r 0 0), (iy 31 65 7, .r 0 0), (⟨none, some 32,
 .mksl 65 1 ((.cv (.sc (.int .i64 0))) :: List.replicate 64 (.cv (.sc (.int .u8 0)))) [(0, (65, .t 31))] false⟩, .r 0 0), (⟨none, some 33,
 .app 65 72 ((.sc (.int .i64 0)) :: List.replicate 64 (.sc (.int .u8 0))) (.t 30) (.t 32)⟩, .k), (eo 34 26,.p), (bq 35 1 34,.p), (co 1 35 33,.k)]) (ak [ab 36 0,
 eo 37 36, bq 38 2 37, ay 39 38, ahl 40 39 4607182418800017408 0, eo 41 36, bq 42 2 41, co 1 42 40] (ak [dp 6 0] .ret)))))))⟩
def f32_0 : IR := ak [ab 2 0, Hw 3 2, ab 4 3, gx 4 5 0, Ld 4 6 57 5, Vt 4 7 6, jp 8 4 7] (da 8 .ret .skip)
def f32 : FnIR := ⟨18, [], .seq f32_0 (ak [ab 9 0, ⟨none, some 10, .call 54 false [.t 9, .c (.func 58 [])]⟩] (.reg [ab 11 0, eo 12 11, bq 13 2 12, ay 14 13,
 ahl 15 14 0 4607182418800017408, eo 16 11, bq 17 2 16, co 1 17 15]))⟩
def f33 : FnIR := ⟨29, [.t 4, .t 5], ak [dg 4, gn 5] (ak [ab 11 0, aar 12 11, jg 13 30 12, ab 10 13, bo 14 10 0, bo 15 10 1, ab 6 14,
 ab 7 15] (ak [ab 17 1, jg 18 59 17, ab 16 18, bo 19 16 0, bo 20 16 1, ab 8 19, ab 9 20] (ak [ab 21 8, ab 22 9, ab 23 22, jm 23 24 8,
 ag1 23 25 24, jm 23 26 7, aek 23 27 25 26, mw 28 23 27, ab 4 21, ab 5 28] .ret)))⟩
def f34_0 : IR := .reg [ab 10 18]
def f34_1 : IR := .block 1 (ak [ay 19 4, ay 20 9, ab 21 10, adk 22 19 20 21] (.reg [ay 23 9, gj 24 23 1, co 1 9 24]))
def f34 : FnIR := ⟨44, [.cell 8 true 3], ak [th 4 1 0, Jj 8] (ak [ay 12 4, ab 13 2, tw 14 60 12 13, aje, co 1 9 14] (.seq (ak [ab 15 1, jg 16 61 15,
 Ti 17 45 16 64] (.block 0 (.rangeF (.t 17) [18] f34_0 f34_1))) (ak [ay 25 4, afq 26 25] (ak [ab 27 3, ab 28 2, ab 29 1, di 30 29, aji 31 27 28 30,
 Jj 11, co 3 11 31] (.seq (.draw [(ay 32 4, .r 0 0), (ab 33 3,.p), (⟨none, some 34, .bin .rem (.t 33) (.c (vi .i64 2))⟩, .p), (iy 35 3 11, .r 0 0), (jg 36 62 35,
 .r 0 0), (⟨none, some 37, .mkmv "Write" (.t 32)⟩, .p), (⟨none, some 38, .nilckM "Write" [23] (.t 37)⟩, .p), (ab 39 32,.p), (adk 40 39 34 36,.k)]) (ak [ay 41 4,
 afq 42 41] (ak [iy 43 3 11, co 3 8 43] .ret)))))))⟩
def f35_0 : IR := ak [ab 18 7, ab 19 18, jm 19 20 5, ⟨some (19, true), some 21, .un .not (.t 20)⟩, jm 19 22 21, Qn 22 23 0 6, Iw 22 24 23, Qn 22 25 0 4,
 Iw 22 26 25, ae2 22 27 24 26, ⟨some (19, true), some 28, .pick (.t 22) (.c aai) (.t 27)⟩, mw 29 19 28] (da 29 (ak [iy 30 3 6, co 3 2 30, Ka 3] .ret) .skip)
def f35 : FnIR := ⟨33, [.cell 2 true 3, .t 3], ak [Jj 2, gn 3] (ak [ab 9 0, Ti 10 63 9 0, ab 8 10, bo 11 8 0, bo 12 8 1, Jj 4, co 3 4 11,
 ab 5 12] (ak [ab 14 0, Ti 15 63 14 1, ab 13 15, bo 16 13 0, bo 17 13 1, Jj 6, co 3 6 16, ab 7 17] (.seq f35_0 (ak [iy 31 3 4, ab 32 5,
 co 3 2 31, ab 3 32] .ret))))⟩
def f36 : FnIR := ⟨23, [.t 4, .t 5], ak [th 3 3 1, dg 4, dp 5 0] (.seq (.draw [(ab 7 0,.p), (ab 8 0,.p), (bq 9 1 3,.p), (ay 10 9, .r 0 0),
 (tw 11 60 8 10,.k), (bq 12 2 3,.p), (ay 13 12, um), (ajs 14 13,.p), (aan 15 38 7 11 14,.k), (jg 16 61 15,.k), (ab 6 16,.p)]) (ak [ab 17 6,
 Ti 18 45 17 256, ls 19 44 18, jg 20 64 19, bo 21 20 0, bo 22 20 1, ab 4 21, ab 5 22] .ret))⟩
def f37_0 : IR := ak [ab 22 9, Co 23 22 0] (da 23 (.exit 0) .skip)
def f37_1 : IR := .seq (ak [ab 10 0, jg 11 47 10] (da 11 .skip (.exit 0))) (.block 1 (ak [ab 13 0, ab 14 6, di 15 14, ab 16 1, ab 17 7, vw 18 1 16 17,
 aan 19 65 13 15 18, ab 12 19, bo 20 12 0, bo 21 12 1, ab 8 20, ab 9 21] (.seq f37_0 (.reg [ab 24 6, ab 25 8, Xe 26 25, Vc 27 24 26, ab 28 7,
 ab 29 9, mu 30 28 29, ab 6 27, ab 7 30]))))
def f37 : FnIR := ⟨33, [.t 4, .t 5], ak [dg 4, ce 5 0] (ak [dg 6] (ak [ce 7 0] (.seq (.block 0 (.loop f37_1)) (ak [ab 31 6, ab 32 7, ab 4 31,
 ab 5 32] .ret))))⟩
def f38_0 : IR := da 13 .skip (.exit 0)
def f38_1 : IR := ak [kk 13 12 11] (.seq f38_0 (.seq (.block 1 (ak [ab 14 12, ab 8 14] (ak [ab 16 0, ab 17 1, ab 18 8, mu 19 17 18, ⟨none, some 20,
 .inv [(23, 119)] (.t 16) [.t 19]⟩, ab 15 20, bo 21 15 0, bo 22 15 1, ab 9 21, ab 10 22] (.reg [ab 23 7, ab 24 9, Xe 25 24, Vc 26 23 25,
 ab 7 26])))) (.reg [gj 27 12 1, ab 12 27])))
def f38 : FnIR := ⟨29, [.t 6], ak [dg 6] (ak [dg 7] (.seq (ak [ab 11 2, ce 12 0] (.block 0 (.loop f38_1))) (ak [ab 28 7, ab 6 28] .ret)))⟩
def f39_0 : IR := da 14 .skip (.exit 0)
def f39_1 : IR := ak [bq 20 2 7, ay 21 20] (da 21 (.exit 1) .skip)
def f39_2 : IR := ak [ab 25 8, tj 26 25 0] (da 26 (.reg [ab 27 5, di 28 27, ab 8 28]) .skip)
def f39_3 : IR := ak [kk 14 13 12] (.seq f39_0 (.seq (.block 1 (ak [iq 15 3 11 13, iy 16 3 15, Vb 7, co 3 7 16] (ak [ab 17 5, aer 18 68 7,
 tw 19 67 17 18, ab 5 19] (.seq f39_1 (ak [ab 22 5, aer 23 69 7, tw 24 50 22 23, ab 8 24] (.seq f39_2 (.draw [(ab 29 5,.p), (ab 30 8,.p), (bq 31 0 7,.p),
 (ay 32 31, .r 0 0), (bq 33 1 7,.p), (ay 34 33, .r 0 0), (jg 35 52 34, .r 0 0), (akh 36 32 35,.p), (ad0 37 36, .r 0 0), (aan 38 70 29 30 37,.k),
 (ab 5 38,.p)]))))))) (.reg [gj 39 13 1, ab 13 39])))
def f39 : FnIR := ⟨41, [.t 4], ak [dg 4] (ak [ab 9 0, ls 10 66 9, ab 5 10] (.seq (ak [ab 11 1, di 12 11,
 ce 13 0] (.block 0 (.loop f39_3))) (ak [ab 40 5, ab 4 40] .ret)))⟩
def f40 : FnIR := ⟨9, [.t 4], ak [gn 4] (ak [ab 5 0, ab 6 1, Cp 7 71 5 6, Uq 8 7 0, ab 4 8] .ret)⟩
def f41 : FnIR := ⟨13, [.t 2], ak [th 1 3 0, gn 2] (ak [bq 3 0 1, ay 4 3, agl 5 4, Ie 6 5 30, ab 7 6, Qn 7 8 1 1, Iw 7 9 8, yw 7 10 9,
 Cw 7 11 10 150, jp 12 7 11, ab 2 12] .ret)⟩
def f42_0 : IR := da 11 .skip (.exit 0)
def f42_1 : IR := ak [kk 11 10 9] (.seq f42_0 (.seq (.block 1 (ak [ab 12 10, iq 13 2 8 10, iy 14 2 13, Iv 5, ab 4 12, co 2 5 14] (.reg [ab 15 3,
 ab 16 4, bq 17 1 5, ay 18 17, jg 19 52 18, iq 20 2 15 16, bq 21 1 20, co 1 21 19]))) (.reg [gj 22 10 1, ab 10 22])))
def f42 : FnIR := ⟨24, [.t 2], ak [dg 2] (ak [ab 6 0, ls 7 66 6, ab 3 7] (.seq (ak [ab 8 3, di 9 8, ce 10 0] (.block 0 (.loop f42_1))) (ak [ab 23 3,
 ab 2 23] .ret)))⟩
def f44 : FnIR := ⟨5, [.t 2], ak [dg 2] (ak [ab 3 0, ahn 4 72 3, ab 2 4] .ret)⟩
def f45_0 : IR := ak [ay 5 3, tj 6 5 1] (da 6 (.reg [⟨none, some 7, .mkif 9 (.c (.cv (.sc (.string ⟨#[99, 97, 110, 110, 111, 116, 32, 98, 101, 32, 108, 101, 115, 115, 32,
 116, 104, 97, 110, 32, 49]⟩))))⟩, adx 7]) .skip)
def f45 : FnIR := ⟨9, [.t 4], ak [th 2 1 0, th 3 1 1, ajn 4] (.seq f45_0 (ak [⟨none, some 8, .mkfn 73 [.t 2, .t 3]⟩, ab 4 8] .ret))⟩
def f46_0 : IR := da 12 .skip (.exit 0)
def f46_1 : IR := ak [bq 20 2 5, ay 21 20] (da 21 (ak [ab 22 3, ai2 23 1, xy 24 22 23, ab 3 24] (.exit 1)) .skip)
def f46_2 : IR := ak [kk 12 11 10] (.seq f46_0 (.seq (.block 1 (ak [iq 13 3 9 11, iy 14 3 13, Vb 5, co 3 5 14] (ak [ab 15 3, bq 16 0 5, ay 17 16,
 jg 18 75 17, xy 19 15 18, ab 3 19] (.seq f46_1 (ak [ab 25 3, ai2 26 0, xy 27 25 26, ab 3 27] (.reg [ab 28 3, bq 29 1 5, ay 30 29, Sf 31 30,
 jg 32 75 31, xy 33 28 32, ab 3 33])))))) (.reg [gj 34 11 1, ab 11 34])))
def f46 : FnIR := ⟨36, [.t 2], ak [dg 2] (ak [ab 6 0, di 7 6, ls 8 74 7, ab 3 8] (.seq (ak [ab 9 0, di 10 9,
 ce 11 0] (.block 0 (.loop f46_2))) (ak [ab 35 3, ab 2 35] .ret)))⟩
def f47 : FnIR := ⟨9, [.t 2], ak [gn 2] (ak [ab 3 0, Uq 4 3 0, ab 5 4, jm 5 6 0, aes 5 7 6 1073741824, mw 8 5 7, ab 2 8] .ret)⟩
def f48 : FnIR := ⟨33, [.t 10], ak [dg 10] (ak [⟨none, some 11, .alloc (List.replicate 60 (.cv (.sc (.int .u8 0))))⟩] (ak [Nh 12 60 11, ab 13 0,
 tw 14 76 12 13] (ak [aj6 15 4, ab 16 1, tw 17 76 15 16] (ak [ab 18 2, qk 19 18, ab 20 3, qk 21 20, ab 22 4, di 23 22, qk 24 23,
 Jh 25 60 11 8, co 1 25 19, Jh 26 60 11 9, co 1 26 21, Jh 27 60 11 10, co 1 27 24] (ak [aj6 28 11, ab 29 4, Ia 30 1 28 29] (ak [Nh 31 60 11,
 jg 32 77 31, ab 10 32] .ret))))))⟩
def f50_0 : IR := da 9 .skip (.exit 0)
def f50_1 : IR := ak [kk 9 8 7] (.seq f50_0 (.seq (.block 1 (ak [ab 10 8, ab 5 10] (ak [ab 11 1, ab 12 0, ab 13 5, iq 14 2 12 13, iy 15 2 14,
 Xh 16 11 15] (da 16 (ak [ab 17 5, ab 4 17] .ret) .skip)))) (.reg [gj 18 8 1, ab 8 18])))
def f50 : FnIR := ⟨19, [.t 4], ak [ce 4 0] (.seq (ak [ab 6 0, di 7 6, ce 8 0] (.block 0 (.loop f50_1))) (ak [ce 4 (-1)] .ret))⟩
def f52_0 : IR := ak [ab 3 0, akn] (da 4 (ak [dg 2] .ret) .skip)
def f52 : FnIR := ⟨8, [.t 2], ak [dg 2] (.seq f52_0 (ak [⟨none, some 5, .mksl 1 0 [] [] false⟩, ab 6 0, xy 7 5 6, ab 2 7] .ret))⟩
def f53 : FnIR := ⟨14, [.t 2], ak [gn 2] (ak [ab 3 0, eo 4 3, bq 5 3 4, ay 6 5, ab 7 6, jm 7 8 0, ⟨some (7, true), some 9, .nilck (.t 8)⟩, Md 7 10 4 9,
 Mp 7 11 10, Wu 7 12 11 0, mw 13 7 12, ab 2 13] .ret)⟩
def f54_0 : IR := da 12 .skip (.exit 0)
def f54_1 : IR := ak [kk 12 11 10] (.seq f54_0 (.seq (.block 1 (ak [ab 13 11, iq 14 65 9 11, iy 15 65 14, ⟨none, some 5,
 .alloc ((.cv (.sc (.int .i64 0))) :: List.replicate 64 (.cv (.sc (.int .u8 0))))⟩, ab 4 13, co 65 5 15] (ak [ab 16 1, ab 17 4,
 Xh 18 16 17] (da 18 (.draw [(ab 19 0,.p), (eo 20 19,.p), (bq 21 0 20,.p), (ay 22 21, .r 0 0), (bq 23 0 5,.p), (ay 24 23, .r 0 0), (bq 25 1 5,.p),
 (iy 26 64 25, .r 0 0), (iq 27 64 22 24, .r 0 0), (co 64 27 26,.k)]) .skip)))) (.reg [gj 28 11 1, ab 11 28])))
def f54 : FnIR := ⟨32, [], .seq (ak [ab 6 0, eo 7 6, bq 8 1 7, ay 9 8, di 10 9, ce 11 0] (.block 0 (.loop f54_1))) (.reg [ab 29 0, eo 30 29, bq 31 1 30,
 ajq 31])⟩
def f56 : FnIR := ⟨13, [.t 4], ak [gn 4] (ak [ab 5 1, Uq 6 5 0, ab 7 6, jm 7 8 1, jm 7 9 0, Yf 7 10 29 9, ⟨some (7, true), some 11,
 .bin .lss (.t 8) (.t 10)⟩, mw 12 7 11, ab 4 12] .ret)⟩
def f57_0 : IR := ak [ab 3 0, ls 4 53 3] (da 4 (ak [gn 2] .ret) .skip)
def f57 : FnIR := ⟨12, [.t 2], ak [gn 2] (.seq f57_0 (ak [ab 5 0, eo 6 5, bq 7 4 6, ay 8 7, aa3 9 8 1, eo 10 5, bq 11 4 10,
 co 1 11 9] (ak [Ka 2] .ret)))⟩
def f58 : FnIR := ⟨3, [.t 2], ak [gn 2] (ak [Ka 2] .ret)⟩
def f59_0 : IR := ak [ab 8 0, jg 9 78 8, ol 10 9, ab 11 10, gx 11 12 0, yw 11 13 12, Cw 11 14 13 5000, jp 15 11 14] (da 15 (ak [dg 2,
 gn 3] .ret) .skip)
def f59_1 : IR := .seq (ak [ab 18 5, ⟨none, some 19, .bin .leq (.t 18) (.c (vi .i64 4))⟩] (da 19 .skip (.exit 0))) (.seq (.block 1 (ak [ab 23 4, ab 24 5, ab 25 0,
 aan 26 79 23 24 25, ab 22 26, bo 27 22 0, bo 28 22 1, ab 6 27, ab 7 28] (.seq (.block 2 (ak [ab 30 7, ol 31 30,
 ab 29 31] (da 29 (.exit 0) (ak [ab 33 6, di 34 33, Co 35 34 1, ab 32 35] (da 32 (ak [ab 36 4, eo 37 36, bq 38 0 37, ay 39 38, ab 2 39,
 Ka 3] .ret) .skip))))) (.reg [ab 40 6, ab 0 40])))) (.reg [ab 20 5, gj 21 20 1, ab 5 21]))
def f59_2 : IR := .seq f59_0 (ak [⟨none, some 16, .build [.cv (.sc (.slice none 0 0))] []⟩, th 17 1 16,
 ab 4 17] (.seq (.label 0) (.seq (ak [ce 5 0] (.block 0 (.loop f59_1))) (ak [dg 2, gn 3] .ret))))
def f59 : FnIR := ⟨41, [.t 2, .t 3], ak [dg 2, gn 3] (.scope f59_2)⟩
def f60 : FnIR := ⟨20, [.t 4], ak [ce 4 0] (ak [ab 8 0, aar 9 8, jg 10 30 9, ab 7 10, bo 11 7 0, bo 12 7 1, ab 5 11, ab 6 12] (ak [ab 13 5,
 Cq 14 2 13, ab 15 1, ab 16 6, ⟨none, some 17, .bin .mul (.t 15) (.t 16)⟩, ajs 18 17, mu 19 14 18, ab 4 19] .ret))⟩
def f61_0 : IR := da 12 .skip (.exit 0)
def f61_1 : IR := ak [kk 12 11 10] (.seq f61_0 (.seq (.block 1 (ak [iq 13 1 9 11, ay 14 13, ab 5 14] (ak [ab 15 3, ab 16 5, di 17 16, mu 18 15 17,
 ab 3 18] (ak [ab 19 3, tj 20 19 0] (da 20 (.reg [⟨none, some 21, .mkif 9 (.c (.cv (.sc (.string ⟨#[108, 101, 110, 32, 111, 117, 116, 32, 111, 102, 32, 114, 97, 110,
 103, 101]⟩))))⟩, adx 21]) .skip))))) (.reg [gj 22 11 1, ab 11 22])))
def f61_2 : IR := da 28 .skip (.exit 2)
def f61_3 : IR := ak [kk 28 27 26] (.seq f61_2 (.seq (.block 3 (ak [iq 29 1 25 27, ay 30 29, ab 8 30] (.reg [ab 31 6, ab 32 8, xy 33 31 32,
 ab 6 33]))) (.reg [gj 34 27 1, ab 27 34])))
def f61 : FnIR := ⟨36, [.t 2], ak [dg 2] (ak [ce 3 0] (.seq (ak [ab 9 0, di 10 9, ce 11 0] (.block 0 (.loop f61_1))) (ak [ab 23 3, ahn 24 80 23,
 ab 6 24] (.seq (ak [ab 25 0, di 26 25, ce 27 0] (.block 2 (.loop f61_3))) (ak [ab 35 6, ab 2 35] .ret)))))⟩
def f62_0 : IR := da 8 .skip (.exit 0)
def f62_1 : IR := ak [tj 8 7 4] (.seq f62_0 (.seq (.block 1 (ak [ab 9 7, ab 4 9] (.reg [ab 10 4, Cq 11 2 10, bq 12 0 1, ay 13 12, ab 14 4, age 15 8 14,
 af5 16 24 15, ⟨none, some 17, .bin .shr (.t 13) (.t 16)⟩, qk 18 17, Zg 19 60 3 11, co 1 19 18]))) (.reg [gj 20 7 1, ab 7 20])))
def f62 : FnIR := ⟨36, [.t 2], ak [th 1 3 0, dg 2] (ak [⟨none, some 3, .alloc (List.replicate 60 (.cv (.sc (.int .u8 0))))⟩] (ak [Nh 5 60 3, ⟨none, some 6,
 .cpy 1 (.t 5) (.c (.cv (.sc (.string ⟨#[82, 83]⟩))))⟩] (.seq (ak [ce 7 0] (.block 0 (.loop f62_1))) (.seq (.draw [(bq 21 1 1,.p), (ay 22 21, .r 0 0), (qk 23 22,.p),
 (bq 24 2 1,.p), (ay 25 24, um), (Nb 26 25 8,.p), (qk 27 26,.p), (bq 28 2 1,.p), (ay 29 28, .r 0 2), (qk 30 29,.p), (Jh 31 60 3 6,.p), (co 1 31 23,.k),
 (Jh 32 60 3 7,.p), (co 1 32 27,.k), (Jh 33 60 3 8,.p), (co 1 33 30,.k)]) (ak [Nh 34 60 3, jg 35 77 34, ab 2 35] .ret)))))⟩
def f63_0 : IR := ak [ab 18 7, Bj 19 18] (da 19 (ak [⟨none, some 20, .build [.cv (.sc (.int .i64 0)), .cv (.sc (.int .i64 0)), .cv (.sc (.int .i64 0))] []⟩,
 co 3 4 20, gn 5] .ret) .skip)
def f63 : FnIR := ⟨96, [.cell 4 true 3, .t 5], ak [Jj 4, gn 5] (ak [ab 13 0, ab 14 1, ⟨none, some 15, .inv [(23, 119)] (.t 13) [.t 14]⟩, ab 12 15, bo 16 12 0,
 bo 17 12 1, ab 6 16, ab 7 17] (.seq f63_0 (.seq (.draw [(ab 21 6,.p), (wy 22 1 21 2, um), (ay 23 22, um), (wi 24 23,.p), (aac 25 24 24,.p),
 (ab 26 6,.p), (wy 27 1 26 3, um), (ay 28 27, um), (wi 29 28,.p), (aac 30 29 16,.p), (Td 31 25 30,.p), (ab 32 6,.p), (wy 33 1 32 4, um), (ay 34 33,
 um), (wi 35 34,.p), (aac 36 35 8,.p), (Td 37 31 36,.p), (ab 38 6,.p), (wy 39 1 38 5, um), (ay 40 39, um), (wi 41 40,.p), (Td 42 37 41,.p),
 (ab 43 6,.p), (wy 44 1 43 6, um), (ay 45 44, um), (wi 46 45,.p), (ab 47 6,.p), (wy 48 1 47 7, um), (ay 49 48, um), (wi 50 49,.p),
 (aac 51 50 8,.p), (ab 52 6,.p), (wy 53 1 52 8, um), (ay 54 53, um), (wi 55 54,.p), (Td 56 51 55,.p), (aji 57 42 46 56,.p), (Jj 8,.k),
 (co 3 8 57,.k)]) (ak [ab 59 0, aar 60 59, jg 61 30 60, ab 58 61, bo 62 58 0, bo 63 58 1, ab 9 62, ab 10 63] (ak [bq 64 0 8, ay 65 64,
 Uq 66 65 1, ab 67 66, Md 67 68 0 8, Mp 67 69 68, aes 67 70 69 1073741824, mw 71 67 70, ab 72 71, Md 72 73 1 8, Mp 72 74 73, aes 72 75 74 1,
 mw 76 72 75, ab 77 76, Md 77 78 2 8, Mp 77 79 78, ⟨some (77, true), some 80, .bin .geq (.t 79) (.c (vi .i64 1))⟩, mw 81 77 80, ab 82 81, Md 82 83 2 8,
 Mp 82 84 83, jm 82 85 10, aek 82 86 84 85, mw 87 82 86, ab 11 87] (.seq (.draw [(iy 88 3 8, .r 0 0), (ab 89 11,.p), (ab 90 89,.p), (⟨some (90, true),
 some 91, .ld true 3 (.t 8)⟩, .r 0 0), (⟨some (90, true), some 92, .call 62 true [.t 91]⟩, .r 0 0), (jm 90 93 6,.p), (⟨some (90, true), some 94, .call 1000081 true [.t 92,
 .t 93]⟩, .r 0 0), (mw 95 90 94,.p), (co 3 4 88,.k), (ab 5 95,.p)]) .ret))))))⟩
def f64_0 : IR := da 15 .skip (.exit 0)
def f64_1 : IR := ak [ab 24 9, Bj 25 24] (da 25 (ak [ab 26 9, dg 2, ab 3 26] .ret) .skip)
def f64_2 : IR := ak [kk 15 14 13] (.seq f64_0 (.seq (.block 1 (ak [iq 16 1 12 14, ay 17 16, ab 6 17] (ak [ab 19 6, jg 20 82 19, ab 18 20, bo 21 18 0,
 bo 22 18 1, bo 23 18 2, ab 7 21, ab 8 22, ab 9 23] (.seq f64_1 (ak [ab 27 7, Co 28 27 0] (da 28 (.reg [ab 29 4, ab 30 8, Xn 31 29 30,
 ab 4 31]) .skip)))))) (.reg [gj 32 14 1, ab 14 32])))
def f64 : FnIR := ⟨47, [.t 2, .t 3], ak [dg 2, dp 3 0] (ak [dg 4] (.seq (ak [ab 12 0, di 13 12, ce 14 0] (.block 0 (.loop f64_2))) (.seq (ak [ab 34 4,
 jg 35 59 34, ab 33 35, bo 36 33 0, bo 37 33 1, ab 10 36, ab 11 37] (ak [ab 38 11, ol 39 38, ab 40 39, gx 40 41 10, gx 40 42 0, ⟨some (40, false),
 some 43, .call 83 true [.t 41, .t 42, .c (.func 81 [])]⟩, Vt 40 44 43, jp 45 40 44] (da 45 (ak [dg 2, dp 3 11] .ret) .skip))) (ak [ab 46 4, ab 2 46,
 dp 3 0] .ret))))⟩
def f65_0 : IR := ak [ab 15 11, ab 16 2, di 17 16, Ih 18 15 17, ab 19 18, gx 19 20 2, gx 19 21 11, ⟨some (19, false), some 22, .iadL 1 (.t 20) (.t 21)⟩,
 Iw 19 23 22, yw 19 24 23, ⟨some (19, false), some 25, .bin .neq (.t 24) (.c (vi .i64 64))⟩, jp 26 19 25] (da 26 (.goto 0) .skip)
def f65_1 : IR := ak [ab 35 11, Co 36 35 0] (da 36 (.reg [ab 37 13, wy 38 1 37 9, ay 39 38, wi 40 39, ab 12 40]) .skip)
def f65_2 : IR := ak [ab 41 14, tj 42 41 1, ab 43 42, gx 43 44 14, Cw 43 45 44 49, jp 46 43 45, ab 47 46, gx 47 48 12, ⟨some (47, false), some 49,
 .bin .lss (.t 48) (.c (vi .i64 1))⟩, jp 50 47 49, ab 51 50, gx 51 52 12, Cw 51 53 52 200, jp 54 51 53, ab 55 54, gx 55 56 11, gx 55 57 12, ⟨some (55,
 false), some 58, .bin .sub (.t 57) (.c (vi .i64 1))⟩, ⟨some (55, false), some 59, .bin .lss (.t 56) (.t 58)⟩, gx 55 60 59, jm 60 61 14, ⟨some (60, true), some 62,
 .bin .lss (.t 61) (.c (vi .i64 49))⟩, ⟨some (55, false), some 63, .pick (.t 60) (.t 62) (.c abx)⟩, jp 64 55 63] (da 64 (.goto 0) .skip)
def f65_3 : IR := ak [ab 65 0, ab 66 1, ab 67 11, ab 68 12, ab 69 13, ab 70 14, Cq 71 11 70, ah1 72 69 71, ⟨none, some 73, .call 48 true [.t 65, .t 66,
 .t 67, .t 68, .t 72]⟩, ab 74 13, Cp 75 81 73 74, ol 76 75] (da 76 (.goto 0) .skip)
def f65_4 : IR := ak [dg 8] (ak [dg 9] (ak [dp 10 0] (ak [ce 11 0, ce 12 1] (.seq (.label 1) (.seq f65_0 (.seq (ak [ab 27 2, ab 28 11,
 iq 29 1 27 28, ay 30 29, ab 13 30] (ak [ab 31 13, wy 32 1 31 10, ay 33 32, wi 34 33, ab 14 34] (.seq f65_1 (.seq f65_2 (.seq f65_3 (.reg [ab 77 8,
 ab 78 13, ab 79 14, Cq 80 11 79, ah1 81 78 80, xy 82 77 81, ab 8 82])))))) (.seq (ak [ab 83 11, gj 84 83 1, ab 11 84] (ak [ab 85 11, ab 86 12,
 kk 87 85 86] (da 87 (.goto 1) .skip))) (.seq (ak [ab 89 8, jg 90 84 89, ab 88 90, bo 91 88 0, bo 92 88 1, ab 9 91, ab 10 92] (ak [ab 93 10,
 Yc 94 93] (da 94 (ak [ab 95 9, ab 96 12, ab 6 95, ab 7 96] .ret) .skip))) (.seq (.label 0) (ak [dg 6, ce 7 0] .ret))))))))))
def f65 : FnIR := ⟨97, [.t 6, .t 7], ak [dg 6, ce 7 0] (.scope f65_4)⟩
def f66_0 : IR := ak [ab 3 0, akn] (da 4 (ak [dg 2] .ret) .skip)
def f66 : FnIR := ⟨8, [.t 2], ak [dg 2] (.seq f66_0 (ak [⟨none, some 5, .mksl 2 0 [] [] false⟩, ab 6 0, Xn 7 5 6, ab 2 7] .ret))⟩
def f67_0 : IR := ak [ab 11 5, Co 12 11 (-1)] (da 12 (ak [ab 13 0, ab 4 13] .ret) .skip)
def f67_1 : IR := .seq (ak [ab 16 6, ab 17 0, di 18 17, kk 19 16 18] (da 19 .skip (.exit 0))) (.seq (.block 1 (ak [ab 22 0, ab 23 6, iq 24 2 22 23,
 iy 25 2 24, Iv 7, co 2 7 25] (ak [ab 26 1, iy 27 2 7, Xh 28 26 27, ol 29 28] (da 29 (ak [ab 30 0, ab 31 5, iy 32 2 7, iq 33 2 30 31,
 co 2 33 32] (.reg [ab 34 5, gj 35 34 1, ab 5 35])) .skip)))) (.reg [ab 20 6, gj 21 20 1, ab 6 21]))
def f67 : FnIR := ⟨42, [.t 4], ak [dg 4] (ak [ab 8 0, ab 9 1, tw 10 50 8 9, ab 5 10] (.seq f67_0 (.seq (ak [ab 14 5, gj 15 14 1,
 ab 6 15] (.block 0 (.loop f67_1))) (ak [ab 36 0, ab 37 5, vw 38 2 36 37, ⟨none, none, .clr 2 [.sc (.string ⟨#[]⟩), .sc (.slice none 0 0)] (.t 38)⟩] (ak [ab 39 0,
 ab 40 5, Jv 41 2 39 40, ab 4 41] .ret)))))⟩
def f68 : FnIR := ⟨9, [.t 3], ak [th 2 2 0, gn 3] (ak [bq 4 0 2, ay 5 4, bq 6 0 1, ay 7 6, Ih 8 5 7, ab 3 8] .ret)⟩
def f69 : FnIR := ⟨9, [.t 3], ak [th 2 2 0, gn 3] (ak [bq 4 0 2, ay 5 4, bq 6 0 1, ay 7 6, Wt 8 5 7, ab 3 8] .ret)⟩
def f70_0 : IR := ak [ab 15 7, Co 16 15 0] (da 16 (ak [ab 17 0, ab 6 17] .ret) .skip)
def f70_1 : IR := ak [ab 20 1, ab 21 8, Ih 22 20 21] (da 22 (ak [ab 23 0, ab 24 2, Xn 25 23 24, ab 6 25] .ret) .skip)
def f70_2 : IR := ak [ab 26 8, ab 27 7, mu 28 26 27, ab 29 0, afv 30 29, Wt 31 28 30] (da 31 (ak [ab 32 0, ab 33 1, Jv 34 2 32 33, ab 35 8,
 ab 36 7, mu 37 35 36, ab 38 1, Qf 39 37 38, ⟨none, some 40, .apz 2 40 [.sc (.string ⟨#[]⟩), .sc (.slice none 0 0)] (.t 34) (.t 39)⟩, ab 9 40] (ak [ab 41 9,
 ab 42 1, vw 43 2 41 42, ab 44 2, Ia 45 2 43 44] (.seq (.draw [(ab 46 9,.p), (ab 47 1,.p), (ab 48 7,.p), (mu 49 47 48,.p), (vw 50 2 46 49, .r 0 0),
 (ab 51 0,.p), (ab 52 1,.p), (vw 53 2 51 52, .r 0 0), (Ia 54 2 50 53,.k)]) (ak [ab 55 9, ab 6 55] .ret)))) .skip)
def f70_3 : IR := ak [ab 61 2, ab 62 0, ab 63 1, ab 64 7, mu 65 63 64, vw 66 2 62 65, Cp 67 85 61 66, ol 68 67] (da 68 (.seq (.draw [(ab 69 0,.p),
 (ab 70 1,.p), (ab 71 7,.p), (mu 72 70 71,.p), (vw 73 2 69 72, .r 0 0), (ab 74 0,.p), (ab 75 1,.p), (vw 76 2 74 75, .r 0 0),
 (Ia 77 2 73 76,.k)]) (ak [ab 78 0, ab 79 1, vw 80 2 78 79, ab 81 2, Ia 82 2 80 81] (ak [ab 83 0, ab 6 83] .ret))) .skip)
def f70 : FnIR := ⟨95, [.t 6], ak [dg 6] (ak [ab 10 0, ab 11 1, vw 12 2 10 11] (ak [ab 13 2, di 14 13, ab 7 14] (.seq f70_0 (ak [ab 18 0,
 di 19 18, ab 8 19] (.seq f70_1 (.seq f70_2 (ak [ab 56 0, ab 57 8, ab 58 7, mu 59 57 58, Jv 60 2 56 59, ab 0 60] (.seq f70_3 (ak [ab 84 0, ab 85 8,
 vw 86 2 84 85, ab 87 2, Ia 88 2 86 87] (ak [ab 89 0, ab 90 1, vw 91 2 89 90, ab 92 7, Cp 93 86 91 92] (ak [ab 94 0, ab 6 94] .ret)))))))))))⟩
def f71_0 : IR := da 9 .skip (.exit 0)
def f71_1 : IR := ak [kk 9 8 7] (.seq f71_0 (.seq (.block 1 (ak [ab 10 8, ab 5 10] (ak [ab 11 1, ab 12 0, ab 13 5, iq 14 3 12 13, iy 15 3 14, ⟨none,
 some 16, .callv true (.t 11) [.t 15]⟩] (da 16 (ak [ab 17 5, ab 4 17] .ret) .skip)))) (.reg [gj 18 8 1, ab 8 18])))
def f71 : FnIR := ⟨19, [.t 4], ak [ce 4 0] (.seq (ak [ab 6 0, di 7 6, ce 8 0] (.block 0 (.loop f71_1))) (ak [ce 4 (-1)] .ret))⟩
def f72_0 : IR := .reg [ab 5 7]
def f72_1 : IR := .block 1 (.reg [ay 8 2, ab 9 5, Xe 10 9, Vc 11 8 10, co 1 2 11])
def f72 : FnIR := ⟨13, [.t 4], ak [th 2 1 0, dg 4] (.seq (ak [ab 6 1] (.block 0 (.rangeF (.t 6) [7] f72_0 f72_1))) (ak [ay 12 2, ab 4 12] .ret))⟩
def f73_0 : IR := .seq (ak [ab 6 4, ay 7 1, di 8 7, kk 9 6 8] (da 9 .skip (.exit 0))) (.seq (.block 1 (.seq (.draw [(ay 13 2, .r 0 0), (ay 14 1, .r 0 0),
 (ab 15 4,.p), (vw 16 1 14 15, .r 0 0), (di 17 16,.p), (⟨none, some 18, .mnmx true [.t 13, .t 17]⟩,.p), (ab 5 18,.p)]) (ak [ab 19 0, ay 20 1, ab 21 4,
 ab 22 4, ab 23 5, mu 24 22 23, ab 25 4, ab 26 5, mu 27 25 26, ⟨none, some 28, .slL 1 (.t 20) (some (.t 21)) (some (.t 24)) (some (.t 27))⟩, Xh 29 19 28,
 ol 30 29] (da 30 .ret .skip)))) (.reg [ab 10 4, ay 11 2, mu 12 10 11, ab 4 12]))
def f73 : FnIR := ⟨31, [], ak [ce 4 0] (.block 0 (.loop f73_0))⟩
def f74_0 : IR := .seq (ak [ab 7 0, Ie 8 7 127] (da 8 .skip (.exit 0))) (.seq (.block 1 (.reg [ab 11 3, ab 12 0, qk 13 12, ⟨none, some 14,
 .bin .or (.t 13) (.c (vi .u8 128))⟩, ads 15 14, xy 16 11 15, ab 3 16])) (.reg [ab 9 0, Nb 10 9 7, ab 0 10]))
def f74 : FnIR := ⟨22, [.t 2], ak [dg 2] (ak [dg 3] (.seq (ak [ab 4 0, ⟨none, some 5, .mnmx true [.t 4, .c (vi .i64 9007199254740992)]⟩, ⟨none, some 6,
 .mnmx false [.c (vi .i64 0), .t 5]⟩, ab 0 6] (.block 0 (.loop f74_0))) (ak [ab 17 3, ab 18 0, qk 19 18, ads 20 19, xy 21 17 20, ab 2 21] .ret)))⟩
def f75 : FnIR := ⟨8, [.t 2], ak [dg 2] (ak [ab 3 0, agl 4 3, ls 5 74 4, ab 6 0, xy 7 5 6, ab 2 7] .ret)⟩
def f76_0 : IR := da 6 .skip (.exit 0)
def f76_1 : IR := ak [tj 6 5 4] (.seq f76_0 (.seq (.block 1 (ak [ab 7 5, ab 4 7] (.reg [ab 8 0, ab 9 4, ab 10 1, ab 11 4, age 12 8 11, af5 13 24 12,
 ⟨none, some 14, .bin .shr (.t 10) (.t 13)⟩, qk 15 14, iq 16 1 8 9, co 1 16 15]))) (.reg [gj 17 5 1, ab 5 17])))
def f76 : FnIR := ⟨18, [], ak [ce 5 0] (.block 0 (.loop f76_1))⟩
def f77 : FnIR := ⟨27, [.t 2], ak [dg 2] (ak [ab 5 0, jg 6 87 5, ab 3 6] (ak [ab 7 0, di 8 7, gj 9 8 4, ⟨none, some 10,
 .mks 1 1 [.sc (.int .u8 0)] (.c (vi .i64 0)) (.t 9) true⟩, ab 11 0, xy 12 10 11, ab 4 12] (ak [ab 13 4, ab 14 3, qk 15 14, ab 16 3, Nb 17 16 8,
 qk 18 17, ab 19 3, Nb 20 19 16, qk 21 20, ab 22 3, Nb 23 22 24, qk 24 23, ⟨none, some 25, .mksl 1 4 [.cv (.sc (.int .u8 0)), .cv (.sc (.int .u8 0)),
 .cv (.sc (.int .u8 0)), .cv (.sc (.int .u8 0))] [(0, (1, .t 15)), (1, (1, .t 18)), (2, (1, .t 21)), (3, (1, .t 24))] false⟩, xy 26 13 25, ab 2 26] .ret)))⟩
def f78_0 : IR := da 7 .skip (.exit 0)
def f78_1 : IR := ak [kk 7 6 5] (.seq f78_0 (.seq (.block 1 (ak [ab 8 6, ab 3 8] (.seq (.draw [(ab 9 3,.p), (Ie 10 9 0,.p), (ab 11 10,.p), (jm 11 12 0,.p),
 (jm 11 13 3,.p), (⟨some (11, true), some 14, .iadL 2 (.t 12) (.t 13)⟩, .r 0 0), (Md 11 15 0 14,.p), (Mp 11 16 15, .r 0 0), (jm 11 17 0,.p), (jm 11 18 3,.p),
 (⟨some (11, true), some 19, .bin .sub (.t 18) (.c (vi .i64 1))⟩, .p), (⟨some (11, true), some 20, .iadL 2 (.t 17) (.t 19)⟩, .r 0 0), (Md 11 21 0 20,.p), (Mp 11 22 21,
 .r 0 0), (aek 11 23 16 22,.p), (mw 24 11 23,.p)]) (da 24 (ak [gn 2] .ret) .skip)))) (.reg [gj 25 6 1, ab 6 25])))
def f78 : FnIR := ⟨26, [.t 2], ak [gn 2] (.seq (ak [ab 4 0, di 5 4, ce 6 0] (.block 0 (.loop f78_1))) (ak [Ka 2] .ret))⟩
def f79_0 : IR := .reg [ab 10 16]
def f79_1 : IR := ak [ab 23 12, ol 24 23] (da 24 (ak [ajq 6, ⟨none, none, .st 1 (.t 7) (.c abx)⟩] .ret) .skip)
def f79_2 : IR := ak [ab 32 10, di 33 32, Ie 34 33 0] (da 34 (.reg [ab 35 10, wy 36 2 35 0, bq 37 0 36, ay 38 37, bq 39 0 13, co 1 39 38]) .skip)
def f79_3 : IR := .block 1 (ak [ay 18 4, ab 19 10, Cp 20 89 18 19, ab 17 20, bo 21 17 0, bo 22 17 1, ab 11 21, ab 12 22] (.seq f79_1 (ak [ay 25 3,
 eo 26 25, bq 27 0 26, ay 28 27, di 29 28, jg 30 74 29, ⟨none, some 31, .build [.cv (.sc (.string ⟨#[]⟩)), .cv (.sc (.slice none 0 0))] [(1, (1, .t 30))]⟩, Iv 13,
 co 2 13 31] (.seq f79_2 (.seq (.draw [(ay 40 3, .r 0 3), (ay 41 8, .r 0 0), (iy 42 2 13, .r 0 0), (ad0 43 42, .r 0 0), (Xn 44 41 43,.k), (ay 45 3, um),
 (eo 46 45,.p), (bq 47 0 46,.p), (ay 48 47, um), (ab 49 11,.p), (Xe 50 49, um), (Vc 51 48 50,.k), (co 1 8 44,.k), (eo 52 40,.p), (bq 53 0 52,.p),
 (co 1 53 51,.k)]) (.reg [ay 54 9, ab 55 10, di 56 55, mu 57 54 56, co 1 9 57]))))))
def f79 : FnIR := ⟨63, [.cell 6 false 1, .cell 7 false 1], ak [th 3 1 0, th 4 1 1, ahc 6, ⟨none, some 7, .alloc [.cv (.sc (.bool false))]⟩] (ak [ahc 8] (ak [aje,
 agp 9] (.seq (ak [ab 14 2, ls 15 88 14] (.block 0 (.rangeF (.t 15) [16] f79_0 f79_3))) (.seq (.draw [(ay 58 8, .r 0 0), (ay 59 9, um), (ab 60 2,.p),
 (di 61 60,.p), (Ih 62 59 61,.p), (co 1 6 58,.k), (co 1 7 62,.k)]) .ret))))⟩
def f80_0 : IR := ak [ab 5 1, tj 6 5 0] (da 6 (.reg [⟨none, some 7, .mkif 9 (.c (.cv (.sc (.string ⟨#[99, 97, 110, 110, 111, 116, 32, 98, 101, 32, 110, 101, 103, 97, 116,
 105, 118, 101]⟩))))⟩, adx 7]) .skip)
def f80 : FnIR := ⟨27, [.t 4], ak [dg 4] (.seq f80_0 (.seq (ak [ab 8 1, ab 9 0, afv 10 9, ab 11 0, di 12 11, Qf 13 10 12, Qf 14 8 13,
 ab 1 14] (ak [ab 15 1, Ie 16 15 0] (da 16 (.reg [ab 17 0, ab 18 0, afv 19 18, Jv 20 1 17 19, ab 21 1, ⟨none, some 22,
 .apz 1 1 [.sc (.int .u8 0)] (.t 20) (.t 21)⟩, ab 23 0, di 24 23, Jv 25 1 22 24, ab 0 25]) .skip))) (ak [ab 26 0, ab 4 26] .ret)))⟩
def f81 : FnIR := ⟨10, [.t 4], ak [gn 4] (ak [ab 5 0, Sf 6 5, ab 7 1, Sf 8 7, Ih 9 6 8, ab 4 9] .ret)⟩
def f82_0 : IR := da 26 .skip (.exit 1)
def f82_1 : IR := ak [ab 28 7, Cq 29 2 28, ab 30 6, ⟨none, some 31, .bin .geq (.t 29) (.t 30)⟩] (da 31 (ak [ce 2 0, dg 3, dp 4 11] .ret) .skip)
def f82_2 : IR := ak [ab 45 10, ol 46 45] (da 46 (ak [ce 2 0, dg 3, dp 4 11] .ret) .skip)
def f82_3 : IR := ak [kk 26 25 24] (.seq f82_0 (.seq (.block 2 (ak [ab 27 25, ab 7 27] (.seq f82_1 (ak [ab 32 0, ab 33 7, Cq 34 2 33, iq 35 1 32 34,
 ay 36 35, wi 37 36, ab 8 37] (ak [ab 39 0, ab 40 8, ab 41 6, ado 42 91 39 40 41, ab 38 42, bo 43 38 0, bo 44 38 1, Iv 9, co 2 9 43,
 ab 10 44] (.seq f82_2 (.reg [ab 47 5, iy 48 2 9, ad0 49 48, Xn 50 47 49, ab 51 8, ab 5 50, ab 6 51]))))))) (.reg [gj 52 25 1, ab 25 52])))
def f82 : FnIR := ⟨75, [.t 2, .t 3, .t 4], ak [ce 2 0, dg 3, dp 4 0] (.seq (.block 0 (ak [ab 14 0, di 15 14, ⟨none, some 16,
 .bin .neq (.t 15) (.c (vi .i64 256))⟩, ab 13 16] (da 13 (ak [ce 2 0, dg 3, dp 4 11] .ret) (ak [ab 18 0, jg 19 90 18, ol 20 19,
 ab 17 20] (da 17 (ak [ce 2 0, dg 3, dp 4 12] .ret) .skip))))) (ak [dg 5] (ak [ce 6 252] (.seq (ak [ab 21 0, wy 22 1 21 1, ay 23 22,
 wi 24 23, ce 25 0] (.block 1 (.loop f82_3))) (.seq (ak [ab 54 0, wy 55 1 54 0, ay 56 55, wi 57 56, ab 58 5, Cp 59 89 57 58, ab 53 59, bo 60 53 0,
 bo 61 53 1, ab 11 60, ab 12 61] (ak [ab 62 12, ol 63 62, ab 64 63, gx 64 65 11, gx 64 66 0, ⟨some (64, false), some 67, .call 81 true [.t 65, .t 66]⟩,
 Vt 64 68 67, jp 69 64 68] (da 69 (ak [ce 2 0, dg 3, dp 4 11] .ret) .skip))) (ak [ab 70 0, wy 71 1 70 0, ay 72 71, wi 73 72, ab 74 5, ab 2 73,
 ab 3 74, dp 4 0] .ret))))))⟩
def f83_0 : IR := ak [ab 10 0, di 11 10, ab 12 1, di 13 12, ⟨none, some 14, .bin .neq (.t 11) (.t 13)⟩] (da 14 (ak [gn 6] .ret) .skip)
def f83_1 : IR := da 18 .skip (.exit 0)
def f83_2 : IR := ak [kk 18 17 16] (.seq f83_1 (.seq (.block 1 (ak [ab 19 17, iq 20 1 15 17, ay 21 20, ab 7 19, ab 8 21] (ak [ab 22 1, ab 23 7,
 iq 24 1 22 23, ay 25 24, ab 9 25] (ak [ab 26 2, ab 27 8, ab 28 9, ⟨none, some 29, .callv true (.t 26) [.t 27, .t 28]⟩,
 ol 30 29] (da 30 (ak [gn 6] .ret) .skip))))) (.reg [gj 31 17 1, ab 17 31])))
def f83 : FnIR := ⟨32, [.t 6], ak [gn 6] (.seq f83_0 (.seq (ak [ab 15 0, di 16 15, ce 17 0] (.block 0 (.loop f83_2))) (ak [Ka 6] .ret)))⟩
def f84 : FnIR := ⟨8, [.t 2, .t 3], ak [dg 2, dp 3 0] (ak [ab 4 0, ⟨none, some 5, .call 92 true [.t 4, .c (.func 93 [])]⟩, bo 6 5 0, bo 7 5 1, ab 2 6,
 ab 3 7] .ret)⟩
def f87 : FnIR := ⟨5, [.t 2], ak [ajk 2] (ak [ab 3 0, ⟨none, some 4, .call 95 true [.c (vi .u32 0), .t 3]⟩, ab 2 4] .ret)⟩
def f88 : FnIR := ⟨4, [.t 2], ak [th 1 1 0, ajn 2] (ak [aer 3 96 1, ab 2 3] .ret)⟩
def f89_0 : IR := ak [ab 11 0, tj 12 11 0, ab 13 12, gx 13 14 0, Cw 13 15 14 4, jp 16 13 15, ab 17 16, gx 17 18 1, ⟨some (17, false), some 19,
 .call 97 true [.t 18]⟩, gx 17 20 1, yw 17 21 20, ⟨some (17, false), some 22, .bin .lss (.t 19) (.t 21)⟩, jp 23 17 22] (da 23 (ak [dg 4, gn 5] .ret) .skip)
def f89_1 : IR := da 34 .skip (.exit 0)
def f89_2 : IR := ak [kk 34 33 32] (.seq f89_1 (.seq (.block 1 (ak [ab 35 33, iq 36 2 31 33, iy 37 2 36, Iv 9, ab 8 35, co 2 9 37] (ak [iy 38 2 9,
 jg 39 98 38, ab 10 39] (ak [ab 40 7, ab 41 10, di 42 41, Qf 43 40 42, ab 7 43] (ak [ab 44 8, Cq 45 2 44, ab 46 7, qk 47 46, Zg 48 252 6 45,
 co 1 48 47] (.reg [ab 49 7, ⟨none, some 50, .slA 252 1 (.t 6) (some (.t 49)) none⟩, ab 51 10, Ia 52 1 50 51])))))) (.reg [gj 53 33 1, ab 33 53])))
def f89 : FnIR := ⟨56, [.t 4, .t 5], ak [dg 4, gn 5] (.seq f89_0 (ak [⟨none, some 6, .alloc (List.replicate 252 (.cv (.sc (.int .u8 0))))⟩] (ak [ab 24 0, qk 25 24,
 ab 26 1, di 27 26, qk 28 27, Jh 29 252 6 0, co 1 29 25, Jh 30 252 6 1, co 1 30 28] (ak [ce 7 252] (.seq (ak [ab 31 1, di 32 31,
 ce 33 0] (.block 0 (.loop f89_2))) (ak [Nh 54 252 6, ls 55 77 54, ab 4 55, Ka 5] .ret))))))⟩
def f90 : FnIR := ⟨17, [.t 2], ak [gn 2] (ak [ab 4 0, di 5 4, aa3 6 5 4, ab 3 6] (ak [ab 7 3, Uq 8 7 0, ab 9 8, jm 9 10 0, jm 9 11 3, ⟨some (9,
 true), some 12, .slL 1 (.t 10) none (some (.t 11)) none⟩, ⟨some (9, true), some 13, .call 77 true [.t 12]⟩, jm 9 14 0, ⟨some (9, true), some 15, .call 81 true [.t 13, .t 14]⟩,
 mw 16 9 15, ab 2 16] .ret))⟩
def f91_0 : IR := ak [ab 12 1, ab 13 2, ⟨none, some 14, .bin .geq (.t 12) (.t 13)⟩] (da 14 (ak [iy 15 2 6, co 2 6 15, gn 7] .ret) .skip)
def f91_1 : IR := ak [ab 25 10, Bj 26 25] (da 26 (ak [iy 27 2 6, co 2 6 27, gn 7] .ret) .skip)
def f91 : FnIR := ⟨48, [.cell 6 true 2, .t 7], ak [Iv 6, gn 7] (.seq f91_0 (ak [ab 17 0, ab 18 2, Jv 19 1 17 18, ab 20 1, abc 21 19 20 30, ab 16 21,
 bo 22 16 0, bo 23 16 1, bo 24 16 2, ab 8 22, ab 9 23, ab 10 24] (.seq f91_1 (ak [ab 29 0, ab 30 2, Jv 31 1 29 30, ab 32 9, abc 33 31 32 150,
 ab 28 33, bo 34 28 0, bo 35 28 1, bo 36 28 2, ab 11 34, ab 9 35, ab 10 36] (ak [ab 37 8, ab 38 11, ⟨none, some 39, .cvSB false (.t 38)⟩,
 akh 40 37 39, ab 41 10, Yc 42 41, ab 43 42, jm 43 44 9, jm 43 45 2, ⟨some (43, true), some 46, .bin .eql (.t 44) (.t 45)⟩, mw 47 43 46, co 2 6 40,
 ab 7 47] .ret)))))⟩
def f92_0 : IR := .seq (ak [ab 23 9, Yc 24 23, ab 25 24, jm 25 26 7, aex 25 27 26 0,
 mw 28 25 27] (da 28 .skip (.exit 0))) (.seq (.block 1 (ak [Vb 10] (ak [ab 32 1, ab 33 0, ab 34 8, ⟨none, some 35, .callv true (.t 32) [.t 33, .t 34]⟩,
 ab 31 35, bo 36 31 0, bo 37 31 1, bo 38 31 2, co 3 10 36, ab 8 37, ab 9 38] (ak [ab 39 9, Yc 40 39] (da 40 (.reg [ab 41 6, iy 42 3 10,
 adf 43 42, aiz 44 41 43, ab 6 44]) .skip))))) (.reg [ab 29 7, aa3 30 29 1, ab 7 30]))
def f92 : FnIR := ⟨55, [.t 4, .t 5], ak [dg 4, dp 5 0] (ak [dg 6] (ak [ab 12 0, ⟨none, some 13, .call 100 true [.t 12, .c (vi .i64 0)]⟩, ab 11 13,
 bo 14 11 0, bo 15 11 1, bo 16 11 2, ab 7 14, ab 8 15, ab 9 16] (.seq (ak [ab 17 9, Yc 18 17, ab 19 18, jm 19 20 7, aex 19 21 20 5000,
 mw 22 19 21] (da 22 (.reg [dp 9 3]) .skip)) (.seq (.block 0 (.loop f92_0)) (.seq (.block 2 (ak [ab 46 9, Bj 47 46, ab 45 47] (da 45 (ak [ab 48 9, dg 4,
 ab 5 48] .ret) (ak [ab 50 8, ab 51 0, di 52 51, kk 53 50 52, ab 49 53] (da 49 (ak [dg 4, dp 5 11] .ret) .skip))))) (ak [ab 54 6, ab 4 54,
 dp 5 0] .ret))))))⟩
def f93 : FnIR := ⟨59, [.cell 4 true 3, .t 5, .t 6], ak [Vb 4, ce 5 0, dp 6 0] (ak [ab 11 0, ab 12 1, abc 13 11 12 30, ab 10 13, bo 14 10 0,
 bo 15 10 1, bo 16 10 2, ab 7 14, ab 1 15, ab 8 16] (.seq (.block 0 (ak [ab 18 8, Bj 19 18, ab 17 19] (da 17 (ak [ag2 20, ab 21 8, co 3 4 20,
 ce 5 0, ab 6 21] .ret) (ak [ab 23 1, ab 24 0, di 25 24, Ih 26 23 25, ab 22 26] (da 22 (ak [ag2 27, co 3 4 27, ce 5 0,
 dp 6 10] .ret) (ak [ab 29 0, ab 30 1, iq 31 1 29 30, ay 32 31, Yz 33 32 1, ab 28 33] (da 28 (ak [ab 34 7, akv 35 34, ab 36 1, gj 37 36 1,
 co 3 4 35, ab 5 37, dp 6 0] .ret) (ak [ab 39 0, ab 40 1, iq 41 1 39 40, ay 42 41, aik 43 42 1, ab 38 43] (da 38 (ak [ag2 44, co 3 4 44,
 ce 5 0, dp 6 11] .ret) .skip))))))))) (ak [ab 46 0, ab 47 1, gj 48 47 1, abc 49 46 48 150, ab 45 49, bo 50 45 0, bo 51 45 1, bo 52 45 2, ab 9 50,
 ab 1 51, ab 8 52] (ak [ab 53 7, ab 54 9, ⟨none, some 55, .cvSB false (.t 54)⟩, aip 56 53 55, ab 57 1, ab 58 8, co 3 4 56, ab 5 57, ab 6 58] .ret))))⟩
def f95_0 : IR := da 14 .skip (.exit 0)
def f95_1 : IR := ak [kk 14 13 12] (.seq f95_0 (.seq (.block 1 (ak [iq 15 1 11 13, ay 16 15, ab 7 16] (.reg [ab 17 0, Nb 18 17 8, ab 19 0, qk 20 19,
 ab 21 7, ae5 22 20 21, Zg 23 256 5 22, ay 24 23, ae5 25 18 24, ab 0 25]))) (.reg [gj 26 13 1, ab 13 26])))
def f95 : FnIR := ⟨29, [.t 4], ak [ajk 4] (ak [ags 8 102, ⟨none, some 5, .alloc (List.replicate 256 (.cv (.sc (.int .u32 0))))⟩, co 256 5 8] (ak [ab 9 0, ⟨none,
 some 10, .un .xor (.t 9)⟩, ab 0 10] (.seq (ak [ab 11 1, di 12 11, ce 13 0] (.block 0 (.loop f95_1))) (ak [ab 27 0, ⟨none, some 28, .un .xor (.t 27)⟩,
 ab 4 28] .ret))))⟩
def f96_0 : IR := ak [ab 6 0, ay 7 1, ab 8 3, Jv 9 2 7 8, Xh 10 6 9, ol 11 10, ab 12 11, gx 12 13 3, ⟨some (12, false), some 14,
 .bin .eql (.t 13) (.c (vi .i64 0))⟩, jp 15 12 14, ab 16 15, gx 16 17 3, Iw 16 18 1, yw 16 19 18, ⟨some (16, false), some 20, .bin .eql (.t 17) (.t 19)⟩,
 jp 21 16 20] (da 21 .ret .skip)
def f96_1 : IR := .block 1 (ak [ay 4 1, jg 5 97 4, ab 3 5] (.seq f96_0 (.reg [ay 22 1, ab 23 3, vw 24 2 22 23, co 1 1 24])))
def f96 : FnIR := ⟨25, [], .block 0 (.loop f96_1)⟩
def f97_0 : IR := da 9 .skip (.exit 0)
def f97_1 : IR := ak [bq 13 0 5, ay 14 13, agl 15 14, Ie 16 15 30, ab 17 16, Qn 17 18 1 5, Iw 17 19 18, yw 17 20 19, Cw 17 21 20 150,
 jp 22 17 21] (da 22 (ak [ab 23 4, ab 2 23] .ret) .skip)
def f97_2 : IR := ak [kk 9 8 7] (.seq f97_0 (.seq (.block 1 (ak [ab 10 8, iq 11 2 6 8, iy 12 2 11, Iv 5, ab 4 10, co 2 5 12] (.seq f97_1 (ak [ab 24 3,
 iy 25 2 5, jg 26 98 25, di 27 26, Cq 28 1 27, mu 29 24 28, ab 3 29] (ak [ab 30 3, Ie 31 30 250] (da 31 (ak [ab 32 4,
 ab 2 32] .ret) .skip)))))) (.reg [gj 33 8 1, ab 8 33])))
def f97 : FnIR := ⟨36, [.t 2], ak [ce 2 0] (ak [ce 3 0] (.seq (ak [ab 6 0, di 7 6, ce 8 0] (.block 0 (.loop f97_2))) (ak [ab 34 0, di 35 34,
 ab 2 35] .ret)))⟩
def f98 : FnIR := ⟨11, [.t 2], ak [th 1 2 0, dg 2] (.seq (.draw [(bq 3 0 1,.p), (ay 4 3, .r 0 0), (ls 5 75 4,.k), (bq 6 1 1,.p), (ay 7 6, um), (Sf 8 7,
 um), (ls 9 75 8,.k), (xy 10 5 9,.k), (ab 2 10,.p)]) .ret)⟩
def f99 : FnIR := ⟨44, [.t 6, .t 7, .t 8], ak [aas, ce 7 0, dp 8 0] (ak [ab 13 0, ab 14 1, Cp 15 100 13 14, ab 12 15, bo 16 12 0, bo 17 12 1,
 bo 18 12 2, ab 9 16, ab 10 17, ab 11 18] (.seq (.block 0 (ak [ab 20 11, Bj 21 20, ab 19 21] (da 19 (ak [ab 22 11, aas, ce 7 0,
 ab 8 22] .ret) (ak [ab 24 9, ab 25 2, Wt 26 24 25, ab 23 26] (da 23 (ak [aas, ce 7 0, dp 8 3] .ret) (ak [ab 28 9, ab 29 0, di 30 29,
 ab 31 10, Qf 32 30 31, Wt 33 28 32, ab 27 33] (da 27 (ak [aas, ce 7 0, dp 8 10] .ret) .skip))))))) (ak [ab 34 0, ab 35 10, ab 36 10, ab 37 9,
 mu 38 36 37, ⟨none, some 39, .slL 1 (.t 34) (some (.t 35)) (some (.t 38)) none⟩, Sf 40 39, ab 41 10, ab 42 9, mu 43 41 42, ab 6 40, ab 7 43,
 dp 8 0] .ret)))⟩
def f100_0 : IR := .seq (ak [ab 18 8, tj 19 18 8] (da 19 .skip (.exit 0))) (.seq (.block 1 (.seq (ak [ab 22 1, ab 23 8, mu 24 22 23, ab 25 0, di 26 25,
 Ih 27 24 26] (da 27 (.goto 0) .skip)) (ak [ab 28 0, ab 29 1, ab 30 8, mu 31 29 30, iq 32 1 28 31, ay 33 32, ab 9 33] (ak [ab 34 7, ab 35 9,
 akr 36 35 127, wi 37 36, ab 38 8, age 39 7 38, ⟨none, some 40, .bin .shl (.t 37) (.t 39)⟩, Td 41 34 40, ab 7 41] (ak [ab 42 9, akr 43 42 128,
 Yz 44 43 0] (da 44 (.seq (ak [ab 45 9, Yz 46 45 0, ab 47 46, jm 47 48 8, aex 47 49 48 0, mw 50 47 49, ab 51 50, gx 51 52 7,
 Cw 51 53 52 9007199254740992, jp 54 51 53] (da 54 (.goto 1) .skip)) (ak [ab 55 7, ab 56 1, ab 57 8, mu 58 56 57, gj 59 58 1, ab 4 55, ab 5 59,
 dp 6 0] .ret)) .skip)))))) (.reg [ab 20 8, gj 21 20 1, ab 8 21]))
def f100_1 : IR := ak [ce 7 0, ce 8 0] (.seq (ak [ab 10 1, tj 11 10 0, ab 12 11, gx 12 13 1, gx 12 14 0, yw 12 15 14, ae2 12 16 13 15,
 jp 17 12 16] (da 17 (.goto 0) .skip)) (.seq (.block 0 (.loop f100_0)) (.seq (.label 1) (.seq (ak [ce 4 0, ce 5 0, dp 6 11] .ret) (.seq (.label 0) (ak [ce 4 0,
 ce 5 0, dp 6 10] .ret))))))
def f100 : FnIR := ⟨60, [.t 4, .t 5, .t 6], ak [ce 4 0, ce 5 0, dp 6 0] (.scope f100_1)⟩
def f102_0 : IR := da 5 .skip (.exit 0)
def f102_1 : IR := da 10 .skip (.exit 2)
def f102_2 : IR := ak [tj 10 9 8] (.seq f102_1 (.seq (.block 3 (.reg [ab 11 3, Nb 12 11 1, ab 13 3, ⟨none, some 14, .bin .and (.t 13) (.c (vi .u32 1))⟩, ⟨none,
 some 15, .bin .mul (.c (vi .u32 3988292384)) (.t 14)⟩, ae5 16 12 15, ab 3 16])) (.reg [gj 17 9 1, ab 9 17])))
def f102_3 : IR := ak [tj 5 4 256] (.seq f102_0 (.seq (.block 1 (ak [ab 6 4, ab 2 6] (ak [ab 7 2, ⟨none, some 8, .cvI .u32 (.t 7)⟩,
 ab 3 8] (.seq (ak [ce 9 0] (.block 2 (.loop f102_2))) (.reg [ab 18 2, ab 19 3, Zg 20 256 1 18, co 1 20 19]))))) (.reg [gj 21 4 1, ab 4 21])))
def f102 : FnIR := ⟨23, [.cell 0 true 256], ak [⟨none, some 0, .alloc (List.replicate 256 (.cv (.sc (.int .u32 0))))⟩] (ak [⟨none, some 1,
 .alloc (List.replicate 256 (.cv (.sc (.int .u32 0))))⟩] (.seq (ak [ce 4 0] (.block 0 (.loop f102_3))) (ak [iy 22 256 1, co 256 0 22] .ret)))⟩
def f119_0 : IR := ak [ab 9 0, ab 10 1, tw 11 56 9 10, ol 12 11] (da 12 (ak [dg 4, dp 5 20] .ret) .skip)
def f119_1 : IR := da 26 .skip (.exit 0)
def f119_2 : IR := ak [kk 26 25 24] (.seq f119_1 (.seq (.block 1 (ak [iq 27 65 23 25, iy 28 65 27, ⟨none, some 8,
 .alloc ((.cv (.sc (.int .i64 0))) :: List.replicate 64 (.cv (.sc (.int .u8 0))))⟩, co 65 8 28] (ak [bq 29 0 8, ay 30 29, ab 31 1,
 Ih 32 30 31] (da 32 (.reg [bq 33 1 8, iy 34 64 33, co 64 6 34]) .skip)))) (.reg [gj 35 25 1, ab 25 35])))
def f119 : FnIR := ⟨37, [.t 4, .t 5], ak [dg 4, dp 5 0] (.seq f119_0 (ak [ab 13 0, eo 14 13, bq 15 0 14, ay 16 15, ab 17 1, iq 18 64 16 17,
 iy 19 64 18, ⟨none, some 6, .alloc (List.replicate 64 (.cv (.sc (.int .u8 0))))⟩, co 64 6 19] (.seq (ak [ab 20 0, eo 21 20, bq 22 1 21, ay 23 22, di 24 23,
 ce 25 0] (.block 0 (.loop f119_2))) (ak [Nh 36 64 6, ab 4 36, dp 5 0] .ret))))⟩
abbrev ai5 : List Nat := [31, 32, 27, 119, 29, 26, 28, 56, 57, 54, 53, 10, 14, 15, 16, 20, 21, 25, 11, 13, 34, 60, 33, 63, 35, 38, 36, 17]
abbrev ah5 : List Nat := [31, 32, 27, 119, 29, 26, 28, 56, 57, 54, 53, 10]
def aie : Nat → List Nat := fun n => match n with
 | 3 | 11 | 12 | 13 | 14 | 15 | 16 | 20 | 30 | 33 | 35 | 38 | 41 | 60 => ai5
 | 10 | 29 | 31 | 32 | 53 | 54 | 56 | 57 | 58 | 119 => ah5
 | 19 => [45, 44]
 | 34 => [31, 32, 27, 119, 29, 26, 28, 56, 57, 54, 53, 10, 14, 15, 16, 20, 21, 25, 11, 13, 34, 60, 33, 63, 35, 38, 36, 17, 45]
 | 36 => [31, 32, 27, 119, 29, 26, 28, 56, 57, 54, 53, 10, 14, 15, 16, 20, 21, 25, 11, 13, 34, 60, 33, 63, 35, 38, 36, 17, 45, 44]
 | 37 => [65]
 | 39 => [66, 67, 50, 70]
 | 42 => [66]
 | 44 => [72]
 | 46 | 75 => [74]
 | 48 => [76]
 | 50 | 73 | 96 => [3000000]
 | 59 => [79]
 | 61 => [80]
 | 63 => [31, 32, 27, 119, 29, 26, 28, 56, 57, 54, 53, 10, 14, 15, 16, 20, 21, 25, 11, 13, 34, 60, 33, 63, 35, 38, 36, 17, 1000081]
 | 67 => [50, 3000000]
 | 79 => [88]
 | 89 => [77]
 | 98 => [75]
 | _ => []
def ahv : Nat → List (Nat × Nat) := fun n => match n with
 | 10 => [(3, 1)]
 | 13 => [(10, 6)]
 | 36 => [(1, 9)]
 | 54 => [(3, 2)]
 | 77 => [(2, 3)]
 | _ => []
theorem f70_ok : Qs Proofs.Try.prog [3000004] [] Proofs.Try.f70 = some f70 := by kernel_rfl
def f70x : FnIR := ⟨3, [.t 2], .reg [⟨none, some 2, .ins 2 40 (.t 0) (.t 1) (.t 2)⟩]⟩
def F : Nat → Option FnIR := fun n => match n with
 | 3 => some f3
 | 10 => some f10
 | 11 => some f11
 | 12 => some f12
 | 13 => some f13
 | 14 => some f14
 | 15 => some f15
 | 16 => some f16
 | 19 => some f19
 | 20 => some f20
 | 29 => some f29
 | 30 => some f30
 | 31 => some f31
 | 32 => some f32
 | 33 => some f33
 | 34 => some f34
 | 35 => some f35
 | 36 => some f36
 | 37 => some f37
 | 38 => some f38
 | 39 => some f39
 | 40 => some f40
 | 41 => some f41
 | 42 => some f42
 | 44 => some f44
 | 45 => some f45
 | 46 => some f46
 | 47 => some f47
 | 48 => some f48
 | 50 => some f50
 | 52 => some f52
 | 53 => some f53
 | 54 => some f54
 | 56 => some f56
 | 57 => some f57
 | 58 => some f58
 | 59 => some f59
 | 60 => some f60
 | 61 => some f61
 | 62 => some f62
 | 63 => some f63
 | 64 => some f64
 | 65 => some f65
 | 66 => some f66
 | 67 => some f67
 | 68 => some f68
 | 69 => some f69
 | 70 => some f70x
 | 71 => some f71
 | 72 => some f72
 | 73 => some f73
 | 74 => some f74
 | 75 => some f75
 | 76 => some f76
 | 77 => some f77
 | 78 => some f78
 | 79 => some f79
 | 80 => some f80
 | 81 => some f81
 | 82 => some f82
 | 83 => some f83
 | 84 => some f84
 | 87 => some f87
 | 88 => some f88
 | 89 => some f89
 | 90 => some f90
 | 91 => some f91
 | 92 => some f92
 | 93 => some f93
 | 95 => some f95
 | 96 => some f96
 | 97 => some f97
 | 98 => some f98
 | 99 => some f99
 | 100 => some f100
 | 102 => some f102
 | 119 => some f119
 | _ => none
def ahz (f : Nat) : Option FnIR := if f = 70 then none else F f
theorem am2 {f : Nat} {fn : FnIR} (h : F f = some fn) : f < 120 := by
 unfold F at h
 split at h <;> first | decide | cases h
theorem tlt {f : Nat} {fn : FnIR} (h : F f = some fn) : f < YB := Nat.lt_trans (am2 h) (by decide)
theorem anl : ((List.range 120).map fun f => if (ahz f).isSome = true then (Proofs.Try.prog.funcs[f]?).map fun c => (c.name == "runtime.NumGoroutine", Qs Proofs.Try.prog (aie f) (ahv f) c) else none) = (List.range 120).map fun f => if (ahz f).isSome = true then some (false, ahz f) else none := by kernel_rfl
theorem anb (h70 : afu Proofs.Try.prog 70 f70x) : Sw Proofs.Try.prog F := by
 refine ⟨by kernel_rfl, fun f fn h => ⟨tlt h, ?_⟩⟩
 by_cases e70 : f = 70
 ·subst e70
  have h : some f70x = some fn := h
  cases h
  exact .inr h70
 have hf : ahz f = some fn := by
  unfold ahz
  rw [if_neg e70]
  exact h
 have k := congrArg (·[f]?) anl
 simp only [List.getElem?_map, List.getElem?_range (am2 h)] at k
 have k := Option.some.inj k
 dsimp only at k
 have p : (some fn).isSome = true := rfl
 rw [hf, if_pos p, if_pos p] at k
 cases hc : Proofs.Try.prog.funcs[f]? with
 | none => rw [hc] at k; cases k
 | some c =>
  rw [hc] at k
  have k := Option.some.inj k
  exact .inl ⟨c, aie f, ahv f, rfl, congrArg (·.1) k, congrArg (·.2) k⟩
end Go.V08
