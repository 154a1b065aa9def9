/-
 Chapter 08: the program's functions, as the small code (printed by a program of ours, checked by the kernel).
-/
import Derived.Test.YtbhoknaipfnlnaaVmAll1
import Derived.Test.YtbhoknaipfnlnaaProg
namespace Go.V08
open Go Go.Vm
theorem eE1 {F : Nat → Option FnIR} {f n : Nat} {fn : FnIR} (hf : F f = some fn) (hn : fn.nt = n) {a0 : VV} {h : ae} {P : VV → ae → Prop} (k : ∀ s : List VV, s.length = n → s.getD 0 .undef = a0 → X F fn.body ⟨s, h⟩ (RQ fn.res P)) (hb : Nat.ble 1 n = true := by rfl) : ∃ v h', call F f [a0] h = some (.ret v, h') ∧ P v h' := by
  subst hn
  exact ba hf (k _ (by have := Nat.le_of_ble_eq_true hb; simp <;> omega) rfl) hb
theorem eE2 {F : Nat → Option FnIR} {f n : Nat} {fn : FnIR} (hf : F f = some fn) (hn : fn.nt = n) {a0 a1 : VV} {h : ae} {P : VV → ae → Prop} (k : ∀ s : List VV, s.length = n → s.getD 0 .undef = a0 → s.getD 1 .undef = a1 → X F fn.body ⟨s, h⟩ (RQ fn.res P)) (hb : Nat.ble 2 n = true := by rfl) : ∃ v h', call F f [a0, a1] h = some (.ret v, h') ∧ P v h' := by
  subst hn
  exact ba hf (k _ (by have := Nat.le_of_ble_eq_true hb; simp <;> omega) rfl rfl) hb
theorem eE3 {F : Nat → Option FnIR} {f n : Nat} {fn : FnIR} (hf : F f = some fn) (hn : fn.nt = n) {a0 a1 a2 : VV} {h : ae} {P : VV → ae → Prop} (k : ∀ s : List VV, s.length = n → s.getD 0 .undef = a0 → s.getD 1 .undef = a1 → s.getD 2 .undef = a2 → X F fn.body ⟨s, h⟩ (RQ fn.res P)) (hb : Nat.ble 3 n = true := by rfl) : ∃ v h', call F f [a0, a1, a2] h = some (.ret v, h') ∧ P v h' := by
  subst hn
  exact ba hf (k _ (by have := Nat.le_of_ble_eq_true hb; simp <;> omega) rfl rfl rfl) hb
theorem eE4 {F : Nat → Option FnIR} {f n : Nat} {fn : FnIR} (hf : F f = some fn) (hn : fn.nt = n) {a0 a1 a2 a3 : VV} {h : ae} {P : VV → ae → Prop} (k : ∀ s : List VV, s.length = n → s.getD 0 .undef = a0 → s.getD 1 .undef = a1 → s.getD 2 .undef = a2 → s.getD 3 .undef = a3 → X F fn.body ⟨s, h⟩ (RQ fn.res P)) (hb : Nat.ble 4 n = true := by rfl) : ∃ v h', call F f [a0, a1, a2, a3] h = some (.ret v, h') ∧ P v h' := by
  subst hn
  exact ba hf (k _ (by have := Nat.le_of_ble_eq_true hb; simp <;> omega) rfl rfl rfl rfl) hb
theorem eE5 {F : Nat → Option FnIR} {f n : Nat} {fn : FnIR} (hf : F f = some fn) (hn : fn.nt = n) {a0 a1 a2 a3 a4 : VV} {h : ae} {P : VV → ae → Prop} (k : ∀ s : List VV, s.length = n → s.getD 0 .undef = a0 → s.getD 1 .undef = a1 → s.getD 2 .undef = a2 → s.getD 3 .undef = a3 → s.getD 4 .undef = a4 → X F fn.body ⟨s, h⟩ (RQ fn.res P)) (hb : Nat.ble 5 n = true := by rfl) : ∃ v h', call F f [a0, a1, a2, a3, a4] h = some (.ret v, h') ∧ P v h' := by
  subst hn
  exact ba hf (k _ (by have := Nat.le_of_ble_eq_true hb; simp <;> omega) rfl rfl rfl rfl rfl) hb
abbrev Zl : VV := .cv (.sc (.bool true))
abbrev Zy : VV := .cv (.sc (.bool false))
abbrev Vs : VV := .cv (.sc (.slice none 0 0))
abbrev amc : VV := .cv (.sc (.string ⟨#[]⟩))
abbrev ak (l : List Op1) (c : IR) : IR := .seq (.reg l) c
abbrev cz (n : Nat) (a b : IR) : IR := .cond (.t n) a b
abbrev Aj : Cl := .r 0 1
abbrev ab (a b : Nat) : Op1 := ⟨none, some a, .mv (.t b)⟩
abbrev ay (a b : Nat) : Op1 := ⟨none, some a, .ld false 1 (.t b)⟩
abbrev bj (a b c : Nat) : Op1 := ⟨none, some a, .ext (.t b) c⟩
abbrev bp (a b c : Nat) : Op1 := ⟨none, some a, .fad b (.t c)⟩
abbrev bw (a : Nat) (b : Int) : Op1 := ⟨none, some a, .mv (.c (vi .i64 b))⟩
abbrev ct (a b c : Nat) : Op1 := ⟨none, none, .st a (.t b) (.t c)⟩
abbrev df (a b : Nat) : Op1 := ⟨none, some a, .len false (.t b)⟩
abbrev di (a : Nat) : Op1 := ⟨none, some a, .mv (.c Vs)⟩
abbrev dp (a : Nat) (b : Int) : Op1 := ⟨none, some a, .mv (.c (vi .u16 b))⟩
abbrev ej (a b : Nat) : Op1 := ⟨none, some a, .nilck (.t b)⟩
abbrev gn (a b : Nat) (c : Int) : Op1 := ⟨none, some a, .bin .add (.t b) (.c (vi .i64 c))⟩
abbrev gz (a : Nat) : Op1 := ⟨none, some a, .mv (.c Zy)⟩
abbrev iq (a b c : Nat) : Op1 := ⟨some (a, false), some b, .mv (.t c)⟩
abbrev iy (a b c : Nat) : Op1 := ⟨some (a, true), some b, .mv (.t c)⟩
abbrev jd (a b c d : Nat) : Op1 := ⟨none, some a, .iadL b (.t c) (.t d)⟩
abbrev jh (a b c : Nat) : Op1 := ⟨none, some a, .call b true [.t c]⟩
abbrev jf (a b c : Nat) : Op1 := ⟨none, some a, .ld true b (.t c)⟩
abbrev ki (a b c : Nat) : Op1 := ⟨none, some a, .pick (.t b) (.c Zl) (.t c)⟩
abbrev lj (a b c : Nat) : Op1 := ⟨none, some a, .bin .lss (.t b) (.t c)⟩
abbrev lf (a b c : Nat) : Op1 := ⟨none, some a, .call b false [.t c]⟩
abbrev ky (a b c : Nat) : Op1 := ⟨none, some a, .pick (.t b) (.t c) (.c Zy)⟩
abbrev mc (a b c : Nat) : Op1 := ⟨none, some a, .bin .add (.t b) (.t c)⟩
abbrev nz (a b : Nat) : Op1 := ⟨none, some a, .un .not (.t b)⟩
abbrev py (a b : Nat) : Op1 := ⟨none, some a, .cvI .u8 (.t b)⟩
abbrev sv (a b : Nat) (c : Int) : Op1 := ⟨none, some a, .bin .lss (.t b) (.c (vi .i64 c))⟩
abbrev sr (a b c : Nat) : Op1 := ⟨none, some a, .box b (.t c)⟩
abbrev uq (a b : Nat) : Op1 := ⟨none, some a, .cvI .i64 (.t b)⟩
abbrev vg (a b c d : Nat) : Op1 := ⟨none, some a, .slL b (.t c) (some (.t d)) none none⟩
abbrev wi (a b c d : Nat) : Op1 := ⟨none, some a, .call b false [.t c, .t d]⟩
abbrev xd (a b c : Nat) : Op1 := ⟨none, some a, .app 1 1 [.sc (.int .u8 0)] (.t b) (.t c)⟩
abbrev wz (a b c : Nat) (d : Int) : Op1 := ⟨none, some a, .iadL b (.t c) (.c (vi .i64 d))⟩
abbrev Cm (a b c : Nat) : Op1 := ⟨some (a, false), some b, .len false (.t c)⟩
abbrev Cn (a b c : Nat) (d : Int) : Op1 := ⟨some (a, false), some b, .bin .gtr (.t c) (.c (vi .i64 d))⟩
abbrev Ck (a : Nat) (b : Int) (c : Nat) : Op1 := ⟨none, some a, .bin .add (.c (vi .i64 b)) (.t c)⟩
abbrev Ci (a b : Nat) (c : Int) : Op1 := ⟨none, some a, .bin .eql (.t b) (.c (vi .i64 c))⟩
abbrev Co (a b c d : Nat) : Op1 := ⟨none, some a, .call b true [.t c, .t d]⟩
abbrev En (a b : Nat) : Op1 := ⟨none, some a, .eqn .ptr false (.t b)⟩
abbrev Gf (a b : Nat) : Op1 := ⟨none, some a, .bin .neq (.t b) (.c (vi .u16 0))⟩
abbrev Gl (a b : Nat) (c : Int) : Op1 := ⟨none, some a, .bin .gtr (.t b) (.c (vi .i64 c))⟩
abbrev Jn  : Op1 := ⟨none, some 2, .mv (.c (.cv (.sc (.pointer none))))⟩
abbrev Jv (a : Nat) : Op1 := ⟨none, some a, .alloc [.cv (.sc (.int .i64 0)), .cv (.sc (.int .i64 0)), .cv (.sc (.int .i64 0))]⟩
abbrev Ik (a : Nat) : Op1 := ⟨none, some a, .mv (.c Zl)⟩
abbrev Jk (a b c d : Nat) : Op1 := ⟨none, some a, .cpy b (.t c) (.t d)⟩
abbrev Hf (a b c : Nat) (d : Int) : Op1 := ⟨none, some a, .iadA b 1 (.t c) (.c (vi .i64 d))⟩
abbrev Je (a b c : Nat) : Op1 := ⟨none, some a, .bin .eql (.t b) (.t c)⟩
abbrev Js (a b c d : Nat) : Op1 := ⟨none, some a, .slL b (.t c) none (some (.t d)) none⟩
abbrev Lp (a b c d : Nat) : Op1 := ⟨some (a, true), some b, .call c false [.t d]⟩
abbrev Lw (a b c : Nat) (d : Int) : Op1 := ⟨some (a, true), some b, .bin .eql (.t c) (.c (vi .i64 d))⟩
abbrev Ki (a b : Nat) : Op1 := ⟨none, some a, .mkif 23 (.t b)⟩
abbrev Ka (a b c : Nat) : Op1 := ⟨none, some a, .slA b 1 (.t c) none none⟩
abbrev Km (a : Nat) : Op1 := ⟨none, some a, .alloc [.cv (.sc (.string ⟨#[]⟩)), .cv (.sc (.slice none 0 0))]⟩
abbrev Mo (a b c d : Nat) : Op1 := ⟨some (a, true), some b, .fad c (.t d)⟩
abbrev Mg (a b c : Nat) : Op1 := ⟨some (a, true), some b, .ld false 1 (.t c)⟩
abbrev Mn (a b : Nat) (c : Int) : Op1 := ⟨none, some a, .bin .shr (.t b) (.c (vi .u64 c))⟩
abbrev Px (a b : Nat) : Op1 := ⟨none, some a, .cvBS (.t b)⟩
abbrev Qr (a b : Nat) : Op1 := ⟨none, some a, .bin .eql (.t b) (.c (vi .u16 0))⟩
abbrev Rt (a b c : Nat) : Op1 := ⟨none, some a, .bin .sub (.t b) (.t c)⟩
abbrev Qq (a b c : Nat) : Op1 := ⟨some (a, false), some b, .ld false 1 (.t c)⟩
abbrev Wc (a b c : Nat) : Op1 := ⟨some (a, false), some b, .un .not (.t c)⟩
abbrev Vw (a b c : Nat) : Op1 := ⟨none, some a, .bin .gtr (.t b) (.t c)⟩
abbrev Xb (a b : Nat) : Op1 := ⟨none, some a, .mksl 1 1 [.cv (.sc (.slice none 0 0))] [(0, (1, .t b))] false⟩
abbrev Wv (a b c : Nat) : Op1 := ⟨none, some a, .app 1 24 [.sc (.slice none 0 0)] (.t b) (.t c)⟩
abbrev Sn (a b c : Nat) (d : Int) : Op1 := ⟨none, some a, .call b false [.t c, .c (vi .i64 d)]⟩
abbrev Va (a b : Nat) (c : Int) : Op1 := ⟨none, some a, .bin .geq (.t b) (.c (vi .i64 c))⟩
abbrev Uh (a b c : Nat) : Op1 := ⟨none, some a, .callv false (.t b) [.t c]⟩
abbrev Uk (a b c : Nat) : Op1 := ⟨none, some a, .bin .or (.t b) (.t c)⟩
abbrev Tf (a b c : Nat) : Op1 := ⟨none, some a, .app 2 40 [.sc (.string ⟨#[]⟩), .sc (.slice none 0 0)] (.t b) (.t c)⟩
abbrev Xs (a b c d : Nat) : Op1 := ⟨some (a, false), some b, .call c false [.t d]⟩
abbrev aa7 (a b c d e : Nat) : Op1 := ⟨none, some a, .call b true [.t c, .t d, .t e]⟩
abbrev abf (a b c : Nat) : Op1 := ⟨some (a, true), some b, .len false (.t c)⟩
abbrev Yq (a b : Nat) : Op1 := ⟨none, some a, .inv [(17, 116), (23, 29)] (.t b) []⟩
abbrev Yu (a b : Nat) (c : Int) : Op1 := ⟨none, some a, .bin .sub (.t b) (.c (vi .i64 c))⟩
abbrev aax (a b c d : Nat) : Op1 := ⟨some (a, false), some b, .fad c (.t d)⟩
abbrev abp (a b c d e : Nat) : Op1 := ⟨none, some a, .call b false [.t c, .t d, .t e]⟩
abbrev abo (a : Nat) : Op1 := ⟨none, some a, .alloc [.cv (.sc (.string ⟨#[]⟩)), .cv (.sc (.slice none 0 0)), .cv (.sc (.bool false))]⟩
abbrev Zs (a b c d : Nat) : Op1 := ⟨none, some a, .iadA b 1 (.t c) (.t d)⟩
abbrev abk (a b : Nat) (c : Int) : Op1 := ⟨none, some a, .bin .shl (.t b) (.c (vi .u64 c))⟩
abbrev aba (a b c : Nat) (d : Int) : Op1 := ⟨none, some a, .call 99 true [.t b, .t c, .c (vi .i64 d)]⟩
abbrev aa5  : Op1 := ⟨none, some 6, .mv (.c amc)⟩
abbrev adl (a b c : Nat) : Op1 := ⟨some (a, false), some b, .bin .neq (.t c) (.c (vi .u16 0))⟩
abbrev ad6 (a b : Nat) : Op1 := ⟨none, some a, .call b true []⟩
abbrev ad3 (a b : Nat) : Op1 := ⟨none, some a, .mksl 1 1 [.cv (.sc (.int .u8 0))] [(0, (1, .t b))] false⟩
abbrev agi (a b c d : Nat) : Op1 := ⟨some (a, false), some b, .bin .gtr (.t c) (.t d)⟩
abbrev adq (a b c d : Nat) : Op1 := ⟨none, some a, .inv [(23, 31)] (.t b) [.t c, .t d]⟩
abbrev aeo (a b : Nat) : Op1 := ⟨none, some a, .inv [(23, 32)] (.t b) []⟩
abbrev afj (a : Nat) (b : Int) (c : Nat) : Op1 := ⟨none, some a, .bin .sub (.c (vi .i64 b)) (.t c)⟩
abbrev acx (a : Nat) : Op1 := ⟨none, none, .st 1 (.t a) (.c (vi .i64 0))⟩
abbrev aga (a b c d : Nat) : Op1 := ⟨some (a, true), some b, .bin .leq (.t c) (.t d)⟩
abbrev afc (a b c : Nat) : Op1 := ⟨none, some a, .mkfn b [.t c]⟩
abbrev ad0 (a b : Nat) : Op1 := ⟨none, some a, .mksl 2 1 [.cv (.sc (.string ⟨#[]⟩)), .cv (.sc (.slice none 0 0))] [(0, (2, .t b))] false⟩
abbrev ac3 (a b : Nat) : Op1 := ⟨none, some a, .len true (.t b)⟩
abbrev adi (a : Nat) : Op1 := ⟨none, none, .panic (.t a)⟩
abbrev afs (a b c : Nat) (d : Int) : Op1 := ⟨some (a, true), some b, .bin .leq (.t c) (.c (vi .i64 d))⟩
abbrev ae8 (a : Nat) (b : Int) (c : Nat) : Op1 := ⟨none, some a, .bin .mul (.c (vi .i64 b)) (.t c)⟩
abbrev adj (a b : Nat) : Op1 := ⟨none, some a, .cap (.t b)⟩
abbrev ac8 (a b c : Nat) (d : Int) : Op1 := ⟨some (a, true), some b, .bin .gtr (.t c) (.c (vi .i64 d))⟩
abbrev af5 (a : Nat) : Op1 := ⟨none, some a, .build [.cv (.sc (.string ⟨#[]⟩)), .cv (.sc (.slice none 0 0)), .cv (.sc (.bool false))] []⟩
abbrev af7 (a b : Nat) (c : Int) : Op1 := ⟨none, some a, .bin .eql (.t b) (.c (vi .u8 c))⟩
abbrev ads (a b c : Nat) : Op1 := ⟨none, some a, .bin .xor (.t b) (.t c)⟩
abbrev aht (a b : Nat) (c : Int) : Op1 := ⟨none, some a, .bin .rem (.t b) (.c (vi .u8 c))⟩
abbrev akk (a : Nat) : Op1 := ⟨none, some 56, .build [.cv (.sc (.string ⟨#[]⟩)), .cv (.sc (.slice none 0 0)), .cv (.sc (.bool false))] [(0, (1, .t a)), (1, (1, .t 55))]⟩
abbrev aim (a b : Nat) : Op1 := ⟨none, some a, .mksl 3 1 [.cv (.sc (.string ⟨#[]⟩)), .cv (.sc (.slice none 0 0)), .cv (.sc (.bool false))] [(0, (3, .t b))] false⟩
abbrev ag5 (a b c : Nat) (d : Int) : Op1 := ⟨some (a, false), some b, .bin .neq (.t c) (.c (vi .i64 d))⟩
abbrev ain (a : Nat) (b : Int) : Op1 := ⟨none, some a, .call 10 false [.c (vi .i64 b)]⟩
abbrev ag3 (a b c : Nat) : Op1 := ⟨some (a, true), some b, .bin .eql (.t c) (.c (vi .u16 0))⟩
abbrev ahl (a b : Nat) (c : Int) : Op1 := ⟨none, some a, .bin .quo (.t b) (.c (vi .i64 c))⟩
abbrev ai8 (a b c d : Nat) : Op1 := ⟨none, some a, .bin .add (.t b) (.c (.cv (.sc (.complex .f64 c d))))⟩
abbrev aij  : Op1 := ⟨none, some 9, .alloc [.cv (.sc (.int .i64 0))]⟩
abbrev akd (a b c d : Nat) : Op1 := ⟨none, some a, .build [.cv (.sc (.int .i64 0)), .cv (.sc (.int .i64 0)), .cv (.sc (.int .i64 0))] [(0, (1, .t b)), (1, (1, .t c)), (2, (1, .t d))]⟩
abbrev ah8 (a b : Nat) : Op1 := ⟨none, some a, .bin .mul (.t b) (.c (vi .i64 4))⟩
abbrev ahx (a b c : Nat) : Op1 := ⟨none, some a, .build [.cv (.sc (.string ⟨#[]⟩)), .cv (.sc (.slice none 0 0))] [(0, (1, .t b)), (1, (1, .t c))]⟩
abbrev aj2 (a b c : Nat) : Op1 := ⟨none, some a, .call b false [.c Vs, .t c]⟩
abbrev ag1 (a : Nat) : Op1 := ⟨none, some a, .mv (.c (.cv (.sc .nilFunc)))⟩
abbrev ahp (a : Nat) (b : Int) : Op1 := ⟨none, some a, .mksl 1 1 [.cv (.sc (.int .u8 0))] [(0, (1, .c (vi .u8 b)))] false⟩
abbrev ah9 (a : Nat) (b : Int) : Op1 := ⟨none, some a, .slA 60 1 (.t 11) (some (.c (vi .i64 b))) none⟩
abbrev aj9  : Op1 := ⟨none, some 4, .eqn .slice false (.t 3)⟩
abbrev akf (a : Nat) : Op1 := ⟨none, none, .st 1 (.t a) (.c Vs)⟩
abbrev ai4 (a b c : Nat) : Op1 := ⟨none, some a, .slL 1 (.t b) (some (.c (vi .i64 11))) (some (.t c)) none⟩
abbrev aka (a : Nat) : Op1 := ⟨none, some a, .alloc [.cv (.sc (.slice none 0 0))]⟩
abbrev ah4 (a : Nat) : Op1 := ⟨none, some a, .mv (.c (vi .u32 0))⟩
abbrev ahq (a b : Nat) (c : Int) : Op1 := ⟨none, some a, .bin .and (.t b) (.c (vi .u8 c))⟩
def f5_0 : IR := ak [ab 15 5, En 16 15, ab 17 16, iq 17 18 1, Cm 17 19 18, Cn 17 20 19 30, ki 21 17 20, ab 22 21, iq 22 23 5, Xs 22 24 11 23,
 adl 22 25 24, ki 26 22 25] (cz 26 (ak [ad6 27 12, ab 4 27] .ret) .skip)
def f5_1 : IR := ak [ab 33 7, Gf 34 33] (cz 34 (ak [gz 4] .ret) .skip)
def f5_2 : IR := ak [ab 66 12, nz 67 66, ab 68 67, iq 68 69 6, iq 68 70 10, ⟨some (68, false), some 71, .call 14 false [.t 69, .t 70]⟩, adl 68 72 71,
 ki 73 68 72] (cz 73 (ak [gz 4] .ret) .skip)
def f5_3 : IR := .seq (ak [ab 35 9, ab 36 1, df 37 36, lj 38 35 37] (cz 38 .skip (.exit 0))) (.seq (.block 1 (.seq (.draw [(ab 41 1,.p), (ab 42 9,.p),
 (jd 43 1 41 42, .r 0 0), (ay 44 43, .r 0 0), (aht 45 44 16,.p), (⟨none, some 46, .bin .add (.c (vi .u8 97)) (.t 45)⟩, .p), (ad3 47 46, .r 0 0), (Px 48 47, .r 0 0),
 (ab 49 1,.p), (ab 50 9,.p), (jd 51 1 49 50, .r 0 0), (ay 52 51, .r 0 0), (aht 53 52 150,.p), (uq 54 53,.p), (⟨none, some 55,
 .mks 1 1 [.sc (.int .u8 0)] (.t 54) (.t 54) false⟩, .p), (akk 48,.p), (aim 57 56, .r 0 0), (ab 10 57,.p)]) (ak [ab 59 6, lf 60 20 59, ab 61 9, ab 62 10,
 aa7 63 19 60 61 62, ab 58 63, bj 64 58 0, bj 65 58 1, ab 11 64, ab 12 65] (.seq f5_2 (.seq (ak [ab 74 8, ab 75 11, df 76 75, mc 77 74 76,
 ab 8 77] (ak [ab 78 8, Gl 79 78 100] (cz 79 (ak [ad6 80 12, ab 4 80] .ret) .skip))) (ak [ab 81 6, lf 82 21 81, ab 83 8, ⟨none, some 84,
 .bin .neq (.t 82) (.t 83)⟩, ab 85 84, iq 85 86 6, Xs 85 87 20 86, ag5 85 88 87 2, ki 89 85 88] (cz 89 (ak [gz 4] .ret) .skip))))))) (.reg [ab 39 9,
 gn 40 39 1, ab 9 40]))
def f5 : FnIR := ⟨116, [.t 4], ak [gz 4] (ak [ain 14 400, ab 5 14] (.seq f5_0 (ak [ab 29 5, lf 30 13 29, ab 28 30, bj 31 28 0, bj 32 28 1, ab 6 31,
 ab 7 32] (.seq f5_1 (ak [bw 8 0] (.seq (ak [bw 9 0] (.block 0 (.loop f5_3))) (ak [ab 90 6, lf 91 16 90, df 92 91, ab 13 92] (ak [ab 93 6,
 lf 94 15 93, Qr 95 94, ab 96 95, iy 96 97 6, Lp 96 98 21 97, Lw 96 99 98 0, ky 100 96 99, ab 101 100, iy 101 102 6, Lp 101 103 20 102,
 Lw 101 104 103 3, ky 105 101 104, ab 106 105, iy 106 107 6, Lp 106 108 16 107, abf 106 109 108, iy 106 110 13, ⟨some (106, true), some 111,
 .bin .eql (.t 109) (.t 110)⟩, ky 112 106 111, ab 113 112, ⟨some (113, true), some 114, .call 12 true []⟩, ky 115 113 114, ab 4 115] .ret))))))))⟩
def f10_0 : IR := ak [ab 3 0, sv 4 3 0, ab 5 4, iq 5 6 0, Cn 5 7 6 4096, ki 8 5 7] (cz 8 (ak [Jn] .ret) .skip)
def f10 : FnIR := ⟨13, [.t 2], ak [Jn] (.seq f10_0 (ak [ab 9 0, ⟨none, some 10, .mks 64 64 (List.replicate 64 (.sc (.int .u8 0))) (.t 9) (.t 9) true⟩, ⟨none, some 11,
 .build [.cv (.sc (.slice none 0 0)), .cv (.sc (.slice none 0 0)), .cv (.sc (.complex .f64 0 0)), .cv (.sc (.bool false)), .cv (.sc (.int .i64 0))] [(0, (1, .t 10))]⟩,
 sr 12 5 11, ab 2 12] .ret))⟩
def f11_0 : IR := ak [ab 8 0, lf 9 29 8, sv 10 9 64] (cz 10 (ak [dp 2 20] .ret) .skip)
def f11_1 : IR := cz 20 .skip (.exit 0)
def f11_2 : IR := ak [lj 20 19 18] (.seq f11_1 (.seq (.block 1 (ak [ab 21 19, ab 5 21] (.reg [ab 22 0, ab 23 5, ⟨none, some 24, .call 31 false [.t 22, .t 23,
 .c Vs]⟩]))) (.reg [gn 25 19 1, ab 19 25])))
def f11 : FnIR := ⟨38, [.t 2], ak [dp 2 0] (.seq f11_0 (ak [ab 12 0, lf 13 29 12, jh 14 30 13, ab 11 14, bj 15 11 0, bj 16 11 1, ab 3 15,
 ab 4 16] (.seq (ak [ab 17 3, Ck 18 2 17, bw 19 0] (.block 0 (.loop f11_2))) (ak [ab 26 0, lf 27 32 26] (ak [ab 29 0, Ki 30 29, ⟨none, some 31,
 .call 33 false [.t 30, .c Vs]⟩, ab 28 31, bj 32 28 0, bj 33 28 1, ab 6 32, ab 7 33] (ak [ab 34 0, Ki 35 34, ab 36 6, ⟨none, some 37,
 .call 34 false [.t 35, .t 36, .c (vi .i64 0), .c (vi .i64 1)]⟩] (ak [dp 2 0] .ret)))))))⟩
def f12_0 : IR := ak [ab 11 3, En 12 11, ab 13 12, iq 13 14 3, Xs 13 15 11 14, adl 13 16 15, ki 17 13 16] (cz 17 (ak [gz 0] .ret) .skip)
def f12 : FnIR := ⟨57, [.t 0], ak [gz 0] (ak [⟨none, some 7, .call 30 true [.c (vi .i64 64)]⟩, ab 6 7, bj 8 6 0, bj 9 6 1, ab 1 8, ab 2 9] (ak [ain 10 64,
 ab 3 10] (.seq f12_0 (ak [ab 19 3, lf 20 13 19, ab 18 20, bj 21 18 0, bj 22 18 1, ab 4 21, ab 5 22] (ak [ab 23 1, Ci 24 23 16, ab 25 24,
 iy 25 26 2, Lw 25 27 26 5, ky 28 25 27, ab 29 28, iy 29 30 5, ag3 29 31 30, ky 32 29 31, ab 33 32, iy 33 34 4, Lp 33 35 20 34, Lw 33 36 35 2,
 ky 37 33 36, ab 38 37, iy 38 39 4, Lp 38 40 16 39, abf 38 41 40, Lw 38 42 41 0, ky 43 38 42, ab 44 43, iy 44 45 4, ⟨some (44, true), some 46,
 .build [.cv (.sc (.string ⟨#[]⟩)), .cv (.sc (.slice none 0 0)), .cv (.sc (.bool false))] [(0, (1, .c (.cv (.sc (.string ⟨#[97]⟩)))))]⟩, ⟨some (44, true), some 47,
 .mksl 3 1 [.cv (.sc (.string ⟨#[]⟩)), .cv (.sc (.slice none 0 0)), .cv (.sc (.bool false))] [(0, (3, .t 46))] false⟩, ⟨some (44, true), some 48, .call 14 false [.t 45, .t 47]⟩,
 ag3 44 49 48, ky 50 44 49, ab 51 50, iy 51 52 4, Lp 51 53 16 52, abf 51 54 53, Lw 51 55 54 1, ky 56 51 55, ab 0 56] .ret)))))⟩
def f13_0 : IR := ak [ab 17 0, lf 18 29 17, sv 19 18 64] (cz 19 (ak [Jn, dp 3 20] .ret) .skip)
def f13_1 : IR := ak [ab 26 5, nz 27 26] (cz 27 (ak [Jn, dp 3 11] .ret) .skip)
def f13_2 : IR := ak [ab 35 7, Gf 36 35] (cz 36 (ak [ab 37 7, Jn, ab 3 37] .ret) .skip)
def f13_3 : IR := cz 57 .skip (.exit 0)
def f13_4 : IR := ak [lj 57 56 55] (.seq f13_3 (.seq (.block 1 (ak [jd 58 1 54 56, ay 59 58, ab 13 59] (.reg [ab 60 6, ab 61 13, Co 62 39 60 61,
 ab 6 62]))) (.reg [gn 63 56 1, ab 56 63])))
def f13 : FnIR := ⟨87, [.t 2, .t 3], ak [Jn, dp 3 0] (.seq f13_0 (ak [ab 21 0, Ki 22 21, lf 23 35 22, ab 20 23, bj 24 20 0, bj 25 20 1, Jv 4,
 ct 3 4 24, ab 5 25] (.seq f13_1 (ak [ab 29 0, Ki 30 29, jf 31 3 4, wi 32 36 30 31, ab 28 32, bj 33 28 0, bj 34 28 1, ab 6 33,
 ab 7 34] (.seq f13_2 (ak [ab 39 0, lf 40 29 39, jh 41 30 40, ab 38 41, bj 42 38 0, bj 43 38 1, ab 8 42, ab 9 43] (.seq (.draw [(bp 45 0 4,.p),
 (ay 46 45, Aj), (ab 47 0,.p), (Ki 48 47,.p), (ab 49 8,.p), (⟨none, some 50, .call 38 false [.t 48, .c (vi .i64 2), .t 49]⟩, .k), (Co 51 37 46 50,.k),
 (ab 44 51,.p), (bj 52 44 0,.p), (bj 53 44 1,.p), (ab 10 52,.p), (ab 11 53,.p)]) (.seq (ak [ab 54 10, df 55 54,
 bw 56 0] (.block 0 (.loop f13_4))) (.seq (ak [ab 65 0, Ki 66 65, ab 67 6, wi 68 33 66 67, ab 64 68, bj 69 64 0, bj 70 64 1, ab 14 69,
 ab 15 70] (.block 2 (ak [ab 72 15, nz 73 72, ab 71 73] (cz 71 (ak [Jn, dp 3 21] .ret) (ak [bp 75 0 4, ay 76 75, Ci 77 76 1073741824,
 ab 74 77] (cz 74 (ak [Jn, dp 3 32] .ret) .skip)))))) (ak [ab 78 0, Ki 79 78, ab 80 6, jf 81 3 4, ⟨none, some 82, .build [.cv (.sc .nilIface),
 .cv (.sc (.slice none 0 0)), .cv (.sc (.int .i64 0)), .cv (.sc (.int .i64 0)), .cv (.sc (.int .i64 0)), .cv (.sc (.int .i64 0)), .cv (.sc (.int .i64 0))] [(0, (1, .t 79)), (1, (1,
 .t 80)), (2, (3, .t 81))]⟩, sr 83 7 82, ab 16 83] (ak [ab 84 16, ab 85 16, lf 86 15 85, ab 2 84, ab 3 86] .ret)))))))))))⟩
def f14_0 : IR := ak [ab 63 9, nz 64 63, ab 65 64, iq 65 66 11, Wc 65 67 66, ki 68 65 67, ab 69 68, iq 69 70 10, Cm 69 71 70, iq 69 72 6,
 agi 69 73 71 72, ki 74 69 73] (cz 74 (ak [dp 4 21] .ret) .skip)
def f14_1 : IR := ak [ab 75 0, ej 76 75, bp 77 5 76, ay 78 77, ab 79 10, df 80 79, mc 81 78 80, ab 82 6, Vw 83 81 82] (cz 83 (.seq (ak [ab 84 0,
 lf 85 15 84, ab 12 85] (ak [ab 86 12, Gf 87 86] (cz 87 (ak [ab 88 12, ab 4 88] .ret) .skip))) (.draw [(ab 90 0,.p), (ej 91 90,.p), (bp 92 2 91,.p),
 (bp 93 0 92,.p), (ay 94 93, .r 0 0), (ab 95 0,.p), (ej 96 95,.p), (bp 97 6 96,.p), (ay 98 97, .r 0 0), (ab 99 1,.p), (aa7 100 19 94 98 99, .r 0 0),
 (ab 89 100,.p), (bj 101 89 0,.p), (bj 102 89 1,.p), (ab 10 101,.p)])) .skip)
def f14_2 : IR := cz 106 .skip (.exit 1)
def f14_3 : IR := ak [lj 106 105 104] (.seq f14_2 (.seq (.block 2 (ak [ab 107 105, jd 108 1 103 105, ay 109 108, ab 13 107,
 ab 14 109] (.draw [(ab 110 0,.p), (ej 111 110,.p), (bp 112 0 111,.p), (ay 113 112, .r 0 0), (ab 114 0,.p), (ej 115 114,.p), (bp 116 5 115,.p),
 (ay 117 116, .r 0 0), (Ck 118 2 117,.p), (ab 119 13,.p), (mc 120 118 119,.p), (ab 121 14,.p), (ej 122 113,.p), (ab 123 113,.p),
 (adq 124 123 120 121,.k)]))) (.reg [gn 125 105 1, ab 105 125])))
def f14 : FnIR := ⟨152, [.t 4], ak [dp 4 0] (.seq (.block 0 (ak [ab 16 0, En 17 16, ab 15 17] (cz 15 (ak [dp 4 30] .ret) (ak [ab 19 1, df 20 19,
 Ci 21 20 0, ab 18 21] (cz 18 (ak [dp 4 0] .ret) (ak [ab 23 1, ⟨none, some 24, .call 40 true [.t 23, .c (.func 41 [])]⟩,
 ab 22 24] (cz 22 (ak [dp 4 3] .ret) .skip))))))) (ak [ab 25 0, ej 26 25, bp 27 1 26, ay 28 27, ab 29 1, Co 30 39 28 29, ab 5 30] (ak [ab 32 0,
 ej 33 32, bp 34 0 33, ay 35 34, Yq 36 35, jh 37 30 36, ab 31 37, bj 38 31 0, bj 39 31 1, ab 6 38, ab 7 39] (ak [ab 41 0, ej 42 41,
 bp 43 0 42, ay 44 43, ab 45 5, wi 46 33 44 45, ab 40 46, bj 47 40 0, bj 48 40 1, ab 8 47, ab 9 48] (.seq (.draw [(ab 50 0,.p), (ej 51 50,.p),
 (bp 52 2 51,.p), (bp 53 0 52,.p), (ay 54 53, .r 0 0), (ab 55 0,.p), (ej 56 55,.p), (bp 57 6 56,.p), (ay 58 57, .r 0 0), (ab 59 1,.p), (aa7 60 19 54 58 59,
 .r 0 0), (ab 49 60,.p), (bj 61 49 0,.p), (bj 62 49 1,.p), (ab 10 61,.p), (ab 11 62,.p)]) (.seq f14_0 (.seq f14_1 (.seq (ak [ab 103 10, df 104 103,
 bw 105 0] (.block 1 (.loop f14_3))) (ak [ab 126 0, ej 127 126, bp 128 0 127, ay 129 128, aeo 130 129] (ak [ab 131 0, ab 132 0, ab 133 5, ab 134 0,
 ej 135 134, bp 136 5 135, ay 137 136, ab 138 10, df 139 138, mc 140 137 139, ej 141 131, bp 142 1 141, ct 1 142 133, ej 143 132, bp 144 5 143,
 ct 1 144 140] (ak [ab 145 0, ej 146 145, bp 147 6 146, ay 148 147, gn 149 148 1, ej 150 145, bp 151 6 150,
 ct 1 151 149] (ak [dp 4 0] .ret))))))))))))⟩
def f15 : FnIR := ⟨54, [.t 2], ak [dp 2 0] (.seq (.block 0 (ak [ab 6 0, En 7 6, ab 5 7] (cz 5 (ak [dp 2 30] .ret) (ak [ab 9 0, ej 10 9, bp 11 2 10,
 bp 12 0 11, ay 13 12, Ci 14 13 1073741824, ab 8 14] (cz 8 (ak [dp 2 32] .ret) .skip))))) (.seq (.draw [(ab 16 0,.p), (ej 17 16,.p), (bp 18 0 17,.p),
 (ay 19 18, .r 0 0), (ab 20 0,.p), (ej 21 20,.p), (bp 22 1 21,.p), (ay 23 22, .r 0 0), (wi 24 33 19 23,.k), (ab 15 24,.p), (bj 25 15 0,.p),
 (bj 26 15 1,.p), (ab 3 25,.p), (ab 4 26,.p)]) (.seq (.draw [(ab 27 0,.p), (ab 28 0,.p), (ej 29 28,.p), (bp 30 0 29,.p), (ay 31 30, .r 0 0), (ab 32 3,.p),
 (ab 33 0,.p), (ej 34 33,.p), (bp 35 2 34,.p), (bp 36 1 35,.p), (ay 37 36, .r 0 0), (afj 38 1 37,.p), (ab 39 0,.p), (ej 40 39,.p), (bp 41 2 40,.p),
 (bp 42 0 41,.p), (ay 43 42, .r 0 0), (gn 44 43 1,.p), (⟨none, some 45, .call 34 false [.t 31, .t 32, .t 38, .t 44]⟩,.k), (ej 46 27,.p), (bp 47 2 46,.p),
 (ct 3 47 45,.k)]) (ak [ab 48 0, ab 49 0, ej 50 48, bp 51 5 50, acx 51, ej 52 49, bp 53 6 52, acx 53] (ak [dp 2 0] .ret)))))⟩
def f16_0 : IR := ak [ab 3 0, En 4 3] (cz 4 (ak [di 2] .ret) .skip)
def f16 : FnIR := ⟨10, [.t 2], ak [di 2] (.seq f16_0 (ak [ab 5 0, ej 6 5, bp 7 1 6, ay 8 7, jh 9 42 8, ab 2 9] .ret))⟩
def f19_0 : IR := ak [ab 16 0, jh 17 47 16, nz 18 17, ab 19 18, iq 19 20 1, ⟨some (19, false), some 21, .call 47 true [.t 20]⟩, Wc 19 22 21, ki 23 19 22,
 ab 24 23, iq 24 25 8, Cm 24 26 25, Cn 24 27 26 200, ki 28 24 27] (cz 28 (ak [di 6, gz 7] .ret) .skip)
def f19_1 : IR := cz 32 .skip (.exit 0)
def f19_2 : IR := ak [lj 32 31 30] (.seq f19_1 (.seq (.block 1 (ak [ab 33 31, jd 34 1 29 31, ay 35 34, ab 10 33, ab 11 35] (.reg [ab 36 9, ab 37 0,
 ab 38 1, ab 39 10, ab 40 8, df 41 40, ab 42 11, ⟨none, some 43, .call 48 true [.t 37, .t 38, .t 39, .t 41, .t 42]⟩, Xb 44 43, Wv 45 36 44,
 ab 9 45]))) (.reg [gn 46 31 1, ab 31 46])))
def f19 : FnIR := ⟨48, [.t 6, .t 7], ak [di 6, gz 7] (ak [ab 12 2, jh 13 46 12, Sn 14 45 13 49, lf 15 44 14,
 ab 8 15] (.seq f19_0 (ak [di 9] (.seq (ak [ab 29 8, df 30 29, bw 31 0] (.block 0 (.loop f19_2))) (ak [ab 47 9, ab 6 47, Ik 7] .ret)))))⟩
def f20_0 : IR := ak [ab 3 0, En 4 3] (cz 4 (ak [bw 2 0] .ret) .skip)
def f20 : FnIR := ⟨10, [.t 2], ak [bw 2 0] (.seq f20_0 (ak [ab 5 0, ej 6 5, bp 7 2 6, bp 8 0 7, ay 9 8, ab 2 9] .ret))⟩
def f21_0 : IR := ak [ab 3 0, En 4 3] (cz 4 (ak [bw 2 0] .ret) .skip)
def f21 : FnIR := ⟨9, [.t 2], ak [bw 2 0] (.seq f21_0 (ak [ab 5 0, ej 6 5, bp 7 5 6, ay 8 7, ab 2 8] .ret))⟩
def f29_0 : IR := ak [ab 3 0, En 4 3] (cz 4 (ak [bw 2 0] .ret) .skip)
def f29 : FnIR := ⟨10, [.t 2], ak [bw 2 0] (.seq f29_0 (ak [ab 5 0, ej 6 5, bp 7 0 6, ay 8 7, df 9 8, ab 2 9] .ret))⟩
def f30_0 : IR := ak [ab 5 0, sv 6 5 64] (cz 6 (ak [bw 2 0, bw 3 0] .ret) .skip)
def f30 : FnIR := ⟨15, [.t 2, .t 3], ak [bw 2 0, bw 3 0] (.seq f30_0 (ak [ab 7 0, ahl 8 7 4, ab 4 8] (ak [ab 9 4, ab 10 0, Yu 11 10 2, ab 12 4,
 Rt 13 11 12, ahl 14 13 8, ab 2 9, ab 3 14] .ret)))⟩
def f31_0 : IR := ak [ab 17 0, lf 18 57 17, nz 19 18] (cz 19 (ak [dp 6 0] .ret) .skip)
def f31 : FnIR := ⟨43, [.t 6], ak [dp 6 0] (.seq (.block 0 (ak [ab 9 0, ab 10 1, wi 11 56 9 10, nz 12 11,
 ab 8 12] (cz 8 (ak [dp 6 20] .ret) (ak [ab 14 2, df 15 14, Gl 16 15 64, ab 13 16] (cz 13 (ak [dp 6 3] .ret) .skip))))) (.seq f31_0 (ak [ab 20 1,
 ⟨none, some 21, .build ((.cv (.sc (.int .i64 0))) :: List.replicate 64 (.cv (.sc (.int .u8 0)))) [(0, (1, .t 20))]⟩, ⟨none, some 7,
 .alloc ((.cv (.sc (.int .i64 0))) :: List.replicate 64 (.cv (.sc (.int .u8 0))))⟩, ct 65 7 21] (ak [bp 22 1 7, Ka 23 64 22, ab 24 2,
 Jk 25 1 23 24] (.seq (.draw [(ab 26 0,.p), (ab 27 0,.p), (ej 28 27,.p), (bp 29 1 28,.p), (ay 30 29, .r 0 0), (jf 31 65 7, .r 0 0), (⟨none, some 32,
 .mksl 65 1 ((.cv (.sc (.int .i64 0))) :: List.replicate 64 (.cv (.sc (.int .u8 0)))) [(0, (65, .t 31))] false⟩, .r 0 0), (⟨none, some 33,
 .app 65 72 ((.sc (.int .i64 0)) :: List.replicate 64 (.sc (.int .u8 0))) (.t 30) (.t 32)⟩, .k), (ej 34 26,.p), (bp 35 1 34,.p), (ct 1 35 33,.k)]) (ak [ab 36 0,
 ej 37 36, bp 38 2 37, ay 39 38, ai8 40 39 4607182418800017408 0, ej 41 36, bp 42 2 41, ct 1 42 40] (ak [dp 6 0] .ret)))))))⟩
def f32_0 : IR := ak [ab 2 0, En 3 2, ab 4 3, iq 4 5 0, Xs 4 6 57 5, Wc 4 7 6, ki 8 4 7] (cz 8 .ret .skip)
def f32 : FnIR := ⟨18, [], .seq f32_0 (ak [ab 9 0, ⟨none, some 10, .call 54 false [.t 9, .c (.func 58 [])]⟩] (.reg [ab 11 0, ej 12 11, bp 13 2 12, ay 14 13,
 ai8 15 14 0 4607182418800017408, ej 16 11, bp 17 2 16, ct 1 17 15]))⟩
def f33 : FnIR := ⟨29, [.t 4, .t 5], ak [di 4, gz 5] (ak [ab 11 0, Yq 12 11, jh 13 30 12, ab 10 13, bj 14 10 0, bj 15 10 1, ab 6 14,
 ab 7 15] (ak [ab 17 1, jh 18 59 17, ab 16 18, bj 19 16 0, bj 20 16 1, ab 8 19, ab 9 20] (ak [ab 21 8, ab 22 9, ab 23 22, iy 23 24 8,
 abf 23 25 24, iy 23 26 7, aga 23 27 25 26, ky 28 23 27, ab 4 21, ab 5 28] .ret)))⟩
def f34_0 : IR := .reg [ab 10 18]
def f34_1 : IR := .block 1 (ak [ay 19 4, ay 20 9, ab 21 10, adq 22 19 20 21] (.reg [ay 23 9, gn 24 23 1, ct 1 9 24]))
def f34 : FnIR := ⟨44, [.cell 8 true 3], ak [sr 4 1 0, Jv 8] (ak [ay 12 4, ab 13 2, wi 14 60 12 13, aij, ct 1 9 14] (.seq (ak [ab 15 1, jh 16 61 15,
 Sn 17 45 16 64] (.block 0 (.rangeF (.t 17) [18] f34_0 f34_1))) (ak [ay 25 4, aeo 26 25] (ak [ab 27 3, ab 28 2, ab 29 1, df 30 29, akd 31 27 28 30,
 Jv 11, ct 3 11 31] (.seq (.draw [(ay 32 4, .r 0 0), (ab 33 3,.p), (⟨none, some 34, .bin .rem (.t 33) (.c (vi .i64 2))⟩, .p), (jf 35 3 11, .r 0 0), (jh 36 62 35,
 .r 0 0), (⟨none, some 37, .mkmv "Write" (.t 32)⟩, .p), (⟨none, some 38, .nilckM "Write" [23] (.t 37)⟩, .p), (ab 39 32,.p), (adq 40 39 34 36,.k)]) (ak [ay 41 4,
 aeo 42 41] (ak [jf 43 3 11, ct 3 8 43] .ret)))))))⟩
def f35_0 : IR := ak [ab 18 7, ab 19 18, iy 19 20 5, ⟨some (19, true), some 21, .un .not (.t 20)⟩, iy 19 22 21, aax 22 23 0 6, Qq 22 24 23, aax 22 25 0 4,
 Qq 22 26 25, agi 22 27 24 26, ⟨some (19, true), some 28, .pick (.t 22) (.c Zl) (.t 27)⟩, ky 29 19 28] (cz 29 (ak [jf 30 3 6, ct 3 2 30, Ik 3] .ret) .skip)
def f35 : FnIR := ⟨33, [.cell 2 true 3, .t 3], ak [Jv 2, gz 3] (ak [ab 9 0, Sn 10 63 9 0, ab 8 10, bj 11 8 0, bj 12 8 1, Jv 4, ct 3 4 11,
 ab 5 12] (ak [ab 14 0, Sn 15 63 14 1, ab 13 15, bj 16 13 0, bj 17 13 1, Jv 6, ct 3 6 16, ab 7 17] (.seq f35_0 (ak [jf 31 3 4, ab 32 5,
 ct 3 2 31, ab 3 32] .ret))))⟩
def f36 : FnIR := ⟨23, [.t 4, .t 5], ak [sr 3 3 1, di 4, dp 5 0] (.seq (.draw [(ab 7 0,.p), (ab 8 0,.p), (bp 9 1 3,.p), (ay 10 9, .r 0 0),
 (wi 11 60 8 10,.k), (bp 12 2 3,.p), (ay 13 12, Aj), (ah8 14 13,.p), (abp 15 38 7 11 14,.k), (jh 16 61 15,.k), (ab 6 16,.p)]) (ak [ab 17 6,
 Sn 18 45 17 256, lf 19 44 18, jh 20 64 19, bj 21 20 0, bj 22 20 1, ab 4 21, ab 5 22] .ret))⟩
def f37_0 : IR := ak [ab 22 9, Ci 23 22 0] (cz 23 (.exit 0) .skip)
def f37_1 : IR := .seq (ak [ab 10 0, jh 11 47 10] (cz 11 .skip (.exit 0))) (.block 1 (ak [ab 13 0, ab 14 6, df 15 14, ab 16 1, ab 17 7, vg 18 1 16 17,
 abp 19 65 13 15 18, ab 12 19, bj 20 12 0, bj 21 12 1, ab 8 20, ab 9 21] (.seq f37_0 (.reg [ab 24 6, ab 25 8, Xb 26 25, Wv 27 24 26, ab 28 7,
 ab 29 9, mc 30 28 29, ab 6 27, ab 7 30]))))
def f37 : FnIR := ⟨33, [.t 4, .t 5], ak [di 4, bw 5 0] (ak [di 6] (ak [bw 7 0] (.seq (.block 0 (.loop f37_1)) (ak [ab 31 6, ab 32 7, ab 4 31,
 ab 5 32] .ret))))⟩
def f38_0 : IR := cz 13 .skip (.exit 0)
def f38_1 : IR := ak [lj 13 12 11] (.seq f38_0 (.seq (.block 1 (ak [ab 14 12, ab 8 14] (ak [ab 16 0, ab 17 1, ab 18 8, mc 19 17 18, ⟨none, some 20,
 .inv [(23, 119)] (.t 16) [.t 19]⟩, ab 15 20, bj 21 15 0, bj 22 15 1, ab 9 21, ab 10 22] (.reg [ab 23 7, ab 24 9, Xb 25 24, Wv 26 23 25,
 ab 7 26])))) (.reg [gn 27 12 1, ab 12 27])))
def f38 : FnIR := ⟨29, [.t 6], ak [di 6] (ak [di 7] (.seq (ak [ab 11 2, bw 12 0] (.block 0 (.loop f38_1))) (ak [ab 28 7, ab 6 28] .ret)))⟩
def f39_0 : IR := cz 14 .skip (.exit 0)
def f39_1 : IR := ak [bp 20 2 7, ay 21 20] (cz 21 (.exit 1) .skip)
def f39_2 : IR := ak [ab 25 8, sv 26 25 0] (cz 26 (.reg [ab 27 5, df 28 27, ab 8 28]) .skip)
def f39_3 : IR := ak [lj 14 13 12] (.seq f39_0 (.seq (.block 1 (ak [jd 15 3 11 13, jf 16 3 15, abo 7, ct 3 7 16] (ak [ab 17 5, afc 18 68 7,
 wi 19 67 17 18, ab 5 19] (.seq f39_1 (ak [ab 22 5, afc 23 69 7, wi 24 50 22 23, ab 8 24] (.seq f39_2 (.draw [(ab 29 5,.p), (ab 30 8,.p), (bp 31 0 7,.p),
 (ay 32 31, .r 0 0), (bp 33 1 7,.p), (ay 34 33, .r 0 0), (jh 35 52 34, .r 0 0), (ahx 36 32 35,.p), (ad0 37 36, .r 0 0), (abp 38 70 29 30 37,.k),
 (ab 5 38,.p)]))))))) (.reg [gn 39 13 1, ab 13 39])))
def f39 : FnIR := ⟨41, [.t 4], ak [di 4] (ak [ab 9 0, lf 10 66 9, ab 5 10] (.seq (ak [ab 11 1, df 12 11,
 bw 13 0] (.block 0 (.loop f39_3))) (ak [ab 40 5, ab 4 40] .ret)))⟩
def f40 : FnIR := ⟨9, [.t 4], ak [gz 4] (ak [ab 5 0, ab 6 1, Co 7 71 5 6, Va 8 7 0, ab 4 8] .ret)⟩
def f41 : FnIR := ⟨13, [.t 2], ak [sr 1 3 0, gz 2] (ak [bp 3 0 1, ay 4 3, ac3 5 4, Gl 6 5 30, ab 7 6, aax 7 8 1 1, Qq 7 9 8, Cm 7 10 9,
 Cn 7 11 10 150, ki 12 7 11, ab 2 12] .ret)⟩
def f42_0 : IR := cz 11 .skip (.exit 0)
def f42_1 : IR := ak [lj 11 10 9] (.seq f42_0 (.seq (.block 1 (ak [ab 12 10, jd 13 2 8 10, jf 14 2 13, Km 5, ab 4 12, ct 2 5 14] (.reg [ab 15 3,
 ab 16 4, bp 17 1 5, ay 18 17, jh 19 52 18, jd 20 2 15 16, bp 21 1 20, ct 1 21 19]))) (.reg [gn 22 10 1, ab 10 22])))
def f42 : FnIR := ⟨24, [.t 2], ak [di 2] (ak [ab 6 0, lf 7 66 6, ab 3 7] (.seq (ak [ab 8 3, df 9 8, bw 10 0] (.block 0 (.loop f42_1))) (ak [ab 23 3,
 ab 2 23] .ret)))⟩
def f44 : FnIR := ⟨5, [.t 2], ak [di 2] (ak [ab 3 0, aj2 4 72 3, ab 2 4] .ret)⟩
def f45_0 : IR := ak [ay 5 3, sv 6 5 1] (cz 6 (.reg [⟨none, some 7, .mkif 9 (.c (.cv (.sc (.string ⟨#[99, 97, 110, 110, 111, 116, 32, 98, 101, 32, 108, 101, 115, 115, 32,
 116, 104, 97, 110, 32, 49]⟩))))⟩, adi 7]) .skip)
def f45 : FnIR := ⟨9, [.t 4], ak [sr 2 1 0, sr 3 1 1, ag1 4] (.seq f45_0 (ak [⟨none, some 8, .mkfn 73 [.t 2, .t 3]⟩, ab 4 8] .ret))⟩
def f46_0 : IR := cz 12 .skip (.exit 0)
def f46_1 : IR := ak [bp 20 2 5, ay 21 20] (cz 21 (ak [ab 22 3, ahp 23 1, xd 24 22 23, ab 3 24] (.exit 1)) .skip)
def f46_2 : IR := ak [lj 12 11 10] (.seq f46_0 (.seq (.block 1 (ak [jd 13 3 9 11, jf 14 3 13, abo 5, ct 3 5 14] (ak [ab 15 3, bp 16 0 5, ay 17 16,
 jh 18 75 17, xd 19 15 18, ab 3 19] (.seq f46_1 (ak [ab 25 3, ahp 26 0, xd 27 25 26, ab 3 27] (.reg [ab 28 3, bp 29 1 5, ay 30 29, Px 31 30,
 jh 32 75 31, xd 33 28 32, ab 3 33])))))) (.reg [gn 34 11 1, ab 11 34])))
def f46 : FnIR := ⟨36, [.t 2], ak [di 2] (ak [ab 6 0, df 7 6, lf 8 74 7, ab 3 8] (.seq (ak [ab 9 0, df 10 9,
 bw 11 0] (.block 0 (.loop f46_2))) (ak [ab 35 3, ab 2 35] .ret)))⟩
def f47 : FnIR := ⟨9, [.t 2], ak [gz 2] (ak [ab 3 0, Va 4 3 0, ab 5 4, iy 5 6 0, afs 5 7 6 1073741824, ky 8 5 7, ab 2 8] .ret)⟩
def f48 : FnIR := ⟨33, [.t 10], ak [di 10] (ak [⟨none, some 11, .alloc (List.replicate 60 (.cv (.sc (.int .u8 0))))⟩] (ak [Ka 12 60 11, ab 13 0,
 wi 14 76 12 13] (ak [ah9 15 4, ab 16 1, wi 17 76 15 16] (ak [ab 18 2, py 19 18, ab 20 3, py 21 20, ab 22 4, df 23 22, py 24 23,
 Hf 25 60 11 8, ct 1 25 19, Hf 26 60 11 9, ct 1 26 21, Hf 27 60 11 10, ct 1 27 24] (ak [ah9 28 11, ab 29 4, Jk 30 1 28 29] (ak [Ka 31 60 11,
 jh 32 77 31, ab 10 32] .ret))))))⟩
def f50_0 : IR := cz 9 .skip (.exit 0)
def f50_1 : IR := ak [lj 9 8 7] (.seq f50_0 (.seq (.block 1 (ak [ab 10 8, ab 5 10] (ak [ab 11 1, ab 12 0, ab 13 5, jd 14 2 12 13, jf 15 2 14,
 Uh 16 11 15] (cz 16 (ak [ab 17 5, ab 4 17] .ret) .skip)))) (.reg [gn 18 8 1, ab 8 18])))
def f50 : FnIR := ⟨19, [.t 4], ak [bw 4 0] (.seq (ak [ab 6 0, df 7 6, bw 8 0] (.block 0 (.loop f50_1))) (ak [bw 4 (-1)] .ret))⟩
def f52_0 : IR := ak [ab 3 0, aj9] (cz 4 (ak [di 2] .ret) .skip)
def f52 : FnIR := ⟨8, [.t 2], ak [di 2] (.seq f52_0 (ak [⟨none, some 5, .mksl 1 0 [] [] false⟩, ab 6 0, xd 7 5 6, ab 2 7] .ret))⟩
def f53 : FnIR := ⟨14, [.t 2], ak [gz 2] (ak [ab 3 0, ej 4 3, bp 5 3 4, ay 6 5, ab 7 6, iy 7 8 0, ⟨some (7, true), some 9, .nilck (.t 8)⟩, Mo 7 10 4 9,
 Mg 7 11 10, Lw 7 12 11 0, ky 13 7 12, ab 2 13] .ret)⟩
def f54_0 : IR := cz 12 .skip (.exit 0)
def f54_1 : IR := ak [lj 12 11 10] (.seq f54_0 (.seq (.block 1 (ak [ab 13 11, jd 14 65 9 11, jf 15 65 14, ⟨none, some 5,
 .alloc ((.cv (.sc (.int .i64 0))) :: List.replicate 64 (.cv (.sc (.int .u8 0))))⟩, ab 4 13, ct 65 5 15] (ak [ab 16 1, ab 17 4,
 Uh 18 16 17] (cz 18 (.draw [(ab 19 0,.p), (ej 20 19,.p), (bp 21 0 20,.p), (ay 22 21, .r 0 0), (bp 23 0 5,.p), (ay 24 23, .r 0 0), (bp 25 1 5,.p),
 (jf 26 64 25, .r 0 0), (jd 27 64 22 24, .r 0 0), (ct 64 27 26,.k)]) .skip)))) (.reg [gn 28 11 1, ab 11 28])))
def f54 : FnIR := ⟨32, [], .seq (ak [ab 6 0, ej 7 6, bp 8 1 7, ay 9 8, df 10 9, bw 11 0] (.block 0 (.loop f54_1))) (.reg [ab 29 0, ej 30 29, bp 31 1 30,
 akf 31])⟩
def f56 : FnIR := ⟨13, [.t 4], ak [gz 4] (ak [ab 5 1, Va 6 5 0, ab 7 6, iy 7 8 1, iy 7 9 0, Lp 7 10 29 9, ⟨some (7, true), some 11,
 .bin .lss (.t 8) (.t 10)⟩, ky 12 7 11, ab 4 12] .ret)⟩
def f57_0 : IR := ak [ab 3 0, lf 4 53 3] (cz 4 (ak [gz 2] .ret) .skip)
def f57 : FnIR := ⟨12, [.t 2], ak [gz 2] (.seq f57_0 (ak [ab 5 0, ej 6 5, bp 7 4 6, ay 8 7, Yu 9 8 1, ej 10 5, bp 11 4 10,
 ct 1 11 9] (ak [Ik 2] .ret)))⟩
def f58 : FnIR := ⟨3, [.t 2], ak [gz 2] (ak [Ik 2] .ret)⟩
def f59_0 : IR := ak [ab 8 0, jh 9 78 8, nz 10 9, ab 11 10, iq 11 12 0, Cm 11 13 12, Cn 11 14 13 5000, ki 15 11 14] (cz 15 (ak [di 2,
 gz 3] .ret) .skip)
def f59_1 : IR := .seq (ak [ab 18 5, ⟨none, some 19, .bin .leq (.t 18) (.c (vi .i64 4))⟩] (cz 19 .skip (.exit 0))) (.seq (.block 1 (ak [ab 23 4, ab 24 5, ab 25 0,
 abp 26 79 23 24 25, ab 22 26, bj 27 22 0, bj 28 22 1, ab 6 27, ab 7 28] (.seq (.block 2 (ak [ab 30 7, nz 31 30,
 ab 29 31] (cz 29 (.exit 0) (ak [ab 33 6, df 34 33, Ci 35 34 1, ab 32 35] (cz 32 (ak [ab 36 4, ej 37 36, bp 38 0 37, ay 39 38, ab 2 39,
 Ik 3] .ret) .skip))))) (.reg [ab 40 6, ab 0 40])))) (.reg [ab 20 5, gn 21 20 1, ab 5 21]))
def f59_2 : IR := .seq f59_0 (ak [⟨none, some 16, .build [.cv (.sc (.slice none 0 0))] []⟩, sr 17 1 16,
 ab 4 17] (.seq (.label 0) (.seq (ak [bw 5 0] (.block 0 (.loop f59_1))) (ak [di 2, gz 3] .ret))))
def f59 : FnIR := ⟨41, [.t 2, .t 3], ak [di 2, gz 3] (.scope f59_2)⟩
def f60 : FnIR := ⟨20, [.t 4], ak [bw 4 0] (ak [ab 8 0, Yq 9 8, jh 10 30 9, ab 7 10, bj 11 7 0, bj 12 7 1, ab 5 11, ab 6 12] (ak [ab 13 5,
 Ck 14 2 13, ab 15 1, ab 16 6, ⟨none, some 17, .bin .mul (.t 15) (.t 16)⟩, ah8 18 17, mc 19 14 18, ab 4 19] .ret))⟩
def f61_0 : IR := cz 12 .skip (.exit 0)
def f61_1 : IR := ak [lj 12 11 10] (.seq f61_0 (.seq (.block 1 (ak [jd 13 1 9 11, ay 14 13, ab 5 14] (ak [ab 15 3, ab 16 5, df 17 16, mc 18 15 17,
 ab 3 18] (ak [ab 19 3, sv 20 19 0] (cz 20 (.reg [⟨none, some 21, .mkif 9 (.c (.cv (.sc (.string ⟨#[108, 101, 110, 32, 111, 117, 116, 32, 111, 102, 32, 114, 97, 110,
 103, 101]⟩))))⟩, adi 21]) .skip))))) (.reg [gn 22 11 1, ab 11 22])))
def f61_2 : IR := cz 28 .skip (.exit 2)
def f61_3 : IR := ak [lj 28 27 26] (.seq f61_2 (.seq (.block 3 (ak [jd 29 1 25 27, ay 30 29, ab 8 30] (.reg [ab 31 6, ab 32 8, xd 33 31 32,
 ab 6 33]))) (.reg [gn 34 27 1, ab 27 34])))
def f61 : FnIR := ⟨36, [.t 2], ak [di 2] (ak [bw 3 0] (.seq (ak [ab 9 0, df 10 9, bw 11 0] (.block 0 (.loop f61_1))) (ak [ab 23 3, aj2 24 80 23,
 ab 6 24] (.seq (ak [ab 25 0, df 26 25, bw 27 0] (.block 2 (.loop f61_3))) (ak [ab 35 6, ab 2 35] .ret)))))⟩
def f62_0 : IR := cz 8 .skip (.exit 0)
def f62_1 : IR := ak [sv 8 7 4] (.seq f62_0 (.seq (.block 1 (ak [ab 9 7, ab 4 9] (.reg [ab 10 4, Ck 11 2 10, bp 12 0 1, ay 13 12, ab 14 4, ae8 15 8 14,
 afj 16 24 15, ⟨none, some 17, .bin .shr (.t 13) (.t 16)⟩, py 18 17, Zs 19 60 3 11, ct 1 19 18]))) (.reg [gn 20 7 1, ab 7 20])))
def f62 : FnIR := ⟨36, [.t 2], ak [sr 1 3 0, di 2] (ak [⟨none, some 3, .alloc (List.replicate 60 (.cv (.sc (.int .u8 0))))⟩] (ak [Ka 5 60 3, ⟨none, some 6,
 .cpy 1 (.t 5) (.c (.cv (.sc (.string ⟨#[82, 83]⟩))))⟩] (.seq (ak [bw 7 0] (.block 0 (.loop f62_1))) (.seq (.draw [(bp 21 1 1,.p), (ay 22 21, .r 0 0), (py 23 22,.p),
 (bp 24 2 1,.p), (ay 25 24, Aj), (Mn 26 25 8,.p), (py 27 26,.p), (bp 28 2 1,.p), (ay 29 28, .r 0 2), (py 30 29,.p), (Hf 31 60 3 6,.p), (ct 1 31 23,.k),
 (Hf 32 60 3 7,.p), (ct 1 32 27,.k), (Hf 33 60 3 8,.p), (ct 1 33 30,.k)]) (ak [Ka 34 60 3, jh 35 77 34, ab 2 35] .ret)))))⟩
def f63_0 : IR := ak [ab 18 7, Gf 19 18] (cz 19 (ak [⟨none, some 20, .build [.cv (.sc (.int .i64 0)), .cv (.sc (.int .i64 0)), .cv (.sc (.int .i64 0))] []⟩,
 ct 3 4 20, gz 5] .ret) .skip)
def f63 : FnIR := ⟨96, [.cell 4 true 3, .t 5], ak [Jv 4, gz 5] (ak [ab 13 0, ab 14 1, ⟨none, some 15, .inv [(23, 119)] (.t 13) [.t 14]⟩, ab 12 15, bj 16 12 0,
 bj 17 12 1, ab 6 16, ab 7 17] (.seq f63_0 (.seq (.draw [(ab 21 6,.p), (wz 22 1 21 2, Aj), (ay 23 22, Aj), (uq 24 23,.p), (abk 25 24 24,.p),
 (ab 26 6,.p), (wz 27 1 26 3, Aj), (ay 28 27, Aj), (uq 29 28,.p), (abk 30 29 16,.p), (Uk 31 25 30,.p), (ab 32 6,.p), (wz 33 1 32 4, Aj), (ay 34 33,
 Aj), (uq 35 34,.p), (abk 36 35 8,.p), (Uk 37 31 36,.p), (ab 38 6,.p), (wz 39 1 38 5, Aj), (ay 40 39, Aj), (uq 41 40,.p), (Uk 42 37 41,.p),
 (ab 43 6,.p), (wz 44 1 43 6, Aj), (ay 45 44, Aj), (uq 46 45,.p), (ab 47 6,.p), (wz 48 1 47 7, Aj), (ay 49 48, Aj), (uq 50 49,.p),
 (abk 51 50 8,.p), (ab 52 6,.p), (wz 53 1 52 8, Aj), (ay 54 53, Aj), (uq 55 54,.p), (Uk 56 51 55,.p), (akd 57 42 46 56,.p), (Jv 8,.k),
 (ct 3 8 57,.k)]) (ak [ab 59 0, Yq 60 59, jh 61 30 60, ab 58 61, bj 62 58 0, bj 63 58 1, ab 9 62, ab 10 63] (ak [bp 64 0 8, ay 65 64,
 Va 66 65 1, ab 67 66, Mo 67 68 0 8, Mg 67 69 68, afs 67 70 69 1073741824, ky 71 67 70, ab 72 71, Mo 72 73 1 8, Mg 72 74 73, afs 72 75 74 1,
 ky 76 72 75, ab 77 76, Mo 77 78 2 8, Mg 77 79 78, ⟨some (77, true), some 80, .bin .geq (.t 79) (.c (vi .i64 1))⟩, ky 81 77 80, ab 82 81, Mo 82 83 2 8,
 Mg 82 84 83, iy 82 85 10, aga 82 86 84 85, ky 87 82 86, ab 11 87] (.seq (.draw [(jf 88 3 8, .r 0 0), (ab 89 11,.p), (ab 90 89,.p), (⟨some (90, true),
 some 91, .ld true 3 (.t 8)⟩, .r 0 0), (⟨some (90, true), some 92, .call 62 true [.t 91]⟩, .r 0 0), (iy 90 93 6,.p), (⟨some (90, true), some 94, .call 1000081 true [.t 92,
 .t 93]⟩, .r 0 0), (ky 95 90 94,.p), (ct 3 4 88,.k), (ab 5 95,.p)]) .ret))))))⟩
def f64_0 : IR := cz 15 .skip (.exit 0)
def f64_1 : IR := ak [ab 24 9, Gf 25 24] (cz 25 (ak [ab 26 9, di 2, ab 3 26] .ret) .skip)
def f64_2 : IR := ak [lj 15 14 13] (.seq f64_0 (.seq (.block 1 (ak [jd 16 1 12 14, ay 17 16, ab 6 17] (ak [ab 19 6, jh 20 82 19, ab 18 20, bj 21 18 0,
 bj 22 18 1, bj 23 18 2, ab 7 21, ab 8 22, ab 9 23] (.seq f64_1 (ak [ab 27 7, Ci 28 27 0] (cz 28 (.reg [ab 29 4, ab 30 8, Tf 31 29 30,
 ab 4 31]) .skip)))))) (.reg [gn 32 14 1, ab 14 32])))
def f64 : FnIR := ⟨47, [.t 2, .t 3], ak [di 2, dp 3 0] (ak [di 4] (.seq (ak [ab 12 0, df 13 12, bw 14 0] (.block 0 (.loop f64_2))) (.seq (ak [ab 34 4,
 jh 35 59 34, ab 33 35, bj 36 33 0, bj 37 33 1, ab 10 36, ab 11 37] (ak [ab 38 11, nz 39 38, ab 40 39, iq 40 41 10, iq 40 42 0, ⟨some (40, false),
 some 43, .call 83 true [.t 41, .t 42, .c (.func 81 [])]⟩, Wc 40 44 43, ki 45 40 44] (cz 45 (ak [di 2, dp 3 11] .ret) .skip))) (ak [ab 46 4, ab 2 46,
 dp 3 0] .ret))))⟩
def f65_0 : IR := ak [ab 15 11, ab 16 2, df 17 16, Je 18 15 17, ab 19 18, iq 19 20 2, iq 19 21 11, ⟨some (19, false), some 22, .iadL 1 (.t 20) (.t 21)⟩,
 Qq 19 23 22, Cm 19 24 23, ag5 19 25 24 64, ki 26 19 25] (cz 26 (.goto 0) .skip)
def f65_1 : IR := ak [ab 35 11, Ci 36 35 0] (cz 36 (.reg [ab 37 13, wz 38 1 37 9, ay 39 38, uq 40 39, ab 12 40]) .skip)
def f65_2 : IR := ak [ab 41 14, sv 42 41 1, ab 43 42, iq 43 44 14, Cn 43 45 44 49, ki 46 43 45, ab 47 46, iq 47 48 12, ⟨some (47, false), some 49,
 .bin .lss (.t 48) (.c (vi .i64 1))⟩, ki 50 47 49, ab 51 50, iq 51 52 12, Cn 51 53 52 200, ki 54 51 53, ab 55 54, iq 55 56 11, iq 55 57 12, ⟨some (55,
 false), some 58, .bin .sub (.t 57) (.c (vi .i64 1))⟩, ⟨some (55, false), some 59, .bin .lss (.t 56) (.t 58)⟩, iq 55 60 59, iy 60 61 14, ⟨some (60, true), some 62,
 .bin .lss (.t 61) (.c (vi .i64 49))⟩, ⟨some (55, false), some 63, .pick (.t 60) (.t 62) (.c Zy)⟩, ki 64 55 63] (cz 64 (.goto 0) .skip)
def f65_3 : IR := ak [ab 65 0, ab 66 1, ab 67 11, ab 68 12, ab 69 13, ab 70 14, Ck 71 11 70, ai4 72 69 71, ⟨none, some 73, .call 48 true [.t 65, .t 66,
 .t 67, .t 68, .t 72]⟩, ab 74 13, Co 75 81 73 74, nz 76 75] (cz 76 (.goto 0) .skip)
def f65_4 : IR := ak [di 8] (ak [di 9] (ak [dp 10 0] (ak [bw 11 0, bw 12 1] (.seq (.label 1) (.seq f65_0 (.seq (ak [ab 27 2, ab 28 11,
 jd 29 1 27 28, ay 30 29, ab 13 30] (ak [ab 31 13, wz 32 1 31 10, ay 33 32, uq 34 33, ab 14 34] (.seq f65_1 (.seq f65_2 (.seq f65_3 (.reg [ab 77 8,
 ab 78 13, ab 79 14, Ck 80 11 79, ai4 81 78 80, xd 82 77 81, ab 8 82])))))) (.seq (ak [ab 83 11, gn 84 83 1, ab 11 84] (ak [ab 85 11, ab 86 12,
 lj 87 85 86] (cz 87 (.goto 1) .skip))) (.seq (ak [ab 89 8, jh 90 84 89, ab 88 90, bj 91 88 0, bj 92 88 1, ab 9 91, ab 10 92] (ak [ab 93 10,
 Qr 94 93] (cz 94 (ak [ab 95 9, ab 96 12, ab 6 95, ab 7 96] .ret) .skip))) (.seq (.label 0) (ak [di 6, bw 7 0] .ret))))))))))
def f65 : FnIR := ⟨97, [.t 6, .t 7], ak [di 6, bw 7 0] (.scope f65_4)⟩
def f66_0 : IR := ak [ab 3 0, aj9] (cz 4 (ak [di 2] .ret) .skip)
def f66 : FnIR := ⟨8, [.t 2], ak [di 2] (.seq f66_0 (ak [⟨none, some 5, .mksl 2 0 [] [] false⟩, ab 6 0, Tf 7 5 6, ab 2 7] .ret))⟩
def f67_0 : IR := ak [ab 11 5, Ci 12 11 (-1)] (cz 12 (ak [ab 13 0, ab 4 13] .ret) .skip)
def f67_1 : IR := .seq (ak [ab 16 6, ab 17 0, df 18 17, lj 19 16 18] (cz 19 .skip (.exit 0))) (.seq (.block 1 (ak [ab 22 0, ab 23 6, jd 24 2 22 23,
 jf 25 2 24, Km 7, ct 2 7 25] (ak [ab 26 1, jf 27 2 7, Uh 28 26 27, nz 29 28] (cz 29 (ak [ab 30 0, ab 31 5, jf 32 2 7, jd 33 2 30 31,
 ct 2 33 32] (.reg [ab 34 5, gn 35 34 1, ab 5 35])) .skip)))) (.reg [ab 20 6, gn 21 20 1, ab 6 21]))
def f67 : FnIR := ⟨42, [.t 4], ak [di 4] (ak [ab 8 0, ab 9 1, wi 10 50 8 9, ab 5 10] (.seq f67_0 (.seq (ak [ab 14 5, gn 15 14 1,
 ab 6 15] (.block 0 (.loop f67_1))) (ak [ab 36 0, ab 37 5, vg 38 2 36 37, ⟨none, none, .clr 2 [.sc (.string ⟨#[]⟩), .sc (.slice none 0 0)] (.t 38)⟩] (ak [ab 39 0,
 ab 40 5, Js 41 2 39 40, ab 4 41] .ret)))))⟩
def f68 : FnIR := ⟨9, [.t 3], ak [sr 2 2 0, gz 3] (ak [bp 4 0 2, ay 5 4, bp 6 0 1, ay 7 6, Je 8 5 7, ab 3 8] .ret)⟩
def f69 : FnIR := ⟨9, [.t 3], ak [sr 2 2 0, gz 3] (ak [bp 4 0 2, ay 5 4, bp 6 0 1, ay 7 6, Vw 8 5 7, ab 3 8] .ret)⟩
def f70_0 : IR := ak [ab 15 7, Ci 16 15 0] (cz 16 (ak [ab 17 0, ab 6 17] .ret) .skip)
def f70_1 : IR := ak [ab 20 1, ab 21 8, Je 22 20 21] (cz 22 (ak [ab 23 0, ab 24 2, Tf 25 23 24, ab 6 25] .ret) .skip)
def f70_2 : IR := ak [ab 26 8, ab 27 7, mc 28 26 27, ab 29 0, adj 30 29, Vw 31 28 30] (cz 31 (ak [ab 32 0, ab 33 1, Js 34 2 32 33, ab 35 8,
 ab 36 7, mc 37 35 36, ab 38 1, Rt 39 37 38, ⟨none, some 40, .apz 2 40 [.sc (.string ⟨#[]⟩), .sc (.slice none 0 0)] (.t 34) (.t 39)⟩, ab 9 40] (ak [ab 41 9,
 ab 42 1, vg 43 2 41 42, ab 44 2, Jk 45 2 43 44] (.seq (.draw [(ab 46 9,.p), (ab 47 1,.p), (ab 48 7,.p), (mc 49 47 48,.p), (vg 50 2 46 49, .r 0 0),
 (ab 51 0,.p), (ab 52 1,.p), (vg 53 2 51 52, .r 0 0), (Jk 54 2 50 53,.k)]) (ak [ab 55 9, ab 6 55] .ret)))) .skip)
def f70_3 : IR := ak [ab 61 2, ab 62 0, ab 63 1, ab 64 7, mc 65 63 64, vg 66 2 62 65, Co 67 85 61 66, nz 68 67] (cz 68 (.seq (.draw [(ab 69 0,.p),
 (ab 70 1,.p), (ab 71 7,.p), (mc 72 70 71,.p), (vg 73 2 69 72, .r 0 0), (ab 74 0,.p), (ab 75 1,.p), (vg 76 2 74 75, .r 0 0),
 (Jk 77 2 73 76,.k)]) (ak [ab 78 0, ab 79 1, vg 80 2 78 79, ab 81 2, Jk 82 2 80 81] (ak [ab 83 0, ab 6 83] .ret))) .skip)
def f70 : FnIR := ⟨95, [.t 6], ak [di 6] (ak [ab 10 0, ab 11 1, vg 12 2 10 11] (ak [ab 13 2, df 14 13, ab 7 14] (.seq f70_0 (ak [ab 18 0,
 df 19 18, ab 8 19] (.seq f70_1 (.seq f70_2 (ak [ab 56 0, ab 57 8, ab 58 7, mc 59 57 58, Js 60 2 56 59, ab 0 60] (.seq f70_3 (ak [ab 84 0, ab 85 8,
 vg 86 2 84 85, ab 87 2, Jk 88 2 86 87] (ak [ab 89 0, ab 90 1, vg 91 2 89 90, ab 92 7, Co 93 86 91 92] (ak [ab 94 0, ab 6 94] .ret)))))))))))⟩
def f71_0 : IR := cz 9 .skip (.exit 0)
def f71_1 : IR := ak [lj 9 8 7] (.seq f71_0 (.seq (.block 1 (ak [ab 10 8, ab 5 10] (ak [ab 11 1, ab 12 0, ab 13 5, jd 14 3 12 13, jf 15 3 14, ⟨none,
 some 16, .callv true (.t 11) [.t 15]⟩] (cz 16 (ak [ab 17 5, ab 4 17] .ret) .skip)))) (.reg [gn 18 8 1, ab 8 18])))
def f71 : FnIR := ⟨19, [.t 4], ak [bw 4 0] (.seq (ak [ab 6 0, df 7 6, bw 8 0] (.block 0 (.loop f71_1))) (ak [bw 4 (-1)] .ret))⟩
def f72_0 : IR := .reg [ab 5 7]
def f72_1 : IR := .block 1 (.reg [ay 8 2, ab 9 5, Xb 10 9, Wv 11 8 10, ct 1 2 11])
def f72 : FnIR := ⟨13, [.t 4], ak [sr 2 1 0, di 4] (.seq (ak [ab 6 1] (.block 0 (.rangeF (.t 6) [7] f72_0 f72_1))) (ak [ay 12 2, ab 4 12] .ret))⟩
def f73_0 : IR := .seq (ak [ab 6 4, ay 7 1, df 8 7, lj 9 6 8] (cz 9 .skip (.exit 0))) (.seq (.block 1 (.seq (.draw [(ay 13 2, .r 0 0), (ay 14 1, .r 0 0),
 (ab 15 4,.p), (vg 16 1 14 15, .r 0 0), (df 17 16,.p), (⟨none, some 18, .mnmx true [.t 13, .t 17]⟩,.p), (ab 5 18,.p)]) (ak [ab 19 0, ay 20 1, ab 21 4,
 ab 22 4, ab 23 5, mc 24 22 23, ab 25 4, ab 26 5, mc 27 25 26, ⟨none, some 28, .slL 1 (.t 20) (some (.t 21)) (some (.t 24)) (some (.t 27))⟩, Uh 29 19 28,
 nz 30 29] (cz 30 .ret .skip)))) (.reg [ab 10 4, ay 11 2, mc 12 10 11, ab 4 12]))
def f73 : FnIR := ⟨31, [], ak [bw 4 0] (.block 0 (.loop f73_0))⟩
def f74_0 : IR := .seq (ak [ab 7 0, Gl 8 7 127] (cz 8 .skip (.exit 0))) (.seq (.block 1 (.reg [ab 11 3, ab 12 0, py 13 12, ⟨none, some 14,
 .bin .or (.t 13) (.c (vi .u8 128))⟩, ad3 15 14, xd 16 11 15, ab 3 16])) (.reg [ab 9 0, Mn 10 9 7, ab 0 10]))
def f74 : FnIR := ⟨22, [.t 2], ak [di 2] (ak [di 3] (.seq (ak [ab 4 0, ⟨none, some 5, .mnmx true [.t 4, .c (vi .i64 9007199254740992)]⟩, ⟨none, some 6,
 .mnmx false [.c (vi .i64 0), .t 5]⟩, ab 0 6] (.block 0 (.loop f74_0))) (ak [ab 17 3, ab 18 0, py 19 18, ad3 20 19, xd 21 17 20, ab 2 21] .ret)))⟩
def f75 : FnIR := ⟨8, [.t 2], ak [di 2] (ak [ab 3 0, ac3 4 3, lf 5 74 4, ab 6 0, xd 7 5 6, ab 2 7] .ret)⟩
def f76_0 : IR := cz 6 .skip (.exit 0)
def f76_1 : IR := ak [sv 6 5 4] (.seq f76_0 (.seq (.block 1 (ak [ab 7 5, ab 4 7] (.reg [ab 8 0, ab 9 4, ab 10 1, ab 11 4, ae8 12 8 11, afj 13 24 12,
 ⟨none, some 14, .bin .shr (.t 10) (.t 13)⟩, py 15 14, jd 16 1 8 9, ct 1 16 15]))) (.reg [gn 17 5 1, ab 5 17])))
def f76 : FnIR := ⟨18, [], ak [bw 5 0] (.block 0 (.loop f76_1))⟩
def f77 : FnIR := ⟨27, [.t 2], ak [di 2] (ak [ab 5 0, jh 6 87 5, ab 3 6] (ak [ab 7 0, df 8 7, gn 9 8 4, ⟨none, some 10,
 .mks 1 1 [.sc (.int .u8 0)] (.c (vi .i64 0)) (.t 9) true⟩, ab 11 0, xd 12 10 11, ab 4 12] (ak [ab 13 4, ab 14 3, py 15 14, ab 16 3, Mn 17 16 8,
 py 18 17, ab 19 3, Mn 20 19 16, py 21 20, ab 22 3, Mn 23 22 24, py 24 23, ⟨none, some 25, .mksl 1 4 [.cv (.sc (.int .u8 0)), .cv (.sc (.int .u8 0)),
 .cv (.sc (.int .u8 0)), .cv (.sc (.int .u8 0))] [(0, (1, .t 15)), (1, (1, .t 18)), (2, (1, .t 21)), (3, (1, .t 24))] false⟩, xd 26 13 25, ab 2 26] .ret)))⟩
def f78_0 : IR := cz 7 .skip (.exit 0)
def f78_1 : IR := ak [lj 7 6 5] (.seq f78_0 (.seq (.block 1 (ak [ab 8 6, ab 3 8] (.seq (.draw [(ab 9 3,.p), (Gl 10 9 0,.p), (ab 11 10,.p), (iy 11 12 0,.p),
 (iy 11 13 3,.p), (⟨some (11, true), some 14, .iadL 2 (.t 12) (.t 13)⟩, .r 0 0), (Mo 11 15 0 14,.p), (Mg 11 16 15, .r 0 0), (iy 11 17 0,.p), (iy 11 18 3,.p),
 (⟨some (11, true), some 19, .bin .sub (.t 18) (.c (vi .i64 1))⟩, .p), (⟨some (11, true), some 20, .iadL 2 (.t 17) (.t 19)⟩, .r 0 0), (Mo 11 21 0 20,.p), (Mg 11 22 21,
 .r 0 0), (aga 11 23 16 22,.p), (ky 24 11 23,.p)]) (cz 24 (ak [gz 2] .ret) .skip)))) (.reg [gn 25 6 1, ab 6 25])))
def f78 : FnIR := ⟨26, [.t 2], ak [gz 2] (.seq (ak [ab 4 0, df 5 4, bw 6 0] (.block 0 (.loop f78_1))) (ak [Ik 2] .ret))⟩
def f79_0 : IR := .reg [ab 10 16]
def f79_1 : IR := ak [ab 23 12, nz 24 23] (cz 24 (ak [akf 6, ⟨none, none, .st 1 (.t 7) (.c Zy)⟩] .ret) .skip)
def f79_2 : IR := ak [ab 32 10, df 33 32, Gl 34 33 0] (cz 34 (.reg [ab 35 10, wz 36 2 35 0, bp 37 0 36, ay 38 37, bp 39 0 13, ct 1 39 38]) .skip)
def f79_3 : IR := .block 1 (ak [ay 18 4, ab 19 10, Co 20 89 18 19, ab 17 20, bj 21 17 0, bj 22 17 1, ab 11 21, ab 12 22] (.seq f79_1 (ak [ay 25 3,
 ej 26 25, bp 27 0 26, ay 28 27, df 29 28, jh 30 74 29, ⟨none, some 31, .build [.cv (.sc (.string ⟨#[]⟩)), .cv (.sc (.slice none 0 0))] [(1, (1, .t 30))]⟩, Km 13,
 ct 2 13 31] (.seq f79_2 (.seq (.draw [(ay 40 3, .r 0 3), (ay 41 8, .r 0 0), (jf 42 2 13, .r 0 0), (ad0 43 42, .r 0 0), (Tf 44 41 43,.k), (ay 45 3, Aj),
 (ej 46 45,.p), (bp 47 0 46,.p), (ay 48 47, Aj), (ab 49 11,.p), (Xb 50 49, Aj), (Wv 51 48 50,.k), (ct 1 8 44,.k), (ej 52 40,.p), (bp 53 0 52,.p),
 (ct 1 53 51,.k)]) (.reg [ay 54 9, ab 55 10, df 56 55, mc 57 54 56, ct 1 9 57]))))))
def f79 : FnIR := ⟨63, [.cell 6 false 1, .cell 7 false 1], ak [sr 3 1 0, sr 4 1 1, aka 6, ⟨none, some 7, .alloc [.cv (.sc (.bool false))]⟩] (ak [aka 8] (ak [aij,
 acx 9] (.seq (ak [ab 14 2, lf 15 88 14] (.block 0 (.rangeF (.t 15) [16] f79_0 f79_3))) (.seq (.draw [(ay 58 8, .r 0 0), (ay 59 9, Aj), (ab 60 2,.p),
 (df 61 60,.p), (Je 62 59 61,.p), (ct 1 6 58,.k), (ct 1 7 62,.k)]) .ret))))⟩
def f80_0 : IR := ak [ab 5 1, sv 6 5 0] (cz 6 (.reg [⟨none, some 7, .mkif 9 (.c (.cv (.sc (.string ⟨#[99, 97, 110, 110, 111, 116, 32, 98, 101, 32, 110, 101, 103, 97, 116,
 105, 118, 101]⟩))))⟩, adi 7]) .skip)
def f80 : FnIR := ⟨27, [.t 4], ak [di 4] (.seq f80_0 (.seq (ak [ab 8 1, ab 9 0, adj 10 9, ab 11 0, df 12 11, Rt 13 10 12, Rt 14 8 13,
 ab 1 14] (ak [ab 15 1, Gl 16 15 0] (cz 16 (.reg [ab 17 0, ab 18 0, adj 19 18, Js 20 1 17 19, ab 21 1, ⟨none, some 22,
 .apz 1 1 [.sc (.int .u8 0)] (.t 20) (.t 21)⟩, ab 23 0, df 24 23, Js 25 1 22 24, ab 0 25]) .skip))) (ak [ab 26 0, ab 4 26] .ret)))⟩
def f81 : FnIR := ⟨10, [.t 4], ak [gz 4] (ak [ab 5 0, Px 6 5, ab 7 1, Px 8 7, Je 9 6 8, ab 4 9] .ret)⟩
def f82_0 : IR := cz 26 .skip (.exit 1)
def f82_1 : IR := ak [ab 28 7, Ck 29 2 28, ab 30 6, ⟨none, some 31, .bin .geq (.t 29) (.t 30)⟩] (cz 31 (ak [bw 2 0, di 3, dp 4 11] .ret) .skip)
def f82_2 : IR := ak [ab 45 10, nz 46 45] (cz 46 (ak [bw 2 0, di 3, dp 4 11] .ret) .skip)
def f82_3 : IR := ak [lj 26 25 24] (.seq f82_0 (.seq (.block 2 (ak [ab 27 25, ab 7 27] (.seq f82_1 (ak [ab 32 0, ab 33 7, Ck 34 2 33, jd 35 1 32 34,
 ay 36 35, uq 37 36, ab 8 37] (ak [ab 39 0, ab 40 8, ab 41 6, aa7 42 91 39 40 41, ab 38 42, bj 43 38 0, bj 44 38 1, Km 9, ct 2 9 43,
 ab 10 44] (.seq f82_2 (.reg [ab 47 5, jf 48 2 9, ad0 49 48, Tf 50 47 49, ab 51 8, ab 5 50, ab 6 51]))))))) (.reg [gn 52 25 1, ab 25 52])))
def f82 : FnIR := ⟨75, [.t 2, .t 3, .t 4], ak [bw 2 0, di 3, dp 4 0] (.seq (.block 0 (ak [ab 14 0, df 15 14, ⟨none, some 16,
 .bin .neq (.t 15) (.c (vi .i64 256))⟩, ab 13 16] (cz 13 (ak [bw 2 0, di 3, dp 4 11] .ret) (ak [ab 18 0, jh 19 90 18, nz 20 19,
 ab 17 20] (cz 17 (ak [bw 2 0, di 3, dp 4 12] .ret) .skip))))) (ak [di 5] (ak [bw 6 252] (.seq (ak [ab 21 0, wz 22 1 21 1, ay 23 22,
 uq 24 23, bw 25 0] (.block 1 (.loop f82_3))) (.seq (ak [ab 54 0, wz 55 1 54 0, ay 56 55, uq 57 56, ab 58 5, Co 59 89 57 58, ab 53 59, bj 60 53 0,
 bj 61 53 1, ab 11 60, ab 12 61] (ak [ab 62 12, nz 63 62, ab 64 63, iq 64 65 11, iq 64 66 0, ⟨some (64, false), some 67, .call 81 true [.t 65, .t 66]⟩,
 Wc 64 68 67, ki 69 64 68] (cz 69 (ak [bw 2 0, di 3, dp 4 11] .ret) .skip))) (ak [ab 70 0, wz 71 1 70 0, ay 72 71, uq 73 72, ab 74 5, ab 2 73,
 ab 3 74, dp 4 0] .ret))))))⟩
def f83_0 : IR := ak [ab 10 0, df 11 10, ab 12 1, df 13 12, ⟨none, some 14, .bin .neq (.t 11) (.t 13)⟩] (cz 14 (ak [gz 6] .ret) .skip)
def f83_1 : IR := cz 18 .skip (.exit 0)
def f83_2 : IR := ak [lj 18 17 16] (.seq f83_1 (.seq (.block 1 (ak [ab 19 17, jd 20 1 15 17, ay 21 20, ab 7 19, ab 8 21] (ak [ab 22 1, ab 23 7,
 jd 24 1 22 23, ay 25 24, ab 9 25] (ak [ab 26 2, ab 27 8, ab 28 9, ⟨none, some 29, .callv true (.t 26) [.t 27, .t 28]⟩,
 nz 30 29] (cz 30 (ak [gz 6] .ret) .skip))))) (.reg [gn 31 17 1, ab 17 31])))
def f83 : FnIR := ⟨32, [.t 6], ak [gz 6] (.seq f83_0 (.seq (ak [ab 15 0, df 16 15, bw 17 0] (.block 0 (.loop f83_2))) (ak [Ik 6] .ret)))⟩
def f84 : FnIR := ⟨8, [.t 2, .t 3], ak [di 2, dp 3 0] (ak [ab 4 0, ⟨none, some 5, .call 92 true [.t 4, .c (.func 93 [])]⟩, bj 6 5 0, bj 7 5 1, ab 2 6,
 ab 3 7] .ret)⟩
def f87 : FnIR := ⟨5, [.t 2], ak [ah4 2] (ak [ab 3 0, ⟨none, some 4, .call 95 true [.c (vi .u32 0), .t 3]⟩, ab 2 4] .ret)⟩
def f88 : FnIR := ⟨4, [.t 2], ak [sr 1 1 0, ag1 2] (ak [afc 3 96 1, ab 2 3] .ret)⟩
def f89_0 : IR := ak [ab 11 0, sv 12 11 0, ab 13 12, iq 13 14 0, Cn 13 15 14 4, ki 16 13 15, ab 17 16, iq 17 18 1, ⟨some (17, false), some 19,
 .call 97 true [.t 18]⟩, iq 17 20 1, Cm 17 21 20, ⟨some (17, false), some 22, .bin .lss (.t 19) (.t 21)⟩, ki 23 17 22] (cz 23 (ak [di 4, gz 5] .ret) .skip)
def f89_1 : IR := cz 34 .skip (.exit 0)
def f89_2 : IR := ak [lj 34 33 32] (.seq f89_1 (.seq (.block 1 (ak [ab 35 33, jd 36 2 31 33, jf 37 2 36, Km 9, ab 8 35, ct 2 9 37] (ak [jf 38 2 9,
 jh 39 98 38, ab 10 39] (ak [ab 40 7, ab 41 10, df 42 41, Rt 43 40 42, ab 7 43] (ak [ab 44 8, Ck 45 2 44, ab 46 7, py 47 46, Zs 48 252 6 45,
 ct 1 48 47] (.reg [ab 49 7, ⟨none, some 50, .slA 252 1 (.t 6) (some (.t 49)) none⟩, ab 51 10, Jk 52 1 50 51])))))) (.reg [gn 53 33 1, ab 33 53])))
def f89 : FnIR := ⟨56, [.t 4, .t 5], ak [di 4, gz 5] (.seq f89_0 (ak [⟨none, some 6, .alloc (List.replicate 252 (.cv (.sc (.int .u8 0))))⟩] (ak [ab 24 0, py 25 24,
 ab 26 1, df 27 26, py 28 27, Hf 29 252 6 0, ct 1 29 25, Hf 30 252 6 1, ct 1 30 28] (ak [bw 7 252] (.seq (ak [ab 31 1, df 32 31,
 bw 33 0] (.block 0 (.loop f89_2))) (ak [Ka 54 252 6, lf 55 77 54, ab 4 55, Ik 5] .ret))))))⟩
def f90 : FnIR := ⟨17, [.t 2], ak [gz 2] (ak [ab 4 0, df 5 4, Yu 6 5 4, ab 3 6] (ak [ab 7 3, Va 8 7 0, ab 9 8, iy 9 10 0, iy 9 11 3, ⟨some (9,
 true), some 12, .slL 1 (.t 10) none (some (.t 11)) none⟩, ⟨some (9, true), some 13, .call 77 true [.t 12]⟩, iy 9 14 0, ⟨some (9, true), some 15, .call 81 true [.t 13, .t 14]⟩,
 ky 16 9 15, ab 2 16] .ret))⟩
def f91_0 : IR := ak [ab 12 1, ab 13 2, ⟨none, some 14, .bin .geq (.t 12) (.t 13)⟩] (cz 14 (ak [jf 15 2 6, ct 2 6 15, gz 7] .ret) .skip)
def f91_1 : IR := ak [ab 25 10, Gf 26 25] (cz 26 (ak [jf 27 2 6, ct 2 6 27, gz 7] .ret) .skip)
def f91 : FnIR := ⟨48, [.cell 6 true 2, .t 7], ak [Km 6, gz 7] (.seq f91_0 (ak [ab 17 0, ab 18 2, Js 19 1 17 18, ab 20 1, aba 21 19 20 30, ab 16 21,
 bj 22 16 0, bj 23 16 1, bj 24 16 2, ab 8 22, ab 9 23, ab 10 24] (.seq f91_1 (ak [ab 29 0, ab 30 2, Js 31 1 29 30, ab 32 9, aba 33 31 32 150,
 ab 28 33, bj 34 28 0, bj 35 28 1, bj 36 28 2, ab 11 34, ab 9 35, ab 10 36] (ak [ab 37 8, ab 38 11, ⟨none, some 39, .cvSB false (.t 38)⟩,
 ahx 40 37 39, ab 41 10, Qr 42 41, ab 43 42, iy 43 44 9, iy 43 45 2, ⟨some (43, true), some 46, .bin .eql (.t 44) (.t 45)⟩, ky 47 43 46, ct 2 6 40,
 ab 7 47] .ret)))))⟩
def f92_0 : IR := .seq (ak [ab 23 9, Qr 24 23, ab 25 24, iy 25 26 7, ac8 25 27 26 0,
 ky 28 25 27] (cz 28 .skip (.exit 0))) (.seq (.block 1 (ak [abo 10] (ak [ab 32 1, ab 33 0, ab 34 8, ⟨none, some 35, .callv true (.t 32) [.t 33, .t 34]⟩,
 ab 31 35, bj 36 31 0, bj 37 31 1, bj 38 31 2, ct 3 10 36, ab 8 37, ab 9 38] (ak [ab 39 9, Qr 40 39] (cz 40 (.reg [ab 41 6, jf 42 3 10,
 aim 43 42, ⟨none, some 44, .app 3 48 [.sc (.string ⟨#[]⟩), .sc (.slice none 0 0), .sc (.bool false)] (.t 41) (.t 43)⟩, ab 6 44]) .skip))))) (.reg [ab 29 7, Yu 30 29 1,
 ab 7 30]))
def f92 : FnIR := ⟨55, [.t 4, .t 5], ak [di 4, dp 5 0] (ak [di 6] (ak [ab 12 0, ⟨none, some 13, .call 100 true [.t 12, .c (vi .i64 0)]⟩, ab 11 13,
 bj 14 11 0, bj 15 11 1, bj 16 11 2, ab 7 14, ab 8 15, ab 9 16] (.seq (ak [ab 17 9, Qr 18 17, ab 19 18, iy 19 20 7, ac8 19 21 20 5000,
 ky 22 19 21] (cz 22 (.reg [dp 9 3]) .skip)) (.seq (.block 0 (.loop f92_0)) (.seq (.block 2 (ak [ab 46 9, Gf 47 46, ab 45 47] (cz 45 (ak [ab 48 9, di 4,
 ab 5 48] .ret) (ak [ab 50 8, ab 51 0, df 52 51, lj 53 50 52, ab 49 53] (cz 49 (ak [di 4, dp 5 11] .ret) .skip))))) (ak [ab 54 6, ab 4 54,
 dp 5 0] .ret))))))⟩
def f93 : FnIR := ⟨59, [.cell 4 true 3, .t 5, .t 6], ak [abo 4, bw 5 0, dp 6 0] (ak [ab 11 0, ab 12 1, aba 13 11 12 30, ab 10 13, bj 14 10 0,
 bj 15 10 1, bj 16 10 2, ab 7 14, ab 1 15, ab 8 16] (.seq (.block 0 (ak [ab 18 8, Gf 19 18, ab 17 19] (cz 17 (ak [af5 20, ab 21 8, ct 3 4 20,
 bw 5 0, ab 6 21] .ret) (ak [ab 23 1, ab 24 0, df 25 24, Je 26 23 25, ab 22 26] (cz 22 (ak [af5 27, ct 3 4 27, bw 5 0,
 dp 6 10] .ret) (ak [ab 29 0, ab 30 1, jd 31 1 29 30, ay 32 31, af7 33 32 1, ab 28 33] (cz 28 (ak [ab 34 7, ⟨none, some 35,
 .build [.cv (.sc (.string ⟨#[]⟩)), .cv (.sc (.slice none 0 0)), .cv (.sc (.bool false))] [(0, (1, .t 34)), (2, (1, .c Zl))]⟩, ab 36 1, gn 37 36 1, ct 3 4 35,
 ab 5 37, dp 6 0] .ret) (ak [ab 39 0, ab 40 1, jd 41 1 39 40, ay 42 41, ⟨none, some 43, .bin .gtr (.t 42) (.c (vi .u8 1))⟩,
 ab 38 43] (cz 38 (ak [af5 44, ct 3 4 44, bw 5 0, dp 6 11] .ret) .skip))))))))) (ak [ab 46 0, ab 47 1, gn 48 47 1, aba 49 46 48 150, ab 45 49,
 bj 50 45 0, bj 51 45 1, bj 52 45 2, ab 9 50, ab 1 51, ab 8 52] (ak [ab 53 7, ab 54 9, ⟨none, some 55, .cvSB false (.t 54)⟩, akk 53, ab 57 1,
 ab 58 8, ct 3 4 56, ab 5 57, ab 6 58] .ret))))⟩
def f95_0 : IR := cz 14 .skip (.exit 0)
def f95_1 : IR := ak [lj 14 13 12] (.seq f95_0 (.seq (.block 1 (ak [jd 15 1 11 13, ay 16 15, ab 7 16] (.reg [ab 17 0, Mn 18 17 8, ab 19 0, py 20 19,
 ab 21 7, ads 22 20 21, Zs 23 256 5 22, ay 24 23, ads 25 18 24, ab 0 25]))) (.reg [gn 26 13 1, ab 13 26])))
def f95 : FnIR := ⟨29, [.t 4], ak [ah4 4] (ak [ad6 8 102, ⟨none, some 5, .alloc (List.replicate 256 (.cv (.sc (.int .u32 0))))⟩, ct 256 5 8] (ak [ab 9 0, ⟨none,
 some 10, .un .xor (.t 9)⟩, ab 0 10] (.seq (ak [ab 11 1, df 12 11, bw 13 0] (.block 0 (.loop f95_1))) (ak [ab 27 0, ⟨none, some 28, .un .xor (.t 27)⟩,
 ab 4 28] .ret))))⟩
def f96_0 : IR := ak [ab 6 0, ay 7 1, ab 8 3, Js 9 2 7 8, Uh 10 6 9, nz 11 10, ab 12 11, iq 12 13 3, ⟨some (12, false), some 14,
 .bin .eql (.t 13) (.c (vi .i64 0))⟩, ki 15 12 14, ab 16 15, iq 16 17 3, Qq 16 18 1, Cm 16 19 18, ⟨some (16, false), some 20, .bin .eql (.t 17) (.t 19)⟩,
 ki 21 16 20] (cz 21 .ret .skip)
def f96_1 : IR := .block 1 (ak [ay 4 1, jh 5 97 4, ab 3 5] (.seq f96_0 (.reg [ay 22 1, ab 23 3, vg 24 2 22 23, ct 1 1 24])))
def f96 : FnIR := ⟨25, [], .block 0 (.loop f96_1)⟩
def f97_0 : IR := cz 9 .skip (.exit 0)
def f97_1 : IR := ak [bp 13 0 5, ay 14 13, ac3 15 14, Gl 16 15 30, ab 17 16, aax 17 18 1 5, Qq 17 19 18, Cm 17 20 19, Cn 17 21 20 150,
 ki 22 17 21] (cz 22 (ak [ab 23 4, ab 2 23] .ret) .skip)
def f97_2 : IR := ak [lj 9 8 7] (.seq f97_0 (.seq (.block 1 (ak [ab 10 8, jd 11 2 6 8, jf 12 2 11, Km 5, ab 4 10, ct 2 5 12] (.seq f97_1 (ak [ab 24 3,
 jf 25 2 5, jh 26 98 25, df 27 26, Ck 28 1 27, mc 29 24 28, ab 3 29] (ak [ab 30 3, Gl 31 30 250] (cz 31 (ak [ab 32 4,
 ab 2 32] .ret) .skip)))))) (.reg [gn 33 8 1, ab 8 33])))
def f97 : FnIR := ⟨36, [.t 2], ak [bw 2 0] (ak [bw 3 0] (.seq (ak [ab 6 0, df 7 6, bw 8 0] (.block 0 (.loop f97_2))) (ak [ab 34 0, df 35 34,
 ab 2 35] .ret)))⟩
def f98 : FnIR := ⟨11, [.t 2], ak [sr 1 2 0, di 2] (.seq (.draw [(bp 3 0 1,.p), (ay 4 3, .r 0 0), (lf 5 75 4,.k), (bp 6 1 1,.p), (ay 7 6, Aj), (Px 8 7,
 Aj), (lf 9 75 8,.k), (xd 10 5 9,.k), (ab 2 10,.p)]) .ret)⟩
def f99 : FnIR := ⟨44, [.t 6, .t 7, .t 8], ak [aa5, bw 7 0, dp 8 0] (ak [ab 13 0, ab 14 1, Co 15 100 13 14, ab 12 15, bj 16 12 0, bj 17 12 1,
 bj 18 12 2, ab 9 16, ab 10 17, ab 11 18] (.seq (.block 0 (ak [ab 20 11, Gf 21 20, ab 19 21] (cz 19 (ak [ab 22 11, aa5, bw 7 0,
 ab 8 22] .ret) (ak [ab 24 9, ab 25 2, Vw 26 24 25, ab 23 26] (cz 23 (ak [aa5, bw 7 0, dp 8 3] .ret) (ak [ab 28 9, ab 29 0, df 30 29,
 ab 31 10, Rt 32 30 31, Vw 33 28 32, ab 27 33] (cz 27 (ak [aa5, bw 7 0, dp 8 10] .ret) .skip))))))) (ak [ab 34 0, ab 35 10, ab 36 10, ab 37 9,
 mc 38 36 37, ⟨none, some 39, .slL 1 (.t 34) (some (.t 35)) (some (.t 38)) none⟩, Px 40 39, ab 41 10, ab 42 9, mc 43 41 42, ab 6 40, ab 7 43,
 dp 8 0] .ret)))⟩
def f100_0 : IR := .seq (ak [ab 18 8, sv 19 18 8] (cz 19 .skip (.exit 0))) (.seq (.block 1 (.seq (ak [ab 22 1, ab 23 8, mc 24 22 23, ab 25 0, df 26 25,
 Je 27 24 26] (cz 27 (.goto 0) .skip)) (ak [ab 28 0, ab 29 1, ab 30 8, mc 31 29 30, jd 32 1 28 31, ay 33 32, ab 9 33] (ak [ab 34 7, ab 35 9,
 ahq 36 35 127, uq 37 36, ab 38 8, ae8 39 7 38, ⟨none, some 40, .bin .shl (.t 37) (.t 39)⟩, Uk 41 34 40, ab 7 41] (ak [ab 42 9, ahq 43 42 128,
 af7 44 43 0] (cz 44 (.seq (ak [ab 45 9, af7 46 45 0, ab 47 46, iy 47 48 8, ac8 47 49 48 0, ky 50 47 49, ab 51 50, iq 51 52 7,
 Cn 51 53 52 9007199254740992, ki 54 51 53] (cz 54 (.goto 1) .skip)) (ak [ab 55 7, ab 56 1, ab 57 8, mc 58 56 57, gn 59 58 1, ab 4 55, ab 5 59,
 dp 6 0] .ret)) .skip)))))) (.reg [ab 20 8, gn 21 20 1, ab 8 21]))
def f100_1 : IR := ak [bw 7 0, bw 8 0] (.seq (ak [ab 10 1, sv 11 10 0, ab 12 11, iq 12 13 1, iq 12 14 0, Cm 12 15 14, agi 12 16 13 15,
 ki 17 12 16] (cz 17 (.goto 0) .skip)) (.seq (.block 0 (.loop f100_0)) (.seq (.label 1) (.seq (ak [bw 4 0, bw 5 0, dp 6 11] .ret) (.seq (.label 0) (ak [bw 4 0,
 bw 5 0, dp 6 10] .ret))))))
def f100 : FnIR := ⟨60, [.t 4, .t 5, .t 6], ak [bw 4 0, bw 5 0, dp 6 0] (.scope f100_1)⟩
def f102_0 : IR := cz 5 .skip (.exit 0)
def f102_1 : IR := cz 10 .skip (.exit 2)
def f102_2 : IR := ak [sv 10 9 8] (.seq f102_1 (.seq (.block 3 (.reg [ab 11 3, Mn 12 11 1, ab 13 3, ⟨none, some 14, .bin .and (.t 13) (.c (vi .u32 1))⟩, ⟨none,
 some 15, .bin .mul (.c (vi .u32 3988292384)) (.t 14)⟩, ads 16 12 15, ab 3 16])) (.reg [gn 17 9 1, ab 9 17])))
def f102_3 : IR := ak [sv 5 4 256] (.seq f102_0 (.seq (.block 1 (ak [ab 6 4, ab 2 6] (ak [ab 7 2, ⟨none, some 8, .cvI .u32 (.t 7)⟩,
 ab 3 8] (.seq (ak [bw 9 0] (.block 2 (.loop f102_2))) (.reg [ab 18 2, ab 19 3, Zs 20 256 1 18, ct 1 20 19]))))) (.reg [gn 21 4 1, ab 4 21])))
def f102 : FnIR := ⟨23, [.cell 0 true 256], ak [⟨none, some 0, .alloc (List.replicate 256 (.cv (.sc (.int .u32 0))))⟩] (ak [⟨none, some 1,
 .alloc (List.replicate 256 (.cv (.sc (.int .u32 0))))⟩] (.seq (ak [bw 4 0] (.block 0 (.loop f102_3))) (ak [jf 22 256 1, ct 256 0 22] .ret)))⟩
def f119_0 : IR := ak [ab 9 0, ab 10 1, wi 11 56 9 10, nz 12 11] (cz 12 (ak [di 4, dp 5 20] .ret) .skip)
def f119_1 : IR := cz 26 .skip (.exit 0)
def f119_2 : IR := ak [lj 26 25 24] (.seq f119_1 (.seq (.block 1 (ak [jd 27 65 23 25, jf 28 65 27, ⟨none, some 8,
 .alloc ((.cv (.sc (.int .i64 0))) :: List.replicate 64 (.cv (.sc (.int .u8 0))))⟩, ct 65 8 28] (ak [bp 29 0 8, ay 30 29, ab 31 1,
 Je 32 30 31] (cz 32 (.reg [bp 33 1 8, jf 34 64 33, ct 64 6 34]) .skip)))) (.reg [gn 35 25 1, ab 25 35])))
def f119 : FnIR := ⟨37, [.t 4, .t 5], ak [di 4, dp 5 0] (.seq f119_0 (ak [ab 13 0, ej 14 13, bp 15 0 14, ay 16 15, ab 17 1, jd 18 64 16 17,
 jf 19 64 18, ⟨none, some 6, .alloc (List.replicate 64 (.cv (.sc (.int .u8 0))))⟩, ct 64 6 19] (.seq (ak [ab 20 0, ej 21 20, bp 22 1 21, ay 23 22, df 24 23,
 bw 25 0] (.block 0 (.loop f119_2))) (ak [Ka 36 64 6, ab 4 36, dp 5 0] .ret))))⟩
abbrev aia : List Nat := [31, 32, 27, 119, 29, 26, 28, 56, 57, 54, 53, 10, 14, 15, 16, 20, 21, 25, 11, 13, 34, 60, 33, 63, 35, 38, 36, 17]
abbrev ake : List Nat := [31, 32, 27, 119, 29, 26, 28, 56, 57, 54, 53, 10]
def ai7 : Nat → List Nat := fun n => match n with
 | 5 | 11 | 12 | 13 | 14 | 15 | 16 | 20 | 21 | 30 | 33 | 35 | 38 | 41 | 60 => aia
 | 10 | 29 | 31 | 32 | 53 | 54 | 56 | 57 | 58 | 119 => ake
 | 19 => [45, 44]
 | 34 => [31, 32, 27, 119, 29, 26, 28, 56, 57, 54, 53, 10, 14, 15, 16, 20, 21, 25, 11, 13, 34, 60, 33, 63, 35, 38, 36, 17, 45]
 | 36 => [31, 32, 27, 119, 29, 26, 28, 56, 57, 54, 53, 10, 14, 15, 16, 20, 21, 25, 11, 13, 34, 60, 33, 63, 35, 38, 36, 17, 45, 44]
 | 37 => [65]
 | 39 => [66, 67, 50, 70]
 | 42 => [66]
 | 44 => [72]
 | 46 | 75 => [74]
 | 48 => [76]
 | 50 | 73 | 96 => [3000000]
 | 59 => [79]
 | 61 => [80]
 | 63 => [31, 32, 27, 119, 29, 26, 28, 56, 57, 54, 53, 10, 14, 15, 16, 20, 21, 25, 11, 13, 34, 60, 33, 63, 35, 38, 36, 17, 1000081]
 | 67 => [50, 3000000]
 | 79 => [88]
 | 89 => [77]
 | 98 => [75]
 | _ => []
def agu : Nat → List (Nat × Nat) := fun n => match n with
 | 10 => [(3, 1)]
 | 13 => [(10, 6)]
 | 36 => [(1, 9)]
 | 54 => [(3, 2)]
 | 77 => [(2, 3)]
 | _ => []
theorem f70_ok : Rv Proofs.Try.prog [3000004] [] Proofs.Try.f70 = some f70 := by kernel_rfl
def f70x : FnIR := ⟨3, [.t 2], .reg [⟨none, some 2, .ins 2 40 (.t 0) (.t 1) (.t 2)⟩]⟩
def F : Nat → Option FnIR := fun n => match n with
 | 5 => some f5
 | 10 => some f10
 | 11 => some f11
 | 12 => some f12
 | 13 => some f13
 | 14 => some f14
 | 15 => some f15
 | 16 => some f16
 | 19 => some f19
 | 20 => some f20
 | 21 => some f21
 | 29 => some f29
 | 30 => some f30
 | 31 => some f31
 | 32 => some f32
 | 33 => some f33
 | 34 => some f34
 | 35 => some f35
 | 36 => some f36
 | 37 => some f37
 | 38 => some f38
 | 39 => some f39
 | 40 => some f40
 | 41 => some f41
 | 42 => some f42
 | 44 => some f44
 | 45 => some f45
 | 46 => some f46
 | 47 => some f47
 | 48 => some f48
 | 50 => some f50
 | 52 => some f52
 | 53 => some f53
 | 54 => some f54
 | 56 => some f56
 | 57 => some f57
 | 58 => some f58
 | 59 => some f59
 | 60 => some f60
 | 61 => some f61
 | 62 => some f62
 | 63 => some f63
 | 64 => some f64
 | 65 => some f65
 | 66 => some f66
 | 67 => some f67
 | 68 => some f68
 | 69 => some f69
 | 70 => some f70x
 | 71 => some f71
 | 72 => some f72
 | 73 => some f73
 | 74 => some f74
 | 75 => some f75
 | 76 => some f76
 | 77 => some f77
 | 78 => some f78
 | 79 => some f79
 | 80 => some f80
 | 81 => some f81
 | 82 => some f82
 | 83 => some f83
 | 84 => some f84
 | 87 => some f87
 | 88 => some f88
 | 89 => some f89
 | 90 => some f90
 | 91 => some f91
 | 92 => some f92
 | 93 => some f93
 | 95 => some f95
 | 96 => some f96
 | 97 => some f97
 | 98 => some f98
 | 99 => some f99
 | 100 => some f100
 | 102 => some f102
 | 119 => some f119
 | _ => none
def aiw (f : Nat) : Option FnIR := if f = 70 then none else F f
theorem amm {f : Nat} {fn : FnIR} (h : F f = some fn) : f < 120 := by
 unfold F at h
 split at h <;> first | decide | cases h
theorem tlt {f : Nat} {fn : FnIR} (h : F f = some fn) : f < YB := Nat.lt_trans (amm h) (by decide)
theorem ank : ((List.range 120).map fun f => if (aiw f).isSome = true then (Proofs.Try.prog.funcs[f]?).map fun c => (c.name == "runtime.NumGoroutine", Rv Proofs.Try.prog (ai7 f) (agu f) c) else none) = (List.range 120).map fun f => if (aiw f).isSome = true then some (false, aiw f) else none := by kernel_rfl
theorem ane (h70 : ae0 Proofs.Try.prog 70 f70x) : Xh Proofs.Try.prog F := by
 refine ⟨by kernel_rfl, fun f fn h => ⟨tlt h, ?_⟩⟩
 by_cases e70 : f = 70
 ·subst e70
  have h : some f70x = some fn := h
  cases h
  exact .inr h70
 have hf : aiw f = some fn := by
  unfold aiw
  rw [if_neg e70]
  exact h
 have k := congrArg (·[f]?) ank
 simp only [List.getElem?_map, List.getElem?_range (amm h)] at k
 have k := Option.some.inj k
 dsimp only at k
 have p : (some fn).isSome = true := rfl
 rw [hf, if_pos p, if_pos p] at k
 cases hc : Proofs.Try.prog.funcs[f]? with
 | none => rw [hc] at k; cases k
 | some c =>
  rw [hc] at k
  have k := Option.some.inj k
  exact .inl ⟨c, ai7 f, agu f, rfl, congrArg (·.1) k, congrArg (·.2) k⟩
end Go.V08
