/-
 Chapter 08: the program's functions, as the small code (printed by a program of ours, checked by the kernel).
-/
import Derived.Test.YtbhoknaipfnlnaaVmAll1
import Derived.Test.YtbhoknaipfnlnaaProg
namespace Go.V08
open Go Go.Vm
theorem eE1 {F : Nat → Option FnIR} {f n : Nat} {fn : FnIR} (hf : F f = some fn) (hn : fn.nt = n) {a0 : VV} {h : ae} {P : VV → ae → Prop} (k : ∀ s : List VV, s.length = n → s.getD 0 .undef = a0 → X F fn.body ⟨s, h⟩ (RQ fn.res P)) (hb : Nat.ble 1 n = true := by rfl) : ∃ v h', call F f [a0] h = some (.ret v, h') ∧ P v h' := by
  subst hn
  exact ba hf (k _ (by have := Nat.le_of_ble_eq_true hb; simp <;> omega) rfl) hb
theorem eE2 {F : Nat → Option FnIR} {f n : Nat} {fn : FnIR} (hf : F f = some fn) (hn : fn.nt = n) {a0 a1 : VV} {h : ae} {P : VV → ae → Prop} (k : ∀ s : List VV, s.length = n → s.getD 0 .undef = a0 → s.getD 1 .undef = a1 → X F fn.body ⟨s, h⟩ (RQ fn.res P)) (hb : Nat.ble 2 n = true := by rfl) : ∃ v h', call F f [a0, a1] h = some (.ret v, h') ∧ P v h' := by
  subst hn
  exact ba hf (k _ (by have := Nat.le_of_ble_eq_true hb; simp <;> omega) rfl rfl) hb
theorem eE3 {F : Nat → Option FnIR} {f n : Nat} {fn : FnIR} (hf : F f = some fn) (hn : fn.nt = n) {a0 a1 a2 : VV} {h : ae} {P : VV → ae → Prop} (k : ∀ s : List VV, s.length = n → s.getD 0 .undef = a0 → s.getD 1 .undef = a1 → s.getD 2 .undef = a2 → X F fn.body ⟨s, h⟩ (RQ fn.res P)) (hb : Nat.ble 3 n = true := by rfl) : ∃ v h', call F f [a0, a1, a2] h = some (.ret v, h') ∧ P v h' := by
  subst hn
  exact ba hf (k _ (by have := Nat.le_of_ble_eq_true hb; simp <;> omega) rfl rfl rfl) hb
theorem eE4 {F : Nat → Option FnIR} {f n : Nat} {fn : FnIR} (hf : F f = some fn) (hn : fn.nt = n) {a0 a1 a2 a3 : VV} {h : ae} {P : VV → ae → Prop} (k : ∀ s : List VV, s.length = n → s.getD 0 .undef = a0 → s.getD 1 .undef = a1 → s.getD 2 .undef = a2 → s.getD 3 .undef = a3 → X F fn.body ⟨s, h⟩ (RQ fn.res P)) (hb : Nat.ble 4 n = true := by rfl) : ∃ v h', call F f [a0, a1, a2, a3] h = some (.ret v, h') ∧ P v h' := by
  subst hn
  exact ba hf (k _ (by have := Nat.le_of_ble_eq_true hb; simp <;> omega) rfl rfl rfl rfl) hb
theorem eE5 {F : Nat → Option FnIR} {f n : Nat} {fn : FnIR} (hf : F f = some fn) (hn : fn.nt = n) {a0 a1 a2 a3 a4 : VV} {h : ae} {P : VV → ae → Prop} (k : ∀ s : List VV, s.length = n → s.getD 0 .undef = a0 → s.getD 1 .undef = a1 → s.getD 2 .undef = a2 → s.getD 3 .undef = a3 → s.getD 4 .undef = a4 → X F fn.body ⟨s, h⟩ (RQ fn.res P)) (hb : Nat.ble 5 n = true := by rfl) : ∃ v h', call F f [a0, a1, a2, a3, a4] h = some (.ret v, h') ∧ P v h' := by
  subst hn
  exact ba hf (k _ (by have := Nat.le_of_ble_eq_true hb; simp <;> omega) rfl rfl rfl rfl rfl) hb
abbrev Vf : VV := .cv (.sc (.bool true))
abbrev aa0 : VV := .cv (.sc (.bool false))
abbrev Vc : VV := .cv (.sc (.slice none 0 0))
abbrev amk : VV := .cv (.sc (.string ⟨#[]⟩))
abbrev ai (l : List Op1) (c : IR) : IR := .seq (.reg l) c
abbrev cz (n : Nat) (a b : IR) : IR := .cond (.t n) a b
abbrev zq : Cl := .r 0 1
abbrev ab (a b : Nat) : Op1 := ⟨none, some a, .mv (.t b)⟩
abbrev az (a b : Nat) : Op1 := ⟨none, some a, .ld false 1 (.t b)⟩
abbrev bk (a b c : Nat) : Op1 := ⟨none, some a, .ext (.t b) c⟩
abbrev bt (a b c : Nat) : Op1 := ⟨none, some a, .fad b (.t c)⟩
abbrev ce (a : Nat) (b : Int) : Op1 := ⟨none, some a, .mv (.c (vi .i64 b))⟩
abbrev co (a b c : Nat) : Op1 := ⟨none, none, .st a (.t b) (.t c)⟩
abbrev df (a b : Nat) : Op1 := ⟨none, some a, .len false (.t b)⟩
abbrev di (a : Nat) : Op1 := ⟨none, some a, .mv (.c Vc)⟩
abbrev dq (a : Nat) (b : Int) : Op1 := ⟨none, some a, .mv (.c (vi .u16 b))⟩
abbrev er (a b : Nat) : Op1 := ⟨none, some a, .nilck (.t b)⟩
abbrev gf (a : Nat) : Op1 := ⟨none, some a, .mv (.c aa0)⟩
abbrev gi (a b : Nat) (c : Int) : Op1 := ⟨none, some a, .bin .add (.t b) (.c (vi .i64 c))⟩
abbrev gp (a b c : Nat) : Op1 := ⟨some (a, false), some b, .mv (.t c)⟩
abbrev gq (a b c : Nat) : Op1 := ⟨some (a, true), some b, .mv (.t c)⟩
abbrev iy (a b c : Nat) : Op1 := ⟨none, some a, .call b true [.t c]⟩
abbrev jd (a b c : Nat) : Op1 := ⟨none, some a, .ld true b (.t c)⟩
abbrev jf (a b c d : Nat) : Op1 := ⟨none, some a, .iadL b (.t c) (.t d)⟩
abbrev km (a b c : Nat) : Op1 := ⟨none, some a, .pick (.t b) (.c Vf) (.t c)⟩
abbrev kk (a b c : Nat) : Op1 := ⟨none, some a, .bin .lss (.t b) (.t c)⟩
abbrev kw (a b c : Nat) : Op1 := ⟨none, some a, .call b false [.t c]⟩
abbrev lh (a b c : Nat) : Op1 := ⟨none, some a, .pick (.t b) (.t c) (.c aa0)⟩
abbrev na (a b c : Nat) : Op1 := ⟨none, some a, .bin .add (.t b) (.t c)⟩
abbrev oi (a b : Nat) : Op1 := ⟨none, some a, .cvI .u8 (.t b)⟩
abbrev oy (a b : Nat) : Op1 := ⟨none, some a, .un .not (.t b)⟩
abbrev qn (a b : Nat) (c : Int) : Op1 := ⟨none, some a, .bin .lss (.t b) (.c (vi .i64 c))⟩
abbrev tg (a b : Nat) : Op1 := ⟨none, some a, .cvI .i64 (.t b)⟩
abbrev tj (a b c : Nat) : Op1 := ⟨none, some a, .box b (.t c)⟩
abbrev wh (a b c d : Nat) : Op1 := ⟨none, some a, .call b false [.t c, .t d]⟩
abbrev vq (a b c d : Nat) : Op1 := ⟨none, some a, .slL b (.t c) (some (.t d)) none none⟩
abbrev xu (a b c : Nat) : Op1 := ⟨none, some a, .app 1 1 [.sc (.int .u8 0)] (.t b) (.t c)⟩
abbrev xe (a b c : Nat) (d : Int) : Op1 := ⟨none, some a, .iadL b (.t c) (.c (vi .i64 d))⟩
abbrev Bx (a b c : Nat) (d : Int) : Op1 := ⟨some (a, false), some b, .bin .gtr (.t c) (.c (vi .i64 d))⟩
abbrev Cn (a : Nat) (b : Int) (c : Nat) : Op1 := ⟨none, some a, .bin .add (.c (vi .i64 b)) (.t c)⟩
abbrev Cv (a b c : Nat) : Op1 := ⟨some (a, false), some b, .len false (.t c)⟩
abbrev Cw (a b : Nat) : Op1 := ⟨none, some a, .bin .neq (.t b) (.c (vi .u16 0))⟩
abbrev Cs (a b : Nat) (c : Int) : Op1 := ⟨none, some a, .bin .eql (.t b) (.c (vi .i64 c))⟩
abbrev Cu (a b c d : Nat) : Op1 := ⟨none, some a, .call b true [.t c, .t d]⟩
abbrev Cx (a : Nat) : Op1 := ⟨none, some a, .mv (.c Vf)⟩
abbrev Ge (a b : Nat) (c : Int) : Op1 := ⟨none, some a, .bin .gtr (.t b) (.c (vi .i64 c))⟩
abbrev Hg  : Op1 := ⟨none, some 2, .mv (.c (.cv (.sc (.pointer none))))⟩
abbrev Jz (a b : Nat) : Op1 := ⟨none, some a, .eqn .ptr false (.t b)⟩
abbrev Jn (a b c d : Nat) : Op1 := ⟨some (a, true), some b, .call c false [.t d]⟩
abbrev Ia (a b c d : Nat) : Op1 := ⟨some (a, true), some b, .fad c (.t d)⟩
abbrev Iz (a b c : Nat) : Op1 := ⟨some (a, true), some b, .ld false 1 (.t c)⟩
abbrev Kh (a : Nat) : Op1 := ⟨none, some a, .alloc [.cv (.sc (.int .i64 0)), .cv (.sc (.int .i64 0)), .cv (.sc (.int .i64 0))]⟩
abbrev Ho (a b c : Nat) : Op1 := ⟨some (a, false), some b, .ld false 1 (.t c)⟩
abbrev Ih (a b c d : Nat) : Op1 := ⟨none, some a, .cpy b (.t c) (.t d)⟩
abbrev Ik (a b c : Nat) (d : Int) : Op1 := ⟨none, some a, .iadA b 1 (.t c) (.c (vi .i64 d))⟩
abbrev Kd (a b c : Nat) : Op1 := ⟨none, some a, .bin .eql (.t b) (.t c)⟩
abbrev Jj (a b c d : Nat) : Op1 := ⟨none, some a, .slL b (.t c) none (some (.t d)) none⟩
abbrev Mt (a b c : Nat) : Op1 := ⟨some (a, true), some b, .len false (.t c)⟩
abbrev Ks (a b : Nat) : Op1 := ⟨none, some a, .mkif 23 (.t b)⟩
abbrev Ma (a b c : Nat) : Op1 := ⟨none, some a, .slA b 1 (.t c) none none⟩
abbrev Kq (a : Nat) : Op1 := ⟨none, some a, .alloc [.cv (.sc (.string ⟨#[]⟩)), .cv (.sc (.slice none 0 0))]⟩
abbrev Lu (a b : Nat) (c : Int) : Op1 := ⟨none, some a, .bin .shr (.t b) (.c (vi .u64 c))⟩
abbrev Sc (a b : Nat) : Op1 := ⟨none, some a, .cvBS (.t b)⟩
abbrev Sk (a b c : Nat) : Op1 := ⟨some (a, false), some b, .un .not (.t c)⟩
abbrev Rz (a b c d : Nat) : Op1 := ⟨some (a, false), some b, .fad c (.t d)⟩
abbrev Ra (a b : Nat) : Op1 := ⟨none, some a, .mksl 1 1 [.cv (.sc (.slice none 0 0))] [(0, (1, .t b))] false⟩
abbrev Qu (a b c : Nat) : Op1 := ⟨none, some a, .app 1 24 [.sc (.slice none 0 0)] (.t b) (.t c)⟩
abbrev Qg (a b c : Nat) : Op1 := ⟨none, some a, .bin .sub (.t b) (.t c)⟩
abbrev Vj (a : Nat) : Op1 := ⟨none, some a, .alloc [.cv (.sc (.slice none 0 0)), .cv (.sc (.slice none 0 0)), .cv (.sc (.int .i64 0)), .cv (.sc (.int .i64 0)), .cv (.sc (.bool false)), .cv (.sc (.int .i64 0))]⟩
abbrev Wa (a b c : Nat) (d : Int) : Op1 := ⟨some (a, true), some b, .bin .eql (.t c) (.c (vi .i64 d))⟩
abbrev Th (a b c : Nat) : Op1 := ⟨none, some a, .bin .gtr (.t b) (.t c)⟩
abbrev Wu (a b c : Nat) (d : Int) : Op1 := ⟨none, some a, .call b false [.t c, .c (vi .i64 d)]⟩
abbrev To (a b : Nat) (c : Int) : Op1 := ⟨none, some a, .bin .geq (.t b) (.c (vi .i64 c))⟩
abbrev Tr (a b c : Nat) : Op1 := ⟨none, some a, .callv false (.t b) [.t c]⟩
abbrev Wf (a b c : Nat) : Op1 := ⟨none, some a, .bin .or (.t b) (.t c)⟩
abbrev Tb (a b c : Nat) : Op1 := ⟨none, some a, .app 2 40 [.sc (.string ⟨#[]⟩), .sc (.slice none 0 0)] (.t b) (.t c)⟩
abbrev Tc (a b : Nat) : Op1 := ⟨none, some a, .bin .eql (.t b) (.c (vi .u16 0))⟩
abbrev aal (a b c d : Nat) : Op1 := ⟨some (a, false), some b, .call c false [.t d]⟩
abbrev ab6 (a b : Nat) (c : Int) : Op1 := ⟨none, some a, .bin .rem (.t b) (.c (vi .u8 c))⟩
abbrev aa2 (a b : Nat) : Op1 := ⟨none, some a, .inv [(17, 116), (23, 29)] (.t b) []⟩
abbrev Yz (a b : Nat) (c : Int) : Op1 := ⟨none, some a, .bin .sub (.t b) (.c (vi .i64 c))⟩
abbrev aa8 (a b c d e : Nat) : Op1 := ⟨none, some a, .call b false [.t c, .t d, .t e]⟩
abbrev aa9 (a : Nat) : Op1 := ⟨none, some a, .alloc [.cv (.sc (.string ⟨#[]⟩)), .cv (.sc (.slice none 0 0)), .cv (.sc (.bool false))]⟩
abbrev Zw (a b c d : Nat) : Op1 := ⟨none, some a, .iadA b 1 (.t c) (.t d)⟩
abbrev Zo (a b : Nat) (c : Int) : Op1 := ⟨none, some a, .bin .shl (.t b) (.c (vi .u64 c))⟩
abbrev abf (a b c : Nat) (d : Int) : Op1 := ⟨none, some a, .call 99 true [.t b, .t c, .c (vi .i64 d)]⟩
abbrev aav  : Op1 := ⟨none, some 6, .mv (.c amk)⟩
abbrev aem (a b : Nat) : Op1 := ⟨none, some a, .call b true []⟩
abbrev ag9 (a b : Nat) (c : Int) : Op1 := ⟨none, some a, .bin .quo (.t b) (.c (vi .i64 c))⟩
abbrev agy (a b c : Nat) : Op1 := ⟨some (a, true), some b, .bin .eql (.t c) (.c (vi .u16 0))⟩
abbrev ae2 (a b c d e : Nat) : Op1 := ⟨some (a, true), some b, .call c true [.t d, .t e]⟩
abbrev afc (a b c d : Nat) : Op1 := ⟨some (a, false), some b, .bin .gtr (.t c) (.t d)⟩
abbrev ae3 (a b c d e : Nat) : Op1 := ⟨none, some a, .call b true [.t c, .t d, .t e]⟩
abbrev aei (a b c d : Nat) : Op1 := ⟨none, some a, .inv [(23, 31)] (.t b) [.t c, .t d]⟩
abbrev aez (a b : Nat) : Op1 := ⟨none, some a, .inv [(23, 32)] (.t b) []⟩
abbrev ag5 (a : Nat) (b : Int) (c : Nat) : Op1 := ⟨none, some a, .bin .sub (.c (vi .i64 b)) (.t c)⟩
abbrev ahc (a : Nat) : Op1 := ⟨none, none, .st 1 (.t a) (.c (vi .i64 0))⟩
abbrev aew (a b c : Nat) : Op1 := ⟨none, some a, .bin .neq (.t b) (.t c)⟩
abbrev af5 (a b c d e : Nat) : Op1 := ⟨some (a, false), some b, .iadL c (.t d) (.t e)⟩
abbrev aer (a b c d : Nat) : Op1 := ⟨some (a, true), some b, .bin .leq (.t c) (.t d)⟩
abbrev ae9 (a b c : Nat) : Op1 := ⟨none, some a, .mkfn b [.t c]⟩
abbrev agr (a b : Nat) : Op1 := ⟨none, some a, .mksl 2 1 [.cv (.sc (.string ⟨#[]⟩)), .cv (.sc (.slice none 0 0))] [(0, (2, .t b))] false⟩
abbrev ag1 (a b : Nat) : Op1 := ⟨none, some a, .len true (.t b)⟩
abbrev aeh (a : Nat) : Op1 := ⟨none, none, .panic (.t a)⟩
abbrev agq (a b c : Nat) (d : Int) : Op1 := ⟨some (a, true), some b, .bin .leq (.t c) (.c (vi .i64 d))⟩
abbrev adz (a : Nat) (b : Int) (c : Nat) : Op1 := ⟨none, some a, .bin .mul (.c (vi .i64 b)) (.t c)⟩
abbrev afv (a b : Nat) : Op1 := ⟨none, some a, .cap (.t b)⟩
abbrev agp (a b c : Nat) (d : Int) : Op1 := ⟨some (a, true), some b, .bin .gtr (.t c) (.c (vi .i64 d))⟩
abbrev agw (a : Nat) : Op1 := ⟨none, some a, .build [.cv (.sc (.string ⟨#[]⟩)), .cv (.sc (.slice none 0 0)), .cv (.sc (.bool false))] []⟩
abbrev afn (a b : Nat) (c : Int) : Op1 := ⟨none, some a, .bin .eql (.t b) (.c (vi .u8 c))⟩
abbrev adw (a b c : Nat) : Op1 := ⟨none, some a, .bin .xor (.t b) (.t c)⟩
abbrev ajf (a b c : Nat) : Op1 := ⟨some (a, false), some b, .bin .neq (.t c) (.c (vi .u16 0))⟩
abbrev aks (a b : Nat) (c : Int) : Op1 := ⟨none, some a, .bin .rem (.t b) (.c (vi .i64 c))⟩
abbrev aie (a b : Nat) : Op1 := ⟨none, some a, .bin .add (.c (vi .u8 97)) (.t b)⟩
abbrev ah0 (a b c : Nat) : Op1 := ⟨none, some a, .build [.cv (.sc (.string ⟨#[]⟩)), .cv (.sc (.slice none 0 0)), .cv (.sc (.bool false))] [(0, (1, .t b)), (1, (1, .t c))]⟩
abbrev aj2 (a b : Nat) : Op1 := ⟨none, some a, .mksl 3 1 [.cv (.sc (.string ⟨#[]⟩)), .cv (.sc (.slice none 0 0)), .cv (.sc (.bool false))] [(0, (3, .t b))] false⟩
abbrev ahg (a b c : Nat) (d : Int) : Op1 := ⟨some (a, true), some b, .bin .neq (.t c) (.c (vi .u16 d))⟩
abbrev ai9 (a b c d : Nat) : Op1 := ⟨some (a, true), some b, .pick (.t c) (.c Vf) (.t d)⟩
abbrev aju (a b c d : Nat) : Op1 := ⟨some (a, false), some b, .pick (.t c) (.t d) (.c aa0)⟩
abbrev ah7 (a b c : Nat) : Op1 := ⟨some (a, true), some b, .mksl 3 1 [.cv (.sc (.string ⟨#[]⟩)), .cv (.sc (.slice none 0 0)), .cv (.sc (.bool false))] [(0, (3, .t c))] false⟩
abbrev ah4 (a b c : Nat) : Op1 := ⟨some (a, true), some b, .bin .sub (.t c) (.c (vi .i64 1))⟩
abbrev ahk (a b c d : Nat) : Op1 := ⟨none, some a, .bin .add (.t b) (.c (.cv (.sc (.complex .f64 c d))))⟩
abbrev ajr  : Op1 := ⟨none, some 9, .alloc [.cv (.sc (.int .i64 0))]⟩
abbrev aia (a b c d : Nat) : Op1 := ⟨none, some a, .build [.cv (.sc (.int .i64 0)), .cv (.sc (.int .i64 0)), .cv (.sc (.int .i64 0))] [(0, (1, .t b)), (1, (1, .t c)), (2, (1, .t d))]⟩
abbrev ake (a b : Nat) : Op1 := ⟨none, some a, .bin .mul (.t b) (.c (vi .i64 4))⟩
abbrev ajg (a b c : Nat) : Op1 := ⟨none, some a, .build [.cv (.sc (.string ⟨#[]⟩)), .cv (.sc (.slice none 0 0))] [(0, (1, .t b)), (1, (1, .t c))]⟩
abbrev aj5 (a : Nat) : Op1 := ⟨none, some a, .build [.cv (.sc (.slice none 0 0)), .cv (.sc (.slice none 0 0)), .cv (.sc (.int .i64 0)), .cv (.sc (.int .i64 0)), .cv (.sc (.bool false)), .cv (.sc (.int .i64 0))] []⟩
abbrev ai1 (a b c : Nat) : Op1 := ⟨none, some a, .call b false [.c Vc, .t c]⟩
abbrev ah8 (a : Nat) : Op1 := ⟨none, some a, .mv (.c (.cv (.sc .nilFunc)))⟩
abbrev ald (a : Nat) (b : Int) : Op1 := ⟨none, some a, .mksl 1 1 [.cv (.sc (.int .u8 0))] [(0, (1, .c (vi .u8 b)))] false⟩
abbrev ajd (a : Nat) (b : Int) : Op1 := ⟨none, some a, .slA 60 1 (.t 11) (some (.c (vi .i64 b))) none⟩
abbrev ah9  : Op1 := ⟨none, some 4, .eqn .slice false (.t 3)⟩
abbrev ah3 (a : Nat) : Op1 := ⟨none, none, .st 1 (.t a) (.c Vc)⟩
abbrev ail (a b c : Nat) : Op1 := ⟨none, some a, .slL 1 (.t b) (some (.c (vi .i64 11))) (some (.t c)) none⟩
abbrev ak4 (a b : Nat) : Op1 := ⟨none, some a, .mksl 1 1 [.cv (.sc (.int .u8 0))] [(0, (1, .t b))] false⟩
abbrev aif (a : Nat) : Op1 := ⟨none, some a, .alloc [.cv (.sc (.slice none 0 0))]⟩
abbrev ajb (a : Nat) : Op1 := ⟨none, some a, .mv (.c (vi .u32 0))⟩
abbrev aki (a b : Nat) (c : Int) : Op1 := ⟨none, some a, .bin .and (.t b) (.c (vi .u8 c))⟩
def f4_0 : IR := ai [ab 24 7, Jz 25 24, ab 26 25, gp 26 27 7, aal 26 28 11 27, ajf 26 29 28, km 30 26 29, ab 31 30, gp 31 32 1, Cv 31 33 32,
 Bx 31 34 33 100, km 35 31 34] (cz 35 (ai [aem 36 12, ab 6 36] .ret) .skip)
def f4_1 : IR := ai [ab 42 10, Cw 43 42] (cz 43 (ai [gf 6] .ret) .skip)
def f4_2 : IR := .seq (ai [ab 44 11, ab 45 2, ab6 46 45 40, tg 47 46, kk 48 44 47] (cz 48 .skip (.exit 0))) (.seq (.block 1 (ai [ab 51 9, kw 52 16 51,
 ab 12 52] (.seq (.draw [(ab 53 11,.p), (aks 54 53 26,.p), (oi 55 54,.p), (aie 56 55,.p), (ab 57 11,.p), (ag9 58 57 26,.p), (oi 59 58,.p), (aie 60 59,.p),
 (⟨none, some 61, .mksl 1 2 [.cv (.sc (.int .u8 0)), .cv (.sc (.int .u8 0))] [(0, (1, .t 56)), (1, (1, .t 60))] false⟩, .r 0 0), (Sc 62 61, .r 0 0), (ab 63 0,.p),
 (ab6 64 63 50,.p), (tg 65 64,.p), (Cn 66 100 65,.p), (⟨none, some 67, .mks 1 1 [.sc (.int .u8 0)] (.t 66) (.t 66) false⟩, .p), (ah0 68 62 67,.p), (aj2 69 68, .r 0 0),
 (ab 13 69,.p)]) (ai [ab 70 9, ab 71 13, wh 72 14 70 71, ab 14 72] (ai [ab 73 14, Cw 74 73, ab 75 74, gq 75 76 14, ahg 75 77 76 21, gq 75 78 77,
 gp 78 79 12, gp 78 80 9, aal 78 81 16 80, ⟨some (78, false), some 82, .call 18 true [.t 79, .t 81]⟩, Sk 78 83 82, ai9 75 84 78 83, lh 85 75 84, ab 86 85,
 gp 86 87 14, ⟨some (86, false), some 88, .bin .eql (.t 87) (.c (vi .u16 0))⟩, gp 86 89 88, gq 89 90 9, Jn 89 91 16 90, Mt 89 92 91, gq 89 93 12, Mt 89 94 93,
 ⟨some (89, true), some 95, .bin .add (.t 94) (.c (vi .i64 1))⟩, ⟨some (89, true), some 96, .bin .neq (.t 92) (.t 95)⟩, aju 86 97 89 96,
 km 98 86 97] (cz 98 (ai [gf 6] .ret) .skip)))))) (.reg [ab 49 11, gi 50 49 1, ab 11 50]))
def f4_3 : IR := ai [ab 101 15, df 102 101, Ge 103 102 0, ab 104 103, gq 104 105 9, gq 104 106 15, ⟨some (104, true), some 107,
 .iadL 2 (.t 106) (.c (vi .i64 0))⟩, Ia 104 108 0 107, Iz 104 109 108, ⟨some (104, true), some 110, .build [.cv (.sc (.string ⟨#[]⟩)), .cv (.sc (.slice none 0 0)),
 .cv (.sc (.bool false))] [(0, (1, .t 109)), (2, (1, .c Vf))]⟩, ah7 104 111 110, ⟨some (104, true), some 112, .call 14 false [.t 105, .t 111]⟩, ahg 104 113 112 0,
 lh 114 104 113] (cz 114 (ai [gf 6] .ret) .skip)
def f4 : FnIR := ⟨142, [.t 6], ai [gf 6] (ai [ab 19 0, ab6 20 19 3, kw 21 17 20, ab 18 21, bk 22 18 0, bk 23 18 1, Vj 8, ab 7 22,
 co 6 8 23] (.seq f4_0 (ai [ab 38 7, kw 39 13 38, ab 37 39, bk 40 37 0, bk 41 37 1, ab 9 40,
 ab 10 41] (.seq f4_1 (.seq (ai [ce 11 0] (.block 0 (.loop f4_2))) (ai [ab 99 9, kw 100 16 99, ab 15 100] (.seq f4_3 (ai [ab 116 7, kw 117 13 116,
 ab 115 117, bk 118 115 0, bk 119 115 1, ab 16 118, ab 17 119] (ai [aem 120 12, ab 121 120, gq 121 122 17, agy 121 123 122, lh 124 121 123,
 ab 125 124, gq 125 126 16, Jn 125 127 16 126, gq 125 128 9, Jn 125 129 16 128, ae2 125 130 18 127 129, lh 131 125 130, ab 132 131, gq 132 133 16,
 Jn 132 134 16 133, Mt 132 135 134, gq 132 136 15, Mt 132 137 136, ah4 132 138 137, ⟨some (132, true), some 139, .mnmx false [.t 138, .c (vi .i64 0)]⟩, ⟨some (132,
 true), some 140, .bin .eql (.t 135) (.t 139)⟩, lh 141 132 140, ab 6 141] .ret)))))))))⟩
def f10_0 : IR := ai [ab 3 0, qn 4 3 0, ab 5 4, gp 5 6 0, Bx 5 7 6 4096, km 8 5 7] (cz 8 (ai [Hg] .ret) .skip)
def f10 : FnIR := ⟨13, [.t 2], ai [Hg] (.seq f10_0 (ai [ab 9 0, ⟨none, some 10, .mks 64 64 (List.replicate 64 (.sc (.int .u8 0))) (.t 9) (.t 9) true⟩, ⟨none, some 11,
 .build [.cv (.sc (.slice none 0 0)), .cv (.sc (.slice none 0 0)), .cv (.sc (.complex .f64 0 0)), .cv (.sc (.bool false)), .cv (.sc (.int .i64 0))] [(0, (1, .t 10))]⟩,
 tj 12 5 11, ab 2 12] .ret))⟩
def f11_0 : IR := ai [ab 8 0, kw 9 29 8, qn 10 9 64] (cz 10 (ai [dq 2 20] .ret) .skip)
def f11_1 : IR := cz 20 .skip (.exit 0)
def f11_2 : IR := ai [kk 20 19 18] (.seq f11_1 (.seq (.block 1 (ai [ab 21 19, ab 5 21] (.reg [ab 22 0, ab 23 5, ⟨none, some 24, .call 31 false [.t 22, .t 23,
 .c Vc]⟩]))) (.reg [gi 25 19 1, ab 19 25])))
def f11 : FnIR := ⟨38, [.t 2], ai [dq 2 0] (.seq f11_0 (ai [ab 12 0, kw 13 29 12, iy 14 30 13, ab 11 14, bk 15 11 0, bk 16 11 1, ab 3 15,
 ab 4 16] (.seq (ai [ab 17 3, Cn 18 2 17, ce 19 0] (.block 0 (.loop f11_2))) (ai [ab 26 0, kw 27 32 26] (ai [ab 29 0, Ks 30 29, ⟨none, some 31,
 .call 33 false [.t 30, .c Vc]⟩, ab 28 31, bk 32 28 0, bk 33 28 1, ab 6 32, ab 7 33] (ai [ab 34 0, Ks 35 34, ab 36 6, ⟨none, some 37,
 .call 34 false [.t 35, .t 36, .c (vi .i64 0), .c (vi .i64 1)]⟩] (ai [dq 2 0] .ret)))))))⟩
def f12_0 : IR := ai [ab 11 3, Jz 12 11, ab 13 12, gp 13 14 3, aal 13 15 11 14, ajf 13 16 15, km 17 13 16] (cz 17 (ai [gf 0] .ret) .skip)
def f12 : FnIR := ⟨57, [.t 0], ai [gf 0] (ai [⟨none, some 7, .call 30 true [.c (vi .i64 64)]⟩, ab 6 7, bk 8 6 0, bk 9 6 1, ab 1 8, ab 2 9] (ai [⟨none,
 some 10, .call 10 false [.c (vi .i64 64)]⟩, ab 3 10] (.seq f12_0 (ai [ab 19 3, kw 20 13 19, ab 18 20, bk 21 18 0, bk 22 18 1, ab 4 21,
 ab 5 22] (ai [ab 23 1, Cs 24 23 16, ab 25 24, gq 25 26 2, Wa 25 27 26 5, lh 28 25 27, ab 29 28, gq 29 30 5, agy 29 31 30, lh 32 29 31,
 ab 33 32, gq 33 34 4, Jn 33 35 20 34, Wa 33 36 35 2, lh 37 33 36, ab 38 37, gq 38 39 4, Jn 38 40 16 39, Mt 38 41 40, Wa 38 42 41 0, lh 43 38 42,
 ab 44 43, gq 44 45 4, ⟨some (44, true), some 46, .build [.cv (.sc (.string ⟨#[]⟩)), .cv (.sc (.slice none 0 0)), .cv (.sc (.bool false))] [(0, (1,
 .c (.cv (.sc (.string ⟨#[97]⟩)))))]⟩, ah7 44 47 46, ⟨some (44, true), some 48, .call 14 false [.t 45, .t 47]⟩, agy 44 49 48, lh 50 44 49, ab 51 50, gq 51 52 4,
 Jn 51 53 16 52, Mt 51 54 53, Wa 51 55 54 1, lh 56 51 55, ab 0 56] .ret)))))⟩
def f13_0 : IR := ai [ab 17 0, kw 18 29 17, qn 19 18 64] (cz 19 (ai [Hg, dq 3 20] .ret) .skip)
def f13_1 : IR := ai [ab 26 5, oy 27 26] (cz 27 (ai [Hg, dq 3 11] .ret) .skip)
def f13_2 : IR := ai [ab 35 7, Cw 36 35] (cz 36 (ai [ab 37 7, Hg, ab 3 37] .ret) .skip)
def f13_3 : IR := cz 57 .skip (.exit 0)
def f13_4 : IR := ai [kk 57 56 55] (.seq f13_3 (.seq (.block 1 (ai [jf 58 1 54 56, az 59 58, ab 13 59] (.reg [ab 60 6, ab 61 13, Cu 62 39 60 61,
 ab 6 62]))) (.reg [gi 63 56 1, ab 56 63])))
def f13 : FnIR := ⟨87, [.t 2, .t 3], ai [Hg, dq 3 0] (.seq f13_0 (ai [ab 21 0, Ks 22 21, kw 23 35 22, ab 20 23, bk 24 20 0, bk 25 20 1, Kh 4,
 co 3 4 24, ab 5 25] (.seq f13_1 (ai [ab 29 0, Ks 30 29, jd 31 3 4, wh 32 36 30 31, ab 28 32, bk 33 28 0, bk 34 28 1, ab 6 33,
 ab 7 34] (.seq f13_2 (ai [ab 39 0, kw 40 29 39, iy 41 30 40, ab 38 41, bk 42 38 0, bk 43 38 1, ab 8 42, ab 9 43] (.seq (.draw [(bt 45 0 4,.p),
 (az 46 45, zq), (ab 47 0,.p), (Ks 48 47,.p), (ab 49 8,.p), (⟨none, some 50, .call 38 false [.t 48, .c (vi .i64 2), .t 49]⟩, .k), (Cu 51 37 46 50,.k),
 (ab 44 51,.p), (bk 52 44 0,.p), (bk 53 44 1,.p), (ab 10 52,.p), (ab 11 53,.p)]) (.seq (ai [ab 54 10, df 55 54,
 ce 56 0] (.block 0 (.loop f13_4))) (.seq (ai [ab 65 0, Ks 66 65, ab 67 6, wh 68 33 66 67, ab 64 68, bk 69 64 0, bk 70 64 1, ab 14 69,
 ab 15 70] (.block 2 (ai [ab 72 15, oy 73 72, ab 71 73] (cz 71 (ai [Hg, dq 3 21] .ret) (ai [bt 75 0 4, az 76 75, Cs 77 76 1073741824,
 ab 74 77] (cz 74 (ai [Hg, dq 3 32] .ret) .skip)))))) (ai [ab 78 0, Ks 79 78, ab 80 6, jd 81 3 4, ⟨none, some 82, .build [.cv (.sc .nilIface),
 .cv (.sc (.slice none 0 0)), .cv (.sc (.int .i64 0)), .cv (.sc (.int .i64 0)), .cv (.sc (.int .i64 0)), .cv (.sc (.int .i64 0)), .cv (.sc (.int .i64 0))] [(0, (1, .t 79)), (1, (1,
 .t 80)), (2, (3, .t 81))]⟩, tj 83 7 82, ab 16 83] (ai [ab 84 16, ab 85 16, kw 86 15 85, ab 2 84, ab 3 86] .ret)))))))))))⟩
def f14_0 : IR := ai [ab 63 9, oy 64 63, ab 65 64, gp 65 66 11, Sk 65 67 66, km 68 65 67, ab 69 68, gp 69 70 10, Cv 69 71 70, gp 69 72 6,
 afc 69 73 71 72, km 74 69 73] (cz 74 (ai [dq 4 21] .ret) .skip)
def f14_1 : IR := ai [ab 75 0, er 76 75, bt 77 5 76, az 78 77, ab 79 10, df 80 79, na 81 78 80, ab 82 6, Th 83 81 82] (cz 83 (.seq (ai [ab 84 0,
 kw 85 15 84, ab 12 85] (ai [ab 86 12, Cw 87 86] (cz 87 (ai [ab 88 12, ab 4 88] .ret) .skip))) (.draw [(ab 90 0,.p), (er 91 90,.p), (bt 92 2 91,.p),
 (bt 93 0 92,.p), (az 94 93, .r 0 0), (ab 95 0,.p), (er 96 95,.p), (bt 97 6 96,.p), (az 98 97, .r 0 0), (ab 99 1,.p), (ae3 100 19 94 98 99, .r 0 0),
 (ab 89 100,.p), (bk 101 89 0,.p), (bk 102 89 1,.p), (ab 10 101,.p)])) .skip)
def f14_2 : IR := cz 106 .skip (.exit 1)
def f14_3 : IR := ai [kk 106 105 104] (.seq f14_2 (.seq (.block 2 (ai [ab 107 105, jf 108 1 103 105, az 109 108, ab 13 107,
 ab 14 109] (.draw [(ab 110 0,.p), (er 111 110,.p), (bt 112 0 111,.p), (az 113 112, .r 0 0), (ab 114 0,.p), (er 115 114,.p), (bt 116 5 115,.p),
 (az 117 116, .r 0 0), (Cn 118 2 117,.p), (ab 119 13,.p), (na 120 118 119,.p), (ab 121 14,.p), (er 122 113,.p), (ab 123 113,.p),
 (aei 124 123 120 121,.k)]))) (.reg [gi 125 105 1, ab 105 125])))
def f14 : FnIR := ⟨152, [.t 4], ai [dq 4 0] (.seq (.block 0 (ai [ab 16 0, Jz 17 16, ab 15 17] (cz 15 (ai [dq 4 30] .ret) (ai [ab 19 1, df 20 19,
 Cs 21 20 0, ab 18 21] (cz 18 (ai [dq 4 0] .ret) (ai [ab 23 1, ⟨none, some 24, .call 40 true [.t 23, .c (.func 41 [])]⟩,
 ab 22 24] (cz 22 (ai [dq 4 3] .ret) .skip))))))) (ai [ab 25 0, er 26 25, bt 27 1 26, az 28 27, ab 29 1, Cu 30 39 28 29, ab 5 30] (ai [ab 32 0,
 er 33 32, bt 34 0 33, az 35 34, aa2 36 35, iy 37 30 36, ab 31 37, bk 38 31 0, bk 39 31 1, ab 6 38, ab 7 39] (ai [ab 41 0, er 42 41,
 bt 43 0 42, az 44 43, ab 45 5, wh 46 33 44 45, ab 40 46, bk 47 40 0, bk 48 40 1, ab 8 47, ab 9 48] (.seq (.draw [(ab 50 0,.p), (er 51 50,.p),
 (bt 52 2 51,.p), (bt 53 0 52,.p), (az 54 53, .r 0 0), (ab 55 0,.p), (er 56 55,.p), (bt 57 6 56,.p), (az 58 57, .r 0 0), (ab 59 1,.p), (ae3 60 19 54 58 59,
 .r 0 0), (ab 49 60,.p), (bk 61 49 0,.p), (bk 62 49 1,.p), (ab 10 61,.p), (ab 11 62,.p)]) (.seq f14_0 (.seq f14_1 (.seq (ai [ab 103 10, df 104 103,
 ce 105 0] (.block 1 (.loop f14_3))) (ai [ab 126 0, er 127 126, bt 128 0 127, az 129 128, aez 130 129] (ai [ab 131 0, ab 132 0, ab 133 5, ab 134 0,
 er 135 134, bt 136 5 135, az 137 136, ab 138 10, df 139 138, na 140 137 139, er 141 131, bt 142 1 141, co 1 142 133, er 143 132, bt 144 5 143,
 co 1 144 140] (ai [ab 145 0, er 146 145, bt 147 6 146, az 148 147, gi 149 148 1, er 150 145, bt 151 6 150,
 co 1 151 149] (ai [dq 4 0] .ret))))))))))))⟩
def f15 : FnIR := ⟨54, [.t 2], ai [dq 2 0] (.seq (.block 0 (ai [ab 6 0, Jz 7 6, ab 5 7] (cz 5 (ai [dq 2 30] .ret) (ai [ab 9 0, er 10 9, bt 11 2 10,
 bt 12 0 11, az 13 12, Cs 14 13 1073741824, ab 8 14] (cz 8 (ai [dq 2 32] .ret) .skip))))) (.seq (.draw [(ab 16 0,.p), (er 17 16,.p), (bt 18 0 17,.p),
 (az 19 18, .r 0 0), (ab 20 0,.p), (er 21 20,.p), (bt 22 1 21,.p), (az 23 22, .r 0 0), (wh 24 33 19 23,.k), (ab 15 24,.p), (bk 25 15 0,.p),
 (bk 26 15 1,.p), (ab 3 25,.p), (ab 4 26,.p)]) (.seq (.draw [(ab 27 0,.p), (ab 28 0,.p), (er 29 28,.p), (bt 30 0 29,.p), (az 31 30, .r 0 0), (ab 32 3,.p),
 (ab 33 0,.p), (er 34 33,.p), (bt 35 2 34,.p), (bt 36 1 35,.p), (az 37 36, .r 0 0), (ag5 38 1 37,.p), (ab 39 0,.p), (er 40 39,.p), (bt 41 2 40,.p),
 (bt 42 0 41,.p), (az 43 42, .r 0 0), (gi 44 43 1,.p), (⟨none, some 45, .call 34 false [.t 31, .t 32, .t 38, .t 44]⟩,.k), (er 46 27,.p), (bt 47 2 46,.p),
 (co 3 47 45,.k)]) (ai [ab 48 0, ab 49 0, er 50 48, bt 51 5 50, ahc 51, er 52 49, bt 53 6 52, ahc 53] (ai [dq 2 0] .ret)))))⟩
def f16_0 : IR := ai [ab 3 0, Jz 4 3] (cz 4 (ai [di 2] .ret) .skip)
def f16 : FnIR := ⟨10, [.t 2], ai [di 2] (.seq f16_0 (ai [ab 5 0, er 6 5, bt 7 1 6, az 8 7, iy 9 42 8, ab 2 9] .ret))⟩
def f17 : FnIR := ⟨18, [.t 2, .cell 3 true 6], ai [Hg, Vj 3] (ai [ab 7 0, iy 8 22 7, kw 9 10 8, ab 4 9] (ai [ab 11 0, iy 12 22 11, iy 13 43 12,
 ab 10 13, bk 14 10 0, bk 15 10 1, Vj 5, co 6 5 14, ab 6 15] (.seq (.draw [(ab 16 4,.p), (jd 17 6 5, .r 0 0), (ab 2 16,.p), (co 6 3 17,.k)]) .ret)))⟩
def f18_0 : IR := ai [ab 6 0, df 7 6, ab 8 1, df 9 8, aew 10 7 9] (cz 10 (ai [gf 4] .ret) .skip)
def f18_1 : IR := .seq (ai [ab 11 5, ab 12 0, df 13 12, kk 14 11 13] (cz 14 .skip (.exit 0))) (.seq (.block 1 (.seq (.draw [(ab 17 0,.p), (ab 18 5,.p),
 (jf 19 2 17 18, .r 0 0), (bt 20 0 19,.p), (az 21 20, .r 0 0), (ab 22 1,.p), (ab 23 5,.p), (jf 24 2 22 23, .r 0 0), (bt 25 0 24,.p), (az 26 25, .r 0 0),
 (aew 27 21 26,.p), (ab 28 27,.p), (gp 28 29 0,.p), (gp 28 30 5,.p), (af5 28 31 2 29 30, .r 0 0), (Rz 28 32 1 31,.p), (Ho 28 33 32, .r 0 0), (⟨some (28, false),
 some 34, .cvBS (.t 33)⟩, .r 0 0), (gp 28 35 1,.p), (gp 28 36 5,.p), (af5 28 37 2 35 36, .r 0 0), (Rz 28 38 1 37,.p), (Ho 28 39 38, .r 0 0), (⟨some (28, false),
 some 40, .cvBS (.t 39)⟩, .r 0 0), (⟨some (28, false), some 41, .bin .neq (.t 34) (.t 40)⟩, .p), (km 42 28 41,.p)]) (cz 42 (ai [gf 4] .ret) .skip))) (.reg [ab 15 5,
 gi 16 15 1, ab 5 16]))
def f18 : FnIR := ⟨43, [.t 4], ai [gf 4] (.seq f18_0 (.seq (ai [ce 5 0] (.block 0 (.loop f18_1))) (ai [Cx 4] .ret)))⟩
def f19_0 : IR := ai [ab 16 0, iy 17 47 16, oy 18 17, ab 19 18, gp 19 20 1, ⟨some (19, false), some 21, .call 47 true [.t 20]⟩, Sk 19 22 21, km 23 19 22,
 ab 24 23, gp 24 25 8, Cv 24 26 25, Bx 24 27 26 200, km 28 24 27] (cz 28 (ai [di 6, gf 7] .ret) .skip)
def f19_1 : IR := cz 32 .skip (.exit 0)
def f19_2 : IR := ai [kk 32 31 30] (.seq f19_1 (.seq (.block 1 (ai [ab 33 31, jf 34 1 29 31, az 35 34, ab 10 33, ab 11 35] (.reg [ab 36 9, ab 37 0,
 ab 38 1, ab 39 10, ab 40 8, df 41 40, ab 42 11, ⟨none, some 43, .call 48 true [.t 37, .t 38, .t 39, .t 41, .t 42]⟩, Ra 44 43, Qu 45 36 44,
 ab 9 45]))) (.reg [gi 46 31 1, ab 31 46])))
def f19 : FnIR := ⟨48, [.t 6, .t 7], ai [di 6, gf 7] (ai [ab 12 2, iy 13 46 12, Wu 14 45 13 49, kw 15 44 14,
 ab 8 15] (.seq f19_0 (ai [di 9] (.seq (ai [ab 29 8, df 30 29, ce 31 0] (.block 0 (.loop f19_2))) (ai [ab 47 9, ab 6 47, Cx 7] .ret)))))⟩
def f20_0 : IR := ai [ab 3 0, Jz 4 3] (cz 4 (ai [ce 2 0] .ret) .skip)
def f20 : FnIR := ⟨10, [.t 2], ai [ce 2 0] (.seq f20_0 (ai [ab 5 0, er 6 5, bt 7 2 6, bt 8 0 7, az 9 8, ab 2 9] .ret))⟩
def f22 : FnIR := ⟨8, [.t 2], ai [ce 2 0] (ai [⟨none, some 3, .mksl 1 6 [.cv (.sc (.int .i64 0)), .cv (.sc (.int .i64 0)), .cv (.sc (.int .i64 0)), .cv (.sc (.int .i64 0)),
 .cv (.sc (.int .i64 0)), .cv (.sc (.int .i64 0))] [(0, (1, .c (vi .i64 64))), (1, (1, .c (vi .i64 65))), (2, (1, .c (vi .i64 80))), (3, (1, .c (vi .i64 100))), (4, (1,
 .c (vi .i64 128))), (5, (1, .c (vi .i64 200)))] false⟩, ab 4 0, ab6 5 4 6, jf 6 1 3 5, az 7 6, ab 2 7] .ret)⟩
def f29_0 : IR := ai [ab 3 0, Jz 4 3] (cz 4 (ai [ce 2 0] .ret) .skip)
def f29 : FnIR := ⟨10, [.t 2], ai [ce 2 0] (.seq f29_0 (ai [ab 5 0, er 6 5, bt 7 0 6, az 8 7, df 9 8, ab 2 9] .ret))⟩
def f30_0 : IR := ai [ab 5 0, qn 6 5 64] (cz 6 (ai [ce 2 0, ce 3 0] .ret) .skip)
def f30 : FnIR := ⟨15, [.t 2, .t 3], ai [ce 2 0, ce 3 0] (.seq f30_0 (ai [ab 7 0, ag9 8 7 4, ab 4 8] (ai [ab 9 4, ab 10 0, Yz 11 10 2, ab 12 4,
 Qg 13 11 12, ag9 14 13 8, ab 2 9, ab 3 14] .ret)))⟩
def f31_0 : IR := ai [ab 17 0, kw 18 57 17, oy 19 18] (cz 19 (ai [dq 6 0] .ret) .skip)
def f31 : FnIR := ⟨43, [.t 6], ai [dq 6 0] (.seq (.block 0 (ai [ab 9 0, ab 10 1, wh 11 56 9 10, oy 12 11,
 ab 8 12] (cz 8 (ai [dq 6 20] .ret) (ai [ab 14 2, df 15 14, Ge 16 15 64, ab 13 16] (cz 13 (ai [dq 6 3] .ret) .skip))))) (.seq f31_0 (ai [ab 20 1,
 ⟨none, some 21, .build ((.cv (.sc (.int .i64 0))) :: List.replicate 64 (.cv (.sc (.int .u8 0)))) [(0, (1, .t 20))]⟩, ⟨none, some 7,
 .alloc ((.cv (.sc (.int .i64 0))) :: List.replicate 64 (.cv (.sc (.int .u8 0))))⟩, co 65 7 21] (ai [bt 22 1 7, Ma 23 64 22, ab 24 2,
 Ih 25 1 23 24] (.seq (.draw [(ab 26 0,.p), (ab 27 0,.p), (er 28 27,.p), (bt 29 1 28,.p), (az 30 29, .r 0 0), (jd 31 65 7, .r 0 0), (⟨none, some 32,
 .mksl 65 1 ((.cv (.sc (.int .i64 0))) :: List.replicate 64 (.cv (.sc (.int .u8 0)))) [(0, (65, .t 31))] false⟩, .r 0 0), (⟨none, some 33,
 .app 65 72 ((.sc (.int .i64 0)) :: List.replicate 64 (.sc (.int .u8 0))) (.t 30) (.t 32)⟩, .k), (er 34 26,.p), (bt 35 1 34,.p), (co 1 35 33,.k)]) (ai [ab 36 0,
 er 37 36, bt 38 2 37, az 39 38, ahk 40 39 4607182418800017408 0, er 41 36, bt 42 2 41, co 1 42 40] (ai [dq 6 0] .ret)))))))⟩
def f32_0 : IR := ai [ab 2 0, Jz 3 2, ab 4 3, gp 4 5 0, aal 4 6 57 5, Sk 4 7 6, km 8 4 7] (cz 8 .ret .skip)
def f32 : FnIR := ⟨18, [], .seq f32_0 (ai [ab 9 0, ⟨none, some 10, .call 54 false [.t 9, .c (.func 58 [])]⟩] (.reg [ab 11 0, er 12 11, bt 13 2 12, az 14 13,
 ahk 15 14 0 4607182418800017408, er 16 11, bt 17 2 16, co 1 17 15]))⟩
def f33 : FnIR := ⟨29, [.t 4, .t 5], ai [di 4, gf 5] (ai [ab 11 0, aa2 12 11, iy 13 30 12, ab 10 13, bk 14 10 0, bk 15 10 1, ab 6 14,
 ab 7 15] (ai [ab 17 1, iy 18 59 17, ab 16 18, bk 19 16 0, bk 20 16 1, ab 8 19, ab 9 20] (ai [ab 21 8, ab 22 9, ab 23 22, gq 23 24 8,
 Mt 23 25 24, gq 23 26 7, aer 23 27 25 26, lh 28 23 27, ab 4 21, ab 5 28] .ret)))⟩
def f34_0 : IR := .reg [ab 10 18]
def f34_1 : IR := .block 1 (ai [az 19 4, az 20 9, ab 21 10, aei 22 19 20 21] (.reg [az 23 9, gi 24 23 1, co 1 9 24]))
def f34 : FnIR := ⟨44, [.cell 8 true 3], ai [tj 4 1 0, Kh 8] (ai [az 12 4, ab 13 2, wh 14 60 12 13, ajr, co 1 9 14] (.seq (ai [ab 15 1, iy 16 61 15,
 Wu 17 45 16 64] (.block 0 (.rangeF (.t 17) [18] f34_0 f34_1))) (ai [az 25 4, aez 26 25] (ai [ab 27 3, ab 28 2, ab 29 1, df 30 29, aia 31 27 28 30,
 Kh 11, co 3 11 31] (.seq (.draw [(az 32 4, .r 0 0), (ab 33 3,.p), (aks 34 33 2,.p), (jd 35 3 11, .r 0 0), (iy 36 62 35, .r 0 0), (⟨none, some 37,
 .mkmv "Write" (.t 32)⟩, .p), (⟨none, some 38, .nilckM "Write" [23] (.t 37)⟩, .p), (ab 39 32,.p), (aei 40 39 34 36,.k)]) (ai [az 41 4, aez 42 41] (ai [jd 43 3 11,
 co 3 8 43] .ret)))))))⟩
def f35_0 : IR := ai [ab 18 7, ab 19 18, gq 19 20 5, ⟨some (19, true), some 21, .un .not (.t 20)⟩, gq 19 22 21, Rz 22 23 0 6, Ho 22 24 23, Rz 22 25 0 4,
 Ho 22 26 25, afc 22 27 24 26, ai9 19 28 22 27, lh 29 19 28] (cz 29 (ai [jd 30 3 6, co 3 2 30, Cx 3] .ret) .skip)
def f35 : FnIR := ⟨33, [.cell 2 true 3, .t 3], ai [Kh 2, gf 3] (ai [ab 9 0, Wu 10 63 9 0, ab 8 10, bk 11 8 0, bk 12 8 1, Kh 4, co 3 4 11,
 ab 5 12] (ai [ab 14 0, Wu 15 63 14 1, ab 13 15, bk 16 13 0, bk 17 13 1, Kh 6, co 3 6 16, ab 7 17] (.seq f35_0 (ai [jd 31 3 4, ab 32 5,
 co 3 2 31, ab 3 32] .ret))))⟩
def f36 : FnIR := ⟨23, [.t 4, .t 5], ai [tj 3 3 1, di 4, dq 5 0] (.seq (.draw [(ab 7 0,.p), (ab 8 0,.p), (bt 9 1 3,.p), (az 10 9, .r 0 0),
 (wh 11 60 8 10,.k), (bt 12 2 3,.p), (az 13 12, zq), (ake 14 13,.p), (aa8 15 38 7 11 14,.k), (iy 16 61 15,.k), (ab 6 16,.p)]) (ai [ab 17 6,
 Wu 18 45 17 256, kw 19 44 18, iy 20 64 19, bk 21 20 0, bk 22 20 1, ab 4 21, ab 5 22] .ret))⟩
def f37_0 : IR := ai [ab 22 9, Cs 23 22 0] (cz 23 (.exit 0) .skip)
def f37_1 : IR := .seq (ai [ab 10 0, iy 11 47 10] (cz 11 .skip (.exit 0))) (.block 1 (ai [ab 13 0, ab 14 6, df 15 14, ab 16 1, ab 17 7, vq 18 1 16 17,
 aa8 19 65 13 15 18, ab 12 19, bk 20 12 0, bk 21 12 1, ab 8 20, ab 9 21] (.seq f37_0 (.reg [ab 24 6, ab 25 8, Ra 26 25, Qu 27 24 26, ab 28 7,
 ab 29 9, na 30 28 29, ab 6 27, ab 7 30]))))
def f37 : FnIR := ⟨33, [.t 4, .t 5], ai [di 4, ce 5 0] (ai [di 6] (ai [ce 7 0] (.seq (.block 0 (.loop f37_1)) (ai [ab 31 6, ab 32 7, ab 4 31,
 ab 5 32] .ret))))⟩
def f38_0 : IR := cz 13 .skip (.exit 0)
def f38_1 : IR := ai [kk 13 12 11] (.seq f38_0 (.seq (.block 1 (ai [ab 14 12, ab 8 14] (ai [ab 16 0, ab 17 1, ab 18 8, na 19 17 18, ⟨none, some 20,
 .inv [(23, 119)] (.t 16) [.t 19]⟩, ab 15 20, bk 21 15 0, bk 22 15 1, ab 9 21, ab 10 22] (.reg [ab 23 7, ab 24 9, Ra 25 24, Qu 26 23 25,
 ab 7 26])))) (.reg [gi 27 12 1, ab 12 27])))
def f38 : FnIR := ⟨29, [.t 6], ai [di 6] (ai [di 7] (.seq (ai [ab 11 2, ce 12 0] (.block 0 (.loop f38_1))) (ai [ab 28 7, ab 6 28] .ret)))⟩
def f39_0 : IR := cz 14 .skip (.exit 0)
def f39_1 : IR := ai [bt 20 2 7, az 21 20] (cz 21 (.exit 1) .skip)
def f39_2 : IR := ai [ab 25 8, qn 26 25 0] (cz 26 (.reg [ab 27 5, df 28 27, ab 8 28]) .skip)
def f39_3 : IR := ai [kk 14 13 12] (.seq f39_0 (.seq (.block 1 (ai [jf 15 3 11 13, jd 16 3 15, aa9 7, co 3 7 16] (ai [ab 17 5, ae9 18 68 7,
 wh 19 67 17 18, ab 5 19] (.seq f39_1 (ai [ab 22 5, ae9 23 69 7, wh 24 50 22 23, ab 8 24] (.seq f39_2 (.draw [(ab 29 5,.p), (ab 30 8,.p), (bt 31 0 7,.p),
 (az 32 31, .r 0 0), (bt 33 1 7,.p), (az 34 33, .r 0 0), (iy 35 52 34, .r 0 0), (ajg 36 32 35,.p), (agr 37 36, .r 0 0), (aa8 38 70 29 30 37,.k),
 (ab 5 38,.p)]))))))) (.reg [gi 39 13 1, ab 13 39])))
def f39 : FnIR := ⟨41, [.t 4], ai [di 4] (ai [ab 9 0, kw 10 66 9, ab 5 10] (.seq (ai [ab 11 1, df 12 11,
 ce 13 0] (.block 0 (.loop f39_3))) (ai [ab 40 5, ab 4 40] .ret)))⟩
def f40 : FnIR := ⟨9, [.t 4], ai [gf 4] (ai [ab 5 0, ab 6 1, Cu 7 71 5 6, To 8 7 0, ab 4 8] .ret)⟩
def f41 : FnIR := ⟨13, [.t 2], ai [tj 1 3 0, gf 2] (ai [bt 3 0 1, az 4 3, ag1 5 4, Ge 6 5 30, ab 7 6, Rz 7 8 1 1, Ho 7 9 8, Cv 7 10 9,
 Bx 7 11 10 150, km 12 7 11, ab 2 12] .ret)⟩
def f42_0 : IR := cz 11 .skip (.exit 0)
def f42_1 : IR := ai [kk 11 10 9] (.seq f42_0 (.seq (.block 1 (ai [ab 12 10, jf 13 2 8 10, jd 14 2 13, Kq 5, ab 4 12, co 2 5 14] (.reg [ab 15 3,
 ab 16 4, bt 17 1 5, az 18 17, iy 19 52 18, jf 20 2 15 16, bt 21 1 20, co 1 21 19]))) (.reg [gi 22 10 1, ab 10 22])))
def f42 : FnIR := ⟨24, [.t 2], ai [di 2] (ai [ab 6 0, kw 7 66 6, ab 3 7] (.seq (ai [ab 8 3, df 9 8, ce 10 0] (.block 0 (.loop f42_1))) (ai [ab 23 3,
 ab 2 23] .ret)))⟩
def f43_0 : IR := ai [ab 6 0, qn 7 6 0, ab 8 7, gp 8 9 0, Bx 8 10 9 4096, km 11 8 10] (cz 11 (ai [aj5 12, co 6 2 12, gf 3] .ret) .skip)
def f43_1 : IR := .seq (ai [ab 14 5, ab 15 0, kk 16 14 15] (cz 16 .skip (.exit 0))) (.seq (.block 1 (.draw [(bt 19 0 4,.p), (az 20 19, .r 0 0), (⟨none, some 21,
 .mks 1 1 [.sc (.int .u8 0)] (.c (vi .i64 64)) (.c (vi .i64 64)) false⟩, .p), (Ra 22 21, .r 0 0), (Qu 23 20 22,.k), (bt 24 0 4,.p), (co 1 24 23,.k)])) (.reg [ab 17 5,
 gi 18 17 1, ab 5 18]))
def f43 : FnIR := ⟨26, [.cell 2 true 6, .t 3], ai [Vj 2, gf 3] (.seq f43_0 (ai [aj5 13, Vj 4,
 co 6 4 13] (.seq (ai [ce 5 0] (.block 0 (.loop f43_1))) (ai [jd 25 6 4, co 6 2 25, Cx 3] .ret))))⟩
def f44 : FnIR := ⟨5, [.t 2], ai [di 2] (ai [ab 3 0, ai1 4 72 3, ab 2 4] .ret)⟩
def f45_0 : IR := ai [az 5 3, qn 6 5 1] (cz 6 (.reg [⟨none, some 7, .mkif 9 (.c (.cv (.sc (.string ⟨#[99, 97, 110, 110, 111, 116, 32, 98, 101, 32, 108, 101, 115, 115, 32,
 116, 104, 97, 110, 32, 49]⟩))))⟩, aeh 7]) .skip)
def f45 : FnIR := ⟨9, [.t 4], ai [tj 2 1 0, tj 3 1 1, ah8 4] (.seq f45_0 (ai [⟨none, some 8, .mkfn 73 [.t 2, .t 3]⟩, ab 4 8] .ret))⟩
def f46_0 : IR := cz 12 .skip (.exit 0)
def f46_1 : IR := ai [bt 20 2 5, az 21 20] (cz 21 (ai [ab 22 3, ald 23 1, xu 24 22 23, ab 3 24] (.exit 1)) .skip)
def f46_2 : IR := ai [kk 12 11 10] (.seq f46_0 (.seq (.block 1 (ai [jf 13 3 9 11, jd 14 3 13, aa9 5, co 3 5 14] (ai [ab 15 3, bt 16 0 5, az 17 16,
 iy 18 75 17, xu 19 15 18, ab 3 19] (.seq f46_1 (ai [ab 25 3, ald 26 0, xu 27 25 26, ab 3 27] (.reg [ab 28 3, bt 29 1 5, az 30 29, Sc 31 30,
 iy 32 75 31, xu 33 28 32, ab 3 33])))))) (.reg [gi 34 11 1, ab 11 34])))
def f46 : FnIR := ⟨36, [.t 2], ai [di 2] (ai [ab 6 0, df 7 6, kw 8 74 7, ab 3 8] (.seq (ai [ab 9 0, df 10 9,
 ce 11 0] (.block 0 (.loop f46_2))) (ai [ab 35 3, ab 2 35] .ret)))⟩
def f47 : FnIR := ⟨9, [.t 2], ai [gf 2] (ai [ab 3 0, To 4 3 0, ab 5 4, gq 5 6 0, agq 5 7 6 1073741824, lh 8 5 7, ab 2 8] .ret)⟩
def f48 : FnIR := ⟨33, [.t 10], ai [di 10] (ai [⟨none, some 11, .alloc (List.replicate 60 (.cv (.sc (.int .u8 0))))⟩] (ai [Ma 12 60 11, ab 13 0,
 wh 14 76 12 13] (ai [ajd 15 4, ab 16 1, wh 17 76 15 16] (ai [ab 18 2, oi 19 18, ab 20 3, oi 21 20, ab 22 4, df 23 22, oi 24 23,
 Ik 25 60 11 8, co 1 25 19, Ik 26 60 11 9, co 1 26 21, Ik 27 60 11 10, co 1 27 24] (ai [ajd 28 11, ab 29 4, Ih 30 1 28 29] (ai [Ma 31 60 11,
 iy 32 77 31, ab 10 32] .ret))))))⟩
def f50_0 : IR := cz 9 .skip (.exit 0)
def f50_1 : IR := ai [kk 9 8 7] (.seq f50_0 (.seq (.block 1 (ai [ab 10 8, ab 5 10] (ai [ab 11 1, ab 12 0, ab 13 5, jf 14 2 12 13, jd 15 2 14,
 Tr 16 11 15] (cz 16 (ai [ab 17 5, ab 4 17] .ret) .skip)))) (.reg [gi 18 8 1, ab 8 18])))
def f50 : FnIR := ⟨19, [.t 4], ai [ce 4 0] (.seq (ai [ab 6 0, df 7 6, ce 8 0] (.block 0 (.loop f50_1))) (ai [ce 4 (-1)] .ret))⟩
def f52_0 : IR := ai [ab 3 0, ah9] (cz 4 (ai [di 2] .ret) .skip)
def f52 : FnIR := ⟨8, [.t 2], ai [di 2] (.seq f52_0 (ai [⟨none, some 5, .mksl 1 0 [] [] false⟩, ab 6 0, xu 7 5 6, ab 2 7] .ret))⟩
def f53 : FnIR := ⟨14, [.t 2], ai [gf 2] (ai [ab 3 0, er 4 3, bt 5 3 4, az 6 5, ab 7 6, gq 7 8 0, ⟨some (7, true), some 9, .nilck (.t 8)⟩, Ia 7 10 4 9,
 Iz 7 11 10, Wa 7 12 11 0, lh 13 7 12, ab 2 13] .ret)⟩
def f54_0 : IR := cz 12 .skip (.exit 0)
def f54_1 : IR := ai [kk 12 11 10] (.seq f54_0 (.seq (.block 1 (ai [ab 13 11, jf 14 65 9 11, jd 15 65 14, ⟨none, some 5,
 .alloc ((.cv (.sc (.int .i64 0))) :: List.replicate 64 (.cv (.sc (.int .u8 0))))⟩, ab 4 13, co 65 5 15] (ai [ab 16 1, ab 17 4,
 Tr 18 16 17] (cz 18 (.draw [(ab 19 0,.p), (er 20 19,.p), (bt 21 0 20,.p), (az 22 21, .r 0 0), (bt 23 0 5,.p), (az 24 23, .r 0 0), (bt 25 1 5,.p),
 (jd 26 64 25, .r 0 0), (jf 27 64 22 24, .r 0 0), (co 64 27 26,.k)]) .skip)))) (.reg [gi 28 11 1, ab 11 28])))
def f54 : FnIR := ⟨32, [], .seq (ai [ab 6 0, er 7 6, bt 8 1 7, az 9 8, df 10 9, ce 11 0] (.block 0 (.loop f54_1))) (.reg [ab 29 0, er 30 29, bt 31 1 30,
 ah3 31])⟩
def f56 : FnIR := ⟨13, [.t 4], ai [gf 4] (ai [ab 5 1, To 6 5 0, ab 7 6, gq 7 8 1, gq 7 9 0, Jn 7 10 29 9, ⟨some (7, true), some 11,
 .bin .lss (.t 8) (.t 10)⟩, lh 12 7 11, ab 4 12] .ret)⟩
def f57_0 : IR := ai [ab 3 0, kw 4 53 3] (cz 4 (ai [gf 2] .ret) .skip)
def f57 : FnIR := ⟨12, [.t 2], ai [gf 2] (.seq f57_0 (ai [ab 5 0, er 6 5, bt 7 4 6, az 8 7, Yz 9 8 1, er 10 5, bt 11 4 10,
 co 1 11 9] (ai [Cx 2] .ret)))⟩
def f58 : FnIR := ⟨3, [.t 2], ai [gf 2] (ai [Cx 2] .ret)⟩
def f59_0 : IR := ai [ab 8 0, iy 9 78 8, oy 10 9, ab 11 10, gp 11 12 0, Cv 11 13 12, Bx 11 14 13 5000, km 15 11 14] (cz 15 (ai [di 2,
 gf 3] .ret) .skip)
def f59_1 : IR := .seq (ai [ab 18 5, ⟨none, some 19, .bin .leq (.t 18) (.c (vi .i64 4))⟩] (cz 19 .skip (.exit 0))) (.seq (.block 1 (ai [ab 23 4, ab 24 5, ab 25 0,
 aa8 26 79 23 24 25, ab 22 26, bk 27 22 0, bk 28 22 1, ab 6 27, ab 7 28] (.seq (.block 2 (ai [ab 30 7, oy 31 30,
 ab 29 31] (cz 29 (.exit 0) (ai [ab 33 6, df 34 33, Cs 35 34 1, ab 32 35] (cz 32 (ai [ab 36 4, er 37 36, bt 38 0 37, az 39 38, ab 2 39,
 Cx 3] .ret) .skip))))) (.reg [ab 40 6, ab 0 40])))) (.reg [ab 20 5, gi 21 20 1, ab 5 21]))
def f59_2 : IR := .seq f59_0 (ai [⟨none, some 16, .build [.cv (.sc (.slice none 0 0))] []⟩, tj 17 1 16,
 ab 4 17] (.seq (.label 0) (.seq (ai [ce 5 0] (.block 0 (.loop f59_1))) (ai [di 2, gf 3] .ret))))
def f59 : FnIR := ⟨41, [.t 2, .t 3], ai [di 2, gf 3] (.scope f59_2)⟩
def f60 : FnIR := ⟨20, [.t 4], ai [ce 4 0] (ai [ab 8 0, aa2 9 8, iy 10 30 9, ab 7 10, bk 11 7 0, bk 12 7 1, ab 5 11, ab 6 12] (ai [ab 13 5,
 Cn 14 2 13, ab 15 1, ab 16 6, ⟨none, some 17, .bin .mul (.t 15) (.t 16)⟩, ake 18 17, na 19 14 18, ab 4 19] .ret))⟩
def f61_0 : IR := cz 12 .skip (.exit 0)
def f61_1 : IR := ai [kk 12 11 10] (.seq f61_0 (.seq (.block 1 (ai [jf 13 1 9 11, az 14 13, ab 5 14] (ai [ab 15 3, ab 16 5, df 17 16, na 18 15 17,
 ab 3 18] (ai [ab 19 3, qn 20 19 0] (cz 20 (.reg [⟨none, some 21, .mkif 9 (.c (.cv (.sc (.string ⟨#[108, 101, 110, 32, 111, 117, 116, 32, 111, 102, 32, 114, 97, 110,
 103, 101]⟩))))⟩, aeh 21]) .skip))))) (.reg [gi 22 11 1, ab 11 22])))
def f61_2 : IR := cz 28 .skip (.exit 2)
def f61_3 : IR := ai [kk 28 27 26] (.seq f61_2 (.seq (.block 3 (ai [jf 29 1 25 27, az 30 29, ab 8 30] (.reg [ab 31 6, ab 32 8, xu 33 31 32,
 ab 6 33]))) (.reg [gi 34 27 1, ab 27 34])))
def f61 : FnIR := ⟨36, [.t 2], ai [di 2] (ai [ce 3 0] (.seq (ai [ab 9 0, df 10 9, ce 11 0] (.block 0 (.loop f61_1))) (ai [ab 23 3, ai1 24 80 23,
 ab 6 24] (.seq (ai [ab 25 0, df 26 25, ce 27 0] (.block 2 (.loop f61_3))) (ai [ab 35 6, ab 2 35] .ret)))))⟩
def f62_0 : IR := cz 8 .skip (.exit 0)
def f62_1 : IR := ai [qn 8 7 4] (.seq f62_0 (.seq (.block 1 (ai [ab 9 7, ab 4 9] (.reg [ab 10 4, Cn 11 2 10, bt 12 0 1, az 13 12, ab 14 4, adz 15 8 14,
 ag5 16 24 15, ⟨none, some 17, .bin .shr (.t 13) (.t 16)⟩, oi 18 17, Zw 19 60 3 11, co 1 19 18]))) (.reg [gi 20 7 1, ab 7 20])))
def f62 : FnIR := ⟨36, [.t 2], ai [tj 1 3 0, di 2] (ai [⟨none, some 3, .alloc (List.replicate 60 (.cv (.sc (.int .u8 0))))⟩] (ai [Ma 5 60 3, ⟨none, some 6,
 .cpy 1 (.t 5) (.c (.cv (.sc (.string ⟨#[82, 83]⟩))))⟩] (.seq (ai [ce 7 0] (.block 0 (.loop f62_1))) (.seq (.draw [(bt 21 1 1,.p), (az 22 21, .r 0 0), (oi 23 22,.p),
 (bt 24 2 1,.p), (az 25 24, zq), (Lu 26 25 8,.p), (oi 27 26,.p), (bt 28 2 1,.p), (az 29 28, .r 0 2), (oi 30 29,.p), (Ik 31 60 3 6,.p), (co 1 31 23,.k),
 (Ik 32 60 3 7,.p), (co 1 32 27,.k), (Ik 33 60 3 8,.p), (co 1 33 30,.k)]) (ai [Ma 34 60 3, iy 35 77 34, ab 2 35] .ret)))))⟩
def f63_0 : IR := ai [ab 18 7, Cw 19 18] (cz 19 (ai [⟨none, some 20, .build [.cv (.sc (.int .i64 0)), .cv (.sc (.int .i64 0)), .cv (.sc (.int .i64 0))] []⟩,
 co 3 4 20, gf 5] .ret) .skip)
def f63 : FnIR := ⟨96, [.cell 4 true 3, .t 5], ai [Kh 4, gf 5] (ai [ab 13 0, ab 14 1, ⟨none, some 15, .inv [(23, 119)] (.t 13) [.t 14]⟩, ab 12 15, bk 16 12 0,
 bk 17 12 1, ab 6 16, ab 7 17] (.seq f63_0 (.seq (.draw [(ab 21 6,.p), (xe 22 1 21 2, zq), (az 23 22, zq), (tg 24 23,.p), (Zo 25 24 24,.p),
 (ab 26 6,.p), (xe 27 1 26 3, zq), (az 28 27, zq), (tg 29 28,.p), (Zo 30 29 16,.p), (Wf 31 25 30,.p), (ab 32 6,.p), (xe 33 1 32 4, zq), (az 34 33,
 zq), (tg 35 34,.p), (Zo 36 35 8,.p), (Wf 37 31 36,.p), (ab 38 6,.p), (xe 39 1 38 5, zq), (az 40 39, zq), (tg 41 40,.p), (Wf 42 37 41,.p),
 (ab 43 6,.p), (xe 44 1 43 6, zq), (az 45 44, zq), (tg 46 45,.p), (ab 47 6,.p), (xe 48 1 47 7, zq), (az 49 48, zq), (tg 50 49,.p),
 (Zo 51 50 8,.p), (ab 52 6,.p), (xe 53 1 52 8, zq), (az 54 53, zq), (tg 55 54,.p), (Wf 56 51 55,.p), (aia 57 42 46 56,.p), (Kh 8,.k),
 (co 3 8 57,.k)]) (ai [ab 59 0, aa2 60 59, iy 61 30 60, ab 58 61, bk 62 58 0, bk 63 58 1, ab 9 62, ab 10 63] (ai [bt 64 0 8, az 65 64,
 To 66 65 1, ab 67 66, Ia 67 68 0 8, Iz 67 69 68, agq 67 70 69 1073741824, lh 71 67 70, ab 72 71, Ia 72 73 1 8, Iz 72 74 73, agq 72 75 74 1,
 lh 76 72 75, ab 77 76, Ia 77 78 2 8, Iz 77 79 78, ⟨some (77, true), some 80, .bin .geq (.t 79) (.c (vi .i64 1))⟩, lh 81 77 80, ab 82 81, Ia 82 83 2 8,
 Iz 82 84 83, gq 82 85 10, aer 82 86 84 85, lh 87 82 86, ab 11 87] (.seq (.draw [(jd 88 3 8, .r 0 0), (ab 89 11,.p), (ab 90 89,.p), (⟨some (90, true),
 some 91, .ld true 3 (.t 8)⟩, .r 0 0), (⟨some (90, true), some 92, .call 62 true [.t 91]⟩, .r 0 0), (gq 90 93 6,.p), (ae2 90 94 1000081 92 93, .r 0 0), (lh 95 90 94,.p),
 (co 3 4 88,.k), (ab 5 95,.p)]) .ret))))))⟩
def f64_0 : IR := cz 15 .skip (.exit 0)
def f64_1 : IR := ai [ab 24 9, Cw 25 24] (cz 25 (ai [ab 26 9, di 2, ab 3 26] .ret) .skip)
def f64_2 : IR := ai [kk 15 14 13] (.seq f64_0 (.seq (.block 1 (ai [jf 16 1 12 14, az 17 16, ab 6 17] (ai [ab 19 6, iy 20 82 19, ab 18 20, bk 21 18 0,
 bk 22 18 1, bk 23 18 2, ab 7 21, ab 8 22, ab 9 23] (.seq f64_1 (ai [ab 27 7, Cs 28 27 0] (cz 28 (.reg [ab 29 4, ab 30 8, Tb 31 29 30,
 ab 4 31]) .skip)))))) (.reg [gi 32 14 1, ab 14 32])))
def f64 : FnIR := ⟨47, [.t 2, .t 3], ai [di 2, dq 3 0] (ai [di 4] (.seq (ai [ab 12 0, df 13 12, ce 14 0] (.block 0 (.loop f64_2))) (.seq (ai [ab 34 4,
 iy 35 59 34, ab 33 35, bk 36 33 0, bk 37 33 1, ab 10 36, ab 11 37] (ai [ab 38 11, oy 39 38, ab 40 39, gp 40 41 10, gp 40 42 0, ⟨some (40, false),
 some 43, .call 83 true [.t 41, .t 42, .c (.func 81 [])]⟩, Sk 40 44 43, km 45 40 44] (cz 45 (ai [di 2, dq 3 11] .ret) .skip))) (ai [ab 46 4, ab 2 46,
 dq 3 0] .ret))))⟩
def f65_0 : IR := ai [ab 15 11, ab 16 2, df 17 16, Kd 18 15 17, ab 19 18, gp 19 20 2, gp 19 21 11, af5 19 22 1 20 21, Ho 19 23 22, Cv 19 24 23,
 ⟨some (19, false), some 25, .bin .neq (.t 24) (.c (vi .i64 64))⟩, km 26 19 25] (cz 26 (.goto 0) .skip)
def f65_1 : IR := ai [ab 35 11, Cs 36 35 0] (cz 36 (.reg [ab 37 13, xe 38 1 37 9, az 39 38, tg 40 39, ab 12 40]) .skip)
def f65_2 : IR := ai [ab 41 14, qn 42 41 1, ab 43 42, gp 43 44 14, Bx 43 45 44 49, km 46 43 45, ab 47 46, gp 47 48 12, ⟨some (47, false), some 49,
 .bin .lss (.t 48) (.c (vi .i64 1))⟩, km 50 47 49, ab 51 50, gp 51 52 12, Bx 51 53 52 200, km 54 51 53, ab 55 54, gp 55 56 11, gp 55 57 12, ⟨some (55,
 false), some 58, .bin .sub (.t 57) (.c (vi .i64 1))⟩, ⟨some (55, false), some 59, .bin .lss (.t 56) (.t 58)⟩, gp 55 60 59, gq 60 61 14, ⟨some (60, true), some 62,
 .bin .lss (.t 61) (.c (vi .i64 49))⟩, aju 55 63 60 62, km 64 55 63] (cz 64 (.goto 0) .skip)
def f65_3 : IR := ai [ab 65 0, ab 66 1, ab 67 11, ab 68 12, ab 69 13, ab 70 14, Cn 71 11 70, ail 72 69 71, ⟨none, some 73, .call 48 true [.t 65, .t 66,
 .t 67, .t 68, .t 72]⟩, ab 74 13, Cu 75 81 73 74, oy 76 75] (cz 76 (.goto 0) .skip)
def f65_4 : IR := ai [di 8] (ai [di 9] (ai [dq 10 0] (ai [ce 11 0, ce 12 1] (.seq (.label 1) (.seq f65_0 (.seq (ai [ab 27 2, ab 28 11,
 jf 29 1 27 28, az 30 29, ab 13 30] (ai [ab 31 13, xe 32 1 31 10, az 33 32, tg 34 33, ab 14 34] (.seq f65_1 (.seq f65_2 (.seq f65_3 (.reg [ab 77 8,
 ab 78 13, ab 79 14, Cn 80 11 79, ail 81 78 80, xu 82 77 81, ab 8 82])))))) (.seq (ai [ab 83 11, gi 84 83 1, ab 11 84] (ai [ab 85 11, ab 86 12,
 kk 87 85 86] (cz 87 (.goto 1) .skip))) (.seq (ai [ab 89 8, iy 90 84 89, ab 88 90, bk 91 88 0, bk 92 88 1, ab 9 91, ab 10 92] (ai [ab 93 10,
 Tc 94 93] (cz 94 (ai [ab 95 9, ab 96 12, ab 6 95, ab 7 96] .ret) .skip))) (.seq (.label 0) (ai [di 6, ce 7 0] .ret))))))))))
def f65 : FnIR := ⟨97, [.t 6, .t 7], ai [di 6, ce 7 0] (.scope f65_4)⟩
def f66_0 : IR := ai [ab 3 0, ah9] (cz 4 (ai [di 2] .ret) .skip)
def f66 : FnIR := ⟨8, [.t 2], ai [di 2] (.seq f66_0 (ai [⟨none, some 5, .mksl 2 0 [] [] false⟩, ab 6 0, Tb 7 5 6, ab 2 7] .ret))⟩
def f67_0 : IR := ai [ab 11 5, Cs 12 11 (-1)] (cz 12 (ai [ab 13 0, ab 4 13] .ret) .skip)
def f67_1 : IR := .seq (ai [ab 16 6, ab 17 0, df 18 17, kk 19 16 18] (cz 19 .skip (.exit 0))) (.seq (.block 1 (ai [ab 22 0, ab 23 6, jf 24 2 22 23,
 jd 25 2 24, Kq 7, co 2 7 25] (ai [ab 26 1, jd 27 2 7, Tr 28 26 27, oy 29 28] (cz 29 (ai [ab 30 0, ab 31 5, jd 32 2 7, jf 33 2 30 31,
 co 2 33 32] (.reg [ab 34 5, gi 35 34 1, ab 5 35])) .skip)))) (.reg [ab 20 6, gi 21 20 1, ab 6 21]))
def f67 : FnIR := ⟨42, [.t 4], ai [di 4] (ai [ab 8 0, ab 9 1, wh 10 50 8 9, ab 5 10] (.seq f67_0 (.seq (ai [ab 14 5, gi 15 14 1,
 ab 6 15] (.block 0 (.loop f67_1))) (ai [ab 36 0, ab 37 5, vq 38 2 36 37, ⟨none, none, .clr 2 [.sc (.string ⟨#[]⟩), .sc (.slice none 0 0)] (.t 38)⟩] (ai [ab 39 0,
 ab 40 5, Jj 41 2 39 40, ab 4 41] .ret)))))⟩
def f68 : FnIR := ⟨9, [.t 3], ai [tj 2 2 0, gf 3] (ai [bt 4 0 2, az 5 4, bt 6 0 1, az 7 6, Kd 8 5 7, ab 3 8] .ret)⟩
def f69 : FnIR := ⟨9, [.t 3], ai [tj 2 2 0, gf 3] (ai [bt 4 0 2, az 5 4, bt 6 0 1, az 7 6, Th 8 5 7, ab 3 8] .ret)⟩
def f70_0 : IR := ai [ab 15 7, Cs 16 15 0] (cz 16 (ai [ab 17 0, ab 6 17] .ret) .skip)
def f70_1 : IR := ai [ab 20 1, ab 21 8, Kd 22 20 21] (cz 22 (ai [ab 23 0, ab 24 2, Tb 25 23 24, ab 6 25] .ret) .skip)
def f70_2 : IR := ai [ab 26 8, ab 27 7, na 28 26 27, ab 29 0, afv 30 29, Th 31 28 30] (cz 31 (ai [ab 32 0, ab 33 1, Jj 34 2 32 33, ab 35 8,
 ab 36 7, na 37 35 36, ab 38 1, Qg 39 37 38, ⟨none, some 40, .apz 2 40 [.sc (.string ⟨#[]⟩), .sc (.slice none 0 0)] (.t 34) (.t 39)⟩, ab 9 40] (ai [ab 41 9,
 ab 42 1, vq 43 2 41 42, ab 44 2, Ih 45 2 43 44] (.seq (.draw [(ab 46 9,.p), (ab 47 1,.p), (ab 48 7,.p), (na 49 47 48,.p), (vq 50 2 46 49, .r 0 0),
 (ab 51 0,.p), (ab 52 1,.p), (vq 53 2 51 52, .r 0 0), (Ih 54 2 50 53,.k)]) (ai [ab 55 9, ab 6 55] .ret)))) .skip)
def f70_3 : IR := ai [ab 61 2, ab 62 0, ab 63 1, ab 64 7, na 65 63 64, vq 66 2 62 65, Cu 67 85 61 66, oy 68 67] (cz 68 (.seq (.draw [(ab 69 0,.p),
 (ab 70 1,.p), (ab 71 7,.p), (na 72 70 71,.p), (vq 73 2 69 72, .r 0 0), (ab 74 0,.p), (ab 75 1,.p), (vq 76 2 74 75, .r 0 0),
 (Ih 77 2 73 76,.k)]) (ai [ab 78 0, ab 79 1, vq 80 2 78 79, ab 81 2, Ih 82 2 80 81] (ai [ab 83 0, ab 6 83] .ret))) .skip)
def f70 : FnIR := ⟨95, [.t 6], ai [di 6] (ai [ab 10 0, ab 11 1, vq 12 2 10 11] (ai [ab 13 2, df 14 13, ab 7 14] (.seq f70_0 (ai [ab 18 0,
 df 19 18, ab 8 19] (.seq f70_1 (.seq f70_2 (ai [ab 56 0, ab 57 8, ab 58 7, na 59 57 58, Jj 60 2 56 59, ab 0 60] (.seq f70_3 (ai [ab 84 0, ab 85 8,
 vq 86 2 84 85, ab 87 2, Ih 88 2 86 87] (ai [ab 89 0, ab 90 1, vq 91 2 89 90, ab 92 7, Cu 93 86 91 92] (ai [ab 94 0, ab 6 94] .ret)))))))))))⟩
def f71_0 : IR := cz 9 .skip (.exit 0)
def f71_1 : IR := ai [kk 9 8 7] (.seq f71_0 (.seq (.block 1 (ai [ab 10 8, ab 5 10] (ai [ab 11 1, ab 12 0, ab 13 5, jf 14 3 12 13, jd 15 3 14, ⟨none,
 some 16, .callv true (.t 11) [.t 15]⟩] (cz 16 (ai [ab 17 5, ab 4 17] .ret) .skip)))) (.reg [gi 18 8 1, ab 8 18])))
def f71 : FnIR := ⟨19, [.t 4], ai [ce 4 0] (.seq (ai [ab 6 0, df 7 6, ce 8 0] (.block 0 (.loop f71_1))) (ai [ce 4 (-1)] .ret))⟩
def f72_0 : IR := .reg [ab 5 7]
def f72_1 : IR := .block 1 (.reg [az 8 2, ab 9 5, Ra 10 9, Qu 11 8 10, co 1 2 11])
def f72 : FnIR := ⟨13, [.t 4], ai [tj 2 1 0, di 4] (.seq (ai [ab 6 1] (.block 0 (.rangeF (.t 6) [7] f72_0 f72_1))) (ai [az 12 2, ab 4 12] .ret))⟩
def f73_0 : IR := .seq (ai [ab 6 4, az 7 1, df 8 7, kk 9 6 8] (cz 9 .skip (.exit 0))) (.seq (.block 1 (.seq (.draw [(az 13 2, .r 0 0), (az 14 1, .r 0 0),
 (ab 15 4,.p), (vq 16 1 14 15, .r 0 0), (df 17 16,.p), (⟨none, some 18, .mnmx true [.t 13, .t 17]⟩,.p), (ab 5 18,.p)]) (ai [ab 19 0, az 20 1, ab 21 4,
 ab 22 4, ab 23 5, na 24 22 23, ab 25 4, ab 26 5, na 27 25 26, ⟨none, some 28, .slL 1 (.t 20) (some (.t 21)) (some (.t 24)) (some (.t 27))⟩, Tr 29 19 28,
 oy 30 29] (cz 30 .ret .skip)))) (.reg [ab 10 4, az 11 2, na 12 10 11, ab 4 12]))
def f73 : FnIR := ⟨31, [], ai [ce 4 0] (.block 0 (.loop f73_0))⟩
def f74_0 : IR := .seq (ai [ab 7 0, Ge 8 7 127] (cz 8 .skip (.exit 0))) (.seq (.block 1 (.reg [ab 11 3, ab 12 0, oi 13 12, ⟨none, some 14,
 .bin .or (.t 13) (.c (vi .u8 128))⟩, ak4 15 14, xu 16 11 15, ab 3 16])) (.reg [ab 9 0, Lu 10 9 7, ab 0 10]))
def f74 : FnIR := ⟨22, [.t 2], ai [di 2] (ai [di 3] (.seq (ai [ab 4 0, ⟨none, some 5, .mnmx true [.t 4, .c (vi .i64 9007199254740992)]⟩, ⟨none, some 6,
 .mnmx false [.c (vi .i64 0), .t 5]⟩, ab 0 6] (.block 0 (.loop f74_0))) (ai [ab 17 3, ab 18 0, oi 19 18, ak4 20 19, xu 21 17 20, ab 2 21] .ret)))⟩
def f75 : FnIR := ⟨8, [.t 2], ai [di 2] (ai [ab 3 0, ag1 4 3, kw 5 74 4, ab 6 0, xu 7 5 6, ab 2 7] .ret)⟩
def f76_0 : IR := cz 6 .skip (.exit 0)
def f76_1 : IR := ai [qn 6 5 4] (.seq f76_0 (.seq (.block 1 (ai [ab 7 5, ab 4 7] (.reg [ab 8 0, ab 9 4, ab 10 1, ab 11 4, adz 12 8 11, ag5 13 24 12,
 ⟨none, some 14, .bin .shr (.t 10) (.t 13)⟩, oi 15 14, jf 16 1 8 9, co 1 16 15]))) (.reg [gi 17 5 1, ab 5 17])))
def f76 : FnIR := ⟨18, [], ai [ce 5 0] (.block 0 (.loop f76_1))⟩
def f77 : FnIR := ⟨27, [.t 2], ai [di 2] (ai [ab 5 0, iy 6 87 5, ab 3 6] (ai [ab 7 0, df 8 7, gi 9 8 4, ⟨none, some 10,
 .mks 1 1 [.sc (.int .u8 0)] (.c (vi .i64 0)) (.t 9) true⟩, ab 11 0, xu 12 10 11, ab 4 12] (ai [ab 13 4, ab 14 3, oi 15 14, ab 16 3, Lu 17 16 8,
 oi 18 17, ab 19 3, Lu 20 19 16, oi 21 20, ab 22 3, Lu 23 22 24, oi 24 23, ⟨none, some 25, .mksl 1 4 [.cv (.sc (.int .u8 0)), .cv (.sc (.int .u8 0)),
 .cv (.sc (.int .u8 0)), .cv (.sc (.int .u8 0))] [(0, (1, .t 15)), (1, (1, .t 18)), (2, (1, .t 21)), (3, (1, .t 24))] false⟩, xu 26 13 25, ab 2 26] .ret)))⟩
def f78_0 : IR := cz 7 .skip (.exit 0)
def f78_1 : IR := ai [kk 7 6 5] (.seq f78_0 (.seq (.block 1 (ai [ab 8 6, ab 3 8] (.seq (.draw [(ab 9 3,.p), (Ge 10 9 0,.p), (ab 11 10,.p), (gq 11 12 0,.p),
 (gq 11 13 3,.p), (⟨some (11, true), some 14, .iadL 2 (.t 12) (.t 13)⟩, .r 0 0), (Ia 11 15 0 14,.p), (Iz 11 16 15, .r 0 0), (gq 11 17 0,.p), (gq 11 18 3,.p),
 (ah4 11 19 18,.p), (⟨some (11, true), some 20, .iadL 2 (.t 17) (.t 19)⟩, .r 0 0), (Ia 11 21 0 20,.p), (Iz 11 22 21, .r 0 0), (aer 11 23 16 22,.p),
 (lh 24 11 23,.p)]) (cz 24 (ai [gf 2] .ret) .skip)))) (.reg [gi 25 6 1, ab 6 25])))
def f78 : FnIR := ⟨26, [.t 2], ai [gf 2] (.seq (ai [ab 4 0, df 5 4, ce 6 0] (.block 0 (.loop f78_1))) (ai [Cx 2] .ret))⟩
def f79_0 : IR := .reg [ab 10 16]
def f79_1 : IR := ai [ab 23 12, oy 24 23] (cz 24 (ai [ah3 6, ⟨none, none, .st 1 (.t 7) (.c aa0)⟩] .ret) .skip)
def f79_2 : IR := ai [ab 32 10, df 33 32, Ge 34 33 0] (cz 34 (.reg [ab 35 10, xe 36 2 35 0, bt 37 0 36, az 38 37, bt 39 0 13, co 1 39 38]) .skip)
def f79_3 : IR := .block 1 (ai [az 18 4, ab 19 10, Cu 20 89 18 19, ab 17 20, bk 21 17 0, bk 22 17 1, ab 11 21, ab 12 22] (.seq f79_1 (ai [az 25 3,
 er 26 25, bt 27 0 26, az 28 27, df 29 28, iy 30 74 29, ⟨none, some 31, .build [.cv (.sc (.string ⟨#[]⟩)), .cv (.sc (.slice none 0 0))] [(1, (1, .t 30))]⟩, Kq 13,
 co 2 13 31] (.seq f79_2 (.seq (.draw [(az 40 3, .r 0 3), (az 41 8, .r 0 0), (jd 42 2 13, .r 0 0), (agr 43 42, .r 0 0), (Tb 44 41 43,.k), (az 45 3, zq),
 (er 46 45,.p), (bt 47 0 46,.p), (az 48 47, zq), (ab 49 11,.p), (Ra 50 49, zq), (Qu 51 48 50,.k), (co 1 8 44,.k), (er 52 40,.p), (bt 53 0 52,.p),
 (co 1 53 51,.k)]) (.reg [az 54 9, ab 55 10, df 56 55, na 57 54 56, co 1 9 57]))))))
def f79 : FnIR := ⟨63, [.cell 6 false 1, .cell 7 false 1], ai [tj 3 1 0, tj 4 1 1, aif 6, ⟨none, some 7, .alloc [.cv (.sc (.bool false))]⟩] (ai [aif 8] (ai [ajr,
 ahc 9] (.seq (ai [ab 14 2, kw 15 88 14] (.block 0 (.rangeF (.t 15) [16] f79_0 f79_3))) (.seq (.draw [(az 58 8, .r 0 0), (az 59 9, zq), (ab 60 2,.p),
 (df 61 60,.p), (Kd 62 59 61,.p), (co 1 6 58,.k), (co 1 7 62,.k)]) .ret))))⟩
def f80_0 : IR := ai [ab 5 1, qn 6 5 0] (cz 6 (.reg [⟨none, some 7, .mkif 9 (.c (.cv (.sc (.string ⟨#[99, 97, 110, 110, 111, 116, 32, 98, 101, 32, 110, 101, 103, 97, 116,
 105, 118, 101]⟩))))⟩, aeh 7]) .skip)
def f80 : FnIR := ⟨27, [.t 4], ai [di 4] (.seq f80_0 (.seq (ai [ab 8 1, ab 9 0, afv 10 9, ab 11 0, df 12 11, Qg 13 10 12, Qg 14 8 13,
 ab 1 14] (ai [ab 15 1, Ge 16 15 0] (cz 16 (.reg [ab 17 0, ab 18 0, afv 19 18, Jj 20 1 17 19, ab 21 1, ⟨none, some 22,
 .apz 1 1 [.sc (.int .u8 0)] (.t 20) (.t 21)⟩, ab 23 0, df 24 23, Jj 25 1 22 24, ab 0 25]) .skip))) (ai [ab 26 0, ab 4 26] .ret)))⟩
def f81 : FnIR := ⟨10, [.t 4], ai [gf 4] (ai [ab 5 0, Sc 6 5, ab 7 1, Sc 8 7, Kd 9 6 8, ab 4 9] .ret)⟩
def f82_0 : IR := cz 26 .skip (.exit 1)
def f82_1 : IR := ai [ab 28 7, Cn 29 2 28, ab 30 6, ⟨none, some 31, .bin .geq (.t 29) (.t 30)⟩] (cz 31 (ai [ce 2 0, di 3, dq 4 11] .ret) .skip)
def f82_2 : IR := ai [ab 45 10, oy 46 45] (cz 46 (ai [ce 2 0, di 3, dq 4 11] .ret) .skip)
def f82_3 : IR := ai [kk 26 25 24] (.seq f82_0 (.seq (.block 2 (ai [ab 27 25, ab 7 27] (.seq f82_1 (ai [ab 32 0, ab 33 7, Cn 34 2 33, jf 35 1 32 34,
 az 36 35, tg 37 36, ab 8 37] (ai [ab 39 0, ab 40 8, ab 41 6, ae3 42 91 39 40 41, ab 38 42, bk 43 38 0, bk 44 38 1, Kq 9, co 2 9 43,
 ab 10 44] (.seq f82_2 (.reg [ab 47 5, jd 48 2 9, agr 49 48, Tb 50 47 49, ab 51 8, ab 5 50, ab 6 51]))))))) (.reg [gi 52 25 1, ab 25 52])))
def f82 : FnIR := ⟨75, [.t 2, .t 3, .t 4], ai [ce 2 0, di 3, dq 4 0] (.seq (.block 0 (ai [ab 14 0, df 15 14, ⟨none, some 16,
 .bin .neq (.t 15) (.c (vi .i64 256))⟩, ab 13 16] (cz 13 (ai [ce 2 0, di 3, dq 4 11] .ret) (ai [ab 18 0, iy 19 90 18, oy 20 19,
 ab 17 20] (cz 17 (ai [ce 2 0, di 3, dq 4 12] .ret) .skip))))) (ai [di 5] (ai [ce 6 252] (.seq (ai [ab 21 0, xe 22 1 21 1, az 23 22,
 tg 24 23, ce 25 0] (.block 1 (.loop f82_3))) (.seq (ai [ab 54 0, xe 55 1 54 0, az 56 55, tg 57 56, ab 58 5, Cu 59 89 57 58, ab 53 59, bk 60 53 0,
 bk 61 53 1, ab 11 60, ab 12 61] (ai [ab 62 12, oy 63 62, ab 64 63, gp 64 65 11, gp 64 66 0, ⟨some (64, false), some 67, .call 81 true [.t 65, .t 66]⟩,
 Sk 64 68 67, km 69 64 68] (cz 69 (ai [ce 2 0, di 3, dq 4 11] .ret) .skip))) (ai [ab 70 0, xe 71 1 70 0, az 72 71, tg 73 72, ab 74 5, ab 2 73,
 ab 3 74, dq 4 0] .ret))))))⟩
def f83_0 : IR := ai [ab 10 0, df 11 10, ab 12 1, df 13 12, aew 14 11 13] (cz 14 (ai [gf 6] .ret) .skip)
def f83_1 : IR := cz 18 .skip (.exit 0)
def f83_2 : IR := ai [kk 18 17 16] (.seq f83_1 (.seq (.block 1 (ai [ab 19 17, jf 20 1 15 17, az 21 20, ab 7 19, ab 8 21] (ai [ab 22 1, ab 23 7,
 jf 24 1 22 23, az 25 24, ab 9 25] (ai [ab 26 2, ab 27 8, ab 28 9, ⟨none, some 29, .callv true (.t 26) [.t 27, .t 28]⟩,
 oy 30 29] (cz 30 (ai [gf 6] .ret) .skip))))) (.reg [gi 31 17 1, ab 17 31])))
def f83 : FnIR := ⟨32, [.t 6], ai [gf 6] (.seq f83_0 (.seq (ai [ab 15 0, df 16 15, ce 17 0] (.block 0 (.loop f83_2))) (ai [Cx 6] .ret)))⟩
def f84 : FnIR := ⟨8, [.t 2, .t 3], ai [di 2, dq 3 0] (ai [ab 4 0, ⟨none, some 5, .call 92 true [.t 4, .c (.func 93 [])]⟩, bk 6 5 0, bk 7 5 1, ab 2 6,
 ab 3 7] .ret)⟩
def f87 : FnIR := ⟨5, [.t 2], ai [ajb 2] (ai [ab 3 0, ⟨none, some 4, .call 95 true [.c (vi .u32 0), .t 3]⟩, ab 2 4] .ret)⟩
def f88 : FnIR := ⟨4, [.t 2], ai [tj 1 1 0, ah8 2] (ai [ae9 3 96 1, ab 2 3] .ret)⟩
def f89_0 : IR := ai [ab 11 0, qn 12 11 0, ab 13 12, gp 13 14 0, Bx 13 15 14 4, km 16 13 15, ab 17 16, gp 17 18 1, ⟨some (17, false), some 19,
 .call 97 true [.t 18]⟩, gp 17 20 1, Cv 17 21 20, ⟨some (17, false), some 22, .bin .lss (.t 19) (.t 21)⟩, km 23 17 22] (cz 23 (ai [di 4, gf 5] .ret) .skip)
def f89_1 : IR := cz 34 .skip (.exit 0)
def f89_2 : IR := ai [kk 34 33 32] (.seq f89_1 (.seq (.block 1 (ai [ab 35 33, jf 36 2 31 33, jd 37 2 36, Kq 9, ab 8 35, co 2 9 37] (ai [jd 38 2 9,
 iy 39 98 38, ab 10 39] (ai [ab 40 7, ab 41 10, df 42 41, Qg 43 40 42, ab 7 43] (ai [ab 44 8, Cn 45 2 44, ab 46 7, oi 47 46, Zw 48 252 6 45,
 co 1 48 47] (.reg [ab 49 7, ⟨none, some 50, .slA 252 1 (.t 6) (some (.t 49)) none⟩, ab 51 10, Ih 52 1 50 51])))))) (.reg [gi 53 33 1, ab 33 53])))
def f89 : FnIR := ⟨56, [.t 4, .t 5], ai [di 4, gf 5] (.seq f89_0 (ai [⟨none, some 6, .alloc (List.replicate 252 (.cv (.sc (.int .u8 0))))⟩] (ai [ab 24 0, oi 25 24,
 ab 26 1, df 27 26, oi 28 27, Ik 29 252 6 0, co 1 29 25, Ik 30 252 6 1, co 1 30 28] (ai [ce 7 252] (.seq (ai [ab 31 1, df 32 31,
 ce 33 0] (.block 0 (.loop f89_2))) (ai [Ma 54 252 6, kw 55 77 54, ab 4 55, Cx 5] .ret))))))⟩
def f90 : FnIR := ⟨17, [.t 2], ai [gf 2] (ai [ab 4 0, df 5 4, Yz 6 5 4, ab 3 6] (ai [ab 7 3, To 8 7 0, ab 9 8, gq 9 10 0, gq 9 11 3, ⟨some (9,
 true), some 12, .slL 1 (.t 10) none (some (.t 11)) none⟩, ⟨some (9, true), some 13, .call 77 true [.t 12]⟩, gq 9 14 0, ae2 9 15 81 13 14, lh 16 9 15, ab 2 16] .ret))⟩
def f91_0 : IR := ai [ab 12 1, ab 13 2, ⟨none, some 14, .bin .geq (.t 12) (.t 13)⟩] (cz 14 (ai [jd 15 2 6, co 2 6 15, gf 7] .ret) .skip)
def f91_1 : IR := ai [ab 25 10, Cw 26 25] (cz 26 (ai [jd 27 2 6, co 2 6 27, gf 7] .ret) .skip)
def f91 : FnIR := ⟨48, [.cell 6 true 2, .t 7], ai [Kq 6, gf 7] (.seq f91_0 (ai [ab 17 0, ab 18 2, Jj 19 1 17 18, ab 20 1, abf 21 19 20 30, ab 16 21,
 bk 22 16 0, bk 23 16 1, bk 24 16 2, ab 8 22, ab 9 23, ab 10 24] (.seq f91_1 (ai [ab 29 0, ab 30 2, Jj 31 1 29 30, ab 32 9, abf 33 31 32 150,
 ab 28 33, bk 34 28 0, bk 35 28 1, bk 36 28 2, ab 11 34, ab 9 35, ab 10 36] (ai [ab 37 8, ab 38 11, ⟨none, some 39, .cvSB false (.t 38)⟩,
 ajg 40 37 39, ab 41 10, Tc 42 41, ab 43 42, gq 43 44 9, gq 43 45 2, ⟨some (43, true), some 46, .bin .eql (.t 44) (.t 45)⟩, lh 47 43 46, co 2 6 40,
 ab 7 47] .ret)))))⟩
def f92_0 : IR := .seq (ai [ab 23 9, Tc 24 23, ab 25 24, gq 25 26 7, agp 25 27 26 0,
 lh 28 25 27] (cz 28 .skip (.exit 0))) (.seq (.block 1 (ai [aa9 10] (ai [ab 32 1, ab 33 0, ab 34 8, ⟨none, some 35, .callv true (.t 32) [.t 33, .t 34]⟩,
 ab 31 35, bk 36 31 0, bk 37 31 1, bk 38 31 2, co 3 10 36, ab 8 37, ab 9 38] (ai [ab 39 9, Tc 40 39] (cz 40 (.reg [ab 41 6, jd 42 3 10,
 aj2 43 42, ⟨none, some 44, .app 3 48 [.sc (.string ⟨#[]⟩), .sc (.slice none 0 0), .sc (.bool false)] (.t 41) (.t 43)⟩, ab 6 44]) .skip))))) (.reg [ab 29 7, Yz 30 29 1,
 ab 7 30]))
def f92 : FnIR := ⟨55, [.t 4, .t 5], ai [di 4, dq 5 0] (ai [di 6] (ai [ab 12 0, ⟨none, some 13, .call 100 true [.t 12, .c (vi .i64 0)]⟩, ab 11 13,
 bk 14 11 0, bk 15 11 1, bk 16 11 2, ab 7 14, ab 8 15, ab 9 16] (.seq (ai [ab 17 9, Tc 18 17, ab 19 18, gq 19 20 7, agp 19 21 20 5000,
 lh 22 19 21] (cz 22 (.reg [dq 9 3]) .skip)) (.seq (.block 0 (.loop f92_0)) (.seq (.block 2 (ai [ab 46 9, Cw 47 46, ab 45 47] (cz 45 (ai [ab 48 9, di 4,
 ab 5 48] .ret) (ai [ab 50 8, ab 51 0, df 52 51, kk 53 50 52, ab 49 53] (cz 49 (ai [di 4, dq 5 11] .ret) .skip))))) (ai [ab 54 6, ab 4 54,
 dq 5 0] .ret))))))⟩
def f93 : FnIR := ⟨59, [.cell 4 true 3, .t 5, .t 6], ai [aa9 4, ce 5 0, dq 6 0] (ai [ab 11 0, ab 12 1, abf 13 11 12 30, ab 10 13, bk 14 10 0,
 bk 15 10 1, bk 16 10 2, ab 7 14, ab 1 15, ab 8 16] (.seq (.block 0 (ai [ab 18 8, Cw 19 18, ab 17 19] (cz 17 (ai [agw 20, ab 21 8, co 3 4 20,
 ce 5 0, ab 6 21] .ret) (ai [ab 23 1, ab 24 0, df 25 24, Kd 26 23 25, ab 22 26] (cz 22 (ai [agw 27, co 3 4 27, ce 5 0,
 dq 6 10] .ret) (ai [ab 29 0, ab 30 1, jf 31 1 29 30, az 32 31, afn 33 32 1, ab 28 33] (cz 28 (ai [ab 34 7, ⟨none, some 35,
 .build [.cv (.sc (.string ⟨#[]⟩)), .cv (.sc (.slice none 0 0)), .cv (.sc (.bool false))] [(0, (1, .t 34)), (2, (1, .c Vf))]⟩, ab 36 1, gi 37 36 1, co 3 4 35,
 ab 5 37, dq 6 0] .ret) (ai [ab 39 0, ab 40 1, jf 41 1 39 40, az 42 41, ⟨none, some 43, .bin .gtr (.t 42) (.c (vi .u8 1))⟩,
 ab 38 43] (cz 38 (ai [agw 44, co 3 4 44, ce 5 0, dq 6 11] .ret) .skip))))))))) (ai [ab 46 0, ab 47 1, gi 48 47 1, abf 49 46 48 150, ab 45 49,
 bk 50 45 0, bk 51 45 1, bk 52 45 2, ab 9 50, ab 1 51, ab 8 52] (ai [ab 53 7, ab 54 9, ⟨none, some 55, .cvSB false (.t 54)⟩, ah0 56 53 55, ab 57 1,
 ab 58 8, co 3 4 56, ab 5 57, ab 6 58] .ret))))⟩
def f95_0 : IR := cz 14 .skip (.exit 0)
def f95_1 : IR := ai [kk 14 13 12] (.seq f95_0 (.seq (.block 1 (ai [jf 15 1 11 13, az 16 15, ab 7 16] (.reg [ab 17 0, Lu 18 17 8, ab 19 0, oi 20 19,
 ab 21 7, adw 22 20 21, Zw 23 256 5 22, az 24 23, adw 25 18 24, ab 0 25]))) (.reg [gi 26 13 1, ab 13 26])))
def f95 : FnIR := ⟨29, [.t 4], ai [ajb 4] (ai [aem 8 102, ⟨none, some 5, .alloc (List.replicate 256 (.cv (.sc (.int .u32 0))))⟩, co 256 5 8] (ai [ab 9 0, ⟨none,
 some 10, .un .xor (.t 9)⟩, ab 0 10] (.seq (ai [ab 11 1, df 12 11, ce 13 0] (.block 0 (.loop f95_1))) (ai [ab 27 0, ⟨none, some 28, .un .xor (.t 27)⟩,
 ab 4 28] .ret))))⟩
def f96_0 : IR := ai [ab 6 0, az 7 1, ab 8 3, Jj 9 2 7 8, Tr 10 6 9, oy 11 10, ab 12 11, gp 12 13 3, ⟨some (12, false), some 14,
 .bin .eql (.t 13) (.c (vi .i64 0))⟩, km 15 12 14, ab 16 15, gp 16 17 3, Ho 16 18 1, Cv 16 19 18, ⟨some (16, false), some 20, .bin .eql (.t 17) (.t 19)⟩,
 km 21 16 20] (cz 21 .ret .skip)
def f96_1 : IR := .block 1 (ai [az 4 1, iy 5 97 4, ab 3 5] (.seq f96_0 (.reg [az 22 1, ab 23 3, vq 24 2 22 23, co 1 1 24])))
def f96 : FnIR := ⟨25, [], .block 0 (.loop f96_1)⟩
def f97_0 : IR := cz 9 .skip (.exit 0)
def f97_1 : IR := ai [bt 13 0 5, az 14 13, ag1 15 14, Ge 16 15 30, ab 17 16, Rz 17 18 1 5, Ho 17 19 18, Cv 17 20 19, Bx 17 21 20 150,
 km 22 17 21] (cz 22 (ai [ab 23 4, ab 2 23] .ret) .skip)
def f97_2 : IR := ai [kk 9 8 7] (.seq f97_0 (.seq (.block 1 (ai [ab 10 8, jf 11 2 6 8, jd 12 2 11, Kq 5, ab 4 10, co 2 5 12] (.seq f97_1 (ai [ab 24 3,
 jd 25 2 5, iy 26 98 25, df 27 26, Cn 28 1 27, na 29 24 28, ab 3 29] (ai [ab 30 3, Ge 31 30 250] (cz 31 (ai [ab 32 4,
 ab 2 32] .ret) .skip)))))) (.reg [gi 33 8 1, ab 8 33])))
def f97 : FnIR := ⟨36, [.t 2], ai [ce 2 0] (ai [ce 3 0] (.seq (ai [ab 6 0, df 7 6, ce 8 0] (.block 0 (.loop f97_2))) (ai [ab 34 0, df 35 34,
 ab 2 35] .ret)))⟩
def f98 : FnIR := ⟨11, [.t 2], ai [tj 1 2 0, di 2] (.seq (.draw [(bt 3 0 1,.p), (az 4 3, .r 0 0), (kw 5 75 4,.k), (bt 6 1 1,.p), (az 7 6, zq), (Sc 8 7,
 zq), (kw 9 75 8,.k), (xu 10 5 9,.k), (ab 2 10,.p)]) .ret)⟩
def f99 : FnIR := ⟨44, [.t 6, .t 7, .t 8], ai [aav, ce 7 0, dq 8 0] (ai [ab 13 0, ab 14 1, Cu 15 100 13 14, ab 12 15, bk 16 12 0, bk 17 12 1,
 bk 18 12 2, ab 9 16, ab 10 17, ab 11 18] (.seq (.block 0 (ai [ab 20 11, Cw 21 20, ab 19 21] (cz 19 (ai [ab 22 11, aav, ce 7 0,
 ab 8 22] .ret) (ai [ab 24 9, ab 25 2, Th 26 24 25, ab 23 26] (cz 23 (ai [aav, ce 7 0, dq 8 3] .ret) (ai [ab 28 9, ab 29 0, df 30 29,
 ab 31 10, Qg 32 30 31, Th 33 28 32, ab 27 33] (cz 27 (ai [aav, ce 7 0, dq 8 10] .ret) .skip))))))) (ai [ab 34 0, ab 35 10, ab 36 10, ab 37 9,
 na 38 36 37, ⟨none, some 39, .slL 1 (.t 34) (some (.t 35)) (some (.t 38)) none⟩, Sc 40 39, ab 41 10, ab 42 9, na 43 41 42, ab 6 40, ab 7 43,
 dq 8 0] .ret)))⟩
def f100_0 : IR := .seq (ai [ab 18 8, qn 19 18 8] (cz 19 .skip (.exit 0))) (.seq (.block 1 (.seq (ai [ab 22 1, ab 23 8, na 24 22 23, ab 25 0, df 26 25,
 Kd 27 24 26] (cz 27 (.goto 0) .skip)) (ai [ab 28 0, ab 29 1, ab 30 8, na 31 29 30, jf 32 1 28 31, az 33 32, ab 9 33] (ai [ab 34 7, ab 35 9,
 aki 36 35 127, tg 37 36, ab 38 8, adz 39 7 38, ⟨none, some 40, .bin .shl (.t 37) (.t 39)⟩, Wf 41 34 40, ab 7 41] (ai [ab 42 9, aki 43 42 128,
 afn 44 43 0] (cz 44 (.seq (ai [ab 45 9, afn 46 45 0, ab 47 46, gq 47 48 8, agp 47 49 48 0, lh 50 47 49, ab 51 50, gp 51 52 7,
 Bx 51 53 52 9007199254740992, km 54 51 53] (cz 54 (.goto 1) .skip)) (ai [ab 55 7, ab 56 1, ab 57 8, na 58 56 57, gi 59 58 1, ab 4 55, ab 5 59,
 dq 6 0] .ret)) .skip)))))) (.reg [ab 20 8, gi 21 20 1, ab 8 21]))
def f100_1 : IR := ai [ce 7 0, ce 8 0] (.seq (ai [ab 10 1, qn 11 10 0, ab 12 11, gp 12 13 1, gp 12 14 0, Cv 12 15 14, afc 12 16 13 15,
 km 17 12 16] (cz 17 (.goto 0) .skip)) (.seq (.block 0 (.loop f100_0)) (.seq (.label 1) (.seq (ai [ce 4 0, ce 5 0, dq 6 11] .ret) (.seq (.label 0) (ai [ce 4 0,
 ce 5 0, dq 6 10] .ret))))))
def f100 : FnIR := ⟨60, [.t 4, .t 5, .t 6], ai [ce 4 0, ce 5 0, dq 6 0] (.scope f100_1)⟩
def f102_0 : IR := cz 5 .skip (.exit 0)
def f102_1 : IR := cz 10 .skip (.exit 2)
def f102_2 : IR := ai [qn 10 9 8] (.seq f102_1 (.seq (.block 3 (.reg [ab 11 3, Lu 12 11 1, ab 13 3, ⟨none, some 14, .bin .and (.t 13) (.c (vi .u32 1))⟩, ⟨none,
 some 15, .bin .mul (.c (vi .u32 3988292384)) (.t 14)⟩, adw 16 12 15, ab 3 16])) (.reg [gi 17 9 1, ab 9 17])))
def f102_3 : IR := ai [qn 5 4 256] (.seq f102_0 (.seq (.block 1 (ai [ab 6 4, ab 2 6] (ai [ab 7 2, ⟨none, some 8, .cvI .u32 (.t 7)⟩,
 ab 3 8] (.seq (ai [ce 9 0] (.block 2 (.loop f102_2))) (.reg [ab 18 2, ab 19 3, Zw 20 256 1 18, co 1 20 19]))))) (.reg [gi 21 4 1, ab 4 21])))
def f102 : FnIR := ⟨23, [.cell 0 true 256], ai [⟨none, some 0, .alloc (List.replicate 256 (.cv (.sc (.int .u32 0))))⟩] (ai [⟨none, some 1,
 .alloc (List.replicate 256 (.cv (.sc (.int .u32 0))))⟩] (.seq (ai [ce 4 0] (.block 0 (.loop f102_3))) (ai [jd 22 256 1, co 256 0 22] .ret)))⟩
def f119_0 : IR := ai [ab 9 0, ab 10 1, wh 11 56 9 10, oy 12 11] (cz 12 (ai [di 4, dq 5 20] .ret) .skip)
def f119_1 : IR := cz 26 .skip (.exit 0)
def f119_2 : IR := ai [kk 26 25 24] (.seq f119_1 (.seq (.block 1 (ai [jf 27 65 23 25, jd 28 65 27, ⟨none, some 8,
 .alloc ((.cv (.sc (.int .i64 0))) :: List.replicate 64 (.cv (.sc (.int .u8 0))))⟩, co 65 8 28] (ai [bt 29 0 8, az 30 29, ab 31 1,
 Kd 32 30 31] (cz 32 (.reg [bt 33 1 8, jd 34 64 33, co 64 6 34]) .skip)))) (.reg [gi 35 25 1, ab 25 35])))
def f119 : FnIR := ⟨37, [.t 4, .t 5], ai [di 4, dq 5 0] (.seq f119_0 (ai [ab 13 0, er 14 13, bt 15 0 14, az 16 15, ab 17 1, jf 18 64 16 17,
 jd 19 64 18, ⟨none, some 6, .alloc (List.replicate 64 (.cv (.sc (.int .u8 0))))⟩, co 64 6 19] (.seq (ai [ab 20 0, er 21 20, bt 22 1 21, az 23 22, df 24 23,
 ce 25 0] (.block 0 (.loop f119_2))) (ai [Ma 36 64 6, ab 4 36, dq 5 0] .ret))))⟩
abbrev aig : List Nat := [31, 32, 27, 119, 29, 26, 28, 56, 57, 54, 53, 10, 14, 15, 16, 20, 21, 25, 11, 13, 34, 60, 33, 63, 35, 38, 36, 17]
abbrev ahh : List Nat := [31, 32, 27, 119, 29, 26, 28, 56, 57, 54, 53, 10]
def ai7 : Nat → List Nat := fun n => match n with
 | 4 | 11 | 12 | 13 | 14 | 15 | 16 | 17 | 20 | 30 | 33 | 35 | 38 | 41 | 60 => aig
 | 10 | 29 | 31 | 32 | 53 | 54 | 56 | 57 | 58 | 119 => ahh
 | 19 => [45, 44]
 | 34 => [31, 32, 27, 119, 29, 26, 28, 56, 57, 54, 53, 10, 14, 15, 16, 20, 21, 25, 11, 13, 34, 60, 33, 63, 35, 38, 36, 17, 45]
 | 36 => [31, 32, 27, 119, 29, 26, 28, 56, 57, 54, 53, 10, 14, 15, 16, 20, 21, 25, 11, 13, 34, 60, 33, 63, 35, 38, 36, 17, 45, 44]
 | 37 => [65]
 | 39 => [66, 67, 50, 70]
 | 42 => [66]
 | 44 => [72]
 | 46 | 75 => [74]
 | 48 => [76]
 | 50 | 73 | 96 => [3000000]
 | 59 => [79]
 | 61 => [80]
 | 63 => [31, 32, 27, 119, 29, 26, 28, 56, 57, 54, 53, 10, 14, 15, 16, 20, 21, 25, 11, 13, 34, 60, 33, 63, 35, 38, 36, 17, 1000081]
 | 67 => [50, 3000000]
 | 79 => [88]
 | 89 => [77]
 | 98 => [75]
 | _ => []
def ai4 : Nat → List (Nat × Nat) := fun n => match n with
 | 10 => [(3, 1)]
 | 13 => [(10, 6)]
 | 36 => [(1, 9)]
 | 54 => [(3, 2)]
 | 77 => [(2, 3)]
 | _ => []
theorem f70_ok : Qz Proofs.Try.prog [3000004] [] Proofs.Try.f70 = some f70 := by kernel_rfl
def f70x : FnIR := ⟨3, [.t 2], .reg [⟨none, some 2, .ins 2 40 (.t 0) (.t 1) (.t 2)⟩]⟩
def F : Nat → Option FnIR := fun n => match n with
 | 4 => some f4
 | 10 => some f10
 | 11 => some f11
 | 12 => some f12
 | 13 => some f13
 | 14 => some f14
 | 15 => some f15
 | 16 => some f16
 | 17 => some f17
 | 18 => some f18
 | 19 => some f19
 | 20 => some f20
 | 22 => some f22
 | 29 => some f29
 | 30 => some f30
 | 31 => some f31
 | 32 => some f32
 | 33 => some f33
 | 34 => some f34
 | 35 => some f35
 | 36 => some f36
 | 37 => some f37
 | 38 => some f38
 | 39 => some f39
 | 40 => some f40
 | 41 => some f41
 | 42 => some f42
 | 43 => some f43
 | 44 => some f44
 | 45 => some f45
 | 46 => some f46
 | 47 => some f47
 | 48 => some f48
 | 50 => some f50
 | 52 => some f52
 | 53 => some f53
 | 54 => some f54
 | 56 => some f56
 | 57 => some f57
 | 58 => some f58
 | 59 => some f59
 | 60 => some f60
 | 61 => some f61
 | 62 => some f62
 | 63 => some f63
 | 64 => some f64
 | 65 => some f65
 | 66 => some f66
 | 67 => some f67
 | 68 => some f68
 | 69 => some f69
 | 70 => some f70x
 | 71 => some f71
 | 72 => some f72
 | 73 => some f73
 | 74 => some f74
 | 75 => some f75
 | 76 => some f76
 | 77 => some f77
 | 78 => some f78
 | 79 => some f79
 | 80 => some f80
 | 81 => some f81
 | 82 => some f82
 | 83 => some f83
 | 84 => some f84
 | 87 => some f87
 | 88 => some f88
 | 89 => some f89
 | 90 => some f90
 | 91 => some f91
 | 92 => some f92
 | 93 => some f93
 | 95 => some f95
 | 96 => some f96
 | 97 => some f97
 | 98 => some f98
 | 99 => some f99
 | 100 => some f100
 | 102 => some f102
 | 119 => some f119
 | _ => none
def ahx (f : Nat) : Option FnIR := if f = 70 then none else F f
theorem anm {f : Nat} {fn : FnIR} (h : F f = some fn) : f < 120 := by
 unfold F at h
 split at h <;> first | decide | cases h
theorem tlt {f : Nat} {fn : FnIR} (h : F f = some fn) : f < YB := Nat.lt_trans (anm h) (by decide)
theorem aof : ((List.range 120).map fun f => if (ahx f).isSome = true then (Proofs.Try.prog.funcs[f]?).map fun c => (c.name == "runtime.NumGoroutine", Qz Proofs.Try.prog (ai7 f) (ai4 f) c) else none) = (List.range 120).map fun f => if (ahx f).isSome = true then some (false, ahx f) else none := by kernel_rfl
theorem an5 (h70 : agt Proofs.Try.prog 70 f70x) : Sw Proofs.Try.prog F := by
 refine ⟨by kernel_rfl, fun f fn h => ⟨tlt h, ?_⟩⟩
 by_cases e70 : f = 70
 ·subst e70
  have h : some f70x = some fn := h
  cases h
  exact .inr h70
 have hf : ahx f = some fn := by
  unfold ahx
  rw [if_neg e70]
  exact h
 have k := congrArg (·[f]?) aof
 simp only [List.getElem?_map, List.getElem?_range (anm h)] at k
 have k := Option.some.inj k
 dsimp only at k
 have p : (some fn).isSome = true := rfl
 rw [hf, if_pos p, if_pos p] at k
 cases hc : Proofs.Try.prog.funcs[f]? with
 | none => rw [hc] at k; cases k
 | some c =>
  rw [hc] at k
  have k := Option.some.inj k
  exact .inl ⟨c, ai7 f, ai4 f, rfl, congrArg (·.1) k, congrArg (·.2) k⟩
end Go.V08
