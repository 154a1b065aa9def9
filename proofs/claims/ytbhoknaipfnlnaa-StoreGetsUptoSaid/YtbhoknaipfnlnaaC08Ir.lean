/-
 Chapter 08: the program's functions, as the small code (printed by a program of ours, checked by the kernel).
-/
import Derived.Test.YtbhoknaipfnlnaaVmAll1
import Derived.Test.YtbhoknaipfnlnaaProg
namespace Go.V08
open Go Go.Vm
theorem eE1 {F : Nat → Option FnIR} {f n : Nat} {fn : FnIR} (hf : F f = some fn) (hn : fn.nt = n) {a0 : VV} {h : ah} {P : VV → ah → Prop} (k : ∀ s : List VV, s.length = n → s.getD 0 .undef = a0 → X F fn.body ⟨s, h⟩ (RQ fn.res P)) (hb : Nat.ble 1 n = true := by rfl) : ∃ v h', call F f [a0] h = some (.ret v, h') ∧ P v h' := by
  subst hn
  exact bj hf (k _ (by have := Nat.le_of_ble_eq_true hb; simp <;> omega) rfl) hb
theorem eE2 {F : Nat → Option FnIR} {f n : Nat} {fn : FnIR} (hf : F f = some fn) (hn : fn.nt = n) {a0 a1 : VV} {h : ah} {P : VV → ah → Prop} (k : ∀ s : List VV, s.length = n → s.getD 0 .undef = a0 → s.getD 1 .undef = a1 → X F fn.body ⟨s, h⟩ (RQ fn.res P)) (hb : Nat.ble 2 n = true := by rfl) : ∃ v h', call F f [a0, a1] h = some (.ret v, h') ∧ P v h' := by
  subst hn
  exact bj hf (k _ (by have := Nat.le_of_ble_eq_true hb; simp <;> omega) rfl rfl) hb
theorem eP2 {F : Nat → Option FnIR} {f n : Nat} {fn : FnIR} (hf : F f = some fn) (hn : fn.nt = n) {a0 a1 : VV} {h h' : ah} {v : VV} (k : ∀ s : List VV, s.length = n → s.getD 0 .undef = a0 → s.getD 1 .undef = a1 → X F fn.body ⟨s, h⟩ (RQ fn.res (Is v h'))) (hb : Nat.ble 2 n = true := by rfl) : call F f [a0, a1] h = some (.ret v, h') := by
  subst hn
  exact Bw hf (k _ (by have := Nat.le_of_ble_eq_true hb; simp <;> omega) rfl rfl) hb
theorem eE3 {F : Nat → Option FnIR} {f n : Nat} {fn : FnIR} (hf : F f = some fn) (hn : fn.nt = n) {a0 a1 a2 : VV} {h : ah} {P : VV → ah → Prop} (k : ∀ s : List VV, s.length = n → s.getD 0 .undef = a0 → s.getD 1 .undef = a1 → s.getD 2 .undef = a2 → X F fn.body ⟨s, h⟩ (RQ fn.res P)) (hb : Nat.ble 3 n = true := by rfl) : ∃ v h', call F f [a0, a1, a2] h = some (.ret v, h') ∧ P v h' := by
  subst hn
  exact bj hf (k _ (by have := Nat.le_of_ble_eq_true hb; simp <;> omega) rfl rfl rfl) hb
theorem eP3 {F : Nat → Option FnIR} {f n : Nat} {fn : FnIR} (hf : F f = some fn) (hn : fn.nt = n) {a0 a1 a2 : VV} {h h' : ah} {v : VV} (k : ∀ s : List VV, s.length = n → s.getD 0 .undef = a0 → s.getD 1 .undef = a1 → s.getD 2 .undef = a2 → X F fn.body ⟨s, h⟩ (RQ fn.res (Is v h'))) (hb : Nat.ble 3 n = true := by rfl) : call F f [a0, a1, a2] h = some (.ret v, h') := by
  subst hn
  exact Bw hf (k _ (by have := Nat.le_of_ble_eq_true hb; simp <;> omega) rfl rfl rfl) hb
theorem eE4 {F : Nat → Option FnIR} {f n : Nat} {fn : FnIR} (hf : F f = some fn) (hn : fn.nt = n) {a0 a1 a2 a3 : VV} {h : ah} {P : VV → ah → Prop} (k : ∀ s : List VV, s.length = n → s.getD 0 .undef = a0 → s.getD 1 .undef = a1 → s.getD 2 .undef = a2 → s.getD 3 .undef = a3 → X F fn.body ⟨s, h⟩ (RQ fn.res P)) (hb : Nat.ble 4 n = true := by rfl) : ∃ v h', call F f [a0, a1, a2, a3] h = some (.ret v, h') ∧ P v h' := by
  subst hn
  exact bj hf (k _ (by have := Nat.le_of_ble_eq_true hb; simp <;> omega) rfl rfl rfl rfl) hb
theorem eE5 {F : Nat → Option FnIR} {f n : Nat} {fn : FnIR} (hf : F f = some fn) (hn : fn.nt = n) {a0 a1 a2 a3 a4 : VV} {h : ah} {P : VV → ah → Prop} (k : ∀ s : List VV, s.length = n → s.getD 0 .undef = a0 → s.getD 1 .undef = a1 → s.getD 2 .undef = a2 → s.getD 3 .undef = a3 → s.getD 4 .undef = a4 → X F fn.body ⟨s, h⟩ (RQ fn.res P)) (hb : Nat.ble 5 n = true := by rfl) : ∃ v h', call F f [a0, a1, a2, a3, a4] h = some (.ret v, h') ∧ P v h' := by
  subst hn
  exact bj hf (k _ (by have := Nat.le_of_ble_eq_true hb; simp <;> omega) rfl rfl rfl rfl rfl) hb
abbrev Zv : VV := .cv (.sc (.bool true))
abbrev aay : VV := .cv (.sc (.bool false))
abbrev Sg : VV := .cv (.sc (.slice none 0 0))
abbrev amg : VV := .cv (.sc (.string ⟨#[]⟩))
abbrev ai (l : List Op1) (c : IR) : IR := .seq (.reg l) c
abbrev ct (n : Nat) (a b : IR) : IR := .cond (.t n) a b
abbrev xv : Cl := .r 0 1
abbrev ab (a b : Nat) : Op1 := ⟨none, some a, .mv (.t b)⟩
abbrev au (a b : Nat) : Op1 := ⟨none, some a, .ld false 1 (.t b)⟩
abbrev bi (a b c : Nat) : Op1 := ⟨none, some a, .fad b (.t c)⟩
abbrev bo (a b c : Nat) : Op1 := ⟨none, some a, .ext (.t b) c⟩
abbrev bz (a : Nat) (b : Int) : Op1 := ⟨none, some a, .mv (.c (vi .i64 b))⟩
abbrev ce (a b c : Nat) : Op1 := ⟨none, none, .st a (.t b) (.t c)⟩
abbrev de (a b : Nat) : Op1 := ⟨none, some a, .len false (.t b)⟩
abbrev db (a : Nat) : Op1 := ⟨none, some a, .mv (.c Sg)⟩
abbrev dm (a : Nat) (b : Int) : Op1 := ⟨none, some a, .mv (.c (vi .u16 b))⟩
abbrev eh (a b : Nat) : Op1 := ⟨none, some a, .nilck (.t b)⟩
abbrev en (a b : Nat) (c : Int) : Op1 := ⟨none, some a, .bin .add (.t b) (.c (vi .i64 c))⟩
abbrev ga (a b c d : Nat) : Op1 := ⟨none, some a, .iadL b (.t c) (.t d)⟩
abbrev ge (a : Nat) : Op1 := ⟨none, some a, .mv (.c aay)⟩
abbrev gm (a b c : Nat) : Op1 := ⟨some (a, true), some b, .mv (.t c)⟩
abbrev ik (a b c : Nat) : Op1 := ⟨none, some a, .call b true [.t c]⟩
abbrev il (a b c : Nat) : Op1 := ⟨some (a, false), some b, .mv (.t c)⟩
abbrev jd (a b c : Nat) : Op1 := ⟨none, some a, .ld true b (.t c)⟩
abbrev jm (a b c : Nat) : Op1 := ⟨none, some a, .bin .lss (.t b) (.t c)⟩
abbrev kr (a b c : Nat) : Op1 := ⟨none, some a, .pick (.t b) (.c Zv) (.t c)⟩
abbrev ly (a b c : Nat) : Op1 := ⟨none, some a, .pick (.t b) (.t c) (.c aay)⟩
abbrev ls (a b c : Nat) : Op1 := ⟨none, some a, .bin .add (.t b) (.t c)⟩
abbrev my (a b c : Nat) : Op1 := ⟨none, some a, .call b false [.t c]⟩
abbrev oq (a b : Nat) : Op1 := ⟨none, some a, .un .not (.t b)⟩
abbrev pl (a b : Nat) : Op1 := ⟨none, some a, .cvI .u8 (.t b)⟩
abbrev qh (a b c d : Nat) : Op1 := ⟨none, some a, .call b false [.t c, .t d]⟩
abbrev qc (a b : Nat) (c : Int) : Op1 := ⟨none, some a, .bin .lss (.t b) (.c (vi .i64 c))⟩
abbrev qb (a b c : Nat) : Op1 := ⟨none, some a, .box b (.t c)⟩
abbrev tf (a b : Nat) : Op1 := ⟨none, some a, .cvI .i64 (.t b)⟩
abbrev vy (a b c d : Nat) : Op1 := ⟨none, some a, .slL b (.t c) (some (.t d)) none none⟩
abbrev yb (a b c : Nat) : Op1 := ⟨none, some a, .app 1 1 [.sc (.int .u8 0)] (.t b) (.t c)⟩
abbrev ya (a b c : Nat) (d : Int) : Op1 := ⟨none, some a, .iadL b (.t c) (.c (vi .i64 d))⟩
abbrev yr (a : Nat) (b : Int) (c : Nat) : Op1 := ⟨none, some a, .bin .add (.c (vi .i64 b)) (.t c)⟩
abbrev zx (a b c : Nat) (d : Int) : Op1 := ⟨some (a, false), some b, .bin .gtr (.t c) (.c (vi .i64 d))⟩
abbrev zm (a b : Nat) (c : Int) : Op1 := ⟨none, some a, .bin .eql (.t b) (.c (vi .i64 c))⟩
abbrev Bq (a b c d : Nat) : Op1 := ⟨none, some a, .call b true [.t c, .t d]⟩
abbrev Cm (a b : Nat) : Op1 := ⟨none, some a, .bin .neq (.t b) (.c (vi .u16 0))⟩
abbrev Co (a : Nat) : Op1 := ⟨none, some a, .mv (.c Zv)⟩
abbrev Gx (a b : Nat) : Op1 := ⟨none, some a, .eqn .ptr false (.t b)⟩
abbrev Eo  : Op1 := ⟨none, some 2, .mv (.c (.cv (.sc (.pointer none))))⟩
abbrev Gh (a b c : Nat) : Op1 := ⟨some (a, false), some b, .len false (.t c)⟩
abbrev Gv (a b : Nat) (c : Int) : Op1 := ⟨none, some a, .bin .gtr (.t b) (.c (vi .i64 c))⟩
abbrev Gk (a b c : Nat) : Op1 := ⟨none, some a, .bin .eql (.t b) (.t c)⟩
abbrev Hl (a b c d : Nat) : Op1 := ⟨some (a, true), some b, .fad c (.t d)⟩
abbrev Ju (a b c : Nat) : Op1 := ⟨some (a, true), some b, .ld false 1 (.t c)⟩
abbrev Jd (a : Nat) : Op1 := ⟨none, some a, .alloc [.cv (.sc (.int .i64 0)), .cv (.sc (.int .i64 0)), .cv (.sc (.int .i64 0))]⟩
abbrev Jy (a b c d : Nat) : Op1 := ⟨none, some a, .cpy b (.t c) (.t d)⟩
abbrev Je (a b c : Nat) (d : Int) : Op1 := ⟨none, some a, .iadA b 1 (.t c) (.c (vi .i64 d))⟩
abbrev Jh (a b c d : Nat) : Op1 := ⟨none, some a, .slL b (.t c) none (some (.t d)) none⟩
abbrev Kg (a b : Nat) : Op1 := ⟨none, some a, .mkif 23 (.t b)⟩
abbrev Lg (a b c : Nat) : Op1 := ⟨none, some a, .slA b 1 (.t c) none none⟩
abbrev Kt (a : Nat) : Op1 := ⟨none, some a, .alloc [.cv (.sc (.string ⟨#[]⟩)), .cv (.sc (.slice none 0 0))]⟩
abbrev Kp (a b : Nat) (c : Int) : Op1 := ⟨none, some a, .bin .shr (.t b) (.c (vi .u64 c))⟩
abbrev Rm (a b : Nat) (c : Int) : Op1 := ⟨none, some a, .bin .geq (.t b) (.c (vi .i64 c))⟩
abbrev Qd (a b : Nat) (c : Int) : Op1 := ⟨none, some a, .bin .sub (.t b) (.c (vi .i64 c))⟩
abbrev Qx (a b c : Nat) (d : Int) : Op1 := ⟨some (a, true), some b, .bin .eql (.t c) (.c (vi .i64 d))⟩
abbrev Qs (a b : Nat) : Op1 := ⟨none, some a, .mksl 1 1 [.cv (.sc (.slice none 0 0))] [(0, (1, .t b))] false⟩
abbrev Py (a b c : Nat) : Op1 := ⟨none, some a, .app 1 24 [.sc (.slice none 0 0)] (.t b) (.t c)⟩
abbrev Ru (a b c : Nat) : Op1 := ⟨none, some a, .bin .sub (.t b) (.t c)⟩
abbrev Qo (a b c : Nat) : Op1 := ⟨some (a, false), some b, .ld false 1 (.t c)⟩
abbrev Rv (a b : Nat) : Op1 := ⟨none, some a, .cvBS (.t b)⟩
abbrev Qg (a b c : Nat) : Op1 := ⟨none, some a, .app 2 40 [.sc (.string ⟨#[]⟩), .sc (.slice none 0 0)] (.t b) (.t c)⟩
abbrev Vc (a b c : Nat) : Op1 := ⟨some (a, true), some b, .len false (.t c)⟩
abbrev Tz (a : Nat) : Op1 := ⟨none, some a, .alloc [.cv (.sc (.slice none 0 0)), .cv (.sc (.slice none 0 0)), .cv (.sc (.int .i64 0)), .cv (.sc (.int .i64 0)), .cv (.sc (.bool false)), .cv (.sc (.int .i64 0))]⟩
abbrev Tn (a b c : Nat) : Op1 := ⟨some (a, false), some b, .un .not (.t c)⟩
abbrev Wd (a b c : Nat) : Op1 := ⟨none, some a, .bin .gtr (.t b) (.t c)⟩
abbrev Vg (a b c : Nat) (d : Int) : Op1 := ⟨none, some a, .call b false [.t c, .c (vi .i64 d)]⟩
abbrev Xa (a b : Nat) (c : Int) : Op1 := ⟨none, some a, .bin .rem (.t b) (.c (vi .u8 c))⟩
abbrev Yb (a : Nat) : Op1 := ⟨none, some a, .alloc [.cv (.sc (.string ⟨#[]⟩)), .cv (.sc (.slice none 0 0)), .cv (.sc (.bool false))]⟩
abbrev Xk (a b c : Nat) : Op1 := ⟨none, some a, .callv false (.t b) [.t c]⟩
abbrev Vo (a b c : Nat) : Op1 := ⟨none, some a, .bin .or (.t b) (.t c)⟩
abbrev Ta (a b : Nat) : Op1 := ⟨none, some a, .bin .eql (.t b) (.c (vi .u16 0))⟩
abbrev aa7 (a b : Nat) : Op1 := ⟨none, some a, .call b true []⟩
abbrev Zc (a b c : Nat) (d : Int) : Op1 := ⟨some (a, true), some b, .bin .gtr (.t c) (.c (vi .i64 d))⟩
abbrev Yo (a b c d : Nat) : Op1 := ⟨some (a, true), some b, .call c false [.t d]⟩
abbrev aa1 (a b : Nat) : Op1 := ⟨none, some a, .inv [(17, 116), (23, 29)] (.t b) []⟩
abbrev Yl (a b c : Nat) : Op1 := ⟨none, some a, .mkfn b [.t c]⟩
abbrev Zi (a b c d : Nat) : Op1 := ⟨some (a, false), some b, .fad c (.t d)⟩
abbrev aaj (a b c d e : Nat) : Op1 := ⟨none, some a, .call b false [.t c, .t d, .t e]⟩
abbrev abo (a b c d : Nat) : Op1 := ⟨none, some a, .iadA b 1 (.t c) (.t d)⟩
abbrev Yr (a b : Nat) (c : Int) : Op1 := ⟨none, some a, .bin .shl (.t b) (.c (vi .u64 c))⟩
abbrev Zn (a b c : Nat) (d : Int) : Op1 := ⟨none, some a, .call 99 true [.t b, .t c, .c (vi .i64 d)]⟩
abbrev Yq  : Op1 := ⟨none, some 6, .mv (.c amg)⟩
abbrev aes (a b c d : Nat) : Op1 := ⟨some (a, false), some b, .call c false [.t d]⟩
abbrev ad5 (a b c d e : Nat) : Op1 := ⟨some (a, true), some b, .iadL c (.t d) (.t e)⟩
abbrev adl (a b c d : Nat) : Op1 := ⟨some (a, false), some b, .pick (.t c) (.t d) (.c aay)⟩
abbrev ads (a b : Nat) : Op1 := ⟨none, some a, .mksl 1 1 [.cv (.sc (.int .u8 0))] [(0, (1, .t b))] false⟩
abbrev ahh (a b c : Nat) : Op1 := ⟨none, some a, .build [.cv (.sc (.string ⟨#[]⟩)), .cv (.sc (.slice none 0 0)), .cv (.sc (.bool false))] [(0, (1, .t b)), (1, (1, .t c))]⟩
abbrev agj (a b : Nat) : Op1 := ⟨none, some a, .mksl 3 1 [.cv (.sc (.string ⟨#[]⟩)), .cv (.sc (.slice none 0 0)), .cv (.sc (.bool false))] [(0, (3, .t b))] false⟩
abbrev afq (a b c : Nat) (d : Int) : Op1 := ⟨some (a, true), some b, .bin .eql (.t c) (.c (vi .u16 d))⟩
abbrev ag6 (a b c d : Nat) : Op1 := ⟨some (a, false), some b, .bin .gtr (.t c) (.t d)⟩
abbrev adz (a b c d e : Nat) : Op1 := ⟨none, some a, .call b true [.t c, .t d, .t e]⟩
abbrev aeg (a b c d : Nat) : Op1 := ⟨none, some a, .inv [(23, 31)] (.t b) [.t c, .t d]⟩
abbrev aed (a b : Nat) : Op1 := ⟨none, some a, .inv [(23, 32)] (.t b) []⟩
abbrev aen (a : Nat) (b : Int) (c : Nat) : Op1 := ⟨none, some a, .bin .sub (.c (vi .i64 b)) (.t c)⟩
abbrev ag7 (a : Nat) : Op1 := ⟨none, none, .st 1 (.t a) (.c (vi .i64 0))⟩
abbrev adk (a b : Nat) (c : Int) : Op1 := ⟨none, some a, .bin .quo (.t b) (.c (vi .i64 c))⟩
abbrev af5 (a b c d : Nat) : Op1 := ⟨some (a, true), some b, .bin .leq (.t c) (.t d)⟩
abbrev agk (a b c : Nat) : Op1 := ⟨none, some a, .build [.cv (.sc (.string ⟨#[]⟩)), .cv (.sc (.slice none 0 0))] [(0, (1, .t b)), (1, (1, .t c))]⟩
abbrev adr (a b : Nat) : Op1 := ⟨none, some a, .mksl 2 1 [.cv (.sc (.string ⟨#[]⟩)), .cv (.sc (.slice none 0 0))] [(0, (2, .t b))] false⟩
abbrev afn (a b : Nat) : Op1 := ⟨none, some a, .len true (.t b)⟩
abbrev ad4 (a : Nat) : Op1 := ⟨none, none, .panic (.t a)⟩
abbrev ade (a b c : Nat) (d : Int) : Op1 := ⟨some (a, true), some b, .bin .leq (.t c) (.c (vi .i64 d))⟩
abbrev ad8 (a : Nat) (b : Int) (c : Nat) : Op1 := ⟨none, some a, .bin .mul (.c (vi .i64 b)) (.t c)⟩
abbrev ae1 (a b : Nat) : Op1 := ⟨none, some a, .cap (.t b)⟩
abbrev aem (a : Nat) : Op1 := ⟨none, some a, .build [.cv (.sc (.string ⟨#[]⟩)), .cv (.sc (.slice none 0 0)), .cv (.sc (.bool false))] []⟩
abbrev afi (a b : Nat) (c : Int) : Op1 := ⟨none, some a, .bin .eql (.t b) (.c (vi .u8 c))⟩
abbrev agh (a b c : Nat) : Op1 := ⟨none, some a, .bin .xor (.t b) (.t c)⟩
abbrev akj (a b c : Nat) : Op1 := ⟨some (a, false), some b, .bin .neq (.t c) (.c (vi .u16 0))⟩
abbrev ajl (a b c : Nat) : Op1 := ⟨some (a, true), some b, .bin .sub (.t c) (.c (vi .i64 1))⟩
abbrev aka (a b c d : Nat) : Op1 := ⟨some (a, true), some b, .pick (.t c) (.c Zv) (.t d)⟩
abbrev ah7 (a b : Nat) (c : Int) : Op1 := ⟨none, some a, .bin .rem (.t b) (.c (vi .i64 c))⟩
abbrev ajg (a b : Nat) : Op1 := ⟨none, some a, .build [.cv (.sc (.string ⟨#[]⟩)), .cv (.sc (.slice none 0 0)), .cv (.sc (.bool false))] [(0, (1, .t b)), (2, (1, .c Zv))]⟩
abbrev akx (a b c : Nat) : Op1 := ⟨none, some a, .app 3 48 [.sc (.string ⟨#[]⟩), .sc (.slice none 0 0), .sc (.bool false)] (.t b) (.t c)⟩
abbrev ah8 (a b c d : Nat) : Op1 := ⟨none, some a, .bin .add (.t b) (.c (.cv (.sc (.complex .f64 c d))))⟩
abbrev ahs  : Op1 := ⟨none, some 9, .alloc [.cv (.sc (.int .i64 0))]⟩
abbrev aid (a b c d : Nat) : Op1 := ⟨none, some a, .build [.cv (.sc (.int .i64 0)), .cv (.sc (.int .i64 0)), .cv (.sc (.int .i64 0))] [(0, (1, .t b)), (1, (1, .t c)), (2, (1, .t d))]⟩
abbrev ahy (a b : Nat) : Op1 := ⟨none, some a, .bin .mul (.t b) (.c (vi .i64 4))⟩
abbrev ai7 (a : Nat) : Op1 := ⟨none, some a, .build [.cv (.sc (.slice none 0 0)), .cv (.sc (.slice none 0 0)), .cv (.sc (.int .i64 0)), .cv (.sc (.int .i64 0)), .cv (.sc (.bool false)), .cv (.sc (.int .i64 0))] []⟩
abbrev ajx (a b c : Nat) : Op1 := ⟨none, some a, .call b false [.c Sg, .t c]⟩
abbrev akh (a : Nat) : Op1 := ⟨none, some a, .mv (.c (.cv (.sc .nilFunc)))⟩
abbrev ahp (a : Nat) (b : Int) : Op1 := ⟨none, some a, .mksl 1 1 [.cv (.sc (.int .u8 0))] [(0, (1, .c (vi .u8 b)))] false⟩
abbrev aja (a : Nat) (b : Int) : Op1 := ⟨none, some a, .slA 60 1 (.t 11) (some (.c (vi .i64 b))) none⟩
abbrev ak2 (a b c : Nat) : Op1 := ⟨none, some a, .mks 1 1 [.sc (.int .u8 0)] (.t b) (.t c) true⟩
abbrev akn (a b : Nat) (c : Int) : Op1 := ⟨none, some a, .bin .gtr (.t b) (.c (vi .u8 c))⟩
abbrev ai4 (a b : Nat) : Op1 := ⟨none, some a, .bin .add (.c (vi .u8 97)) (.t b)⟩
abbrev aif  : Op1 := ⟨none, some 4, .eqn .slice false (.t 3)⟩
abbrev aj1 (a : Nat) : Op1 := ⟨none, none, .st 1 (.t a) (.c Sg)⟩
abbrev akl (a b c : Nat) : Op1 := ⟨none, some a, .slL 1 (.t b) (some (.c (vi .i64 11))) (some (.t c)) none⟩
abbrev ahx (a : Nat) : Op1 := ⟨none, some a, .alloc [.cv (.sc (.slice none 0 0))]⟩
abbrev ajv (a : Nat) : Op1 := ⟨none, some a, .mv (.c (vi .u32 0))⟩
abbrev aih (a b : Nat) (c : Int) : Op1 := ⟨none, some a, .bin .and (.t b) (.c (vi .u8 c))⟩
def f7_0 : IR := ai [ab 19 1, ik 20 23 19, ab 21 20, il 21 22 2, ⟨some (21, false), some 23, .len true (.t 22)⟩, zx 21 24 23 60,
 kr 25 21 24] (ct 25 (ai [aa7 26 12, ab 6 26] .ret) .skip)
def f7_1 : IR := ai [ab 31 7, Gx 32 31, ab 33 32, il 33 34 7, aes 33 35 11 34, akj 33 36 35, kr 37 33 36] (ct 37 (ai [ge 6] .ret) .skip)
def f7_2 : IR := ai [ab 43 10, Cm 44 43] (ct 44 (ai [ge 6] .ret) .skip)
def f7_3 : IR := ai [ab 57 9, ab 58 12, qh 59 14 57 58, Cm 60 59] (ct 60 (ai [aa7 61 12, ab 6 61] .ret) .skip)
def f7_4 : IR := .seq (ai [ab 65 13, Rm 66 65 0, ab 67 66, gm 67 68 13, gm 67 69 12, Vc 67 70 69, ajl 67 71 70, ⟨some (67, true), some 72,
 .bin .geq (.t 68) (.t 71)⟩, ly 73 67 72] (ct 73 .skip (.exit 2))) (.seq (.block 3 (ai [ab 77 9, ab 78 12, ab 79 13, ga 80 3 78 79, bi 81 0 80, au 82 81,
 qh 83 25 77 82, ab 76 83, bo 84 76 0, bo 85 76 1, ab 14 84, ab 15 85] (.seq (.draw [(ab 86 15,.p), (ab 87 12,.p), (ab 88 13,.p), (ga 89 3 87 88,
 .r 0 0), (bi 90 2 89,.p), (au 91 90, .r 0 0), (⟨none, some 92, .eqb false (.t 86) (.t 91)⟩, .p), (ab 93 92,.p), (il 93 94 15,.p), (il 93 95 94,.p),
 (gm 95 96 14,.p), (⟨some (95, true), some 97, .cvBS (.t 96)⟩, .r 0 0), (gm 95 98 12,.p), (gm 95 99 13,.p), (ad5 95 100 3 98 99, .r 0 0), (Hl 95 101 1 100,.p),
 (Ju 95 102 101, .r 0 0), (⟨some (95, true), some 103, .cvBS (.t 102)⟩, .r 0 0), (⟨some (95, true), some 104, .bin .neq (.t 97) (.t 103)⟩, .p), (adl 93 105 95 104,.p),
 (kr 106 93 105,.p)]) (ct 106 (ai [ge 6] .ret) .skip)))) (.reg [ab 74 13, Qd 75 74 1, ab 13 75]))
def f7_5 : IR := .seq (ai [ab 45 11, ab 46 1, de 47 46, jm 48 45 47] (ct 48 .skip (.exit 0))) (.seq (.block 1 (ai [ab 51 1, ab 52 11, ga 53 4 51 52,
 bi 54 1 53, au 55 54, ⟨none, some 56, .call 24 true [.t 55, .c (vi .i64 6)]⟩, ab 12 56] (.seq f7_3 (ai [ab 62 12, de 63 62, Qd 64 63 1,
 ab 13 64] (.block 2 (.loop f7_4)))))) (.reg [ab 49 11, en 50 49 1, ab 11 50]))
def f7 : FnIR := ⟨141, [.t 6], ai [ge 6] (.seq f7_0 (ai [⟨none, some 28, .call 17 false [.c (vi .u8 5)]⟩, ab 27 28, bo 29 27 0, bo 30 27 1, Tz 8, ab 7 29,
 ce 6 8 30] (.seq f7_1 (ai [ab 39 7, my 40 13 39, ab 38 40, bo 41 38 0, bo 42 38 1, ab 9 41,
 ab 10 42] (.seq f7_2 (.seq (ai [bz 11 0] (.block 0 (.loop f7_5))) (ai [ab 107 9, ab 108 2, ab 109 0, ads 110 109, ahh 111 108 110, agj 112 111,
 qh 113 14 107 112, ab 16 113] (ai [ab 115 9, ab 116 2, qh 117 25 115 116, ab 114 117, bo 118 114 0, bo 119 114 1, ab 17 118,
 ab 18 119] (ai [aa7 120 12, ab 121 120, gm 121 122 16, afq 121 123 122 3, gm 121 124 2, ⟨some (121, true), some 125, .len true (.t 124)⟩, Zc 121 126 125 30,
 ⟨some (121, true), some 127, .eqb false (.t 123) (.t 126)⟩, ly 128 121 127, ab 129 128, gm 129 130 16, ⟨some (129, true), some 131, .bin .neq (.t 130) (.c (vi .u16 0))⟩,
 gm 129 132 131, il 132 133 18, il 132 134 133, gm 134 135 17, Vc 134 136 135, Qx 134 137 136 1, adl 132 138 134 137, aka 129 139 132 138, ly 140 129 139,
 ab 6 140] .ret)))))))))⟩
def f10_0 : IR := ai [ab 3 0, qc 4 3 0, ab 5 4, il 5 6 0, zx 5 7 6 4096, kr 8 5 7] (ct 8 (ai [Eo] .ret) .skip)
def f10 : FnIR := ⟨13, [.t 2], ai [Eo] (.seq f10_0 (ai [ab 9 0, ⟨none, some 10, .mks 64 64 (List.replicate 64 (.sc (.int .u8 0))) (.t 9) (.t 9) true⟩, ⟨none, some 11,
 .build [.cv (.sc (.slice none 0 0)), .cv (.sc (.slice none 0 0)), .cv (.sc (.complex .f64 0 0)), .cv (.sc (.bool false)), .cv (.sc (.int .i64 0))] [(0, (1, .t 10))]⟩,
 qb 12 5 11, ab 2 12] .ret))⟩
def f11_0 : IR := ai [ab 8 0, my 9 29 8, qc 10 9 64] (ct 10 (ai [dm 2 20] .ret) .skip)
def f11_1 : IR := ct 20 .skip (.exit 0)
def f11_2 : IR := ai [jm 20 19 18] (.seq f11_1 (.seq (.block 1 (ai [ab 21 19, ab 5 21] (.reg [ab 22 0, ab 23 5, ⟨none, some 24, .call 31 false [.t 22, .t 23,
 .c Sg]⟩]))) (.reg [en 25 19 1, ab 19 25])))
def f11 : FnIR := ⟨38, [.t 2], ai [dm 2 0] (.seq f11_0 (ai [ab 12 0, my 13 29 12, ik 14 30 13, ab 11 14, bo 15 11 0, bo 16 11 1, ab 3 15,
 ab 4 16] (.seq (ai [ab 17 3, yr 18 2 17, bz 19 0] (.block 0 (.loop f11_2))) (ai [ab 26 0, my 27 32 26] (ai [ab 29 0, Kg 30 29, ⟨none, some 31,
 .call 33 false [.t 30, .c Sg]⟩, ab 28 31, bo 32 28 0, bo 33 28 1, ab 6 32, ab 7 33] (ai [ab 34 0, Kg 35 34, ab 36 6, ⟨none, some 37,
 .call 34 false [.t 35, .t 36, .c (vi .i64 0), .c (vi .i64 1)]⟩] (ai [dm 2 0] .ret)))))))⟩
def f12_0 : IR := ai [ab 11 3, Gx 12 11, ab 13 12, il 13 14 3, aes 13 15 11 14, akj 13 16 15, kr 17 13 16] (ct 17 (ai [ge 0] .ret) .skip)
def f12 : FnIR := ⟨57, [.t 0], ai [ge 0] (ai [⟨none, some 7, .call 30 true [.c (vi .i64 64)]⟩, ab 6 7, bo 8 6 0, bo 9 6 1, ab 1 8, ab 2 9] (ai [⟨none,
 some 10, .call 10 false [.c (vi .i64 64)]⟩, ab 3 10] (.seq f12_0 (ai [ab 19 3, my 20 13 19, ab 18 20, bo 21 18 0, bo 22 18 1, ab 4 21,
 ab 5 22] (ai [ab 23 1, zm 24 23 16, ab 25 24, gm 25 26 2, Qx 25 27 26 5, ly 28 25 27, ab 29 28, gm 29 30 5, afq 29 31 30 0, ly 32 29 31,
 ab 33 32, gm 33 34 4, Yo 33 35 20 34, Qx 33 36 35 2, ly 37 33 36, ab 38 37, gm 38 39 4, Yo 38 40 16 39, Vc 38 41 40, Qx 38 42 41 0, ly 43 38 42,
 ab 44 43, gm 44 45 4, ⟨some (44, true), some 46, .build [.cv (.sc (.string ⟨#[]⟩)), .cv (.sc (.slice none 0 0)), .cv (.sc (.bool false))] [(0, (1,
 .c (.cv (.sc (.string ⟨#[97]⟩)))))]⟩, ⟨some (44, true), some 47, .mksl 3 1 [.cv (.sc (.string ⟨#[]⟩)), .cv (.sc (.slice none 0 0)), .cv (.sc (.bool false))] [(0, (3,
 .t 46))] false⟩, ⟨some (44, true), some 48, .call 14 false [.t 45, .t 47]⟩, afq 44 49 48 0, ly 50 44 49, ab 51 50, gm 51 52 4, Yo 51 53 16 52, Vc 51 54 53,
 Qx 51 55 54 1, ly 56 51 55, ab 0 56] .ret)))))⟩
def f13_0 : IR := ai [ab 17 0, my 18 29 17, qc 19 18 64] (ct 19 (ai [Eo, dm 3 20] .ret) .skip)
def f13_1 : IR := ai [ab 26 5, oq 27 26] (ct 27 (ai [Eo, dm 3 11] .ret) .skip)
def f13_2 : IR := ai [ab 35 7, Cm 36 35] (ct 36 (ai [ab 37 7, Eo, ab 3 37] .ret) .skip)
def f13_3 : IR := ct 57 .skip (.exit 0)
def f13_4 : IR := ai [jm 57 56 55] (.seq f13_3 (.seq (.block 1 (ai [ga 58 1 54 56, au 59 58, ab 13 59] (.reg [ab 60 6, ab 61 13, Bq 62 39 60 61,
 ab 6 62]))) (.reg [en 63 56 1, ab 56 63])))
def f13 : FnIR := ⟨87, [.t 2, .t 3], ai [Eo, dm 3 0] (.seq f13_0 (ai [ab 21 0, Kg 22 21, my 23 35 22, ab 20 23, bo 24 20 0, bo 25 20 1, Jd 4,
 ce 3 4 24, ab 5 25] (.seq f13_1 (ai [ab 29 0, Kg 30 29, jd 31 3 4, qh 32 36 30 31, ab 28 32, bo 33 28 0, bo 34 28 1, ab 6 33,
 ab 7 34] (.seq f13_2 (ai [ab 39 0, my 40 29 39, ik 41 30 40, ab 38 41, bo 42 38 0, bo 43 38 1, ab 8 42, ab 9 43] (.seq (.draw [(bi 45 0 4,.p),
 (au 46 45, xv), (ab 47 0,.p), (Kg 48 47,.p), (ab 49 8,.p), (⟨none, some 50, .call 38 false [.t 48, .c (vi .i64 2), .t 49]⟩, .k), (Bq 51 37 46 50,.k),
 (ab 44 51,.p), (bo 52 44 0,.p), (bo 53 44 1,.p), (ab 10 52,.p), (ab 11 53,.p)]) (.seq (ai [ab 54 10, de 55 54,
 bz 56 0] (.block 0 (.loop f13_4))) (.seq (ai [ab 65 0, Kg 66 65, ab 67 6, qh 68 33 66 67, ab 64 68, bo 69 64 0, bo 70 64 1, ab 14 69,
 ab 15 70] (.block 2 (ai [ab 72 15, oq 73 72, ab 71 73] (ct 71 (ai [Eo, dm 3 21] .ret) (ai [bi 75 0 4, au 76 75, zm 77 76 1073741824,
 ab 74 77] (ct 74 (ai [Eo, dm 3 32] .ret) .skip)))))) (ai [ab 78 0, Kg 79 78, ab 80 6, jd 81 3 4, ⟨none, some 82, .build [.cv (.sc .nilIface),
 .cv (.sc (.slice none 0 0)), .cv (.sc (.int .i64 0)), .cv (.sc (.int .i64 0)), .cv (.sc (.int .i64 0)), .cv (.sc (.int .i64 0)), .cv (.sc (.int .i64 0))] [(0, (1, .t 79)), (1, (1,
 .t 80)), (2, (3, .t 81))]⟩, qb 83 7 82, ab 16 83] (ai [ab 84 16, ab 85 16, my 86 15 85, ab 2 84, ab 3 86] .ret)))))))))))⟩
def f14_0 : IR := ai [ab 63 9, oq 64 63, ab 65 64, il 65 66 11, Tn 65 67 66, kr 68 65 67, ab 69 68, il 69 70 10, Gh 69 71 70, il 69 72 6,
 ag6 69 73 71 72, kr 74 69 73] (ct 74 (ai [dm 4 21] .ret) .skip)
def f14_1 : IR := ai [ab 75 0, eh 76 75, bi 77 5 76, au 78 77, ab 79 10, de 80 79, ls 81 78 80, ab 82 6, Wd 83 81 82] (ct 83 (.seq (ai [ab 84 0,
 my 85 15 84, ab 12 85] (ai [ab 86 12, Cm 87 86] (ct 87 (ai [ab 88 12, ab 4 88] .ret) .skip))) (.draw [(ab 90 0,.p), (eh 91 90,.p), (bi 92 2 91,.p),
 (bi 93 0 92,.p), (au 94 93, .r 0 0), (ab 95 0,.p), (eh 96 95,.p), (bi 97 6 96,.p), (au 98 97, .r 0 0), (ab 99 1,.p), (adz 100 19 94 98 99, .r 0 0),
 (ab 89 100,.p), (bo 101 89 0,.p), (bo 102 89 1,.p), (ab 10 101,.p)])) .skip)
def f14_2 : IR := ct 106 .skip (.exit 1)
def f14_3 : IR := ai [jm 106 105 104] (.seq f14_2 (.seq (.block 2 (ai [ab 107 105, ga 108 1 103 105, au 109 108, ab 13 107,
 ab 14 109] (.draw [(ab 110 0,.p), (eh 111 110,.p), (bi 112 0 111,.p), (au 113 112, .r 0 0), (ab 114 0,.p), (eh 115 114,.p), (bi 116 5 115,.p),
 (au 117 116, .r 0 0), (yr 118 2 117,.p), (ab 119 13,.p), (ls 120 118 119,.p), (ab 121 14,.p), (eh 122 113,.p), (ab 123 113,.p),
 (aeg 124 123 120 121,.k)]))) (.reg [en 125 105 1, ab 105 125])))
def f14 : FnIR := ⟨152, [.t 4], ai [dm 4 0] (.seq (.block 0 (ai [ab 16 0, Gx 17 16, ab 15 17] (ct 15 (ai [dm 4 30] .ret) (ai [ab 19 1, de 20 19,
 zm 21 20 0, ab 18 21] (ct 18 (ai [dm 4 0] .ret) (ai [ab 23 1, ⟨none, some 24, .call 40 true [.t 23, .c (.func 41 [])]⟩,
 ab 22 24] (ct 22 (ai [dm 4 3] .ret) .skip))))))) (ai [ab 25 0, eh 26 25, bi 27 1 26, au 28 27, ab 29 1, Bq 30 39 28 29, ab 5 30] (ai [ab 32 0,
 eh 33 32, bi 34 0 33, au 35 34, aa1 36 35, ik 37 30 36, ab 31 37, bo 38 31 0, bo 39 31 1, ab 6 38, ab 7 39] (ai [ab 41 0, eh 42 41,
 bi 43 0 42, au 44 43, ab 45 5, qh 46 33 44 45, ab 40 46, bo 47 40 0, bo 48 40 1, ab 8 47, ab 9 48] (.seq (.draw [(ab 50 0,.p), (eh 51 50,.p),
 (bi 52 2 51,.p), (bi 53 0 52,.p), (au 54 53, .r 0 0), (ab 55 0,.p), (eh 56 55,.p), (bi 57 6 56,.p), (au 58 57, .r 0 0), (ab 59 1,.p), (adz 60 19 54 58 59,
 .r 0 0), (ab 49 60,.p), (bo 61 49 0,.p), (bo 62 49 1,.p), (ab 10 61,.p), (ab 11 62,.p)]) (.seq f14_0 (.seq f14_1 (.seq (ai [ab 103 10, de 104 103,
 bz 105 0] (.block 1 (.loop f14_3))) (ai [ab 126 0, eh 127 126, bi 128 0 127, au 129 128, aed 130 129] (ai [ab 131 0, ab 132 0, ab 133 5, ab 134 0,
 eh 135 134, bi 136 5 135, au 137 136, ab 138 10, de 139 138, ls 140 137 139, eh 141 131, bi 142 1 141, ce 1 142 133, eh 143 132, bi 144 5 143,
 ce 1 144 140] (ai [ab 145 0, eh 146 145, bi 147 6 146, au 148 147, en 149 148 1, eh 150 145, bi 151 6 150,
 ce 1 151 149] (ai [dm 4 0] .ret))))))))))))⟩
def f15 : FnIR := ⟨54, [.t 2], ai [dm 2 0] (.seq (.block 0 (ai [ab 6 0, Gx 7 6, ab 5 7] (ct 5 (ai [dm 2 30] .ret) (ai [ab 9 0, eh 10 9, bi 11 2 10,
 bi 12 0 11, au 13 12, zm 14 13 1073741824, ab 8 14] (ct 8 (ai [dm 2 32] .ret) .skip))))) (.seq (.draw [(ab 16 0,.p), (eh 17 16,.p), (bi 18 0 17,.p),
 (au 19 18, .r 0 0), (ab 20 0,.p), (eh 21 20,.p), (bi 22 1 21,.p), (au 23 22, .r 0 0), (qh 24 33 19 23,.k), (ab 15 24,.p), (bo 25 15 0,.p),
 (bo 26 15 1,.p), (ab 3 25,.p), (ab 4 26,.p)]) (.seq (.draw [(ab 27 0,.p), (ab 28 0,.p), (eh 29 28,.p), (bi 30 0 29,.p), (au 31 30, .r 0 0), (ab 32 3,.p),
 (ab 33 0,.p), (eh 34 33,.p), (bi 35 2 34,.p), (bi 36 1 35,.p), (au 37 36, .r 0 0), (aen 38 1 37,.p), (ab 39 0,.p), (eh 40 39,.p), (bi 41 2 40,.p),
 (bi 42 0 41,.p), (au 43 42, .r 0 0), (en 44 43 1,.p), (⟨none, some 45, .call 34 false [.t 31, .t 32, .t 38, .t 44]⟩,.k), (eh 46 27,.p), (bi 47 2 46,.p),
 (ce 3 47 45,.k)]) (ai [ab 48 0, ab 49 0, eh 50 48, bi 51 5 50, ag7 51, eh 52 49, bi 53 6 52, ag7 53] (ai [dm 2 0] .ret)))))⟩
def f16_0 : IR := ai [ab 3 0, Gx 4 3] (ct 4 (ai [db 2] .ret) .skip)
def f16 : FnIR := ⟨10, [.t 2], ai [db 2] (.seq f16_0 (ai [ab 5 0, eh 6 5, bi 7 1 6, au 8 7, ik 9 42 8, ab 2 9] .ret))⟩
def f17 : FnIR := ⟨18, [.t 2, .cell 3 true 6], ai [Eo, Tz 3] (ai [ab 7 0, ik 8 22 7, my 9 10 8, ab 4 9] (ai [ab 11 0, ik 12 22 11, ik 13 43 12,
 ab 10 13, bo 14 10 0, bo 15 10 1, Tz 5, ce 6 5 14, ab 6 15] (.seq (.draw [(ab 16 4,.p), (jd 17 6 5, .r 0 0), (ab 2 16,.p), (ce 6 3 17,.k)]) .ret)))⟩
def f19_0 : IR := ai [ab 16 0, ik 17 47 16, oq 18 17, ab 19 18, il 19 20 1, ⟨some (19, false), some 21, .call 47 true [.t 20]⟩, Tn 19 22 21, kr 23 19 22,
 ab 24 23, il 24 25 8, Gh 24 26 25, zx 24 27 26 200, kr 28 24 27] (ct 28 (ai [db 6, ge 7] .ret) .skip)
def f19_1 : IR := ct 32 .skip (.exit 0)
def f19_2 : IR := ai [jm 32 31 30] (.seq f19_1 (.seq (.block 1 (ai [ab 33 31, ga 34 1 29 31, au 35 34, ab 10 33, ab 11 35] (.reg [ab 36 9, ab 37 0,
 ab 38 1, ab 39 10, ab 40 8, de 41 40, ab 42 11, ⟨none, some 43, .call 48 true [.t 37, .t 38, .t 39, .t 41, .t 42]⟩, Qs 44 43, Py 45 36 44,
 ab 9 45]))) (.reg [en 46 31 1, ab 31 46])))
def f19 : FnIR := ⟨48, [.t 6, .t 7], ai [db 6, ge 7] (ai [ab 12 2, ik 13 46 12, Vg 14 45 13 49, my 15 44 14,
 ab 8 15] (.seq f19_0 (ai [db 9] (.seq (ai [ab 29 8, de 30 29, bz 31 0] (.block 0 (.loop f19_2))) (ai [ab 47 9, ab 6 47, Co 7] .ret)))))⟩
def f20_0 : IR := ai [ab 3 0, Gx 4 3] (ct 4 (ai [bz 2 0] .ret) .skip)
def f20 : FnIR := ⟨10, [.t 2], ai [bz 2 0] (.seq f20_0 (ai [ab 5 0, eh 6 5, bi 7 2 6, bi 8 0 7, au 9 8, ab 2 9] .ret))⟩
def f22 : FnIR := ⟨8, [.t 2], ai [bz 2 0] (ai [⟨none, some 3, .mksl 1 6 [.cv (.sc (.int .i64 0)), .cv (.sc (.int .i64 0)), .cv (.sc (.int .i64 0)), .cv (.sc (.int .i64 0)),
 .cv (.sc (.int .i64 0)), .cv (.sc (.int .i64 0))] [(0, (1, .c (vi .i64 64))), (1, (1, .c (vi .i64 65))), (2, (1, .c (vi .i64 80))), (3, (1, .c (vi .i64 100))), (4, (1,
 .c (vi .i64 128))), (5, (1, .c (vi .i64 200)))] false⟩, ab 4 0, Xa 5 4 6, ga 6 1 3 5, au 7 6, ab 2 7] .ret)⟩
def f23_0 : IR := .seq (ai [ab 5 4, ab 6 0, de 7 6, jm 8 5 7] (ct 8 .skip (.exit 0))) (.seq (.block 1 (.draw [(ab 11 3,.p), (ab 12 0,.p), (ab 13 4,.p),
 (ga 14 4 12 13, .r 0 0), (bi 15 1 14,.p), (au 16 15, .r 0 0), (de 17 16,.p), (yr 18 1 17,.p), (ab 19 0,.p), (ab 20 4,.p), (ga 21 4 19 20, .r 0 0),
 (bi 22 2 21,.p), (au 23 22, .r 0 0), (de 24 23,.p), (adk 25 24 8,.p), (ls 26 18 25,.p), (ls 27 11 26,.p), (ab 3 27,.p)])) (.reg [ab 9 4, en 10 9 1,
 ab 4 10]))
def f23 : FnIR := ⟨30, [.t 2], ai [ge 2] (ai [bz 3 0] (.seq (ai [bz 4 0] (.block 0 (.loop f23_0))) (ai [ab 28 3, Gv 29 28 200, ab 2 29] .ret)))⟩
def f24_0 : IR := ai [bi 29 1 8, au 30 29, de 31 30, ah7 32 31 4, zm 33 32 0] (ct 33 (.reg [bi 34 0 8, au 35 34, ajg 36 35, ce 3 8 36]) .skip)
def f24_1 : IR := .seq (ai [ab 12 7, ab 13 6, de 14 13, jm 15 12 14] (ct 15 .skip (.exit 0))) (.seq (.block 1 (.seq (.draw [(ab 18 6,.p), (ab 19 7,.p),
 (ga 20 2 18 19, xv), (bi 21 0 20,.p), (au 22 21, xv), (ab 23 6,.p), (ab 24 7,.p), (ga 25 2 23 24, xv), (bi 26 1 25,.p), (au 27 26, xv),
 (ahh 28 22 27,.p), (Yb 8,.k), (ce 3 8 28,.k)]) (.seq f24_0 (.reg [ab 37 5, jd 38 3 8, agj 39 38, akx 40 37 39, ab 5 40])))) (.reg [ab 16 7, en 17 16 1,
 ab 7 17]))
def f24 : FnIR := ⟨42, [.t 4], ai [db 4] (ai [db 5] (ai [ab 9 0, ab 10 1, Bq 11 49 9 10,
 ab 6 11] (.seq (ai [bz 7 0] (.block 0 (.loop f24_1))) (ai [ab 41 5, ab 4 41] .ret))))⟩
def f25_0 : IR := ai [ab 7 0, Gx 8 7] (ct 8 (ai [db 4, ge 5] .ret) .skip)
def f25_1 : IR := ai [ab 15 6, qc 16 15 0] (ct 16 (ai [db 4, ge 5] .ret) .skip)
def f25 : FnIR := ⟨26, [.t 4, .t 5], ai [qb 3 1 1, db 4, ge 5] (.seq f25_0 (ai [ab 9 0, eh 10 9, bi 11 1 10, au 12 11, Yl 13 51 3, qh 14 50 12 13,
 ab 6 14] (.seq f25_1 (ai [ab 17 0, eh 18 17, bi 19 1 18, au 20 19, ab 21 6, ga 22 2 20 21, bi 23 1 22, au 24 23, ik 25 52 24, ab 4 25,
 Co 5] .ret))))⟩
def f29_0 : IR := ai [ab 3 0, Gx 4 3] (ct 4 (ai [bz 2 0] .ret) .skip)
def f29 : FnIR := ⟨10, [.t 2], ai [bz 2 0] (.seq f29_0 (ai [ab 5 0, eh 6 5, bi 7 0 6, au 8 7, de 9 8, ab 2 9] .ret))⟩
def f30_0 : IR := ai [ab 5 0, qc 6 5 64] (ct 6 (ai [bz 2 0, bz 3 0] .ret) .skip)
def f30 : FnIR := ⟨15, [.t 2, .t 3], ai [bz 2 0, bz 3 0] (.seq f30_0 (ai [ab 7 0, adk 8 7 4, ab 4 8] (ai [ab 9 4, ab 10 0, Qd 11 10 2, ab 12 4,
 Ru 13 11 12, adk 14 13 8, ab 2 9, ab 3 14] .ret)))⟩
def f31_0 : IR := ai [ab 17 0, my 18 57 17, oq 19 18] (ct 19 (ai [dm 6 0] .ret) .skip)
def f31 : FnIR := ⟨43, [.t 6], ai [dm 6 0] (.seq (.block 0 (ai [ab 9 0, ab 10 1, qh 11 56 9 10, oq 12 11,
 ab 8 12] (ct 8 (ai [dm 6 20] .ret) (ai [ab 14 2, de 15 14, Gv 16 15 64, ab 13 16] (ct 13 (ai [dm 6 3] .ret) .skip))))) (.seq f31_0 (ai [ab 20 1,
 ⟨none, some 21, .build ((.cv (.sc (.int .i64 0))) :: List.replicate 64 (.cv (.sc (.int .u8 0)))) [(0, (1, .t 20))]⟩, ⟨none, some 7,
 .alloc ((.cv (.sc (.int .i64 0))) :: List.replicate 64 (.cv (.sc (.int .u8 0))))⟩, ce 65 7 21] (ai [bi 22 1 7, Lg 23 64 22, ab 24 2,
 Jy 25 1 23 24] (.seq (.draw [(ab 26 0,.p), (ab 27 0,.p), (eh 28 27,.p), (bi 29 1 28,.p), (au 30 29, .r 0 0), (jd 31 65 7, .r 0 0), (⟨none, some 32,
 .mksl 65 1 ((.cv (.sc (.int .i64 0))) :: List.replicate 64 (.cv (.sc (.int .u8 0)))) [(0, (65, .t 31))] false⟩, .r 0 0), (⟨none, some 33,
 .app 65 72 ((.sc (.int .i64 0)) :: List.replicate 64 (.sc (.int .u8 0))) (.t 30) (.t 32)⟩, .k), (eh 34 26,.p), (bi 35 1 34,.p), (ce 1 35 33,.k)]) (ai [ab 36 0,
 eh 37 36, bi 38 2 37, au 39 38, ah8 40 39 4607182418800017408 0, eh 41 36, bi 42 2 41, ce 1 42 40] (ai [dm 6 0] .ret)))))))⟩
def f32_0 : IR := ai [ab 2 0, Gx 3 2, ab 4 3, il 4 5 0, aes 4 6 57 5, Tn 4 7 6, kr 8 4 7] (ct 8 .ret .skip)
def f32 : FnIR := ⟨18, [], .seq f32_0 (ai [ab 9 0, ⟨none, some 10, .call 54 false [.t 9, .c (.func 58 [])]⟩] (.reg [ab 11 0, eh 12 11, bi 13 2 12, au 14 13,
 ah8 15 14 0 4607182418800017408, eh 16 11, bi 17 2 16, ce 1 17 15]))⟩
def f33 : FnIR := ⟨29, [.t 4, .t 5], ai [db 4, ge 5] (ai [ab 11 0, aa1 12 11, ik 13 30 12, ab 10 13, bo 14 10 0, bo 15 10 1, ab 6 14,
 ab 7 15] (ai [ab 17 1, ik 18 59 17, ab 16 18, bo 19 16 0, bo 20 16 1, ab 8 19, ab 9 20] (ai [ab 21 8, ab 22 9, ab 23 22, gm 23 24 8,
 Vc 23 25 24, gm 23 26 7, af5 23 27 25 26, ly 28 23 27, ab 4 21, ab 5 28] .ret)))⟩
def f34_0 : IR := .reg [ab 10 18]
def f34_1 : IR := .block 1 (ai [au 19 4, au 20 9, ab 21 10, aeg 22 19 20 21] (.reg [au 23 9, en 24 23 1, ce 1 9 24]))
def f34 : FnIR := ⟨44, [.cell 8 true 3], ai [qb 4 1 0, Jd 8] (ai [au 12 4, ab 13 2, qh 14 60 12 13, ahs, ce 1 9 14] (.seq (ai [ab 15 1, ik 16 61 15,
 Vg 17 45 16 64] (.block 0 (.rangeF (.t 17) [18] f34_0 f34_1))) (ai [au 25 4, aed 26 25] (ai [ab 27 3, ab 28 2, ab 29 1, de 30 29, aid 31 27 28 30,
 Jd 11, ce 3 11 31] (.seq (.draw [(au 32 4, .r 0 0), (ab 33 3,.p), (ah7 34 33 2,.p), (jd 35 3 11, .r 0 0), (ik 36 62 35, .r 0 0), (⟨none, some 37,
 .mkmv "Write" (.t 32)⟩, .p), (⟨none, some 38, .nilckM "Write" [23] (.t 37)⟩, .p), (ab 39 32,.p), (aeg 40 39 34 36,.k)]) (ai [au 41 4, aed 42 41] (ai [jd 43 3 11,
 ce 3 8 43] .ret)))))))⟩
def f35_0 : IR := ai [ab 18 7, ab 19 18, gm 19 20 5, ⟨some (19, true), some 21, .un .not (.t 20)⟩, gm 19 22 21, Zi 22 23 0 6, Qo 22 24 23, Zi 22 25 0 4,
 Qo 22 26 25, ag6 22 27 24 26, aka 19 28 22 27, ly 29 19 28] (ct 29 (ai [jd 30 3 6, ce 3 2 30, Co 3] .ret) .skip)
def f35 : FnIR := ⟨33, [.cell 2 true 3, .t 3], ai [Jd 2, ge 3] (ai [ab 9 0, Vg 10 63 9 0, ab 8 10, bo 11 8 0, bo 12 8 1, Jd 4, ce 3 4 11,
 ab 5 12] (ai [ab 14 0, Vg 15 63 14 1, ab 13 15, bo 16 13 0, bo 17 13 1, Jd 6, ce 3 6 16, ab 7 17] (.seq f35_0 (ai [jd 31 3 4, ab 32 5,
 ce 3 2 31, ab 3 32] .ret))))⟩
def f36 : FnIR := ⟨23, [.t 4, .t 5], ai [qb 3 3 1, db 4, dm 5 0] (.seq (.draw [(ab 7 0,.p), (ab 8 0,.p), (bi 9 1 3,.p), (au 10 9, .r 0 0),
 (qh 11 60 8 10,.k), (bi 12 2 3,.p), (au 13 12, xv), (ahy 14 13,.p), (aaj 15 38 7 11 14,.k), (ik 16 61 15,.k), (ab 6 16,.p)]) (ai [ab 17 6,
 Vg 18 45 17 256, my 19 44 18, ik 20 64 19, bo 21 20 0, bo 22 20 1, ab 4 21, ab 5 22] .ret))⟩
def f37_0 : IR := ai [ab 22 9, zm 23 22 0] (ct 23 (.exit 0) .skip)
def f37_1 : IR := .seq (ai [ab 10 0, ik 11 47 10] (ct 11 .skip (.exit 0))) (.block 1 (ai [ab 13 0, ab 14 6, de 15 14, ab 16 1, ab 17 7, vy 18 1 16 17,
 aaj 19 65 13 15 18, ab 12 19, bo 20 12 0, bo 21 12 1, ab 8 20, ab 9 21] (.seq f37_0 (.reg [ab 24 6, ab 25 8, Qs 26 25, Py 27 24 26, ab 28 7,
 ab 29 9, ls 30 28 29, ab 6 27, ab 7 30]))))
def f37 : FnIR := ⟨33, [.t 4, .t 5], ai [db 4, bz 5 0] (ai [db 6] (ai [bz 7 0] (.seq (.block 0 (.loop f37_1)) (ai [ab 31 6, ab 32 7, ab 4 31,
 ab 5 32] .ret))))⟩
def f38_0 : IR := ct 13 .skip (.exit 0)
def f38_1 : IR := ai [jm 13 12 11] (.seq f38_0 (.seq (.block 1 (ai [ab 14 12, ab 8 14] (ai [ab 16 0, ab 17 1, ab 18 8, ls 19 17 18, ⟨none, some 20,
 .inv [(23, 119)] (.t 16) [.t 19]⟩, ab 15 20, bo 21 15 0, bo 22 15 1, ab 9 21, ab 10 22] (.reg [ab 23 7, ab 24 9, Qs 25 24, Py 26 23 25,
 ab 7 26])))) (.reg [en 27 12 1, ab 12 27])))
def f38 : FnIR := ⟨29, [.t 6], ai [db 6] (ai [db 7] (.seq (ai [ab 11 2, bz 12 0] (.block 0 (.loop f38_1))) (ai [ab 28 7, ab 6 28] .ret)))⟩
def f39_0 : IR := ct 14 .skip (.exit 0)
def f39_1 : IR := ai [bi 20 2 7, au 21 20] (ct 21 (.exit 1) .skip)
def f39_2 : IR := ai [ab 25 8, qc 26 25 0] (ct 26 (.reg [ab 27 5, de 28 27, ab 8 28]) .skip)
def f39_3 : IR := ai [jm 14 13 12] (.seq f39_0 (.seq (.block 1 (ai [ga 15 3 11 13, jd 16 3 15, Yb 7, ce 3 7 16] (ai [ab 17 5, Yl 18 68 7,
 qh 19 67 17 18, ab 5 19] (.seq f39_1 (ai [ab 22 5, Yl 23 69 7, qh 24 50 22 23, ab 8 24] (.seq f39_2 (.draw [(ab 29 5,.p), (ab 30 8,.p), (bi 31 0 7,.p),
 (au 32 31, .r 0 0), (bi 33 1 7,.p), (au 34 33, .r 0 0), (ik 35 52 34, .r 0 0), (agk 36 32 35,.p), (adr 37 36, .r 0 0), (aaj 38 70 29 30 37,.k),
 (ab 5 38,.p)]))))))) (.reg [en 39 13 1, ab 13 39])))
def f39 : FnIR := ⟨41, [.t 4], ai [db 4] (ai [ab 9 0, my 10 66 9, ab 5 10] (.seq (ai [ab 11 1, de 12 11,
 bz 13 0] (.block 0 (.loop f39_3))) (ai [ab 40 5, ab 4 40] .ret)))⟩
def f40 : FnIR := ⟨9, [.t 4], ai [ge 4] (ai [ab 5 0, ab 6 1, Bq 7 71 5 6, Rm 8 7 0, ab 4 8] .ret)⟩
def f41 : FnIR := ⟨13, [.t 2], ai [qb 1 3 0, ge 2] (ai [bi 3 0 1, au 4 3, afn 5 4, Gv 6 5 30, ab 7 6, Zi 7 8 1 1, Qo 7 9 8, Gh 7 10 9,
 zx 7 11 10 150, kr 12 7 11, ab 2 12] .ret)⟩
def f42_0 : IR := ct 11 .skip (.exit 0)
def f42_1 : IR := ai [jm 11 10 9] (.seq f42_0 (.seq (.block 1 (ai [ab 12 10, ga 13 2 8 10, jd 14 2 13, Kt 5, ab 4 12, ce 2 5 14] (.reg [ab 15 3,
 ab 16 4, bi 17 1 5, au 18 17, ik 19 52 18, ga 20 2 15 16, bi 21 1 20, ce 1 21 19]))) (.reg [en 22 10 1, ab 10 22])))
def f42 : FnIR := ⟨24, [.t 2], ai [db 2] (ai [ab 6 0, my 7 66 6, ab 3 7] (.seq (ai [ab 8 3, de 9 8, bz 10 0] (.block 0 (.loop f42_1))) (ai [ab 23 3,
 ab 2 23] .ret)))⟩
def f43_0 : IR := ai [ab 6 0, qc 7 6 0, ab 8 7, il 8 9 0, zx 8 10 9 4096, kr 11 8 10] (ct 11 (ai [ai7 12, ce 6 2 12, ge 3] .ret) .skip)
def f43_1 : IR := .seq (ai [ab 14 5, ab 15 0, jm 16 14 15] (ct 16 .skip (.exit 0))) (.seq (.block 1 (.draw [(bi 19 0 4,.p), (au 20 19, .r 0 0), (⟨none, some 21,
 .mks 1 1 [.sc (.int .u8 0)] (.c (vi .i64 64)) (.c (vi .i64 64)) false⟩, .p), (Qs 22 21, .r 0 0), (Py 23 20 22,.k), (bi 24 0 4,.p), (ce 1 24 23,.k)])) (.reg [ab 17 5,
 en 18 17 1, ab 5 18]))
def f43 : FnIR := ⟨26, [.cell 2 true 6, .t 3], ai [Tz 2, ge 3] (.seq f43_0 (ai [ai7 13, Tz 4,
 ce 6 4 13] (.seq (ai [bz 5 0] (.block 0 (.loop f43_1))) (ai [jd 25 6 4, ce 6 2 25, Co 3] .ret))))⟩
def f44 : FnIR := ⟨5, [.t 2], ai [db 2] (ai [ab 3 0, ajx 4 72 3, ab 2 4] .ret)⟩
def f45_0 : IR := ai [au 5 3, qc 6 5 1] (ct 6 (.reg [⟨none, some 7, .mkif 9 (.c (.cv (.sc (.string ⟨#[99, 97, 110, 110, 111, 116, 32, 98, 101, 32, 108, 101, 115, 115, 32,
 116, 104, 97, 110, 32, 49]⟩))))⟩, ad4 7]) .skip)
def f45 : FnIR := ⟨9, [.t 4], ai [qb 2 1 0, qb 3 1 1, akh 4] (.seq f45_0 (ai [⟨none, some 8, .mkfn 73 [.t 2, .t 3]⟩, ab 4 8] .ret))⟩
def f46_0 : IR := ct 12 .skip (.exit 0)
def f46_1 : IR := ai [bi 20 2 5, au 21 20] (ct 21 (ai [ab 22 3, ahp 23 1, yb 24 22 23, ab 3 24] (.exit 1)) .skip)
def f46_2 : IR := ai [jm 12 11 10] (.seq f46_0 (.seq (.block 1 (ai [ga 13 3 9 11, jd 14 3 13, Yb 5, ce 3 5 14] (ai [ab 15 3, bi 16 0 5, au 17 16,
 ik 18 75 17, yb 19 15 18, ab 3 19] (.seq f46_1 (ai [ab 25 3, ahp 26 0, yb 27 25 26, ab 3 27] (.reg [ab 28 3, bi 29 1 5, au 30 29, Rv 31 30,
 ik 32 75 31, yb 33 28 32, ab 3 33])))))) (.reg [en 34 11 1, ab 11 34])))
def f46 : FnIR := ⟨36, [.t 2], ai [db 2] (ai [ab 6 0, de 7 6, my 8 74 7, ab 3 8] (.seq (ai [ab 9 0, de 10 9,
 bz 11 0] (.block 0 (.loop f46_2))) (ai [ab 35 3, ab 2 35] .ret)))⟩
def f47 : FnIR := ⟨9, [.t 2], ai [ge 2] (ai [ab 3 0, Rm 4 3 0, ab 5 4, gm 5 6 0, ade 5 7 6 1073741824, ly 8 5 7, ab 2 8] .ret)⟩
def f48 : FnIR := ⟨33, [.t 10], ai [db 10] (ai [⟨none, some 11, .alloc (List.replicate 60 (.cv (.sc (.int .u8 0))))⟩] (ai [Lg 12 60 11, ab 13 0,
 qh 14 76 12 13] (ai [aja 15 4, ab 16 1, qh 17 76 15 16] (ai [ab 18 2, pl 19 18, ab 20 3, pl 21 20, ab 22 4, de 23 22, pl 24 23,
 Je 25 60 11 8, ce 1 25 19, Je 26 60 11 9, ce 1 26 21, Je 27 60 11 10, ce 1 27 24] (ai [aja 28 11, ab 29 4, Jy 30 1 28 29] (ai [Lg 31 60 11,
 ik 32 77 31, ab 10 32] .ret))))))⟩
def f49_0 : IR := .seq (ai [ab 44 8, ab 45 7, de 46 45, jm 47 44 46] (ct 47 .skip (.exit 2))) (.seq (.block 3 (.reg [ab 50 7, ab 51 8, ab 52 0, ab 53 6,
 en 54 53 1, ga 55 1 52 54, au 56 55, ab 57 8, pl 58 57, ls 59 56 58, ga 60 1 50 51, ce 1 60 59])) (.reg [ab 48 8, en 49 48 1, ab 8 49]))
def f49_1 : IR := .seq (ai [ab 9 6, en 10 9 1, ab 11 0, de 12 11, jm 13 10 12, ab 14 13, gm 14 15 6, gm 14 16 1, ⟨some (14, true), some 17,
 .bin .mul (.c (vi .i64 2)) (.t 16)⟩, ⟨some (14, true), some 18, .bin .lss (.t 15) (.t 17)⟩, ly 19 14 18] (ct 19 .skip (.exit 0))) (.seq (.block 1 (ai [ab 22 0,
 ab 23 6, en 24 23 1, ga 25 1 22 24, au 26 25, Xa 27 26 40, tf 28 27, ak2 29 28 28, ab 7 29] (.seq (ai [ab 30 0, ab 31 6, ga 32 1 30 31,
 au 33 32, akn 34 33 230] (ct 34 (.reg [ab 35 0, ab 36 6, en 37 36 1, ga 38 1 35 37, au 39 38, Xa 40 39 50, tf 41 40, yr 42 100 41, ak2 43 42 42,
 ab 7 43]) .skip)) (.seq (ai [bz 8 0] (.block 2 (.loop f49_0))) (.draw [(ab 61 5,.p), (ab 62 0,.p), (ab 63 6,.p), (ga 64 1 62 63, .r 0 0), (au 65 64, .r 0 0),
 (Xa 66 65 16,.p), (ai4 67 66,.p), (ab 68 0,.p), (ab 69 6,.p), (ga 70 1 68 69, .r 0 0), (au 71 70, .r 0 0), (⟨none, some 72, .bin .quo (.t 71) (.c (vi .u8 16))⟩,
 .p), (Xa 73 72 4,.p), (ai4 74 73,.p), (⟨none, some 75, .mksl 1 2 [.cv (.sc (.int .u8 0)), .cv (.sc (.int .u8 0))] [(0, (1, .t 67)), (1, (1, .t 74))] false⟩, .r 0 0),
 (Rv 76 75, .r 0 0), (ab 77 7,.p), (agk 78 76 77,.p), (⟨none, some 79, .mksl 2 1 [.cv (.sc (.string ⟨#[]⟩)), .cv (.sc (.slice none 0 0))] [(0, (2, .t 78))] true⟩, .k),
 (Qg 80 61 79,.k), (ab 5 80,.p)]))))) (.reg [ab 20 6, en 21 20 2, ab 6 21]))
def f49 : FnIR := ⟨82, [.t 4], ai [db 4] (ai [db 5] (.seq (ai [bz 6 0] (.block 0 (.loop f49_1))) (ai [ab 81 5, ab 4 81] .ret)))⟩
def f50_0 : IR := ct 9 .skip (.exit 0)
def f50_1 : IR := ai [jm 9 8 7] (.seq f50_0 (.seq (.block 1 (ai [ab 10 8, ab 5 10] (ai [ab 11 1, ab 12 0, ab 13 5, ga 14 2 12 13, jd 15 2 14,
 Xk 16 11 15] (ct 16 (ai [ab 17 5, ab 4 17] .ret) .skip)))) (.reg [en 18 8 1, ab 8 18])))
def f50 : FnIR := ⟨19, [.t 4], ai [bz 4 0] (.seq (ai [ab 6 0, de 7 6, bz 8 0] (.block 0 (.loop f50_1))) (ai [bz 4 (-1)] .ret))⟩
def f51 : FnIR := ⟨8, [.t 3], ai [qb 2 2 0, ge 3] (ai [bi 4 0 2, au 5 4, au 6 1, Gk 7 5 6, ab 3 7] .ret)⟩
def f52_0 : IR := ai [ab 3 0, aif] (ct 4 (ai [db 2] .ret) .skip)
def f52 : FnIR := ⟨8, [.t 2], ai [db 2] (.seq f52_0 (ai [⟨none, some 5, .mksl 1 0 [] [] false⟩, ab 6 0, yb 7 5 6, ab 2 7] .ret))⟩
def f53 : FnIR := ⟨14, [.t 2], ai [ge 2] (ai [ab 3 0, eh 4 3, bi 5 3 4, au 6 5, ab 7 6, gm 7 8 0, ⟨some (7, true), some 9, .nilck (.t 8)⟩, Hl 7 10 4 9,
 Ju 7 11 10, Qx 7 12 11 0, ly 13 7 12, ab 2 13] .ret)⟩
def f54_0 : IR := ct 12 .skip (.exit 0)
def f54_1 : IR := ai [jm 12 11 10] (.seq f54_0 (.seq (.block 1 (ai [ab 13 11, ga 14 65 9 11, jd 15 65 14, ⟨none, some 5,
 .alloc ((.cv (.sc (.int .i64 0))) :: List.replicate 64 (.cv (.sc (.int .u8 0))))⟩, ab 4 13, ce 65 5 15] (ai [ab 16 1, ab 17 4,
 Xk 18 16 17] (ct 18 (.draw [(ab 19 0,.p), (eh 20 19,.p), (bi 21 0 20,.p), (au 22 21, .r 0 0), (bi 23 0 5,.p), (au 24 23, .r 0 0), (bi 25 1 5,.p),
 (jd 26 64 25, .r 0 0), (ga 27 64 22 24, .r 0 0), (ce 64 27 26,.k)]) .skip)))) (.reg [en 28 11 1, ab 11 28])))
def f54 : FnIR := ⟨32, [], .seq (ai [ab 6 0, eh 7 6, bi 8 1 7, au 9 8, de 10 9, bz 11 0] (.block 0 (.loop f54_1))) (.reg [ab 29 0, eh 30 29, bi 31 1 30,
 aj1 31])⟩
def f56 : FnIR := ⟨13, [.t 4], ai [ge 4] (ai [ab 5 1, Rm 6 5 0, ab 7 6, gm 7 8 1, gm 7 9 0, Yo 7 10 29 9, ⟨some (7, true), some 11,
 .bin .lss (.t 8) (.t 10)⟩, ly 12 7 11, ab 4 12] .ret)⟩
def f57_0 : IR := ai [ab 3 0, my 4 53 3] (ct 4 (ai [ge 2] .ret) .skip)
def f57 : FnIR := ⟨12, [.t 2], ai [ge 2] (.seq f57_0 (ai [ab 5 0, eh 6 5, bi 7 4 6, au 8 7, Qd 9 8 1, eh 10 5, bi 11 4 10,
 ce 1 11 9] (ai [Co 2] .ret)))⟩
def f58 : FnIR := ⟨3, [.t 2], ai [ge 2] (ai [Co 2] .ret)⟩
def f59_0 : IR := ai [ab 8 0, ik 9 78 8, oq 10 9, ab 11 10, il 11 12 0, Gh 11 13 12, zx 11 14 13 5000, kr 15 11 14] (ct 15 (ai [db 2,
 ge 3] .ret) .skip)
def f59_1 : IR := .seq (ai [ab 18 5, ⟨none, some 19, .bin .leq (.t 18) (.c (vi .i64 4))⟩] (ct 19 .skip (.exit 0))) (.seq (.block 1 (ai [ab 23 4, ab 24 5, ab 25 0,
 aaj 26 79 23 24 25, ab 22 26, bo 27 22 0, bo 28 22 1, ab 6 27, ab 7 28] (.seq (.block 2 (ai [ab 30 7, oq 31 30,
 ab 29 31] (ct 29 (.exit 0) (ai [ab 33 6, de 34 33, zm 35 34 1, ab 32 35] (ct 32 (ai [ab 36 4, eh 37 36, bi 38 0 37, au 39 38, ab 2 39,
 Co 3] .ret) .skip))))) (.reg [ab 40 6, ab 0 40])))) (.reg [ab 20 5, en 21 20 1, ab 5 21]))
def f59_2 : IR := .seq f59_0 (ai [⟨none, some 16, .build [.cv (.sc (.slice none 0 0))] []⟩, qb 17 1 16,
 ab 4 17] (.seq (.label 0) (.seq (ai [bz 5 0] (.block 0 (.loop f59_1))) (ai [db 2, ge 3] .ret))))
def f59 : FnIR := ⟨41, [.t 2, .t 3], ai [db 2, ge 3] (.scope f59_2)⟩
def f60 : FnIR := ⟨20, [.t 4], ai [bz 4 0] (ai [ab 8 0, aa1 9 8, ik 10 30 9, ab 7 10, bo 11 7 0, bo 12 7 1, ab 5 11, ab 6 12] (ai [ab 13 5,
 yr 14 2 13, ab 15 1, ab 16 6, ⟨none, some 17, .bin .mul (.t 15) (.t 16)⟩, ahy 18 17, ls 19 14 18, ab 4 19] .ret))⟩
def f61_0 : IR := ct 12 .skip (.exit 0)
def f61_1 : IR := ai [jm 12 11 10] (.seq f61_0 (.seq (.block 1 (ai [ga 13 1 9 11, au 14 13, ab 5 14] (ai [ab 15 3, ab 16 5, de 17 16, ls 18 15 17,
 ab 3 18] (ai [ab 19 3, qc 20 19 0] (ct 20 (.reg [⟨none, some 21, .mkif 9 (.c (.cv (.sc (.string ⟨#[108, 101, 110, 32, 111, 117, 116, 32, 111, 102, 32, 114, 97, 110,
 103, 101]⟩))))⟩, ad4 21]) .skip))))) (.reg [en 22 11 1, ab 11 22])))
def f61_2 : IR := ct 28 .skip (.exit 2)
def f61_3 : IR := ai [jm 28 27 26] (.seq f61_2 (.seq (.block 3 (ai [ga 29 1 25 27, au 30 29, ab 8 30] (.reg [ab 31 6, ab 32 8, yb 33 31 32,
 ab 6 33]))) (.reg [en 34 27 1, ab 27 34])))
def f61 : FnIR := ⟨36, [.t 2], ai [db 2] (ai [bz 3 0] (.seq (ai [ab 9 0, de 10 9, bz 11 0] (.block 0 (.loop f61_1))) (ai [ab 23 3, ajx 24 80 23,
 ab 6 24] (.seq (ai [ab 25 0, de 26 25, bz 27 0] (.block 2 (.loop f61_3))) (ai [ab 35 6, ab 2 35] .ret)))))⟩
def f62_0 : IR := ct 8 .skip (.exit 0)
def f62_1 : IR := ai [qc 8 7 4] (.seq f62_0 (.seq (.block 1 (ai [ab 9 7, ab 4 9] (.reg [ab 10 4, yr 11 2 10, bi 12 0 1, au 13 12, ab 14 4, ad8 15 8 14,
 aen 16 24 15, ⟨none, some 17, .bin .shr (.t 13) (.t 16)⟩, pl 18 17, abo 19 60 3 11, ce 1 19 18]))) (.reg [en 20 7 1, ab 7 20])))
def f62 : FnIR := ⟨36, [.t 2], ai [qb 1 3 0, db 2] (ai [⟨none, some 3, .alloc (List.replicate 60 (.cv (.sc (.int .u8 0))))⟩] (ai [Lg 5 60 3, ⟨none, some 6,
 .cpy 1 (.t 5) (.c (.cv (.sc (.string ⟨#[82, 83]⟩))))⟩] (.seq (ai [bz 7 0] (.block 0 (.loop f62_1))) (.seq (.draw [(bi 21 1 1,.p), (au 22 21, .r 0 0), (pl 23 22,.p),
 (bi 24 2 1,.p), (au 25 24, xv), (Kp 26 25 8,.p), (pl 27 26,.p), (bi 28 2 1,.p), (au 29 28, .r 0 2), (pl 30 29,.p), (Je 31 60 3 6,.p), (ce 1 31 23,.k),
 (Je 32 60 3 7,.p), (ce 1 32 27,.k), (Je 33 60 3 8,.p), (ce 1 33 30,.k)]) (ai [Lg 34 60 3, ik 35 77 34, ab 2 35] .ret)))))⟩
def f63_0 : IR := ai [ab 18 7, Cm 19 18] (ct 19 (ai [⟨none, some 20, .build [.cv (.sc (.int .i64 0)), .cv (.sc (.int .i64 0)), .cv (.sc (.int .i64 0))] []⟩,
 ce 3 4 20, ge 5] .ret) .skip)
def f63 : FnIR := ⟨96, [.cell 4 true 3, .t 5], ai [Jd 4, ge 5] (ai [ab 13 0, ab 14 1, ⟨none, some 15, .inv [(23, 119)] (.t 13) [.t 14]⟩, ab 12 15, bo 16 12 0,
 bo 17 12 1, ab 6 16, ab 7 17] (.seq f63_0 (.seq (.draw [(ab 21 6,.p), (ya 22 1 21 2, xv), (au 23 22, xv), (tf 24 23,.p), (Yr 25 24 24,.p),
 (ab 26 6,.p), (ya 27 1 26 3, xv), (au 28 27, xv), (tf 29 28,.p), (Yr 30 29 16,.p), (Vo 31 25 30,.p), (ab 32 6,.p), (ya 33 1 32 4, xv), (au 34 33,
 xv), (tf 35 34,.p), (Yr 36 35 8,.p), (Vo 37 31 36,.p), (ab 38 6,.p), (ya 39 1 38 5, xv), (au 40 39, xv), (tf 41 40,.p), (Vo 42 37 41,.p),
 (ab 43 6,.p), (ya 44 1 43 6, xv), (au 45 44, xv), (tf 46 45,.p), (ab 47 6,.p), (ya 48 1 47 7, xv), (au 49 48, xv), (tf 50 49,.p),
 (Yr 51 50 8,.p), (ab 52 6,.p), (ya 53 1 52 8, xv), (au 54 53, xv), (tf 55 54,.p), (Vo 56 51 55,.p), (aid 57 42 46 56,.p), (Jd 8,.k),
 (ce 3 8 57,.k)]) (ai [ab 59 0, aa1 60 59, ik 61 30 60, ab 58 61, bo 62 58 0, bo 63 58 1, ab 9 62, ab 10 63] (ai [bi 64 0 8, au 65 64,
 Rm 66 65 1, ab 67 66, Hl 67 68 0 8, Ju 67 69 68, ade 67 70 69 1073741824, ly 71 67 70, ab 72 71, Hl 72 73 1 8, Ju 72 74 73, ade 72 75 74 1,
 ly 76 72 75, ab 77 76, Hl 77 78 2 8, Ju 77 79 78, ⟨some (77, true), some 80, .bin .geq (.t 79) (.c (vi .i64 1))⟩, ly 81 77 80, ab 82 81, Hl 82 83 2 8,
 Ju 82 84 83, gm 82 85 10, af5 82 86 84 85, ly 87 82 86, ab 11 87] (.seq (.draw [(jd 88 3 8, .r 0 0), (ab 89 11,.p), (ab 90 89,.p), (⟨some (90, true),
 some 91, .ld true 3 (.t 8)⟩, .r 0 0), (⟨some (90, true), some 92, .call 62 true [.t 91]⟩, .r 0 0), (gm 90 93 6,.p), (⟨some (90, true), some 94, .call 1000081 true [.t 92,
 .t 93]⟩, .r 0 0), (ly 95 90 94,.p), (ce 3 4 88,.k), (ab 5 95,.p)]) .ret))))))⟩
def f64_0 : IR := ct 15 .skip (.exit 0)
def f64_1 : IR := ai [ab 24 9, Cm 25 24] (ct 25 (ai [ab 26 9, db 2, ab 3 26] .ret) .skip)
def f64_2 : IR := ai [jm 15 14 13] (.seq f64_0 (.seq (.block 1 (ai [ga 16 1 12 14, au 17 16, ab 6 17] (ai [ab 19 6, ik 20 82 19, ab 18 20, bo 21 18 0,
 bo 22 18 1, bo 23 18 2, ab 7 21, ab 8 22, ab 9 23] (.seq f64_1 (ai [ab 27 7, zm 28 27 0] (ct 28 (.reg [ab 29 4, ab 30 8, Qg 31 29 30,
 ab 4 31]) .skip)))))) (.reg [en 32 14 1, ab 14 32])))
def f64 : FnIR := ⟨47, [.t 2, .t 3], ai [db 2, dm 3 0] (ai [db 4] (.seq (ai [ab 12 0, de 13 12, bz 14 0] (.block 0 (.loop f64_2))) (.seq (ai [ab 34 4,
 ik 35 59 34, ab 33 35, bo 36 33 0, bo 37 33 1, ab 10 36, ab 11 37] (ai [ab 38 11, oq 39 38, ab 40 39, il 40 41 10, il 40 42 0, ⟨some (40, false),
 some 43, .call 83 true [.t 41, .t 42, .c (.func 81 [])]⟩, Tn 40 44 43, kr 45 40 44] (ct 45 (ai [db 2, dm 3 11] .ret) .skip))) (ai [ab 46 4, ab 2 46,
 dm 3 0] .ret))))⟩
def f65_0 : IR := ai [ab 15 11, ab 16 2, de 17 16, Gk 18 15 17, ab 19 18, il 19 20 2, il 19 21 11, ⟨some (19, false), some 22, .iadL 1 (.t 20) (.t 21)⟩,
 Qo 19 23 22, Gh 19 24 23, ⟨some (19, false), some 25, .bin .neq (.t 24) (.c (vi .i64 64))⟩, kr 26 19 25] (ct 26 (.goto 0) .skip)
def f65_1 : IR := ai [ab 35 11, zm 36 35 0] (ct 36 (.reg [ab 37 13, ya 38 1 37 9, au 39 38, tf 40 39, ab 12 40]) .skip)
def f65_2 : IR := ai [ab 41 14, qc 42 41 1, ab 43 42, il 43 44 14, zx 43 45 44 49, kr 46 43 45, ab 47 46, il 47 48 12, ⟨some (47, false), some 49,
 .bin .lss (.t 48) (.c (vi .i64 1))⟩, kr 50 47 49, ab 51 50, il 51 52 12, zx 51 53 52 200, kr 54 51 53, ab 55 54, il 55 56 11, il 55 57 12, ⟨some (55,
 false), some 58, .bin .sub (.t 57) (.c (vi .i64 1))⟩, ⟨some (55, false), some 59, .bin .lss (.t 56) (.t 58)⟩, il 55 60 59, gm 60 61 14, ⟨some (60, true), some 62,
 .bin .lss (.t 61) (.c (vi .i64 49))⟩, adl 55 63 60 62, kr 64 55 63] (ct 64 (.goto 0) .skip)
def f65_3 : IR := ai [ab 65 0, ab 66 1, ab 67 11, ab 68 12, ab 69 13, ab 70 14, yr 71 11 70, akl 72 69 71, ⟨none, some 73, .call 48 true [.t 65, .t 66,
 .t 67, .t 68, .t 72]⟩, ab 74 13, Bq 75 81 73 74, oq 76 75] (ct 76 (.goto 0) .skip)
def f65_4 : IR := ai [db 8] (ai [db 9] (ai [dm 10 0] (ai [bz 11 0, bz 12 1] (.seq (.label 1) (.seq f65_0 (.seq (ai [ab 27 2, ab 28 11,
 ga 29 1 27 28, au 30 29, ab 13 30] (ai [ab 31 13, ya 32 1 31 10, au 33 32, tf 34 33, ab 14 34] (.seq f65_1 (.seq f65_2 (.seq f65_3 (.reg [ab 77 8,
 ab 78 13, ab 79 14, yr 80 11 79, akl 81 78 80, yb 82 77 81, ab 8 82])))))) (.seq (ai [ab 83 11, en 84 83 1, ab 11 84] (ai [ab 85 11, ab 86 12,
 jm 87 85 86] (ct 87 (.goto 1) .skip))) (.seq (ai [ab 89 8, ik 90 84 89, ab 88 90, bo 91 88 0, bo 92 88 1, ab 9 91, ab 10 92] (ai [ab 93 10,
 Ta 94 93] (ct 94 (ai [ab 95 9, ab 96 12, ab 6 95, ab 7 96] .ret) .skip))) (.seq (.label 0) (ai [db 6, bz 7 0] .ret))))))))))
def f65 : FnIR := ⟨97, [.t 6, .t 7], ai [db 6, bz 7 0] (.scope f65_4)⟩
def f66_0 : IR := ai [ab 3 0, aif] (ct 4 (ai [db 2] .ret) .skip)
def f66 : FnIR := ⟨8, [.t 2], ai [db 2] (.seq f66_0 (ai [⟨none, some 5, .mksl 2 0 [] [] false⟩, ab 6 0, Qg 7 5 6, ab 2 7] .ret))⟩
def f67_0 : IR := ai [ab 11 5, zm 12 11 (-1)] (ct 12 (ai [ab 13 0, ab 4 13] .ret) .skip)
def f67_1 : IR := .seq (ai [ab 16 6, ab 17 0, de 18 17, jm 19 16 18] (ct 19 .skip (.exit 0))) (.seq (.block 1 (ai [ab 22 0, ab 23 6, ga 24 2 22 23,
 jd 25 2 24, Kt 7, ce 2 7 25] (ai [ab 26 1, jd 27 2 7, Xk 28 26 27, oq 29 28] (ct 29 (ai [ab 30 0, ab 31 5, jd 32 2 7, ga 33 2 30 31,
 ce 2 33 32] (.reg [ab 34 5, en 35 34 1, ab 5 35])) .skip)))) (.reg [ab 20 6, en 21 20 1, ab 6 21]))
def f67 : FnIR := ⟨42, [.t 4], ai [db 4] (ai [ab 8 0, ab 9 1, qh 10 50 8 9, ab 5 10] (.seq f67_0 (.seq (ai [ab 14 5, en 15 14 1,
 ab 6 15] (.block 0 (.loop f67_1))) (ai [ab 36 0, ab 37 5, vy 38 2 36 37, ⟨none, none, .clr 2 [.sc (.string ⟨#[]⟩), .sc (.slice none 0 0)] (.t 38)⟩] (ai [ab 39 0,
 ab 40 5, Jh 41 2 39 40, ab 4 41] .ret)))))⟩
def f68 : FnIR := ⟨9, [.t 3], ai [qb 2 2 0, ge 3] (ai [bi 4 0 2, au 5 4, bi 6 0 1, au 7 6, Gk 8 5 7, ab 3 8] .ret)⟩
def f69 : FnIR := ⟨9, [.t 3], ai [qb 2 2 0, ge 3] (ai [bi 4 0 2, au 5 4, bi 6 0 1, au 7 6, Wd 8 5 7, ab 3 8] .ret)⟩
def f70_0 : IR := ai [ab 15 7, zm 16 15 0] (ct 16 (ai [ab 17 0, ab 6 17] .ret) .skip)
def f70_1 : IR := ai [ab 20 1, ab 21 8, Gk 22 20 21] (ct 22 (ai [ab 23 0, ab 24 2, Qg 25 23 24, ab 6 25] .ret) .skip)
def f70_2 : IR := ai [ab 26 8, ab 27 7, ls 28 26 27, ab 29 0, ae1 30 29, Wd 31 28 30] (ct 31 (ai [ab 32 0, ab 33 1, Jh 34 2 32 33, ab 35 8,
 ab 36 7, ls 37 35 36, ab 38 1, Ru 39 37 38, ⟨none, some 40, .apz 2 40 [.sc (.string ⟨#[]⟩), .sc (.slice none 0 0)] (.t 34) (.t 39)⟩, ab 9 40] (ai [ab 41 9,
 ab 42 1, vy 43 2 41 42, ab 44 2, Jy 45 2 43 44] (.seq (.draw [(ab 46 9,.p), (ab 47 1,.p), (ab 48 7,.p), (ls 49 47 48,.p), (vy 50 2 46 49, .r 0 0),
 (ab 51 0,.p), (ab 52 1,.p), (vy 53 2 51 52, .r 0 0), (Jy 54 2 50 53,.k)]) (ai [ab 55 9, ab 6 55] .ret)))) .skip)
def f70_3 : IR := ai [ab 61 2, ab 62 0, ab 63 1, ab 64 7, ls 65 63 64, vy 66 2 62 65, Bq 67 85 61 66, oq 68 67] (ct 68 (.seq (.draw [(ab 69 0,.p),
 (ab 70 1,.p), (ab 71 7,.p), (ls 72 70 71,.p), (vy 73 2 69 72, .r 0 0), (ab 74 0,.p), (ab 75 1,.p), (vy 76 2 74 75, .r 0 0),
 (Jy 77 2 73 76,.k)]) (ai [ab 78 0, ab 79 1, vy 80 2 78 79, ab 81 2, Jy 82 2 80 81] (ai [ab 83 0, ab 6 83] .ret))) .skip)
def f70 : FnIR := ⟨95, [.t 6], ai [db 6] (ai [ab 10 0, ab 11 1, vy 12 2 10 11] (ai [ab 13 2, de 14 13, ab 7 14] (.seq f70_0 (ai [ab 18 0,
 de 19 18, ab 8 19] (.seq f70_1 (.seq f70_2 (ai [ab 56 0, ab 57 8, ab 58 7, ls 59 57 58, Jh 60 2 56 59, ab 0 60] (.seq f70_3 (ai [ab 84 0, ab 85 8,
 vy 86 2 84 85, ab 87 2, Jy 88 2 86 87] (ai [ab 89 0, ab 90 1, vy 91 2 89 90, ab 92 7, Bq 93 86 91 92] (ai [ab 94 0, ab 6 94] .ret)))))))))))⟩
def f71_0 : IR := ct 9 .skip (.exit 0)
def f71_1 : IR := ai [jm 9 8 7] (.seq f71_0 (.seq (.block 1 (ai [ab 10 8, ab 5 10] (ai [ab 11 1, ab 12 0, ab 13 5, ga 14 3 12 13, jd 15 3 14, ⟨none,
 some 16, .callv true (.t 11) [.t 15]⟩] (ct 16 (ai [ab 17 5, ab 4 17] .ret) .skip)))) (.reg [en 18 8 1, ab 8 18])))
def f71 : FnIR := ⟨19, [.t 4], ai [bz 4 0] (.seq (ai [ab 6 0, de 7 6, bz 8 0] (.block 0 (.loop f71_1))) (ai [bz 4 (-1)] .ret))⟩
def f72_0 : IR := .reg [ab 5 7]
def f72_1 : IR := .block 1 (.reg [au 8 2, ab 9 5, Qs 10 9, Py 11 8 10, ce 1 2 11])
def f72 : FnIR := ⟨13, [.t 4], ai [qb 2 1 0, db 4] (.seq (ai [ab 6 1] (.block 0 (.rangeF (.t 6) [7] f72_0 f72_1))) (ai [au 12 2, ab 4 12] .ret))⟩
def f73_0 : IR := .seq (ai [ab 6 4, au 7 1, de 8 7, jm 9 6 8] (ct 9 .skip (.exit 0))) (.seq (.block 1 (.seq (.draw [(au 13 2, .r 0 0), (au 14 1, .r 0 0),
 (ab 15 4,.p), (vy 16 1 14 15, .r 0 0), (de 17 16,.p), (⟨none, some 18, .mnmx true [.t 13, .t 17]⟩,.p), (ab 5 18,.p)]) (ai [ab 19 0, au 20 1, ab 21 4,
 ab 22 4, ab 23 5, ls 24 22 23, ab 25 4, ab 26 5, ls 27 25 26, ⟨none, some 28, .slL 1 (.t 20) (some (.t 21)) (some (.t 24)) (some (.t 27))⟩, Xk 29 19 28,
 oq 30 29] (ct 30 .ret .skip)))) (.reg [ab 10 4, au 11 2, ls 12 10 11, ab 4 12]))
def f73 : FnIR := ⟨31, [], ai [bz 4 0] (.block 0 (.loop f73_0))⟩
def f74_0 : IR := .seq (ai [ab 7 0, Gv 8 7 127] (ct 8 .skip (.exit 0))) (.seq (.block 1 (.reg [ab 11 3, ab 12 0, pl 13 12, ⟨none, some 14,
 .bin .or (.t 13) (.c (vi .u8 128))⟩, ads 15 14, yb 16 11 15, ab 3 16])) (.reg [ab 9 0, Kp 10 9 7, ab 0 10]))
def f74 : FnIR := ⟨22, [.t 2], ai [db 2] (ai [db 3] (.seq (ai [ab 4 0, ⟨none, some 5, .mnmx true [.t 4, .c (vi .i64 9007199254740992)]⟩, ⟨none, some 6,
 .mnmx false [.c (vi .i64 0), .t 5]⟩, ab 0 6] (.block 0 (.loop f74_0))) (ai [ab 17 3, ab 18 0, pl 19 18, ads 20 19, yb 21 17 20, ab 2 21] .ret)))⟩
def f75 : FnIR := ⟨8, [.t 2], ai [db 2] (ai [ab 3 0, afn 4 3, my 5 74 4, ab 6 0, yb 7 5 6, ab 2 7] .ret)⟩
def f76_0 : IR := ct 6 .skip (.exit 0)
def f76_1 : IR := ai [qc 6 5 4] (.seq f76_0 (.seq (.block 1 (ai [ab 7 5, ab 4 7] (.reg [ab 8 0, ab 9 4, ab 10 1, ab 11 4, ad8 12 8 11, aen 13 24 12,
 ⟨none, some 14, .bin .shr (.t 10) (.t 13)⟩, pl 15 14, ga 16 1 8 9, ce 1 16 15]))) (.reg [en 17 5 1, ab 5 17])))
def f76 : FnIR := ⟨18, [], ai [bz 5 0] (.block 0 (.loop f76_1))⟩
def f77 : FnIR := ⟨27, [.t 2], ai [db 2] (ai [ab 5 0, ik 6 87 5, ab 3 6] (ai [ab 7 0, de 8 7, en 9 8 4, ⟨none, some 10,
 .mks 1 1 [.sc (.int .u8 0)] (.c (vi .i64 0)) (.t 9) true⟩, ab 11 0, yb 12 10 11, ab 4 12] (ai [ab 13 4, ab 14 3, pl 15 14, ab 16 3, Kp 17 16 8,
 pl 18 17, ab 19 3, Kp 20 19 16, pl 21 20, ab 22 3, Kp 23 22 24, pl 24 23, ⟨none, some 25, .mksl 1 4 [.cv (.sc (.int .u8 0)), .cv (.sc (.int .u8 0)),
 .cv (.sc (.int .u8 0)), .cv (.sc (.int .u8 0))] [(0, (1, .t 15)), (1, (1, .t 18)), (2, (1, .t 21)), (3, (1, .t 24))] false⟩, yb 26 13 25, ab 2 26] .ret)))⟩
def f78_0 : IR := ct 7 .skip (.exit 0)
def f78_1 : IR := ai [jm 7 6 5] (.seq f78_0 (.seq (.block 1 (ai [ab 8 6, ab 3 8] (.seq (.draw [(ab 9 3,.p), (Gv 10 9 0,.p), (ab 11 10,.p), (gm 11 12 0,.p),
 (gm 11 13 3,.p), (ad5 11 14 2 12 13, .r 0 0), (Hl 11 15 0 14,.p), (Ju 11 16 15, .r 0 0), (gm 11 17 0,.p), (gm 11 18 3,.p), (ajl 11 19 18,.p),
 (ad5 11 20 2 17 19, .r 0 0), (Hl 11 21 0 20,.p), (Ju 11 22 21, .r 0 0), (af5 11 23 16 22,.p),
 (ly 24 11 23,.p)]) (ct 24 (ai [ge 2] .ret) .skip)))) (.reg [en 25 6 1, ab 6 25])))
def f78 : FnIR := ⟨26, [.t 2], ai [ge 2] (.seq (ai [ab 4 0, de 5 4, bz 6 0] (.block 0 (.loop f78_1))) (ai [Co 2] .ret))⟩
def f79_0 : IR := .reg [ab 10 16]
def f79_1 : IR := ai [ab 23 12, oq 24 23] (ct 24 (ai [aj1 6, ⟨none, none, .st 1 (.t 7) (.c aay)⟩] .ret) .skip)
def f79_2 : IR := ai [ab 32 10, de 33 32, Gv 34 33 0] (ct 34 (.reg [ab 35 10, ya 36 2 35 0, bi 37 0 36, au 38 37, bi 39 0 13, ce 1 39 38]) .skip)
def f79_3 : IR := .block 1 (ai [au 18 4, ab 19 10, Bq 20 89 18 19, ab 17 20, bo 21 17 0, bo 22 17 1, ab 11 21, ab 12 22] (.seq f79_1 (ai [au 25 3,
 eh 26 25, bi 27 0 26, au 28 27, de 29 28, ik 30 74 29, ⟨none, some 31, .build [.cv (.sc (.string ⟨#[]⟩)), .cv (.sc (.slice none 0 0))] [(1, (1, .t 30))]⟩, Kt 13,
 ce 2 13 31] (.seq f79_2 (.seq (.draw [(au 40 3, .r 0 3), (au 41 8, .r 0 0), (jd 42 2 13, .r 0 0), (adr 43 42, .r 0 0), (Qg 44 41 43,.k), (au 45 3, xv),
 (eh 46 45,.p), (bi 47 0 46,.p), (au 48 47, xv), (ab 49 11,.p), (Qs 50 49, xv), (Py 51 48 50,.k), (ce 1 8 44,.k), (eh 52 40,.p), (bi 53 0 52,.p),
 (ce 1 53 51,.k)]) (.reg [au 54 9, ab 55 10, de 56 55, ls 57 54 56, ce 1 9 57]))))))
def f79 : FnIR := ⟨63, [.cell 6 false 1, .cell 7 false 1], ai [qb 3 1 0, qb 4 1 1, ahx 6, ⟨none, some 7, .alloc [.cv (.sc (.bool false))]⟩] (ai [ahx 8] (ai [ahs,
 ag7 9] (.seq (ai [ab 14 2, my 15 88 14] (.block 0 (.rangeF (.t 15) [16] f79_0 f79_3))) (.seq (.draw [(au 58 8, .r 0 0), (au 59 9, xv), (ab 60 2,.p),
 (de 61 60,.p), (Gk 62 59 61,.p), (ce 1 6 58,.k), (ce 1 7 62,.k)]) .ret))))⟩
def f80_0 : IR := ai [ab 5 1, qc 6 5 0] (ct 6 (.reg [⟨none, some 7, .mkif 9 (.c (.cv (.sc (.string ⟨#[99, 97, 110, 110, 111, 116, 32, 98, 101, 32, 110, 101, 103, 97, 116,
 105, 118, 101]⟩))))⟩, ad4 7]) .skip)
def f80 : FnIR := ⟨27, [.t 4], ai [db 4] (.seq f80_0 (.seq (ai [ab 8 1, ab 9 0, ae1 10 9, ab 11 0, de 12 11, Ru 13 10 12, Ru 14 8 13,
 ab 1 14] (ai [ab 15 1, Gv 16 15 0] (ct 16 (.reg [ab 17 0, ab 18 0, ae1 19 18, Jh 20 1 17 19, ab 21 1, ⟨none, some 22,
 .apz 1 1 [.sc (.int .u8 0)] (.t 20) (.t 21)⟩, ab 23 0, de 24 23, Jh 25 1 22 24, ab 0 25]) .skip))) (ai [ab 26 0, ab 4 26] .ret)))⟩
def f81 : FnIR := ⟨10, [.t 4], ai [ge 4] (ai [ab 5 0, Rv 6 5, ab 7 1, Rv 8 7, Gk 9 6 8, ab 4 9] .ret)⟩
def f82_0 : IR := ct 26 .skip (.exit 1)
def f82_1 : IR := ai [ab 28 7, yr 29 2 28, ab 30 6, ⟨none, some 31, .bin .geq (.t 29) (.t 30)⟩] (ct 31 (ai [bz 2 0, db 3, dm 4 11] .ret) .skip)
def f82_2 : IR := ai [ab 45 10, oq 46 45] (ct 46 (ai [bz 2 0, db 3, dm 4 11] .ret) .skip)
def f82_3 : IR := ai [jm 26 25 24] (.seq f82_0 (.seq (.block 2 (ai [ab 27 25, ab 7 27] (.seq f82_1 (ai [ab 32 0, ab 33 7, yr 34 2 33, ga 35 1 32 34,
 au 36 35, tf 37 36, ab 8 37] (ai [ab 39 0, ab 40 8, ab 41 6, adz 42 91 39 40 41, ab 38 42, bo 43 38 0, bo 44 38 1, Kt 9, ce 2 9 43,
 ab 10 44] (.seq f82_2 (.reg [ab 47 5, jd 48 2 9, adr 49 48, Qg 50 47 49, ab 51 8, ab 5 50, ab 6 51]))))))) (.reg [en 52 25 1, ab 25 52])))
def f82 : FnIR := ⟨75, [.t 2, .t 3, .t 4], ai [bz 2 0, db 3, dm 4 0] (.seq (.block 0 (ai [ab 14 0, de 15 14, ⟨none, some 16,
 .bin .neq (.t 15) (.c (vi .i64 256))⟩, ab 13 16] (ct 13 (ai [bz 2 0, db 3, dm 4 11] .ret) (ai [ab 18 0, ik 19 90 18, oq 20 19,
 ab 17 20] (ct 17 (ai [bz 2 0, db 3, dm 4 12] .ret) .skip))))) (ai [db 5] (ai [bz 6 252] (.seq (ai [ab 21 0, ya 22 1 21 1, au 23 22,
 tf 24 23, bz 25 0] (.block 1 (.loop f82_3))) (.seq (ai [ab 54 0, ya 55 1 54 0, au 56 55, tf 57 56, ab 58 5, Bq 59 89 57 58, ab 53 59, bo 60 53 0,
 bo 61 53 1, ab 11 60, ab 12 61] (ai [ab 62 12, oq 63 62, ab 64 63, il 64 65 11, il 64 66 0, ⟨some (64, false), some 67, .call 81 true [.t 65, .t 66]⟩,
 Tn 64 68 67, kr 69 64 68] (ct 69 (ai [bz 2 0, db 3, dm 4 11] .ret) .skip))) (ai [ab 70 0, ya 71 1 70 0, au 72 71, tf 73 72, ab 74 5, ab 2 73,
 ab 3 74, dm 4 0] .ret))))))⟩
def f83_0 : IR := ai [ab 10 0, de 11 10, ab 12 1, de 13 12, ⟨none, some 14, .bin .neq (.t 11) (.t 13)⟩] (ct 14 (ai [ge 6] .ret) .skip)
def f83_1 : IR := ct 18 .skip (.exit 0)
def f83_2 : IR := ai [jm 18 17 16] (.seq f83_1 (.seq (.block 1 (ai [ab 19 17, ga 20 1 15 17, au 21 20, ab 7 19, ab 8 21] (ai [ab 22 1, ab 23 7,
 ga 24 1 22 23, au 25 24, ab 9 25] (ai [ab 26 2, ab 27 8, ab 28 9, ⟨none, some 29, .callv true (.t 26) [.t 27, .t 28]⟩,
 oq 30 29] (ct 30 (ai [ge 6] .ret) .skip))))) (.reg [en 31 17 1, ab 17 31])))
def f83 : FnIR := ⟨32, [.t 6], ai [ge 6] (.seq f83_0 (.seq (ai [ab 15 0, de 16 15, bz 17 0] (.block 0 (.loop f83_2))) (ai [Co 6] .ret)))⟩
def f84 : FnIR := ⟨8, [.t 2, .t 3], ai [db 2, dm 3 0] (ai [ab 4 0, ⟨none, some 5, .call 92 true [.t 4, .c (.func 93 [])]⟩, bo 6 5 0, bo 7 5 1, ab 2 6,
 ab 3 7] .ret)⟩
def f87 : FnIR := ⟨5, [.t 2], ai [ajv 2] (ai [ab 3 0, ⟨none, some 4, .call 95 true [.c (vi .u32 0), .t 3]⟩, ab 2 4] .ret)⟩
def f88 : FnIR := ⟨4, [.t 2], ai [qb 1 1 0, akh 2] (ai [Yl 3 96 1, ab 2 3] .ret)⟩
def f89_0 : IR := ai [ab 11 0, qc 12 11 0, ab 13 12, il 13 14 0, zx 13 15 14 4, kr 16 13 15, ab 17 16, il 17 18 1, ⟨some (17, false), some 19,
 .call 97 true [.t 18]⟩, il 17 20 1, Gh 17 21 20, ⟨some (17, false), some 22, .bin .lss (.t 19) (.t 21)⟩, kr 23 17 22] (ct 23 (ai [db 4, ge 5] .ret) .skip)
def f89_1 : IR := ct 34 .skip (.exit 0)
def f89_2 : IR := ai [jm 34 33 32] (.seq f89_1 (.seq (.block 1 (ai [ab 35 33, ga 36 2 31 33, jd 37 2 36, Kt 9, ab 8 35, ce 2 9 37] (ai [jd 38 2 9,
 ik 39 98 38, ab 10 39] (ai [ab 40 7, ab 41 10, de 42 41, Ru 43 40 42, ab 7 43] (ai [ab 44 8, yr 45 2 44, ab 46 7, pl 47 46, abo 48 252 6 45,
 ce 1 48 47] (.reg [ab 49 7, ⟨none, some 50, .slA 252 1 (.t 6) (some (.t 49)) none⟩, ab 51 10, Jy 52 1 50 51])))))) (.reg [en 53 33 1, ab 33 53])))
def f89 : FnIR := ⟨56, [.t 4, .t 5], ai [db 4, ge 5] (.seq f89_0 (ai [⟨none, some 6, .alloc (List.replicate 252 (.cv (.sc (.int .u8 0))))⟩] (ai [ab 24 0, pl 25 24,
 ab 26 1, de 27 26, pl 28 27, Je 29 252 6 0, ce 1 29 25, Je 30 252 6 1, ce 1 30 28] (ai [bz 7 252] (.seq (ai [ab 31 1, de 32 31,
 bz 33 0] (.block 0 (.loop f89_2))) (ai [Lg 54 252 6, my 55 77 54, ab 4 55, Co 5] .ret))))))⟩
def f90 : FnIR := ⟨17, [.t 2], ai [ge 2] (ai [ab 4 0, de 5 4, Qd 6 5 4, ab 3 6] (ai [ab 7 3, Rm 8 7 0, ab 9 8, gm 9 10 0, gm 9 11 3, ⟨some (9,
 true), some 12, .slL 1 (.t 10) none (some (.t 11)) none⟩, ⟨some (9, true), some 13, .call 77 true [.t 12]⟩, gm 9 14 0, ⟨some (9, true), some 15, .call 81 true [.t 13, .t 14]⟩,
 ly 16 9 15, ab 2 16] .ret))⟩
def f91_0 : IR := ai [ab 12 1, ab 13 2, ⟨none, some 14, .bin .geq (.t 12) (.t 13)⟩] (ct 14 (ai [jd 15 2 6, ce 2 6 15, ge 7] .ret) .skip)
def f91_1 : IR := ai [ab 25 10, Cm 26 25] (ct 26 (ai [jd 27 2 6, ce 2 6 27, ge 7] .ret) .skip)
def f91 : FnIR := ⟨48, [.cell 6 true 2, .t 7], ai [Kt 6, ge 7] (.seq f91_0 (ai [ab 17 0, ab 18 2, Jh 19 1 17 18, ab 20 1, Zn 21 19 20 30, ab 16 21,
 bo 22 16 0, bo 23 16 1, bo 24 16 2, ab 8 22, ab 9 23, ab 10 24] (.seq f91_1 (ai [ab 29 0, ab 30 2, Jh 31 1 29 30, ab 32 9, Zn 33 31 32 150,
 ab 28 33, bo 34 28 0, bo 35 28 1, bo 36 28 2, ab 11 34, ab 9 35, ab 10 36] (ai [ab 37 8, ab 38 11, ⟨none, some 39, .cvSB false (.t 38)⟩,
 agk 40 37 39, ab 41 10, Ta 42 41, ab 43 42, gm 43 44 9, gm 43 45 2, ⟨some (43, true), some 46, .bin .eql (.t 44) (.t 45)⟩, ly 47 43 46, ce 2 6 40,
 ab 7 47] .ret)))))⟩
def f92_0 : IR := .seq (ai [ab 23 9, Ta 24 23, ab 25 24, gm 25 26 7, Zc 25 27 26 0,
 ly 28 25 27] (ct 28 .skip (.exit 0))) (.seq (.block 1 (ai [Yb 10] (ai [ab 32 1, ab 33 0, ab 34 8, ⟨none, some 35, .callv true (.t 32) [.t 33, .t 34]⟩,
 ab 31 35, bo 36 31 0, bo 37 31 1, bo 38 31 2, ce 3 10 36, ab 8 37, ab 9 38] (ai [ab 39 9, Ta 40 39] (ct 40 (.reg [ab 41 6, jd 42 3 10,
 agj 43 42, akx 44 41 43, ab 6 44]) .skip))))) (.reg [ab 29 7, Qd 30 29 1, ab 7 30]))
def f92 : FnIR := ⟨55, [.t 4, .t 5], ai [db 4, dm 5 0] (ai [db 6] (ai [ab 12 0, ⟨none, some 13, .call 100 true [.t 12, .c (vi .i64 0)]⟩, ab 11 13,
 bo 14 11 0, bo 15 11 1, bo 16 11 2, ab 7 14, ab 8 15, ab 9 16] (.seq (ai [ab 17 9, Ta 18 17, ab 19 18, gm 19 20 7, Zc 19 21 20 5000,
 ly 22 19 21] (ct 22 (.reg [dm 9 3]) .skip)) (.seq (.block 0 (.loop f92_0)) (.seq (.block 2 (ai [ab 46 9, Cm 47 46, ab 45 47] (ct 45 (ai [ab 48 9, db 4,
 ab 5 48] .ret) (ai [ab 50 8, ab 51 0, de 52 51, jm 53 50 52, ab 49 53] (ct 49 (ai [db 4, dm 5 11] .ret) .skip))))) (ai [ab 54 6, ab 4 54,
 dm 5 0] .ret))))))⟩
def f93 : FnIR := ⟨59, [.cell 4 true 3, .t 5, .t 6], ai [Yb 4, bz 5 0, dm 6 0] (ai [ab 11 0, ab 12 1, Zn 13 11 12 30, ab 10 13, bo 14 10 0,
 bo 15 10 1, bo 16 10 2, ab 7 14, ab 1 15, ab 8 16] (.seq (.block 0 (ai [ab 18 8, Cm 19 18, ab 17 19] (ct 17 (ai [aem 20, ab 21 8, ce 3 4 20,
 bz 5 0, ab 6 21] .ret) (ai [ab 23 1, ab 24 0, de 25 24, Gk 26 23 25, ab 22 26] (ct 22 (ai [aem 27, ce 3 4 27, bz 5 0,
 dm 6 10] .ret) (ai [ab 29 0, ab 30 1, ga 31 1 29 30, au 32 31, afi 33 32 1, ab 28 33] (ct 28 (ai [ab 34 7, ajg 35 34, ab 36 1, en 37 36 1,
 ce 3 4 35, ab 5 37, dm 6 0] .ret) (ai [ab 39 0, ab 40 1, ga 41 1 39 40, au 42 41, akn 43 42 1, ab 38 43] (ct 38 (ai [aem 44, ce 3 4 44,
 bz 5 0, dm 6 11] .ret) .skip))))))))) (ai [ab 46 0, ab 47 1, en 48 47 1, Zn 49 46 48 150, ab 45 49, bo 50 45 0, bo 51 45 1, bo 52 45 2, ab 9 50,
 ab 1 51, ab 8 52] (ai [ab 53 7, ab 54 9, ⟨none, some 55, .cvSB false (.t 54)⟩, ahh 56 53 55, ab 57 1, ab 58 8, ce 3 4 56, ab 5 57, ab 6 58] .ret))))⟩
def f95_0 : IR := ct 14 .skip (.exit 0)
def f95_1 : IR := ai [jm 14 13 12] (.seq f95_0 (.seq (.block 1 (ai [ga 15 1 11 13, au 16 15, ab 7 16] (.reg [ab 17 0, Kp 18 17 8, ab 19 0, pl 20 19,
 ab 21 7, agh 22 20 21, abo 23 256 5 22, au 24 23, agh 25 18 24, ab 0 25]))) (.reg [en 26 13 1, ab 13 26])))
def f95 : FnIR := ⟨29, [.t 4], ai [ajv 4] (ai [aa7 8 102, ⟨none, some 5, .alloc (List.replicate 256 (.cv (.sc (.int .u32 0))))⟩, ce 256 5 8] (ai [ab 9 0, ⟨none,
 some 10, .un .xor (.t 9)⟩, ab 0 10] (.seq (ai [ab 11 1, de 12 11, bz 13 0] (.block 0 (.loop f95_1))) (ai [ab 27 0, ⟨none, some 28, .un .xor (.t 27)⟩,
 ab 4 28] .ret))))⟩
def f96_0 : IR := ai [ab 6 0, au 7 1, ab 8 3, Jh 9 2 7 8, Xk 10 6 9, oq 11 10, ab 12 11, il 12 13 3, ⟨some (12, false), some 14,
 .bin .eql (.t 13) (.c (vi .i64 0))⟩, kr 15 12 14, ab 16 15, il 16 17 3, Qo 16 18 1, Gh 16 19 18, ⟨some (16, false), some 20, .bin .eql (.t 17) (.t 19)⟩,
 kr 21 16 20] (ct 21 .ret .skip)
def f96_1 : IR := .block 1 (ai [au 4 1, ik 5 97 4, ab 3 5] (.seq f96_0 (.reg [au 22 1, ab 23 3, vy 24 2 22 23, ce 1 1 24])))
def f96 : FnIR := ⟨25, [], .block 0 (.loop f96_1)⟩
def f97_0 : IR := ct 9 .skip (.exit 0)
def f97_1 : IR := ai [bi 13 0 5, au 14 13, afn 15 14, Gv 16 15 30, ab 17 16, Zi 17 18 1 5, Qo 17 19 18, Gh 17 20 19, zx 17 21 20 150,
 kr 22 17 21] (ct 22 (ai [ab 23 4, ab 2 23] .ret) .skip)
def f97_2 : IR := ai [jm 9 8 7] (.seq f97_0 (.seq (.block 1 (ai [ab 10 8, ga 11 2 6 8, jd 12 2 11, Kt 5, ab 4 10, ce 2 5 12] (.seq f97_1 (ai [ab 24 3,
 jd 25 2 5, ik 26 98 25, de 27 26, yr 28 1 27, ls 29 24 28, ab 3 29] (ai [ab 30 3, Gv 31 30 250] (ct 31 (ai [ab 32 4,
 ab 2 32] .ret) .skip)))))) (.reg [en 33 8 1, ab 8 33])))
def f97 : FnIR := ⟨36, [.t 2], ai [bz 2 0] (ai [bz 3 0] (.seq (ai [ab 6 0, de 7 6, bz 8 0] (.block 0 (.loop f97_2))) (ai [ab 34 0, de 35 34,
 ab 2 35] .ret)))⟩
def f98 : FnIR := ⟨11, [.t 2], ai [qb 1 2 0, db 2] (.seq (.draw [(bi 3 0 1,.p), (au 4 3, .r 0 0), (my 5 75 4,.k), (bi 6 1 1,.p), (au 7 6, xv), (Rv 8 7,
 xv), (my 9 75 8,.k), (yb 10 5 9,.k), (ab 2 10,.p)]) .ret)⟩
def f99 : FnIR := ⟨44, [.t 6, .t 7, .t 8], ai [Yq, bz 7 0, dm 8 0] (ai [ab 13 0, ab 14 1, Bq 15 100 13 14, ab 12 15, bo 16 12 0, bo 17 12 1,
 bo 18 12 2, ab 9 16, ab 10 17, ab 11 18] (.seq (.block 0 (ai [ab 20 11, Cm 21 20, ab 19 21] (ct 19 (ai [ab 22 11, Yq, bz 7 0,
 ab 8 22] .ret) (ai [ab 24 9, ab 25 2, Wd 26 24 25, ab 23 26] (ct 23 (ai [Yq, bz 7 0, dm 8 3] .ret) (ai [ab 28 9, ab 29 0, de 30 29,
 ab 31 10, Ru 32 30 31, Wd 33 28 32, ab 27 33] (ct 27 (ai [Yq, bz 7 0, dm 8 10] .ret) .skip))))))) (ai [ab 34 0, ab 35 10, ab 36 10, ab 37 9,
 ls 38 36 37, ⟨none, some 39, .slL 1 (.t 34) (some (.t 35)) (some (.t 38)) none⟩, Rv 40 39, ab 41 10, ab 42 9, ls 43 41 42, ab 6 40, ab 7 43,
 dm 8 0] .ret)))⟩
def f100_0 : IR := .seq (ai [ab 18 8, qc 19 18 8] (ct 19 .skip (.exit 0))) (.seq (.block 1 (.seq (ai [ab 22 1, ab 23 8, ls 24 22 23, ab 25 0, de 26 25,
 Gk 27 24 26] (ct 27 (.goto 0) .skip)) (ai [ab 28 0, ab 29 1, ab 30 8, ls 31 29 30, ga 32 1 28 31, au 33 32, ab 9 33] (ai [ab 34 7, ab 35 9,
 aih 36 35 127, tf 37 36, ab 38 8, ad8 39 7 38, ⟨none, some 40, .bin .shl (.t 37) (.t 39)⟩, Vo 41 34 40, ab 7 41] (ai [ab 42 9, aih 43 42 128,
 afi 44 43 0] (ct 44 (.seq (ai [ab 45 9, afi 46 45 0, ab 47 46, gm 47 48 8, Zc 47 49 48 0, ly 50 47 49, ab 51 50, il 51 52 7,
 zx 51 53 52 9007199254740992, kr 54 51 53] (ct 54 (.goto 1) .skip)) (ai [ab 55 7, ab 56 1, ab 57 8, ls 58 56 57, en 59 58 1, ab 4 55, ab 5 59,
 dm 6 0] .ret)) .skip)))))) (.reg [ab 20 8, en 21 20 1, ab 8 21]))
def f100_1 : IR := ai [bz 7 0, bz 8 0] (.seq (ai [ab 10 1, qc 11 10 0, ab 12 11, il 12 13 1, il 12 14 0, Gh 12 15 14, ag6 12 16 13 15,
 kr 17 12 16] (ct 17 (.goto 0) .skip)) (.seq (.block 0 (.loop f100_0)) (.seq (.label 1) (.seq (ai [bz 4 0, bz 5 0, dm 6 11] .ret) (.seq (.label 0) (ai [bz 4 0,
 bz 5 0, dm 6 10] .ret))))))
def f100 : FnIR := ⟨60, [.t 4, .t 5, .t 6], ai [bz 4 0, bz 5 0, dm 6 0] (.scope f100_1)⟩
def f102_0 : IR := ct 5 .skip (.exit 0)
def f102_1 : IR := ct 10 .skip (.exit 2)
def f102_2 : IR := ai [qc 10 9 8] (.seq f102_1 (.seq (.block 3 (.reg [ab 11 3, Kp 12 11 1, ab 13 3, ⟨none, some 14, .bin .and (.t 13) (.c (vi .u32 1))⟩, ⟨none,
 some 15, .bin .mul (.c (vi .u32 3988292384)) (.t 14)⟩, agh 16 12 15, ab 3 16])) (.reg [en 17 9 1, ab 9 17])))
def f102_3 : IR := ai [qc 5 4 256] (.seq f102_0 (.seq (.block 1 (ai [ab 6 4, ab 2 6] (ai [ab 7 2, ⟨none, some 8, .cvI .u32 (.t 7)⟩,
 ab 3 8] (.seq (ai [bz 9 0] (.block 2 (.loop f102_2))) (.reg [ab 18 2, ab 19 3, abo 20 256 1 18, ce 1 20 19]))))) (.reg [en 21 4 1, ab 4 21])))
def f102 : FnIR := ⟨23, [.cell 0 true 256], ai [⟨none, some 0, .alloc (List.replicate 256 (.cv (.sc (.int .u32 0))))⟩] (ai [⟨none, some 1,
 .alloc (List.replicate 256 (.cv (.sc (.int .u32 0))))⟩] (.seq (ai [bz 4 0] (.block 0 (.loop f102_3))) (ai [jd 22 256 1, ce 256 0 22] .ret)))⟩
def f119_0 : IR := ai [ab 9 0, ab 10 1, qh 11 56 9 10, oq 12 11] (ct 12 (ai [db 4, dm 5 20] .ret) .skip)
def f119_1 : IR := ct 26 .skip (.exit 0)
def f119_2 : IR := ai [jm 26 25 24] (.seq f119_1 (.seq (.block 1 (ai [ga 27 65 23 25, jd 28 65 27, ⟨none, some 8,
 .alloc ((.cv (.sc (.int .i64 0))) :: List.replicate 64 (.cv (.sc (.int .u8 0))))⟩, ce 65 8 28] (ai [bi 29 0 8, au 30 29, ab 31 1,
 Gk 32 30 31] (ct 32 (.reg [bi 33 1 8, jd 34 64 33, ce 64 6 34]) .skip)))) (.reg [en 35 25 1, ab 25 35])))
def f119 : FnIR := ⟨37, [.t 4, .t 5], ai [db 4, dm 5 0] (.seq f119_0 (ai [ab 13 0, eh 14 13, bi 15 0 14, au 16 15, ab 17 1, ga 18 64 16 17,
 jd 19 64 18, ⟨none, some 6, .alloc (List.replicate 64 (.cv (.sc (.int .u8 0))))⟩, ce 64 6 19] (.seq (ai [ab 20 0, eh 21 20, bi 22 1 21, au 23 22, de 24 23,
 bz 25 0] (.block 0 (.loop f119_2))) (ai [Lg 36 64 6, ab 4 36, dm 5 0] .ret))))⟩
abbrev ajb : List Nat := [31, 32, 27, 119, 29, 26, 28, 56, 57, 54, 53, 10, 14, 15, 16, 20, 21, 25, 11, 13, 34, 60, 33, 63, 35, 38, 36, 17]
abbrev alg : List Nat := [31, 32, 27, 119, 29, 26, 28, 56, 57, 54, 53, 10]
def ai5 : Nat → List Nat := fun n => match n with
 | 7 | 11 | 12 | 13 | 14 | 15 | 16 | 17 | 20 | 30 | 33 | 35 | 38 | 41 | 51 | 60 => ajb
 | 10 | 29 | 31 | 32 | 53 | 54 | 56 | 57 | 58 | 119 => alg
 | 19 => [45, 44]
 | 25 => [31, 32, 27, 119, 29, 26, 28, 56, 57, 54, 53, 10, 14, 15, 16, 20, 21, 25, 11, 13, 34, 60, 33, 63, 35, 38, 36, 17, 50]
 | 34 => [31, 32, 27, 119, 29, 26, 28, 56, 57, 54, 53, 10, 14, 15, 16, 20, 21, 25, 11, 13, 34, 60, 33, 63, 35, 38, 36, 17, 45]
 | 36 => [31, 32, 27, 119, 29, 26, 28, 56, 57, 54, 53, 10, 14, 15, 16, 20, 21, 25, 11, 13, 34, 60, 33, 63, 35, 38, 36, 17, 45, 44]
 | 37 => [65]
 | 39 => [66, 67, 50, 70]
 | 42 => [66]
 | 44 => [72]
 | 46 | 75 => [74]
 | 48 => [76]
 | 50 | 73 | 96 => [3000000]
 | 59 => [79]
 | 61 => [80]
 | 63 => [31, 32, 27, 119, 29, 26, 28, 56, 57, 54, 53, 10, 14, 15, 16, 20, 21, 25, 11, 13, 34, 60, 33, 63, 35, 38, 36, 17, 1000081]
 | 67 => [50, 3000000]
 | 79 => [88]
 | 89 => [77]
 | 98 => [75]
 | _ => []
def ais : Nat → List (Nat × Nat) := fun n => match n with
 | 10 => [(3, 1)]
 | 13 => [(10, 6)]
 | 36 => [(1, 9)]
 | 49 => [(5, 7), (7, 8), (12, 18)]
 | 54 => [(3, 2)]
 | 77 => [(2, 3)]
 | _ => []
theorem f70_ok : Rr Proofs.Try.prog [3000004] [] Proofs.Try.f70 = some f70 := by kernel_rfl
def f70x : FnIR := ⟨3, [.t 2], .reg [⟨none, some 2, .ins 2 40 (.t 0) (.t 1) (.t 2)⟩]⟩
def F : Nat → Option FnIR := fun n => match n with
 | 7 => some f7
 | 10 => some f10
 | 11 => some f11
 | 12 => some f12
 | 13 => some f13
 | 14 => some f14
 | 15 => some f15
 | 16 => some f16
 | 17 => some f17
 | 19 => some f19
 | 20 => some f20
 | 22 => some f22
 | 23 => some f23
 | 24 => some f24
 | 25 => some f25
 | 29 => some f29
 | 30 => some f30
 | 31 => some f31
 | 32 => some f32
 | 33 => some f33
 | 34 => some f34
 | 35 => some f35
 | 36 => some f36
 | 37 => some f37
 | 38 => some f38
 | 39 => some f39
 | 40 => some f40
 | 41 => some f41
 | 42 => some f42
 | 43 => some f43
 | 44 => some f44
 | 45 => some f45
 | 46 => some f46
 | 47 => some f47
 | 48 => some f48
 | 49 => some f49
 | 50 => some f50
 | 51 => some f51
 | 52 => some f52
 | 53 => some f53
 | 54 => some f54
 | 56 => some f56
 | 57 => some f57
 | 58 => some f58
 | 59 => some f59
 | 60 => some f60
 | 61 => some f61
 | 62 => some f62
 | 63 => some f63
 | 64 => some f64
 | 65 => some f65
 | 66 => some f66
 | 67 => some f67
 | 68 => some f68
 | 69 => some f69
 | 70 => some f70x
 | 71 => some f71
 | 72 => some f72
 | 73 => some f73
 | 74 => some f74
 | 75 => some f75
 | 76 => some f76
 | 77 => some f77
 | 78 => some f78
 | 79 => some f79
 | 80 => some f80
 | 81 => some f81
 | 82 => some f82
 | 83 => some f83
 | 84 => some f84
 | 87 => some f87
 | 88 => some f88
 | 89 => some f89
 | 90 => some f90
 | 91 => some f91
 | 92 => some f92
 | 93 => some f93
 | 95 => some f95
 | 96 => some f96
 | 97 => some f97
 | 98 => some f98
 | 99 => some f99
 | 100 => some f100
 | 102 => some f102
 | 119 => some f119
 | _ => none
def ajw (f : Nat) : Option FnIR := if f = 70 then none else F f
theorem anw {f : Nat} {fn : FnIR} (h : F f = some fn) : f < 120 := by
 unfold F at h
 split at h <;> first | decide | cases h
theorem tlt {f : Nat} {fn : FnIR} (h : F f = some fn) : f < YB := Nat.lt_trans (anw h) (by decide)
theorem an6 : ((List.range 120).map fun f => if (ajw f).isSome = true then (Proofs.Try.prog.funcs[f]?).map fun c => (c.name == "runtime.NumGoroutine", Rr Proofs.Try.prog (ai5 f) (ais f) c) else none) = (List.range 120).map fun f => if (ajw f).isSome = true then some (false, ajw f) else none := by kernel_rfl
theorem aog (h70 : agf Proofs.Try.prog 70 f70x) : Tp Proofs.Try.prog F := by
 refine ⟨by kernel_rfl, fun f fn h => ⟨tlt h, ?_⟩⟩
 by_cases e70 : f = 70
 ·subst e70
  have h : some f70x = some fn := h
  cases h
  exact .inr h70
 have hf : ajw f = some fn := by
  unfold ajw
  rw [if_neg e70]
  exact h
 have k := congrArg (·[f]?) an6
 simp only [List.getElem?_map, List.getElem?_range (anw h)] at k
 have k := Option.some.inj k
 dsimp only at k
 have p : (some fn).isSome = true := rfl
 rw [hf, if_pos p, if_pos p] at k
 cases hc : Proofs.Try.prog.funcs[f]? with
 | none => rw [hc] at k; cases k
 | some c =>
  rw [hc] at k
  have k := Option.some.inj k
  exact .inl ⟨c, ai5 f, ais f, rfl, congrArg (·.1) k, congrArg (·.2) k⟩
end Go.V08
