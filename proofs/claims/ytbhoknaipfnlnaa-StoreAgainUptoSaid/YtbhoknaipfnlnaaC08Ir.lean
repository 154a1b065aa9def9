/-
 Chapter 08: the program's functions, as the small code (printed by a program of ours, checked by the kernel).
-/
import Derived.Test.YtbhoknaipfnlnaaVmAll2
import Derived.Test.YtbhoknaipfnlnaaProg
namespace Go.V08
open Go Go.Vm
theorem eE0 {F : Nat → Option FnIR} {f n : Nat} {fn : FnIR} (hf : F f = some fn) (hn : fn.nt = n) {h : ah} {P : VV → ah → Prop} (k : ∀ s : List VV, s.length = n → X F fn.body ⟨s, h⟩ (RQ fn.res P)) (hb : Nat.ble 0 n = true := by rfl) : ∃ v h', call F f [] h = some (.ret v, h') ∧ P v h' := by
  subst hn
  exact qh hf (k _ (by have := Nat.le_of_ble_eq_true hb; simp <;> omega)) hb
theorem eE1 {F : Nat → Option FnIR} {f n : Nat} {fn : FnIR} (hf : F f = some fn) (hn : fn.nt = n) {a0 : VV} {h : ah} {P : VV → ah → Prop} (k : ∀ s : List VV, s.length = n → s.getD 0 .undef = a0 → X F fn.body ⟨s, h⟩ (RQ fn.res P)) (hb : Nat.ble 1 n = true := by rfl) : ∃ v h', call F f [a0] h = some (.ret v, h') ∧ P v h' := by
  subst hn
  exact qh hf (k _ (by have := Nat.le_of_ble_eq_true hb; simp <;> omega) rfl) hb
theorem eP1 {F : Nat → Option FnIR} {f n : Nat} {fn : FnIR} (hf : F f = some fn) (hn : fn.nt = n) {a0 : VV} {h h' : ah} {v : VV} (k : ∀ s : List VV, s.length = n → s.getD 0 .undef = a0 → X F fn.body ⟨s, h⟩ (RQ fn.res (Is v h'))) (hb : Nat.ble 1 n = true := by rfl) : call F f [a0] h = some (.ret v, h') := by
  subst hn
  exact Wq hf (k _ (by have := Nat.le_of_ble_eq_true hb; simp <;> omega) rfl) hb
theorem eE2 {F : Nat → Option FnIR} {f n : Nat} {fn : FnIR} (hf : F f = some fn) (hn : fn.nt = n) {a0 a1 : VV} {h : ah} {P : VV → ah → Prop} (k : ∀ s : List VV, s.length = n → s.getD 0 .undef = a0 → s.getD 1 .undef = a1 → X F fn.body ⟨s, h⟩ (RQ fn.res P)) (hb : Nat.ble 2 n = true := by rfl) : ∃ v h', call F f [a0, a1] h = some (.ret v, h') ∧ P v h' := by
  subst hn
  exact qh hf (k _ (by have := Nat.le_of_ble_eq_true hb; simp <;> omega) rfl rfl) hb
theorem eP2 {F : Nat → Option FnIR} {f n : Nat} {fn : FnIR} (hf : F f = some fn) (hn : fn.nt = n) {a0 a1 : VV} {h h' : ah} {v : VV} (k : ∀ s : List VV, s.length = n → s.getD 0 .undef = a0 → s.getD 1 .undef = a1 → X F fn.body ⟨s, h⟩ (RQ fn.res (Is v h'))) (hb : Nat.ble 2 n = true := by rfl) : call F f [a0, a1] h = some (.ret v, h') := by
  subst hn
  exact Wq hf (k _ (by have := Nat.le_of_ble_eq_true hb; simp <;> omega) rfl rfl) hb
theorem eE3 {F : Nat → Option FnIR} {f n : Nat} {fn : FnIR} (hf : F f = some fn) (hn : fn.nt = n) {a0 a1 a2 : VV} {h : ah} {P : VV → ah → Prop} (k : ∀ s : List VV, s.length = n → s.getD 0 .undef = a0 → s.getD 1 .undef = a1 → s.getD 2 .undef = a2 → X F fn.body ⟨s, h⟩ (RQ fn.res P)) (hb : Nat.ble 3 n = true := by rfl) : ∃ v h', call F f [a0, a1, a2] h = some (.ret v, h') ∧ P v h' := by
  subst hn
  exact qh hf (k _ (by have := Nat.le_of_ble_eq_true hb; simp <;> omega) rfl rfl rfl) hb
theorem eP3 {F : Nat → Option FnIR} {f n : Nat} {fn : FnIR} (hf : F f = some fn) (hn : fn.nt = n) {a0 a1 a2 : VV} {h h' : ah} {v : VV} (k : ∀ s : List VV, s.length = n → s.getD 0 .undef = a0 → s.getD 1 .undef = a1 → s.getD 2 .undef = a2 → X F fn.body ⟨s, h⟩ (RQ fn.res (Is v h'))) (hb : Nat.ble 3 n = true := by rfl) : call F f [a0, a1, a2] h = some (.ret v, h') := by
  subst hn
  exact Wq hf (k _ (by have := Nat.le_of_ble_eq_true hb; simp <;> omega) rfl rfl rfl) hb
theorem eE4 {F : Nat → Option FnIR} {f n : Nat} {fn : FnIR} (hf : F f = some fn) (hn : fn.nt = n) {a0 a1 a2 a3 : VV} {h : ah} {P : VV → ah → Prop} (k : ∀ s : List VV, s.length = n → s.getD 0 .undef = a0 → s.getD 1 .undef = a1 → s.getD 2 .undef = a2 → s.getD 3 .undef = a3 → X F fn.body ⟨s, h⟩ (RQ fn.res P)) (hb : Nat.ble 4 n = true := by rfl) : ∃ v h', call F f [a0, a1, a2, a3] h = some (.ret v, h') ∧ P v h' := by
  subst hn
  exact qh hf (k _ (by have := Nat.le_of_ble_eq_true hb; simp <;> omega) rfl rfl rfl rfl) hb
theorem eE5 {F : Nat → Option FnIR} {f n : Nat} {fn : FnIR} (hf : F f = some fn) (hn : fn.nt = n) {a0 a1 a2 a3 a4 : VV} {h : ah} {P : VV → ah → Prop} (k : ∀ s : List VV, s.length = n → s.getD 0 .undef = a0 → s.getD 1 .undef = a1 → s.getD 2 .undef = a2 → s.getD 3 .undef = a3 → s.getD 4 .undef = a4 → X F fn.body ⟨s, h⟩ (RQ fn.res P)) (hb : Nat.ble 5 n = true := by rfl) : ∃ v h', call F f [a0, a1, a2, a3, a4] h = some (.ret v, h') ∧ P v h' := by
  subst hn
  exact qh hf (k _ (by have := Nat.le_of_ble_eq_true hb; simp <;> omega) rfl rfl rfl rfl rfl) hb
abbrev aaf : VV := .cv (.sc (.bool true))
abbrev aa5 : VV := .cv (.sc (.bool false))
abbrev Uq : VV := .cv (.sc (.slice none 0 0))
abbrev amu : VV := .cv (.sc (.string ⟨#[]⟩))
abbrev ai (l : List Op1) (c : IR) : IR := .seq (.reg l) c
abbrev cq (n : Nat) (a b : IR) : IR := .cond (.t n) a b
abbrev xm : Cl := .r 0 1
abbrev ab (a b : Nat) : Op1 := ⟨none, some a, .mv (.t b)⟩
abbrev ax (a b : Nat) : Op1 := ⟨none, some a, .ld false 1 (.t b)⟩
abbrev bj (a b c : Nat) : Op1 := ⟨none, some a, .fad b (.t c)⟩
abbrev bp (a b c : Nat) : Op1 := ⟨none, some a, .ext (.t b) c⟩
abbrev bu (a : Nat) (b : Int) : Op1 := ⟨none, some a, .mv (.c (vi .i64 b))⟩
abbrev cd (a b c : Nat) : Op1 := ⟨none, none, .st a (.t b) (.t c)⟩
abbrev cz (a b : Nat) : Op1 := ⟨none, some a, .len false (.t b)⟩
abbrev dg (a : Nat) : Op1 := ⟨none, some a, .mv (.c Uq)⟩
abbrev dq (a : Nat) (b : Int) : Op1 := ⟨none, some a, .mv (.c (vi .u16 b))⟩
abbrev ej (a b : Nat) : Op1 := ⟨none, some a, .nilck (.t b)⟩
abbrev ek (a b : Nat) (c : Int) : Op1 := ⟨none, some a, .bin .add (.t b) (.c (vi .i64 c))⟩
abbrev ga (a b c d : Nat) : Op1 := ⟨none, some a, .iadL b (.t c) (.t d)⟩
abbrev gd (a : Nat) : Op1 := ⟨none, some a, .mv (.c aa5)⟩
abbrev gu (a b c : Nat) : Op1 := ⟨some (a, false), some b, .mv (.t c)⟩
abbrev ij (a b c : Nat) : Op1 := ⟨some (a, true), some b, .mv (.t c)⟩
abbrev ik (a b c : Nat) : Op1 := ⟨none, some a, .call b true [.t c]⟩
abbrev jc (a b c : Nat) : Op1 := ⟨none, some a, .bin .lss (.t b) (.t c)⟩
abbrev je (a b c : Nat) : Op1 := ⟨none, some a, .ld true b (.t c)⟩
abbrev ko (a b c : Nat) : Op1 := ⟨none, some a, .pick (.t b) (.c aaf) (.t c)⟩
abbrev ky (a b c : Nat) : Op1 := ⟨none, some a, .call b false [.t c]⟩
abbrev ku (a b c : Nat) : Op1 := ⟨none, some a, .pick (.t b) (.t c) (.c aa5)⟩
abbrev lm (a b c : Nat) : Op1 := ⟨none, some a, .bin .add (.t b) (.t c)⟩
abbrev oe (a b : Nat) : Op1 := ⟨none, some a, .un .not (.t b)⟩
abbrev po (a b : Nat) : Op1 := ⟨none, some a, .cvI .u8 (.t b)⟩
abbrev qn (a b c d : Nat) : Op1 := ⟨none, some a, .call b false [.t c, .t d]⟩
abbrev rf (a b : Nat) : Op1 := ⟨none, some a, .cvI .i64 (.t b)⟩
abbrev sb (a b : Nat) (c : Int) : Op1 := ⟨none, some a, .bin .lss (.t b) (.c (vi .i64 c))⟩
abbrev rg (a b c : Nat) : Op1 := ⟨none, some a, .box b (.t c)⟩
abbrev vr (a b c d : Nat) : Op1 := ⟨none, some a, .slL b (.t c) (some (.t d)) none none⟩
abbrev yd (a b c : Nat) : Op1 := ⟨none, some a, .app 1 1 [.sc (.int .u8 0)] (.t b) (.t c)⟩
abbrev xe (a b c : Nat) (d : Int) : Op1 := ⟨none, some a, .iadL b (.t c) (.c (vi .i64 d))⟩
abbrev yw (a b c : Nat) (d : Int) : Op1 := ⟨some (a, false), some b, .bin .gtr (.t c) (.c (vi .i64 d))⟩
abbrev yr (a : Nat) (b : Int) (c : Nat) : Op1 := ⟨none, some a, .bin .add (.c (vi .i64 b)) (.t c)⟩
abbrev Bb (a b c : Nat) : Op1 := ⟨some (a, false), some b, .len false (.t c)⟩
abbrev Aw (a b : Nat) (c : Int) : Op1 := ⟨none, some a, .bin .eql (.t b) (.c (vi .i64 c))⟩
abbrev Ad (a b c d : Nat) : Op1 := ⟨none, some a, .call b true [.t c, .t d]⟩
abbrev Cp (a : Nat) : Op1 := ⟨none, some a, .mv (.c aaf)⟩
abbrev Gc (a b : Nat) : Op1 := ⟨none, some a, .eqn .ptr false (.t b)⟩
abbrev Eu (a b : Nat) : Op1 := ⟨none, some a, .bin .neq (.t b) (.c (vi .u16 0))⟩
abbrev Gd  : Op1 := ⟨none, some 2, .mv (.c (.cv (.sc (.pointer none))))⟩
abbrev Gg (a b : Nat) (c : Int) : Op1 := ⟨none, some a, .bin .gtr (.t b) (.c (vi .i64 c))⟩
abbrev Ek (a b c : Nat) : Op1 := ⟨some (a, true), some b, .ld false 1 (.t c)⟩
abbrev Hz (a : Nat) : Op1 := ⟨none, some a, .alloc [.cv (.sc (.int .i64 0)), .cv (.sc (.int .i64 0)), .cv (.sc (.int .i64 0))]⟩
abbrev Jq (a b c : Nat) : Op1 := ⟨some (a, false), some b, .ld false 1 (.t c)⟩
abbrev Iw (a b c d : Nat) : Op1 := ⟨none, some a, .cpy b (.t c) (.t d)⟩
abbrev Iy (a b c : Nat) (d : Int) : Op1 := ⟨none, some a, .iadA b 1 (.t c) (.c (vi .i64 d))⟩
abbrev Hu (a b c : Nat) : Op1 := ⟨none, some a, .bin .eql (.t b) (.t c)⟩
abbrev Jf (a b c d : Nat) : Op1 := ⟨none, some a, .slL b (.t c) none (some (.t d)) none⟩
abbrev Kv (a b : Nat) : Op1 := ⟨none, some a, .mkif 23 (.t b)⟩
abbrev Lx (a b c : Nat) : Op1 := ⟨none, some a, .slA b 1 (.t c) none none⟩
abbrev Kz (a : Nat) : Op1 := ⟨none, some a, .alloc [.cv (.sc (.string ⟨#[]⟩)), .cv (.sc (.slice none 0 0))]⟩
abbrev Lz (a b c d : Nat) : Op1 := ⟨some (a, true), some b, .fad c (.t d)⟩
abbrev Kt (a b : Nat) (c : Int) : Op1 := ⟨none, some a, .bin .shr (.t b) (.c (vi .u64 c))⟩
abbrev Sd (a b : Nat) (c : Int) : Op1 := ⟨none, some a, .bin .rem (.t b) (.c (vi .u8 c))⟩
abbrev Rv (a b c d : Nat) : Op1 := ⟨some (a, true), some b, .call c false [.t d]⟩
abbrev Sf (a b c d : Nat) : Op1 := ⟨some (a, false), some b, .fad c (.t d)⟩
abbrev Rr (a b : Nat) : Op1 := ⟨none, some a, .mksl 1 1 [.cv (.sc (.slice none 0 0))] [(0, (1, .t b))] false⟩
abbrev Qd (a b c : Nat) : Op1 := ⟨none, some a, .app 1 24 [.sc (.slice none 0 0)] (.t b) (.t c)⟩
abbrev Rd (a b : Nat) (c : Int) : Op1 := ⟨none, some a, .bin .geq (.t b) (.c (vi .i64 c))⟩
abbrev Qt (a b c : Nat) : Op1 := ⟨none, some a, .bin .sub (.t b) (.t c)⟩
abbrev Rj (a b : Nat) : Op1 := ⟨none, some a, .cvBS (.t b)⟩
abbrev Se (a b c : Nat) : Op1 := ⟨none, some a, .app 2 40 [.sc (.string ⟨#[]⟩), .sc (.slice none 0 0)] (.t b) (.t c)⟩
abbrev Tp (a : Nat) : Op1 := ⟨none, some a, .alloc [.cv (.sc (.slice none 0 0)), .cv (.sc (.slice none 0 0)), .cv (.sc (.int .i64 0)), .cv (.sc (.int .i64 0)), .cv (.sc (.bool false)), .cv (.sc (.int .i64 0))]⟩
abbrev Tm (a b c : Nat) (d : Int) : Op1 := ⟨some (a, true), some b, .bin .eql (.t c) (.c (vi .i64 d))⟩
abbrev Wa (a b c : Nat) : Op1 := ⟨some (a, false), some b, .un .not (.t c)⟩
abbrev Ss (a b c : Nat) : Op1 := ⟨none, some a, .bin .gtr (.t b) (.t c)⟩
abbrev Wj (a b c : Nat) (d : Int) : Op1 := ⟨none, some a, .call b false [.t c, .c (vi .i64 d)]⟩
abbrev Yf (a : Nat) : Op1 := ⟨none, some a, .alloc [.cv (.sc (.string ⟨#[]⟩)), .cv (.sc (.slice none 0 0)), .cv (.sc (.bool false))]⟩
abbrev Wr (a b c : Nat) : Op1 := ⟨none, some a, .callv false (.t b) [.t c]⟩
abbrev Wx (a b c : Nat) : Op1 := ⟨none, some a, .bin .or (.t b) (.t c)⟩
abbrev Ye (a b : Nat) : Op1 := ⟨none, some a, .bin .eql (.t b) (.c (vi .u16 0))⟩
abbrev Yw (a b : Nat) : Op1 := ⟨none, some a, .inv [(17, 116), (23, 29)] (.t b) []⟩
abbrev ack (a : Nat) : Op1 := ⟨none, none, .st 1 (.t a) (.c (vi .i64 0))⟩
abbrev Ys (a b c : Nat) : Op1 := ⟨none, some a, .mkfn b [.t c]⟩
abbrev Zj (a b : Nat) (c : Int) : Op1 := ⟨none, some a, .bin .sub (.t b) (.c (vi .i64 c))⟩
abbrev aac (a b c d e : Nat) : Op1 := ⟨none, some a, .call b false [.t c, .t d, .t e]⟩
abbrev Yu (a b c d : Nat) : Op1 := ⟨none, some a, .iadA b 1 (.t c) (.t d)⟩
abbrev aa6 (a b : Nat) (c : Int) : Op1 := ⟨none, some a, .bin .shl (.t b) (.c (vi .u64 c))⟩
abbrev aah (a b c : Nat) (d : Int) : Op1 := ⟨none, some a, .call 99 true [.t b, .t c, .c (vi .i64 d)]⟩
abbrev ach  : Op1 := ⟨none, some 6, .mv (.c amu)⟩
abbrev aga (a b : Nat) : Op1 := ⟨none, some a, .call b true []⟩
abbrev ado (a b c d : Nat) : Op1 := ⟨some (a, false), some b, .call c false [.t d]⟩
abbrev ahm (a b c : Nat) : Op1 := ⟨some (a, true), some b, .bin .eql (.t c) (.c (vi .u16 0))⟩
abbrev afr (a b c d e : Nat) : Op1 := ⟨some (a, true), some b, .call c true [.t d, .t e]⟩
abbrev aec (a b c : Nat) : Op1 := ⟨some (a, true), some b, .len false (.t c)⟩
abbrev aeu (a b c d : Nat) : Op1 := ⟨some (a, false), some b, .bin .gtr (.t c) (.t d)⟩
abbrev af7 (a b c d e : Nat) : Op1 := ⟨none, some a, .call b true [.t c, .t d, .t e]⟩
abbrev aff (a b c d : Nat) : Op1 := ⟨none, some a, .inv [(23, 31)] (.t b) [.t c, .t d]⟩
abbrev ahs (a b : Nat) : Op1 := ⟨none, some a, .inv [(23, 32)] (.t b) []⟩
abbrev ag5 (a : Nat) (b : Int) (c : Nat) : Op1 := ⟨none, some a, .bin .sub (.c (vi .i64 b)) (.t c)⟩
abbrev ag1 (a b c : Nat) : Op1 := ⟨none, some a, .bin .neq (.t b) (.t c)⟩
abbrev aer (a b c d e : Nat) : Op1 := ⟨some (a, false), some b, .iadL c (.t d) (.t e)⟩
abbrev agh (a b : Nat) (c : Int) : Op1 := ⟨none, some a, .bin .quo (.t b) (.c (vi .i64 c))⟩
abbrev ag7 (a b c d : Nat) : Op1 := ⟨some (a, true), some b, .bin .leq (.t c) (.t d)⟩
abbrev aex (a b c : Nat) : Op1 := ⟨none, some a, .build [.cv (.sc (.string ⟨#[]⟩)), .cv (.sc (.slice none 0 0))] [(0, (1, .t b)), (1, (1, .t c))]⟩
abbrev aef (a b : Nat) : Op1 := ⟨none, some a, .mksl 2 1 [.cv (.sc (.string ⟨#[]⟩)), .cv (.sc (.slice none 0 0))] [(0, (2, .t b))] false⟩
abbrev afb (a b : Nat) : Op1 := ⟨none, some a, .len true (.t b)⟩
abbrev ady (a : Nat) : Op1 := ⟨none, none, .panic (.t a)⟩
abbrev afh (a b c : Nat) (d : Int) : Op1 := ⟨some (a, true), some b, .bin .leq (.t c) (.c (vi .i64 d))⟩
abbrev adr (a b c d e : Nat) : Op1 := ⟨some (a, true), some b, .iadL c (.t d) (.t e)⟩
abbrev agb (a : Nat) (b : Int) (c : Nat) : Op1 := ⟨none, some a, .bin .mul (.c (vi .i64 b)) (.t c)⟩
abbrev agq (a b : Nat) : Op1 := ⟨none, some a, .cap (.t b)⟩
abbrev agm (a b c : Nat) (d : Int) : Op1 := ⟨some (a, true), some b, .bin .gtr (.t c) (.c (vi .i64 d))⟩
abbrev afw (a : Nat) : Op1 := ⟨none, some a, .build [.cv (.sc (.string ⟨#[]⟩)), .cv (.sc (.slice none 0 0)), .cv (.sc (.bool false))] []⟩
abbrev ahj (a b : Nat) (c : Int) : Op1 := ⟨none, some a, .bin .eql (.t b) (.c (vi .u8 c))⟩
abbrev adq (a b c : Nat) : Op1 := ⟨none, some a, .bin .xor (.t b) (.t c)⟩
abbrev ai2 (a b c : Nat) : Op1 := ⟨some (a, false), some b, .bin .neq (.t c) (.c (vi .u16 0))⟩
abbrev ajg (a b : Nat) (c : Int) : Op1 := ⟨none, some a, .bin .rem (.t b) (.c (vi .i64 c))⟩
abbrev als (a b : Nat) : Op1 := ⟨none, some a, .build [.cv (.sc (.string ⟨#[]⟩)), .cv (.sc (.slice none 0 0)), .cv (.sc (.bool false))] [(0, (1, .t b)), (2, (1, .c aaf))]⟩
abbrev ajj (a b c : Nat) : Op1 := ⟨none, some a, .build [.cv (.sc (.string ⟨#[]⟩)), .cv (.sc (.slice none 0 0)), .cv (.sc (.bool false))] [(0, (1, .t b)), (1, (1, .t c))]⟩
abbrev aj3 (a b : Nat) : Op1 := ⟨none, some a, .mksl 3 1 [.cv (.sc (.string ⟨#[]⟩)), .cv (.sc (.slice none 0 0)), .cv (.sc (.bool false))] [(0, (3, .t b))] false⟩
abbrev akh (a b c : Nat) : Op1 := ⟨none, some a, .app 3 48 [.sc (.string ⟨#[]⟩), .sc (.slice none 0 0), .sc (.bool false)] (.t b) (.t c)⟩
abbrev aie (a : Nat) : Op1 := ⟨none, none, .st 1 (.t a) (.c aa5)⟩
abbrev akq (a b c d : Nat) : Op1 := ⟨none, some a, .bin .add (.t b) (.c (.cv (.sc (.complex .f64 c d))))⟩
abbrev aki  : Op1 := ⟨none, some 9, .alloc [.cv (.sc (.int .i64 0))]⟩
abbrev akk (a b c d : Nat) : Op1 := ⟨none, some a, .build [.cv (.sc (.int .i64 0)), .cv (.sc (.int .i64 0)), .cv (.sc (.int .i64 0))] [(0, (1, .t b)), (1, (1, .t c)), (2, (1, .t d))]⟩
abbrev ah1 (a b : Nat) : Op1 := ⟨none, some a, .bin .mul (.t b) (.c (vi .i64 4))⟩
abbrev alb (a : Nat) : Op1 := ⟨none, some a, .build [.cv (.sc (.slice none 0 0)), .cv (.sc (.slice none 0 0)), .cv (.sc (.int .i64 0)), .cv (.sc (.int .i64 0)), .cv (.sc (.bool false)), .cv (.sc (.int .i64 0))] []⟩
abbrev aii (a b c : Nat) : Op1 := ⟨none, some a, .call b false [.c Uq, .t c]⟩
abbrev akr (a : Nat) : Op1 := ⟨none, some a, .mv (.c (.cv (.sc .nilFunc)))⟩
abbrev ah3 (a : Nat) (b : Int) : Op1 := ⟨none, some a, .mksl 1 1 [.cv (.sc (.int .u8 0))] [(0, (1, .c (vi .u8 b)))] false⟩
abbrev ak6 (a : Nat) (b : Int) : Op1 := ⟨none, some a, .slA 60 1 (.t 11) (some (.c (vi .i64 b))) none⟩
abbrev aka (a b c : Nat) : Op1 := ⟨none, some a, .mks 1 1 [.sc (.int .u8 0)] (.t b) (.t c) true⟩
abbrev al5 (a b : Nat) (c : Int) : Op1 := ⟨none, some a, .bin .gtr (.t b) (.c (vi .u8 c))⟩
abbrev aj5 (a b : Nat) : Op1 := ⟨none, some a, .bin .add (.c (vi .u8 97)) (.t b)⟩
abbrev ajq  : Op1 := ⟨none, some 4, .eqn .slice false (.t 3)⟩
abbrev alg (a : Nat) : Op1 := ⟨none, none, .st 1 (.t a) (.c Uq)⟩
abbrev ajf (a b c : Nat) : Op1 := ⟨none, some a, .slL 1 (.t b) (some (.c (vi .i64 11))) (some (.t c)) none⟩
abbrev aj9 (a b : Nat) : Op1 := ⟨none, some a, .mksl 1 1 [.cv (.sc (.int .u8 0))] [(0, (1, .t b))] false⟩
abbrev aj6 (a : Nat) : Op1 := ⟨none, some a, .alloc [.cv (.sc (.slice none 0 0))]⟩
abbrev aid (a : Nat) : Op1 := ⟨none, some a, .mv (.c (vi .u32 0))⟩
abbrev ala (a b : Nat) (c : Int) : Op1 := ⟨none, some a, .bin .and (.t b) (.c (vi .u8 c))⟩
def f8_0 : IR := ai [ab 18 1, ik 19 23 18, ab 20 19, gu 20 21 3, Bb 20 22 21, yw 20 23 22 100, ko 24 20 23, ab 25 24, gu 25 26 2, Bb 25 27 26,
 yw 25 28 27 8, ko 29 25 28] (cq 29 (ai [aga 30 12, ab 8 30] .ret) .skip)
def f8_1 : IR := ai [ab 36 9, Gc 37 36, ab 38 37, gu 38 39 9, ado 38 40 11 39, ai2 38 41 40, ko 42 38 41] (cq 42 (ai [gd 8] .ret) .skip)
def f8_2 : IR := ai [ab 48 12, Eu 49 48] (cq 49 (ai [gd 8] .ret) .skip)
def f8_3 : IR := .seq (ai [ab 50 13, ab 51 1, cz 52 51, jc 53 50 52] (cq 53 .skip (.exit 0))) (.seq (.block 1 (.reg [ab 56 11, ab 57 1, ab 58 13,
 ga 59 4 57 58, bj 60 1 59, ax 61 60, ⟨none, some 62, .call 24 true [.t 61, .c (vi .i64 6)]⟩, qn 63 14 56 62])) (.reg [ab 54 13, ek 55 54 1, ab 13 55]))
def f8_4 : IR := .seq (ai [ab 66 15, ab 67 2, cz 68 67, jc 69 66 68] (cq 69 .skip (.exit 2))) (.seq (.block 3 (ai [ab 72 9, ab 73 2, ab 74 15,
 ga 75 1 73 74, ax 76 75, Sd 77 76 30, rf 78 77, qn 79 26 72 78] (ai [ab 80 9, ky 81 13 80] (.reg [ab 82 9, ab 83 3,
 qn 84 27 82 83])))) (.reg [ab 70 15, ek 71 70 1, ab 15 71]))
def f8 : FnIR := ⟨101, [.t 8], ai [gd 8] (.seq f8_0 (ai [ab 32 0, ky 33 17 32, ab 31 33, bp 34 31 0, bp 35 31 1, Tp 10, ab 9 34,
 cd 6 10 35] (.seq f8_1 (ai [ab 44 9, ky 45 13 44, ab 43 45, bp 46 43 0, bp 47 43 1, ab 11 46,
 ab 12 47] (.seq f8_2 (.seq (ai [bu 13 0] (.block 0 (.loop f8_3))) (ai [ab 64 11, ky 65 16 64,
 ab 14 65] (.seq (ai [bu 15 0] (.block 2 (.loop f8_4))) (ai [ab 86 9, ky 87 13 86, ab 85 87, bp 88 85 0, bp 89 85 1, ab 16 88,
 ab 17 89] (ai [aga 90 12, ab 91 90, ij 91 92 17, ahm 91 93 92, ku 94 91 93, ab 95 94, ij 95 96 16, Rv 95 97 16 96, ij 95 98 14, afr 95 99 18 97 98,
 ku 100 95 99, ab 8 100] .ret))))))))))⟩
def f10_0 : IR := ai [ab 3 0, sb 4 3 0, ab 5 4, gu 5 6 0, yw 5 7 6 4096, ko 8 5 7] (cq 8 (ai [Gd] .ret) .skip)
def f10 : FnIR := ⟨13, [.t 2], ai [Gd] (.seq f10_0 (ai [ab 9 0, ⟨none, some 10, .mks 64 64 (List.replicate 64 (.sc (.int .u8 0))) (.t 9) (.t 9) true⟩, ⟨none, some 11,
 .build [.cv (.sc (.slice none 0 0)), .cv (.sc (.slice none 0 0)), .cv (.sc (.complex .f64 0 0)), .cv (.sc (.bool false)), .cv (.sc (.int .i64 0))] [(0, (1, .t 10))]⟩,
 rg 12 5 11, ab 2 12] .ret))⟩
def f11_0 : IR := ai [ab 8 0, ky 9 29 8, sb 10 9 64] (cq 10 (ai [dq 2 20] .ret) .skip)
def f11_1 : IR := cq 20 .skip (.exit 0)
def f11_2 : IR := ai [jc 20 19 18] (.seq f11_1 (.seq (.block 1 (ai [ab 21 19, ab 5 21] (.reg [ab 22 0, ab 23 5, ⟨none, some 24, .call 31 false [.t 22, .t 23,
 .c Uq]⟩]))) (.reg [ek 25 19 1, ab 19 25])))
def f11 : FnIR := ⟨38, [.t 2], ai [dq 2 0] (.seq f11_0 (ai [ab 12 0, ky 13 29 12, ik 14 30 13, ab 11 14, bp 15 11 0, bp 16 11 1, ab 3 15,
 ab 4 16] (.seq (ai [ab 17 3, yr 18 2 17, bu 19 0] (.block 0 (.loop f11_2))) (ai [ab 26 0, ky 27 32 26] (ai [ab 29 0, Kv 30 29, ⟨none, some 31,
 .call 33 false [.t 30, .c Uq]⟩, ab 28 31, bp 32 28 0, bp 33 28 1, ab 6 32, ab 7 33] (ai [ab 34 0, Kv 35 34, ab 36 6, ⟨none, some 37,
 .call 34 false [.t 35, .t 36, .c (vi .i64 0), .c (vi .i64 1)]⟩] (ai [dq 2 0] .ret)))))))⟩
def f12_0 : IR := ai [ab 11 3, Gc 12 11, ab 13 12, gu 13 14 3, ado 13 15 11 14, ai2 13 16 15, ko 17 13 16] (cq 17 (ai [gd 0] .ret) .skip)
def f12 : FnIR := ⟨57, [.t 0], ai [gd 0] (ai [⟨none, some 7, .call 30 true [.c (vi .i64 64)]⟩, ab 6 7, bp 8 6 0, bp 9 6 1, ab 1 8, ab 2 9] (ai [⟨none,
 some 10, .call 10 false [.c (vi .i64 64)]⟩, ab 3 10] (.seq f12_0 (ai [ab 19 3, ky 20 13 19, ab 18 20, bp 21 18 0, bp 22 18 1, ab 4 21,
 ab 5 22] (ai [ab 23 1, Aw 24 23 16, ab 25 24, ij 25 26 2, Tm 25 27 26 5, ku 28 25 27, ab 29 28, ij 29 30 5, ahm 29 31 30, ku 32 29 31,
 ab 33 32, ij 33 34 4, Rv 33 35 20 34, Tm 33 36 35 2, ku 37 33 36, ab 38 37, ij 38 39 4, Rv 38 40 16 39, aec 38 41 40, Tm 38 42 41 0, ku 43 38 42,
 ab 44 43, ij 44 45 4, ⟨some (44, true), some 46, .build [.cv (.sc (.string ⟨#[]⟩)), .cv (.sc (.slice none 0 0)), .cv (.sc (.bool false))] [(0, (1,
 .c (.cv (.sc (.string ⟨#[97]⟩)))))]⟩, ⟨some (44, true), some 47, .mksl 3 1 [.cv (.sc (.string ⟨#[]⟩)), .cv (.sc (.slice none 0 0)), .cv (.sc (.bool false))] [(0, (3,
 .t 46))] false⟩, ⟨some (44, true), some 48, .call 14 false [.t 45, .t 47]⟩, ahm 44 49 48, ku 50 44 49, ab 51 50, ij 51 52 4, Rv 51 53 16 52, aec 51 54 53,
 Tm 51 55 54 1, ku 56 51 55, ab 0 56] .ret)))))⟩
def f13_0 : IR := ai [ab 17 0, ky 18 29 17, sb 19 18 64] (cq 19 (ai [Gd, dq 3 20] .ret) .skip)
def f13_1 : IR := ai [ab 26 5, oe 27 26] (cq 27 (ai [Gd, dq 3 11] .ret) .skip)
def f13_2 : IR := ai [ab 35 7, Eu 36 35] (cq 36 (ai [ab 37 7, Gd, ab 3 37] .ret) .skip)
def f13_3 : IR := cq 57 .skip (.exit 0)
def f13_4 : IR := ai [jc 57 56 55] (.seq f13_3 (.seq (.block 1 (ai [ga 58 1 54 56, ax 59 58, ab 13 59] (.reg [ab 60 6, ab 61 13, Ad 62 39 60 61,
 ab 6 62]))) (.reg [ek 63 56 1, ab 56 63])))
def f13 : FnIR := ⟨87, [.t 2, .t 3], ai [Gd, dq 3 0] (.seq f13_0 (ai [ab 21 0, Kv 22 21, ky 23 35 22, ab 20 23, bp 24 20 0, bp 25 20 1, Hz 4,
 cd 3 4 24, ab 5 25] (.seq f13_1 (ai [ab 29 0, Kv 30 29, je 31 3 4, qn 32 36 30 31, ab 28 32, bp 33 28 0, bp 34 28 1, ab 6 33,
 ab 7 34] (.seq f13_2 (ai [ab 39 0, ky 40 29 39, ik 41 30 40, ab 38 41, bp 42 38 0, bp 43 38 1, ab 8 42, ab 9 43] (.seq (.draw [(bj 45 0 4,.p),
 (ax 46 45, xm), (ab 47 0,.p), (Kv 48 47,.p), (ab 49 8,.p), (⟨none, some 50, .call 38 false [.t 48, .c (vi .i64 2), .t 49]⟩, .k), (Ad 51 37 46 50,.k),
 (ab 44 51,.p), (bp 52 44 0,.p), (bp 53 44 1,.p), (ab 10 52,.p), (ab 11 53,.p)]) (.seq (ai [ab 54 10, cz 55 54,
 bu 56 0] (.block 0 (.loop f13_4))) (.seq (ai [ab 65 0, Kv 66 65, ab 67 6, qn 68 33 66 67, ab 64 68, bp 69 64 0, bp 70 64 1, ab 14 69,
 ab 15 70] (.block 2 (ai [ab 72 15, oe 73 72, ab 71 73] (cq 71 (ai [Gd, dq 3 21] .ret) (ai [bj 75 0 4, ax 76 75, Aw 77 76 1073741824,
 ab 74 77] (cq 74 (ai [Gd, dq 3 32] .ret) .skip)))))) (ai [ab 78 0, Kv 79 78, ab 80 6, je 81 3 4, ⟨none, some 82, .build [.cv (.sc .nilIface),
 .cv (.sc (.slice none 0 0)), .cv (.sc (.int .i64 0)), .cv (.sc (.int .i64 0)), .cv (.sc (.int .i64 0)), .cv (.sc (.int .i64 0)), .cv (.sc (.int .i64 0))] [(0, (1, .t 79)), (1, (1,
 .t 80)), (2, (3, .t 81))]⟩, rg 83 7 82, ab 16 83] (ai [ab 84 16, ab 85 16, ky 86 15 85, ab 2 84, ab 3 86] .ret)))))))))))⟩
def f14_0 : IR := ai [ab 63 9, oe 64 63, ab 65 64, gu 65 66 11, Wa 65 67 66, ko 68 65 67, ab 69 68, gu 69 70 10, Bb 69 71 70, gu 69 72 6,
 aeu 69 73 71 72, ko 74 69 73] (cq 74 (ai [dq 4 21] .ret) .skip)
def f14_1 : IR := ai [ab 75 0, ej 76 75, bj 77 5 76, ax 78 77, ab 79 10, cz 80 79, lm 81 78 80, ab 82 6, Ss 83 81 82] (cq 83 (.seq (ai [ab 84 0,
 ky 85 15 84, ab 12 85] (ai [ab 86 12, Eu 87 86] (cq 87 (ai [ab 88 12, ab 4 88] .ret) .skip))) (.draw [(ab 90 0,.p), (ej 91 90,.p), (bj 92 2 91,.p),
 (bj 93 0 92,.p), (ax 94 93, .r 0 0), (ab 95 0,.p), (ej 96 95,.p), (bj 97 6 96,.p), (ax 98 97, .r 0 0), (ab 99 1,.p), (af7 100 19 94 98 99, .r 0 0),
 (ab 89 100,.p), (bp 101 89 0,.p), (bp 102 89 1,.p), (ab 10 101,.p)])) .skip)
def f14_2 : IR := cq 106 .skip (.exit 1)
def f14_3 : IR := ai [jc 106 105 104] (.seq f14_2 (.seq (.block 2 (ai [ab 107 105, ga 108 1 103 105, ax 109 108, ab 13 107,
 ab 14 109] (.draw [(ab 110 0,.p), (ej 111 110,.p), (bj 112 0 111,.p), (ax 113 112, .r 0 0), (ab 114 0,.p), (ej 115 114,.p), (bj 116 5 115,.p),
 (ax 117 116, .r 0 0), (yr 118 2 117,.p), (ab 119 13,.p), (lm 120 118 119,.p), (ab 121 14,.p), (ej 122 113,.p), (ab 123 113,.p),
 (aff 124 123 120 121,.k)]))) (.reg [ek 125 105 1, ab 105 125])))
def f14 : FnIR := ⟨152, [.t 4], ai [dq 4 0] (.seq (.block 0 (ai [ab 16 0, Gc 17 16, ab 15 17] (cq 15 (ai [dq 4 30] .ret) (ai [ab 19 1, cz 20 19,
 Aw 21 20 0, ab 18 21] (cq 18 (ai [dq 4 0] .ret) (ai [ab 23 1, ⟨none, some 24, .call 40 true [.t 23, .c (.func 41 [])]⟩,
 ab 22 24] (cq 22 (ai [dq 4 3] .ret) .skip))))))) (ai [ab 25 0, ej 26 25, bj 27 1 26, ax 28 27, ab 29 1, Ad 30 39 28 29, ab 5 30] (ai [ab 32 0,
 ej 33 32, bj 34 0 33, ax 35 34, Yw 36 35, ik 37 30 36, ab 31 37, bp 38 31 0, bp 39 31 1, ab 6 38, ab 7 39] (ai [ab 41 0, ej 42 41,
 bj 43 0 42, ax 44 43, ab 45 5, qn 46 33 44 45, ab 40 46, bp 47 40 0, bp 48 40 1, ab 8 47, ab 9 48] (.seq (.draw [(ab 50 0,.p), (ej 51 50,.p),
 (bj 52 2 51,.p), (bj 53 0 52,.p), (ax 54 53, .r 0 0), (ab 55 0,.p), (ej 56 55,.p), (bj 57 6 56,.p), (ax 58 57, .r 0 0), (ab 59 1,.p), (af7 60 19 54 58 59,
 .r 0 0), (ab 49 60,.p), (bp 61 49 0,.p), (bp 62 49 1,.p), (ab 10 61,.p), (ab 11 62,.p)]) (.seq f14_0 (.seq f14_1 (.seq (ai [ab 103 10, cz 104 103,
 bu 105 0] (.block 1 (.loop f14_3))) (ai [ab 126 0, ej 127 126, bj 128 0 127, ax 129 128, ahs 130 129] (ai [ab 131 0, ab 132 0, ab 133 5, ab 134 0,
 ej 135 134, bj 136 5 135, ax 137 136, ab 138 10, cz 139 138, lm 140 137 139, ej 141 131, bj 142 1 141, cd 1 142 133, ej 143 132, bj 144 5 143,
 cd 1 144 140] (ai [ab 145 0, ej 146 145, bj 147 6 146, ax 148 147, ek 149 148 1, ej 150 145, bj 151 6 150,
 cd 1 151 149] (ai [dq 4 0] .ret))))))))))))⟩
def f15 : FnIR := ⟨54, [.t 2], ai [dq 2 0] (.seq (.block 0 (ai [ab 6 0, Gc 7 6, ab 5 7] (cq 5 (ai [dq 2 30] .ret) (ai [ab 9 0, ej 10 9, bj 11 2 10,
 bj 12 0 11, ax 13 12, Aw 14 13 1073741824, ab 8 14] (cq 8 (ai [dq 2 32] .ret) .skip))))) (.seq (.draw [(ab 16 0,.p), (ej 17 16,.p), (bj 18 0 17,.p),
 (ax 19 18, .r 0 0), (ab 20 0,.p), (ej 21 20,.p), (bj 22 1 21,.p), (ax 23 22, .r 0 0), (qn 24 33 19 23,.k), (ab 15 24,.p), (bp 25 15 0,.p),
 (bp 26 15 1,.p), (ab 3 25,.p), (ab 4 26,.p)]) (.seq (.draw [(ab 27 0,.p), (ab 28 0,.p), (ej 29 28,.p), (bj 30 0 29,.p), (ax 31 30, .r 0 0), (ab 32 3,.p),
 (ab 33 0,.p), (ej 34 33,.p), (bj 35 2 34,.p), (bj 36 1 35,.p), (ax 37 36, .r 0 0), (ag5 38 1 37,.p), (ab 39 0,.p), (ej 40 39,.p), (bj 41 2 40,.p),
 (bj 42 0 41,.p), (ax 43 42, .r 0 0), (ek 44 43 1,.p), (⟨none, some 45, .call 34 false [.t 31, .t 32, .t 38, .t 44]⟩,.k), (ej 46 27,.p), (bj 47 2 46,.p),
 (cd 3 47 45,.k)]) (ai [ab 48 0, ab 49 0, ej 50 48, bj 51 5 50, ack 51, ej 52 49, bj 53 6 52, ack 53] (ai [dq 2 0] .ret)))))⟩
def f16_0 : IR := ai [ab 3 0, Gc 4 3] (cq 4 (ai [dg 2] .ret) .skip)
def f16 : FnIR := ⟨10, [.t 2], ai [dg 2] (.seq f16_0 (ai [ab 5 0, ej 6 5, bj 7 1 6, ax 8 7, ik 9 42 8, ab 2 9] .ret))⟩
def f17 : FnIR := ⟨18, [.t 2, .cell 3 true 6], ai [Gd, Tp 3] (ai [ab 7 0, ik 8 22 7, ky 9 10 8, ab 4 9] (ai [ab 11 0, ik 12 22 11, ik 13 43 12,
 ab 10 13, bp 14 10 0, bp 15 10 1, Tp 5, cd 6 5 14, ab 6 15] (.seq (.draw [(ab 16 4,.p), (je 17 6 5, .r 0 0), (ab 2 16,.p), (cd 6 3 17,.k)]) .ret)))⟩
def f18_0 : IR := ai [ab 6 0, cz 7 6, ab 8 1, cz 9 8, ag1 10 7 9] (cq 10 (ai [gd 4] .ret) .skip)
def f18_1 : IR := .seq (ai [ab 11 5, ab 12 0, cz 13 12, jc 14 11 13] (cq 14 .skip (.exit 0))) (.seq (.block 1 (.seq (.draw [(ab 17 0,.p), (ab 18 5,.p),
 (ga 19 2 17 18, .r 0 0), (bj 20 0 19,.p), (ax 21 20, .r 0 0), (ab 22 1,.p), (ab 23 5,.p), (ga 24 2 22 23, .r 0 0), (bj 25 0 24,.p), (ax 26 25, .r 0 0),
 (ag1 27 21 26,.p), (ab 28 27,.p), (gu 28 29 0,.p), (gu 28 30 5,.p), (aer 28 31 2 29 30, .r 0 0), (Sf 28 32 1 31,.p), (Jq 28 33 32, .r 0 0), (⟨some (28, false),
 some 34, .cvBS (.t 33)⟩, .r 0 0), (gu 28 35 1,.p), (gu 28 36 5,.p), (aer 28 37 2 35 36, .r 0 0), (Sf 28 38 1 37,.p), (Jq 28 39 38, .r 0 0), (⟨some (28, false),
 some 40, .cvBS (.t 39)⟩, .r 0 0), (⟨some (28, false), some 41, .bin .neq (.t 34) (.t 40)⟩, .p), (ko 42 28 41,.p)]) (cq 42 (ai [gd 4] .ret) .skip))) (.reg [ab 15 5,
 ek 16 15 1, ab 5 16]))
def f18 : FnIR := ⟨43, [.t 4], ai [gd 4] (.seq f18_0 (.seq (ai [bu 5 0] (.block 0 (.loop f18_1))) (ai [Cp 4] .ret)))⟩
def f19_0 : IR := ai [ab 16 0, ik 17 47 16, oe 18 17, ab 19 18, gu 19 20 1, ⟨some (19, false), some 21, .call 47 true [.t 20]⟩, Wa 19 22 21, ko 23 19 22,
 ab 24 23, gu 24 25 8, Bb 24 26 25, yw 24 27 26 200, ko 28 24 27] (cq 28 (ai [dg 6, gd 7] .ret) .skip)
def f19_1 : IR := cq 32 .skip (.exit 0)
def f19_2 : IR := ai [jc 32 31 30] (.seq f19_1 (.seq (.block 1 (ai [ab 33 31, ga 34 1 29 31, ax 35 34, ab 10 33, ab 11 35] (.reg [ab 36 9, ab 37 0,
 ab 38 1, ab 39 10, ab 40 8, cz 41 40, ab 42 11, ⟨none, some 43, .call 48 true [.t 37, .t 38, .t 39, .t 41, .t 42]⟩, Rr 44 43, Qd 45 36 44,
 ab 9 45]))) (.reg [ek 46 31 1, ab 31 46])))
def f19 : FnIR := ⟨48, [.t 6, .t 7], ai [dg 6, gd 7] (ai [ab 12 2, ik 13 46 12, Wj 14 45 13 49, ky 15 44 14,
 ab 8 15] (.seq f19_0 (ai [dg 9] (.seq (ai [ab 29 8, cz 30 29, bu 31 0] (.block 0 (.loop f19_2))) (ai [ab 47 9, ab 6 47, Cp 7] .ret)))))⟩
def f20_0 : IR := ai [ab 3 0, Gc 4 3] (cq 4 (ai [bu 2 0] .ret) .skip)
def f20 : FnIR := ⟨10, [.t 2], ai [bu 2 0] (.seq f20_0 (ai [ab 5 0, ej 6 5, bj 7 2 6, bj 8 0 7, ax 9 8, ab 2 9] .ret))⟩
def f22 : FnIR := ⟨8, [.t 2], ai [bu 2 0] (ai [⟨none, some 3, .mksl 1 6 [.cv (.sc (.int .i64 0)), .cv (.sc (.int .i64 0)), .cv (.sc (.int .i64 0)), .cv (.sc (.int .i64 0)),
 .cv (.sc (.int .i64 0)), .cv (.sc (.int .i64 0))] [(0, (1, .c (vi .i64 64))), (1, (1, .c (vi .i64 65))), (2, (1, .c (vi .i64 80))), (3, (1, .c (vi .i64 100))), (4, (1,
 .c (vi .i64 128))), (5, (1, .c (vi .i64 200)))] false⟩, ab 4 0, Sd 5 4 6, ga 6 1 3 5, ax 7 6, ab 2 7] .ret)⟩
def f23_0 : IR := .seq (ai [ab 5 4, ab 6 0, cz 7 6, jc 8 5 7] (cq 8 .skip (.exit 0))) (.seq (.block 1 (.draw [(ab 11 3,.p), (ab 12 0,.p), (ab 13 4,.p),
 (ga 14 4 12 13, .r 0 0), (bj 15 1 14,.p), (ax 16 15, .r 0 0), (cz 17 16,.p), (yr 18 1 17,.p), (ab 19 0,.p), (ab 20 4,.p), (ga 21 4 19 20, .r 0 0),
 (bj 22 2 21,.p), (ax 23 22, .r 0 0), (cz 24 23,.p), (agh 25 24 8,.p), (lm 26 18 25,.p), (lm 27 11 26,.p), (ab 3 27,.p)])) (.reg [ab 9 4, ek 10 9 1,
 ab 4 10]))
def f23 : FnIR := ⟨30, [.t 2], ai [gd 2] (ai [bu 3 0] (.seq (ai [bu 4 0] (.block 0 (.loop f23_0))) (ai [ab 28 3, Gg 29 28 200, ab 2 29] .ret)))⟩
def f24_0 : IR := ai [bj 29 1 8, ax 30 29, cz 31 30, ajg 32 31 4, Aw 33 32 0] (cq 33 (.reg [bj 34 0 8, ax 35 34, als 36 35, cd 3 8 36]) .skip)
def f24_1 : IR := .seq (ai [ab 12 7, ab 13 6, cz 14 13, jc 15 12 14] (cq 15 .skip (.exit 0))) (.seq (.block 1 (.seq (.draw [(ab 18 6,.p), (ab 19 7,.p),
 (ga 20 2 18 19, xm), (bj 21 0 20,.p), (ax 22 21, xm), (ab 23 6,.p), (ab 24 7,.p), (ga 25 2 23 24, xm), (bj 26 1 25,.p), (ax 27 26, xm),
 (ajj 28 22 27,.p), (Yf 8,.k), (cd 3 8 28,.k)]) (.seq f24_0 (.reg [ab 37 5, je 38 3 8, aj3 39 38, akh 40 37 39, ab 5 40])))) (.reg [ab 16 7, ek 17 16 1,
 ab 7 17]))
def f24 : FnIR := ⟨42, [.t 4], ai [dg 4] (ai [dg 5] (ai [ab 9 0, ab 10 1, Ad 11 49 9 10,
 ab 6 11] (.seq (ai [bu 7 0] (.block 0 (.loop f24_1))) (ai [ab 41 5, ab 4 41] .ret))))⟩
def f26 : FnIR := ⟨20, [], ai [ab 4 0, ⟨none, some 5, .eqn .ptr true (.t 4)⟩, ab 6 5, ij 6 7 0, Rv 6 8 53 7, ⟨some (6, true), some 9, .un .not (.t 8)⟩,
 ku 10 6 9] (cq 10 (.reg [ab 11 0, ab 12 0, ab 13 1, Rd 14 13 0, ab 15 1, ej 16 11, bj 17 3 16, cd 1 17 14, ej 18 12, bj 19 4 18,
 cd 1 19 15]) .skip)⟩
def f27_0 : IR := ai [ab 4 0, Gc 5 4] (cq 5 .ret .skip)
def f27 : FnIR := ⟨15, [], ai [rg 3 1 1] (.seq f27_0 (ai [ab 6 0, Ys 7 55 3, qn 8 54 6 7] (.reg [ab 9 0, ab 10 0, ej 11 9, bj 12 3 11, aie 12,
 ej 13 10, bj 14 4 13, ack 14])))⟩
def f29_0 : IR := ai [ab 3 0, Gc 4 3] (cq 4 (ai [bu 2 0] .ret) .skip)
def f29 : FnIR := ⟨10, [.t 2], ai [bu 2 0] (.seq f29_0 (ai [ab 5 0, ej 6 5, bj 7 0 6, ax 8 7, cz 9 8, ab 2 9] .ret))⟩
def f30_0 : IR := ai [ab 5 0, sb 6 5 64] (cq 6 (ai [bu 2 0, bu 3 0] .ret) .skip)
def f30 : FnIR := ⟨15, [.t 2, .t 3], ai [bu 2 0, bu 3 0] (.seq f30_0 (ai [ab 7 0, agh 8 7 4, ab 4 8] (ai [ab 9 4, ab 10 0, Zj 11 10 2, ab 12 4,
 Qt 13 11 12, agh 14 13 8, ab 2 9, ab 3 14] .ret)))⟩
def f31_0 : IR := ai [ab 17 0, ky 18 57 17, oe 19 18] (cq 19 (ai [dq 6 0] .ret) .skip)
def f31 : FnIR := ⟨43, [.t 6], ai [dq 6 0] (.seq (.block 0 (ai [ab 9 0, ab 10 1, qn 11 56 9 10, oe 12 11,
 ab 8 12] (cq 8 (ai [dq 6 20] .ret) (ai [ab 14 2, cz 15 14, Gg 16 15 64, ab 13 16] (cq 13 (ai [dq 6 3] .ret) .skip))))) (.seq f31_0 (ai [ab 20 1,
 ⟨none, some 21, .build ((.cv (.sc (.int .i64 0))) :: List.replicate 64 (.cv (.sc (.int .u8 0)))) [(0, (1, .t 20))]⟩, ⟨none, some 7,
 .alloc ((.cv (.sc (.int .i64 0))) :: List.replicate 64 (.cv (.sc (.int .u8 0))))⟩, cd 65 7 21] (ai [bj 22 1 7, Lx 23 64 22, ab 24 2,
 Iw 25 1 23 24] (.seq (.draw [(ab 26 0,.p), (ab 27 0,.p), (ej 28 27,.p), (bj 29 1 28,.p), (ax 30 29, .r 0 0), (je 31 65 7, .r 0 0), (⟨none, some 32,
 .mksl 65 1 ((.cv (.sc (.int .i64 0))) :: List.replicate 64 (.cv (.sc (.int .u8 0)))) [(0, (65, .t 31))] false⟩, .r 0 0), (⟨none, some 33,
 .app 65 72 ((.sc (.int .i64 0)) :: List.replicate 64 (.sc (.int .u8 0))) (.t 30) (.t 32)⟩, .k), (ej 34 26,.p), (bj 35 1 34,.p), (cd 1 35 33,.k)]) (ai [ab 36 0,
 ej 37 36, bj 38 2 37, ax 39 38, akq 40 39 4607182418800017408 0, ej 41 36, bj 42 2 41, cd 1 42 40] (ai [dq 6 0] .ret)))))))⟩
def f32_0 : IR := ai [ab 2 0, Gc 3 2, ab 4 3, gu 4 5 0, ado 4 6 57 5, Wa 4 7 6, ko 8 4 7] (cq 8 .ret .skip)
def f32 : FnIR := ⟨18, [], .seq f32_0 (ai [ab 9 0, ⟨none, some 10, .call 54 false [.t 9, .c (.func 58 [])]⟩] (.reg [ab 11 0, ej 12 11, bj 13 2 12, ax 14 13,
 akq 15 14 0 4607182418800017408, ej 16 11, bj 17 2 16, cd 1 17 15]))⟩
def f33 : FnIR := ⟨29, [.t 4, .t 5], ai [dg 4, gd 5] (ai [ab 11 0, Yw 12 11, ik 13 30 12, ab 10 13, bp 14 10 0, bp 15 10 1, ab 6 14,
 ab 7 15] (ai [ab 17 1, ik 18 59 17, ab 16 18, bp 19 16 0, bp 20 16 1, ab 8 19, ab 9 20] (ai [ab 21 8, ab 22 9, ab 23 22, ij 23 24 8,
 aec 23 25 24, ij 23 26 7, ag7 23 27 25 26, ku 28 23 27, ab 4 21, ab 5 28] .ret)))⟩
def f34_0 : IR := .reg [ab 10 18]
def f34_1 : IR := .block 1 (ai [ax 19 4, ax 20 9, ab 21 10, aff 22 19 20 21] (.reg [ax 23 9, ek 24 23 1, cd 1 9 24]))
def f34 : FnIR := ⟨44, [.cell 8 true 3], ai [rg 4 1 0, Hz 8] (ai [ax 12 4, ab 13 2, qn 14 60 12 13, aki, cd 1 9 14] (.seq (ai [ab 15 1, ik 16 61 15,
 Wj 17 45 16 64] (.block 0 (.rangeF (.t 17) [18] f34_0 f34_1))) (ai [ax 25 4, ahs 26 25] (ai [ab 27 3, ab 28 2, ab 29 1, cz 30 29, akk 31 27 28 30,
 Hz 11, cd 3 11 31] (.seq (.draw [(ax 32 4, .r 0 0), (ab 33 3,.p), (ajg 34 33 2,.p), (je 35 3 11, .r 0 0), (ik 36 62 35, .r 0 0), (⟨none, some 37,
 .mkmv "Write" (.t 32)⟩, .p), (⟨none, some 38, .nilckM "Write" [23] (.t 37)⟩, .p), (ab 39 32,.p), (aff 40 39 34 36,.k)]) (ai [ax 41 4, ahs 42 41] (ai [je 43 3 11,
 cd 3 8 43] .ret)))))))⟩
def f35_0 : IR := ai [ab 18 7, ab 19 18, ij 19 20 5, ⟨some (19, true), some 21, .un .not (.t 20)⟩, ij 19 22 21, Sf 22 23 0 6, Jq 22 24 23, Sf 22 25 0 4,
 Jq 22 26 25, aeu 22 27 24 26, ⟨some (19, true), some 28, .pick (.t 22) (.c aaf) (.t 27)⟩, ku 29 19 28] (cq 29 (ai [je 30 3 6, cd 3 2 30, Cp 3] .ret) .skip)
def f35 : FnIR := ⟨33, [.cell 2 true 3, .t 3], ai [Hz 2, gd 3] (ai [ab 9 0, Wj 10 63 9 0, ab 8 10, bp 11 8 0, bp 12 8 1, Hz 4, cd 3 4 11,
 ab 5 12] (ai [ab 14 0, Wj 15 63 14 1, ab 13 15, bp 16 13 0, bp 17 13 1, Hz 6, cd 3 6 16, ab 7 17] (.seq f35_0 (ai [je 31 3 4, ab 32 5,
 cd 3 2 31, ab 3 32] .ret))))⟩
def f36 : FnIR := ⟨23, [.t 4, .t 5], ai [rg 3 3 1, dg 4, dq 5 0] (.seq (.draw [(ab 7 0,.p), (ab 8 0,.p), (bj 9 1 3,.p), (ax 10 9, .r 0 0),
 (qn 11 60 8 10,.k), (bj 12 2 3,.p), (ax 13 12, xm), (ah1 14 13,.p), (aac 15 38 7 11 14,.k), (ik 16 61 15,.k), (ab 6 16,.p)]) (ai [ab 17 6,
 Wj 18 45 17 256, ky 19 44 18, ik 20 64 19, bp 21 20 0, bp 22 20 1, ab 4 21, ab 5 22] .ret))⟩
def f37_0 : IR := ai [ab 22 9, Aw 23 22 0] (cq 23 (.exit 0) .skip)
def f37_1 : IR := .seq (ai [ab 10 0, ik 11 47 10] (cq 11 .skip (.exit 0))) (.block 1 (ai [ab 13 0, ab 14 6, cz 15 14, ab 16 1, ab 17 7, vr 18 1 16 17,
 aac 19 65 13 15 18, ab 12 19, bp 20 12 0, bp 21 12 1, ab 8 20, ab 9 21] (.seq f37_0 (.reg [ab 24 6, ab 25 8, Rr 26 25, Qd 27 24 26, ab 28 7,
 ab 29 9, lm 30 28 29, ab 6 27, ab 7 30]))))
def f37 : FnIR := ⟨33, [.t 4, .t 5], ai [dg 4, bu 5 0] (ai [dg 6] (ai [bu 7 0] (.seq (.block 0 (.loop f37_1)) (ai [ab 31 6, ab 32 7, ab 4 31,
 ab 5 32] .ret))))⟩
def f38_0 : IR := cq 13 .skip (.exit 0)
def f38_1 : IR := ai [jc 13 12 11] (.seq f38_0 (.seq (.block 1 (ai [ab 14 12, ab 8 14] (ai [ab 16 0, ab 17 1, ab 18 8, lm 19 17 18, ⟨none, some 20,
 .inv [(23, 119)] (.t 16) [.t 19]⟩, ab 15 20, bp 21 15 0, bp 22 15 1, ab 9 21, ab 10 22] (.reg [ab 23 7, ab 24 9, Rr 25 24, Qd 26 23 25,
 ab 7 26])))) (.reg [ek 27 12 1, ab 12 27])))
def f38 : FnIR := ⟨29, [.t 6], ai [dg 6] (ai [dg 7] (.seq (ai [ab 11 2, bu 12 0] (.block 0 (.loop f38_1))) (ai [ab 28 7, ab 6 28] .ret)))⟩
def f39_0 : IR := cq 14 .skip (.exit 0)
def f39_1 : IR := ai [bj 20 2 7, ax 21 20] (cq 21 (.exit 1) .skip)
def f39_2 : IR := ai [ab 25 8, sb 26 25 0] (cq 26 (.reg [ab 27 5, cz 28 27, ab 8 28]) .skip)
def f39_3 : IR := ai [jc 14 13 12] (.seq f39_0 (.seq (.block 1 (ai [ga 15 3 11 13, je 16 3 15, Yf 7, cd 3 7 16] (ai [ab 17 5, Ys 18 68 7,
 qn 19 67 17 18, ab 5 19] (.seq f39_1 (ai [ab 22 5, Ys 23 69 7, qn 24 50 22 23, ab 8 24] (.seq f39_2 (.draw [(ab 29 5,.p), (ab 30 8,.p), (bj 31 0 7,.p),
 (ax 32 31, .r 0 0), (bj 33 1 7,.p), (ax 34 33, .r 0 0), (ik 35 52 34, .r 0 0), (aex 36 32 35,.p), (aef 37 36, .r 0 0), (aac 38 70 29 30 37,.k),
 (ab 5 38,.p)]))))))) (.reg [ek 39 13 1, ab 13 39])))
def f39 : FnIR := ⟨41, [.t 4], ai [dg 4] (ai [ab 9 0, ky 10 66 9, ab 5 10] (.seq (ai [ab 11 1, cz 12 11,
 bu 13 0] (.block 0 (.loop f39_3))) (ai [ab 40 5, ab 4 40] .ret)))⟩
def f40 : FnIR := ⟨9, [.t 4], ai [gd 4] (ai [ab 5 0, ab 6 1, Ad 7 71 5 6, Rd 8 7 0, ab 4 8] .ret)⟩
def f41 : FnIR := ⟨13, [.t 2], ai [rg 1 3 0, gd 2] (ai [bj 3 0 1, ax 4 3, afb 5 4, Gg 6 5 30, ab 7 6, Sf 7 8 1 1, Jq 7 9 8, Bb 7 10 9,
 yw 7 11 10 150, ko 12 7 11, ab 2 12] .ret)⟩
def f42_0 : IR := cq 11 .skip (.exit 0)
def f42_1 : IR := ai [jc 11 10 9] (.seq f42_0 (.seq (.block 1 (ai [ab 12 10, ga 13 2 8 10, je 14 2 13, Kz 5, ab 4 12, cd 2 5 14] (.reg [ab 15 3,
 ab 16 4, bj 17 1 5, ax 18 17, ik 19 52 18, ga 20 2 15 16, bj 21 1 20, cd 1 21 19]))) (.reg [ek 22 10 1, ab 10 22])))
def f42 : FnIR := ⟨24, [.t 2], ai [dg 2] (ai [ab 6 0, ky 7 66 6, ab 3 7] (.seq (ai [ab 8 3, cz 9 8, bu 10 0] (.block 0 (.loop f42_1))) (ai [ab 23 3,
 ab 2 23] .ret)))⟩
def f43_0 : IR := ai [ab 6 0, sb 7 6 0, ab 8 7, gu 8 9 0, yw 8 10 9 4096, ko 11 8 10] (cq 11 (ai [alb 12, cd 6 2 12, gd 3] .ret) .skip)
def f43_1 : IR := .seq (ai [ab 14 5, ab 15 0, jc 16 14 15] (cq 16 .skip (.exit 0))) (.seq (.block 1 (.draw [(bj 19 0 4,.p), (ax 20 19, .r 0 0), (⟨none, some 21,
 .mks 1 1 [.sc (.int .u8 0)] (.c (vi .i64 64)) (.c (vi .i64 64)) false⟩, .p), (Rr 22 21, .r 0 0), (Qd 23 20 22,.k), (bj 24 0 4,.p), (cd 1 24 23,.k)])) (.reg [ab 17 5,
 ek 18 17 1, ab 5 18]))
def f43 : FnIR := ⟨26, [.cell 2 true 6, .t 3], ai [Tp 2, gd 3] (.seq f43_0 (ai [alb 13, Tp 4,
 cd 6 4 13] (.seq (ai [bu 5 0] (.block 0 (.loop f43_1))) (ai [je 25 6 4, cd 6 2 25, Cp 3] .ret))))⟩
def f44 : FnIR := ⟨5, [.t 2], ai [dg 2] (ai [ab 3 0, aii 4 72 3, ab 2 4] .ret)⟩
def f45_0 : IR := ai [ax 5 3, sb 6 5 1] (cq 6 (.reg [⟨none, some 7, .mkif 9 (.c (.cv (.sc (.string ⟨#[99, 97, 110, 110, 111, 116, 32, 98, 101, 32, 108, 101, 115, 115, 32,
 116, 104, 97, 110, 32, 49]⟩))))⟩, ady 7]) .skip)
def f45 : FnIR := ⟨9, [.t 4], ai [rg 2 1 0, rg 3 1 1, akr 4] (.seq f45_0 (ai [⟨none, some 8, .mkfn 73 [.t 2, .t 3]⟩, ab 4 8] .ret))⟩
def f46_0 : IR := cq 12 .skip (.exit 0)
def f46_1 : IR := ai [bj 20 2 5, ax 21 20] (cq 21 (ai [ab 22 3, ah3 23 1, yd 24 22 23, ab 3 24] (.exit 1)) .skip)
def f46_2 : IR := ai [jc 12 11 10] (.seq f46_0 (.seq (.block 1 (ai [ga 13 3 9 11, je 14 3 13, Yf 5, cd 3 5 14] (ai [ab 15 3, bj 16 0 5, ax 17 16,
 ik 18 75 17, yd 19 15 18, ab 3 19] (.seq f46_1 (ai [ab 25 3, ah3 26 0, yd 27 25 26, ab 3 27] (.reg [ab 28 3, bj 29 1 5, ax 30 29, Rj 31 30,
 ik 32 75 31, yd 33 28 32, ab 3 33])))))) (.reg [ek 34 11 1, ab 11 34])))
def f46 : FnIR := ⟨36, [.t 2], ai [dg 2] (ai [ab 6 0, cz 7 6, ky 8 74 7, ab 3 8] (.seq (ai [ab 9 0, cz 10 9,
 bu 11 0] (.block 0 (.loop f46_2))) (ai [ab 35 3, ab 2 35] .ret)))⟩
def f47 : FnIR := ⟨9, [.t 2], ai [gd 2] (ai [ab 3 0, Rd 4 3 0, ab 5 4, ij 5 6 0, afh 5 7 6 1073741824, ku 8 5 7, ab 2 8] .ret)⟩
def f48 : FnIR := ⟨33, [.t 10], ai [dg 10] (ai [⟨none, some 11, .alloc (List.replicate 60 (.cv (.sc (.int .u8 0))))⟩] (ai [Lx 12 60 11, ab 13 0,
 qn 14 76 12 13] (ai [ak6 15 4, ab 16 1, qn 17 76 15 16] (ai [ab 18 2, po 19 18, ab 20 3, po 21 20, ab 22 4, cz 23 22, po 24 23,
 Iy 25 60 11 8, cd 1 25 19, Iy 26 60 11 9, cd 1 26 21, Iy 27 60 11 10, cd 1 27 24] (ai [ak6 28 11, ab 29 4, Iw 30 1 28 29] (ai [Lx 31 60 11,
 ik 32 77 31, ab 10 32] .ret))))))⟩
def f49_0 : IR := .seq (ai [ab 44 8, ab 45 7, cz 46 45, jc 47 44 46] (cq 47 .skip (.exit 2))) (.seq (.block 3 (.reg [ab 50 7, ab 51 8, ab 52 0, ab 53 6,
 ek 54 53 1, ga 55 1 52 54, ax 56 55, ab 57 8, po 58 57, lm 59 56 58, ga 60 1 50 51, cd 1 60 59])) (.reg [ab 48 8, ek 49 48 1, ab 8 49]))
def f49_1 : IR := .seq (ai [ab 9 6, ek 10 9 1, ab 11 0, cz 12 11, jc 13 10 12, ab 14 13, ij 14 15 6, ij 14 16 1, ⟨some (14, true), some 17,
 .bin .mul (.c (vi .i64 2)) (.t 16)⟩, ⟨some (14, true), some 18, .bin .lss (.t 15) (.t 17)⟩, ku 19 14 18] (cq 19 .skip (.exit 0))) (.seq (.block 1 (ai [ab 22 0,
 ab 23 6, ek 24 23 1, ga 25 1 22 24, ax 26 25, Sd 27 26 40, rf 28 27, aka 29 28 28, ab 7 29] (.seq (ai [ab 30 0, ab 31 6, ga 32 1 30 31,
 ax 33 32, al5 34 33 230] (cq 34 (.reg [ab 35 0, ab 36 6, ek 37 36 1, ga 38 1 35 37, ax 39 38, Sd 40 39 50, rf 41 40, yr 42 100 41, aka 43 42 42,
 ab 7 43]) .skip)) (.seq (ai [bu 8 0] (.block 2 (.loop f49_0))) (.draw [(ab 61 5,.p), (ab 62 0,.p), (ab 63 6,.p), (ga 64 1 62 63, .r 0 0), (ax 65 64, .r 0 0),
 (Sd 66 65 16,.p), (aj5 67 66,.p), (ab 68 0,.p), (ab 69 6,.p), (ga 70 1 68 69, .r 0 0), (ax 71 70, .r 0 0), (⟨none, some 72, .bin .quo (.t 71) (.c (vi .u8 16))⟩,
 .p), (Sd 73 72 4,.p), (aj5 74 73,.p), (⟨none, some 75, .mksl 1 2 [.cv (.sc (.int .u8 0)), .cv (.sc (.int .u8 0))] [(0, (1, .t 67)), (1, (1, .t 74))] false⟩, .r 0 0),
 (Rj 76 75, .r 0 0), (ab 77 7,.p), (aex 78 76 77,.p), (⟨none, some 79, .mksl 2 1 [.cv (.sc (.string ⟨#[]⟩)), .cv (.sc (.slice none 0 0))] [(0, (2, .t 78))] true⟩, .k),
 (Se 80 61 79,.k), (ab 5 80,.p)]))))) (.reg [ab 20 6, ek 21 20 2, ab 6 21]))
def f49 : FnIR := ⟨82, [.t 4], ai [dg 4] (ai [dg 5] (.seq (ai [bu 6 0] (.block 0 (.loop f49_1))) (ai [ab 81 5, ab 4 81] .ret)))⟩
def f50_0 : IR := cq 9 .skip (.exit 0)
def f50_1 : IR := ai [jc 9 8 7] (.seq f50_0 (.seq (.block 1 (ai [ab 10 8, ab 5 10] (ai [ab 11 1, ab 12 0, ab 13 5, ga 14 2 12 13, je 15 2 14,
 Wr 16 11 15] (cq 16 (ai [ab 17 5, ab 4 17] .ret) .skip)))) (.reg [ek 18 8 1, ab 8 18])))
def f50 : FnIR := ⟨19, [.t 4], ai [bu 4 0] (.seq (ai [ab 6 0, cz 7 6, bu 8 0] (.block 0 (.loop f50_1))) (ai [bu 4 (-1)] .ret))⟩
def f52_0 : IR := ai [ab 3 0, ajq] (cq 4 (ai [dg 2] .ret) .skip)
def f52 : FnIR := ⟨8, [.t 2], ai [dg 2] (.seq f52_0 (ai [⟨none, some 5, .mksl 1 0 [] [] false⟩, ab 6 0, yd 7 5 6, ab 2 7] .ret))⟩
def f53 : FnIR := ⟨14, [.t 2], ai [gd 2] (ai [ab 3 0, ej 4 3, bj 5 3 4, ax 6 5, ab 7 6, ij 7 8 0, ⟨some (7, true), some 9, .nilck (.t 8)⟩, Lz 7 10 4 9,
 Ek 7 11 10, Tm 7 12 11 0, ku 13 7 12, ab 2 13] .ret)⟩
def f54_0 : IR := cq 12 .skip (.exit 0)
def f54_1 : IR := ai [jc 12 11 10] (.seq f54_0 (.seq (.block 1 (ai [ab 13 11, ga 14 65 9 11, je 15 65 14, ⟨none, some 5,
 .alloc ((.cv (.sc (.int .i64 0))) :: List.replicate 64 (.cv (.sc (.int .u8 0))))⟩, ab 4 13, cd 65 5 15] (ai [ab 16 1, ab 17 4,
 Wr 18 16 17] (cq 18 (.draw [(ab 19 0,.p), (ej 20 19,.p), (bj 21 0 20,.p), (ax 22 21, .r 0 0), (bj 23 0 5,.p), (ax 24 23, .r 0 0), (bj 25 1 5,.p),
 (je 26 64 25, .r 0 0), (ga 27 64 22 24, .r 0 0), (cd 64 27 26,.k)]) .skip)))) (.reg [ek 28 11 1, ab 11 28])))
def f54 : FnIR := ⟨32, [], .seq (ai [ab 6 0, ej 7 6, bj 8 1 7, ax 9 8, cz 10 9, bu 11 0] (.block 0 (.loop f54_1))) (.reg [ab 29 0, ej 30 29, bj 31 1 30,
 alg 31])⟩
def f55 : FnIR := ⟨14, [.t 3], ai [gd 3] (ai [ab 4 0, ax 5 1, cz 6 5, jc 7 4 6, ab 8 7, Ek 8 9 1, ij 8 10 0, adr 8 11 1 9 10, Ek 8 12 11,
 ku 13 8 12, ab 3 13] .ret)⟩
def f56 : FnIR := ⟨13, [.t 4], ai [gd 4] (ai [ab 5 1, Rd 6 5 0, ab 7 6, ij 7 8 1, ij 7 9 0, Rv 7 10 29 9, ⟨some (7, true), some 11,
 .bin .lss (.t 8) (.t 10)⟩, ku 12 7 11, ab 4 12] .ret)⟩
def f57_0 : IR := ai [ab 3 0, ky 4 53 3] (cq 4 (ai [gd 2] .ret) .skip)
def f57 : FnIR := ⟨12, [.t 2], ai [gd 2] (.seq f57_0 (ai [ab 5 0, ej 6 5, bj 7 4 6, ax 8 7, Zj 9 8 1, ej 10 5, bj 11 4 10,
 cd 1 11 9] (ai [Cp 2] .ret)))⟩
def f58 : FnIR := ⟨3, [.t 2], ai [gd 2] (ai [Cp 2] .ret)⟩
def f59_0 : IR := ai [ab 8 0, ik 9 78 8, oe 10 9, ab 11 10, gu 11 12 0, Bb 11 13 12, yw 11 14 13 5000, ko 15 11 14] (cq 15 (ai [dg 2,
 gd 3] .ret) .skip)
def f59_1 : IR := .seq (ai [ab 18 5, ⟨none, some 19, .bin .leq (.t 18) (.c (vi .i64 4))⟩] (cq 19 .skip (.exit 0))) (.seq (.block 1 (ai [ab 23 4, ab 24 5, ab 25 0,
 aac 26 79 23 24 25, ab 22 26, bp 27 22 0, bp 28 22 1, ab 6 27, ab 7 28] (.seq (.block 2 (ai [ab 30 7, oe 31 30,
 ab 29 31] (cq 29 (.exit 0) (ai [ab 33 6, cz 34 33, Aw 35 34 1, ab 32 35] (cq 32 (ai [ab 36 4, ej 37 36, bj 38 0 37, ax 39 38, ab 2 39,
 Cp 3] .ret) .skip))))) (.reg [ab 40 6, ab 0 40])))) (.reg [ab 20 5, ek 21 20 1, ab 5 21]))
def f59_2 : IR := .seq f59_0 (ai [⟨none, some 16, .build [.cv (.sc (.slice none 0 0))] []⟩, rg 17 1 16,
 ab 4 17] (.seq (.label 0) (.seq (ai [bu 5 0] (.block 0 (.loop f59_1))) (ai [dg 2, gd 3] .ret))))
def f59 : FnIR := ⟨41, [.t 2, .t 3], ai [dg 2, gd 3] (.scope f59_2)⟩
def f60 : FnIR := ⟨20, [.t 4], ai [bu 4 0] (ai [ab 8 0, Yw 9 8, ik 10 30 9, ab 7 10, bp 11 7 0, bp 12 7 1, ab 5 11, ab 6 12] (ai [ab 13 5,
 yr 14 2 13, ab 15 1, ab 16 6, ⟨none, some 17, .bin .mul (.t 15) (.t 16)⟩, ah1 18 17, lm 19 14 18, ab 4 19] .ret))⟩
def f61_0 : IR := cq 12 .skip (.exit 0)
def f61_1 : IR := ai [jc 12 11 10] (.seq f61_0 (.seq (.block 1 (ai [ga 13 1 9 11, ax 14 13, ab 5 14] (ai [ab 15 3, ab 16 5, cz 17 16, lm 18 15 17,
 ab 3 18] (ai [ab 19 3, sb 20 19 0] (cq 20 (.reg [⟨none, some 21, .mkif 9 (.c (.cv (.sc (.string ⟨#[108, 101, 110, 32, 111, 117, 116, 32, 111, 102, 32, 114, 97, 110,
 103, 101]⟩))))⟩, ady 21]) .skip))))) (.reg [ek 22 11 1, ab 11 22])))
def f61_2 : IR := cq 28 .skip (.exit 2)
def f61_3 : IR := ai [jc 28 27 26] (.seq f61_2 (.seq (.block 3 (ai [ga 29 1 25 27, ax 30 29, ab 8 30] (.reg [ab 31 6, ab 32 8, yd 33 31 32,
 ab 6 33]))) (.reg [ek 34 27 1, ab 27 34])))
def f61 : FnIR := ⟨36, [.t 2], ai [dg 2] (ai [bu 3 0] (.seq (ai [ab 9 0, cz 10 9, bu 11 0] (.block 0 (.loop f61_1))) (ai [ab 23 3, aii 24 80 23,
 ab 6 24] (.seq (ai [ab 25 0, cz 26 25, bu 27 0] (.block 2 (.loop f61_3))) (ai [ab 35 6, ab 2 35] .ret)))))⟩
def f62_0 : IR := cq 8 .skip (.exit 0)
def f62_1 : IR := ai [sb 8 7 4] (.seq f62_0 (.seq (.block 1 (ai [ab 9 7, ab 4 9] (.reg [ab 10 4, yr 11 2 10, bj 12 0 1, ax 13 12, ab 14 4, agb 15 8 14,
 ag5 16 24 15, ⟨none, some 17, .bin .shr (.t 13) (.t 16)⟩, po 18 17, Yu 19 60 3 11, cd 1 19 18]))) (.reg [ek 20 7 1, ab 7 20])))
def f62 : FnIR := ⟨36, [.t 2], ai [rg 1 3 0, dg 2] (ai [⟨none, some 3, .alloc (List.replicate 60 (.cv (.sc (.int .u8 0))))⟩] (ai [Lx 5 60 3, ⟨none, some 6,
 .cpy 1 (.t 5) (.c (.cv (.sc (.string ⟨#[82, 83]⟩))))⟩] (.seq (ai [bu 7 0] (.block 0 (.loop f62_1))) (.seq (.draw [(bj 21 1 1,.p), (ax 22 21, .r 0 0), (po 23 22,.p),
 (bj 24 2 1,.p), (ax 25 24, xm), (Kt 26 25 8,.p), (po 27 26,.p), (bj 28 2 1,.p), (ax 29 28, .r 0 2), (po 30 29,.p), (Iy 31 60 3 6,.p), (cd 1 31 23,.k),
 (Iy 32 60 3 7,.p), (cd 1 32 27,.k), (Iy 33 60 3 8,.p), (cd 1 33 30,.k)]) (ai [Lx 34 60 3, ik 35 77 34, ab 2 35] .ret)))))⟩
def f63_0 : IR := ai [ab 18 7, Eu 19 18] (cq 19 (ai [⟨none, some 20, .build [.cv (.sc (.int .i64 0)), .cv (.sc (.int .i64 0)), .cv (.sc (.int .i64 0))] []⟩,
 cd 3 4 20, gd 5] .ret) .skip)
def f63 : FnIR := ⟨96, [.cell 4 true 3, .t 5], ai [Hz 4, gd 5] (ai [ab 13 0, ab 14 1, ⟨none, some 15, .inv [(23, 119)] (.t 13) [.t 14]⟩, ab 12 15, bp 16 12 0,
 bp 17 12 1, ab 6 16, ab 7 17] (.seq f63_0 (.seq (.draw [(ab 21 6,.p), (xe 22 1 21 2, xm), (ax 23 22, xm), (rf 24 23,.p), (aa6 25 24 24,.p),
 (ab 26 6,.p), (xe 27 1 26 3, xm), (ax 28 27, xm), (rf 29 28,.p), (aa6 30 29 16,.p), (Wx 31 25 30,.p), (ab 32 6,.p), (xe 33 1 32 4, xm), (ax 34 33,
 xm), (rf 35 34,.p), (aa6 36 35 8,.p), (Wx 37 31 36,.p), (ab 38 6,.p), (xe 39 1 38 5, xm), (ax 40 39, xm), (rf 41 40,.p), (Wx 42 37 41,.p),
 (ab 43 6,.p), (xe 44 1 43 6, xm), (ax 45 44, xm), (rf 46 45,.p), (ab 47 6,.p), (xe 48 1 47 7, xm), (ax 49 48, xm), (rf 50 49,.p),
 (aa6 51 50 8,.p), (ab 52 6,.p), (xe 53 1 52 8, xm), (ax 54 53, xm), (rf 55 54,.p), (Wx 56 51 55,.p), (akk 57 42 46 56,.p), (Hz 8,.k),
 (cd 3 8 57,.k)]) (ai [ab 59 0, Yw 60 59, ik 61 30 60, ab 58 61, bp 62 58 0, bp 63 58 1, ab 9 62, ab 10 63] (ai [bj 64 0 8, ax 65 64,
 Rd 66 65 1, ab 67 66, Lz 67 68 0 8, Ek 67 69 68, afh 67 70 69 1073741824, ku 71 67 70, ab 72 71, Lz 72 73 1 8, Ek 72 74 73, afh 72 75 74 1,
 ku 76 72 75, ab 77 76, Lz 77 78 2 8, Ek 77 79 78, ⟨some (77, true), some 80, .bin .geq (.t 79) (.c (vi .i64 1))⟩, ku 81 77 80, ab 82 81, Lz 82 83 2 8,
 Ek 82 84 83, ij 82 85 10, ag7 82 86 84 85, ku 87 82 86, ab 11 87] (.seq (.draw [(je 88 3 8, .r 0 0), (ab 89 11,.p), (ab 90 89,.p), (⟨some (90, true),
 some 91, .ld true 3 (.t 8)⟩, .r 0 0), (⟨some (90, true), some 92, .call 62 true [.t 91]⟩, .r 0 0), (ij 90 93 6,.p), (afr 90 94 1000081 92 93, .r 0 0), (ku 95 90 94,.p),
 (cd 3 4 88,.k), (ab 5 95,.p)]) .ret))))))⟩
def f64_0 : IR := cq 15 .skip (.exit 0)
def f64_1 : IR := ai [ab 24 9, Eu 25 24] (cq 25 (ai [ab 26 9, dg 2, ab 3 26] .ret) .skip)
def f64_2 : IR := ai [jc 15 14 13] (.seq f64_0 (.seq (.block 1 (ai [ga 16 1 12 14, ax 17 16, ab 6 17] (ai [ab 19 6, ik 20 82 19, ab 18 20, bp 21 18 0,
 bp 22 18 1, bp 23 18 2, ab 7 21, ab 8 22, ab 9 23] (.seq f64_1 (ai [ab 27 7, Aw 28 27 0] (cq 28 (.reg [ab 29 4, ab 30 8, Se 31 29 30,
 ab 4 31]) .skip)))))) (.reg [ek 32 14 1, ab 14 32])))
def f64 : FnIR := ⟨47, [.t 2, .t 3], ai [dg 2, dq 3 0] (ai [dg 4] (.seq (ai [ab 12 0, cz 13 12, bu 14 0] (.block 0 (.loop f64_2))) (.seq (ai [ab 34 4,
 ik 35 59 34, ab 33 35, bp 36 33 0, bp 37 33 1, ab 10 36, ab 11 37] (ai [ab 38 11, oe 39 38, ab 40 39, gu 40 41 10, gu 40 42 0, ⟨some (40, false),
 some 43, .call 83 true [.t 41, .t 42, .c (.func 81 [])]⟩, Wa 40 44 43, ko 45 40 44] (cq 45 (ai [dg 2, dq 3 11] .ret) .skip))) (ai [ab 46 4, ab 2 46,
 dq 3 0] .ret))))⟩
def f65_0 : IR := ai [ab 15 11, ab 16 2, cz 17 16, Hu 18 15 17, ab 19 18, gu 19 20 2, gu 19 21 11, aer 19 22 1 20 21, Jq 19 23 22, Bb 19 24 23,
 ⟨some (19, false), some 25, .bin .neq (.t 24) (.c (vi .i64 64))⟩, ko 26 19 25] (cq 26 (.goto 0) .skip)
def f65_1 : IR := ai [ab 35 11, Aw 36 35 0] (cq 36 (.reg [ab 37 13, xe 38 1 37 9, ax 39 38, rf 40 39, ab 12 40]) .skip)
def f65_2 : IR := ai [ab 41 14, sb 42 41 1, ab 43 42, gu 43 44 14, yw 43 45 44 49, ko 46 43 45, ab 47 46, gu 47 48 12, ⟨some (47, false), some 49,
 .bin .lss (.t 48) (.c (vi .i64 1))⟩, ko 50 47 49, ab 51 50, gu 51 52 12, yw 51 53 52 200, ko 54 51 53, ab 55 54, gu 55 56 11, gu 55 57 12, ⟨some (55,
 false), some 58, .bin .sub (.t 57) (.c (vi .i64 1))⟩, ⟨some (55, false), some 59, .bin .lss (.t 56) (.t 58)⟩, gu 55 60 59, ij 60 61 14, ⟨some (60, true), some 62,
 .bin .lss (.t 61) (.c (vi .i64 49))⟩, ⟨some (55, false), some 63, .pick (.t 60) (.t 62) (.c aa5)⟩, ko 64 55 63] (cq 64 (.goto 0) .skip)
def f65_3 : IR := ai [ab 65 0, ab 66 1, ab 67 11, ab 68 12, ab 69 13, ab 70 14, yr 71 11 70, ajf 72 69 71, ⟨none, some 73, .call 48 true [.t 65, .t 66,
 .t 67, .t 68, .t 72]⟩, ab 74 13, Ad 75 81 73 74, oe 76 75] (cq 76 (.goto 0) .skip)
def f65_4 : IR := ai [dg 8] (ai [dg 9] (ai [dq 10 0] (ai [bu 11 0, bu 12 1] (.seq (.label 1) (.seq f65_0 (.seq (ai [ab 27 2, ab 28 11,
 ga 29 1 27 28, ax 30 29, ab 13 30] (ai [ab 31 13, xe 32 1 31 10, ax 33 32, rf 34 33, ab 14 34] (.seq f65_1 (.seq f65_2 (.seq f65_3 (.reg [ab 77 8,
 ab 78 13, ab 79 14, yr 80 11 79, ajf 81 78 80, yd 82 77 81, ab 8 82])))))) (.seq (ai [ab 83 11, ek 84 83 1, ab 11 84] (ai [ab 85 11, ab 86 12,
 jc 87 85 86] (cq 87 (.goto 1) .skip))) (.seq (ai [ab 89 8, ik 90 84 89, ab 88 90, bp 91 88 0, bp 92 88 1, ab 9 91, ab 10 92] (ai [ab 93 10,
 Ye 94 93] (cq 94 (ai [ab 95 9, ab 96 12, ab 6 95, ab 7 96] .ret) .skip))) (.seq (.label 0) (ai [dg 6, bu 7 0] .ret))))))))))
def f65 : FnIR := ⟨97, [.t 6, .t 7], ai [dg 6, bu 7 0] (.scope f65_4)⟩
def f66_0 : IR := ai [ab 3 0, ajq] (cq 4 (ai [dg 2] .ret) .skip)
def f66 : FnIR := ⟨8, [.t 2], ai [dg 2] (.seq f66_0 (ai [⟨none, some 5, .mksl 2 0 [] [] false⟩, ab 6 0, Se 7 5 6, ab 2 7] .ret))⟩
def f67_0 : IR := ai [ab 11 5, Aw 12 11 (-1)] (cq 12 (ai [ab 13 0, ab 4 13] .ret) .skip)
def f67_1 : IR := .seq (ai [ab 16 6, ab 17 0, cz 18 17, jc 19 16 18] (cq 19 .skip (.exit 0))) (.seq (.block 1 (ai [ab 22 0, ab 23 6, ga 24 2 22 23,
 je 25 2 24, Kz 7, cd 2 7 25] (ai [ab 26 1, je 27 2 7, Wr 28 26 27, oe 29 28] (cq 29 (ai [ab 30 0, ab 31 5, je 32 2 7, ga 33 2 30 31,
 cd 2 33 32] (.reg [ab 34 5, ek 35 34 1, ab 5 35])) .skip)))) (.reg [ab 20 6, ek 21 20 1, ab 6 21]))
def f67 : FnIR := ⟨42, [.t 4], ai [dg 4] (ai [ab 8 0, ab 9 1, qn 10 50 8 9, ab 5 10] (.seq f67_0 (.seq (ai [ab 14 5, ek 15 14 1,
 ab 6 15] (.block 0 (.loop f67_1))) (ai [ab 36 0, ab 37 5, vr 38 2 36 37, ⟨none, none, .clr 2 [.sc (.string ⟨#[]⟩), .sc (.slice none 0 0)] (.t 38)⟩] (ai [ab 39 0,
 ab 40 5, Jf 41 2 39 40, ab 4 41] .ret)))))⟩
def f68 : FnIR := ⟨9, [.t 3], ai [rg 2 2 0, gd 3] (ai [bj 4 0 2, ax 5 4, bj 6 0 1, ax 7 6, Hu 8 5 7, ab 3 8] .ret)⟩
def f69 : FnIR := ⟨9, [.t 3], ai [rg 2 2 0, gd 3] (ai [bj 4 0 2, ax 5 4, bj 6 0 1, ax 7 6, Ss 8 5 7, ab 3 8] .ret)⟩
def f70_0 : IR := ai [ab 15 7, Aw 16 15 0] (cq 16 (ai [ab 17 0, ab 6 17] .ret) .skip)
def f70_1 : IR := ai [ab 20 1, ab 21 8, Hu 22 20 21] (cq 22 (ai [ab 23 0, ab 24 2, Se 25 23 24, ab 6 25] .ret) .skip)
def f70_2 : IR := ai [ab 26 8, ab 27 7, lm 28 26 27, ab 29 0, agq 30 29, Ss 31 28 30] (cq 31 (ai [ab 32 0, ab 33 1, Jf 34 2 32 33, ab 35 8,
 ab 36 7, lm 37 35 36, ab 38 1, Qt 39 37 38, ⟨none, some 40, .apz 2 40 [.sc (.string ⟨#[]⟩), .sc (.slice none 0 0)] (.t 34) (.t 39)⟩, ab 9 40] (ai [ab 41 9,
 ab 42 1, vr 43 2 41 42, ab 44 2, Iw 45 2 43 44] (.seq (.draw [(ab 46 9,.p), (ab 47 1,.p), (ab 48 7,.p), (lm 49 47 48,.p), (vr 50 2 46 49, .r 0 0),
 (ab 51 0,.p), (ab 52 1,.p), (vr 53 2 51 52, .r 0 0), (Iw 54 2 50 53,.k)]) (ai [ab 55 9, ab 6 55] .ret)))) .skip)
def f70_3 : IR := ai [ab 61 2, ab 62 0, ab 63 1, ab 64 7, lm 65 63 64, vr 66 2 62 65, Ad 67 85 61 66, oe 68 67] (cq 68 (.seq (.draw [(ab 69 0,.p),
 (ab 70 1,.p), (ab 71 7,.p), (lm 72 70 71,.p), (vr 73 2 69 72, .r 0 0), (ab 74 0,.p), (ab 75 1,.p), (vr 76 2 74 75, .r 0 0),
 (Iw 77 2 73 76,.k)]) (ai [ab 78 0, ab 79 1, vr 80 2 78 79, ab 81 2, Iw 82 2 80 81] (ai [ab 83 0, ab 6 83] .ret))) .skip)
def f70 : FnIR := ⟨95, [.t 6], ai [dg 6] (ai [ab 10 0, ab 11 1, vr 12 2 10 11] (ai [ab 13 2, cz 14 13, ab 7 14] (.seq f70_0 (ai [ab 18 0,
 cz 19 18, ab 8 19] (.seq f70_1 (.seq f70_2 (ai [ab 56 0, ab 57 8, ab 58 7, lm 59 57 58, Jf 60 2 56 59, ab 0 60] (.seq f70_3 (ai [ab 84 0, ab 85 8,
 vr 86 2 84 85, ab 87 2, Iw 88 2 86 87] (ai [ab 89 0, ab 90 1, vr 91 2 89 90, ab 92 7, Ad 93 86 91 92] (ai [ab 94 0, ab 6 94] .ret)))))))))))⟩
def f71_0 : IR := cq 9 .skip (.exit 0)
def f71_1 : IR := ai [jc 9 8 7] (.seq f71_0 (.seq (.block 1 (ai [ab 10 8, ab 5 10] (ai [ab 11 1, ab 12 0, ab 13 5, ga 14 3 12 13, je 15 3 14, ⟨none,
 some 16, .callv true (.t 11) [.t 15]⟩] (cq 16 (ai [ab 17 5, ab 4 17] .ret) .skip)))) (.reg [ek 18 8 1, ab 8 18])))
def f71 : FnIR := ⟨19, [.t 4], ai [bu 4 0] (.seq (ai [ab 6 0, cz 7 6, bu 8 0] (.block 0 (.loop f71_1))) (ai [bu 4 (-1)] .ret))⟩
def f72_0 : IR := .reg [ab 5 7]
def f72_1 : IR := .block 1 (.reg [ax 8 2, ab 9 5, Rr 10 9, Qd 11 8 10, cd 1 2 11])
def f72 : FnIR := ⟨13, [.t 4], ai [rg 2 1 0, dg 4] (.seq (ai [ab 6 1] (.block 0 (.rangeF (.t 6) [7] f72_0 f72_1))) (ai [ax 12 2, ab 4 12] .ret))⟩
def f73_0 : IR := .seq (ai [ab 6 4, ax 7 1, cz 8 7, jc 9 6 8] (cq 9 .skip (.exit 0))) (.seq (.block 1 (.seq (.draw [(ax 13 2, .r 0 0), (ax 14 1, .r 0 0),
 (ab 15 4,.p), (vr 16 1 14 15, .r 0 0), (cz 17 16,.p), (⟨none, some 18, .mnmx true [.t 13, .t 17]⟩,.p), (ab 5 18,.p)]) (ai [ab 19 0, ax 20 1, ab 21 4,
 ab 22 4, ab 23 5, lm 24 22 23, ab 25 4, ab 26 5, lm 27 25 26, ⟨none, some 28, .slL 1 (.t 20) (some (.t 21)) (some (.t 24)) (some (.t 27))⟩, Wr 29 19 28,
 oe 30 29] (cq 30 .ret .skip)))) (.reg [ab 10 4, ax 11 2, lm 12 10 11, ab 4 12]))
def f73 : FnIR := ⟨31, [], ai [bu 4 0] (.block 0 (.loop f73_0))⟩
def f74_0 : IR := .seq (ai [ab 7 0, Gg 8 7 127] (cq 8 .skip (.exit 0))) (.seq (.block 1 (.reg [ab 11 3, ab 12 0, po 13 12, ⟨none, some 14,
 .bin .or (.t 13) (.c (vi .u8 128))⟩, aj9 15 14, yd 16 11 15, ab 3 16])) (.reg [ab 9 0, Kt 10 9 7, ab 0 10]))
def f74 : FnIR := ⟨22, [.t 2], ai [dg 2] (ai [dg 3] (.seq (ai [ab 4 0, ⟨none, some 5, .mnmx true [.t 4, .c (vi .i64 9007199254740992)]⟩, ⟨none, some 6,
 .mnmx false [.c (vi .i64 0), .t 5]⟩, ab 0 6] (.block 0 (.loop f74_0))) (ai [ab 17 3, ab 18 0, po 19 18, aj9 20 19, yd 21 17 20, ab 2 21] .ret)))⟩
def f75 : FnIR := ⟨8, [.t 2], ai [dg 2] (ai [ab 3 0, afb 4 3, ky 5 74 4, ab 6 0, yd 7 5 6, ab 2 7] .ret)⟩
def f76_0 : IR := cq 6 .skip (.exit 0)
def f76_1 : IR := ai [sb 6 5 4] (.seq f76_0 (.seq (.block 1 (ai [ab 7 5, ab 4 7] (.reg [ab 8 0, ab 9 4, ab 10 1, ab 11 4, agb 12 8 11, ag5 13 24 12,
 ⟨none, some 14, .bin .shr (.t 10) (.t 13)⟩, po 15 14, ga 16 1 8 9, cd 1 16 15]))) (.reg [ek 17 5 1, ab 5 17])))
def f76 : FnIR := ⟨18, [], ai [bu 5 0] (.block 0 (.loop f76_1))⟩
def f77 : FnIR := ⟨27, [.t 2], ai [dg 2] (ai [ab 5 0, ik 6 87 5, ab 3 6] (ai [ab 7 0, cz 8 7, ek 9 8 4, ⟨none, some 10,
 .mks 1 1 [.sc (.int .u8 0)] (.c (vi .i64 0)) (.t 9) true⟩, ab 11 0, yd 12 10 11, ab 4 12] (ai [ab 13 4, ab 14 3, po 15 14, ab 16 3, Kt 17 16 8,
 po 18 17, ab 19 3, Kt 20 19 16, po 21 20, ab 22 3, Kt 23 22 24, po 24 23, ⟨none, some 25, .mksl 1 4 [.cv (.sc (.int .u8 0)), .cv (.sc (.int .u8 0)),
 .cv (.sc (.int .u8 0)), .cv (.sc (.int .u8 0))] [(0, (1, .t 15)), (1, (1, .t 18)), (2, (1, .t 21)), (3, (1, .t 24))] false⟩, yd 26 13 25, ab 2 26] .ret)))⟩
def f78_0 : IR := cq 7 .skip (.exit 0)
def f78_1 : IR := ai [jc 7 6 5] (.seq f78_0 (.seq (.block 1 (ai [ab 8 6, ab 3 8] (.seq (.draw [(ab 9 3,.p), (Gg 10 9 0,.p), (ab 11 10,.p), (ij 11 12 0,.p),
 (ij 11 13 3,.p), (adr 11 14 2 12 13, .r 0 0), (Lz 11 15 0 14,.p), (Ek 11 16 15, .r 0 0), (ij 11 17 0,.p), (ij 11 18 3,.p), (⟨some (11, true), some 19,
 .bin .sub (.t 18) (.c (vi .i64 1))⟩, .p), (adr 11 20 2 17 19, .r 0 0), (Lz 11 21 0 20,.p), (Ek 11 22 21, .r 0 0), (ag7 11 23 16 22,.p),
 (ku 24 11 23,.p)]) (cq 24 (ai [gd 2] .ret) .skip)))) (.reg [ek 25 6 1, ab 6 25])))
def f78 : FnIR := ⟨26, [.t 2], ai [gd 2] (.seq (ai [ab 4 0, cz 5 4, bu 6 0] (.block 0 (.loop f78_1))) (ai [Cp 2] .ret))⟩
def f79_0 : IR := .reg [ab 10 16]
def f79_1 : IR := ai [ab 23 12, oe 24 23] (cq 24 (ai [alg 6, aie 7] .ret) .skip)
def f79_2 : IR := ai [ab 32 10, cz 33 32, Gg 34 33 0] (cq 34 (.reg [ab 35 10, xe 36 2 35 0, bj 37 0 36, ax 38 37, bj 39 0 13, cd 1 39 38]) .skip)
def f79_3 : IR := .block 1 (ai [ax 18 4, ab 19 10, Ad 20 89 18 19, ab 17 20, bp 21 17 0, bp 22 17 1, ab 11 21, ab 12 22] (.seq f79_1 (ai [ax 25 3,
 ej 26 25, bj 27 0 26, ax 28 27, cz 29 28, ik 30 74 29, ⟨none, some 31, .build [.cv (.sc (.string ⟨#[]⟩)), .cv (.sc (.slice none 0 0))] [(1, (1, .t 30))]⟩, Kz 13,
 cd 2 13 31] (.seq f79_2 (.seq (.draw [(ax 40 3, .r 0 3), (ax 41 8, .r 0 0), (je 42 2 13, .r 0 0), (aef 43 42, .r 0 0), (Se 44 41 43,.k), (ax 45 3, xm),
 (ej 46 45,.p), (bj 47 0 46,.p), (ax 48 47, xm), (ab 49 11,.p), (Rr 50 49, xm), (Qd 51 48 50,.k), (cd 1 8 44,.k), (ej 52 40,.p), (bj 53 0 52,.p),
 (cd 1 53 51,.k)]) (.reg [ax 54 9, ab 55 10, cz 56 55, lm 57 54 56, cd 1 9 57]))))))
def f79 : FnIR := ⟨63, [.cell 6 false 1, .cell 7 false 1], ai [rg 3 1 0, rg 4 1 1, aj6 6, ⟨none, some 7, .alloc [.cv (.sc (.bool false))]⟩] (ai [aj6 8] (ai [aki,
 ack 9] (.seq (ai [ab 14 2, ky 15 88 14] (.block 0 (.rangeF (.t 15) [16] f79_0 f79_3))) (.seq (.draw [(ax 58 8, .r 0 0), (ax 59 9, xm), (ab 60 2,.p),
 (cz 61 60,.p), (Hu 62 59 61,.p), (cd 1 6 58,.k), (cd 1 7 62,.k)]) .ret))))⟩
def f80_0 : IR := ai [ab 5 1, sb 6 5 0] (cq 6 (.reg [⟨none, some 7, .mkif 9 (.c (.cv (.sc (.string ⟨#[99, 97, 110, 110, 111, 116, 32, 98, 101, 32, 110, 101, 103, 97, 116,
 105, 118, 101]⟩))))⟩, ady 7]) .skip)
def f80 : FnIR := ⟨27, [.t 4], ai [dg 4] (.seq f80_0 (.seq (ai [ab 8 1, ab 9 0, agq 10 9, ab 11 0, cz 12 11, Qt 13 10 12, Qt 14 8 13,
 ab 1 14] (ai [ab 15 1, Gg 16 15 0] (cq 16 (.reg [ab 17 0, ab 18 0, agq 19 18, Jf 20 1 17 19, ab 21 1, ⟨none, some 22,
 .apz 1 1 [.sc (.int .u8 0)] (.t 20) (.t 21)⟩, ab 23 0, cz 24 23, Jf 25 1 22 24, ab 0 25]) .skip))) (ai [ab 26 0, ab 4 26] .ret)))⟩
def f81 : FnIR := ⟨10, [.t 4], ai [gd 4] (ai [ab 5 0, Rj 6 5, ab 7 1, Rj 8 7, Hu 9 6 8, ab 4 9] .ret)⟩
def f82_0 : IR := cq 26 .skip (.exit 1)
def f82_1 : IR := ai [ab 28 7, yr 29 2 28, ab 30 6, ⟨none, some 31, .bin .geq (.t 29) (.t 30)⟩] (cq 31 (ai [bu 2 0, dg 3, dq 4 11] .ret) .skip)
def f82_2 : IR := ai [ab 45 10, oe 46 45] (cq 46 (ai [bu 2 0, dg 3, dq 4 11] .ret) .skip)
def f82_3 : IR := ai [jc 26 25 24] (.seq f82_0 (.seq (.block 2 (ai [ab 27 25, ab 7 27] (.seq f82_1 (ai [ab 32 0, ab 33 7, yr 34 2 33, ga 35 1 32 34,
 ax 36 35, rf 37 36, ab 8 37] (ai [ab 39 0, ab 40 8, ab 41 6, af7 42 91 39 40 41, ab 38 42, bp 43 38 0, bp 44 38 1, Kz 9, cd 2 9 43,
 ab 10 44] (.seq f82_2 (.reg [ab 47 5, je 48 2 9, aef 49 48, Se 50 47 49, ab 51 8, ab 5 50, ab 6 51]))))))) (.reg [ek 52 25 1, ab 25 52])))
def f82 : FnIR := ⟨75, [.t 2, .t 3, .t 4], ai [bu 2 0, dg 3, dq 4 0] (.seq (.block 0 (ai [ab 14 0, cz 15 14, ⟨none, some 16,
 .bin .neq (.t 15) (.c (vi .i64 256))⟩, ab 13 16] (cq 13 (ai [bu 2 0, dg 3, dq 4 11] .ret) (ai [ab 18 0, ik 19 90 18, oe 20 19,
 ab 17 20] (cq 17 (ai [bu 2 0, dg 3, dq 4 12] .ret) .skip))))) (ai [dg 5] (ai [bu 6 252] (.seq (ai [ab 21 0, xe 22 1 21 1, ax 23 22,
 rf 24 23, bu 25 0] (.block 1 (.loop f82_3))) (.seq (ai [ab 54 0, xe 55 1 54 0, ax 56 55, rf 57 56, ab 58 5, Ad 59 89 57 58, ab 53 59, bp 60 53 0,
 bp 61 53 1, ab 11 60, ab 12 61] (ai [ab 62 12, oe 63 62, ab 64 63, gu 64 65 11, gu 64 66 0, ⟨some (64, false), some 67, .call 81 true [.t 65, .t 66]⟩,
 Wa 64 68 67, ko 69 64 68] (cq 69 (ai [bu 2 0, dg 3, dq 4 11] .ret) .skip))) (ai [ab 70 0, xe 71 1 70 0, ax 72 71, rf 73 72, ab 74 5, ab 2 73,
 ab 3 74, dq 4 0] .ret))))))⟩
def f83_0 : IR := ai [ab 10 0, cz 11 10, ab 12 1, cz 13 12, ag1 14 11 13] (cq 14 (ai [gd 6] .ret) .skip)
def f83_1 : IR := cq 18 .skip (.exit 0)
def f83_2 : IR := ai [jc 18 17 16] (.seq f83_1 (.seq (.block 1 (ai [ab 19 17, ga 20 1 15 17, ax 21 20, ab 7 19, ab 8 21] (ai [ab 22 1, ab 23 7,
 ga 24 1 22 23, ax 25 24, ab 9 25] (ai [ab 26 2, ab 27 8, ab 28 9, ⟨none, some 29, .callv true (.t 26) [.t 27, .t 28]⟩,
 oe 30 29] (cq 30 (ai [gd 6] .ret) .skip))))) (.reg [ek 31 17 1, ab 17 31])))
def f83 : FnIR := ⟨32, [.t 6], ai [gd 6] (.seq f83_0 (.seq (ai [ab 15 0, cz 16 15, bu 17 0] (.block 0 (.loop f83_2))) (ai [Cp 6] .ret)))⟩
def f84 : FnIR := ⟨8, [.t 2, .t 3], ai [dg 2, dq 3 0] (ai [ab 4 0, ⟨none, some 5, .call 92 true [.t 4, .c (.func 93 [])]⟩, bp 6 5 0, bp 7 5 1, ab 2 6,
 ab 3 7] .ret)⟩
def f87 : FnIR := ⟨5, [.t 2], ai [aid 2] (ai [ab 3 0, ⟨none, some 4, .call 95 true [.c (vi .u32 0), .t 3]⟩, ab 2 4] .ret)⟩
def f88 : FnIR := ⟨4, [.t 2], ai [rg 1 1 0, akr 2] (ai [Ys 3 96 1, ab 2 3] .ret)⟩
def f89_0 : IR := ai [ab 11 0, sb 12 11 0, ab 13 12, gu 13 14 0, yw 13 15 14 4, ko 16 13 15, ab 17 16, gu 17 18 1, ⟨some (17, false), some 19,
 .call 97 true [.t 18]⟩, gu 17 20 1, Bb 17 21 20, ⟨some (17, false), some 22, .bin .lss (.t 19) (.t 21)⟩, ko 23 17 22] (cq 23 (ai [dg 4, gd 5] .ret) .skip)
def f89_1 : IR := cq 34 .skip (.exit 0)
def f89_2 : IR := ai [jc 34 33 32] (.seq f89_1 (.seq (.block 1 (ai [ab 35 33, ga 36 2 31 33, je 37 2 36, Kz 9, ab 8 35, cd 2 9 37] (ai [je 38 2 9,
 ik 39 98 38, ab 10 39] (ai [ab 40 7, ab 41 10, cz 42 41, Qt 43 40 42, ab 7 43] (ai [ab 44 8, yr 45 2 44, ab 46 7, po 47 46, Yu 48 252 6 45,
 cd 1 48 47] (.reg [ab 49 7, ⟨none, some 50, .slA 252 1 (.t 6) (some (.t 49)) none⟩, ab 51 10, Iw 52 1 50 51])))))) (.reg [ek 53 33 1, ab 33 53])))
def f89 : FnIR := ⟨56, [.t 4, .t 5], ai [dg 4, gd 5] (.seq f89_0 (ai [⟨none, some 6, .alloc (List.replicate 252 (.cv (.sc (.int .u8 0))))⟩] (ai [ab 24 0, po 25 24,
 ab 26 1, cz 27 26, po 28 27, Iy 29 252 6 0, cd 1 29 25, Iy 30 252 6 1, cd 1 30 28] (ai [bu 7 252] (.seq (ai [ab 31 1, cz 32 31,
 bu 33 0] (.block 0 (.loop f89_2))) (ai [Lx 54 252 6, ky 55 77 54, ab 4 55, Cp 5] .ret))))))⟩
def f90 : FnIR := ⟨17, [.t 2], ai [gd 2] (ai [ab 4 0, cz 5 4, Zj 6 5 4, ab 3 6] (ai [ab 7 3, Rd 8 7 0, ab 9 8, ij 9 10 0, ij 9 11 3, ⟨some (9,
 true), some 12, .slL 1 (.t 10) none (some (.t 11)) none⟩, ⟨some (9, true), some 13, .call 77 true [.t 12]⟩, ij 9 14 0, afr 9 15 81 13 14, ku 16 9 15, ab 2 16] .ret))⟩
def f91_0 : IR := ai [ab 12 1, ab 13 2, ⟨none, some 14, .bin .geq (.t 12) (.t 13)⟩] (cq 14 (ai [je 15 2 6, cd 2 6 15, gd 7] .ret) .skip)
def f91_1 : IR := ai [ab 25 10, Eu 26 25] (cq 26 (ai [je 27 2 6, cd 2 6 27, gd 7] .ret) .skip)
def f91 : FnIR := ⟨48, [.cell 6 true 2, .t 7], ai [Kz 6, gd 7] (.seq f91_0 (ai [ab 17 0, ab 18 2, Jf 19 1 17 18, ab 20 1, aah 21 19 20 30, ab 16 21,
 bp 22 16 0, bp 23 16 1, bp 24 16 2, ab 8 22, ab 9 23, ab 10 24] (.seq f91_1 (ai [ab 29 0, ab 30 2, Jf 31 1 29 30, ab 32 9, aah 33 31 32 150,
 ab 28 33, bp 34 28 0, bp 35 28 1, bp 36 28 2, ab 11 34, ab 9 35, ab 10 36] (ai [ab 37 8, ab 38 11, ⟨none, some 39, .cvSB false (.t 38)⟩,
 aex 40 37 39, ab 41 10, Ye 42 41, ab 43 42, ij 43 44 9, ij 43 45 2, ⟨some (43, true), some 46, .bin .eql (.t 44) (.t 45)⟩, ku 47 43 46, cd 2 6 40,
 ab 7 47] .ret)))))⟩
def f92_0 : IR := .seq (ai [ab 23 9, Ye 24 23, ab 25 24, ij 25 26 7, agm 25 27 26 0,
 ku 28 25 27] (cq 28 .skip (.exit 0))) (.seq (.block 1 (ai [Yf 10] (ai [ab 32 1, ab 33 0, ab 34 8, ⟨none, some 35, .callv true (.t 32) [.t 33, .t 34]⟩,
 ab 31 35, bp 36 31 0, bp 37 31 1, bp 38 31 2, cd 3 10 36, ab 8 37, ab 9 38] (ai [ab 39 9, Ye 40 39] (cq 40 (.reg [ab 41 6, je 42 3 10,
 aj3 43 42, akh 44 41 43, ab 6 44]) .skip))))) (.reg [ab 29 7, Zj 30 29 1, ab 7 30]))
def f92 : FnIR := ⟨55, [.t 4, .t 5], ai [dg 4, dq 5 0] (ai [dg 6] (ai [ab 12 0, ⟨none, some 13, .call 100 true [.t 12, .c (vi .i64 0)]⟩, ab 11 13,
 bp 14 11 0, bp 15 11 1, bp 16 11 2, ab 7 14, ab 8 15, ab 9 16] (.seq (ai [ab 17 9, Ye 18 17, ab 19 18, ij 19 20 7, agm 19 21 20 5000,
 ku 22 19 21] (cq 22 (.reg [dq 9 3]) .skip)) (.seq (.block 0 (.loop f92_0)) (.seq (.block 2 (ai [ab 46 9, Eu 47 46, ab 45 47] (cq 45 (ai [ab 48 9, dg 4,
 ab 5 48] .ret) (ai [ab 50 8, ab 51 0, cz 52 51, jc 53 50 52, ab 49 53] (cq 49 (ai [dg 4, dq 5 11] .ret) .skip))))) (ai [ab 54 6, ab 4 54,
 dq 5 0] .ret))))))⟩
def f93 : FnIR := ⟨59, [.cell 4 true 3, .t 5, .t 6], ai [Yf 4, bu 5 0, dq 6 0] (ai [ab 11 0, ab 12 1, aah 13 11 12 30, ab 10 13, bp 14 10 0,
 bp 15 10 1, bp 16 10 2, ab 7 14, ab 1 15, ab 8 16] (.seq (.block 0 (ai [ab 18 8, Eu 19 18, ab 17 19] (cq 17 (ai [afw 20, ab 21 8, cd 3 4 20,
 bu 5 0, ab 6 21] .ret) (ai [ab 23 1, ab 24 0, cz 25 24, Hu 26 23 25, ab 22 26] (cq 22 (ai [afw 27, cd 3 4 27, bu 5 0,
 dq 6 10] .ret) (ai [ab 29 0, ab 30 1, ga 31 1 29 30, ax 32 31, ahj 33 32 1, ab 28 33] (cq 28 (ai [ab 34 7, als 35 34, ab 36 1, ek 37 36 1,
 cd 3 4 35, ab 5 37, dq 6 0] .ret) (ai [ab 39 0, ab 40 1, ga 41 1 39 40, ax 42 41, al5 43 42 1, ab 38 43] (cq 38 (ai [afw 44, cd 3 4 44,
 bu 5 0, dq 6 11] .ret) .skip))))))))) (ai [ab 46 0, ab 47 1, ek 48 47 1, aah 49 46 48 150, ab 45 49, bp 50 45 0, bp 51 45 1, bp 52 45 2, ab 9 50,
 ab 1 51, ab 8 52] (ai [ab 53 7, ab 54 9, ⟨none, some 55, .cvSB false (.t 54)⟩, ajj 56 53 55, ab 57 1, ab 58 8, cd 3 4 56, ab 5 57, ab 6 58] .ret))))⟩
def f95_0 : IR := cq 14 .skip (.exit 0)
def f95_1 : IR := ai [jc 14 13 12] (.seq f95_0 (.seq (.block 1 (ai [ga 15 1 11 13, ax 16 15, ab 7 16] (.reg [ab 17 0, Kt 18 17 8, ab 19 0, po 20 19,
 ab 21 7, adq 22 20 21, Yu 23 256 5 22, ax 24 23, adq 25 18 24, ab 0 25]))) (.reg [ek 26 13 1, ab 13 26])))
def f95 : FnIR := ⟨29, [.t 4], ai [aid 4] (ai [aga 8 102, ⟨none, some 5, .alloc (List.replicate 256 (.cv (.sc (.int .u32 0))))⟩, cd 256 5 8] (ai [ab 9 0, ⟨none,
 some 10, .un .xor (.t 9)⟩, ab 0 10] (.seq (ai [ab 11 1, cz 12 11, bu 13 0] (.block 0 (.loop f95_1))) (ai [ab 27 0, ⟨none, some 28, .un .xor (.t 27)⟩,
 ab 4 28] .ret))))⟩
def f96_0 : IR := ai [ab 6 0, ax 7 1, ab 8 3, Jf 9 2 7 8, Wr 10 6 9, oe 11 10, ab 12 11, gu 12 13 3, ⟨some (12, false), some 14,
 .bin .eql (.t 13) (.c (vi .i64 0))⟩, ko 15 12 14, ab 16 15, gu 16 17 3, Jq 16 18 1, Bb 16 19 18, ⟨some (16, false), some 20, .bin .eql (.t 17) (.t 19)⟩,
 ko 21 16 20] (cq 21 .ret .skip)
def f96_1 : IR := .block 1 (ai [ax 4 1, ik 5 97 4, ab 3 5] (.seq f96_0 (.reg [ax 22 1, ab 23 3, vr 24 2 22 23, cd 1 1 24])))
def f96 : FnIR := ⟨25, [], .block 0 (.loop f96_1)⟩
def f97_0 : IR := cq 9 .skip (.exit 0)
def f97_1 : IR := ai [bj 13 0 5, ax 14 13, afb 15 14, Gg 16 15 30, ab 17 16, Sf 17 18 1 5, Jq 17 19 18, Bb 17 20 19, yw 17 21 20 150,
 ko 22 17 21] (cq 22 (ai [ab 23 4, ab 2 23] .ret) .skip)
def f97_2 : IR := ai [jc 9 8 7] (.seq f97_0 (.seq (.block 1 (ai [ab 10 8, ga 11 2 6 8, je 12 2 11, Kz 5, ab 4 10, cd 2 5 12] (.seq f97_1 (ai [ab 24 3,
 je 25 2 5, ik 26 98 25, cz 27 26, yr 28 1 27, lm 29 24 28, ab 3 29] (ai [ab 30 3, Gg 31 30 250] (cq 31 (ai [ab 32 4,
 ab 2 32] .ret) .skip)))))) (.reg [ek 33 8 1, ab 8 33])))
def f97 : FnIR := ⟨36, [.t 2], ai [bu 2 0] (ai [bu 3 0] (.seq (ai [ab 6 0, cz 7 6, bu 8 0] (.block 0 (.loop f97_2))) (ai [ab 34 0, cz 35 34,
 ab 2 35] .ret)))⟩
def f98 : FnIR := ⟨11, [.t 2], ai [rg 1 2 0, dg 2] (.seq (.draw [(bj 3 0 1,.p), (ax 4 3, .r 0 0), (ky 5 75 4,.k), (bj 6 1 1,.p), (ax 7 6, xm), (Rj 8 7,
 xm), (ky 9 75 8,.k), (yd 10 5 9,.k), (ab 2 10,.p)]) .ret)⟩
def f99 : FnIR := ⟨44, [.t 6, .t 7, .t 8], ai [ach, bu 7 0, dq 8 0] (ai [ab 13 0, ab 14 1, Ad 15 100 13 14, ab 12 15, bp 16 12 0, bp 17 12 1,
 bp 18 12 2, ab 9 16, ab 10 17, ab 11 18] (.seq (.block 0 (ai [ab 20 11, Eu 21 20, ab 19 21] (cq 19 (ai [ab 22 11, ach, bu 7 0,
 ab 8 22] .ret) (ai [ab 24 9, ab 25 2, Ss 26 24 25, ab 23 26] (cq 23 (ai [ach, bu 7 0, dq 8 3] .ret) (ai [ab 28 9, ab 29 0, cz 30 29,
 ab 31 10, Qt 32 30 31, Ss 33 28 32, ab 27 33] (cq 27 (ai [ach, bu 7 0, dq 8 10] .ret) .skip))))))) (ai [ab 34 0, ab 35 10, ab 36 10, ab 37 9,
 lm 38 36 37, ⟨none, some 39, .slL 1 (.t 34) (some (.t 35)) (some (.t 38)) none⟩, Rj 40 39, ab 41 10, ab 42 9, lm 43 41 42, ab 6 40, ab 7 43,
 dq 8 0] .ret)))⟩
def f100_0 : IR := .seq (ai [ab 18 8, sb 19 18 8] (cq 19 .skip (.exit 0))) (.seq (.block 1 (.seq (ai [ab 22 1, ab 23 8, lm 24 22 23, ab 25 0, cz 26 25,
 Hu 27 24 26] (cq 27 (.goto 0) .skip)) (ai [ab 28 0, ab 29 1, ab 30 8, lm 31 29 30, ga 32 1 28 31, ax 33 32, ab 9 33] (ai [ab 34 7, ab 35 9,
 ala 36 35 127, rf 37 36, ab 38 8, agb 39 7 38, ⟨none, some 40, .bin .shl (.t 37) (.t 39)⟩, Wx 41 34 40, ab 7 41] (ai [ab 42 9, ala 43 42 128,
 ahj 44 43 0] (cq 44 (.seq (ai [ab 45 9, ahj 46 45 0, ab 47 46, ij 47 48 8, agm 47 49 48 0, ku 50 47 49, ab 51 50, gu 51 52 7,
 yw 51 53 52 9007199254740992, ko 54 51 53] (cq 54 (.goto 1) .skip)) (ai [ab 55 7, ab 56 1, ab 57 8, lm 58 56 57, ek 59 58 1, ab 4 55, ab 5 59,
 dq 6 0] .ret)) .skip)))))) (.reg [ab 20 8, ek 21 20 1, ab 8 21]))
def f100_1 : IR := ai [bu 7 0, bu 8 0] (.seq (ai [ab 10 1, sb 11 10 0, ab 12 11, gu 12 13 1, gu 12 14 0, Bb 12 15 14, aeu 12 16 13 15,
 ko 17 12 16] (cq 17 (.goto 0) .skip)) (.seq (.block 0 (.loop f100_0)) (.seq (.label 1) (.seq (ai [bu 4 0, bu 5 0, dq 6 11] .ret) (.seq (.label 0) (ai [bu 4 0,
 bu 5 0, dq 6 10] .ret))))))
def f100 : FnIR := ⟨60, [.t 4, .t 5, .t 6], ai [bu 4 0, bu 5 0, dq 6 0] (.scope f100_1)⟩
def f102_0 : IR := cq 5 .skip (.exit 0)
def f102_1 : IR := cq 10 .skip (.exit 2)
def f102_2 : IR := ai [sb 10 9 8] (.seq f102_1 (.seq (.block 3 (.reg [ab 11 3, Kt 12 11 1, ab 13 3, ⟨none, some 14, .bin .and (.t 13) (.c (vi .u32 1))⟩, ⟨none,
 some 15, .bin .mul (.c (vi .u32 3988292384)) (.t 14)⟩, adq 16 12 15, ab 3 16])) (.reg [ek 17 9 1, ab 9 17])))
def f102_3 : IR := ai [sb 5 4 256] (.seq f102_0 (.seq (.block 1 (ai [ab 6 4, ab 2 6] (ai [ab 7 2, ⟨none, some 8, .cvI .u32 (.t 7)⟩,
 ab 3 8] (.seq (ai [bu 9 0] (.block 2 (.loop f102_2))) (.reg [ab 18 2, ab 19 3, Yu 20 256 1 18, cd 1 20 19]))))) (.reg [ek 21 4 1, ab 4 21])))
def f102 : FnIR := ⟨23, [.cell 0 true 256], ai [⟨none, some 0, .alloc (List.replicate 256 (.cv (.sc (.int .u32 0))))⟩] (ai [⟨none, some 1,
 .alloc (List.replicate 256 (.cv (.sc (.int .u32 0))))⟩] (.seq (ai [bu 4 0] (.block 0 (.loop f102_3))) (ai [je 22 256 1, cd 256 0 22] .ret)))⟩
def f119_0 : IR := ai [ab 9 0, ab 10 1, qn 11 56 9 10, oe 12 11] (cq 12 (ai [dg 4, dq 5 20] .ret) .skip)
def f119_1 : IR := cq 26 .skip (.exit 0)
def f119_2 : IR := ai [jc 26 25 24] (.seq f119_1 (.seq (.block 1 (ai [ga 27 65 23 25, je 28 65 27, ⟨none, some 8,
 .alloc ((.cv (.sc (.int .i64 0))) :: List.replicate 64 (.cv (.sc (.int .u8 0))))⟩, cd 65 8 28] (ai [bj 29 0 8, ax 30 29, ab 31 1,
 Hu 32 30 31] (cq 32 (.reg [bj 33 1 8, je 34 64 33, cd 64 6 34]) .skip)))) (.reg [ek 35 25 1, ab 25 35])))
def f119 : FnIR := ⟨37, [.t 4, .t 5], ai [dg 4, dq 5 0] (.seq f119_0 (ai [ab 13 0, ej 14 13, bj 15 0 14, ax 16 15, ab 17 1, ga 18 64 16 17,
 je 19 64 18, ⟨none, some 6, .alloc (List.replicate 64 (.cv (.sc (.int .u8 0))))⟩, cd 64 6 19] (.seq (ai [ab 20 0, ej 21 20, bj 22 1 21, ax 23 22, cz 24 23,
 bu 25 0] (.block 0 (.loop f119_2))) (ai [Lx 36 64 6, ab 4 36, dq 5 0] .ret))))⟩
abbrev aip : List Nat := [31, 32, 27, 119, 29, 26, 28, 56, 57, 54, 53, 10, 14, 15, 16, 20, 21, 25, 11, 13, 34, 60, 33, 63, 35, 38, 36, 17]
abbrev ajl : List Nat := [31, 32, 27, 119, 29, 26, 28, 56, 57, 54, 53, 10]
def ak2 : Nat → List Nat := fun n => match n with
 | 8 | 11 | 12 | 13 | 14 | 15 | 16 | 17 | 20 | 30 | 33 | 35 | 38 | 41 | 60 => aip
 | 10 | 26 | 27 | 29 | 31 | 32 | 53 | 54 | 55 | 56 | 57 | 58 | 119 => ajl
 | 19 => [45, 44]
 | 34 => [31, 32, 27, 119, 29, 26, 28, 56, 57, 54, 53, 10, 14, 15, 16, 20, 21, 25, 11, 13, 34, 60, 33, 63, 35, 38, 36, 17, 45]
 | 36 => [31, 32, 27, 119, 29, 26, 28, 56, 57, 54, 53, 10, 14, 15, 16, 20, 21, 25, 11, 13, 34, 60, 33, 63, 35, 38, 36, 17, 45, 44]
 | 37 => [65]
 | 39 => [66, 67, 50, 70]
 | 42 => [66]
 | 44 => [72]
 | 46 | 75 => [74]
 | 48 => [76]
 | 50 | 73 | 96 => [3000000]
 | 59 => [79]
 | 61 => [80]
 | 63 => [31, 32, 27, 119, 29, 26, 28, 56, 57, 54, 53, 10, 14, 15, 16, 20, 21, 25, 11, 13, 34, 60, 33, 63, 35, 38, 36, 17, 1000081]
 | 67 => [50, 3000000]
 | 79 => [88]
 | 89 => [77]
 | 98 => [75]
 | _ => []
def ak1 : Nat → List (Nat × Nat) := fun n => match n with
 | 10 => [(3, 1)]
 | 13 => [(10, 6)]
 | 36 => [(1, 9)]
 | 49 => [(5, 7), (7, 8), (12, 18)]
 | 54 => [(3, 2)]
 | 77 => [(2, 3)]
 | _ => []
theorem f70_ok : Rk Proofs.Try.prog [3000004] [] Proofs.Try.f70 = some f70 := by kernel_rfl
def f70x : FnIR := ⟨3, [.t 2], .reg [⟨none, some 2, .ins 2 40 (.t 0) (.t 1) (.t 2)⟩]⟩
def F : Nat → Option FnIR := fun n => match n with
 | 8 => some f8
 | 10 => some f10
 | 11 => some f11
 | 12 => some f12
 | 13 => some f13
 | 14 => some f14
 | 15 => some f15
 | 16 => some f16
 | 17 => some f17
 | 18 => some f18
 | 19 => some f19
 | 20 => some f20
 | 22 => some f22
 | 23 => some f23
 | 24 => some f24
 | 26 => some f26
 | 27 => some f27
 | 29 => some f29
 | 30 => some f30
 | 31 => some f31
 | 32 => some f32
 | 33 => some f33
 | 34 => some f34
 | 35 => some f35
 | 36 => some f36
 | 37 => some f37
 | 38 => some f38
 | 39 => some f39
 | 40 => some f40
 | 41 => some f41
 | 42 => some f42
 | 43 => some f43
 | 44 => some f44
 | 45 => some f45
 | 46 => some f46
 | 47 => some f47
 | 48 => some f48
 | 49 => some f49
 | 50 => some f50
 | 52 => some f52
 | 53 => some f53
 | 54 => some f54
 | 55 => some f55
 | 56 => some f56
 | 57 => some f57
 | 58 => some f58
 | 59 => some f59
 | 60 => some f60
 | 61 => some f61
 | 62 => some f62
 | 63 => some f63
 | 64 => some f64
 | 65 => some f65
 | 66 => some f66
 | 67 => some f67
 | 68 => some f68
 | 69 => some f69
 | 70 => some f70x
 | 71 => some f71
 | 72 => some f72
 | 73 => some f73
 | 74 => some f74
 | 75 => some f75
 | 76 => some f76
 | 77 => some f77
 | 78 => some f78
 | 79 => some f79
 | 80 => some f80
 | 81 => some f81
 | 82 => some f82
 | 83 => some f83
 | 84 => some f84
 | 87 => some f87
 | 88 => some f88
 | 89 => some f89
 | 90 => some f90
 | 91 => some f91
 | 92 => some f92
 | 93 => some f93
 | 95 => some f95
 | 96 => some f96
 | 97 => some f97
 | 98 => some f98
 | 99 => some f99
 | 100 => some f100
 | 102 => some f102
 | 119 => some f119
 | _ => none
def ai6 (f : Nat) : Option FnIR := if f = 70 then none else F f
theorem an5 {f : Nat} {fn : FnIR} (h : F f = some fn) : f < 120 := by
 unfold F at h
 split at h <;> first | decide | cases h
theorem tlt {f : Nat} {fn : FnIR} (h : F f = some fn) : f < YB := Nat.lt_trans (an5 h) (by decide)
theorem aol : ((List.range 120).map fun f => if (ai6 f).isSome = true then (Proofs.Try.prog.funcs[f]?).map fun c => (c.name == "runtime.NumGoroutine", Rk Proofs.Try.prog (ak2 f) (ak1 f) c) else none) = (List.range 120).map fun f => if (ai6 f).isSome = true then some (false, ai6 f) else none := by kernel_rfl
theorem aou (h70 : ae1 Proofs.Try.prog 70 f70x) : Vx Proofs.Try.prog F := by
 refine ⟨by kernel_rfl, fun f fn h => ⟨tlt h, ?_⟩⟩
 by_cases e70 : f = 70
 ·subst e70
  have h : some f70x = some fn := h
  cases h
  exact .inr h70
 have hf : ai6 f = some fn := by
  unfold ai6
  rw [if_neg e70]
  exact h
 have k := congrArg (·[f]?) aol
 simp only [List.getElem?_map, List.getElem?_range (an5 h)] at k
 have k := Option.some.inj k
 dsimp only at k
 have p : (some fn).isSome = true := rfl
 rw [hf, if_pos p, if_pos p] at k
 cases hc : Proofs.Try.prog.funcs[f]? with
 | none => rw [hc] at k; cases k
 | some c =>
  rw [hc] at k
  have k := Option.some.inj k
  exact .inl ⟨c, ak2 f, ak1 f, rfl, congrArg (·.1) k, congrArg (·.2) k⟩
end Go.V08
