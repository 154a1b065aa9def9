/-
 Chapter 08: the program's functions, as the small code (printed by a program of ours, checked by the kernel).
-/
import Derived.Test.YtbhoknaipfnlnaaVmAll1
import Derived.Test.YtbhoknaipfnlnaaProg
namespace Go.V08
open Go Go.Vm
theorem eE0 {F : Nat → Option FnIR} {f n : Nat} {fn : FnIR} (hf : F f = some fn) (hn : fn.nt = n) {h : ah} {P : VV → ah → Prop} (k : ∀ s : List VV, s.length = n → X F fn.body ⟨s, h⟩ (RQ fn.res P)) (hb : Nat.ble 0 n = true := by rfl) : ∃ v h', call F f [] h = some (.ret v, h') ∧ P v h' := by
  subst hn
  exact ej hf (k _ (by have := Nat.le_of_ble_eq_true hb; simp <;> omega)) hb
theorem eE1 {F : Nat → Option FnIR} {f n : Nat} {fn : FnIR} (hf : F f = some fn) (hn : fn.nt = n) {a0 : VV} {h : ah} {P : VV → ah → Prop} (k : ∀ s : List VV, s.length = n → s.getD 0 .undef = a0 → X F fn.body ⟨s, h⟩ (RQ fn.res P)) (hb : Nat.ble 1 n = true := by rfl) : ∃ v h', call F f [a0] h = some (.ret v, h') ∧ P v h' := by
  subst hn
  exact ej hf (k _ (by have := Nat.le_of_ble_eq_true hb; simp <;> omega) rfl) hb
theorem eP1 {F : Nat → Option FnIR} {f n : Nat} {fn : FnIR} (hf : F f = some fn) (hn : fn.nt = n) {a0 : VV} {h h' : ah} {v : VV} (k : ∀ s : List VV, s.length = n → s.getD 0 .undef = a0 → X F fn.body ⟨s, h⟩ (RQ fn.res (Is v h'))) (hb : Nat.ble 1 n = true := by rfl) : call F f [a0] h = some (.ret v, h') := by
  subst hn
  exact Hg hf (k _ (by have := Nat.le_of_ble_eq_true hb; simp <;> omega) rfl) hb
theorem eE2 {F : Nat → Option FnIR} {f n : Nat} {fn : FnIR} (hf : F f = some fn) (hn : fn.nt = n) {a0 a1 : VV} {h : ah} {P : VV → ah → Prop} (k : ∀ s : List VV, s.length = n → s.getD 0 .undef = a0 → s.getD 1 .undef = a1 → X F fn.body ⟨s, h⟩ (RQ fn.res P)) (hb : Nat.ble 2 n = true := by rfl) : ∃ v h', call F f [a0, a1] h = some (.ret v, h') ∧ P v h' := by
  subst hn
  exact ej hf (k _ (by have := Nat.le_of_ble_eq_true hb; simp <;> omega) rfl rfl) hb
theorem eP2 {F : Nat → Option FnIR} {f n : Nat} {fn : FnIR} (hf : F f = some fn) (hn : fn.nt = n) {a0 a1 : VV} {h h' : ah} {v : VV} (k : ∀ s : List VV, s.length = n → s.getD 0 .undef = a0 → s.getD 1 .undef = a1 → X F fn.body ⟨s, h⟩ (RQ fn.res (Is v h'))) (hb : Nat.ble 2 n = true := by rfl) : call F f [a0, a1] h = some (.ret v, h') := by
  subst hn
  exact Hg hf (k _ (by have := Nat.le_of_ble_eq_true hb; simp <;> omega) rfl rfl) hb
theorem eE3 {F : Nat → Option FnIR} {f n : Nat} {fn : FnIR} (hf : F f = some fn) (hn : fn.nt = n) {a0 a1 a2 : VV} {h : ah} {P : VV → ah → Prop} (k : ∀ s : List VV, s.length = n → s.getD 0 .undef = a0 → s.getD 1 .undef = a1 → s.getD 2 .undef = a2 → X F fn.body ⟨s, h⟩ (RQ fn.res P)) (hb : Nat.ble 3 n = true := by rfl) : ∃ v h', call F f [a0, a1, a2] h = some (.ret v, h') ∧ P v h' := by
  subst hn
  exact ej hf (k _ (by have := Nat.le_of_ble_eq_true hb; simp <;> omega) rfl rfl rfl) hb
theorem eP3 {F : Nat → Option FnIR} {f n : Nat} {fn : FnIR} (hf : F f = some fn) (hn : fn.nt = n) {a0 a1 a2 : VV} {h h' : ah} {v : VV} (k : ∀ s : List VV, s.length = n → s.getD 0 .undef = a0 → s.getD 1 .undef = a1 → s.getD 2 .undef = a2 → X F fn.body ⟨s, h⟩ (RQ fn.res (Is v h'))) (hb : Nat.ble 3 n = true := by rfl) : call F f [a0, a1, a2] h = some (.ret v, h') := by
  subst hn
  exact Hg hf (k _ (by have := Nat.le_of_ble_eq_true hb; simp <;> omega) rfl rfl rfl) hb
theorem eE4 {F : Nat → Option FnIR} {f n : Nat} {fn : FnIR} (hf : F f = some fn) (hn : fn.nt = n) {a0 a1 a2 a3 : VV} {h : ah} {P : VV → ah → Prop} (k : ∀ s : List VV, s.length = n → s.getD 0 .undef = a0 → s.getD 1 .undef = a1 → s.getD 2 .undef = a2 → s.getD 3 .undef = a3 → X F fn.body ⟨s, h⟩ (RQ fn.res P)) (hb : Nat.ble 4 n = true := by rfl) : ∃ v h', call F f [a0, a1, a2, a3] h = some (.ret v, h') ∧ P v h' := by
  subst hn
  exact ej hf (k _ (by have := Nat.le_of_ble_eq_true hb; simp <;> omega) rfl rfl rfl rfl) hb
theorem eE5 {F : Nat → Option FnIR} {f n : Nat} {fn : FnIR} (hf : F f = some fn) (hn : fn.nt = n) {a0 a1 a2 a3 a4 : VV} {h : ah} {P : VV → ah → Prop} (k : ∀ s : List VV, s.length = n → s.getD 0 .undef = a0 → s.getD 1 .undef = a1 → s.getD 2 .undef = a2 → s.getD 3 .undef = a3 → s.getD 4 .undef = a4 → X F fn.body ⟨s, h⟩ (RQ fn.res P)) (hb : Nat.ble 5 n = true := by rfl) : ∃ v h', call F f [a0, a1, a2, a3, a4] h = some (.ret v, h') ∧ P v h' := by
  subst hn
  exact ej hf (k _ (by have := Nat.le_of_ble_eq_true hb; simp <;> omega) rfl rfl rfl rfl rfl) hb
abbrev Zy : VV := .cv (.sc (.bool true))
abbrev Zm : VV := .cv (.sc (.bool false))
abbrev Tb : VV := .cv (.sc (.slice none 0 0))
abbrev alm : VV := .cv (.sc (.string ⟨#[]⟩))
abbrev ak (l : List Op1) (c : IR) : IR := .seq (.reg l) c
abbrev cz (n : Nat) (a b : IR) : IR := .cond (.t n) a b
abbrev Ay : Cl := .r 0 1
abbrev ab (a b : Nat) : Op1 := ⟨none, some a, .mv (.t b)⟩
abbrev ay (a b : Nat) : Op1 := ⟨none, some a, .ld false 1 (.t b)⟩
abbrev bj (a b c : Nat) : Op1 := ⟨none, some a, .ext (.t b) c⟩
abbrev bo (a b c : Nat) : Op1 := ⟨none, some a, .fad b (.t c)⟩
abbrev bu (a : Nat) (b : Int) : Op1 := ⟨none, some a, .mv (.c (vi .i64 b))⟩
abbrev co (a b c : Nat) : Op1 := ⟨none, none, .st a (.t b) (.t c)⟩
abbrev db (a : Nat) : Op1 := ⟨none, some a, .mv (.c Tb)⟩
abbrev di (a b : Nat) : Op1 := ⟨none, some a, .len false (.t b)⟩
abbrev dl (a : Nat) (b : Int) : Op1 := ⟨none, some a, .mv (.c (vi .u16 b))⟩
abbrev eh (a b : Nat) : Op1 := ⟨none, some a, .nilck (.t b)⟩
abbrev ge (a b : Nat) (c : Int) : Op1 := ⟨none, some a, .bin .add (.t b) (.c (vi .i64 c))⟩
abbrev gz (a : Nat) : Op1 := ⟨none, some a, .mv (.c Zm)⟩
abbrev iv (a b c : Nat) : Op1 := ⟨some (a, false), some b, .mv (.t c)⟩
abbrev ix (a b c d : Nat) : Op1 := ⟨none, some a, .iadL b (.t c) (.t d)⟩
abbrev iy (a b c : Nat) : Op1 := ⟨none, some a, .call b true [.t c]⟩
abbrev jd (a b c : Nat) : Op1 := ⟨some (a, true), some b, .mv (.t c)⟩
abbrev jc (a b c : Nat) : Op1 := ⟨none, some a, .ld true b (.t c)⟩
abbrev kk (a b c : Nat) : Op1 := ⟨none, some a, .pick (.t b) (.c Zy) (.t c)⟩
abbrev lj (a b c : Nat) : Op1 := ⟨none, some a, .call b false [.t c]⟩
abbrev kx (a b c : Nat) : Op1 := ⟨none, some a, .bin .lss (.t b) (.t c)⟩
abbrev lz (a b c : Nat) : Op1 := ⟨none, some a, .pick (.t b) (.t c) (.c Zm)⟩
abbrev mj (a b c : Nat) : Op1 := ⟨none, some a, .bin .add (.t b) (.t c)⟩
abbrev og (a b : Nat) : Op1 := ⟨none, some a, .un .not (.t b)⟩
abbrev py (a b : Nat) : Op1 := ⟨none, some a, .cvI .u8 (.t b)⟩
abbrev qo (a b : Nat) (c : Int) : Op1 := ⟨none, some a, .bin .lss (.t b) (.c (vi .i64 c))⟩
abbrev sk (a b c : Nat) : Op1 := ⟨none, some a, .box b (.t c)⟩
abbrev th (a b : Nat) : Op1 := ⟨none, some a, .cvI .i64 (.t b)⟩
abbrev uq (a b c d : Nat) : Op1 := ⟨none, some a, .call b false [.t c, .t d]⟩
abbrev ve (a b c d : Nat) : Op1 := ⟨none, some a, .slL b (.t c) (some (.t d)) none none⟩
abbrev wg (a b c : Nat) : Op1 := ⟨none, some a, .app 1 1 [.sc (.int .u8 0)] (.t b) (.t c)⟩
abbrev xc (a b c : Nat) (d : Int) : Op1 := ⟨none, some a, .iadL b (.t c) (.c (vi .i64 d))⟩
abbrev Ax (a b c : Nat) : Op1 := ⟨some (a, false), some b, .len false (.t c)⟩
abbrev Bp (a b c : Nat) (d : Int) : Op1 := ⟨some (a, false), some b, .bin .gtr (.t c) (.c (vi .i64 d))⟩
abbrev Bt (a b : Nat) : Op1 := ⟨none, some a, .bin .neq (.t b) (.c (vi .u16 0))⟩
abbrev Br (a : Nat) (b : Int) (c : Nat) : Op1 := ⟨none, some a, .bin .add (.c (vi .i64 b)) (.t c)⟩
abbrev Bq (a b : Nat) (c : Int) : Op1 := ⟨none, some a, .bin .eql (.t b) (.c (vi .i64 c))⟩
abbrev Bu (a b c d : Nat) : Op1 := ⟨none, some a, .call b true [.t c, .t d]⟩
abbrev Eh (a b : Nat) : Op1 := ⟨none, some a, .eqn .ptr false (.t b)⟩
abbrev Gq  : Op1 := ⟨none, some 2, .mv (.c (.cv (.sc (.pointer none))))⟩
abbrev Gs (a : Nat) : Op1 := ⟨none, some a, .alloc [.cv (.sc (.int .i64 0)), .cv (.sc (.int .i64 0)), .cv (.sc (.int .i64 0))]⟩
abbrev Iu (a : Nat) : Op1 := ⟨none, some a, .mv (.c Zy)⟩
abbrev Jc (a b : Nat) (c : Int) : Op1 := ⟨none, some a, .bin .gtr (.t b) (.c (vi .i64 c))⟩
abbrev Ii (a b c d : Nat) : Op1 := ⟨none, some a, .cpy b (.t c) (.t d)⟩
abbrev Gh (a b c : Nat) (d : Int) : Op1 := ⟨none, some a, .iadA b 1 (.t c) (.c (vi .i64 d))⟩
abbrev Hn (a b c : Nat) : Op1 := ⟨none, some a, .bin .eql (.t b) (.t c)⟩
abbrev Gp (a b c d : Nat) : Op1 := ⟨none, some a, .slL b (.t c) none (some (.t d)) none⟩
abbrev Ju (a b : Nat) : Op1 := ⟨none, some a, .mkif 23 (.t b)⟩
abbrev Kl (a b c : Nat) : Op1 := ⟨none, some a, .slA b 1 (.t c) none none⟩
abbrev Jx (a : Nat) : Op1 := ⟨none, some a, .alloc [.cv (.sc (.string ⟨#[]⟩)), .cv (.sc (.slice none 0 0))]⟩
abbrev Jh (a b c d : Nat) : Op1 := ⟨some (a, true), some b, .fad c (.t d)⟩
abbrev Lj (a b c : Nat) : Op1 := ⟨some (a, true), some b, .ld false 1 (.t c)⟩
abbrev Lk (a b : Nat) (c : Int) : Op1 := ⟨none, some a, .bin .shr (.t b) (.c (vi .u64 c))⟩
abbrev Pu (a b : Nat) : Op1 := ⟨none, some a, .cvBS (.t b)⟩
abbrev Pm (a b c : Nat) : Op1 := ⟨none, some a, .bin .sub (.t b) (.t c)⟩
abbrev Qm (a b c : Nat) : Op1 := ⟨some (a, false), some b, .ld false 1 (.t c)⟩
abbrev Um (a b c d : Nat) : Op1 := ⟨some (a, false), some b, .call c false [.t d]⟩
abbrev Ry (a b c d : Nat) : Op1 := ⟨some (a, true), some b, .call c false [.t d]⟩
abbrev Us (a b c : Nat) (d : Int) : Op1 := ⟨some (a, true), some b, .bin .eql (.t c) (.c (vi .i64 d))⟩
abbrev Rh (a b c : Nat) : Op1 := ⟨some (a, false), some b, .un .not (.t c)⟩
abbrev Ts (a b c : Nat) : Op1 := ⟨none, some a, .bin .gtr (.t b) (.t c)⟩
abbrev Sc (a b : Nat) : Op1 := ⟨none, some a, .mksl 1 1 [.cv (.sc (.slice none 0 0))] [(0, (1, .t b))] false⟩
abbrev Vo (a b c : Nat) : Op1 := ⟨none, some a, .app 1 24 [.sc (.slice none 0 0)] (.t b) (.t c)⟩
abbrev Vk (a b c : Nat) (d : Int) : Op1 := ⟨none, some a, .call b false [.t c, .c (vi .i64 d)]⟩
abbrev Sd (a b : Nat) (c : Int) : Op1 := ⟨none, some a, .bin .geq (.t b) (.c (vi .i64 c))⟩
abbrev Sl (a b c : Nat) : Op1 := ⟨none, some a, .callv false (.t b) [.t c]⟩
abbrev Un (a b c : Nat) : Op1 := ⟨none, some a, .bin .or (.t b) (.t c)⟩
abbrev Tc (a b c : Nat) : Op1 := ⟨none, some a, .app 2 40 [.sc (.string ⟨#[]⟩), .sc (.slice none 0 0)] (.t b) (.t c)⟩
abbrev Up (a b : Nat) : Op1 := ⟨none, some a, .bin .eql (.t b) (.c (vi .u16 0))⟩
abbrev Xz (a b c : Nat) (d : Int) : Op1 := ⟨some (a, false), some b, .bin .neq (.t c) (.c (vi .i64 d))⟩
abbrev aah (a b : Nat) : Op1 := ⟨none, some a, .mksl 1 1 [.cv (.sc (.int .u8 0))] [(0, (1, .t b))] false⟩
abbrev Wv (a b c : Nat) (d : Int) : Op1 := ⟨some (a, true), some b, .bin .eql (.t c) (.c (vi .u16 d))⟩
abbrev Wy (a b : Nat) : Op1 := ⟨none, some a, .inv [(17, 116), (23, 29)] (.t b) []⟩
abbrev Xb (a b : Nat) (c : Int) : Op1 := ⟨none, some a, .bin .sub (.t b) (.c (vi .i64 c))⟩
abbrev aat (a b c d : Nat) : Op1 := ⟨some (a, false), some b, .fad c (.t d)⟩
abbrev Zl (a b c d e : Nat) : Op1 := ⟨none, some a, .call b false [.t c, .t d, .t e]⟩
abbrev aaz (a : Nat) : Op1 := ⟨none, some a, .alloc [.cv (.sc (.string ⟨#[]⟩)), .cv (.sc (.slice none 0 0)), .cv (.sc (.bool false))]⟩
abbrev Zr (a b c d : Nat) : Op1 := ⟨none, some a, .iadA b 1 (.t c) (.t d)⟩
abbrev aaq (a b : Nat) (c : Int) : Op1 := ⟨none, some a, .bin .shl (.t b) (.c (vi .u64 c))⟩
abbrev Yl (a b c : Nat) (d : Int) : Op1 := ⟨none, some a, .call 99 true [.t b, .t c, .c (vi .i64 d)]⟩
abbrev aar  : Op1 := ⟨none, some 6, .mv (.c alm)⟩
abbrev ab9 (a b : Nat) : Op1 := ⟨none, some a, .call b true []⟩
abbrev acr (a b : Nat) (c : Int) : Op1 := ⟨none, some a, .bin .rem (.t b) (.c (vi .u8 c))⟩
abbrev acv (a b c : Nat) : Op1 := ⟨some (a, true), some b, .len false (.t c)⟩
abbrev acw (a b c d : Nat) : Op1 := ⟨some (a, false), some b, .bin .gtr (.t c) (.t d)⟩
abbrev afd (a b c d e : Nat) : Op1 := ⟨none, some a, .call b true [.t c, .t d, .t e]⟩
abbrev adt (a b c d : Nat) : Op1 := ⟨none, some a, .inv [(23, 31)] (.t b) [.t c, .t d]⟩
abbrev aei (a b : Nat) : Op1 := ⟨none, some a, .inv [(23, 32)] (.t b) []⟩
abbrev adf (a : Nat) (b : Int) (c : Nat) : Op1 := ⟨none, some a, .bin .sub (.c (vi .i64 b)) (.t c)⟩
abbrev afh (a : Nat) : Op1 := ⟨none, none, .st 1 (.t a) (.c (vi .i64 0))⟩
abbrev ada (a b c d : Nat) : Op1 := ⟨some (a, true), some b, .bin .leq (.t c) (.t d)⟩
abbrev adh (a b c : Nat) : Op1 := ⟨none, some a, .mkfn b [.t c]⟩
abbrev ac3 (a b : Nat) : Op1 := ⟨none, some a, .mksl 2 1 [.cv (.sc (.string ⟨#[]⟩)), .cv (.sc (.slice none 0 0))] [(0, (2, .t b))] false⟩
abbrev afj (a b : Nat) : Op1 := ⟨none, some a, .len true (.t b)⟩
abbrev acx (a : Nat) : Op1 := ⟨none, none, .panic (.t a)⟩
abbrev abz (a b c : Nat) (d : Int) : Op1 := ⟨some (a, true), some b, .bin .leq (.t c) (.c (vi .i64 d))⟩
abbrev aci (a : Nat) (b : Int) (c : Nat) : Op1 := ⟨none, some a, .bin .mul (.c (vi .i64 b)) (.t c)⟩
abbrev aco (a b : Nat) : Op1 := ⟨none, some a, .cap (.t b)⟩
abbrev afa (a b c : Nat) (d : Int) : Op1 := ⟨some (a, true), some b, .bin .gtr (.t c) (.c (vi .i64 d))⟩
abbrev ady (a : Nat) : Op1 := ⟨none, some a, .build [.cv (.sc (.string ⟨#[]⟩)), .cv (.sc (.slice none 0 0)), .cv (.sc (.bool false))] []⟩
abbrev acl (a b : Nat) (c : Int) : Op1 := ⟨none, some a, .bin .eql (.t b) (.c (vi .u8 c))⟩
abbrev ab0 (a b c : Nat) : Op1 := ⟨none, some a, .bin .xor (.t b) (.t c)⟩
abbrev agw (a b c : Nat) : Op1 := ⟨none, some a, .build [.cv (.sc (.string ⟨#[]⟩)), .cv (.sc (.slice none 0 0)), .cv (.sc (.bool false))] [(0, (1, .t b)), (1, (1, .t c))]⟩
abbrev ahc (a b : Nat) : Op1 := ⟨none, some a, .mksl 3 1 [.cv (.sc (.string ⟨#[]⟩)), .cv (.sc (.slice none 0 0)), .cv (.sc (.bool false))] [(0, (3, .t b))] false⟩
abbrev aia (a b : Nat) (c : Int) : Op1 := ⟨none, some a, .bin .quo (.t b) (.c (vi .i64 c))⟩
abbrev ahe (a b c d : Nat) : Op1 := ⟨none, some a, .bin .add (.t b) (.c (.cv (.sc (.complex .f64 c d))))⟩
abbrev aix  : Op1 := ⟨none, some 9, .alloc [.cv (.sc (.int .i64 0))]⟩
abbrev af1 (a b c d : Nat) : Op1 := ⟨none, some a, .build [.cv (.sc (.int .i64 0)), .cv (.sc (.int .i64 0)), .cv (.sc (.int .i64 0))] [(0, (1, .t b)), (1, (1, .t c)), (2, (1, .t d))]⟩
abbrev aik (a b : Nat) : Op1 := ⟨none, some a, .bin .mul (.t b) (.c (vi .i64 4))⟩
abbrev ah5 (a b c : Nat) : Op1 := ⟨none, some a, .build [.cv (.sc (.string ⟨#[]⟩)), .cv (.sc (.slice none 0 0))] [(0, (1, .t b)), (1, (1, .t c))]⟩
abbrev agp (a b c : Nat) : Op1 := ⟨none, some a, .call b false [.c Tb, .t c]⟩
abbrev ag4 (a : Nat) : Op1 := ⟨none, some a, .mv (.c (.cv (.sc .nilFunc)))⟩
abbrev agq (a : Nat) (b : Int) : Op1 := ⟨none, some a, .mksl 1 1 [.cv (.sc (.int .u8 0))] [(0, (1, .c (vi .u8 b)))] false⟩
abbrev aje (a : Nat) (b : Int) : Op1 := ⟨none, some a, .slA 60 1 (.t 11) (some (.c (vi .i64 b))) none⟩
abbrev ag8  : Op1 := ⟨none, some 4, .eqn .slice false (.t 3)⟩
abbrev ahf (a : Nat) : Op1 := ⟨none, none, .st 1 (.t a) (.c Tb)⟩
abbrev af8 (a b c : Nat) : Op1 := ⟨none, some a, .slL 1 (.t b) (some (.c (vi .i64 11))) (some (.t c)) none⟩
abbrev ai5 (a : Nat) : Op1 := ⟨none, some a, .alloc [.cv (.sc (.slice none 0 0))]⟩
abbrev ag5 (a : Nat) : Op1 := ⟨none, some a, .mv (.c (vi .u32 0))⟩
abbrev agt (a b : Nat) (c : Int) : Op1 := ⟨none, some a, .bin .and (.t b) (.c (vi .u8 c))⟩
def f6_0 : IR := ak [ab 18 7, Eh 19 18, ab 20 19, iv 20 21 1, Ax 20 22 21, Bp 20 23 22 60, kk 24 20 23] (cz 24 (ak [ab9 25 12, ab 6 25] .ret) .skip)
def f6_1 : IR := ak [ab 30 7, lj 31 11 30, Bt 32 31] (cz 32 (ak [gz 6] .ret) .skip)
def f6_2 : IR := ak [ab 38 10, Bt 39 38, ab 40 39, iv 40 41 9, Um 40 42 16 41, Ax 40 43 42, Xz 40 44 43 0, kk 45 40 44, ab 46 45, iv 46 47 9,
 Um 46 48 20 47, Xz 46 49 48 2, kk 50 46 49, ab 51 50, iv 51 52 9, Um 51 53 21 52, Xz 51 54 53 0, kk 55 51 54] (cz 55 (ak [gz 6] .ret) .skip)
def f6_3 : IR := .seq (ak [ab 56 11, ab 57 1, di 58 57, kx 59 56 58] (cz 59 .skip (.exit 2))) (.seq (.block 3 (.draw [(ab 62 9,.p), (ab 63 1,.p),
 (ab 64 11,.p), (ix 65 1 63 64, .r 0 0), (ay 66 65, .r 0 0), (acr 67 66 16,.p), (⟨none, some 68, .bin .add (.c (vi .u8 97)) (.t 67)⟩, .p), (aah 69 68, .r 0 0),
 (Pu 70 69, .r 0 0), (ab 71 1,.p), (ab 72 11,.p), (ix 73 1 71 72, .r 0 0), (ay 74 73, .r 0 0), (aah 75 74, .r 0 0), (agw 76 70 75,.p), (ahc 77 76, .r 0 0),
 (uq 78 14 62 77,.k)])) (.reg [ab 60 11, ge 61 60 1, ab 11 61]))
def f6_4 : IR := .seq (ak [ab 26 8, qo 27 26 2] (cz 27 .skip (.exit 0))) (.seq (.block 1 (.seq f6_1 (ak [ab 34 7, lj 35 13 34, ab 33 35, bj 36 33 0,
 bj 37 33 1, ab 9 36, ab 10 37] (.seq f6_2 (ak [bu 11 0] (.block 2 (.loop f6_3))))))) (.reg [ab 28 8, ge 29 28 1, ab 8 29]))
def f6 : FnIR := ⟨98, [.t 6], ak [gz 6] (ak [ab 15 0, iy 16 22 15, lj 17 10 16,
 ab 7 17] (.seq f6_0 (.seq (ak [bu 8 0] (.block 0 (.loop f6_4))) (ak [ab 79 2, acr 80 79 64, th 81 80, lj 82 10 81, ab 12 82] (ak [ab 84 12,
 lj 85 13 84, ab 83 85, bj 86 83 0, bj 87 83 1, ab 13 86, ab 14 87] (ak [ab9 88 12, ab 89 88, jd 89 90 12, Ry 89 91 11 90, Wv 89 92 91 20,
 lz 93 89 92, ab 94 93, jd 94 95 14, Wv 94 96 95 20, lz 97 94 96, ab 6 97] .ret))))))⟩
def f10_0 : IR := ak [ab 3 0, qo 4 3 0, ab 5 4, iv 5 6 0, Bp 5 7 6 4096, kk 8 5 7] (cz 8 (ak [Gq] .ret) .skip)
def f10 : FnIR := ⟨13, [.t 2], ak [Gq] (.seq f10_0 (ak [ab 9 0, ⟨none, some 10, .mks 64 64 (List.replicate 64 (.sc (.int .u8 0))) (.t 9) (.t 9) true⟩, ⟨none, some 11,
 .build [.cv (.sc (.slice none 0 0)), .cv (.sc (.slice none 0 0)), .cv (.sc (.complex .f64 0 0)), .cv (.sc (.bool false)), .cv (.sc (.int .i64 0))] [(0, (1, .t 10))]⟩,
 sk 12 5 11, ab 2 12] .ret))⟩
def f11_0 : IR := ak [ab 8 0, lj 9 29 8, qo 10 9 64] (cz 10 (ak [dl 2 20] .ret) .skip)
def f11_1 : IR := cz 20 .skip (.exit 0)
def f11_2 : IR := ak [kx 20 19 18] (.seq f11_1 (.seq (.block 1 (ak [ab 21 19, ab 5 21] (.reg [ab 22 0, ab 23 5, ⟨none, some 24, .call 31 false [.t 22, .t 23,
 .c Tb]⟩]))) (.reg [ge 25 19 1, ab 19 25])))
def f11 : FnIR := ⟨38, [.t 2], ak [dl 2 0] (.seq f11_0 (ak [ab 12 0, lj 13 29 12, iy 14 30 13, ab 11 14, bj 15 11 0, bj 16 11 1, ab 3 15,
 ab 4 16] (.seq (ak [ab 17 3, Br 18 2 17, bu 19 0] (.block 0 (.loop f11_2))) (ak [ab 26 0, lj 27 32 26] (ak [ab 29 0, Ju 30 29, ⟨none, some 31,
 .call 33 false [.t 30, .c Tb]⟩, ab 28 31, bj 32 28 0, bj 33 28 1, ab 6 32, ab 7 33] (ak [ab 34 0, Ju 35 34, ab 36 6, ⟨none, some 37,
 .call 34 false [.t 35, .t 36, .c (vi .i64 0), .c (vi .i64 1)]⟩] (ak [dl 2 0] .ret)))))))⟩
def f12_0 : IR := ak [ab 11 3, Eh 12 11, ab 13 12, iv 13 14 3, Um 13 15 11 14, ⟨some (13, false), some 16, .bin .neq (.t 15) (.c (vi .u16 0))⟩,
 kk 17 13 16] (cz 17 (ak [gz 0] .ret) .skip)
def f12 : FnIR := ⟨57, [.t 0], ak [gz 0] (ak [⟨none, some 7, .call 30 true [.c (vi .i64 64)]⟩, ab 6 7, bj 8 6 0, bj 9 6 1, ab 1 8, ab 2 9] (ak [⟨none,
 some 10, .call 10 false [.c (vi .i64 64)]⟩, ab 3 10] (.seq f12_0 (ak [ab 19 3, lj 20 13 19, ab 18 20, bj 21 18 0, bj 22 18 1, ab 4 21,
 ab 5 22] (ak [ab 23 1, Bq 24 23 16, ab 25 24, jd 25 26 2, Us 25 27 26 5, lz 28 25 27, ab 29 28, jd 29 30 5, Wv 29 31 30 0, lz 32 29 31,
 ab 33 32, jd 33 34 4, Ry 33 35 20 34, Us 33 36 35 2, lz 37 33 36, ab 38 37, jd 38 39 4, Ry 38 40 16 39, acv 38 41 40, Us 38 42 41 0, lz 43 38 42,
 ab 44 43, jd 44 45 4, ⟨some (44, true), some 46, .build [.cv (.sc (.string ⟨#[]⟩)), .cv (.sc (.slice none 0 0)), .cv (.sc (.bool false))] [(0, (1,
 .c (.cv (.sc (.string ⟨#[97]⟩)))))]⟩, ⟨some (44, true), some 47, .mksl 3 1 [.cv (.sc (.string ⟨#[]⟩)), .cv (.sc (.slice none 0 0)), .cv (.sc (.bool false))] [(0, (3,
 .t 46))] false⟩, ⟨some (44, true), some 48, .call 14 false [.t 45, .t 47]⟩, Wv 44 49 48 0, lz 50 44 49, ab 51 50, jd 51 52 4, Ry 51 53 16 52, acv 51 54 53,
 Us 51 55 54 1, lz 56 51 55, ab 0 56] .ret)))))⟩
def f13_0 : IR := ak [ab 17 0, lj 18 29 17, qo 19 18 64] (cz 19 (ak [Gq, dl 3 20] .ret) .skip)
def f13_1 : IR := ak [ab 26 5, og 27 26] (cz 27 (ak [Gq, dl 3 11] .ret) .skip)
def f13_2 : IR := ak [ab 35 7, Bt 36 35] (cz 36 (ak [ab 37 7, Gq, ab 3 37] .ret) .skip)
def f13_3 : IR := cz 57 .skip (.exit 0)
def f13_4 : IR := ak [kx 57 56 55] (.seq f13_3 (.seq (.block 1 (ak [ix 58 1 54 56, ay 59 58, ab 13 59] (.reg [ab 60 6, ab 61 13, Bu 62 39 60 61,
 ab 6 62]))) (.reg [ge 63 56 1, ab 56 63])))
def f13 : FnIR := ⟨87, [.t 2, .t 3], ak [Gq, dl 3 0] (.seq f13_0 (ak [ab 21 0, Ju 22 21, lj 23 35 22, ab 20 23, bj 24 20 0, bj 25 20 1, Gs 4,
 co 3 4 24, ab 5 25] (.seq f13_1 (ak [ab 29 0, Ju 30 29, jc 31 3 4, uq 32 36 30 31, ab 28 32, bj 33 28 0, bj 34 28 1, ab 6 33,
 ab 7 34] (.seq f13_2 (ak [ab 39 0, lj 40 29 39, iy 41 30 40, ab 38 41, bj 42 38 0, bj 43 38 1, ab 8 42, ab 9 43] (.seq (.draw [(bo 45 0 4,.p),
 (ay 46 45, Ay), (ab 47 0,.p), (Ju 48 47,.p), (ab 49 8,.p), (⟨none, some 50, .call 38 false [.t 48, .c (vi .i64 2), .t 49]⟩, .k), (Bu 51 37 46 50,.k),
 (ab 44 51,.p), (bj 52 44 0,.p), (bj 53 44 1,.p), (ab 10 52,.p), (ab 11 53,.p)]) (.seq (ak [ab 54 10, di 55 54,
 bu 56 0] (.block 0 (.loop f13_4))) (.seq (ak [ab 65 0, Ju 66 65, ab 67 6, uq 68 33 66 67, ab 64 68, bj 69 64 0, bj 70 64 1, ab 14 69,
 ab 15 70] (.block 2 (ak [ab 72 15, og 73 72, ab 71 73] (cz 71 (ak [Gq, dl 3 21] .ret) (ak [bo 75 0 4, ay 76 75, Bq 77 76 1073741824,
 ab 74 77] (cz 74 (ak [Gq, dl 3 32] .ret) .skip)))))) (ak [ab 78 0, Ju 79 78, ab 80 6, jc 81 3 4, ⟨none, some 82, .build [.cv (.sc .nilIface),
 .cv (.sc (.slice none 0 0)), .cv (.sc (.int .i64 0)), .cv (.sc (.int .i64 0)), .cv (.sc (.int .i64 0)), .cv (.sc (.int .i64 0)), .cv (.sc (.int .i64 0))] [(0, (1, .t 79)), (1, (1,
 .t 80)), (2, (3, .t 81))]⟩, sk 83 7 82, ab 16 83] (ak [ab 84 16, ab 85 16, lj 86 15 85, ab 2 84, ab 3 86] .ret)))))))))))⟩
def f14_0 : IR := ak [ab 63 9, og 64 63, ab 65 64, iv 65 66 11, Rh 65 67 66, kk 68 65 67, ab 69 68, iv 69 70 10, Ax 69 71 70, iv 69 72 6,
 acw 69 73 71 72, kk 74 69 73] (cz 74 (ak [dl 4 21] .ret) .skip)
def f14_1 : IR := ak [ab 75 0, eh 76 75, bo 77 5 76, ay 78 77, ab 79 10, di 80 79, mj 81 78 80, ab 82 6, Ts 83 81 82] (cz 83 (.seq (ak [ab 84 0,
 lj 85 15 84, ab 12 85] (ak [ab 86 12, Bt 87 86] (cz 87 (ak [ab 88 12, ab 4 88] .ret) .skip))) (.draw [(ab 90 0,.p), (eh 91 90,.p), (bo 92 2 91,.p),
 (bo 93 0 92,.p), (ay 94 93, .r 0 0), (ab 95 0,.p), (eh 96 95,.p), (bo 97 6 96,.p), (ay 98 97, .r 0 0), (ab 99 1,.p), (afd 100 19 94 98 99, .r 0 0),
 (ab 89 100,.p), (bj 101 89 0,.p), (bj 102 89 1,.p), (ab 10 101,.p)])) .skip)
def f14_2 : IR := cz 106 .skip (.exit 1)
def f14_3 : IR := ak [kx 106 105 104] (.seq f14_2 (.seq (.block 2 (ak [ab 107 105, ix 108 1 103 105, ay 109 108, ab 13 107,
 ab 14 109] (.draw [(ab 110 0,.p), (eh 111 110,.p), (bo 112 0 111,.p), (ay 113 112, .r 0 0), (ab 114 0,.p), (eh 115 114,.p), (bo 116 5 115,.p),
 (ay 117 116, .r 0 0), (Br 118 2 117,.p), (ab 119 13,.p), (mj 120 118 119,.p), (ab 121 14,.p), (eh 122 113,.p), (ab 123 113,.p),
 (adt 124 123 120 121,.k)]))) (.reg [ge 125 105 1, ab 105 125])))
def f14 : FnIR := ⟨152, [.t 4], ak [dl 4 0] (.seq (.block 0 (ak [ab 16 0, Eh 17 16, ab 15 17] (cz 15 (ak [dl 4 30] .ret) (ak [ab 19 1, di 20 19,
 Bq 21 20 0, ab 18 21] (cz 18 (ak [dl 4 0] .ret) (ak [ab 23 1, ⟨none, some 24, .call 40 true [.t 23, .c (.func 41 [])]⟩,
 ab 22 24] (cz 22 (ak [dl 4 3] .ret) .skip))))))) (ak [ab 25 0, eh 26 25, bo 27 1 26, ay 28 27, ab 29 1, Bu 30 39 28 29, ab 5 30] (ak [ab 32 0,
 eh 33 32, bo 34 0 33, ay 35 34, Wy 36 35, iy 37 30 36, ab 31 37, bj 38 31 0, bj 39 31 1, ab 6 38, ab 7 39] (ak [ab 41 0, eh 42 41,
 bo 43 0 42, ay 44 43, ab 45 5, uq 46 33 44 45, ab 40 46, bj 47 40 0, bj 48 40 1, ab 8 47, ab 9 48] (.seq (.draw [(ab 50 0,.p), (eh 51 50,.p),
 (bo 52 2 51,.p), (bo 53 0 52,.p), (ay 54 53, .r 0 0), (ab 55 0,.p), (eh 56 55,.p), (bo 57 6 56,.p), (ay 58 57, .r 0 0), (ab 59 1,.p), (afd 60 19 54 58 59,
 .r 0 0), (ab 49 60,.p), (bj 61 49 0,.p), (bj 62 49 1,.p), (ab 10 61,.p), (ab 11 62,.p)]) (.seq f14_0 (.seq f14_1 (.seq (ak [ab 103 10, di 104 103,
 bu 105 0] (.block 1 (.loop f14_3))) (ak [ab 126 0, eh 127 126, bo 128 0 127, ay 129 128, aei 130 129] (ak [ab 131 0, ab 132 0, ab 133 5, ab 134 0,
 eh 135 134, bo 136 5 135, ay 137 136, ab 138 10, di 139 138, mj 140 137 139, eh 141 131, bo 142 1 141, co 1 142 133, eh 143 132, bo 144 5 143,
 co 1 144 140] (ak [ab 145 0, eh 146 145, bo 147 6 146, ay 148 147, ge 149 148 1, eh 150 145, bo 151 6 150,
 co 1 151 149] (ak [dl 4 0] .ret))))))))))))⟩
def f15 : FnIR := ⟨54, [.t 2], ak [dl 2 0] (.seq (.block 0 (ak [ab 6 0, Eh 7 6, ab 5 7] (cz 5 (ak [dl 2 30] .ret) (ak [ab 9 0, eh 10 9, bo 11 2 10,
 bo 12 0 11, ay 13 12, Bq 14 13 1073741824, ab 8 14] (cz 8 (ak [dl 2 32] .ret) .skip))))) (.seq (.draw [(ab 16 0,.p), (eh 17 16,.p), (bo 18 0 17,.p),
 (ay 19 18, .r 0 0), (ab 20 0,.p), (eh 21 20,.p), (bo 22 1 21,.p), (ay 23 22, .r 0 0), (uq 24 33 19 23,.k), (ab 15 24,.p), (bj 25 15 0,.p),
 (bj 26 15 1,.p), (ab 3 25,.p), (ab 4 26,.p)]) (.seq (.draw [(ab 27 0,.p), (ab 28 0,.p), (eh 29 28,.p), (bo 30 0 29,.p), (ay 31 30, .r 0 0), (ab 32 3,.p),
 (ab 33 0,.p), (eh 34 33,.p), (bo 35 2 34,.p), (bo 36 1 35,.p), (ay 37 36, .r 0 0), (adf 38 1 37,.p), (ab 39 0,.p), (eh 40 39,.p), (bo 41 2 40,.p),
 (bo 42 0 41,.p), (ay 43 42, .r 0 0), (ge 44 43 1,.p), (⟨none, some 45, .call 34 false [.t 31, .t 32, .t 38, .t 44]⟩,.k), (eh 46 27,.p), (bo 47 2 46,.p),
 (co 3 47 45,.k)]) (ak [ab 48 0, ab 49 0, eh 50 48, bo 51 5 50, afh 51, eh 52 49, bo 53 6 52, afh 53] (ak [dl 2 0] .ret)))))⟩
def f16_0 : IR := ak [ab 3 0, Eh 4 3] (cz 4 (ak [db 2] .ret) .skip)
def f16 : FnIR := ⟨10, [.t 2], ak [db 2] (.seq f16_0 (ak [ab 5 0, eh 6 5, bo 7 1 6, ay 8 7, iy 9 42 8, ab 2 9] .ret))⟩
def f19_0 : IR := ak [ab 16 0, iy 17 47 16, og 18 17, ab 19 18, iv 19 20 1, ⟨some (19, false), some 21, .call 47 true [.t 20]⟩, Rh 19 22 21, kk 23 19 22,
 ab 24 23, iv 24 25 8, Ax 24 26 25, Bp 24 27 26 200, kk 28 24 27] (cz 28 (ak [db 6, gz 7] .ret) .skip)
def f19_1 : IR := cz 32 .skip (.exit 0)
def f19_2 : IR := ak [kx 32 31 30] (.seq f19_1 (.seq (.block 1 (ak [ab 33 31, ix 34 1 29 31, ay 35 34, ab 10 33, ab 11 35] (.reg [ab 36 9, ab 37 0,
 ab 38 1, ab 39 10, ab 40 8, di 41 40, ab 42 11, ⟨none, some 43, .call 48 true [.t 37, .t 38, .t 39, .t 41, .t 42]⟩, Sc 44 43, Vo 45 36 44,
 ab 9 45]))) (.reg [ge 46 31 1, ab 31 46])))
def f19 : FnIR := ⟨48, [.t 6, .t 7], ak [db 6, gz 7] (ak [ab 12 2, iy 13 46 12, Vk 14 45 13 49, lj 15 44 14,
 ab 8 15] (.seq f19_0 (ak [db 9] (.seq (ak [ab 29 8, di 30 29, bu 31 0] (.block 0 (.loop f19_2))) (ak [ab 47 9, ab 6 47, Iu 7] .ret)))))⟩
def f20_0 : IR := ak [ab 3 0, Eh 4 3] (cz 4 (ak [bu 2 0] .ret) .skip)
def f20 : FnIR := ⟨10, [.t 2], ak [bu 2 0] (.seq f20_0 (ak [ab 5 0, eh 6 5, bo 7 2 6, bo 8 0 7, ay 9 8, ab 2 9] .ret))⟩
def f21_0 : IR := ak [ab 3 0, Eh 4 3] (cz 4 (ak [bu 2 0] .ret) .skip)
def f21 : FnIR := ⟨9, [.t 2], ak [bu 2 0] (.seq f21_0 (ak [ab 5 0, eh 6 5, bo 7 5 6, ay 8 7, ab 2 8] .ret))⟩
def f22 : FnIR := ⟨8, [.t 2], ak [bu 2 0] (ak [⟨none, some 3, .mksl 1 6 [.cv (.sc (.int .i64 0)), .cv (.sc (.int .i64 0)), .cv (.sc (.int .i64 0)), .cv (.sc (.int .i64 0)),
 .cv (.sc (.int .i64 0)), .cv (.sc (.int .i64 0))] [(0, (1, .c (vi .i64 64))), (1, (1, .c (vi .i64 65))), (2, (1, .c (vi .i64 80))), (3, (1, .c (vi .i64 100))), (4, (1,
 .c (vi .i64 128))), (5, (1, .c (vi .i64 200)))] false⟩, ab 4 0, acr 5 4 6, ix 6 1 3 5, ay 7 6, ab 2 7] .ret)⟩
def f29_0 : IR := ak [ab 3 0, Eh 4 3] (cz 4 (ak [bu 2 0] .ret) .skip)
def f29 : FnIR := ⟨10, [.t 2], ak [bu 2 0] (.seq f29_0 (ak [ab 5 0, eh 6 5, bo 7 0 6, ay 8 7, di 9 8, ab 2 9] .ret))⟩
def f30_0 : IR := ak [ab 5 0, qo 6 5 64] (cz 6 (ak [bu 2 0, bu 3 0] .ret) .skip)
def f30 : FnIR := ⟨15, [.t 2, .t 3], ak [bu 2 0, bu 3 0] (.seq f30_0 (ak [ab 7 0, aia 8 7 4, ab 4 8] (ak [ab 9 4, ab 10 0, Xb 11 10 2, ab 12 4,
 Pm 13 11 12, aia 14 13 8, ab 2 9, ab 3 14] .ret)))⟩
def f31_0 : IR := ak [ab 17 0, lj 18 57 17, og 19 18] (cz 19 (ak [dl 6 0] .ret) .skip)
def f31 : FnIR := ⟨43, [.t 6], ak [dl 6 0] (.seq (.block 0 (ak [ab 9 0, ab 10 1, uq 11 56 9 10, og 12 11,
 ab 8 12] (cz 8 (ak [dl 6 20] .ret) (ak [ab 14 2, di 15 14, Jc 16 15 64, ab 13 16] (cz 13 (ak [dl 6 3] .ret) .skip))))) (.seq f31_0 (ak [ab 20 1,
 ⟨none, some 21, .build ((.cv (.sc (.int .i64 0))) :: List.replicate 64 (.cv (.sc (.int .u8 0)))) [(0, (1, .t 20))]⟩, ⟨none, some 7,
 .alloc ((.cv (.sc (.int .i64 0))) :: List.replicate 64 (.cv (.sc (.int .u8 0))))⟩, co 65 7 21] (ak [bo 22 1 7, Kl 23 64 22, ab 24 2,
 Ii 25 1 23 24] (.seq (.draw [(ab 26 0,.p), (ab 27 0,.p), (eh 28 27,.p), (bo 29 1 28,.p), (ay 30 29, .r 0 0), (jc 31 65 7, .r 0 0), (⟨none, some 32,
 .mksl 65 1 ((.cv (.sc (.int .i64 0))) :: List.replicate 64 (.cv (.sc (.int .u8 0)))) [(0, (65, .t 31))] false⟩, .r 0 0), (⟨none, some 33,
 .app 65 72 ((.sc (.int .i64 0)) :: List.replicate 64 (.sc (.int .u8 0))) (.t 30) (.t 32)⟩, .k), (eh 34 26,.p), (bo 35 1 34,.p), (co 1 35 33,.k)]) (ak [ab 36 0,
 eh 37 36, bo 38 2 37, ay 39 38, ahe 40 39 4607182418800017408 0, eh 41 36, bo 42 2 41, co 1 42 40] (ak [dl 6 0] .ret)))))))⟩
def f32_0 : IR := ak [ab 2 0, Eh 3 2, ab 4 3, iv 4 5 0, Um 4 6 57 5, Rh 4 7 6, kk 8 4 7] (cz 8 .ret .skip)
def f32 : FnIR := ⟨18, [], .seq f32_0 (ak [ab 9 0, ⟨none, some 10, .call 54 false [.t 9, .c (.func 58 [])]⟩] (.reg [ab 11 0, eh 12 11, bo 13 2 12, ay 14 13,
 ahe 15 14 0 4607182418800017408, eh 16 11, bo 17 2 16, co 1 17 15]))⟩
def f33 : FnIR := ⟨29, [.t 4, .t 5], ak [db 4, gz 5] (ak [ab 11 0, Wy 12 11, iy 13 30 12, ab 10 13, bj 14 10 0, bj 15 10 1, ab 6 14,
 ab 7 15] (ak [ab 17 1, iy 18 59 17, ab 16 18, bj 19 16 0, bj 20 16 1, ab 8 19, ab 9 20] (ak [ab 21 8, ab 22 9, ab 23 22, jd 23 24 8,
 acv 23 25 24, jd 23 26 7, ada 23 27 25 26, lz 28 23 27, ab 4 21, ab 5 28] .ret)))⟩
def f34_0 : IR := .reg [ab 10 18]
def f34_1 : IR := .block 1 (ak [ay 19 4, ay 20 9, ab 21 10, adt 22 19 20 21] (.reg [ay 23 9, ge 24 23 1, co 1 9 24]))
def f34 : FnIR := ⟨44, [.cell 8 true 3], ak [sk 4 1 0, Gs 8] (ak [ay 12 4, ab 13 2, uq 14 60 12 13, aix, co 1 9 14] (.seq (ak [ab 15 1, iy 16 61 15,
 Vk 17 45 16 64] (.block 0 (.rangeF (.t 17) [18] f34_0 f34_1))) (ak [ay 25 4, aei 26 25] (ak [ab 27 3, ab 28 2, ab 29 1, di 30 29, af1 31 27 28 30,
 Gs 11, co 3 11 31] (.seq (.draw [(ay 32 4, .r 0 0), (ab 33 3,.p), (⟨none, some 34, .bin .rem (.t 33) (.c (vi .i64 2))⟩, .p), (jc 35 3 11, .r 0 0), (iy 36 62 35,
 .r 0 0), (⟨none, some 37, .mkmv "Write" (.t 32)⟩, .p), (⟨none, some 38, .nilckM "Write" [23] (.t 37)⟩, .p), (ab 39 32,.p), (adt 40 39 34 36,.k)]) (ak [ay 41 4,
 aei 42 41] (ak [jc 43 3 11, co 3 8 43] .ret)))))))⟩
def f35_0 : IR := ak [ab 18 7, ab 19 18, jd 19 20 5, ⟨some (19, true), some 21, .un .not (.t 20)⟩, jd 19 22 21, aat 22 23 0 6, Qm 22 24 23, aat 22 25 0 4,
 Qm 22 26 25, acw 22 27 24 26, ⟨some (19, true), some 28, .pick (.t 22) (.c Zy) (.t 27)⟩, lz 29 19 28] (cz 29 (ak [jc 30 3 6, co 3 2 30, Iu 3] .ret) .skip)
def f35 : FnIR := ⟨33, [.cell 2 true 3, .t 3], ak [Gs 2, gz 3] (ak [ab 9 0, Vk 10 63 9 0, ab 8 10, bj 11 8 0, bj 12 8 1, Gs 4, co 3 4 11,
 ab 5 12] (ak [ab 14 0, Vk 15 63 14 1, ab 13 15, bj 16 13 0, bj 17 13 1, Gs 6, co 3 6 16, ab 7 17] (.seq f35_0 (ak [jc 31 3 4, ab 32 5,
 co 3 2 31, ab 3 32] .ret))))⟩
def f36 : FnIR := ⟨23, [.t 4, .t 5], ak [sk 3 3 1, db 4, dl 5 0] (.seq (.draw [(ab 7 0,.p), (ab 8 0,.p), (bo 9 1 3,.p), (ay 10 9, .r 0 0),
 (uq 11 60 8 10,.k), (bo 12 2 3,.p), (ay 13 12, Ay), (aik 14 13,.p), (Zl 15 38 7 11 14,.k), (iy 16 61 15,.k), (ab 6 16,.p)]) (ak [ab 17 6,
 Vk 18 45 17 256, lj 19 44 18, iy 20 64 19, bj 21 20 0, bj 22 20 1, ab 4 21, ab 5 22] .ret))⟩
def f37_0 : IR := ak [ab 22 9, Bq 23 22 0] (cz 23 (.exit 0) .skip)
def f37_1 : IR := .seq (ak [ab 10 0, iy 11 47 10] (cz 11 .skip (.exit 0))) (.block 1 (ak [ab 13 0, ab 14 6, di 15 14, ab 16 1, ab 17 7, ve 18 1 16 17,
 Zl 19 65 13 15 18, ab 12 19, bj 20 12 0, bj 21 12 1, ab 8 20, ab 9 21] (.seq f37_0 (.reg [ab 24 6, ab 25 8, Sc 26 25, Vo 27 24 26, ab 28 7,
 ab 29 9, mj 30 28 29, ab 6 27, ab 7 30]))))
def f37 : FnIR := ⟨33, [.t 4, .t 5], ak [db 4, bu 5 0] (ak [db 6] (ak [bu 7 0] (.seq (.block 0 (.loop f37_1)) (ak [ab 31 6, ab 32 7, ab 4 31,
 ab 5 32] .ret))))⟩
def f38_0 : IR := cz 13 .skip (.exit 0)
def f38_1 : IR := ak [kx 13 12 11] (.seq f38_0 (.seq (.block 1 (ak [ab 14 12, ab 8 14] (ak [ab 16 0, ab 17 1, ab 18 8, mj 19 17 18, ⟨none, some 20,
 .inv [(23, 119)] (.t 16) [.t 19]⟩, ab 15 20, bj 21 15 0, bj 22 15 1, ab 9 21, ab 10 22] (.reg [ab 23 7, ab 24 9, Sc 25 24, Vo 26 23 25,
 ab 7 26])))) (.reg [ge 27 12 1, ab 12 27])))
def f38 : FnIR := ⟨29, [.t 6], ak [db 6] (ak [db 7] (.seq (ak [ab 11 2, bu 12 0] (.block 0 (.loop f38_1))) (ak [ab 28 7, ab 6 28] .ret)))⟩
def f39_0 : IR := cz 14 .skip (.exit 0)
def f39_1 : IR := ak [bo 20 2 7, ay 21 20] (cz 21 (.exit 1) .skip)
def f39_2 : IR := ak [ab 25 8, qo 26 25 0] (cz 26 (.reg [ab 27 5, di 28 27, ab 8 28]) .skip)
def f39_3 : IR := ak [kx 14 13 12] (.seq f39_0 (.seq (.block 1 (ak [ix 15 3 11 13, jc 16 3 15, aaz 7, co 3 7 16] (ak [ab 17 5, adh 18 68 7,
 uq 19 67 17 18, ab 5 19] (.seq f39_1 (ak [ab 22 5, adh 23 69 7, uq 24 50 22 23, ab 8 24] (.seq f39_2 (.draw [(ab 29 5,.p), (ab 30 8,.p), (bo 31 0 7,.p),
 (ay 32 31, .r 0 0), (bo 33 1 7,.p), (ay 34 33, .r 0 0), (iy 35 52 34, .r 0 0), (ah5 36 32 35,.p), (ac3 37 36, .r 0 0), (Zl 38 70 29 30 37,.k),
 (ab 5 38,.p)]))))))) (.reg [ge 39 13 1, ab 13 39])))
def f39 : FnIR := ⟨41, [.t 4], ak [db 4] (ak [ab 9 0, lj 10 66 9, ab 5 10] (.seq (ak [ab 11 1, di 12 11,
 bu 13 0] (.block 0 (.loop f39_3))) (ak [ab 40 5, ab 4 40] .ret)))⟩
def f40 : FnIR := ⟨9, [.t 4], ak [gz 4] (ak [ab 5 0, ab 6 1, Bu 7 71 5 6, Sd 8 7 0, ab 4 8] .ret)⟩
def f41 : FnIR := ⟨13, [.t 2], ak [sk 1 3 0, gz 2] (ak [bo 3 0 1, ay 4 3, afj 5 4, Jc 6 5 30, ab 7 6, aat 7 8 1 1, Qm 7 9 8, Ax 7 10 9,
 Bp 7 11 10 150, kk 12 7 11, ab 2 12] .ret)⟩
def f42_0 : IR := cz 11 .skip (.exit 0)
def f42_1 : IR := ak [kx 11 10 9] (.seq f42_0 (.seq (.block 1 (ak [ab 12 10, ix 13 2 8 10, jc 14 2 13, Jx 5, ab 4 12, co 2 5 14] (.reg [ab 15 3,
 ab 16 4, bo 17 1 5, ay 18 17, iy 19 52 18, ix 20 2 15 16, bo 21 1 20, co 1 21 19]))) (.reg [ge 22 10 1, ab 10 22])))
def f42 : FnIR := ⟨24, [.t 2], ak [db 2] (ak [ab 6 0, lj 7 66 6, ab 3 7] (.seq (ak [ab 8 3, di 9 8, bu 10 0] (.block 0 (.loop f42_1))) (ak [ab 23 3,
 ab 2 23] .ret)))⟩
def f44 : FnIR := ⟨5, [.t 2], ak [db 2] (ak [ab 3 0, agp 4 72 3, ab 2 4] .ret)⟩
def f45_0 : IR := ak [ay 5 3, qo 6 5 1] (cz 6 (.reg [⟨none, some 7, .mkif 9 (.c (.cv (.sc (.string ⟨#[99, 97, 110, 110, 111, 116, 32, 98, 101, 32, 108, 101, 115, 115, 32,
 116, 104, 97, 110, 32, 49]⟩))))⟩, acx 7]) .skip)
def f45 : FnIR := ⟨9, [.t 4], ak [sk 2 1 0, sk 3 1 1, ag4 4] (.seq f45_0 (ak [⟨none, some 8, .mkfn 73 [.t 2, .t 3]⟩, ab 4 8] .ret))⟩
def f46_0 : IR := cz 12 .skip (.exit 0)
def f46_1 : IR := ak [bo 20 2 5, ay 21 20] (cz 21 (ak [ab 22 3, agq 23 1, wg 24 22 23, ab 3 24] (.exit 1)) .skip)
def f46_2 : IR := ak [kx 12 11 10] (.seq f46_0 (.seq (.block 1 (ak [ix 13 3 9 11, jc 14 3 13, aaz 5, co 3 5 14] (ak [ab 15 3, bo 16 0 5, ay 17 16,
 iy 18 75 17, wg 19 15 18, ab 3 19] (.seq f46_1 (ak [ab 25 3, agq 26 0, wg 27 25 26, ab 3 27] (.reg [ab 28 3, bo 29 1 5, ay 30 29, Pu 31 30,
 iy 32 75 31, wg 33 28 32, ab 3 33])))))) (.reg [ge 34 11 1, ab 11 34])))
def f46 : FnIR := ⟨36, [.t 2], ak [db 2] (ak [ab 6 0, di 7 6, lj 8 74 7, ab 3 8] (.seq (ak [ab 9 0, di 10 9,
 bu 11 0] (.block 0 (.loop f46_2))) (ak [ab 35 3, ab 2 35] .ret)))⟩
def f47 : FnIR := ⟨9, [.t 2], ak [gz 2] (ak [ab 3 0, Sd 4 3 0, ab 5 4, jd 5 6 0, abz 5 7 6 1073741824, lz 8 5 7, ab 2 8] .ret)⟩
def f48 : FnIR := ⟨33, [.t 10], ak [db 10] (ak [⟨none, some 11, .alloc (List.replicate 60 (.cv (.sc (.int .u8 0))))⟩] (ak [Kl 12 60 11, ab 13 0,
 uq 14 76 12 13] (ak [aje 15 4, ab 16 1, uq 17 76 15 16] (ak [ab 18 2, py 19 18, ab 20 3, py 21 20, ab 22 4, di 23 22, py 24 23,
 Gh 25 60 11 8, co 1 25 19, Gh 26 60 11 9, co 1 26 21, Gh 27 60 11 10, co 1 27 24] (ak [aje 28 11, ab 29 4, Ii 30 1 28 29] (ak [Kl 31 60 11,
 iy 32 77 31, ab 10 32] .ret))))))⟩
def f50_0 : IR := cz 9 .skip (.exit 0)
def f50_1 : IR := ak [kx 9 8 7] (.seq f50_0 (.seq (.block 1 (ak [ab 10 8, ab 5 10] (ak [ab 11 1, ab 12 0, ab 13 5, ix 14 2 12 13, jc 15 2 14,
 Sl 16 11 15] (cz 16 (ak [ab 17 5, ab 4 17] .ret) .skip)))) (.reg [ge 18 8 1, ab 8 18])))
def f50 : FnIR := ⟨19, [.t 4], ak [bu 4 0] (.seq (ak [ab 6 0, di 7 6, bu 8 0] (.block 0 (.loop f50_1))) (ak [bu 4 (-1)] .ret))⟩
def f52_0 : IR := ak [ab 3 0, ag8] (cz 4 (ak [db 2] .ret) .skip)
def f52 : FnIR := ⟨8, [.t 2], ak [db 2] (.seq f52_0 (ak [⟨none, some 5, .mksl 1 0 [] [] false⟩, ab 6 0, wg 7 5 6, ab 2 7] .ret))⟩
def f53 : FnIR := ⟨14, [.t 2], ak [gz 2] (ak [ab 3 0, eh 4 3, bo 5 3 4, ay 6 5, ab 7 6, jd 7 8 0, ⟨some (7, true), some 9, .nilck (.t 8)⟩, Jh 7 10 4 9,
 Lj 7 11 10, Us 7 12 11 0, lz 13 7 12, ab 2 13] .ret)⟩
def f54_0 : IR := cz 12 .skip (.exit 0)
def f54_1 : IR := ak [kx 12 11 10] (.seq f54_0 (.seq (.block 1 (ak [ab 13 11, ix 14 65 9 11, jc 15 65 14, ⟨none, some 5,
 .alloc ((.cv (.sc (.int .i64 0))) :: List.replicate 64 (.cv (.sc (.int .u8 0))))⟩, ab 4 13, co 65 5 15] (ak [ab 16 1, ab 17 4,
 Sl 18 16 17] (cz 18 (.draw [(ab 19 0,.p), (eh 20 19,.p), (bo 21 0 20,.p), (ay 22 21, .r 0 0), (bo 23 0 5,.p), (ay 24 23, .r 0 0), (bo 25 1 5,.p),
 (jc 26 64 25, .r 0 0), (ix 27 64 22 24, .r 0 0), (co 64 27 26,.k)]) .skip)))) (.reg [ge 28 11 1, ab 11 28])))
def f54 : FnIR := ⟨32, [], .seq (ak [ab 6 0, eh 7 6, bo 8 1 7, ay 9 8, di 10 9, bu 11 0] (.block 0 (.loop f54_1))) (.reg [ab 29 0, eh 30 29, bo 31 1 30,
 ahf 31])⟩
def f56 : FnIR := ⟨13, [.t 4], ak [gz 4] (ak [ab 5 1, Sd 6 5 0, ab 7 6, jd 7 8 1, jd 7 9 0, Ry 7 10 29 9, ⟨some (7, true), some 11,
 .bin .lss (.t 8) (.t 10)⟩, lz 12 7 11, ab 4 12] .ret)⟩
def f57_0 : IR := ak [ab 3 0, lj 4 53 3] (cz 4 (ak [gz 2] .ret) .skip)
def f57 : FnIR := ⟨12, [.t 2], ak [gz 2] (.seq f57_0 (ak [ab 5 0, eh 6 5, bo 7 4 6, ay 8 7, Xb 9 8 1, eh 10 5, bo 11 4 10,
 co 1 11 9] (ak [Iu 2] .ret)))⟩
def f58 : FnIR := ⟨3, [.t 2], ak [gz 2] (ak [Iu 2] .ret)⟩
def f59_0 : IR := ak [ab 8 0, iy 9 78 8, og 10 9, ab 11 10, iv 11 12 0, Ax 11 13 12, Bp 11 14 13 5000, kk 15 11 14] (cz 15 (ak [db 2,
 gz 3] .ret) .skip)
def f59_1 : IR := .seq (ak [ab 18 5, ⟨none, some 19, .bin .leq (.t 18) (.c (vi .i64 4))⟩] (cz 19 .skip (.exit 0))) (.seq (.block 1 (ak [ab 23 4, ab 24 5, ab 25 0,
 Zl 26 79 23 24 25, ab 22 26, bj 27 22 0, bj 28 22 1, ab 6 27, ab 7 28] (.seq (.block 2 (ak [ab 30 7, og 31 30,
 ab 29 31] (cz 29 (.exit 0) (ak [ab 33 6, di 34 33, Bq 35 34 1, ab 32 35] (cz 32 (ak [ab 36 4, eh 37 36, bo 38 0 37, ay 39 38, ab 2 39,
 Iu 3] .ret) .skip))))) (.reg [ab 40 6, ab 0 40])))) (.reg [ab 20 5, ge 21 20 1, ab 5 21]))
def f59_2 : IR := .seq f59_0 (ak [⟨none, some 16, .build [.cv (.sc (.slice none 0 0))] []⟩, sk 17 1 16,
 ab 4 17] (.seq (.label 0) (.seq (ak [bu 5 0] (.block 0 (.loop f59_1))) (ak [db 2, gz 3] .ret))))
def f59 : FnIR := ⟨41, [.t 2, .t 3], ak [db 2, gz 3] (.scope f59_2)⟩
def f60 : FnIR := ⟨20, [.t 4], ak [bu 4 0] (ak [ab 8 0, Wy 9 8, iy 10 30 9, ab 7 10, bj 11 7 0, bj 12 7 1, ab 5 11, ab 6 12] (ak [ab 13 5,
 Br 14 2 13, ab 15 1, ab 16 6, ⟨none, some 17, .bin .mul (.t 15) (.t 16)⟩, aik 18 17, mj 19 14 18, ab 4 19] .ret))⟩
def f61_0 : IR := cz 12 .skip (.exit 0)
def f61_1 : IR := ak [kx 12 11 10] (.seq f61_0 (.seq (.block 1 (ak [ix 13 1 9 11, ay 14 13, ab 5 14] (ak [ab 15 3, ab 16 5, di 17 16, mj 18 15 17,
 ab 3 18] (ak [ab 19 3, qo 20 19 0] (cz 20 (.reg [⟨none, some 21, .mkif 9 (.c (.cv (.sc (.string ⟨#[108, 101, 110, 32, 111, 117, 116, 32, 111, 102, 32, 114, 97, 110,
 103, 101]⟩))))⟩, acx 21]) .skip))))) (.reg [ge 22 11 1, ab 11 22])))
def f61_2 : IR := cz 28 .skip (.exit 2)
def f61_3 : IR := ak [kx 28 27 26] (.seq f61_2 (.seq (.block 3 (ak [ix 29 1 25 27, ay 30 29, ab 8 30] (.reg [ab 31 6, ab 32 8, wg 33 31 32,
 ab 6 33]))) (.reg [ge 34 27 1, ab 27 34])))
def f61 : FnIR := ⟨36, [.t 2], ak [db 2] (ak [bu 3 0] (.seq (ak [ab 9 0, di 10 9, bu 11 0] (.block 0 (.loop f61_1))) (ak [ab 23 3, agp 24 80 23,
 ab 6 24] (.seq (ak [ab 25 0, di 26 25, bu 27 0] (.block 2 (.loop f61_3))) (ak [ab 35 6, ab 2 35] .ret)))))⟩
def f62_0 : IR := cz 8 .skip (.exit 0)
def f62_1 : IR := ak [qo 8 7 4] (.seq f62_0 (.seq (.block 1 (ak [ab 9 7, ab 4 9] (.reg [ab 10 4, Br 11 2 10, bo 12 0 1, ay 13 12, ab 14 4, aci 15 8 14,
 adf 16 24 15, ⟨none, some 17, .bin .shr (.t 13) (.t 16)⟩, py 18 17, Zr 19 60 3 11, co 1 19 18]))) (.reg [ge 20 7 1, ab 7 20])))
def f62 : FnIR := ⟨36, [.t 2], ak [sk 1 3 0, db 2] (ak [⟨none, some 3, .alloc (List.replicate 60 (.cv (.sc (.int .u8 0))))⟩] (ak [Kl 5 60 3, ⟨none, some 6,
 .cpy 1 (.t 5) (.c (.cv (.sc (.string ⟨#[82, 83]⟩))))⟩] (.seq (ak [bu 7 0] (.block 0 (.loop f62_1))) (.seq (.draw [(bo 21 1 1,.p), (ay 22 21, .r 0 0), (py 23 22,.p),
 (bo 24 2 1,.p), (ay 25 24, Ay), (Lk 26 25 8,.p), (py 27 26,.p), (bo 28 2 1,.p), (ay 29 28, .r 0 2), (py 30 29,.p), (Gh 31 60 3 6,.p), (co 1 31 23,.k),
 (Gh 32 60 3 7,.p), (co 1 32 27,.k), (Gh 33 60 3 8,.p), (co 1 33 30,.k)]) (ak [Kl 34 60 3, iy 35 77 34, ab 2 35] .ret)))))⟩
def f63_0 : IR := ak [ab 18 7, Bt 19 18] (cz 19 (ak [⟨none, some 20, .build [.cv (.sc (.int .i64 0)), .cv (.sc (.int .i64 0)), .cv (.sc (.int .i64 0))] []⟩,
 co 3 4 20, gz 5] .ret) .skip)
def f63 : FnIR := ⟨96, [.cell 4 true 3, .t 5], ak [Gs 4, gz 5] (ak [ab 13 0, ab 14 1, ⟨none, some 15, .inv [(23, 119)] (.t 13) [.t 14]⟩, ab 12 15, bj 16 12 0,
 bj 17 12 1, ab 6 16, ab 7 17] (.seq f63_0 (.seq (.draw [(ab 21 6,.p), (xc 22 1 21 2, Ay), (ay 23 22, Ay), (th 24 23,.p), (aaq 25 24 24,.p),
 (ab 26 6,.p), (xc 27 1 26 3, Ay), (ay 28 27, Ay), (th 29 28,.p), (aaq 30 29 16,.p), (Un 31 25 30,.p), (ab 32 6,.p), (xc 33 1 32 4, Ay), (ay 34 33,
 Ay), (th 35 34,.p), (aaq 36 35 8,.p), (Un 37 31 36,.p), (ab 38 6,.p), (xc 39 1 38 5, Ay), (ay 40 39, Ay), (th 41 40,.p), (Un 42 37 41,.p),
 (ab 43 6,.p), (xc 44 1 43 6, Ay), (ay 45 44, Ay), (th 46 45,.p), (ab 47 6,.p), (xc 48 1 47 7, Ay), (ay 49 48, Ay), (th 50 49,.p),
 (aaq 51 50 8,.p), (ab 52 6,.p), (xc 53 1 52 8, Ay), (ay 54 53, Ay), (th 55 54,.p), (Un 56 51 55,.p), (af1 57 42 46 56,.p), (Gs 8,.k),
 (co 3 8 57,.k)]) (ak [ab 59 0, Wy 60 59, iy 61 30 60, ab 58 61, bj 62 58 0, bj 63 58 1, ab 9 62, ab 10 63] (ak [bo 64 0 8, ay 65 64,
 Sd 66 65 1, ab 67 66, Jh 67 68 0 8, Lj 67 69 68, abz 67 70 69 1073741824, lz 71 67 70, ab 72 71, Jh 72 73 1 8, Lj 72 74 73, abz 72 75 74 1,
 lz 76 72 75, ab 77 76, Jh 77 78 2 8, Lj 77 79 78, ⟨some (77, true), some 80, .bin .geq (.t 79) (.c (vi .i64 1))⟩, lz 81 77 80, ab 82 81, Jh 82 83 2 8,
 Lj 82 84 83, jd 82 85 10, ada 82 86 84 85, lz 87 82 86, ab 11 87] (.seq (.draw [(jc 88 3 8, .r 0 0), (ab 89 11,.p), (ab 90 89,.p), (⟨some (90, true),
 some 91, .ld true 3 (.t 8)⟩, .r 0 0), (⟨some (90, true), some 92, .call 62 true [.t 91]⟩, .r 0 0), (jd 90 93 6,.p), (⟨some (90, true), some 94, .call 1000081 true [.t 92,
 .t 93]⟩, .r 0 0), (lz 95 90 94,.p), (co 3 4 88,.k), (ab 5 95,.p)]) .ret))))))⟩
def f64_0 : IR := cz 15 .skip (.exit 0)
def f64_1 : IR := ak [ab 24 9, Bt 25 24] (cz 25 (ak [ab 26 9, db 2, ab 3 26] .ret) .skip)
def f64_2 : IR := ak [kx 15 14 13] (.seq f64_0 (.seq (.block 1 (ak [ix 16 1 12 14, ay 17 16, ab 6 17] (ak [ab 19 6, iy 20 82 19, ab 18 20, bj 21 18 0,
 bj 22 18 1, bj 23 18 2, ab 7 21, ab 8 22, ab 9 23] (.seq f64_1 (ak [ab 27 7, Bq 28 27 0] (cz 28 (.reg [ab 29 4, ab 30 8, Tc 31 29 30,
 ab 4 31]) .skip)))))) (.reg [ge 32 14 1, ab 14 32])))
def f64 : FnIR := ⟨47, [.t 2, .t 3], ak [db 2, dl 3 0] (ak [db 4] (.seq (ak [ab 12 0, di 13 12, bu 14 0] (.block 0 (.loop f64_2))) (.seq (ak [ab 34 4,
 iy 35 59 34, ab 33 35, bj 36 33 0, bj 37 33 1, ab 10 36, ab 11 37] (ak [ab 38 11, og 39 38, ab 40 39, iv 40 41 10, iv 40 42 0, ⟨some (40, false),
 some 43, .call 83 true [.t 41, .t 42, .c (.func 81 [])]⟩, Rh 40 44 43, kk 45 40 44] (cz 45 (ak [db 2, dl 3 11] .ret) .skip))) (ak [ab 46 4, ab 2 46,
 dl 3 0] .ret))))⟩
def f65_0 : IR := ak [ab 15 11, ab 16 2, di 17 16, Hn 18 15 17, ab 19 18, iv 19 20 2, iv 19 21 11, ⟨some (19, false), some 22, .iadL 1 (.t 20) (.t 21)⟩,
 Qm 19 23 22, Ax 19 24 23, Xz 19 25 24 64, kk 26 19 25] (cz 26 (.goto 0) .skip)
def f65_1 : IR := ak [ab 35 11, Bq 36 35 0] (cz 36 (.reg [ab 37 13, xc 38 1 37 9, ay 39 38, th 40 39, ab 12 40]) .skip)
def f65_2 : IR := ak [ab 41 14, qo 42 41 1, ab 43 42, iv 43 44 14, Bp 43 45 44 49, kk 46 43 45, ab 47 46, iv 47 48 12, ⟨some (47, false), some 49,
 .bin .lss (.t 48) (.c (vi .i64 1))⟩, kk 50 47 49, ab 51 50, iv 51 52 12, Bp 51 53 52 200, kk 54 51 53, ab 55 54, iv 55 56 11, iv 55 57 12, ⟨some (55,
 false), some 58, .bin .sub (.t 57) (.c (vi .i64 1))⟩, ⟨some (55, false), some 59, .bin .lss (.t 56) (.t 58)⟩, iv 55 60 59, jd 60 61 14, ⟨some (60, true), some 62,
 .bin .lss (.t 61) (.c (vi .i64 49))⟩, ⟨some (55, false), some 63, .pick (.t 60) (.t 62) (.c Zm)⟩, kk 64 55 63] (cz 64 (.goto 0) .skip)
def f65_3 : IR := ak [ab 65 0, ab 66 1, ab 67 11, ab 68 12, ab 69 13, ab 70 14, Br 71 11 70, af8 72 69 71, ⟨none, some 73, .call 48 true [.t 65, .t 66,
 .t 67, .t 68, .t 72]⟩, ab 74 13, Bu 75 81 73 74, og 76 75] (cz 76 (.goto 0) .skip)
def f65_4 : IR := ak [db 8] (ak [db 9] (ak [dl 10 0] (ak [bu 11 0, bu 12 1] (.seq (.label 1) (.seq f65_0 (.seq (ak [ab 27 2, ab 28 11,
 ix 29 1 27 28, ay 30 29, ab 13 30] (ak [ab 31 13, xc 32 1 31 10, ay 33 32, th 34 33, ab 14 34] (.seq f65_1 (.seq f65_2 (.seq f65_3 (.reg [ab 77 8,
 ab 78 13, ab 79 14, Br 80 11 79, af8 81 78 80, wg 82 77 81, ab 8 82])))))) (.seq (ak [ab 83 11, ge 84 83 1, ab 11 84] (ak [ab 85 11, ab 86 12,
 kx 87 85 86] (cz 87 (.goto 1) .skip))) (.seq (ak [ab 89 8, iy 90 84 89, ab 88 90, bj 91 88 0, bj 92 88 1, ab 9 91, ab 10 92] (ak [ab 93 10,
 Up 94 93] (cz 94 (ak [ab 95 9, ab 96 12, ab 6 95, ab 7 96] .ret) .skip))) (.seq (.label 0) (ak [db 6, bu 7 0] .ret))))))))))
def f65 : FnIR := ⟨97, [.t 6, .t 7], ak [db 6, bu 7 0] (.scope f65_4)⟩
def f66_0 : IR := ak [ab 3 0, ag8] (cz 4 (ak [db 2] .ret) .skip)
def f66 : FnIR := ⟨8, [.t 2], ak [db 2] (.seq f66_0 (ak [⟨none, some 5, .mksl 2 0 [] [] false⟩, ab 6 0, Tc 7 5 6, ab 2 7] .ret))⟩
def f67_0 : IR := ak [ab 11 5, Bq 12 11 (-1)] (cz 12 (ak [ab 13 0, ab 4 13] .ret) .skip)
def f67_1 : IR := .seq (ak [ab 16 6, ab 17 0, di 18 17, kx 19 16 18] (cz 19 .skip (.exit 0))) (.seq (.block 1 (ak [ab 22 0, ab 23 6, ix 24 2 22 23,
 jc 25 2 24, Jx 7, co 2 7 25] (ak [ab 26 1, jc 27 2 7, Sl 28 26 27, og 29 28] (cz 29 (ak [ab 30 0, ab 31 5, jc 32 2 7, ix 33 2 30 31,
 co 2 33 32] (.reg [ab 34 5, ge 35 34 1, ab 5 35])) .skip)))) (.reg [ab 20 6, ge 21 20 1, ab 6 21]))
def f67 : FnIR := ⟨42, [.t 4], ak [db 4] (ak [ab 8 0, ab 9 1, uq 10 50 8 9, ab 5 10] (.seq f67_0 (.seq (ak [ab 14 5, ge 15 14 1,
 ab 6 15] (.block 0 (.loop f67_1))) (ak [ab 36 0, ab 37 5, ve 38 2 36 37, ⟨none, none, .clr 2 [.sc (.string ⟨#[]⟩), .sc (.slice none 0 0)] (.t 38)⟩] (ak [ab 39 0,
 ab 40 5, Gp 41 2 39 40, ab 4 41] .ret)))))⟩
def f68 : FnIR := ⟨9, [.t 3], ak [sk 2 2 0, gz 3] (ak [bo 4 0 2, ay 5 4, bo 6 0 1, ay 7 6, Hn 8 5 7, ab 3 8] .ret)⟩
def f69 : FnIR := ⟨9, [.t 3], ak [sk 2 2 0, gz 3] (ak [bo 4 0 2, ay 5 4, bo 6 0 1, ay 7 6, Ts 8 5 7, ab 3 8] .ret)⟩
def f70_0 : IR := ak [ab 15 7, Bq 16 15 0] (cz 16 (ak [ab 17 0, ab 6 17] .ret) .skip)
def f70_1 : IR := ak [ab 20 1, ab 21 8, Hn 22 20 21] (cz 22 (ak [ab 23 0, ab 24 2, Tc 25 23 24, ab 6 25] .ret) .skip)
def f70_2 : IR := ak [ab 26 8, ab 27 7, mj 28 26 27, ab 29 0, aco 30 29, Ts 31 28 30] (cz 31 (ak [ab 32 0, ab 33 1, Gp 34 2 32 33, ab 35 8,
 ab 36 7, mj 37 35 36, ab 38 1, Pm 39 37 38, ⟨none, some 40, .apz 2 40 [.sc (.string ⟨#[]⟩), .sc (.slice none 0 0)] (.t 34) (.t 39)⟩, ab 9 40] (ak [ab 41 9,
 ab 42 1, ve 43 2 41 42, ab 44 2, Ii 45 2 43 44] (.seq (.draw [(ab 46 9,.p), (ab 47 1,.p), (ab 48 7,.p), (mj 49 47 48,.p), (ve 50 2 46 49, .r 0 0),
 (ab 51 0,.p), (ab 52 1,.p), (ve 53 2 51 52, .r 0 0), (Ii 54 2 50 53,.k)]) (ak [ab 55 9, ab 6 55] .ret)))) .skip)
def f70_3 : IR := ak [ab 61 2, ab 62 0, ab 63 1, ab 64 7, mj 65 63 64, ve 66 2 62 65, Bu 67 85 61 66, og 68 67] (cz 68 (.seq (.draw [(ab 69 0,.p),
 (ab 70 1,.p), (ab 71 7,.p), (mj 72 70 71,.p), (ve 73 2 69 72, .r 0 0), (ab 74 0,.p), (ab 75 1,.p), (ve 76 2 74 75, .r 0 0),
 (Ii 77 2 73 76,.k)]) (ak [ab 78 0, ab 79 1, ve 80 2 78 79, ab 81 2, Ii 82 2 80 81] (ak [ab 83 0, ab 6 83] .ret))) .skip)
def f70 : FnIR := ⟨95, [.t 6], ak [db 6] (ak [ab 10 0, ab 11 1, ve 12 2 10 11] (ak [ab 13 2, di 14 13, ab 7 14] (.seq f70_0 (ak [ab 18 0,
 di 19 18, ab 8 19] (.seq f70_1 (.seq f70_2 (ak [ab 56 0, ab 57 8, ab 58 7, mj 59 57 58, Gp 60 2 56 59, ab 0 60] (.seq f70_3 (ak [ab 84 0, ab 85 8,
 ve 86 2 84 85, ab 87 2, Ii 88 2 86 87] (ak [ab 89 0, ab 90 1, ve 91 2 89 90, ab 92 7, Bu 93 86 91 92] (ak [ab 94 0, ab 6 94] .ret)))))))))))⟩
def f71_0 : IR := cz 9 .skip (.exit 0)
def f71_1 : IR := ak [kx 9 8 7] (.seq f71_0 (.seq (.block 1 (ak [ab 10 8, ab 5 10] (ak [ab 11 1, ab 12 0, ab 13 5, ix 14 3 12 13, jc 15 3 14, ⟨none,
 some 16, .callv true (.t 11) [.t 15]⟩] (cz 16 (ak [ab 17 5, ab 4 17] .ret) .skip)))) (.reg [ge 18 8 1, ab 8 18])))
def f71 : FnIR := ⟨19, [.t 4], ak [bu 4 0] (.seq (ak [ab 6 0, di 7 6, bu 8 0] (.block 0 (.loop f71_1))) (ak [bu 4 (-1)] .ret))⟩
def f72_0 : IR := .reg [ab 5 7]
def f72_1 : IR := .block 1 (.reg [ay 8 2, ab 9 5, Sc 10 9, Vo 11 8 10, co 1 2 11])
def f72 : FnIR := ⟨13, [.t 4], ak [sk 2 1 0, db 4] (.seq (ak [ab 6 1] (.block 0 (.rangeF (.t 6) [7] f72_0 f72_1))) (ak [ay 12 2, ab 4 12] .ret))⟩
def f73_0 : IR := .seq (ak [ab 6 4, ay 7 1, di 8 7, kx 9 6 8] (cz 9 .skip (.exit 0))) (.seq (.block 1 (.seq (.draw [(ay 13 2, .r 0 0), (ay 14 1, .r 0 0),
 (ab 15 4,.p), (ve 16 1 14 15, .r 0 0), (di 17 16,.p), (⟨none, some 18, .mnmx true [.t 13, .t 17]⟩,.p), (ab 5 18,.p)]) (ak [ab 19 0, ay 20 1, ab 21 4,
 ab 22 4, ab 23 5, mj 24 22 23, ab 25 4, ab 26 5, mj 27 25 26, ⟨none, some 28, .slL 1 (.t 20) (some (.t 21)) (some (.t 24)) (some (.t 27))⟩, Sl 29 19 28,
 og 30 29] (cz 30 .ret .skip)))) (.reg [ab 10 4, ay 11 2, mj 12 10 11, ab 4 12]))
def f73 : FnIR := ⟨31, [], ak [bu 4 0] (.block 0 (.loop f73_0))⟩
def f74_0 : IR := .seq (ak [ab 7 0, Jc 8 7 127] (cz 8 .skip (.exit 0))) (.seq (.block 1 (.reg [ab 11 3, ab 12 0, py 13 12, ⟨none, some 14,
 .bin .or (.t 13) (.c (vi .u8 128))⟩, aah 15 14, wg 16 11 15, ab 3 16])) (.reg [ab 9 0, Lk 10 9 7, ab 0 10]))
def f74 : FnIR := ⟨22, [.t 2], ak [db 2] (ak [db 3] (.seq (ak [ab 4 0, ⟨none, some 5, .mnmx true [.t 4, .c (vi .i64 9007199254740992)]⟩, ⟨none, some 6,
 .mnmx false [.c (vi .i64 0), .t 5]⟩, ab 0 6] (.block 0 (.loop f74_0))) (ak [ab 17 3, ab 18 0, py 19 18, aah 20 19, wg 21 17 20, ab 2 21] .ret)))⟩
def f75 : FnIR := ⟨8, [.t 2], ak [db 2] (ak [ab 3 0, afj 4 3, lj 5 74 4, ab 6 0, wg 7 5 6, ab 2 7] .ret)⟩
def f76_0 : IR := cz 6 .skip (.exit 0)
def f76_1 : IR := ak [qo 6 5 4] (.seq f76_0 (.seq (.block 1 (ak [ab 7 5, ab 4 7] (.reg [ab 8 0, ab 9 4, ab 10 1, ab 11 4, aci 12 8 11, adf 13 24 12,
 ⟨none, some 14, .bin .shr (.t 10) (.t 13)⟩, py 15 14, ix 16 1 8 9, co 1 16 15]))) (.reg [ge 17 5 1, ab 5 17])))
def f76 : FnIR := ⟨18, [], ak [bu 5 0] (.block 0 (.loop f76_1))⟩
def f77 : FnIR := ⟨27, [.t 2], ak [db 2] (ak [ab 5 0, iy 6 87 5, ab 3 6] (ak [ab 7 0, di 8 7, ge 9 8 4, ⟨none, some 10,
 .mks 1 1 [.sc (.int .u8 0)] (.c (vi .i64 0)) (.t 9) true⟩, ab 11 0, wg 12 10 11, ab 4 12] (ak [ab 13 4, ab 14 3, py 15 14, ab 16 3, Lk 17 16 8,
 py 18 17, ab 19 3, Lk 20 19 16, py 21 20, ab 22 3, Lk 23 22 24, py 24 23, ⟨none, some 25, .mksl 1 4 [.cv (.sc (.int .u8 0)), .cv (.sc (.int .u8 0)),
 .cv (.sc (.int .u8 0)), .cv (.sc (.int .u8 0))] [(0, (1, .t 15)), (1, (1, .t 18)), (2, (1, .t 21)), (3, (1, .t 24))] false⟩, wg 26 13 25, ab 2 26] .ret)))⟩
def f78_0 : IR := cz 7 .skip (.exit 0)
def f78_1 : IR := ak [kx 7 6 5] (.seq f78_0 (.seq (.block 1 (ak [ab 8 6, ab 3 8] (.seq (.draw [(ab 9 3,.p), (Jc 10 9 0,.p), (ab 11 10,.p), (jd 11 12 0,.p),
 (jd 11 13 3,.p), (⟨some (11, true), some 14, .iadL 2 (.t 12) (.t 13)⟩, .r 0 0), (Jh 11 15 0 14,.p), (Lj 11 16 15, .r 0 0), (jd 11 17 0,.p), (jd 11 18 3,.p),
 (⟨some (11, true), some 19, .bin .sub (.t 18) (.c (vi .i64 1))⟩, .p), (⟨some (11, true), some 20, .iadL 2 (.t 17) (.t 19)⟩, .r 0 0), (Jh 11 21 0 20,.p), (Lj 11 22 21,
 .r 0 0), (ada 11 23 16 22,.p), (lz 24 11 23,.p)]) (cz 24 (ak [gz 2] .ret) .skip)))) (.reg [ge 25 6 1, ab 6 25])))
def f78 : FnIR := ⟨26, [.t 2], ak [gz 2] (.seq (ak [ab 4 0, di 5 4, bu 6 0] (.block 0 (.loop f78_1))) (ak [Iu 2] .ret))⟩
def f79_0 : IR := .reg [ab 10 16]
def f79_1 : IR := ak [ab 23 12, og 24 23] (cz 24 (ak [ahf 6, ⟨none, none, .st 1 (.t 7) (.c Zm)⟩] .ret) .skip)
def f79_2 : IR := ak [ab 32 10, di 33 32, Jc 34 33 0] (cz 34 (.reg [ab 35 10, xc 36 2 35 0, bo 37 0 36, ay 38 37, bo 39 0 13, co 1 39 38]) .skip)
def f79_3 : IR := .block 1 (ak [ay 18 4, ab 19 10, Bu 20 89 18 19, ab 17 20, bj 21 17 0, bj 22 17 1, ab 11 21, ab 12 22] (.seq f79_1 (ak [ay 25 3,
 eh 26 25, bo 27 0 26, ay 28 27, di 29 28, iy 30 74 29, ⟨none, some 31, .build [.cv (.sc (.string ⟨#[]⟩)), .cv (.sc (.slice none 0 0))] [(1, (1, .t 30))]⟩, Jx 13,
 co 2 13 31] (.seq f79_2 (.seq (.draw [(ay 40 3, .r 0 3), (ay 41 8, .r 0 0), (jc 42 2 13, .r 0 0), (ac3 43 42, .r 0 0), (Tc 44 41 43,.k), (ay 45 3, Ay),
 (eh 46 45,.p), (bo 47 0 46,.p), (ay 48 47, Ay), (ab 49 11,.p), (Sc 50 49, Ay), (Vo 51 48 50,.k), (co 1 8 44,.k), (eh 52 40,.p), (bo 53 0 52,.p),
 (co 1 53 51,.k)]) (.reg [ay 54 9, ab 55 10, di 56 55, mj 57 54 56, co 1 9 57]))))))
def f79 : FnIR := ⟨63, [.cell 6 false 1, .cell 7 false 1], ak [sk 3 1 0, sk 4 1 1, ai5 6, ⟨none, some 7, .alloc [.cv (.sc (.bool false))]⟩] (ak [ai5 8] (ak [aix,
 afh 9] (.seq (ak [ab 14 2, lj 15 88 14] (.block 0 (.rangeF (.t 15) [16] f79_0 f79_3))) (.seq (.draw [(ay 58 8, .r 0 0), (ay 59 9, Ay), (ab 60 2,.p),
 (di 61 60,.p), (Hn 62 59 61,.p), (co 1 6 58,.k), (co 1 7 62,.k)]) .ret))))⟩
def f80_0 : IR := ak [ab 5 1, qo 6 5 0] (cz 6 (.reg [⟨none, some 7, .mkif 9 (.c (.cv (.sc (.string ⟨#[99, 97, 110, 110, 111, 116, 32, 98, 101, 32, 110, 101, 103, 97, 116,
 105, 118, 101]⟩))))⟩, acx 7]) .skip)
def f80 : FnIR := ⟨27, [.t 4], ak [db 4] (.seq f80_0 (.seq (ak [ab 8 1, ab 9 0, aco 10 9, ab 11 0, di 12 11, Pm 13 10 12, Pm 14 8 13,
 ab 1 14] (ak [ab 15 1, Jc 16 15 0] (cz 16 (.reg [ab 17 0, ab 18 0, aco 19 18, Gp 20 1 17 19, ab 21 1, ⟨none, some 22,
 .apz 1 1 [.sc (.int .u8 0)] (.t 20) (.t 21)⟩, ab 23 0, di 24 23, Gp 25 1 22 24, ab 0 25]) .skip))) (ak [ab 26 0, ab 4 26] .ret)))⟩
def f81 : FnIR := ⟨10, [.t 4], ak [gz 4] (ak [ab 5 0, Pu 6 5, ab 7 1, Pu 8 7, Hn 9 6 8, ab 4 9] .ret)⟩
def f82_0 : IR := cz 26 .skip (.exit 1)
def f82_1 : IR := ak [ab 28 7, Br 29 2 28, ab 30 6, ⟨none, some 31, .bin .geq (.t 29) (.t 30)⟩] (cz 31 (ak [bu 2 0, db 3, dl 4 11] .ret) .skip)
def f82_2 : IR := ak [ab 45 10, og 46 45] (cz 46 (ak [bu 2 0, db 3, dl 4 11] .ret) .skip)
def f82_3 : IR := ak [kx 26 25 24] (.seq f82_0 (.seq (.block 2 (ak [ab 27 25, ab 7 27] (.seq f82_1 (ak [ab 32 0, ab 33 7, Br 34 2 33, ix 35 1 32 34,
 ay 36 35, th 37 36, ab 8 37] (ak [ab 39 0, ab 40 8, ab 41 6, afd 42 91 39 40 41, ab 38 42, bj 43 38 0, bj 44 38 1, Jx 9, co 2 9 43,
 ab 10 44] (.seq f82_2 (.reg [ab 47 5, jc 48 2 9, ac3 49 48, Tc 50 47 49, ab 51 8, ab 5 50, ab 6 51]))))))) (.reg [ge 52 25 1, ab 25 52])))
def f82 : FnIR := ⟨75, [.t 2, .t 3, .t 4], ak [bu 2 0, db 3, dl 4 0] (.seq (.block 0 (ak [ab 14 0, di 15 14, ⟨none, some 16,
 .bin .neq (.t 15) (.c (vi .i64 256))⟩, ab 13 16] (cz 13 (ak [bu 2 0, db 3, dl 4 11] .ret) (ak [ab 18 0, iy 19 90 18, og 20 19,
 ab 17 20] (cz 17 (ak [bu 2 0, db 3, dl 4 12] .ret) .skip))))) (ak [db 5] (ak [bu 6 252] (.seq (ak [ab 21 0, xc 22 1 21 1, ay 23 22,
 th 24 23, bu 25 0] (.block 1 (.loop f82_3))) (.seq (ak [ab 54 0, xc 55 1 54 0, ay 56 55, th 57 56, ab 58 5, Bu 59 89 57 58, ab 53 59, bj 60 53 0,
 bj 61 53 1, ab 11 60, ab 12 61] (ak [ab 62 12, og 63 62, ab 64 63, iv 64 65 11, iv 64 66 0, ⟨some (64, false), some 67, .call 81 true [.t 65, .t 66]⟩,
 Rh 64 68 67, kk 69 64 68] (cz 69 (ak [bu 2 0, db 3, dl 4 11] .ret) .skip))) (ak [ab 70 0, xc 71 1 70 0, ay 72 71, th 73 72, ab 74 5, ab 2 73,
 ab 3 74, dl 4 0] .ret))))))⟩
def f83_0 : IR := ak [ab 10 0, di 11 10, ab 12 1, di 13 12, ⟨none, some 14, .bin .neq (.t 11) (.t 13)⟩] (cz 14 (ak [gz 6] .ret) .skip)
def f83_1 : IR := cz 18 .skip (.exit 0)
def f83_2 : IR := ak [kx 18 17 16] (.seq f83_1 (.seq (.block 1 (ak [ab 19 17, ix 20 1 15 17, ay 21 20, ab 7 19, ab 8 21] (ak [ab 22 1, ab 23 7,
 ix 24 1 22 23, ay 25 24, ab 9 25] (ak [ab 26 2, ab 27 8, ab 28 9, ⟨none, some 29, .callv true (.t 26) [.t 27, .t 28]⟩,
 og 30 29] (cz 30 (ak [gz 6] .ret) .skip))))) (.reg [ge 31 17 1, ab 17 31])))
def f83 : FnIR := ⟨32, [.t 6], ak [gz 6] (.seq f83_0 (.seq (ak [ab 15 0, di 16 15, bu 17 0] (.block 0 (.loop f83_2))) (ak [Iu 6] .ret)))⟩
def f84 : FnIR := ⟨8, [.t 2, .t 3], ak [db 2, dl 3 0] (ak [ab 4 0, ⟨none, some 5, .call 92 true [.t 4, .c (.func 93 [])]⟩, bj 6 5 0, bj 7 5 1, ab 2 6,
 ab 3 7] .ret)⟩
def f87 : FnIR := ⟨5, [.t 2], ak [ag5 2] (ak [ab 3 0, ⟨none, some 4, .call 95 true [.c (vi .u32 0), .t 3]⟩, ab 2 4] .ret)⟩
def f88 : FnIR := ⟨4, [.t 2], ak [sk 1 1 0, ag4 2] (ak [adh 3 96 1, ab 2 3] .ret)⟩
def f89_0 : IR := ak [ab 11 0, qo 12 11 0, ab 13 12, iv 13 14 0, Bp 13 15 14 4, kk 16 13 15, ab 17 16, iv 17 18 1, ⟨some (17, false), some 19,
 .call 97 true [.t 18]⟩, iv 17 20 1, Ax 17 21 20, ⟨some (17, false), some 22, .bin .lss (.t 19) (.t 21)⟩, kk 23 17 22] (cz 23 (ak [db 4, gz 5] .ret) .skip)
def f89_1 : IR := cz 34 .skip (.exit 0)
def f89_2 : IR := ak [kx 34 33 32] (.seq f89_1 (.seq (.block 1 (ak [ab 35 33, ix 36 2 31 33, jc 37 2 36, Jx 9, ab 8 35, co 2 9 37] (ak [jc 38 2 9,
 iy 39 98 38, ab 10 39] (ak [ab 40 7, ab 41 10, di 42 41, Pm 43 40 42, ab 7 43] (ak [ab 44 8, Br 45 2 44, ab 46 7, py 47 46, Zr 48 252 6 45,
 co 1 48 47] (.reg [ab 49 7, ⟨none, some 50, .slA 252 1 (.t 6) (some (.t 49)) none⟩, ab 51 10, Ii 52 1 50 51])))))) (.reg [ge 53 33 1, ab 33 53])))
def f89 : FnIR := ⟨56, [.t 4, .t 5], ak [db 4, gz 5] (.seq f89_0 (ak [⟨none, some 6, .alloc (List.replicate 252 (.cv (.sc (.int .u8 0))))⟩] (ak [ab 24 0, py 25 24,
 ab 26 1, di 27 26, py 28 27, Gh 29 252 6 0, co 1 29 25, Gh 30 252 6 1, co 1 30 28] (ak [bu 7 252] (.seq (ak [ab 31 1, di 32 31,
 bu 33 0] (.block 0 (.loop f89_2))) (ak [Kl 54 252 6, lj 55 77 54, ab 4 55, Iu 5] .ret))))))⟩
def f90 : FnIR := ⟨17, [.t 2], ak [gz 2] (ak [ab 4 0, di 5 4, Xb 6 5 4, ab 3 6] (ak [ab 7 3, Sd 8 7 0, ab 9 8, jd 9 10 0, jd 9 11 3, ⟨some (9,
 true), some 12, .slL 1 (.t 10) none (some (.t 11)) none⟩, ⟨some (9, true), some 13, .call 77 true [.t 12]⟩, jd 9 14 0, ⟨some (9, true), some 15, .call 81 true [.t 13, .t 14]⟩,
 lz 16 9 15, ab 2 16] .ret))⟩
def f91_0 : IR := ak [ab 12 1, ab 13 2, ⟨none, some 14, .bin .geq (.t 12) (.t 13)⟩] (cz 14 (ak [jc 15 2 6, co 2 6 15, gz 7] .ret) .skip)
def f91_1 : IR := ak [ab 25 10, Bt 26 25] (cz 26 (ak [jc 27 2 6, co 2 6 27, gz 7] .ret) .skip)
def f91 : FnIR := ⟨48, [.cell 6 true 2, .t 7], ak [Jx 6, gz 7] (.seq f91_0 (ak [ab 17 0, ab 18 2, Gp 19 1 17 18, ab 20 1, Yl 21 19 20 30, ab 16 21,
 bj 22 16 0, bj 23 16 1, bj 24 16 2, ab 8 22, ab 9 23, ab 10 24] (.seq f91_1 (ak [ab 29 0, ab 30 2, Gp 31 1 29 30, ab 32 9, Yl 33 31 32 150,
 ab 28 33, bj 34 28 0, bj 35 28 1, bj 36 28 2, ab 11 34, ab 9 35, ab 10 36] (ak [ab 37 8, ab 38 11, ⟨none, some 39, .cvSB false (.t 38)⟩,
 ah5 40 37 39, ab 41 10, Up 42 41, ab 43 42, jd 43 44 9, jd 43 45 2, ⟨some (43, true), some 46, .bin .eql (.t 44) (.t 45)⟩, lz 47 43 46, co 2 6 40,
 ab 7 47] .ret)))))⟩
def f92_0 : IR := .seq (ak [ab 23 9, Up 24 23, ab 25 24, jd 25 26 7, afa 25 27 26 0,
 lz 28 25 27] (cz 28 .skip (.exit 0))) (.seq (.block 1 (ak [aaz 10] (ak [ab 32 1, ab 33 0, ab 34 8, ⟨none, some 35, .callv true (.t 32) [.t 33, .t 34]⟩,
 ab 31 35, bj 36 31 0, bj 37 31 1, bj 38 31 2, co 3 10 36, ab 8 37, ab 9 38] (ak [ab 39 9, Up 40 39] (cz 40 (.reg [ab 41 6, jc 42 3 10,
 ahc 43 42, ⟨none, some 44, .app 3 48 [.sc (.string ⟨#[]⟩), .sc (.slice none 0 0), .sc (.bool false)] (.t 41) (.t 43)⟩, ab 6 44]) .skip))))) (.reg [ab 29 7, Xb 30 29 1,
 ab 7 30]))
def f92 : FnIR := ⟨55, [.t 4, .t 5], ak [db 4, dl 5 0] (ak [db 6] (ak [ab 12 0, ⟨none, some 13, .call 100 true [.t 12, .c (vi .i64 0)]⟩, ab 11 13,
 bj 14 11 0, bj 15 11 1, bj 16 11 2, ab 7 14, ab 8 15, ab 9 16] (.seq (ak [ab 17 9, Up 18 17, ab 19 18, jd 19 20 7, afa 19 21 20 5000,
 lz 22 19 21] (cz 22 (.reg [dl 9 3]) .skip)) (.seq (.block 0 (.loop f92_0)) (.seq (.block 2 (ak [ab 46 9, Bt 47 46, ab 45 47] (cz 45 (ak [ab 48 9, db 4,
 ab 5 48] .ret) (ak [ab 50 8, ab 51 0, di 52 51, kx 53 50 52, ab 49 53] (cz 49 (ak [db 4, dl 5 11] .ret) .skip))))) (ak [ab 54 6, ab 4 54,
 dl 5 0] .ret))))))⟩
def f93 : FnIR := ⟨59, [.cell 4 true 3, .t 5, .t 6], ak [aaz 4, bu 5 0, dl 6 0] (ak [ab 11 0, ab 12 1, Yl 13 11 12 30, ab 10 13, bj 14 10 0,
 bj 15 10 1, bj 16 10 2, ab 7 14, ab 1 15, ab 8 16] (.seq (.block 0 (ak [ab 18 8, Bt 19 18, ab 17 19] (cz 17 (ak [ady 20, ab 21 8, co 3 4 20,
 bu 5 0, ab 6 21] .ret) (ak [ab 23 1, ab 24 0, di 25 24, Hn 26 23 25, ab 22 26] (cz 22 (ak [ady 27, co 3 4 27, bu 5 0,
 dl 6 10] .ret) (ak [ab 29 0, ab 30 1, ix 31 1 29 30, ay 32 31, acl 33 32 1, ab 28 33] (cz 28 (ak [ab 34 7, ⟨none, some 35,
 .build [.cv (.sc (.string ⟨#[]⟩)), .cv (.sc (.slice none 0 0)), .cv (.sc (.bool false))] [(0, (1, .t 34)), (2, (1, .c Zy))]⟩, ab 36 1, ge 37 36 1, co 3 4 35,
 ab 5 37, dl 6 0] .ret) (ak [ab 39 0, ab 40 1, ix 41 1 39 40, ay 42 41, ⟨none, some 43, .bin .gtr (.t 42) (.c (vi .u8 1))⟩,
 ab 38 43] (cz 38 (ak [ady 44, co 3 4 44, bu 5 0, dl 6 11] .ret) .skip))))))))) (ak [ab 46 0, ab 47 1, ge 48 47 1, Yl 49 46 48 150, ab 45 49,
 bj 50 45 0, bj 51 45 1, bj 52 45 2, ab 9 50, ab 1 51, ab 8 52] (ak [ab 53 7, ab 54 9, ⟨none, some 55, .cvSB false (.t 54)⟩, agw 56 53 55, ab 57 1,
 ab 58 8, co 3 4 56, ab 5 57, ab 6 58] .ret))))⟩
def f95_0 : IR := cz 14 .skip (.exit 0)
def f95_1 : IR := ak [kx 14 13 12] (.seq f95_0 (.seq (.block 1 (ak [ix 15 1 11 13, ay 16 15, ab 7 16] (.reg [ab 17 0, Lk 18 17 8, ab 19 0, py 20 19,
 ab 21 7, ab0 22 20 21, Zr 23 256 5 22, ay 24 23, ab0 25 18 24, ab 0 25]))) (.reg [ge 26 13 1, ab 13 26])))
def f95 : FnIR := ⟨29, [.t 4], ak [ag5 4] (ak [ab9 8 102, ⟨none, some 5, .alloc (List.replicate 256 (.cv (.sc (.int .u32 0))))⟩, co 256 5 8] (ak [ab 9 0, ⟨none,
 some 10, .un .xor (.t 9)⟩, ab 0 10] (.seq (ak [ab 11 1, di 12 11, bu 13 0] (.block 0 (.loop f95_1))) (ak [ab 27 0, ⟨none, some 28, .un .xor (.t 27)⟩,
 ab 4 28] .ret))))⟩
def f96_0 : IR := ak [ab 6 0, ay 7 1, ab 8 3, Gp 9 2 7 8, Sl 10 6 9, og 11 10, ab 12 11, iv 12 13 3, ⟨some (12, false), some 14,
 .bin .eql (.t 13) (.c (vi .i64 0))⟩, kk 15 12 14, ab 16 15, iv 16 17 3, Qm 16 18 1, Ax 16 19 18, ⟨some (16, false), some 20, .bin .eql (.t 17) (.t 19)⟩,
 kk 21 16 20] (cz 21 .ret .skip)
def f96_1 : IR := .block 1 (ak [ay 4 1, iy 5 97 4, ab 3 5] (.seq f96_0 (.reg [ay 22 1, ab 23 3, ve 24 2 22 23, co 1 1 24])))
def f96 : FnIR := ⟨25, [], .block 0 (.loop f96_1)⟩
def f97_0 : IR := cz 9 .skip (.exit 0)
def f97_1 : IR := ak [bo 13 0 5, ay 14 13, afj 15 14, Jc 16 15 30, ab 17 16, aat 17 18 1 5, Qm 17 19 18, Ax 17 20 19, Bp 17 21 20 150,
 kk 22 17 21] (cz 22 (ak [ab 23 4, ab 2 23] .ret) .skip)
def f97_2 : IR := ak [kx 9 8 7] (.seq f97_0 (.seq (.block 1 (ak [ab 10 8, ix 11 2 6 8, jc 12 2 11, Jx 5, ab 4 10, co 2 5 12] (.seq f97_1 (ak [ab 24 3,
 jc 25 2 5, iy 26 98 25, di 27 26, Br 28 1 27, mj 29 24 28, ab 3 29] (ak [ab 30 3, Jc 31 30 250] (cz 31 (ak [ab 32 4,
 ab 2 32] .ret) .skip)))))) (.reg [ge 33 8 1, ab 8 33])))
def f97 : FnIR := ⟨36, [.t 2], ak [bu 2 0] (ak [bu 3 0] (.seq (ak [ab 6 0, di 7 6, bu 8 0] (.block 0 (.loop f97_2))) (ak [ab 34 0, di 35 34,
 ab 2 35] .ret)))⟩
def f98 : FnIR := ⟨11, [.t 2], ak [sk 1 2 0, db 2] (.seq (.draw [(bo 3 0 1,.p), (ay 4 3, .r 0 0), (lj 5 75 4,.k), (bo 6 1 1,.p), (ay 7 6, Ay), (Pu 8 7,
 Ay), (lj 9 75 8,.k), (wg 10 5 9,.k), (ab 2 10,.p)]) .ret)⟩
def f99 : FnIR := ⟨44, [.t 6, .t 7, .t 8], ak [aar, bu 7 0, dl 8 0] (ak [ab 13 0, ab 14 1, Bu 15 100 13 14, ab 12 15, bj 16 12 0, bj 17 12 1,
 bj 18 12 2, ab 9 16, ab 10 17, ab 11 18] (.seq (.block 0 (ak [ab 20 11, Bt 21 20, ab 19 21] (cz 19 (ak [ab 22 11, aar, bu 7 0,
 ab 8 22] .ret) (ak [ab 24 9, ab 25 2, Ts 26 24 25, ab 23 26] (cz 23 (ak [aar, bu 7 0, dl 8 3] .ret) (ak [ab 28 9, ab 29 0, di 30 29,
 ab 31 10, Pm 32 30 31, Ts 33 28 32, ab 27 33] (cz 27 (ak [aar, bu 7 0, dl 8 10] .ret) .skip))))))) (ak [ab 34 0, ab 35 10, ab 36 10, ab 37 9,
 mj 38 36 37, ⟨none, some 39, .slL 1 (.t 34) (some (.t 35)) (some (.t 38)) none⟩, Pu 40 39, ab 41 10, ab 42 9, mj 43 41 42, ab 6 40, ab 7 43,
 dl 8 0] .ret)))⟩
def f100_0 : IR := .seq (ak [ab 18 8, qo 19 18 8] (cz 19 .skip (.exit 0))) (.seq (.block 1 (.seq (ak [ab 22 1, ab 23 8, mj 24 22 23, ab 25 0, di 26 25,
 Hn 27 24 26] (cz 27 (.goto 0) .skip)) (ak [ab 28 0, ab 29 1, ab 30 8, mj 31 29 30, ix 32 1 28 31, ay 33 32, ab 9 33] (ak [ab 34 7, ab 35 9,
 agt 36 35 127, th 37 36, ab 38 8, aci 39 7 38, ⟨none, some 40, .bin .shl (.t 37) (.t 39)⟩, Un 41 34 40, ab 7 41] (ak [ab 42 9, agt 43 42 128,
 acl 44 43 0] (cz 44 (.seq (ak [ab 45 9, acl 46 45 0, ab 47 46, jd 47 48 8, afa 47 49 48 0, lz 50 47 49, ab 51 50, iv 51 52 7,
 Bp 51 53 52 9007199254740992, kk 54 51 53] (cz 54 (.goto 1) .skip)) (ak [ab 55 7, ab 56 1, ab 57 8, mj 58 56 57, ge 59 58 1, ab 4 55, ab 5 59,
 dl 6 0] .ret)) .skip)))))) (.reg [ab 20 8, ge 21 20 1, ab 8 21]))
def f100_1 : IR := ak [bu 7 0, bu 8 0] (.seq (ak [ab 10 1, qo 11 10 0, ab 12 11, iv 12 13 1, iv 12 14 0, Ax 12 15 14, acw 12 16 13 15,
 kk 17 12 16] (cz 17 (.goto 0) .skip)) (.seq (.block 0 (.loop f100_0)) (.seq (.label 1) (.seq (ak [bu 4 0, bu 5 0, dl 6 11] .ret) (.seq (.label 0) (ak [bu 4 0,
 bu 5 0, dl 6 10] .ret))))))
def f100 : FnIR := ⟨60, [.t 4, .t 5, .t 6], ak [bu 4 0, bu 5 0, dl 6 0] (.scope f100_1)⟩
def f102_0 : IR := cz 5 .skip (.exit 0)
def f102_1 : IR := cz 10 .skip (.exit 2)
def f102_2 : IR := ak [qo 10 9 8] (.seq f102_1 (.seq (.block 3 (.reg [ab 11 3, Lk 12 11 1, ab 13 3, ⟨none, some 14, .bin .and (.t 13) (.c (vi .u32 1))⟩, ⟨none,
 some 15, .bin .mul (.c (vi .u32 3988292384)) (.t 14)⟩, ab0 16 12 15, ab 3 16])) (.reg [ge 17 9 1, ab 9 17])))
def f102_3 : IR := ak [qo 5 4 256] (.seq f102_0 (.seq (.block 1 (ak [ab 6 4, ab 2 6] (ak [ab 7 2, ⟨none, some 8, .cvI .u32 (.t 7)⟩,
 ab 3 8] (.seq (ak [bu 9 0] (.block 2 (.loop f102_2))) (.reg [ab 18 2, ab 19 3, Zr 20 256 1 18, co 1 20 19]))))) (.reg [ge 21 4 1, ab 4 21])))
def f102 : FnIR := ⟨23, [.cell 0 true 256], ak [⟨none, some 0, .alloc (List.replicate 256 (.cv (.sc (.int .u32 0))))⟩] (ak [⟨none, some 1,
 .alloc (List.replicate 256 (.cv (.sc (.int .u32 0))))⟩] (.seq (ak [bu 4 0] (.block 0 (.loop f102_3))) (ak [jc 22 256 1, co 256 0 22] .ret)))⟩
def f119_0 : IR := ak [ab 9 0, ab 10 1, uq 11 56 9 10, og 12 11] (cz 12 (ak [db 4, dl 5 20] .ret) .skip)
def f119_1 : IR := cz 26 .skip (.exit 0)
def f119_2 : IR := ak [kx 26 25 24] (.seq f119_1 (.seq (.block 1 (ak [ix 27 65 23 25, jc 28 65 27, ⟨none, some 8,
 .alloc ((.cv (.sc (.int .i64 0))) :: List.replicate 64 (.cv (.sc (.int .u8 0))))⟩, co 65 8 28] (ak [bo 29 0 8, ay 30 29, ab 31 1,
 Hn 32 30 31] (cz 32 (.reg [bo 33 1 8, jc 34 64 33, co 64 6 34]) .skip)))) (.reg [ge 35 25 1, ab 25 35])))
def f119 : FnIR := ⟨37, [.t 4, .t 5], ak [db 4, dl 5 0] (.seq f119_0 (ak [ab 13 0, eh 14 13, bo 15 0 14, ay 16 15, ab 17 1, ix 18 64 16 17,
 jc 19 64 18, ⟨none, some 6, .alloc (List.replicate 64 (.cv (.sc (.int .u8 0))))⟩, co 64 6 19] (.seq (ak [ab 20 0, eh 21 20, bo 22 1 21, ay 23 22, di 24 23,
 bu 25 0] (.block 0 (.loop f119_2))) (ak [Kl 36 64 6, ab 4 36, dl 5 0] .ret))))⟩
abbrev ai0 : List Nat := [31, 32, 27, 119, 29, 26, 28, 56, 57, 54, 53, 10, 14, 15, 16, 20, 21, 25, 11, 13, 34, 60, 33, 63, 35, 38, 36, 17]
abbrev ags : List Nat := [31, 32, 27, 119, 29, 26, 28, 56, 57, 54, 53, 10]
def aiy : Nat → List Nat := fun n => match n with
 | 6 | 11 | 12 | 13 | 14 | 15 | 16 | 20 | 21 | 30 | 33 | 35 | 38 | 41 | 60 => ai0
 | 10 | 29 | 31 | 32 | 53 | 54 | 56 | 57 | 58 | 119 => ags
 | 19 => [45, 44]
 | 34 => [31, 32, 27, 119, 29, 26, 28, 56, 57, 54, 53, 10, 14, 15, 16, 20, 21, 25, 11, 13, 34, 60, 33, 63, 35, 38, 36, 17, 45]
 | 36 => [31, 32, 27, 119, 29, 26, 28, 56, 57, 54, 53, 10, 14, 15, 16, 20, 21, 25, 11, 13, 34, 60, 33, 63, 35, 38, 36, 17, 45, 44]
 | 37 => [65]
 | 39 => [66, 67, 50, 70]
 | 42 => [66]
 | 44 => [72]
 | 46 | 75 => [74]
 | 48 => [76]
 | 50 | 73 | 96 => [3000000]
 | 59 => [79]
 | 61 => [80]
 | 63 => [31, 32, 27, 119, 29, 26, 28, 56, 57, 54, 53, 10, 14, 15, 16, 20, 21, 25, 11, 13, 34, 60, 33, 63, 35, 38, 36, 17, 1000081]
 | 67 => [50, 3000000]
 | 79 => [88]
 | 89 => [77]
 | 98 => [75]
 | _ => []
def aiz : Nat → List (Nat × Nat) := fun n => match n with
 | 10 => [(3, 1)]
 | 13 => [(10, 6)]
 | 36 => [(1, 9)]
 | 54 => [(3, 2)]
 | 77 => [(2, 3)]
 | _ => []
theorem f70_ok : Pe Proofs.Try.prog [3000004] [] Proofs.Try.f70 = some f70 := by kernel_rfl
def f70x : FnIR := ⟨3, [.t 2], .reg [⟨none, some 2, .ins 2 40 (.t 0) (.t 1) (.t 2)⟩]⟩
def F : Nat → Option FnIR := fun n => match n with
 | 6 => some f6
 | 10 => some f10
 | 11 => some f11
 | 12 => some f12
 | 13 => some f13
 | 14 => some f14
 | 15 => some f15
 | 16 => some f16
 | 19 => some f19
 | 20 => some f20
 | 21 => some f21
 | 22 => some f22
 | 29 => some f29
 | 30 => some f30
 | 31 => some f31
 | 32 => some f32
 | 33 => some f33
 | 34 => some f34
 | 35 => some f35
 | 36 => some f36
 | 37 => some f37
 | 38 => some f38
 | 39 => some f39
 | 40 => some f40
 | 41 => some f41
 | 42 => some f42
 | 44 => some f44
 | 45 => some f45
 | 46 => some f46
 | 47 => some f47
 | 48 => some f48
 | 50 => some f50
 | 52 => some f52
 | 53 => some f53
 | 54 => some f54
 | 56 => some f56
 | 57 => some f57
 | 58 => some f58
 | 59 => some f59
 | 60 => some f60
 | 61 => some f61
 | 62 => some f62
 | 63 => some f63
 | 64 => some f64
 | 65 => some f65
 | 66 => some f66
 | 67 => some f67
 | 68 => some f68
 | 69 => some f69
 | 70 => some f70x
 | 71 => some f71
 | 72 => some f72
 | 73 => some f73
 | 74 => some f74
 | 75 => some f75
 | 76 => some f76
 | 77 => some f77
 | 78 => some f78
 | 79 => some f79
 | 80 => some f80
 | 81 => some f81
 | 82 => some f82
 | 83 => some f83
 | 84 => some f84
 | 87 => some f87
 | 88 => some f88
 | 89 => some f89
 | 90 => some f90
 | 91 => some f91
 | 92 => some f92
 | 93 => some f93
 | 95 => some f95
 | 96 => some f96
 | 97 => some f97
 | 98 => some f98
 | 99 => some f99
 | 100 => some f100
 | 102 => some f102
 | 119 => some f119
 | _ => none
def af3 (f : Nat) : Option FnIR := if f = 70 then none else F f
theorem alr {f : Nat} {fn : FnIR} (h : F f = some fn) : f < 120 := by
 unfold F at h
 split at h <;> first | decide | cases h
theorem tlt {f : Nat} {fn : FnIR} (h : F f = some fn) : f < YB := Nat.lt_trans (alr h) (by decide)
theorem amg : ((List.range 120).map fun f => if (af3 f).isSome = true then (Proofs.Try.prog.funcs[f]?).map fun c => (c.name == "runtime.NumGoroutine", Pe Proofs.Try.prog (aiy f) (aiz f) c) else none) = (List.range 120).map fun f => if (af3 f).isSome = true then some (false, af3 f) else none := by kernel_rfl
theorem alz (h70 : aef Proofs.Try.prog 70 f70x) : Ur Proofs.Try.prog F := by
 refine ⟨by kernel_rfl, fun f fn h => ⟨tlt h, ?_⟩⟩
 by_cases e70 : f = 70
 ·subst e70
  have h : some f70x = some fn := h
  cases h
  exact .inr h70
 have hf : af3 f = some fn := by
  unfold af3
  rw [if_neg e70]
  exact h
 have k := congrArg (·[f]?) amg
 simp only [List.getElem?_map, List.getElem?_range (alr h)] at k
 have k := Option.some.inj k
 dsimp only at k
 have p : (some fn).isSome = true := rfl
 rw [hf, if_pos p, if_pos p] at k
 cases hc : Proofs.Try.prog.funcs[f]? with
 | none => rw [hc] at k; cases k
 | some c =>
  rw [hc] at k
  have k := Option.some.inj k
  exact .inl ⟨c, aiy f, aiz f, rfl, congrArg (·.1) k, congrArg (·.2) k⟩
end Go.V08
