/-
 Chapter 08: the program's functions, as the small code (printed by a program of ours, checked by the kernel).
-/
import Derived.Test.YtbhoknaipfnlnaaVmAll2
import Derived.Test.YtbhoknaipfnlnaaProg
namespace Go.V08
open Go Go.Vm
theorem eE0 {F : Nat → Option FnIR} {f n : Nat} {fn : FnIR} (hf : F f = some fn) (hn : fn.nt = n) {h : ah} {P : VV → ah → Prop} (k : ∀ s : List VV, s.length = n → X F fn.body ⟨s, h⟩ (RQ fn.res P)) (hb : Nat.ble 0 n = true := by rfl) : ∃ v h', call F f [] h = some (.ret v, h') ∧ P v h' := by
  subst hn
  exact rj hf (k _ (by have := Nat.le_of_ble_eq_true hb; simp <;> omega)) hb
theorem eE1 {F : Nat → Option FnIR} {f n : Nat} {fn : FnIR} (hf : F f = some fn) (hn : fn.nt = n) {a0 : VV} {h : ah} {P : VV → ah → Prop} (k : ∀ s : List VV, s.length = n → s.getD 0 .undef = a0 → X F fn.body ⟨s, h⟩ (RQ fn.res P)) (hb : Nat.ble 1 n = true := by rfl) : ∃ v h', call F f [a0] h = some (.ret v, h') ∧ P v h' := by
  subst hn
  exact rj hf (k _ (by have := Nat.le_of_ble_eq_true hb; simp <;> omega) rfl) hb
theorem eP1 {F : Nat → Option FnIR} {f n : Nat} {fn : FnIR} (hf : F f = some fn) (hn : fn.nt = n) {a0 : VV} {h h' : ah} {v : VV} (k : ∀ s : List VV, s.length = n → s.getD 0 .undef = a0 → X F fn.body ⟨s, h⟩ (RQ fn.res (Is v h'))) (hb : Nat.ble 1 n = true := by rfl) : call F f [a0] h = some (.ret v, h') := by
  subst hn
  exact Wo hf (k _ (by have := Nat.le_of_ble_eq_true hb; simp <;> omega) rfl) hb
theorem eE2 {F : Nat → Option FnIR} {f n : Nat} {fn : FnIR} (hf : F f = some fn) (hn : fn.nt = n) {a0 a1 : VV} {h : ah} {P : VV → ah → Prop} (k : ∀ s : List VV, s.length = n → s.getD 0 .undef = a0 → s.getD 1 .undef = a1 → X F fn.body ⟨s, h⟩ (RQ fn.res P)) (hb : Nat.ble 2 n = true := by rfl) : ∃ v h', call F f [a0, a1] h = some (.ret v, h') ∧ P v h' := by
  subst hn
  exact rj hf (k _ (by have := Nat.le_of_ble_eq_true hb; simp <;> omega) rfl rfl) hb
theorem eP2 {F : Nat → Option FnIR} {f n : Nat} {fn : FnIR} (hf : F f = some fn) (hn : fn.nt = n) {a0 a1 : VV} {h h' : ah} {v : VV} (k : ∀ s : List VV, s.length = n → s.getD 0 .undef = a0 → s.getD 1 .undef = a1 → X F fn.body ⟨s, h⟩ (RQ fn.res (Is v h'))) (hb : Nat.ble 2 n = true := by rfl) : call F f [a0, a1] h = some (.ret v, h') := by
  subst hn
  exact Wo hf (k _ (by have := Nat.le_of_ble_eq_true hb; simp <;> omega) rfl rfl) hb
theorem eE3 {F : Nat → Option FnIR} {f n : Nat} {fn : FnIR} (hf : F f = some fn) (hn : fn.nt = n) {a0 a1 a2 : VV} {h : ah} {P : VV → ah → Prop} (k : ∀ s : List VV, s.length = n → s.getD 0 .undef = a0 → s.getD 1 .undef = a1 → s.getD 2 .undef = a2 → X F fn.body ⟨s, h⟩ (RQ fn.res P)) (hb : Nat.ble 3 n = true := by rfl) : ∃ v h', call F f [a0, a1, a2] h = some (.ret v, h') ∧ P v h' := by
  subst hn
  exact rj hf (k _ (by have := Nat.le_of_ble_eq_true hb; simp <;> omega) rfl rfl rfl) hb
theorem eP3 {F : Nat → Option FnIR} {f n : Nat} {fn : FnIR} (hf : F f = some fn) (hn : fn.nt = n) {a0 a1 a2 : VV} {h h' : ah} {v : VV} (k : ∀ s : List VV, s.length = n → s.getD 0 .undef = a0 → s.getD 1 .undef = a1 → s.getD 2 .undef = a2 → X F fn.body ⟨s, h⟩ (RQ fn.res (Is v h'))) (hb : Nat.ble 3 n = true := by rfl) : call F f [a0, a1, a2] h = some (.ret v, h') := by
  subst hn
  exact Wo hf (k _ (by have := Nat.le_of_ble_eq_true hb; simp <;> omega) rfl rfl rfl) hb
theorem eE4 {F : Nat → Option FnIR} {f n : Nat} {fn : FnIR} (hf : F f = some fn) (hn : fn.nt = n) {a0 a1 a2 a3 : VV} {h : ah} {P : VV → ah → Prop} (k : ∀ s : List VV, s.length = n → s.getD 0 .undef = a0 → s.getD 1 .undef = a1 → s.getD 2 .undef = a2 → s.getD 3 .undef = a3 → X F fn.body ⟨s, h⟩ (RQ fn.res P)) (hb : Nat.ble 4 n = true := by rfl) : ∃ v h', call F f [a0, a1, a2, a3] h = some (.ret v, h') ∧ P v h' := by
  subst hn
  exact rj hf (k _ (by have := Nat.le_of_ble_eq_true hb; simp <;> omega) rfl rfl rfl rfl) hb
theorem eE5 {F : Nat → Option FnIR} {f n : Nat} {fn : FnIR} (hf : F f = some fn) (hn : fn.nt = n) {a0 a1 a2 a3 a4 : VV} {h : ah} {P : VV → ah → Prop} (k : ∀ s : List VV, s.length = n → s.getD 0 .undef = a0 → s.getD 1 .undef = a1 → s.getD 2 .undef = a2 → s.getD 3 .undef = a3 → s.getD 4 .undef = a4 → X F fn.body ⟨s, h⟩ (RQ fn.res P)) (hb : Nat.ble 5 n = true := by rfl) : ∃ v h', call F f [a0, a1, a2, a3, a4] h = some (.ret v, h') ∧ P v h' := by
  subst hn
  exact rj hf (k _ (by have := Nat.le_of_ble_eq_true hb; simp <;> omega) rfl rfl rfl rfl rfl) hb
abbrev Ze : VV := .cv (.sc (.bool true))
abbrev abp : VV := .cv (.sc (.bool false))
abbrev Xw : VV := .cv (.sc (.slice none 0 0))
abbrev an2 : VV := .cv (.sc (.string ⟨#[]⟩))
abbrev ai (l : List Op1) (c : IR) : IR := .seq (.reg l) c
abbrev cq (n : Nat) (a b : IR) : IR := .cond (.t n) a b
abbrev xj : Cl := .r 0 1
abbrev ab (a b : Nat) : Op1 := ⟨none, some a, .mv (.t b)⟩
abbrev av (a b : Nat) : Op1 := ⟨none, some a, .ld false 1 (.t b)⟩
abbrev bj (a b c : Nat) : Op1 := ⟨none, some a, .fad b (.t c)⟩
abbrev bo (a b c : Nat) : Op1 := ⟨none, some a, .ext (.t b) c⟩
abbrev bw (a : Nat) (b : Int) : Op1 := ⟨none, some a, .mv (.c (vi .i64 b))⟩
abbrev cd (a b c : Nat) : Op1 := ⟨none, none, .st a (.t b) (.t c)⟩
abbrev cz (a b : Nat) : Op1 := ⟨none, some a, .len false (.t b)⟩
abbrev dg (a : Nat) : Op1 := ⟨none, some a, .mv (.c Xw)⟩
abbrev dq (a : Nat) (b : Int) : Op1 := ⟨none, some a, .mv (.c (vi .u16 b))⟩
abbrev dx (a b : Nat) : Op1 := ⟨none, some a, .nilck (.t b)⟩
abbrev er (a b : Nat) (c : Int) : Op1 := ⟨none, some a, .bin .add (.t b) (.c (vi .i64 c))⟩
abbrev gb (a b c d : Nat) : Op1 := ⟨none, some a, .iadL b (.t c) (.t d)⟩
abbrev gd (a : Nat) : Op1 := ⟨none, some a, .mv (.c abp)⟩
abbrev gi (a b c : Nat) : Op1 := ⟨some (a, true), some b, .mv (.t c)⟩
abbrev gn (a b c : Nat) : Op1 := ⟨some (a, false), some b, .mv (.t c)⟩
abbrev io (a b c : Nat) : Op1 := ⟨none, some a, .call b true [.t c]⟩
abbrev jc (a b c : Nat) : Op1 := ⟨none, some a, .ld true b (.t c)⟩
abbrev jh (a b c : Nat) : Op1 := ⟨none, some a, .bin .lss (.t b) (.t c)⟩
abbrev jm (a b c : Nat) : Op1 := ⟨none, some a, .call b false [.t c]⟩
abbrev ki (a b c : Nat) : Op1 := ⟨none, some a, .pick (.t b) (.t c) (.c abp)⟩
abbrev lh (a b c : Nat) : Op1 := ⟨none, some a, .pick (.t b) (.c Ze) (.t c)⟩
abbrev lz (a b c : Nat) : Op1 := ⟨none, some a, .bin .add (.t b) (.t c)⟩
abbrev ou (a b : Nat) : Op1 := ⟨none, some a, .un .not (.t b)⟩
abbrev pq (a b : Nat) : Op1 := ⟨none, some a, .cvI .u8 (.t b)⟩
abbrev qd (a b c d : Nat) : Op1 := ⟨none, some a, .call b false [.t c, .t d]⟩
abbrev rr (a b : Nat) : Op1 := ⟨none, some a, .cvI .i64 (.t b)⟩
abbrev rp (a b : Nat) (c : Int) : Op1 := ⟨none, some a, .bin .lss (.t b) (.c (vi .i64 c))⟩
abbrev rm (a b c : Nat) : Op1 := ⟨none, some a, .box b (.t c)⟩
abbrev wg (a b c d : Nat) : Op1 := ⟨none, some a, .slL b (.t c) (some (.t d)) none none⟩
abbrev yf (a b c : Nat) : Op1 := ⟨none, some a, .app 1 1 [.sc (.int .u8 0)] (.t b) (.t c)⟩
abbrev ya (a b c : Nat) (d : Int) : Op1 := ⟨none, some a, .iadL b (.t c) (.c (vi .i64 d))⟩
abbrev yz (a b c d : Nat) : Op1 := ⟨none, some a, .call b true [.t c, .t d]⟩
abbrev yx (a : Nat) (b : Int) (c : Nat) : Op1 := ⟨none, some a, .bin .add (.c (vi .i64 b)) (.t c)⟩
abbrev Bu (a b c : Nat) (d : Int) : Op1 := ⟨some (a, false), some b, .bin .gtr (.t c) (.c (vi .i64 d))⟩
abbrev zt (a b : Nat) (c : Int) : Op1 := ⟨none, some a, .bin .eql (.t b) (.c (vi .i64 c))⟩
abbrev Cq (a b c : Nat) : Op1 := ⟨some (a, false), some b, .len false (.t c)⟩
abbrev Co (a b : Nat) : Op1 := ⟨none, some a, .eqn .ptr false (.t b)⟩
abbrev Cp (a : Nat) : Op1 := ⟨none, some a, .mv (.c Ze)⟩
abbrev Hr (a b : Nat) : Op1 := ⟨none, some a, .bin .neq (.t b) (.c (vi .u16 0))⟩
abbrev Ho  : Op1 := ⟨none, some 2, .mv (.c (.cv (.sc (.pointer none))))⟩
abbrev Gl (a b : Nat) (c : Int) : Op1 := ⟨none, some a, .bin .gtr (.t b) (.c (vi .i64 c))⟩
abbrev Gj (a b c : Nat) : Op1 := ⟨some (a, true), some b, .ld false 1 (.t c)⟩
abbrev Ku (a : Nat) : Op1 := ⟨none, some a, .alloc [.cv (.sc (.int .i64 0)), .cv (.sc (.int .i64 0)), .cv (.sc (.int .i64 0))]⟩
abbrev Kh (a b c : Nat) : Op1 := ⟨some (a, false), some b, .ld false 1 (.t c)⟩
abbrev Jh (a b c d : Nat) : Op1 := ⟨none, some a, .cpy b (.t c) (.t d)⟩
abbrev Iy (a b c : Nat) (d : Int) : Op1 := ⟨none, some a, .iadA b 1 (.t c) (.c (vi .i64 d))⟩
abbrev Jw (a b c : Nat) : Op1 := ⟨none, some a, .bin .eql (.t b) (.t c)⟩
abbrev Ko (a b c d : Nat) : Op1 := ⟨none, some a, .slL b (.t c) none (some (.t d)) none⟩
abbrev Lx (a b c d : Nat) : Op1 := ⟨some (a, true), some b, .call c false [.t d]⟩
abbrev Me (a b : Nat) : Op1 := ⟨none, some a, .mkif 23 (.t b)⟩
abbrev Nh (a b c : Nat) : Op1 := ⟨none, some a, .slA b 1 (.t c) none none⟩
abbrev Mi (a : Nat) : Op1 := ⟨none, some a, .alloc [.cv (.sc (.string ⟨#[]⟩)), .cv (.sc (.slice none 0 0))]⟩
abbrev Lu (a b c d : Nat) : Op1 := ⟨some (a, true), some b, .fad c (.t d)⟩
abbrev Le (a b : Nat) (c : Int) : Op1 := ⟨none, some a, .bin .shr (.t b) (.c (vi .u64 c))⟩
abbrev Rq (a b c d : Nat) : Op1 := ⟨some (a, false), some b, .fad c (.t d)⟩
abbrev Qt (a b : Nat) : Op1 := ⟨none, some a, .mksl 1 1 [.cv (.sc (.slice none 0 0))] [(0, (1, .t b))] false⟩
abbrev Sh (a b c : Nat) : Op1 := ⟨none, some a, .app 1 24 [.sc (.slice none 0 0)] (.t b) (.t c)⟩
abbrev Rz (a b : Nat) (c : Int) : Op1 := ⟨none, some a, .bin .geq (.t b) (.c (vi .i64 c))⟩
abbrev Sj (a b c : Nat) : Op1 := ⟨none, some a, .bin .sub (.t b) (.t c)⟩
abbrev Ri (a b : Nat) : Op1 := ⟨none, some a, .cvBS (.t b)⟩
abbrev Sf (a b c : Nat) : Op1 := ⟨none, some a, .app 2 40 [.sc (.string ⟨#[]⟩), .sc (.slice none 0 0)] (.t b) (.t c)⟩
abbrev Tf (a b c d : Nat) : Op1 := ⟨some (a, false), some b, .call c false [.t d]⟩
abbrev Tr (a : Nat) : Op1 := ⟨none, some a, .alloc [.cv (.sc (.slice none 0 0)), .cv (.sc (.slice none 0 0)), .cv (.sc (.int .i64 0)), .cv (.sc (.int .i64 0)), .cv (.sc (.bool false)), .cv (.sc (.int .i64 0))]⟩
abbrev Tx (a b c : Nat) (d : Int) : Op1 := ⟨some (a, true), some b, .bin .eql (.t c) (.c (vi .i64 d))⟩
abbrev Wn (a b c : Nat) : Op1 := ⟨some (a, false), some b, .un .not (.t c)⟩
abbrev Tn (a b c : Nat) : Op1 := ⟨none, some a, .bin .gtr (.t b) (.t c)⟩
abbrev Uc (a b c : Nat) (d : Int) : Op1 := ⟨none, some a, .call b false [.t c, .c (vi .i64 d)]⟩
abbrev Tt (a b : Nat) (c : Int) : Op1 := ⟨none, some a, .bin .rem (.t b) (.c (vi .u8 c))⟩
abbrev Ue (a : Nat) : Op1 := ⟨none, some a, .alloc [.cv (.sc (.string ⟨#[]⟩)), .cv (.sc (.slice none 0 0)), .cv (.sc (.bool false))]⟩
abbrev Xs (a b c : Nat) : Op1 := ⟨none, some a, .callv false (.t b) [.t c]⟩
abbrev Ti (a b c : Nat) : Op1 := ⟨none, some a, .bin .or (.t b) (.t c)⟩
abbrev Vn (a b : Nat) : Op1 := ⟨none, some a, .bin .eql (.t b) (.c (vi .u16 0))⟩
abbrev Zl (a b : Nat) : Op1 := ⟨none, some a, .call b true []⟩
abbrev Zv (a b c : Nat) : Op1 := ⟨none, some a, .bin .neq (.t b) (.t c)⟩
abbrev abc (a b c : Nat) : Op1 := ⟨some (a, true), some b, .bin .eql (.t c) (.c (vi .u16 0))⟩
abbrev ab6 (a b c d e : Nat) : Op1 := ⟨some (a, true), some b, .call c true [.t d, .t e]⟩
abbrev Zi (a b : Nat) : Op1 := ⟨none, some a, .inv [(17, 116), (23, 29)] (.t b) []⟩
abbrev ace (a : Nat) : Op1 := ⟨none, none, .st 1 (.t a) (.c (vi .i64 0))⟩
abbrev Zw (a b c : Nat) : Op1 := ⟨none, some a, .mkfn b [.t c]⟩
abbrev abh (a b : Nat) (c : Int) : Op1 := ⟨none, some a, .bin .sub (.t b) (.c (vi .i64 c))⟩
abbrev abz (a b c d e : Nat) : Op1 := ⟨none, some a, .call b false [.t c, .t d, .t e]⟩
abbrev abt (a b c d : Nat) : Op1 := ⟨none, some a, .iadA b 1 (.t c) (.t d)⟩
abbrev abn (a b : Nat) (c : Int) : Op1 := ⟨none, some a, .bin .shl (.t b) (.c (vi .u64 c))⟩
abbrev aa1 (a b c : Nat) (d : Int) : Op1 := ⟨none, some a, .call 99 true [.t b, .t c, .c (vi .i64 d)]⟩
abbrev Yt  : Op1 := ⟨none, some 6, .mv (.c an2)⟩
abbrev ahx (a b c d e : Nat) : Op1 := ⟨some (a, false), some b, .call c true [.t d, .t e]⟩
abbrev afh (a b c d : Nat) : Op1 := ⟨some (a, true), some b, .pick (.t c) (.c Ze) (.t d)⟩
abbrev af5 (a b c : Nat) : Op1 := ⟨some (a, true), some b, .len false (.t c)⟩
abbrev agq (a b c d : Nat) : Op1 := ⟨some (a, false), some b, .bin .gtr (.t c) (.t d)⟩
abbrev ae2 (a b c d e : Nat) : Op1 := ⟨none, some a, .call b true [.t c, .t d, .t e]⟩
abbrev agb (a b c d : Nat) : Op1 := ⟨none, some a, .inv [(23, 31)] (.t b) [.t c, .t d]⟩
abbrev ahn (a b : Nat) : Op1 := ⟨none, some a, .inv [(23, 32)] (.t b) []⟩
abbrev af6 (a : Nat) (b : Int) (c : Nat) : Op1 := ⟨none, some a, .bin .sub (.c (vi .i64 b)) (.t c)⟩
abbrev ag2 (a b c d e : Nat) : Op1 := ⟨some (a, false), some b, .iadL c (.t d) (.t e)⟩
abbrev ahw (a b : Nat) (c : Int) : Op1 := ⟨none, some a, .bin .quo (.t b) (.c (vi .i64 c))⟩
abbrev ad6 (a b c d : Nat) : Op1 := ⟨some (a, true), some b, .bin .leq (.t c) (.t d)⟩
abbrev ahy (a b c : Nat) : Op1 := ⟨none, some a, .build [.cv (.sc (.string ⟨#[]⟩)), .cv (.sc (.slice none 0 0))] [(0, (1, .t b)), (1, (1, .t c))]⟩
abbrev af4 (a b : Nat) : Op1 := ⟨none, some a, .mksl 2 1 [.cv (.sc (.string ⟨#[]⟩)), .cv (.sc (.slice none 0 0))] [(0, (2, .t b))] false⟩
abbrev aeh (a b : Nat) : Op1 := ⟨none, some a, .len true (.t b)⟩
abbrev afm (a : Nat) : Op1 := ⟨none, none, .panic (.t a)⟩
abbrev aev (a b c : Nat) (d : Int) : Op1 := ⟨some (a, true), some b, .bin .leq (.t c) (.c (vi .i64 d))⟩
abbrev ahk (a b c d e : Nat) : Op1 := ⟨some (a, true), some b, .iadL c (.t d) (.t e)⟩
abbrev af7 (a : Nat) (b : Int) (c : Nat) : Op1 := ⟨none, some a, .bin .mul (.c (vi .i64 b)) (.t c)⟩
abbrev af8 (a b : Nat) : Op1 := ⟨none, some a, .cap (.t b)⟩
abbrev agt (a b c : Nat) (d : Int) : Op1 := ⟨some (a, true), some b, .bin .gtr (.t c) (.c (vi .i64 d))⟩
abbrev agy (a : Nat) : Op1 := ⟨none, some a, .build [.cv (.sc (.string ⟨#[]⟩)), .cv (.sc (.slice none 0 0)), .cv (.sc (.bool false))] []⟩
abbrev ahf (a b : Nat) (c : Int) : Op1 := ⟨none, some a, .bin .eql (.t b) (.c (vi .u8 c))⟩
abbrev afj (a b c : Nat) : Op1 := ⟨none, some a, .bin .xor (.t b) (.t c)⟩
abbrev ale (a b c : Nat) : Op1 := ⟨some (a, false), some b, .bin .neq (.t c) (.c (vi .u16 0))⟩
abbrev akk (a b : Nat) (c : Int) : Op1 := ⟨none, some a, .bin .rem (.t b) (.c (vi .i64 c))⟩
abbrev aji (a b : Nat) : Op1 := ⟨none, some a, .build [.cv (.sc (.string ⟨#[]⟩)), .cv (.sc (.slice none 0 0)), .cv (.sc (.bool false))] [(0, (1, .t b)), (2, (1, .c Ze))]⟩
abbrev ak1 (a b c : Nat) : Op1 := ⟨none, some a, .build [.cv (.sc (.string ⟨#[]⟩)), .cv (.sc (.slice none 0 0)), .cv (.sc (.bool false))] [(0, (1, .t b)), (1, (1, .t c))]⟩
abbrev al2 (a b : Nat) : Op1 := ⟨none, some a, .mksl 3 1 [.cv (.sc (.string ⟨#[]⟩)), .cv (.sc (.slice none 0 0)), .cv (.sc (.bool false))] [(0, (3, .t b))] false⟩
abbrev ah5 (a b c : Nat) : Op1 := ⟨none, some a, .app 3 48 [.sc (.string ⟨#[]⟩), .sc (.slice none 0 0), .sc (.bool false)] (.t b) (.t c)⟩
abbrev ah8 (a : Nat) : Op1 := ⟨none, none, .st 1 (.t a) (.c abp)⟩
abbrev al9  : Op1 := ⟨none, some 2, .mv (.c (.cv (.sc (.complex .f64 0 0))))⟩
abbrev aim (a b c d : Nat) : Op1 := ⟨none, some a, .bin .add (.t b) (.c (.cv (.sc (.complex .f64 c d))))⟩
abbrev alx  : Op1 := ⟨none, some 9, .alloc [.cv (.sc (.int .i64 0))]⟩
abbrev aic (a b c d : Nat) : Op1 := ⟨none, some a, .build [.cv (.sc (.int .i64 0)), .cv (.sc (.int .i64 0)), .cv (.sc (.int .i64 0))] [(0, (1, .t b)), (1, (1, .t c)), (2, (1, .t d))]⟩
abbrev al1 (a b : Nat) : Op1 := ⟨none, some a, .bin .mul (.t b) (.c (vi .i64 4))⟩
abbrev aku (a : Nat) : Op1 := ⟨none, some a, .build [.cv (.sc (.slice none 0 0)), .cv (.sc (.slice none 0 0)), .cv (.sc (.int .i64 0)), .cv (.sc (.int .i64 0)), .cv (.sc (.bool false)), .cv (.sc (.int .i64 0))] []⟩
abbrev ai6 (a b c : Nat) : Op1 := ⟨none, some a, .call b false [.c Xw, .t c]⟩
abbrev aln (a : Nat) : Op1 := ⟨none, some a, .mv (.c (.cv (.sc .nilFunc)))⟩
abbrev alo (a : Nat) (b : Int) : Op1 := ⟨none, some a, .mksl 1 1 [.cv (.sc (.int .u8 0))] [(0, (1, .c (vi .u8 b)))] false⟩
abbrev ak5 (a : Nat) (b : Int) : Op1 := ⟨none, some a, .slA 60 1 (.t 11) (some (.c (vi .i64 b))) none⟩
abbrev ajn (a b c : Nat) : Op1 := ⟨none, some a, .mks 1 1 [.sc (.int .u8 0)] (.t b) (.t c) true⟩
abbrev ajw (a b : Nat) (c : Int) : Op1 := ⟨none, some a, .bin .gtr (.t b) (.c (vi .u8 c))⟩
abbrev aju (a b : Nat) : Op1 := ⟨none, some a, .bin .add (.c (vi .u8 97)) (.t b)⟩
abbrev ajh  : Op1 := ⟨none, some 4, .eqn .slice false (.t 3)⟩
abbrev ak0 (a : Nat) : Op1 := ⟨none, none, .st 1 (.t a) (.c Xw)⟩
abbrev akh (a b c : Nat) : Op1 := ⟨none, some a, .slL 1 (.t b) (some (.c (vi .i64 11))) (some (.t c)) none⟩
abbrev ajs (a b : Nat) : Op1 := ⟨none, some a, .mksl 1 1 [.cv (.sc (.int .u8 0))] [(0, (1, .t b))] false⟩
abbrev ak9 (a : Nat) : Op1 := ⟨none, some a, .alloc [.cv (.sc (.slice none 0 0))]⟩
abbrev aj8 (a : Nat) : Op1 := ⟨none, some a, .mv (.c (vi .u32 0))⟩
abbrev akp (a b : Nat) (c : Int) : Op1 := ⟨none, some a, .bin .and (.t b) (.c (vi .u8 c))⟩
def f9_0 : IR := ai [ab 22 1, io 23 23 22, ab 24 23, gn 24 25 3, Cq 24 26 25, Bu 24 27 26 100, lh 28 24 27] (cq 28 (ai [Zl 29 12,
 ab 8 29] .ret) .skip)
def f9_1 : IR := ai [ab 35 9, Co 36 35, ab 37 36, gn 37 38 9, Tf 37 39 11 38, ale 37 40 39, lh 41 37 40] (cq 41 (ai [gd 8] .ret) .skip)
def f9_2 : IR := ai [ab 47 12, Hr 48 47] (cq 48 (ai [gd 8] .ret) .skip)
def f9_3 : IR := ai [ab 73 9, jm 74 28 73, ab 75 15, Zv 76 74 75] (cq 76 (ai [ab 77 16, ab 13 77] (.exit 1)) .skip)
def f9_4 : IR := ai [ab 78 16, ab 79 11, jm 80 16 79, yz 81 18 78 80] (cq 81 (.exit 1) .skip)
def f9_5 : IR := .seq (ai [ab 55 14, ab 56 1, cz 57 56, jh 58 55 57] (cq 58 .skip (.exit 0))) (.seq (.block 1 (ai [ab 61 9, jm 62 28 61,
 ab 15 62] (ai [ab 63 11, jm 64 16 63, ab 16 64] (ai [ab 65 11, ab 66 1, ab 67 14, gb 68 4 66 67, bj 69 1 68, av 70 69, ⟨none, some 71,
 .call 24 true [.t 70, .c (vi .i64 6)]⟩, qd 72 14 65 71] (.seq f9_3 (.seq f9_4 (ai [ab 82 9, ab 83 3, qd 84 27 82 83] (ai [ab 86 9, jm 87 13 86, ab 85 87,
 bo 88 85 0, bo 89 85 1, ab 17 88, ab 18 89] (ai [Zl 90 12, ab 91 90, gi 91 92 18, abc 91 93 92, ki 94 91 93, ab 95 94, gi 95 96 17,
 Lx 95 97 16 96, gi 95 98 13, ab6 95 99 18 97 98, gi 95 100 99, gn 100 101 17, Tf 100 102 16 101, gn 100 103 16, ahx 100 104 18 102 103, afh 95 105 100 104,
 ki 106 95 105, ab 8 106] .ret))))))))) (.reg [ab 59 14, er 60 59 1, ab 14 60]))
def f9 : FnIR := ⟨134, [.t 8], ai [gd 8] (.seq f9_0 (ai [ab 31 0, jm 32 17 31, ab 30 32, bo 33 30 0, bo 34 30 1, Tr 10, ab 9 33,
 cd 6 10 34] (.seq f9_1 (ai [ab 43 9, jm 44 13 43, ab 42 44, bo 45 42 0, bo 46 42 1, ab 11 45, ab 12 46] (.seq f9_2 (ai [ab 49 9, ab 50 2,
 rr 51 50, qd 52 26 49 51] (ai [ab 53 11, jm 54 16 53, ab 13 54] (.seq (ai [bw 14 0] (.block 0 (.loop f9_5))) (ai [ab 107 11, jm 108 16 107,
 ab 19 108] (ai [ab 109 9, ab 110 3, qd 111 27 109 110] (ai [ab 113 9, jm 114 13 113, ab 112 114, bo 115 112 0, bo 116 112 1, ab 20 115,
 ab 21 116] (ai [Zl 117 12, ab 118 117, gi 118 119 21, abc 118 120 119, ki 121 118 120, ab 122 121, gi 122 123 20, Lx 122 124 16 123, gi 122 125 13,
 ab6 122 126 18 124 125, gi 122 127 126, gn 127 128 20, Tf 127 129 16 128, gn 127 130 19, ahx 127 131 18 129 130, afh 122 132 127 131, ki 133 122 132,
 ab 8 133] .ret))))))))))))⟩
def f10_0 : IR := ai [ab 3 0, rp 4 3 0, ab 5 4, gn 5 6 0, Bu 5 7 6 4096, lh 8 5 7] (cq 8 (ai [Ho] .ret) .skip)
def f10 : FnIR := ⟨13, [.t 2], ai [Ho] (.seq f10_0 (ai [ab 9 0, ⟨none, some 10, .mks 64 64 (List.replicate 64 (.sc (.int .u8 0))) (.t 9) (.t 9) true⟩, ⟨none, some 11,
 .build [.cv (.sc (.slice none 0 0)), .cv (.sc (.slice none 0 0)), .cv (.sc (.complex .f64 0 0)), .cv (.sc (.bool false)), .cv (.sc (.int .i64 0))] [(0, (1, .t 10))]⟩,
 rm 12 5 11, ab 2 12] .ret))⟩
def f11_0 : IR := ai [ab 8 0, jm 9 29 8, rp 10 9 64] (cq 10 (ai [dq 2 20] .ret) .skip)
def f11_1 : IR := cq 20 .skip (.exit 0)
def f11_2 : IR := ai [jh 20 19 18] (.seq f11_1 (.seq (.block 1 (ai [ab 21 19, ab 5 21] (.reg [ab 22 0, ab 23 5, ⟨none, some 24, .call 31 false [.t 22, .t 23,
 .c Xw]⟩]))) (.reg [er 25 19 1, ab 19 25])))
def f11 : FnIR := ⟨38, [.t 2], ai [dq 2 0] (.seq f11_0 (ai [ab 12 0, jm 13 29 12, io 14 30 13, ab 11 14, bo 15 11 0, bo 16 11 1, ab 3 15,
 ab 4 16] (.seq (ai [ab 17 3, yx 18 2 17, bw 19 0] (.block 0 (.loop f11_2))) (ai [ab 26 0, jm 27 32 26] (ai [ab 29 0, Me 30 29, ⟨none, some 31,
 .call 33 false [.t 30, .c Xw]⟩, ab 28 31, bo 32 28 0, bo 33 28 1, ab 6 32, ab 7 33] (ai [ab 34 0, Me 35 34, ab 36 6, ⟨none, some 37,
 .call 34 false [.t 35, .t 36, .c (vi .i64 0), .c (vi .i64 1)]⟩] (ai [dq 2 0] .ret)))))))⟩
def f12_0 : IR := ai [ab 11 3, Co 12 11, ab 13 12, gn 13 14 3, Tf 13 15 11 14, ale 13 16 15, lh 17 13 16] (cq 17 (ai [gd 0] .ret) .skip)
def f12 : FnIR := ⟨57, [.t 0], ai [gd 0] (ai [⟨none, some 7, .call 30 true [.c (vi .i64 64)]⟩, ab 6 7, bo 8 6 0, bo 9 6 1, ab 1 8, ab 2 9] (ai [⟨none,
 some 10, .call 10 false [.c (vi .i64 64)]⟩, ab 3 10] (.seq f12_0 (ai [ab 19 3, jm 20 13 19, ab 18 20, bo 21 18 0, bo 22 18 1, ab 4 21,
 ab 5 22] (ai [ab 23 1, zt 24 23 16, ab 25 24, gi 25 26 2, Tx 25 27 26 5, ki 28 25 27, ab 29 28, gi 29 30 5, abc 29 31 30, ki 32 29 31,
 ab 33 32, gi 33 34 4, Lx 33 35 20 34, Tx 33 36 35 2, ki 37 33 36, ab 38 37, gi 38 39 4, Lx 38 40 16 39, af5 38 41 40, Tx 38 42 41 0, ki 43 38 42,
 ab 44 43, gi 44 45 4, ⟨some (44, true), some 46, .build [.cv (.sc (.string ⟨#[]⟩)), .cv (.sc (.slice none 0 0)), .cv (.sc (.bool false))] [(0, (1,
 .c (.cv (.sc (.string ⟨#[97]⟩)))))]⟩, ⟨some (44, true), some 47, .mksl 3 1 [.cv (.sc (.string ⟨#[]⟩)), .cv (.sc (.slice none 0 0)), .cv (.sc (.bool false))] [(0, (3,
 .t 46))] false⟩, ⟨some (44, true), some 48, .call 14 false [.t 45, .t 47]⟩, abc 44 49 48, ki 50 44 49, ab 51 50, gi 51 52 4, Lx 51 53 16 52, af5 51 54 53,
 Tx 51 55 54 1, ki 56 51 55, ab 0 56] .ret)))))⟩
def f13_0 : IR := ai [ab 17 0, jm 18 29 17, rp 19 18 64] (cq 19 (ai [Ho, dq 3 20] .ret) .skip)
def f13_1 : IR := ai [ab 26 5, ou 27 26] (cq 27 (ai [Ho, dq 3 11] .ret) .skip)
def f13_2 : IR := ai [ab 35 7, Hr 36 35] (cq 36 (ai [ab 37 7, Ho, ab 3 37] .ret) .skip)
def f13_3 : IR := cq 57 .skip (.exit 0)
def f13_4 : IR := ai [jh 57 56 55] (.seq f13_3 (.seq (.block 1 (ai [gb 58 1 54 56, av 59 58, ab 13 59] (.reg [ab 60 6, ab 61 13, yz 62 39 60 61,
 ab 6 62]))) (.reg [er 63 56 1, ab 56 63])))
def f13 : FnIR := ⟨87, [.t 2, .t 3], ai [Ho, dq 3 0] (.seq f13_0 (ai [ab 21 0, Me 22 21, jm 23 35 22, ab 20 23, bo 24 20 0, bo 25 20 1, Ku 4,
 cd 3 4 24, ab 5 25] (.seq f13_1 (ai [ab 29 0, Me 30 29, jc 31 3 4, qd 32 36 30 31, ab 28 32, bo 33 28 0, bo 34 28 1, ab 6 33,
 ab 7 34] (.seq f13_2 (ai [ab 39 0, jm 40 29 39, io 41 30 40, ab 38 41, bo 42 38 0, bo 43 38 1, ab 8 42, ab 9 43] (.seq (.draw [(bj 45 0 4,.p),
 (av 46 45, xj), (ab 47 0,.p), (Me 48 47,.p), (ab 49 8,.p), (⟨none, some 50, .call 38 false [.t 48, .c (vi .i64 2), .t 49]⟩, .k), (yz 51 37 46 50,.k),
 (ab 44 51,.p), (bo 52 44 0,.p), (bo 53 44 1,.p), (ab 10 52,.p), (ab 11 53,.p)]) (.seq (ai [ab 54 10, cz 55 54,
 bw 56 0] (.block 0 (.loop f13_4))) (.seq (ai [ab 65 0, Me 66 65, ab 67 6, qd 68 33 66 67, ab 64 68, bo 69 64 0, bo 70 64 1, ab 14 69,
 ab 15 70] (.block 2 (ai [ab 72 15, ou 73 72, ab 71 73] (cq 71 (ai [Ho, dq 3 21] .ret) (ai [bj 75 0 4, av 76 75, zt 77 76 1073741824,
 ab 74 77] (cq 74 (ai [Ho, dq 3 32] .ret) .skip)))))) (ai [ab 78 0, Me 79 78, ab 80 6, jc 81 3 4, ⟨none, some 82, .build [.cv (.sc .nilIface),
 .cv (.sc (.slice none 0 0)), .cv (.sc (.int .i64 0)), .cv (.sc (.int .i64 0)), .cv (.sc (.int .i64 0)), .cv (.sc (.int .i64 0)), .cv (.sc (.int .i64 0))] [(0, (1, .t 79)), (1, (1,
 .t 80)), (2, (3, .t 81))]⟩, rm 83 7 82, ab 16 83] (ai [ab 84 16, ab 85 16, jm 86 15 85, ab 2 84, ab 3 86] .ret)))))))))))⟩
def f14_0 : IR := ai [ab 63 9, ou 64 63, ab 65 64, gn 65 66 11, Wn 65 67 66, lh 68 65 67, ab 69 68, gn 69 70 10, Cq 69 71 70, gn 69 72 6,
 agq 69 73 71 72, lh 74 69 73] (cq 74 (ai [dq 4 21] .ret) .skip)
def f14_1 : IR := ai [ab 75 0, dx 76 75, bj 77 5 76, av 78 77, ab 79 10, cz 80 79, lz 81 78 80, ab 82 6, Tn 83 81 82] (cq 83 (.seq (ai [ab 84 0,
 jm 85 15 84, ab 12 85] (ai [ab 86 12, Hr 87 86] (cq 87 (ai [ab 88 12, ab 4 88] .ret) .skip))) (.draw [(ab 90 0,.p), (dx 91 90,.p), (bj 92 2 91,.p),
 (bj 93 0 92,.p), (av 94 93, .r 0 0), (ab 95 0,.p), (dx 96 95,.p), (bj 97 6 96,.p), (av 98 97, .r 0 0), (ab 99 1,.p), (ae2 100 19 94 98 99, .r 0 0),
 (ab 89 100,.p), (bo 101 89 0,.p), (bo 102 89 1,.p), (ab 10 101,.p)])) .skip)
def f14_2 : IR := cq 106 .skip (.exit 1)
def f14_3 : IR := ai [jh 106 105 104] (.seq f14_2 (.seq (.block 2 (ai [ab 107 105, gb 108 1 103 105, av 109 108, ab 13 107,
 ab 14 109] (.draw [(ab 110 0,.p), (dx 111 110,.p), (bj 112 0 111,.p), (av 113 112, .r 0 0), (ab 114 0,.p), (dx 115 114,.p), (bj 116 5 115,.p),
 (av 117 116, .r 0 0), (yx 118 2 117,.p), (ab 119 13,.p), (lz 120 118 119,.p), (ab 121 14,.p), (dx 122 113,.p), (ab 123 113,.p),
 (agb 124 123 120 121,.k)]))) (.reg [er 125 105 1, ab 105 125])))
def f14 : FnIR := ⟨152, [.t 4], ai [dq 4 0] (.seq (.block 0 (ai [ab 16 0, Co 17 16, ab 15 17] (cq 15 (ai [dq 4 30] .ret) (ai [ab 19 1, cz 20 19,
 zt 21 20 0, ab 18 21] (cq 18 (ai [dq 4 0] .ret) (ai [ab 23 1, ⟨none, some 24, .call 40 true [.t 23, .c (.func 41 [])]⟩,
 ab 22 24] (cq 22 (ai [dq 4 3] .ret) .skip))))))) (ai [ab 25 0, dx 26 25, bj 27 1 26, av 28 27, ab 29 1, yz 30 39 28 29, ab 5 30] (ai [ab 32 0,
 dx 33 32, bj 34 0 33, av 35 34, Zi 36 35, io 37 30 36, ab 31 37, bo 38 31 0, bo 39 31 1, ab 6 38, ab 7 39] (ai [ab 41 0, dx 42 41,
 bj 43 0 42, av 44 43, ab 45 5, qd 46 33 44 45, ab 40 46, bo 47 40 0, bo 48 40 1, ab 8 47, ab 9 48] (.seq (.draw [(ab 50 0,.p), (dx 51 50,.p),
 (bj 52 2 51,.p), (bj 53 0 52,.p), (av 54 53, .r 0 0), (ab 55 0,.p), (dx 56 55,.p), (bj 57 6 56,.p), (av 58 57, .r 0 0), (ab 59 1,.p), (ae2 60 19 54 58 59,
 .r 0 0), (ab 49 60,.p), (bo 61 49 0,.p), (bo 62 49 1,.p), (ab 10 61,.p), (ab 11 62,.p)]) (.seq f14_0 (.seq f14_1 (.seq (ai [ab 103 10, cz 104 103,
 bw 105 0] (.block 1 (.loop f14_3))) (ai [ab 126 0, dx 127 126, bj 128 0 127, av 129 128, ahn 130 129] (ai [ab 131 0, ab 132 0, ab 133 5, ab 134 0,
 dx 135 134, bj 136 5 135, av 137 136, ab 138 10, cz 139 138, lz 140 137 139, dx 141 131, bj 142 1 141, cd 1 142 133, dx 143 132, bj 144 5 143,
 cd 1 144 140] (ai [ab 145 0, dx 146 145, bj 147 6 146, av 148 147, er 149 148 1, dx 150 145, bj 151 6 150,
 cd 1 151 149] (ai [dq 4 0] .ret))))))))))))⟩
def f15 : FnIR := ⟨54, [.t 2], ai [dq 2 0] (.seq (.block 0 (ai [ab 6 0, Co 7 6, ab 5 7] (cq 5 (ai [dq 2 30] .ret) (ai [ab 9 0, dx 10 9, bj 11 2 10,
 bj 12 0 11, av 13 12, zt 14 13 1073741824, ab 8 14] (cq 8 (ai [dq 2 32] .ret) .skip))))) (.seq (.draw [(ab 16 0,.p), (dx 17 16,.p), (bj 18 0 17,.p),
 (av 19 18, .r 0 0), (ab 20 0,.p), (dx 21 20,.p), (bj 22 1 21,.p), (av 23 22, .r 0 0), (qd 24 33 19 23,.k), (ab 15 24,.p), (bo 25 15 0,.p),
 (bo 26 15 1,.p), (ab 3 25,.p), (ab 4 26,.p)]) (.seq (.draw [(ab 27 0,.p), (ab 28 0,.p), (dx 29 28,.p), (bj 30 0 29,.p), (av 31 30, .r 0 0), (ab 32 3,.p),
 (ab 33 0,.p), (dx 34 33,.p), (bj 35 2 34,.p), (bj 36 1 35,.p), (av 37 36, .r 0 0), (af6 38 1 37,.p), (ab 39 0,.p), (dx 40 39,.p), (bj 41 2 40,.p),
 (bj 42 0 41,.p), (av 43 42, .r 0 0), (er 44 43 1,.p), (⟨none, some 45, .call 34 false [.t 31, .t 32, .t 38, .t 44]⟩,.k), (dx 46 27,.p), (bj 47 2 46,.p),
 (cd 3 47 45,.k)]) (ai [ab 48 0, ab 49 0, dx 50 48, bj 51 5 50, ace 51, dx 52 49, bj 53 6 52, ace 53] (ai [dq 2 0] .ret)))))⟩
def f16_0 : IR := ai [ab 3 0, Co 4 3] (cq 4 (ai [dg 2] .ret) .skip)
def f16 : FnIR := ⟨10, [.t 2], ai [dg 2] (.seq f16_0 (ai [ab 5 0, dx 6 5, bj 7 1 6, av 8 7, io 9 42 8, ab 2 9] .ret))⟩
def f17 : FnIR := ⟨18, [.t 2, .cell 3 true 6], ai [Ho, Tr 3] (ai [ab 7 0, io 8 22 7, jm 9 10 8, ab 4 9] (ai [ab 11 0, io 12 22 11, io 13 43 12,
 ab 10 13, bo 14 10 0, bo 15 10 1, Tr 5, cd 6 5 14, ab 6 15] (.seq (.draw [(ab 16 4,.p), (jc 17 6 5, .r 0 0), (ab 2 16,.p), (cd 6 3 17,.k)]) .ret)))⟩
def f18_0 : IR := ai [ab 6 0, cz 7 6, ab 8 1, cz 9 8, Zv 10 7 9] (cq 10 (ai [gd 4] .ret) .skip)
def f18_1 : IR := .seq (ai [ab 11 5, ab 12 0, cz 13 12, jh 14 11 13] (cq 14 .skip (.exit 0))) (.seq (.block 1 (.seq (.draw [(ab 17 0,.p), (ab 18 5,.p),
 (gb 19 2 17 18, .r 0 0), (bj 20 0 19,.p), (av 21 20, .r 0 0), (ab 22 1,.p), (ab 23 5,.p), (gb 24 2 22 23, .r 0 0), (bj 25 0 24,.p), (av 26 25, .r 0 0),
 (Zv 27 21 26,.p), (ab 28 27,.p), (gn 28 29 0,.p), (gn 28 30 5,.p), (ag2 28 31 2 29 30, .r 0 0), (Rq 28 32 1 31,.p), (Kh 28 33 32, .r 0 0), (⟨some (28, false),
 some 34, .cvBS (.t 33)⟩, .r 0 0), (gn 28 35 1,.p), (gn 28 36 5,.p), (ag2 28 37 2 35 36, .r 0 0), (Rq 28 38 1 37,.p), (Kh 28 39 38, .r 0 0), (⟨some (28, false),
 some 40, .cvBS (.t 39)⟩, .r 0 0), (⟨some (28, false), some 41, .bin .neq (.t 34) (.t 40)⟩, .p), (lh 42 28 41,.p)]) (cq 42 (ai [gd 4] .ret) .skip))) (.reg [ab 15 5,
 er 16 15 1, ab 5 16]))
def f18 : FnIR := ⟨43, [.t 4], ai [gd 4] (.seq f18_0 (.seq (ai [bw 5 0] (.block 0 (.loop f18_1))) (ai [Cp 4] .ret)))⟩
def f19_0 : IR := ai [ab 16 0, io 17 47 16, ou 18 17, ab 19 18, gn 19 20 1, ⟨some (19, false), some 21, .call 47 true [.t 20]⟩, Wn 19 22 21, lh 23 19 22,
 ab 24 23, gn 24 25 8, Cq 24 26 25, Bu 24 27 26 200, lh 28 24 27] (cq 28 (ai [dg 6, gd 7] .ret) .skip)
def f19_1 : IR := cq 32 .skip (.exit 0)
def f19_2 : IR := ai [jh 32 31 30] (.seq f19_1 (.seq (.block 1 (ai [ab 33 31, gb 34 1 29 31, av 35 34, ab 10 33, ab 11 35] (.reg [ab 36 9, ab 37 0,
 ab 38 1, ab 39 10, ab 40 8, cz 41 40, ab 42 11, ⟨none, some 43, .call 48 true [.t 37, .t 38, .t 39, .t 41, .t 42]⟩, Qt 44 43, Sh 45 36 44,
 ab 9 45]))) (.reg [er 46 31 1, ab 31 46])))
def f19 : FnIR := ⟨48, [.t 6, .t 7], ai [dg 6, gd 7] (ai [ab 12 2, io 13 46 12, Uc 14 45 13 49, jm 15 44 14,
 ab 8 15] (.seq f19_0 (ai [dg 9] (.seq (ai [ab 29 8, cz 30 29, bw 31 0] (.block 0 (.loop f19_2))) (ai [ab 47 9, ab 6 47, Cp 7] .ret)))))⟩
def f20_0 : IR := ai [ab 3 0, Co 4 3] (cq 4 (ai [bw 2 0] .ret) .skip)
def f20 : FnIR := ⟨10, [.t 2], ai [bw 2 0] (.seq f20_0 (ai [ab 5 0, dx 6 5, bj 7 2 6, bj 8 0 7, av 9 8, ab 2 9] .ret))⟩
def f22 : FnIR := ⟨8, [.t 2], ai [bw 2 0] (ai [⟨none, some 3, .mksl 1 6 [.cv (.sc (.int .i64 0)), .cv (.sc (.int .i64 0)), .cv (.sc (.int .i64 0)), .cv (.sc (.int .i64 0)),
 .cv (.sc (.int .i64 0)), .cv (.sc (.int .i64 0))] [(0, (1, .c (vi .i64 64))), (1, (1, .c (vi .i64 65))), (2, (1, .c (vi .i64 80))), (3, (1, .c (vi .i64 100))), (4, (1,
 .c (vi .i64 128))), (5, (1, .c (vi .i64 200)))] false⟩, ab 4 0, Tt 5 4 6, gb 6 1 3 5, av 7 6, ab 2 7] .ret)⟩
def f23_0 : IR := .seq (ai [ab 5 4, ab 6 0, cz 7 6, jh 8 5 7] (cq 8 .skip (.exit 0))) (.seq (.block 1 (.draw [(ab 11 3,.p), (ab 12 0,.p), (ab 13 4,.p),
 (gb 14 4 12 13, .r 0 0), (bj 15 1 14,.p), (av 16 15, .r 0 0), (cz 17 16,.p), (yx 18 1 17,.p), (ab 19 0,.p), (ab 20 4,.p), (gb 21 4 19 20, .r 0 0),
 (bj 22 2 21,.p), (av 23 22, .r 0 0), (cz 24 23,.p), (ahw 25 24 8,.p), (lz 26 18 25,.p), (lz 27 11 26,.p), (ab 3 27,.p)])) (.reg [ab 9 4, er 10 9 1,
 ab 4 10]))
def f23 : FnIR := ⟨30, [.t 2], ai [gd 2] (ai [bw 3 0] (.seq (ai [bw 4 0] (.block 0 (.loop f23_0))) (ai [ab 28 3, Gl 29 28 200, ab 2 29] .ret)))⟩
def f24_0 : IR := ai [bj 29 1 8, av 30 29, cz 31 30, akk 32 31 4, zt 33 32 0] (cq 33 (.reg [bj 34 0 8, av 35 34, aji 36 35, cd 3 8 36]) .skip)
def f24_1 : IR := .seq (ai [ab 12 7, ab 13 6, cz 14 13, jh 15 12 14] (cq 15 .skip (.exit 0))) (.seq (.block 1 (.seq (.draw [(ab 18 6,.p), (ab 19 7,.p),
 (gb 20 2 18 19, xj), (bj 21 0 20,.p), (av 22 21, xj), (ab 23 6,.p), (ab 24 7,.p), (gb 25 2 23 24, xj), (bj 26 1 25,.p), (av 27 26, xj),
 (ak1 28 22 27,.p), (Ue 8,.k), (cd 3 8 28,.k)]) (.seq f24_0 (.reg [ab 37 5, jc 38 3 8, al2 39 38, ah5 40 37 39, ab 5 40])))) (.reg [ab 16 7, er 17 16 1,
 ab 7 17]))
def f24 : FnIR := ⟨42, [.t 4], ai [dg 4] (ai [dg 5] (ai [ab 9 0, ab 10 1, yz 11 49 9 10,
 ab 6 11] (.seq (ai [bw 7 0] (.block 0 (.loop f24_1))) (ai [ab 41 5, ab 4 41] .ret))))⟩
def f26 : FnIR := ⟨20, [], ai [ab 4 0, ⟨none, some 5, .eqn .ptr true (.t 4)⟩, ab 6 5, gi 6 7 0, Lx 6 8 53 7, ⟨some (6, true), some 9, .un .not (.t 8)⟩,
 ki 10 6 9] (cq 10 (.reg [ab 11 0, ab 12 0, ab 13 1, Rz 14 13 0, ab 15 1, dx 16 11, bj 17 3 16, cd 1 17 14, dx 18 12, bj 19 4 18,
 cd 1 19 15]) .skip)⟩
def f27_0 : IR := ai [ab 4 0, Co 5 4] (cq 5 .ret .skip)
def f27 : FnIR := ⟨15, [], ai [rm 3 1 1] (.seq f27_0 (ai [ab 6 0, Zw 7 55 3, qd 8 54 6 7] (.reg [ab 9 0, ab 10 0, dx 11 9, bj 12 3 11, ah8 12,
 dx 13 10, bj 14 4 13, ace 14])))⟩
def f28_0 : IR := ai [ab 3 0, Co 4 3] (cq 4 (ai [al9] .ret) .skip)
def f28 : FnIR := ⟨9, [.t 2], ai [al9] (.seq f28_0 (ai [ab 5 0, dx 6 5, bj 7 2 6, av 8 7, ab 2 8] .ret))⟩
def f29_0 : IR := ai [ab 3 0, Co 4 3] (cq 4 (ai [bw 2 0] .ret) .skip)
def f29 : FnIR := ⟨10, [.t 2], ai [bw 2 0] (.seq f29_0 (ai [ab 5 0, dx 6 5, bj 7 0 6, av 8 7, cz 9 8, ab 2 9] .ret))⟩
def f30_0 : IR := ai [ab 5 0, rp 6 5 64] (cq 6 (ai [bw 2 0, bw 3 0] .ret) .skip)
def f30 : FnIR := ⟨15, [.t 2, .t 3], ai [bw 2 0, bw 3 0] (.seq f30_0 (ai [ab 7 0, ahw 8 7 4, ab 4 8] (ai [ab 9 4, ab 10 0, abh 11 10 2, ab 12 4,
 Sj 13 11 12, ahw 14 13 8, ab 2 9, ab 3 14] .ret)))⟩
def f31_0 : IR := ai [ab 17 0, jm 18 57 17, ou 19 18] (cq 19 (ai [dq 6 0] .ret) .skip)
def f31 : FnIR := ⟨43, [.t 6], ai [dq 6 0] (.seq (.block 0 (ai [ab 9 0, ab 10 1, qd 11 56 9 10, ou 12 11,
 ab 8 12] (cq 8 (ai [dq 6 20] .ret) (ai [ab 14 2, cz 15 14, Gl 16 15 64, ab 13 16] (cq 13 (ai [dq 6 3] .ret) .skip))))) (.seq f31_0 (ai [ab 20 1,
 ⟨none, some 21, .build ((.cv (.sc (.int .i64 0))) :: List.replicate 64 (.cv (.sc (.int .u8 0)))) [(0, (1, .t 20))]⟩, ⟨none, some 7,
 .alloc ((.cv (.sc (.int .i64 0))) :: List.replicate 64 (.cv (.sc (.int .u8 0))))⟩, cd 65 7 21] (ai [bj 22 1 7, Nh 23 64 22, ab 24 2,
 Jh 25 1 23 24] (.seq (.draw [(ab 26 0,.p), (ab 27 0,.p), (dx 28 27,.p), (bj 29 1 28,.p), (av 30 29, .r 0 0), (jc 31 65 7, .r 0 0), (⟨none, some 32,
 .mksl 65 1 ((.cv (.sc (.int .i64 0))) :: List.replicate 64 (.cv (.sc (.int .u8 0)))) [(0, (65, .t 31))] false⟩, .r 0 0), (⟨none, some 33,
 .app 65 72 ((.sc (.int .i64 0)) :: List.replicate 64 (.sc (.int .u8 0))) (.t 30) (.t 32)⟩, .k), (dx 34 26,.p), (bj 35 1 34,.p), (cd 1 35 33,.k)]) (ai [ab 36 0,
 dx 37 36, bj 38 2 37, av 39 38, aim 40 39 4607182418800017408 0, dx 41 36, bj 42 2 41, cd 1 42 40] (ai [dq 6 0] .ret)))))))⟩
def f32_0 : IR := ai [ab 2 0, Co 3 2, ab 4 3, gn 4 5 0, Tf 4 6 57 5, Wn 4 7 6, lh 8 4 7] (cq 8 .ret .skip)
def f32 : FnIR := ⟨18, [], .seq f32_0 (ai [ab 9 0, ⟨none, some 10, .call 54 false [.t 9, .c (.func 58 [])]⟩] (.reg [ab 11 0, dx 12 11, bj 13 2 12, av 14 13,
 aim 15 14 0 4607182418800017408, dx 16 11, bj 17 2 16, cd 1 17 15]))⟩
def f33 : FnIR := ⟨29, [.t 4, .t 5], ai [dg 4, gd 5] (ai [ab 11 0, Zi 12 11, io 13 30 12, ab 10 13, bo 14 10 0, bo 15 10 1, ab 6 14,
 ab 7 15] (ai [ab 17 1, io 18 59 17, ab 16 18, bo 19 16 0, bo 20 16 1, ab 8 19, ab 9 20] (ai [ab 21 8, ab 22 9, ab 23 22, gi 23 24 8,
 af5 23 25 24, gi 23 26 7, ad6 23 27 25 26, ki 28 23 27, ab 4 21, ab 5 28] .ret)))⟩
def f34_0 : IR := .reg [ab 10 18]
def f34_1 : IR := .block 1 (ai [av 19 4, av 20 9, ab 21 10, agb 22 19 20 21] (.reg [av 23 9, er 24 23 1, cd 1 9 24]))
def f34 : FnIR := ⟨44, [.cell 8 true 3], ai [rm 4 1 0, Ku 8] (ai [av 12 4, ab 13 2, qd 14 60 12 13, alx, cd 1 9 14] (.seq (ai [ab 15 1, io 16 61 15,
 Uc 17 45 16 64] (.block 0 (.rangeF (.t 17) [18] f34_0 f34_1))) (ai [av 25 4, ahn 26 25] (ai [ab 27 3, ab 28 2, ab 29 1, cz 30 29, aic 31 27 28 30,
 Ku 11, cd 3 11 31] (.seq (.draw [(av 32 4, .r 0 0), (ab 33 3,.p), (akk 34 33 2,.p), (jc 35 3 11, .r 0 0), (io 36 62 35, .r 0 0), (⟨none, some 37,
 .mkmv "Write" (.t 32)⟩, .p), (⟨none, some 38, .nilckM "Write" [23] (.t 37)⟩, .p), (ab 39 32,.p), (agb 40 39 34 36,.k)]) (ai [av 41 4, ahn 42 41] (ai [jc 43 3 11,
 cd 3 8 43] .ret)))))))⟩
def f35_0 : IR := ai [ab 18 7, ab 19 18, gi 19 20 5, ⟨some (19, true), some 21, .un .not (.t 20)⟩, gi 19 22 21, Rq 22 23 0 6, Kh 22 24 23, Rq 22 25 0 4,
 Kh 22 26 25, agq 22 27 24 26, afh 19 28 22 27, ki 29 19 28] (cq 29 (ai [jc 30 3 6, cd 3 2 30, Cp 3] .ret) .skip)
def f35 : FnIR := ⟨33, [.cell 2 true 3, .t 3], ai [Ku 2, gd 3] (ai [ab 9 0, Uc 10 63 9 0, ab 8 10, bo 11 8 0, bo 12 8 1, Ku 4, cd 3 4 11,
 ab 5 12] (ai [ab 14 0, Uc 15 63 14 1, ab 13 15, bo 16 13 0, bo 17 13 1, Ku 6, cd 3 6 16, ab 7 17] (.seq f35_0 (ai [jc 31 3 4, ab 32 5,
 cd 3 2 31, ab 3 32] .ret))))⟩
def f36 : FnIR := ⟨23, [.t 4, .t 5], ai [rm 3 3 1, dg 4, dq 5 0] (.seq (.draw [(ab 7 0,.p), (ab 8 0,.p), (bj 9 1 3,.p), (av 10 9, .r 0 0),
 (qd 11 60 8 10,.k), (bj 12 2 3,.p), (av 13 12, xj), (al1 14 13,.p), (abz 15 38 7 11 14,.k), (io 16 61 15,.k), (ab 6 16,.p)]) (ai [ab 17 6,
 Uc 18 45 17 256, jm 19 44 18, io 20 64 19, bo 21 20 0, bo 22 20 1, ab 4 21, ab 5 22] .ret))⟩
def f37_0 : IR := ai [ab 22 9, zt 23 22 0] (cq 23 (.exit 0) .skip)
def f37_1 : IR := .seq (ai [ab 10 0, io 11 47 10] (cq 11 .skip (.exit 0))) (.block 1 (ai [ab 13 0, ab 14 6, cz 15 14, ab 16 1, ab 17 7, wg 18 1 16 17,
 abz 19 65 13 15 18, ab 12 19, bo 20 12 0, bo 21 12 1, ab 8 20, ab 9 21] (.seq f37_0 (.reg [ab 24 6, ab 25 8, Qt 26 25, Sh 27 24 26, ab 28 7,
 ab 29 9, lz 30 28 29, ab 6 27, ab 7 30]))))
def f37 : FnIR := ⟨33, [.t 4, .t 5], ai [dg 4, bw 5 0] (ai [dg 6] (ai [bw 7 0] (.seq (.block 0 (.loop f37_1)) (ai [ab 31 6, ab 32 7, ab 4 31,
 ab 5 32] .ret))))⟩
def f38_0 : IR := cq 13 .skip (.exit 0)
def f38_1 : IR := ai [jh 13 12 11] (.seq f38_0 (.seq (.block 1 (ai [ab 14 12, ab 8 14] (ai [ab 16 0, ab 17 1, ab 18 8, lz 19 17 18, ⟨none, some 20,
 .inv [(23, 119)] (.t 16) [.t 19]⟩, ab 15 20, bo 21 15 0, bo 22 15 1, ab 9 21, ab 10 22] (.reg [ab 23 7, ab 24 9, Qt 25 24, Sh 26 23 25,
 ab 7 26])))) (.reg [er 27 12 1, ab 12 27])))
def f38 : FnIR := ⟨29, [.t 6], ai [dg 6] (ai [dg 7] (.seq (ai [ab 11 2, bw 12 0] (.block 0 (.loop f38_1))) (ai [ab 28 7, ab 6 28] .ret)))⟩
def f39_0 : IR := cq 14 .skip (.exit 0)
def f39_1 : IR := ai [bj 20 2 7, av 21 20] (cq 21 (.exit 1) .skip)
def f39_2 : IR := ai [ab 25 8, rp 26 25 0] (cq 26 (.reg [ab 27 5, cz 28 27, ab 8 28]) .skip)
def f39_3 : IR := ai [jh 14 13 12] (.seq f39_0 (.seq (.block 1 (ai [gb 15 3 11 13, jc 16 3 15, Ue 7, cd 3 7 16] (ai [ab 17 5, Zw 18 68 7,
 qd 19 67 17 18, ab 5 19] (.seq f39_1 (ai [ab 22 5, Zw 23 69 7, qd 24 50 22 23, ab 8 24] (.seq f39_2 (.draw [(ab 29 5,.p), (ab 30 8,.p), (bj 31 0 7,.p),
 (av 32 31, .r 0 0), (bj 33 1 7,.p), (av 34 33, .r 0 0), (io 35 52 34, .r 0 0), (ahy 36 32 35,.p), (af4 37 36, .r 0 0), (abz 38 70 29 30 37,.k),
 (ab 5 38,.p)]))))))) (.reg [er 39 13 1, ab 13 39])))
def f39 : FnIR := ⟨41, [.t 4], ai [dg 4] (ai [ab 9 0, jm 10 66 9, ab 5 10] (.seq (ai [ab 11 1, cz 12 11,
 bw 13 0] (.block 0 (.loop f39_3))) (ai [ab 40 5, ab 4 40] .ret)))⟩
def f40 : FnIR := ⟨9, [.t 4], ai [gd 4] (ai [ab 5 0, ab 6 1, yz 7 71 5 6, Rz 8 7 0, ab 4 8] .ret)⟩
def f41 : FnIR := ⟨13, [.t 2], ai [rm 1 3 0, gd 2] (ai [bj 3 0 1, av 4 3, aeh 5 4, Gl 6 5 30, ab 7 6, Rq 7 8 1 1, Kh 7 9 8, Cq 7 10 9,
 Bu 7 11 10 150, lh 12 7 11, ab 2 12] .ret)⟩
def f42_0 : IR := cq 11 .skip (.exit 0)
def f42_1 : IR := ai [jh 11 10 9] (.seq f42_0 (.seq (.block 1 (ai [ab 12 10, gb 13 2 8 10, jc 14 2 13, Mi 5, ab 4 12, cd 2 5 14] (.reg [ab 15 3,
 ab 16 4, bj 17 1 5, av 18 17, io 19 52 18, gb 20 2 15 16, bj 21 1 20, cd 1 21 19]))) (.reg [er 22 10 1, ab 10 22])))
def f42 : FnIR := ⟨24, [.t 2], ai [dg 2] (ai [ab 6 0, jm 7 66 6, ab 3 7] (.seq (ai [ab 8 3, cz 9 8, bw 10 0] (.block 0 (.loop f42_1))) (ai [ab 23 3,
 ab 2 23] .ret)))⟩
def f43_0 : IR := ai [ab 6 0, rp 7 6 0, ab 8 7, gn 8 9 0, Bu 8 10 9 4096, lh 11 8 10] (cq 11 (ai [aku 12, cd 6 2 12, gd 3] .ret) .skip)
def f43_1 : IR := .seq (ai [ab 14 5, ab 15 0, jh 16 14 15] (cq 16 .skip (.exit 0))) (.seq (.block 1 (.draw [(bj 19 0 4,.p), (av 20 19, .r 0 0), (⟨none, some 21,
 .mks 1 1 [.sc (.int .u8 0)] (.c (vi .i64 64)) (.c (vi .i64 64)) false⟩, .p), (Qt 22 21, .r 0 0), (Sh 23 20 22,.k), (bj 24 0 4,.p), (cd 1 24 23,.k)])) (.reg [ab 17 5,
 er 18 17 1, ab 5 18]))
def f43 : FnIR := ⟨26, [.cell 2 true 6, .t 3], ai [Tr 2, gd 3] (.seq f43_0 (ai [aku 13, Tr 4,
 cd 6 4 13] (.seq (ai [bw 5 0] (.block 0 (.loop f43_1))) (ai [jc 25 6 4, cd 6 2 25, Cp 3] .ret))))⟩
def f44 : FnIR := ⟨5, [.t 2], ai [dg 2] (ai [ab 3 0, ai6 4 72 3, ab 2 4] .ret)⟩
def f45_0 : IR := ai [av 5 3, rp 6 5 1] (cq 6 (.reg [⟨none, some 7, .mkif 9 (.c (.cv (.sc (.string ⟨#[99, 97, 110, 110, 111, 116, 32, 98, 101, 32, 108, 101, 115, 115, 32,
 116, 104, 97, 110, 32, 49]⟩))))⟩, afm 7]) .skip)
def f45 : FnIR := ⟨9, [.t 4], ai [rm 2 1 0, rm 3 1 1, aln 4] (.seq f45_0 (ai [⟨none, some 8, .mkfn 73 [.t 2, .t 3]⟩, ab 4 8] .ret))⟩
def f46_0 : IR := cq 12 .skip (.exit 0)
def f46_1 : IR := ai [bj 20 2 5, av 21 20] (cq 21 (ai [ab 22 3, alo 23 1, yf 24 22 23, ab 3 24] (.exit 1)) .skip)
def f46_2 : IR := ai [jh 12 11 10] (.seq f46_0 (.seq (.block 1 (ai [gb 13 3 9 11, jc 14 3 13, Ue 5, cd 3 5 14] (ai [ab 15 3, bj 16 0 5, av 17 16,
 io 18 75 17, yf 19 15 18, ab 3 19] (.seq f46_1 (ai [ab 25 3, alo 26 0, yf 27 25 26, ab 3 27] (.reg [ab 28 3, bj 29 1 5, av 30 29, Ri 31 30,
 io 32 75 31, yf 33 28 32, ab 3 33])))))) (.reg [er 34 11 1, ab 11 34])))
def f46 : FnIR := ⟨36, [.t 2], ai [dg 2] (ai [ab 6 0, cz 7 6, jm 8 74 7, ab 3 8] (.seq (ai [ab 9 0, cz 10 9,
 bw 11 0] (.block 0 (.loop f46_2))) (ai [ab 35 3, ab 2 35] .ret)))⟩
def f47 : FnIR := ⟨9, [.t 2], ai [gd 2] (ai [ab 3 0, Rz 4 3 0, ab 5 4, gi 5 6 0, aev 5 7 6 1073741824, ki 8 5 7, ab 2 8] .ret)⟩
def f48 : FnIR := ⟨33, [.t 10], ai [dg 10] (ai [⟨none, some 11, .alloc (List.replicate 60 (.cv (.sc (.int .u8 0))))⟩] (ai [Nh 12 60 11, ab 13 0,
 qd 14 76 12 13] (ai [ak5 15 4, ab 16 1, qd 17 76 15 16] (ai [ab 18 2, pq 19 18, ab 20 3, pq 21 20, ab 22 4, cz 23 22, pq 24 23,
 Iy 25 60 11 8, cd 1 25 19, Iy 26 60 11 9, cd 1 26 21, Iy 27 60 11 10, cd 1 27 24] (ai [ak5 28 11, ab 29 4, Jh 30 1 28 29] (ai [Nh 31 60 11,
 io 32 77 31, ab 10 32] .ret))))))⟩
def f49_0 : IR := .seq (ai [ab 44 8, ab 45 7, cz 46 45, jh 47 44 46] (cq 47 .skip (.exit 2))) (.seq (.block 3 (.reg [ab 50 7, ab 51 8, ab 52 0, ab 53 6,
 er 54 53 1, gb 55 1 52 54, av 56 55, ab 57 8, pq 58 57, lz 59 56 58, gb 60 1 50 51, cd 1 60 59])) (.reg [ab 48 8, er 49 48 1, ab 8 49]))
def f49_1 : IR := .seq (ai [ab 9 6, er 10 9 1, ab 11 0, cz 12 11, jh 13 10 12, ab 14 13, gi 14 15 6, gi 14 16 1, ⟨some (14, true), some 17,
 .bin .mul (.c (vi .i64 2)) (.t 16)⟩, ⟨some (14, true), some 18, .bin .lss (.t 15) (.t 17)⟩, ki 19 14 18] (cq 19 .skip (.exit 0))) (.seq (.block 1 (ai [ab 22 0,
 ab 23 6, er 24 23 1, gb 25 1 22 24, av 26 25, Tt 27 26 40, rr 28 27, ajn 29 28 28, ab 7 29] (.seq (ai [ab 30 0, ab 31 6, gb 32 1 30 31,
 av 33 32, ajw 34 33 230] (cq 34 (.reg [ab 35 0, ab 36 6, er 37 36 1, gb 38 1 35 37, av 39 38, Tt 40 39 50, rr 41 40, yx 42 100 41, ajn 43 42 42,
 ab 7 43]) .skip)) (.seq (ai [bw 8 0] (.block 2 (.loop f49_0))) (.draw [(ab 61 5,.p), (ab 62 0,.p), (ab 63 6,.p), (gb 64 1 62 63, .r 0 0), (av 65 64, .r 0 0),
 (Tt 66 65 16,.p), (aju 67 66,.p), (ab 68 0,.p), (ab 69 6,.p), (gb 70 1 68 69, .r 0 0), (av 71 70, .r 0 0), (⟨none, some 72, .bin .quo (.t 71) (.c (vi .u8 16))⟩,
 .p), (Tt 73 72 4,.p), (aju 74 73,.p), (⟨none, some 75, .mksl 1 2 [.cv (.sc (.int .u8 0)), .cv (.sc (.int .u8 0))] [(0, (1, .t 67)), (1, (1, .t 74))] false⟩, .r 0 0),
 (Ri 76 75, .r 0 0), (ab 77 7,.p), (ahy 78 76 77,.p), (⟨none, some 79, .mksl 2 1 [.cv (.sc (.string ⟨#[]⟩)), .cv (.sc (.slice none 0 0))] [(0, (2, .t 78))] true⟩, .k),
 (Sf 80 61 79,.k), (ab 5 80,.p)]))))) (.reg [ab 20 6, er 21 20 2, ab 6 21]))
def f49 : FnIR := ⟨82, [.t 4], ai [dg 4] (ai [dg 5] (.seq (ai [bw 6 0] (.block 0 (.loop f49_1))) (ai [ab 81 5, ab 4 81] .ret)))⟩
def f50_0 : IR := cq 9 .skip (.exit 0)
def f50_1 : IR := ai [jh 9 8 7] (.seq f50_0 (.seq (.block 1 (ai [ab 10 8, ab 5 10] (ai [ab 11 1, ab 12 0, ab 13 5, gb 14 2 12 13, jc 15 2 14,
 Xs 16 11 15] (cq 16 (ai [ab 17 5, ab 4 17] .ret) .skip)))) (.reg [er 18 8 1, ab 8 18])))
def f50 : FnIR := ⟨19, [.t 4], ai [bw 4 0] (.seq (ai [ab 6 0, cz 7 6, bw 8 0] (.block 0 (.loop f50_1))) (ai [bw 4 (-1)] .ret))⟩
def f52_0 : IR := ai [ab 3 0, ajh] (cq 4 (ai [dg 2] .ret) .skip)
def f52 : FnIR := ⟨8, [.t 2], ai [dg 2] (.seq f52_0 (ai [⟨none, some 5, .mksl 1 0 [] [] false⟩, ab 6 0, yf 7 5 6, ab 2 7] .ret))⟩
def f53 : FnIR := ⟨14, [.t 2], ai [gd 2] (ai [ab 3 0, dx 4 3, bj 5 3 4, av 6 5, ab 7 6, gi 7 8 0, ⟨some (7, true), some 9, .nilck (.t 8)⟩, Lu 7 10 4 9,
 Gj 7 11 10, Tx 7 12 11 0, ki 13 7 12, ab 2 13] .ret)⟩
def f54_0 : IR := cq 12 .skip (.exit 0)
def f54_1 : IR := ai [jh 12 11 10] (.seq f54_0 (.seq (.block 1 (ai [ab 13 11, gb 14 65 9 11, jc 15 65 14, ⟨none, some 5,
 .alloc ((.cv (.sc (.int .i64 0))) :: List.replicate 64 (.cv (.sc (.int .u8 0))))⟩, ab 4 13, cd 65 5 15] (ai [ab 16 1, ab 17 4,
 Xs 18 16 17] (cq 18 (.draw [(ab 19 0,.p), (dx 20 19,.p), (bj 21 0 20,.p), (av 22 21, .r 0 0), (bj 23 0 5,.p), (av 24 23, .r 0 0), (bj 25 1 5,.p),
 (jc 26 64 25, .r 0 0), (gb 27 64 22 24, .r 0 0), (cd 64 27 26,.k)]) .skip)))) (.reg [er 28 11 1, ab 11 28])))
def f54 : FnIR := ⟨32, [], .seq (ai [ab 6 0, dx 7 6, bj 8 1 7, av 9 8, cz 10 9, bw 11 0] (.block 0 (.loop f54_1))) (.reg [ab 29 0, dx 30 29, bj 31 1 30,
 ak0 31])⟩
def f55 : FnIR := ⟨14, [.t 3], ai [gd 3] (ai [ab 4 0, av 5 1, cz 6 5, jh 7 4 6, ab 8 7, Gj 8 9 1, gi 8 10 0, ahk 8 11 1 9 10, Gj 8 12 11,
 ki 13 8 12, ab 3 13] .ret)⟩
def f56 : FnIR := ⟨13, [.t 4], ai [gd 4] (ai [ab 5 1, Rz 6 5 0, ab 7 6, gi 7 8 1, gi 7 9 0, Lx 7 10 29 9, ⟨some (7, true), some 11,
 .bin .lss (.t 8) (.t 10)⟩, ki 12 7 11, ab 4 12] .ret)⟩
def f57_0 : IR := ai [ab 3 0, jm 4 53 3] (cq 4 (ai [gd 2] .ret) .skip)
def f57 : FnIR := ⟨12, [.t 2], ai [gd 2] (.seq f57_0 (ai [ab 5 0, dx 6 5, bj 7 4 6, av 8 7, abh 9 8 1, dx 10 5, bj 11 4 10,
 cd 1 11 9] (ai [Cp 2] .ret)))⟩
def f58 : FnIR := ⟨3, [.t 2], ai [gd 2] (ai [Cp 2] .ret)⟩
def f59_0 : IR := ai [ab 8 0, io 9 78 8, ou 10 9, ab 11 10, gn 11 12 0, Cq 11 13 12, Bu 11 14 13 5000, lh 15 11 14] (cq 15 (ai [dg 2,
 gd 3] .ret) .skip)
def f59_1 : IR := .seq (ai [ab 18 5, ⟨none, some 19, .bin .leq (.t 18) (.c (vi .i64 4))⟩] (cq 19 .skip (.exit 0))) (.seq (.block 1 (ai [ab 23 4, ab 24 5, ab 25 0,
 abz 26 79 23 24 25, ab 22 26, bo 27 22 0, bo 28 22 1, ab 6 27, ab 7 28] (.seq (.block 2 (ai [ab 30 7, ou 31 30,
 ab 29 31] (cq 29 (.exit 0) (ai [ab 33 6, cz 34 33, zt 35 34 1, ab 32 35] (cq 32 (ai [ab 36 4, dx 37 36, bj 38 0 37, av 39 38, ab 2 39,
 Cp 3] .ret) .skip))))) (.reg [ab 40 6, ab 0 40])))) (.reg [ab 20 5, er 21 20 1, ab 5 21]))
def f59_2 : IR := .seq f59_0 (ai [⟨none, some 16, .build [.cv (.sc (.slice none 0 0))] []⟩, rm 17 1 16,
 ab 4 17] (.seq (.label 0) (.seq (ai [bw 5 0] (.block 0 (.loop f59_1))) (ai [dg 2, gd 3] .ret))))
def f59 : FnIR := ⟨41, [.t 2, .t 3], ai [dg 2, gd 3] (.scope f59_2)⟩
def f60 : FnIR := ⟨20, [.t 4], ai [bw 4 0] (ai [ab 8 0, Zi 9 8, io 10 30 9, ab 7 10, bo 11 7 0, bo 12 7 1, ab 5 11, ab 6 12] (ai [ab 13 5,
 yx 14 2 13, ab 15 1, ab 16 6, ⟨none, some 17, .bin .mul (.t 15) (.t 16)⟩, al1 18 17, lz 19 14 18, ab 4 19] .ret))⟩
def f61_0 : IR := cq 12 .skip (.exit 0)
def f61_1 : IR := ai [jh 12 11 10] (.seq f61_0 (.seq (.block 1 (ai [gb 13 1 9 11, av 14 13, ab 5 14] (ai [ab 15 3, ab 16 5, cz 17 16, lz 18 15 17,
 ab 3 18] (ai [ab 19 3, rp 20 19 0] (cq 20 (.reg [⟨none, some 21, .mkif 9 (.c (.cv (.sc (.string ⟨#[108, 101, 110, 32, 111, 117, 116, 32, 111, 102, 32, 114, 97, 110,
 103, 101]⟩))))⟩, afm 21]) .skip))))) (.reg [er 22 11 1, ab 11 22])))
def f61_2 : IR := cq 28 .skip (.exit 2)
def f61_3 : IR := ai [jh 28 27 26] (.seq f61_2 (.seq (.block 3 (ai [gb 29 1 25 27, av 30 29, ab 8 30] (.reg [ab 31 6, ab 32 8, yf 33 31 32,
 ab 6 33]))) (.reg [er 34 27 1, ab 27 34])))
def f61 : FnIR := ⟨36, [.t 2], ai [dg 2] (ai [bw 3 0] (.seq (ai [ab 9 0, cz 10 9, bw 11 0] (.block 0 (.loop f61_1))) (ai [ab 23 3, ai6 24 80 23,
 ab 6 24] (.seq (ai [ab 25 0, cz 26 25, bw 27 0] (.block 2 (.loop f61_3))) (ai [ab 35 6, ab 2 35] .ret)))))⟩
def f62_0 : IR := cq 8 .skip (.exit 0)
def f62_1 : IR := ai [rp 8 7 4] (.seq f62_0 (.seq (.block 1 (ai [ab 9 7, ab 4 9] (.reg [ab 10 4, yx 11 2 10, bj 12 0 1, av 13 12, ab 14 4, af7 15 8 14,
 af6 16 24 15, ⟨none, some 17, .bin .shr (.t 13) (.t 16)⟩, pq 18 17, abt 19 60 3 11, cd 1 19 18]))) (.reg [er 20 7 1, ab 7 20])))
def f62 : FnIR := ⟨36, [.t 2], ai [rm 1 3 0, dg 2] (ai [⟨none, some 3, .alloc (List.replicate 60 (.cv (.sc (.int .u8 0))))⟩] (ai [Nh 5 60 3, ⟨none, some 6,
 .cpy 1 (.t 5) (.c (.cv (.sc (.string ⟨#[82, 83]⟩))))⟩] (.seq (ai [bw 7 0] (.block 0 (.loop f62_1))) (.seq (.draw [(bj 21 1 1,.p), (av 22 21, .r 0 0), (pq 23 22,.p),
 (bj 24 2 1,.p), (av 25 24, xj), (Le 26 25 8,.p), (pq 27 26,.p), (bj 28 2 1,.p), (av 29 28, .r 0 2), (pq 30 29,.p), (Iy 31 60 3 6,.p), (cd 1 31 23,.k),
 (Iy 32 60 3 7,.p), (cd 1 32 27,.k), (Iy 33 60 3 8,.p), (cd 1 33 30,.k)]) (ai [Nh 34 60 3, io 35 77 34, ab 2 35] .ret)))))⟩
def f63_0 : IR := ai [ab 18 7, Hr 19 18] (cq 19 (ai [⟨none, some 20, .build [.cv (.sc (.int .i64 0)), .cv (.sc (.int .i64 0)), .cv (.sc (.int .i64 0))] []⟩,
 cd 3 4 20, gd 5] .ret) .skip)
def f63 : FnIR := ⟨96, [.cell 4 true 3, .t 5], ai [Ku 4, gd 5] (ai [ab 13 0, ab 14 1, ⟨none, some 15, .inv [(23, 119)] (.t 13) [.t 14]⟩, ab 12 15, bo 16 12 0,
 bo 17 12 1, ab 6 16, ab 7 17] (.seq f63_0 (.seq (.draw [(ab 21 6,.p), (ya 22 1 21 2, xj), (av 23 22, xj), (rr 24 23,.p), (abn 25 24 24,.p),
 (ab 26 6,.p), (ya 27 1 26 3, xj), (av 28 27, xj), (rr 29 28,.p), (abn 30 29 16,.p), (Ti 31 25 30,.p), (ab 32 6,.p), (ya 33 1 32 4, xj), (av 34 33,
 xj), (rr 35 34,.p), (abn 36 35 8,.p), (Ti 37 31 36,.p), (ab 38 6,.p), (ya 39 1 38 5, xj), (av 40 39, xj), (rr 41 40,.p), (Ti 42 37 41,.p),
 (ab 43 6,.p), (ya 44 1 43 6, xj), (av 45 44, xj), (rr 46 45,.p), (ab 47 6,.p), (ya 48 1 47 7, xj), (av 49 48, xj), (rr 50 49,.p),
 (abn 51 50 8,.p), (ab 52 6,.p), (ya 53 1 52 8, xj), (av 54 53, xj), (rr 55 54,.p), (Ti 56 51 55,.p), (aic 57 42 46 56,.p), (Ku 8,.k),
 (cd 3 8 57,.k)]) (ai [ab 59 0, Zi 60 59, io 61 30 60, ab 58 61, bo 62 58 0, bo 63 58 1, ab 9 62, ab 10 63] (ai [bj 64 0 8, av 65 64,
 Rz 66 65 1, ab 67 66, Lu 67 68 0 8, Gj 67 69 68, aev 67 70 69 1073741824, ki 71 67 70, ab 72 71, Lu 72 73 1 8, Gj 72 74 73, aev 72 75 74 1,
 ki 76 72 75, ab 77 76, Lu 77 78 2 8, Gj 77 79 78, ⟨some (77, true), some 80, .bin .geq (.t 79) (.c (vi .i64 1))⟩, ki 81 77 80, ab 82 81, Lu 82 83 2 8,
 Gj 82 84 83, gi 82 85 10, ad6 82 86 84 85, ki 87 82 86, ab 11 87] (.seq (.draw [(jc 88 3 8, .r 0 0), (ab 89 11,.p), (ab 90 89,.p), (⟨some (90, true),
 some 91, .ld true 3 (.t 8)⟩, .r 0 0), (⟨some (90, true), some 92, .call 62 true [.t 91]⟩, .r 0 0), (gi 90 93 6,.p), (ab6 90 94 1000081 92 93, .r 0 0), (ki 95 90 94,.p),
 (cd 3 4 88,.k), (ab 5 95,.p)]) .ret))))))⟩
def f64_0 : IR := cq 15 .skip (.exit 0)
def f64_1 : IR := ai [ab 24 9, Hr 25 24] (cq 25 (ai [ab 26 9, dg 2, ab 3 26] .ret) .skip)
def f64_2 : IR := ai [jh 15 14 13] (.seq f64_0 (.seq (.block 1 (ai [gb 16 1 12 14, av 17 16, ab 6 17] (ai [ab 19 6, io 20 82 19, ab 18 20, bo 21 18 0,
 bo 22 18 1, bo 23 18 2, ab 7 21, ab 8 22, ab 9 23] (.seq f64_1 (ai [ab 27 7, zt 28 27 0] (cq 28 (.reg [ab 29 4, ab 30 8, Sf 31 29 30,
 ab 4 31]) .skip)))))) (.reg [er 32 14 1, ab 14 32])))
def f64 : FnIR := ⟨47, [.t 2, .t 3], ai [dg 2, dq 3 0] (ai [dg 4] (.seq (ai [ab 12 0, cz 13 12, bw 14 0] (.block 0 (.loop f64_2))) (.seq (ai [ab 34 4,
 io 35 59 34, ab 33 35, bo 36 33 0, bo 37 33 1, ab 10 36, ab 11 37] (ai [ab 38 11, ou 39 38, ab 40 39, gn 40 41 10, gn 40 42 0, ⟨some (40, false),
 some 43, .call 83 true [.t 41, .t 42, .c (.func 81 [])]⟩, Wn 40 44 43, lh 45 40 44] (cq 45 (ai [dg 2, dq 3 11] .ret) .skip))) (ai [ab 46 4, ab 2 46,
 dq 3 0] .ret))))⟩
def f65_0 : IR := ai [ab 15 11, ab 16 2, cz 17 16, Jw 18 15 17, ab 19 18, gn 19 20 2, gn 19 21 11, ag2 19 22 1 20 21, Kh 19 23 22, Cq 19 24 23,
 ⟨some (19, false), some 25, .bin .neq (.t 24) (.c (vi .i64 64))⟩, lh 26 19 25] (cq 26 (.goto 0) .skip)
def f65_1 : IR := ai [ab 35 11, zt 36 35 0] (cq 36 (.reg [ab 37 13, ya 38 1 37 9, av 39 38, rr 40 39, ab 12 40]) .skip)
def f65_2 : IR := ai [ab 41 14, rp 42 41 1, ab 43 42, gn 43 44 14, Bu 43 45 44 49, lh 46 43 45, ab 47 46, gn 47 48 12, ⟨some (47, false), some 49,
 .bin .lss (.t 48) (.c (vi .i64 1))⟩, lh 50 47 49, ab 51 50, gn 51 52 12, Bu 51 53 52 200, lh 54 51 53, ab 55 54, gn 55 56 11, gn 55 57 12, ⟨some (55,
 false), some 58, .bin .sub (.t 57) (.c (vi .i64 1))⟩, ⟨some (55, false), some 59, .bin .lss (.t 56) (.t 58)⟩, gn 55 60 59, gi 60 61 14, ⟨some (60, true), some 62,
 .bin .lss (.t 61) (.c (vi .i64 49))⟩, ⟨some (55, false), some 63, .pick (.t 60) (.t 62) (.c abp)⟩, lh 64 55 63] (cq 64 (.goto 0) .skip)
def f65_3 : IR := ai [ab 65 0, ab 66 1, ab 67 11, ab 68 12, ab 69 13, ab 70 14, yx 71 11 70, akh 72 69 71, ⟨none, some 73, .call 48 true [.t 65, .t 66,
 .t 67, .t 68, .t 72]⟩, ab 74 13, yz 75 81 73 74, ou 76 75] (cq 76 (.goto 0) .skip)
def f65_4 : IR := ai [dg 8] (ai [dg 9] (ai [dq 10 0] (ai [bw 11 0, bw 12 1] (.seq (.label 1) (.seq f65_0 (.seq (ai [ab 27 2, ab 28 11,
 gb 29 1 27 28, av 30 29, ab 13 30] (ai [ab 31 13, ya 32 1 31 10, av 33 32, rr 34 33, ab 14 34] (.seq f65_1 (.seq f65_2 (.seq f65_3 (.reg [ab 77 8,
 ab 78 13, ab 79 14, yx 80 11 79, akh 81 78 80, yf 82 77 81, ab 8 82])))))) (.seq (ai [ab 83 11, er 84 83 1, ab 11 84] (ai [ab 85 11, ab 86 12,
 jh 87 85 86] (cq 87 (.goto 1) .skip))) (.seq (ai [ab 89 8, io 90 84 89, ab 88 90, bo 91 88 0, bo 92 88 1, ab 9 91, ab 10 92] (ai [ab 93 10,
 Vn 94 93] (cq 94 (ai [ab 95 9, ab 96 12, ab 6 95, ab 7 96] .ret) .skip))) (.seq (.label 0) (ai [dg 6, bw 7 0] .ret))))))))))
def f65 : FnIR := ⟨97, [.t 6, .t 7], ai [dg 6, bw 7 0] (.scope f65_4)⟩
def f66_0 : IR := ai [ab 3 0, ajh] (cq 4 (ai [dg 2] .ret) .skip)
def f66 : FnIR := ⟨8, [.t 2], ai [dg 2] (.seq f66_0 (ai [⟨none, some 5, .mksl 2 0 [] [] false⟩, ab 6 0, Sf 7 5 6, ab 2 7] .ret))⟩
def f67_0 : IR := ai [ab 11 5, zt 12 11 (-1)] (cq 12 (ai [ab 13 0, ab 4 13] .ret) .skip)
def f67_1 : IR := .seq (ai [ab 16 6, ab 17 0, cz 18 17, jh 19 16 18] (cq 19 .skip (.exit 0))) (.seq (.block 1 (ai [ab 22 0, ab 23 6, gb 24 2 22 23,
 jc 25 2 24, Mi 7, cd 2 7 25] (ai [ab 26 1, jc 27 2 7, Xs 28 26 27, ou 29 28] (cq 29 (ai [ab 30 0, ab 31 5, jc 32 2 7, gb 33 2 30 31,
 cd 2 33 32] (.reg [ab 34 5, er 35 34 1, ab 5 35])) .skip)))) (.reg [ab 20 6, er 21 20 1, ab 6 21]))
def f67 : FnIR := ⟨42, [.t 4], ai [dg 4] (ai [ab 8 0, ab 9 1, qd 10 50 8 9, ab 5 10] (.seq f67_0 (.seq (ai [ab 14 5, er 15 14 1,
 ab 6 15] (.block 0 (.loop f67_1))) (ai [ab 36 0, ab 37 5, wg 38 2 36 37, ⟨none, none, .clr 2 [.sc (.string ⟨#[]⟩), .sc (.slice none 0 0)] (.t 38)⟩] (ai [ab 39 0,
 ab 40 5, Ko 41 2 39 40, ab 4 41] .ret)))))⟩
def f68 : FnIR := ⟨9, [.t 3], ai [rm 2 2 0, gd 3] (ai [bj 4 0 2, av 5 4, bj 6 0 1, av 7 6, Jw 8 5 7, ab 3 8] .ret)⟩
def f69 : FnIR := ⟨9, [.t 3], ai [rm 2 2 0, gd 3] (ai [bj 4 0 2, av 5 4, bj 6 0 1, av 7 6, Tn 8 5 7, ab 3 8] .ret)⟩
def f70_0 : IR := ai [ab 15 7, zt 16 15 0] (cq 16 (ai [ab 17 0, ab 6 17] .ret) .skip)
def f70_1 : IR := ai [ab 20 1, ab 21 8, Jw 22 20 21] (cq 22 (ai [ab 23 0, ab 24 2, Sf 25 23 24, ab 6 25] .ret) .skip)
def f70_2 : IR := ai [ab 26 8, ab 27 7, lz 28 26 27, ab 29 0, af8 30 29, Tn 31 28 30] (cq 31 (ai [ab 32 0, ab 33 1, Ko 34 2 32 33, ab 35 8,
 ab 36 7, lz 37 35 36, ab 38 1, Sj 39 37 38, ⟨none, some 40, .apz 2 40 [.sc (.string ⟨#[]⟩), .sc (.slice none 0 0)] (.t 34) (.t 39)⟩, ab 9 40] (ai [ab 41 9,
 ab 42 1, wg 43 2 41 42, ab 44 2, Jh 45 2 43 44] (.seq (.draw [(ab 46 9,.p), (ab 47 1,.p), (ab 48 7,.p), (lz 49 47 48,.p), (wg 50 2 46 49, .r 0 0),
 (ab 51 0,.p), (ab 52 1,.p), (wg 53 2 51 52, .r 0 0), (Jh 54 2 50 53,.k)]) (ai [ab 55 9, ab 6 55] .ret)))) .skip)
def f70_3 : IR := ai [ab 61 2, ab 62 0, ab 63 1, ab 64 7, lz 65 63 64, wg 66 2 62 65, yz 67 85 61 66, ou 68 67] (cq 68 (.seq (.draw [(ab 69 0,.p),
 (ab 70 1,.p), (ab 71 7,.p), (lz 72 70 71,.p), (wg 73 2 69 72, .r 0 0), (ab 74 0,.p), (ab 75 1,.p), (wg 76 2 74 75, .r 0 0),
 (Jh 77 2 73 76,.k)]) (ai [ab 78 0, ab 79 1, wg 80 2 78 79, ab 81 2, Jh 82 2 80 81] (ai [ab 83 0, ab 6 83] .ret))) .skip)
def f70 : FnIR := ⟨95, [.t 6], ai [dg 6] (ai [ab 10 0, ab 11 1, wg 12 2 10 11] (ai [ab 13 2, cz 14 13, ab 7 14] (.seq f70_0 (ai [ab 18 0,
 cz 19 18, ab 8 19] (.seq f70_1 (.seq f70_2 (ai [ab 56 0, ab 57 8, ab 58 7, lz 59 57 58, Ko 60 2 56 59, ab 0 60] (.seq f70_3 (ai [ab 84 0, ab 85 8,
 wg 86 2 84 85, ab 87 2, Jh 88 2 86 87] (ai [ab 89 0, ab 90 1, wg 91 2 89 90, ab 92 7, yz 93 86 91 92] (ai [ab 94 0, ab 6 94] .ret)))))))))))⟩
def f71_0 : IR := cq 9 .skip (.exit 0)
def f71_1 : IR := ai [jh 9 8 7] (.seq f71_0 (.seq (.block 1 (ai [ab 10 8, ab 5 10] (ai [ab 11 1, ab 12 0, ab 13 5, gb 14 3 12 13, jc 15 3 14, ⟨none,
 some 16, .callv true (.t 11) [.t 15]⟩] (cq 16 (ai [ab 17 5, ab 4 17] .ret) .skip)))) (.reg [er 18 8 1, ab 8 18])))
def f71 : FnIR := ⟨19, [.t 4], ai [bw 4 0] (.seq (ai [ab 6 0, cz 7 6, bw 8 0] (.block 0 (.loop f71_1))) (ai [bw 4 (-1)] .ret))⟩
def f72_0 : IR := .reg [ab 5 7]
def f72_1 : IR := .block 1 (.reg [av 8 2, ab 9 5, Qt 10 9, Sh 11 8 10, cd 1 2 11])
def f72 : FnIR := ⟨13, [.t 4], ai [rm 2 1 0, dg 4] (.seq (ai [ab 6 1] (.block 0 (.rangeF (.t 6) [7] f72_0 f72_1))) (ai [av 12 2, ab 4 12] .ret))⟩
def f73_0 : IR := .seq (ai [ab 6 4, av 7 1, cz 8 7, jh 9 6 8] (cq 9 .skip (.exit 0))) (.seq (.block 1 (.seq (.draw [(av 13 2, .r 0 0), (av 14 1, .r 0 0),
 (ab 15 4,.p), (wg 16 1 14 15, .r 0 0), (cz 17 16,.p), (⟨none, some 18, .mnmx true [.t 13, .t 17]⟩,.p), (ab 5 18,.p)]) (ai [ab 19 0, av 20 1, ab 21 4,
 ab 22 4, ab 23 5, lz 24 22 23, ab 25 4, ab 26 5, lz 27 25 26, ⟨none, some 28, .slL 1 (.t 20) (some (.t 21)) (some (.t 24)) (some (.t 27))⟩, Xs 29 19 28,
 ou 30 29] (cq 30 .ret .skip)))) (.reg [ab 10 4, av 11 2, lz 12 10 11, ab 4 12]))
def f73 : FnIR := ⟨31, [], ai [bw 4 0] (.block 0 (.loop f73_0))⟩
def f74_0 : IR := .seq (ai [ab 7 0, Gl 8 7 127] (cq 8 .skip (.exit 0))) (.seq (.block 1 (.reg [ab 11 3, ab 12 0, pq 13 12, ⟨none, some 14,
 .bin .or (.t 13) (.c (vi .u8 128))⟩, ajs 15 14, yf 16 11 15, ab 3 16])) (.reg [ab 9 0, Le 10 9 7, ab 0 10]))
def f74 : FnIR := ⟨22, [.t 2], ai [dg 2] (ai [dg 3] (.seq (ai [ab 4 0, ⟨none, some 5, .mnmx true [.t 4, .c (vi .i64 9007199254740992)]⟩, ⟨none, some 6,
 .mnmx false [.c (vi .i64 0), .t 5]⟩, ab 0 6] (.block 0 (.loop f74_0))) (ai [ab 17 3, ab 18 0, pq 19 18, ajs 20 19, yf 21 17 20, ab 2 21] .ret)))⟩
def f75 : FnIR := ⟨8, [.t 2], ai [dg 2] (ai [ab 3 0, aeh 4 3, jm 5 74 4, ab 6 0, yf 7 5 6, ab 2 7] .ret)⟩
def f76_0 : IR := cq 6 .skip (.exit 0)
def f76_1 : IR := ai [rp 6 5 4] (.seq f76_0 (.seq (.block 1 (ai [ab 7 5, ab 4 7] (.reg [ab 8 0, ab 9 4, ab 10 1, ab 11 4, af7 12 8 11, af6 13 24 12,
 ⟨none, some 14, .bin .shr (.t 10) (.t 13)⟩, pq 15 14, gb 16 1 8 9, cd 1 16 15]))) (.reg [er 17 5 1, ab 5 17])))
def f76 : FnIR := ⟨18, [], ai [bw 5 0] (.block 0 (.loop f76_1))⟩
def f77 : FnIR := ⟨27, [.t 2], ai [dg 2] (ai [ab 5 0, io 6 87 5, ab 3 6] (ai [ab 7 0, cz 8 7, er 9 8 4, ⟨none, some 10,
 .mks 1 1 [.sc (.int .u8 0)] (.c (vi .i64 0)) (.t 9) true⟩, ab 11 0, yf 12 10 11, ab 4 12] (ai [ab 13 4, ab 14 3, pq 15 14, ab 16 3, Le 17 16 8,
 pq 18 17, ab 19 3, Le 20 19 16, pq 21 20, ab 22 3, Le 23 22 24, pq 24 23, ⟨none, some 25, .mksl 1 4 [.cv (.sc (.int .u8 0)), .cv (.sc (.int .u8 0)),
 .cv (.sc (.int .u8 0)), .cv (.sc (.int .u8 0))] [(0, (1, .t 15)), (1, (1, .t 18)), (2, (1, .t 21)), (3, (1, .t 24))] false⟩, yf 26 13 25, ab 2 26] .ret)))⟩
def f78_0 : IR := cq 7 .skip (.exit 0)
def f78_1 : IR := ai [jh 7 6 5] (.seq f78_0 (.seq (.block 1 (ai [ab 8 6, ab 3 8] (.seq (.draw [(ab 9 3,.p), (Gl 10 9 0,.p), (ab 11 10,.p), (gi 11 12 0,.p),
 (gi 11 13 3,.p), (ahk 11 14 2 12 13, .r 0 0), (Lu 11 15 0 14,.p), (Gj 11 16 15, .r 0 0), (gi 11 17 0,.p), (gi 11 18 3,.p), (⟨some (11, true), some 19,
 .bin .sub (.t 18) (.c (vi .i64 1))⟩, .p), (ahk 11 20 2 17 19, .r 0 0), (Lu 11 21 0 20,.p), (Gj 11 22 21, .r 0 0), (ad6 11 23 16 22,.p),
 (ki 24 11 23,.p)]) (cq 24 (ai [gd 2] .ret) .skip)))) (.reg [er 25 6 1, ab 6 25])))
def f78 : FnIR := ⟨26, [.t 2], ai [gd 2] (.seq (ai [ab 4 0, cz 5 4, bw 6 0] (.block 0 (.loop f78_1))) (ai [Cp 2] .ret))⟩
def f79_0 : IR := .reg [ab 10 16]
def f79_1 : IR := ai [ab 23 12, ou 24 23] (cq 24 (ai [ak0 6, ah8 7] .ret) .skip)
def f79_2 : IR := ai [ab 32 10, cz 33 32, Gl 34 33 0] (cq 34 (.reg [ab 35 10, ya 36 2 35 0, bj 37 0 36, av 38 37, bj 39 0 13, cd 1 39 38]) .skip)
def f79_3 : IR := .block 1 (ai [av 18 4, ab 19 10, yz 20 89 18 19, ab 17 20, bo 21 17 0, bo 22 17 1, ab 11 21, ab 12 22] (.seq f79_1 (ai [av 25 3,
 dx 26 25, bj 27 0 26, av 28 27, cz 29 28, io 30 74 29, ⟨none, some 31, .build [.cv (.sc (.string ⟨#[]⟩)), .cv (.sc (.slice none 0 0))] [(1, (1, .t 30))]⟩, Mi 13,
 cd 2 13 31] (.seq f79_2 (.seq (.draw [(av 40 3, .r 0 3), (av 41 8, .r 0 0), (jc 42 2 13, .r 0 0), (af4 43 42, .r 0 0), (Sf 44 41 43,.k), (av 45 3, xj),
 (dx 46 45,.p), (bj 47 0 46,.p), (av 48 47, xj), (ab 49 11,.p), (Qt 50 49, xj), (Sh 51 48 50,.k), (cd 1 8 44,.k), (dx 52 40,.p), (bj 53 0 52,.p),
 (cd 1 53 51,.k)]) (.reg [av 54 9, ab 55 10, cz 56 55, lz 57 54 56, cd 1 9 57]))))))
def f79 : FnIR := ⟨63, [.cell 6 false 1, .cell 7 false 1], ai [rm 3 1 0, rm 4 1 1, ak9 6, ⟨none, some 7, .alloc [.cv (.sc (.bool false))]⟩] (ai [ak9 8] (ai [alx,
 ace 9] (.seq (ai [ab 14 2, jm 15 88 14] (.block 0 (.rangeF (.t 15) [16] f79_0 f79_3))) (.seq (.draw [(av 58 8, .r 0 0), (av 59 9, xj), (ab 60 2,.p),
 (cz 61 60,.p), (Jw 62 59 61,.p), (cd 1 6 58,.k), (cd 1 7 62,.k)]) .ret))))⟩
def f80_0 : IR := ai [ab 5 1, rp 6 5 0] (cq 6 (.reg [⟨none, some 7, .mkif 9 (.c (.cv (.sc (.string ⟨#[99, 97, 110, 110, 111, 116, 32, 98, 101, 32, 110, 101, 103, 97, 116,
 105, 118, 101]⟩))))⟩, afm 7]) .skip)
def f80 : FnIR := ⟨27, [.t 4], ai [dg 4] (.seq f80_0 (.seq (ai [ab 8 1, ab 9 0, af8 10 9, ab 11 0, cz 12 11, Sj 13 10 12, Sj 14 8 13,
 ab 1 14] (ai [ab 15 1, Gl 16 15 0] (cq 16 (.reg [ab 17 0, ab 18 0, af8 19 18, Ko 20 1 17 19, ab 21 1, ⟨none, some 22,
 .apz 1 1 [.sc (.int .u8 0)] (.t 20) (.t 21)⟩, ab 23 0, cz 24 23, Ko 25 1 22 24, ab 0 25]) .skip))) (ai [ab 26 0, ab 4 26] .ret)))⟩
def f81 : FnIR := ⟨10, [.t 4], ai [gd 4] (ai [ab 5 0, Ri 6 5, ab 7 1, Ri 8 7, Jw 9 6 8, ab 4 9] .ret)⟩
def f82_0 : IR := cq 26 .skip (.exit 1)
def f82_1 : IR := ai [ab 28 7, yx 29 2 28, ab 30 6, ⟨none, some 31, .bin .geq (.t 29) (.t 30)⟩] (cq 31 (ai [bw 2 0, dg 3, dq 4 11] .ret) .skip)
def f82_2 : IR := ai [ab 45 10, ou 46 45] (cq 46 (ai [bw 2 0, dg 3, dq 4 11] .ret) .skip)
def f82_3 : IR := ai [jh 26 25 24] (.seq f82_0 (.seq (.block 2 (ai [ab 27 25, ab 7 27] (.seq f82_1 (ai [ab 32 0, ab 33 7, yx 34 2 33, gb 35 1 32 34,
 av 36 35, rr 37 36, ab 8 37] (ai [ab 39 0, ab 40 8, ab 41 6, ae2 42 91 39 40 41, ab 38 42, bo 43 38 0, bo 44 38 1, Mi 9, cd 2 9 43,
 ab 10 44] (.seq f82_2 (.reg [ab 47 5, jc 48 2 9, af4 49 48, Sf 50 47 49, ab 51 8, ab 5 50, ab 6 51]))))))) (.reg [er 52 25 1, ab 25 52])))
def f82 : FnIR := ⟨75, [.t 2, .t 3, .t 4], ai [bw 2 0, dg 3, dq 4 0] (.seq (.block 0 (ai [ab 14 0, cz 15 14, ⟨none, some 16,
 .bin .neq (.t 15) (.c (vi .i64 256))⟩, ab 13 16] (cq 13 (ai [bw 2 0, dg 3, dq 4 11] .ret) (ai [ab 18 0, io 19 90 18, ou 20 19,
 ab 17 20] (cq 17 (ai [bw 2 0, dg 3, dq 4 12] .ret) .skip))))) (ai [dg 5] (ai [bw 6 252] (.seq (ai [ab 21 0, ya 22 1 21 1, av 23 22,
 rr 24 23, bw 25 0] (.block 1 (.loop f82_3))) (.seq (ai [ab 54 0, ya 55 1 54 0, av 56 55, rr 57 56, ab 58 5, yz 59 89 57 58, ab 53 59, bo 60 53 0,
 bo 61 53 1, ab 11 60, ab 12 61] (ai [ab 62 12, ou 63 62, ab 64 63, gn 64 65 11, gn 64 66 0, ahx 64 67 81 65 66, Wn 64 68 67,
 lh 69 64 68] (cq 69 (ai [bw 2 0, dg 3, dq 4 11] .ret) .skip))) (ai [ab 70 0, ya 71 1 70 0, av 72 71, rr 73 72, ab 74 5, ab 2 73, ab 3 74,
 dq 4 0] .ret))))))⟩
def f83_0 : IR := ai [ab 10 0, cz 11 10, ab 12 1, cz 13 12, Zv 14 11 13] (cq 14 (ai [gd 6] .ret) .skip)
def f83_1 : IR := cq 18 .skip (.exit 0)
def f83_2 : IR := ai [jh 18 17 16] (.seq f83_1 (.seq (.block 1 (ai [ab 19 17, gb 20 1 15 17, av 21 20, ab 7 19, ab 8 21] (ai [ab 22 1, ab 23 7,
 gb 24 1 22 23, av 25 24, ab 9 25] (ai [ab 26 2, ab 27 8, ab 28 9, ⟨none, some 29, .callv true (.t 26) [.t 27, .t 28]⟩,
 ou 30 29] (cq 30 (ai [gd 6] .ret) .skip))))) (.reg [er 31 17 1, ab 17 31])))
def f83 : FnIR := ⟨32, [.t 6], ai [gd 6] (.seq f83_0 (.seq (ai [ab 15 0, cz 16 15, bw 17 0] (.block 0 (.loop f83_2))) (ai [Cp 6] .ret)))⟩
def f84 : FnIR := ⟨8, [.t 2, .t 3], ai [dg 2, dq 3 0] (ai [ab 4 0, ⟨none, some 5, .call 92 true [.t 4, .c (.func 93 [])]⟩, bo 6 5 0, bo 7 5 1, ab 2 6,
 ab 3 7] .ret)⟩
def f87 : FnIR := ⟨5, [.t 2], ai [aj8 2] (ai [ab 3 0, ⟨none, some 4, .call 95 true [.c (vi .u32 0), .t 3]⟩, ab 2 4] .ret)⟩
def f88 : FnIR := ⟨4, [.t 2], ai [rm 1 1 0, aln 2] (ai [Zw 3 96 1, ab 2 3] .ret)⟩
def f89_0 : IR := ai [ab 11 0, rp 12 11 0, ab 13 12, gn 13 14 0, Bu 13 15 14 4, lh 16 13 15, ab 17 16, gn 17 18 1, ⟨some (17, false), some 19,
 .call 97 true [.t 18]⟩, gn 17 20 1, Cq 17 21 20, ⟨some (17, false), some 22, .bin .lss (.t 19) (.t 21)⟩, lh 23 17 22] (cq 23 (ai [dg 4, gd 5] .ret) .skip)
def f89_1 : IR := cq 34 .skip (.exit 0)
def f89_2 : IR := ai [jh 34 33 32] (.seq f89_1 (.seq (.block 1 (ai [ab 35 33, gb 36 2 31 33, jc 37 2 36, Mi 9, ab 8 35, cd 2 9 37] (ai [jc 38 2 9,
 io 39 98 38, ab 10 39] (ai [ab 40 7, ab 41 10, cz 42 41, Sj 43 40 42, ab 7 43] (ai [ab 44 8, yx 45 2 44, ab 46 7, pq 47 46, abt 48 252 6 45,
 cd 1 48 47] (.reg [ab 49 7, ⟨none, some 50, .slA 252 1 (.t 6) (some (.t 49)) none⟩, ab 51 10, Jh 52 1 50 51])))))) (.reg [er 53 33 1, ab 33 53])))
def f89 : FnIR := ⟨56, [.t 4, .t 5], ai [dg 4, gd 5] (.seq f89_0 (ai [⟨none, some 6, .alloc (List.replicate 252 (.cv (.sc (.int .u8 0))))⟩] (ai [ab 24 0, pq 25 24,
 ab 26 1, cz 27 26, pq 28 27, Iy 29 252 6 0, cd 1 29 25, Iy 30 252 6 1, cd 1 30 28] (ai [bw 7 252] (.seq (ai [ab 31 1, cz 32 31,
 bw 33 0] (.block 0 (.loop f89_2))) (ai [Nh 54 252 6, jm 55 77 54, ab 4 55, Cp 5] .ret))))))⟩
def f90 : FnIR := ⟨17, [.t 2], ai [gd 2] (ai [ab 4 0, cz 5 4, abh 6 5 4, ab 3 6] (ai [ab 7 3, Rz 8 7 0, ab 9 8, gi 9 10 0, gi 9 11 3, ⟨some (9,
 true), some 12, .slL 1 (.t 10) none (some (.t 11)) none⟩, ⟨some (9, true), some 13, .call 77 true [.t 12]⟩, gi 9 14 0, ab6 9 15 81 13 14, ki 16 9 15, ab 2 16] .ret))⟩
def f91_0 : IR := ai [ab 12 1, ab 13 2, ⟨none, some 14, .bin .geq (.t 12) (.t 13)⟩] (cq 14 (ai [jc 15 2 6, cd 2 6 15, gd 7] .ret) .skip)
def f91_1 : IR := ai [ab 25 10, Hr 26 25] (cq 26 (ai [jc 27 2 6, cd 2 6 27, gd 7] .ret) .skip)
def f91 : FnIR := ⟨48, [.cell 6 true 2, .t 7], ai [Mi 6, gd 7] (.seq f91_0 (ai [ab 17 0, ab 18 2, Ko 19 1 17 18, ab 20 1, aa1 21 19 20 30, ab 16 21,
 bo 22 16 0, bo 23 16 1, bo 24 16 2, ab 8 22, ab 9 23, ab 10 24] (.seq f91_1 (ai [ab 29 0, ab 30 2, Ko 31 1 29 30, ab 32 9, aa1 33 31 32 150,
 ab 28 33, bo 34 28 0, bo 35 28 1, bo 36 28 2, ab 11 34, ab 9 35, ab 10 36] (ai [ab 37 8, ab 38 11, ⟨none, some 39, .cvSB false (.t 38)⟩,
 ahy 40 37 39, ab 41 10, Vn 42 41, ab 43 42, gi 43 44 9, gi 43 45 2, ⟨some (43, true), some 46, .bin .eql (.t 44) (.t 45)⟩, ki 47 43 46, cd 2 6 40,
 ab 7 47] .ret)))))⟩
def f92_0 : IR := .seq (ai [ab 23 9, Vn 24 23, ab 25 24, gi 25 26 7, agt 25 27 26 0,
 ki 28 25 27] (cq 28 .skip (.exit 0))) (.seq (.block 1 (ai [Ue 10] (ai [ab 32 1, ab 33 0, ab 34 8, ⟨none, some 35, .callv true (.t 32) [.t 33, .t 34]⟩,
 ab 31 35, bo 36 31 0, bo 37 31 1, bo 38 31 2, cd 3 10 36, ab 8 37, ab 9 38] (ai [ab 39 9, Vn 40 39] (cq 40 (.reg [ab 41 6, jc 42 3 10,
 al2 43 42, ah5 44 41 43, ab 6 44]) .skip))))) (.reg [ab 29 7, abh 30 29 1, ab 7 30]))
def f92 : FnIR := ⟨55, [.t 4, .t 5], ai [dg 4, dq 5 0] (ai [dg 6] (ai [ab 12 0, ⟨none, some 13, .call 100 true [.t 12, .c (vi .i64 0)]⟩, ab 11 13,
 bo 14 11 0, bo 15 11 1, bo 16 11 2, ab 7 14, ab 8 15, ab 9 16] (.seq (ai [ab 17 9, Vn 18 17, ab 19 18, gi 19 20 7, agt 19 21 20 5000,
 ki 22 19 21] (cq 22 (.reg [dq 9 3]) .skip)) (.seq (.block 0 (.loop f92_0)) (.seq (.block 2 (ai [ab 46 9, Hr 47 46, ab 45 47] (cq 45 (ai [ab 48 9, dg 4,
 ab 5 48] .ret) (ai [ab 50 8, ab 51 0, cz 52 51, jh 53 50 52, ab 49 53] (cq 49 (ai [dg 4, dq 5 11] .ret) .skip))))) (ai [ab 54 6, ab 4 54,
 dq 5 0] .ret))))))⟩
def f93 : FnIR := ⟨59, [.cell 4 true 3, .t 5, .t 6], ai [Ue 4, bw 5 0, dq 6 0] (ai [ab 11 0, ab 12 1, aa1 13 11 12 30, ab 10 13, bo 14 10 0,
 bo 15 10 1, bo 16 10 2, ab 7 14, ab 1 15, ab 8 16] (.seq (.block 0 (ai [ab 18 8, Hr 19 18, ab 17 19] (cq 17 (ai [agy 20, ab 21 8, cd 3 4 20,
 bw 5 0, ab 6 21] .ret) (ai [ab 23 1, ab 24 0, cz 25 24, Jw 26 23 25, ab 22 26] (cq 22 (ai [agy 27, cd 3 4 27, bw 5 0,
 dq 6 10] .ret) (ai [ab 29 0, ab 30 1, gb 31 1 29 30, av 32 31, ahf 33 32 1, ab 28 33] (cq 28 (ai [ab 34 7, aji 35 34, ab 36 1, er 37 36 1,
 cd 3 4 35, ab 5 37, dq 6 0] .ret) (ai [ab 39 0, ab 40 1, gb 41 1 39 40, av 42 41, ajw 43 42 1, ab 38 43] (cq 38 (ai [agy 44, cd 3 4 44,
 bw 5 0, dq 6 11] .ret) .skip))))))))) (ai [ab 46 0, ab 47 1, er 48 47 1, aa1 49 46 48 150, ab 45 49, bo 50 45 0, bo 51 45 1, bo 52 45 2, ab 9 50,
 ab 1 51, ab 8 52] (ai [ab 53 7, ab 54 9, ⟨none, some 55, .cvSB false (.t 54)⟩, ak1 56 53 55, ab 57 1, ab 58 8, cd 3 4 56, ab 5 57, ab 6 58] .ret))))⟩
def f95_0 : IR := cq 14 .skip (.exit 0)
def f95_1 : IR := ai [jh 14 13 12] (.seq f95_0 (.seq (.block 1 (ai [gb 15 1 11 13, av 16 15, ab 7 16] (.reg [ab 17 0, Le 18 17 8, ab 19 0, pq 20 19,
 ab 21 7, afj 22 20 21, abt 23 256 5 22, av 24 23, afj 25 18 24, ab 0 25]))) (.reg [er 26 13 1, ab 13 26])))
def f95 : FnIR := ⟨29, [.t 4], ai [aj8 4] (ai [Zl 8 102, ⟨none, some 5, .alloc (List.replicate 256 (.cv (.sc (.int .u32 0))))⟩, cd 256 5 8] (ai [ab 9 0, ⟨none,
 some 10, .un .xor (.t 9)⟩, ab 0 10] (.seq (ai [ab 11 1, cz 12 11, bw 13 0] (.block 0 (.loop f95_1))) (ai [ab 27 0, ⟨none, some 28, .un .xor (.t 27)⟩,
 ab 4 28] .ret))))⟩
def f96_0 : IR := ai [ab 6 0, av 7 1, ab 8 3, Ko 9 2 7 8, Xs 10 6 9, ou 11 10, ab 12 11, gn 12 13 3, ⟨some (12, false), some 14,
 .bin .eql (.t 13) (.c (vi .i64 0))⟩, lh 15 12 14, ab 16 15, gn 16 17 3, Kh 16 18 1, Cq 16 19 18, ⟨some (16, false), some 20, .bin .eql (.t 17) (.t 19)⟩,
 lh 21 16 20] (cq 21 .ret .skip)
def f96_1 : IR := .block 1 (ai [av 4 1, io 5 97 4, ab 3 5] (.seq f96_0 (.reg [av 22 1, ab 23 3, wg 24 2 22 23, cd 1 1 24])))
def f96 : FnIR := ⟨25, [], .block 0 (.loop f96_1)⟩
def f97_0 : IR := cq 9 .skip (.exit 0)
def f97_1 : IR := ai [bj 13 0 5, av 14 13, aeh 15 14, Gl 16 15 30, ab 17 16, Rq 17 18 1 5, Kh 17 19 18, Cq 17 20 19, Bu 17 21 20 150,
 lh 22 17 21] (cq 22 (ai [ab 23 4, ab 2 23] .ret) .skip)
def f97_2 : IR := ai [jh 9 8 7] (.seq f97_0 (.seq (.block 1 (ai [ab 10 8, gb 11 2 6 8, jc 12 2 11, Mi 5, ab 4 10, cd 2 5 12] (.seq f97_1 (ai [ab 24 3,
 jc 25 2 5, io 26 98 25, cz 27 26, yx 28 1 27, lz 29 24 28, ab 3 29] (ai [ab 30 3, Gl 31 30 250] (cq 31 (ai [ab 32 4,
 ab 2 32] .ret) .skip)))))) (.reg [er 33 8 1, ab 8 33])))
def f97 : FnIR := ⟨36, [.t 2], ai [bw 2 0] (ai [bw 3 0] (.seq (ai [ab 6 0, cz 7 6, bw 8 0] (.block 0 (.loop f97_2))) (ai [ab 34 0, cz 35 34,
 ab 2 35] .ret)))⟩
def f98 : FnIR := ⟨11, [.t 2], ai [rm 1 2 0, dg 2] (.seq (.draw [(bj 3 0 1,.p), (av 4 3, .r 0 0), (jm 5 75 4,.k), (bj 6 1 1,.p), (av 7 6, xj), (Ri 8 7,
 xj), (jm 9 75 8,.k), (yf 10 5 9,.k), (ab 2 10,.p)]) .ret)⟩
def f99 : FnIR := ⟨44, [.t 6, .t 7, .t 8], ai [Yt, bw 7 0, dq 8 0] (ai [ab 13 0, ab 14 1, yz 15 100 13 14, ab 12 15, bo 16 12 0, bo 17 12 1,
 bo 18 12 2, ab 9 16, ab 10 17, ab 11 18] (.seq (.block 0 (ai [ab 20 11, Hr 21 20, ab 19 21] (cq 19 (ai [ab 22 11, Yt, bw 7 0,
 ab 8 22] .ret) (ai [ab 24 9, ab 25 2, Tn 26 24 25, ab 23 26] (cq 23 (ai [Yt, bw 7 0, dq 8 3] .ret) (ai [ab 28 9, ab 29 0, cz 30 29,
 ab 31 10, Sj 32 30 31, Tn 33 28 32, ab 27 33] (cq 27 (ai [Yt, bw 7 0, dq 8 10] .ret) .skip))))))) (ai [ab 34 0, ab 35 10, ab 36 10, ab 37 9,
 lz 38 36 37, ⟨none, some 39, .slL 1 (.t 34) (some (.t 35)) (some (.t 38)) none⟩, Ri 40 39, ab 41 10, ab 42 9, lz 43 41 42, ab 6 40, ab 7 43,
 dq 8 0] .ret)))⟩
def f100_0 : IR := .seq (ai [ab 18 8, rp 19 18 8] (cq 19 .skip (.exit 0))) (.seq (.block 1 (.seq (ai [ab 22 1, ab 23 8, lz 24 22 23, ab 25 0, cz 26 25,
 Jw 27 24 26] (cq 27 (.goto 0) .skip)) (ai [ab 28 0, ab 29 1, ab 30 8, lz 31 29 30, gb 32 1 28 31, av 33 32, ab 9 33] (ai [ab 34 7, ab 35 9,
 akp 36 35 127, rr 37 36, ab 38 8, af7 39 7 38, ⟨none, some 40, .bin .shl (.t 37) (.t 39)⟩, Ti 41 34 40, ab 7 41] (ai [ab 42 9, akp 43 42 128,
 ahf 44 43 0] (cq 44 (.seq (ai [ab 45 9, ahf 46 45 0, ab 47 46, gi 47 48 8, agt 47 49 48 0, ki 50 47 49, ab 51 50, gn 51 52 7,
 Bu 51 53 52 9007199254740992, lh 54 51 53] (cq 54 (.goto 1) .skip)) (ai [ab 55 7, ab 56 1, ab 57 8, lz 58 56 57, er 59 58 1, ab 4 55, ab 5 59,
 dq 6 0] .ret)) .skip)))))) (.reg [ab 20 8, er 21 20 1, ab 8 21]))
def f100_1 : IR := ai [bw 7 0, bw 8 0] (.seq (ai [ab 10 1, rp 11 10 0, ab 12 11, gn 12 13 1, gn 12 14 0, Cq 12 15 14, agq 12 16 13 15,
 lh 17 12 16] (cq 17 (.goto 0) .skip)) (.seq (.block 0 (.loop f100_0)) (.seq (.label 1) (.seq (ai [bw 4 0, bw 5 0, dq 6 11] .ret) (.seq (.label 0) (ai [bw 4 0,
 bw 5 0, dq 6 10] .ret))))))
def f100 : FnIR := ⟨60, [.t 4, .t 5, .t 6], ai [bw 4 0, bw 5 0, dq 6 0] (.scope f100_1)⟩
def f102_0 : IR := cq 5 .skip (.exit 0)
def f102_1 : IR := cq 10 .skip (.exit 2)
def f102_2 : IR := ai [rp 10 9 8] (.seq f102_1 (.seq (.block 3 (.reg [ab 11 3, Le 12 11 1, ab 13 3, ⟨none, some 14, .bin .and (.t 13) (.c (vi .u32 1))⟩, ⟨none,
 some 15, .bin .mul (.c (vi .u32 3988292384)) (.t 14)⟩, afj 16 12 15, ab 3 16])) (.reg [er 17 9 1, ab 9 17])))
def f102_3 : IR := ai [rp 5 4 256] (.seq f102_0 (.seq (.block 1 (ai [ab 6 4, ab 2 6] (ai [ab 7 2, ⟨none, some 8, .cvI .u32 (.t 7)⟩,
 ab 3 8] (.seq (ai [bw 9 0] (.block 2 (.loop f102_2))) (.reg [ab 18 2, ab 19 3, abt 20 256 1 18, cd 1 20 19]))))) (.reg [er 21 4 1, ab 4 21])))
def f102 : FnIR := ⟨23, [.cell 0 true 256], ai [⟨none, some 0, .alloc (List.replicate 256 (.cv (.sc (.int .u32 0))))⟩] (ai [⟨none, some 1,
 .alloc (List.replicate 256 (.cv (.sc (.int .u32 0))))⟩] (.seq (ai [bw 4 0] (.block 0 (.loop f102_3))) (ai [jc 22 256 1, cd 256 0 22] .ret)))⟩
def f119_0 : IR := ai [ab 9 0, ab 10 1, qd 11 56 9 10, ou 12 11] (cq 12 (ai [dg 4, dq 5 20] .ret) .skip)
def f119_1 : IR := cq 26 .skip (.exit 0)
def f119_2 : IR := ai [jh 26 25 24] (.seq f119_1 (.seq (.block 1 (ai [gb 27 65 23 25, jc 28 65 27, ⟨none, some 8,
 .alloc ((.cv (.sc (.int .i64 0))) :: List.replicate 64 (.cv (.sc (.int .u8 0))))⟩, cd 65 8 28] (ai [bj 29 0 8, av 30 29, ab 31 1,
 Jw 32 30 31] (cq 32 (.reg [bj 33 1 8, jc 34 64 33, cd 64 6 34]) .skip)))) (.reg [er 35 25 1, ab 25 35])))
def f119 : FnIR := ⟨37, [.t 4, .t 5], ai [dg 4, dq 5 0] (.seq f119_0 (ai [ab 13 0, dx 14 13, bj 15 0 14, av 16 15, ab 17 1, gb 18 64 16 17,
 jc 19 64 18, ⟨none, some 6, .alloc (List.replicate 64 (.cv (.sc (.int .u8 0))))⟩, cd 64 6 19] (.seq (ai [ab 20 0, dx 21 20, bj 22 1 21, av 23 22, cz 24 23,
 bw 25 0] (.block 0 (.loop f119_2))) (ai [Nh 36 64 6, ab 4 36, dq 5 0] .ret))))⟩
abbrev ait : List Nat := [31, 32, 27, 119, 29, 26, 28, 56, 57, 54, 53, 10, 14, 15, 16, 20, 21, 25, 11, 13, 34, 60, 33, 63, 35, 38, 36, 17]
abbrev aks : List Nat := [31, 32, 27, 119, 29, 26, 28, 56, 57, 54, 53, 10]
def ali : Nat → List Nat := fun n => match n with
 | 9 | 11 | 12 | 13 | 14 | 15 | 16 | 17 | 20 | 30 | 33 | 35 | 38 | 41 | 60 => ait
 | 10 | 26 | 27 | 28 | 29 | 31 | 32 | 53 | 54 | 55 | 56 | 57 | 58 | 119 => aks
 | 19 => [45, 44]
 | 34 => [31, 32, 27, 119, 29, 26, 28, 56, 57, 54, 53, 10, 14, 15, 16, 20, 21, 25, 11, 13, 34, 60, 33, 63, 35, 38, 36, 17, 45]
 | 36 => [31, 32, 27, 119, 29, 26, 28, 56, 57, 54, 53, 10, 14, 15, 16, 20, 21, 25, 11, 13, 34, 60, 33, 63, 35, 38, 36, 17, 45, 44]
 | 37 => [65]
 | 39 => [66, 67, 50, 70]
 | 42 => [66]
 | 44 => [72]
 | 46 | 75 => [74]
 | 48 => [76]
 | 50 | 73 | 96 => [3000000]
 | 59 => [79]
 | 61 => [80]
 | 63 => [31, 32, 27, 119, 29, 26, 28, 56, 57, 54, 53, 10, 14, 15, 16, 20, 21, 25, 11, 13, 34, 60, 33, 63, 35, 38, 36, 17, 1000081]
 | 67 => [50, 3000000]
 | 79 => [88]
 | 89 => [77]
 | 98 => [75]
 | _ => []
def aj9 : Nat → List (Nat × Nat) := fun n => match n with
 | 10 => [(3, 1)]
 | 13 => [(10, 6)]
 | 36 => [(1, 9)]
 | 49 => [(5, 7), (7, 8), (12, 18)]
 | 54 => [(3, 2)]
 | 77 => [(2, 3)]
 | _ => []
theorem f70_ok : Qq Proofs.Try.prog [3000004] [] Proofs.Try.f70 = some f70 := by kernel_rfl
def f70x : FnIR := ⟨3, [.t 2], .reg [⟨none, some 2, .ins 2 40 (.t 0) (.t 1) (.t 2)⟩]⟩
def F : Nat → Option FnIR := fun n => match n with
 | 9 => some f9
 | 10 => some f10
 | 11 => some f11
 | 12 => some f12
 | 13 => some f13
 | 14 => some f14
 | 15 => some f15
 | 16 => some f16
 | 17 => some f17
 | 18 => some f18
 | 19 => some f19
 | 20 => some f20
 | 22 => some f22
 | 23 => some f23
 | 24 => some f24
 | 26 => some f26
 | 27 => some f27
 | 28 => some f28
 | 29 => some f29
 | 30 => some f30
 | 31 => some f31
 | 32 => some f32
 | 33 => some f33
 | 34 => some f34
 | 35 => some f35
 | 36 => some f36
 | 37 => some f37
 | 38 => some f38
 | 39 => some f39
 | 40 => some f40
 | 41 => some f41
 | 42 => some f42
 | 43 => some f43
 | 44 => some f44
 | 45 => some f45
 | 46 => some f46
 | 47 => some f47
 | 48 => some f48
 | 49 => some f49
 | 50 => some f50
 | 52 => some f52
 | 53 => some f53
 | 54 => some f54
 | 55 => some f55
 | 56 => some f56
 | 57 => some f57
 | 58 => some f58
 | 59 => some f59
 | 60 => some f60
 | 61 => some f61
 | 62 => some f62
 | 63 => some f63
 | 64 => some f64
 | 65 => some f65
 | 66 => some f66
 | 67 => some f67
 | 68 => some f68
 | 69 => some f69
 | 70 => some f70x
 | 71 => some f71
 | 72 => some f72
 | 73 => some f73
 | 74 => some f74
 | 75 => some f75
 | 76 => some f76
 | 77 => some f77
 | 78 => some f78
 | 79 => some f79
 | 80 => some f80
 | 81 => some f81
 | 82 => some f82
 | 83 => some f83
 | 84 => some f84
 | 87 => some f87
 | 88 => some f88
 | 89 => some f89
 | 90 => some f90
 | 91 => some f91
 | 92 => some f92
 | 93 => some f93
 | 95 => some f95
 | 96 => some f96
 | 97 => some f97
 | 98 => some f98
 | 99 => some f99
 | 100 => some f100
 | 102 => some f102
 | 119 => some f119
 | _ => none
def aj7 (f : Nat) : Option FnIR := if f = 70 then none else F f
theorem aoe {f : Nat} {fn : FnIR} (h : F f = some fn) : f < 120 := by
 unfold F at h
 split at h <;> first | decide | cases h
theorem tlt {f : Nat} {fn : FnIR} (h : F f = some fn) : f < YB := Nat.lt_trans (aoe h) (by decide)
theorem aok : ((List.range 120).map fun f => if (aj7 f).isSome = true then (Proofs.Try.prog.funcs[f]?).map fun c => (c.name == "runtime.NumGoroutine", Qq Proofs.Try.prog (ali f) (aj9 f) c) else none) = (List.range 120).map fun f => if (aj7 f).isSome = true then some (false, aj7 f) else none := by kernel_rfl
theorem ao2 (h70 : adz Proofs.Try.prog 70 f70x) : Xo Proofs.Try.prog F := by
 refine ⟨by kernel_rfl, fun f fn h => ⟨tlt h, ?_⟩⟩
 by_cases e70 : f = 70
 ·subst e70
  have h : some f70x = some fn := h
  cases h
  exact .inr h70
 have hf : aj7 f = some fn := by
  unfold aj7
  rw [if_neg e70]
  exact h
 have k := congrArg (·[f]?) aok
 simp only [List.getElem?_map, List.getElem?_range (aoe h)] at k
 have k := Option.some.inj k
 dsimp only at k
 have p : (some fn).isSome = true := rfl
 rw [hf, if_pos p, if_pos p] at k
 cases hc : Proofs.Try.prog.funcs[f]? with
 | none => rw [hc] at k; cases k
 | some c =>
  rw [hc] at k
  have k := Option.some.inj k
  exact .inl ⟨c, ali f, aj9 f, rfl, congrArg (·.1) k, congrArg (·.2) k⟩
end Go.V08
