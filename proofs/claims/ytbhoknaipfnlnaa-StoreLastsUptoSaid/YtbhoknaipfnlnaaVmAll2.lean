/- Part of a proof: of what it says, and when, each theorem tells itself. -/
import Derived.Test.YtbhoknaipfnlnaaVmAll1
import Derived.Lib.VarintBits
import Derived.Carry
import Derived.ChangeArms
import Derived.OpenShut
import Derived.Below
set_option linter.unusedSimpArgs false
set_option linter.unusedVariables false
/-
 Vm: what must hold ahead of a piece of code (own work).
-/
namespace Go.Vm
open Go
abbrev Pst := Out -> St -> Prop
def X (F : Nat -> Option FnIR) (ir : IR) (st : St) (Q : Pst) : Prop := ∃ o st', dr F ir st = some (o, st') /\ Q o st'
def XF (F : Nat -> Option FnIR) (ir : IR) (l : Nat) (st : St) (Q : Pst) : Prop := ∃ o st', bv F ir l st = some (o, st') /\ Q o st'
def XO (F : Nat -> Option FnIR) (ops : List Op1) (st : St) (Q : Pst) : Prop := ∃ o st', dm (call F) ops st = some (o, st') /\ Q o st'
def K (F : Nat -> Option FnIR) (b : IR) (Q : Pst) : Pst := fun o st => match o with
 | .norm => X F b st Q
 | o => Q o st
def B (id : Nat) (Q : Pst) : Pst := fun o st => match o with
 | .exit id' => if id' = id then Q .norm st else Q (.exit id') st
 | o => Q o st
section
variable {F : Nat -> Option FnIR}
theorem X.mono {ir : IR} {st : St} {Q Q' : Pst} (h : X F ir st Q) (hq : ∀ o st, Q o st -> Q' o st) : X F ir st Q' := by
 obtain ⟨o, st', h1, h2⟩ := h
 exact ⟨o, st', h1, hq _ _ h2⟩
theorem gq {α β : Type} {a : α} {b : β} {Q : α -> β -> Prop} : (∃ o st', some (a, b) = some (o, st') /\ Q o st') ↔ Q a b := by
 constructor
 ·rintro ⟨o, st', h, hq⟩
  cases h
  exact hq
 ·exact fun h => ⟨a, b, rfl, h⟩
theorem Cf {α β : Type} {Q : α -> β -> Prop} : (∃ o st', (none : Option (α × β)) = some (o, st') /\ Q o st') ↔ False := by
 constructor
 ·rintro ⟨_, _, h, _⟩; cases h
 ·exact False.elim
theorem ai5 {st : St} {Q : Pst} : X F .skip st Q ↔ Q .norm st := by unfold X; simp only [dr]; exact gq
theorem akj {id : Nat} {st : St} {Q : Pst} : X F (.exit id) st Q ↔ Q (.exit id) st := by unfold X; simp only [dr]; exact gq
theorem aem {l : Nat} {st : St} {Q : Pst} : X F (.label l) st Q ↔ Q .norm st := by unfold X; simp only [dr]; exact gq
theorem aih {l : Nat} {st : St} {Q : Pst} : X F (.goto l) st Q ↔ Q (.goto l) st := by unfold X; simp only [dr]; exact gq
theorem ano {st : St} {Q : Pst} : X F .ret st Q ↔ Q .ret st := by unfold X; simp only [dr]; exact gq
theorem alk {ops : List Op1} {st : St} {Q : Pst} : X F (.reg ops) st Q ↔ XO F ops st Q := by unfold X XO; simp only [dr]
def KQ (g : St -> Option (Out × St)) (Q : Pst) : Pst := fun o st => match o with
 | .norm => ∃ o st', g st = some (o, st') /\ Q o st'
 | o => Q o st
theorem Hp {x : Option (Out × St)} {g : St -> Option (Out × St)} {Q : Pst} :
  (∃ o st', (match (motive := Option (Out × St) -> Option (Out × St)) x with | some (.norm, st1) => g st1 | x => x) = some (o, st') /\ Q o st') ↔
  (∃ o st', x = some (o, st') /\ KQ g Q o st') := by
 cases x with
 | none => constructor <;> (rintro ⟨_, _, h, _⟩; cases h)
 | some y =>
  obtain ⟨o, s⟩ := y
  rw [gq (Q := KQ g Q)]
  cases o with
  | norm => exact Iff.rfl
  | _ => exact gq
theorem ad3 {a b : IR} {st : St} {Q : Pst} : X F (.seq a b) st Q ↔ X F a st (K F b Q) := by
 unfold X
 simp only [dr]
 exact Hp (g := fun st1 => dr F b st1)
theorem aw {b : IR} {st : St} {Q : Pst} : X F (.loop b) st Q ↔ X F b st (K F (.loop b) Q) := by
 unfold X
 rw [Ry]
 exact Hp (g := fun st1 => dr F (.loop b) st1)
theorem af9 {id : Nat} {b : IR} {st : St} {Q : Pst} : X F (.block id b) st Q ↔ X F b st (B id Q) := by
 unfold X
 simp only [dr]
 cases hx : dr F b st with
 | none => constructor <;> (rintro ⟨_, _, h, _⟩; cases h)
 | some y =>
  obtain ⟨o, s⟩ := y
  rw [gq (Q := B id Q)]
  cases o with
  | exit id' =>
   by_cases hid : id' = id
   ·subst hid
    simp only [B, if_true]; exact gq
   ·simp only [B, if_neg hid]; exact gq
  | _ => exact gq
theorem Oi {b : IR} {st : St} {Q : Pst} : K F b Q .norm st ↔ X F b st Q := Iff.rfl
theorem akv {b : IR} {id : Nat} {st : St} {Q : Pst} : K F b Q (.exit id) st ↔ Q (.exit id) st := Iff.rfl
theorem aiy {b : IR} {l : Nat} {st : St} {Q : Pst} : K F b Q (.goto l) st ↔ Q (.goto l) st := Iff.rfl
theorem anm {b : IR} {st : St} {Q : Pst} : K F b Q .ret st ↔ Q .ret st := Iff.rfl
theorem ams {b : IR} {v : VV} {st : St} {Q : Pst} : K F b Q (.pan v) st ↔ Q (.pan v) st := Iff.rfl
theorem alb {id : Nat} {st : St} {Q : Pst} : B id Q .norm st ↔ Q .norm st := Iff.rfl
theorem Jf {id id' : Nat} {st : St} {Q : Pst} : B id Q (.exit id') st ↔ (if id' = id then Q .norm st else Q (.exit id') st) := Iff.rfl
theorem aik {id l : Nat} {st : St} {Q : Pst} : B id Q (.goto l) st ↔ Q (.goto l) st := Iff.rfl
theorem anc {id : Nat} {st : St} {Q : Pst} : B id Q .ret st ↔ Q .ret st := Iff.rfl
theorem an6 {id : Nat} {v : VV} {st : St} {Q : Pst} : B id Q (.pan v) st ↔ Q (.pan v) st := Iff.rfl
noncomputable def J (F : Nat -> Option FnIR) (b : IR) (x : Option (Out × St)) : Option (Out × St) := lim fun n => bt (fun l st => bv F b l st) (fun l => (mm b l).isSome) n x
def S (F : Nat -> Option FnIR) (b : IR) (Q : Pst) : Pst := fun o st => ∃ o' st', J F b (some (o, st)) = some (o', st') /\ Q o' st'
theorem Vs {b : IR} {x : Option (Out × St)} {r : Out × St} : J F b x = some r ↔ ∃ n, bt (fun l st => bv F b l st) (fun l => (mm b l).isSome) n x = some r :=
 Bv fun _ _ _ hnm => km (fun _ _ _ h => h) hnm (fun _ h => h)
theorem Qb {b : IR} {y : Out × St} (h : ∀ l s, y = (.goto l, s) -> (mm b l).isSome = false) : J F b (some y) = some y := Vs.mpr ⟨0, kj h⟩
theorem akz {b : IR} {l : Nat} {st : St} (h : (mm b l).isSome = true) : J F b (some (.goto l, st)) = J F b (bv F b l st) := by
 apply Option.ext
 intro r
 rw [Vs, Vs]
 constructor
 ·rintro ⟨n, hn⟩
  cases n with
  | zero => simp [bt, h] at hn
  | succ n => simp only [bt, h, if_true] at hn; exact ⟨n, hn⟩
 ·rintro ⟨n, hn⟩
  exact ⟨n + 1, by simp only [bt, h, if_true]; exact hn⟩
theorem afa {b : IR} {st : St} {Q : Pst} : X F (.scope b) st Q ↔ X F b st (S F b Q) := by
 unfold X
 simp only [dr]
 cases hx : dr F b st with
 | none =>
  constructor
  ·rintro ⟨o, st', h, _⟩
   obtain ⟨n, hn⟩ := Vs.mp h
   cases n <;> simp [bt] at hn
  ·rintro ⟨_, _, h, _⟩; cases h
 | some y =>
  obtain ⟨o, s⟩ := y
  rw [gq (Q := S F b Q)]
  exact Iff.rfl
theorem alt {b : IR} {st : St} {Q : Pst} : S F b Q .norm st ↔ Q .norm st := by unfold S; rw [Qb (fun l s h => by cases h)]; exact gq
theorem ajo {b : IR} {id : Nat} {st : St} {Q : Pst} : S F b Q (.exit id) st ↔ Q (.exit id) st := by unfold S; rw [Qb (fun l s h => by cases h)]; exact gq
theorem anh {b : IR} {st : St} {Q : Pst} : S F b Q .ret st ↔ Q .ret st := by unfold S; rw [Qb (fun l s h => by cases h)]; exact gq
theorem amx {b : IR} {v : VV} {st : St} {Q : Pst} : S F b Q (.pan v) st ↔ Q (.pan v) st := by unfold S; rw [Qb (fun l s h => by cases h)]; exact gq
theorem Ob {b : IR} {l : Nat} {st : St} {Q : Pst} (h : (mm b l).isSome = true) : S F b Q (.goto l) st ↔ XF F b l st (S F b Q) := by
 unfold S XF
 rw [akz h]
 cases hx : bv F b l st with
 | none =>
  constructor
  ·rintro ⟨o, st', h, _⟩
   obtain ⟨n, hn⟩ := Vs.mp h
   cases n <;> simp [bt] at hn
  ·rintro ⟨_, _, h, _⟩; cases h
 | some y =>
  obtain ⟨o, s⟩ := y
  exact (gq (Q := S F b Q)).symm
theorem An {a b : IR} {l : Nat} {st : St} {Q : Pst} (h : (mm a l).isSome = true) : XF F (.seq a b) l st Q ↔ XF F a l st (K F b Q) := by
 unfold XF
 simp only [bv]
 cases hf : mm a l with
 | none => rw [hf] at h; cases h
 | some y => exact Hp (g := fun st1 => dr F b st1)
theorem eh {a b : IR} {l : Nat} {st : St} {Q : Pst} (h : mm a l = none) : XF F (.seq a b) l st Q ↔ XF F b l st Q := by
 unfold XF
 simp only [bv, h]
theorem wm {l : Nat} {st : St} {Q : Pst} : XF F (.label l) l st Q ↔ Q .norm st := by
 unfold XF
 simp only [bv, beq_self_eq_true, if_true]
 exact gq
def jq : Ins -> Bool
 | .call _ _ _ | .callv _ _ _ | .inv _ _ _ | .panic _ => false
 | _ => true
theorem ac1 {st : St} {Q : Pst} : XO F [] st Q ↔ Q .norm st := by unfold XO; simp only [dm]; exact gq
theorem eu {c : bp} {st : St} {o : Op1} (hp : jq o.i = true) : dv c st o = (match ak st.h (ae st.s) o.i with
    | some (v, h) => some (.norm, ⟨de st.s o.d v, h⟩)
    | none => none) := by
  obtain ⟨g, d, i⟩ := o
  cases i <;> first | rfl | (simp [jq] at hp)
theorem ut {d : Option Nat} {i : Ins} {r : List Op1} {s : List VV} {h : ah} {Q : Pst} {v : VV} {h' : ah} (hp : jq i = true) (hs : ak h (ae s) i = some (v, h')) :
  XO F (⟨none, d, i⟩ :: r) ⟨s, h⟩ Q ↔ XO F r ⟨de s d v, h'⟩ Q := by
 unfold XO
 simp only [dm, bk]
 rw [eu hp]
 simp only [hs]
theorem aa4 {g : Nat} {b : Bool} {d : Option Nat} {i : Ins} {r : List Op1} {s : List VV} {h : ah} {Q : Pst} {t : Bool} (ht : s.getD g .undef = .cv (.sc (.bool t))) :
  XO F (⟨some (g, b), d, i⟩ :: r) ⟨s, h⟩ Q ↔ (if t = b then XO F (⟨none, d, i⟩ :: r) ⟨s, h⟩ Q else XO F r ⟨de s d skp, h⟩ Q) := by
 have hg : s[g]? = some (.cv (.sc (.bool t))) := by
  rw [List.getD_eq_getElem?_getD] at ht
  cases hh : s[g]? with
  | none => rw [hh] at ht; cases ht
  | some x => rw [hh] at ht; exact congrArg some ht
 unfold XO
 simp only [dm, bk, hg]
 by_cases htb : t = b
 ·subst htb
  simp only [beq_self_eq_true, if_true]
  exact Iff.rfl
 ·have : (t == b) = false := by simpa using htb
  simp only [this, if_neg htb]
theorem Tk {d : Option Nat} {f : Nat} {p : Bool} {args : List Opd} {r : List Op1} {s : List VV} {h : ah} {Q : Pst} {v : VV} {h' : ah}
  (hc : ka (call F) h f p (args.map (ae s)) = some (.ret v, h')) : XO F (⟨none, d, .call f p args⟩ :: r) ⟨s, h⟩ Q ↔ XO F r ⟨de s d v, h'⟩ Q := by
 unfold XO
 simp only [dm, bk, dv, hc]
theorem sb {call : bp} {h : ah} {f : Nat} {p : Bool} {args : List VV} {x : Option (CRes × ah)} (hf : f < Cm) (hd : dy call h f p args = x) : ka call h f p args = x := by
 unfold ka; rw [if_pos hf]; exact hd
theorem Nu {d : Option Nat} {p : Bool} {x : Opd} {args : List Opd} {r : List Op1} {s : List VV} {h : ah} {Q : Pst} {v : VV} {h' : ah} {f : Nat} {caps : List VV}
  (hx : ae s x = .func f caps) (hc : dy (call F) h f p (args.map (ae s) ++ caps) = some (.ret v, h')) (hf : f < YB := by decide) : XO F (⟨none, d, .callv p x args⟩ :: r) ⟨s, h⟩ Q ↔ XO F r ⟨de s d v, h'⟩ Q := by
 unfold XO
 simp only [dm, bk, dv, hx, sw, if_pos hf, hc]
theorem tv {d : Option Nat} {tbl : List (Nat × Nat)} {x : Opd} {args : List Opd} {r : List Op1} {s : List VV} {h : ah} {Q : Pst} {v : VV} {h' : ah} {f t : Nat} {u : VV}
  (hx : ae s x = .iface t u) (hf : Sr tbl (.iface t u) = some (f, u)) (hc : call F f (u :: args.map (ae s)) h = some (.ret v, h')) (hk : XO F r ⟨de s d v, h'⟩ Q) : XO F (⟨none, d, .inv tbl x args⟩ :: r) ⟨s, h⟩ Q := by
 obtain ⟨o, st', h1, h2⟩ := hk
 refine ⟨o, st', ?_, h2⟩
 simp only [dm, bk, dv, hx, hf, dy, Bool.false_eq_true, if_false, hc]
 exact h1
theorem Gw {d : Option Nat} {x : Opd} {args : List Opd} {r : List Op1} {s : List VV} {h : ah} {Q : Pst} {v : VV} {h' : ah} {id : Nat}
  (hx : ae s x = .yield id) (hc : call F (YB + id) (args.map (ae s)) h = some (.ret v, h')) (hk : XO F r ⟨de s d v, h'⟩ Q) : XO F (⟨none, d, .callv false x args⟩ :: r) ⟨s, h⟩ Q := by
 obtain ⟨o, st', h1, h2⟩ := hk
 refine ⟨o, st', ?_, h2⟩
 simp only [dm, bk, dv, hx, sw, Bool.false_eq_true, if_false, dy, List.append_nil, hc]
 exact h1
def RB (id : Nat) (ps : List Nat) (asg body : IR) (s0 : List VV) (P : VV -> ah -> Prop) : Pst := fun out st2 =>
 ∃ j t p, age out = some j /\ st2.h[id]? = some (.loop ps asg body s0 t p) /\ P (.cv (.sc (.bool j.isNone))) (st2.h.set id (.loop ps asg body s0 (if j.isNone then .ready else .done) j))
def RA (F : Nat -> Option FnIR) (id : Nat) (ps : List Nat) (asg body : IR) (s0 : List VV) (P : VV -> ah -> Prop) : Pst := fun o st1 =>
 o = .norm /\ ∃ p, st1.h[id]? = some (.loop ps asg body s0 .ready p) /\ X F body ⟨st1.s, st1.h.set id (.loop ps asg body s0 .busy p)⟩ (RB id ps asg body s0 P)
theorem Eu {id : Nat} (hF : F (YB + id) = none) {ps : List Nat} {asg body : IR} {s0 : List VV} {t0 : LoopState} {p0 : Option Jmp} {a : List VV} {h : ah} {P : VV -> ah -> Prop} (ho : h[id]? = some (.loop ps asg body s0 t0 p0)) (hl : a.length = ps.length)
  (hx : X F asg ⟨qu s0 ps a, h⟩ (RA F id ps asg body s0 P)) : ∃ v h', call F (YB + id) a h = some (.ret v, h') /\ P v h' := by
 obtain ⟨o, st1, h1, rfl, p1, h2, out, st2, h3, j, t, p, h4, h5, h6⟩ := hx
 refine ⟨_, _, Sg hF ?_, h6⟩
 unfold qo
 simp only [ho, if_pos hl, h1, h2, h3, h4, h5]
theorem zl {x : Opd} {ps : List Nat} {asg body : IR} {s : List VV} {h : ah} {Q : Pst} {f : Nat} {caps : List VV} {v : VV} {h2 : ah} {t : LoopState} {p : Option Jmp} (hx : ae s x = .func f caps)
  (hc : call F f (.yield h.length :: caps) (h ++ [.loop ps asg body s .ready none]) = some (.ret v, h2)) (ho : h2[h.length]? = some (.loop ps asg body s t p)) (ht : t ≠ .busy)
  (hk : Q (Kx p) ⟨s, h2.set h.length (.loop ps asg body s .exhausted p)⟩) (hf : f < YB := by decide) : X F (.rangeF x ps asg body) ⟨s, h⟩ Q := by
 refine ⟨_, _, ?_, hk⟩
 simp only [dr]
 unfold ng
 simp only [hx, if_pos hf, hc, ho]
theorem ahl {s : List VV} {i : Nat} {v d : VV} (h : i < s.length) : (s.set i v).getD i d = v := by
 rw [List.getD_eq_getElem?_getD, List.getElem?_set_self h]; rfl
theorem di {s : List VV} {i j : Nat} {v d : VV} (h : i ≠ j) : (s.set i v).getD j d = s.getD j d := by
 rw [List.getD_eq_getElem?_getD, List.getElem?_set_ne h, List.getD_eq_getElem?_getD]
theorem ac {s : List VV} {i : Nat} {v : VV} : (s.set i v).length = s.length := List.length_set
theorem Mj {s : List VV} {n : Nat} : ae s (.t n) = s.getD n .undef := rfl
theorem agv {s : List VV} {v : VV} : ae s (.c v) = v := rfl
theorem oe {s : List VV} {n : Nat} {v : VV} : de s (some n) v = s.set n v := rfl
theorem Au {s : List VV} {v : VV} : de s none v = s := rfl
def RQ (res : List ResV) (P : VV -> ah -> Prop) : Pst := fun o st => (match o with | .norm | .ret => True | _ => False) /\ ∃ vs, jz st res = some vs /\ P (ad8 vs) st.h
theorem rj {f : Nat} {fn : FnIR} (hf : F f = some fn) {a : List VV} {h : ah} {P : VV -> ah -> Prop}
  (hx : X F fn.body ⟨a ++ List.replicate (fn.nt - a.length) .undef, h⟩ (RQ fn.res P)) (hn : Nat.ble a.length fn.nt = true := by rfl) : ∃ v h', call F f a h = some (.ret v, h') /\ P v h' := by
 obtain ⟨o, st, h1, h2, vs, h3, h4⟩ := hx
 refine ⟨ad8 vs, st.h, ?_, h4⟩
 refine afe hf ?_
 unfold xw
 rw [if_neg (by rw [hn]; decide), h1]
 cases o with
 | norm => simp only [h3, Option.map_some]
 | ret => simp only [h3, Option.map_some]
 | _ => exact h2.elim
def Is (v : VV) (h : ah) (v' : VV) (h' : ah) : Prop := v' = v /\ h' = h
theorem Is.refl (v : VV) (h : ah) : Is v h v h := ⟨rfl, rfl⟩
theorem Wo {f : Nat} {fn : FnIR} (hf : F f = some fn) {a : List VV} {h : ah} {v : VV} {h' : ah}
  (hx : X F fn.body ⟨a ++ List.replicate (fn.nt - a.length) .undef, h⟩ (RQ fn.res (Is v h'))) (hn : Nat.ble a.length fn.nt = true := by rfl) : call F f a h = some (.ret v, h') := by
 obtain ⟨v1, h1, hc, e1, e2⟩ := rj hf hx hn
 rw [hc, e1, e2]
theorem ko {s : List VV} {n : Nat} (hn : n < s.length) : s[n]? = some (s.getD n .undef) := by
 rw [List.getD_eq_getElem?_getD, List.getElem?_eq_getElem hn]; rfl
section
variable {P : VV -> ah -> Prop} {s : List VV} {h : ah} {n m k : Nat}
theorem aop : RQ [] P .ret ⟨s, h⟩ ↔ P (.tup []) h := by
 constructor
 ·rintro ⟨_, vs, h1, h2⟩; cases h1; exact h2
 ·exact fun h1 => ⟨trivial, _, rfl, h1⟩
theorem am0 : RQ [] P .norm ⟨s, h⟩ ↔ P (.tup []) h := by
 constructor
 ·rintro ⟨_, vs, h1, h2⟩; cases h1; exact h2
 ·exact fun h1 => ⟨trivial, _, rfl, h1⟩
theorem aot (hn : n < s.length) : RQ [.t n] P .ret ⟨s, h⟩ ↔ P (s.getD n .undef) h := by
 have hr : jz ⟨s, h⟩ [.t n] = some [s.getD n .undef] := by simp only [jz, xu, ko hn]
 constructor
 ·rintro ⟨_, vs, h1, h2⟩; rw [hr] at h1; cases h1; exact h2
 ·exact fun h1 => ⟨trivial, _, hr, h1⟩
theorem aou (hn : n < s.length) (hm : m < s.length) : RQ [.t n, .t m] P .ret ⟨s, h⟩ ↔ P (.tup [s.getD n .undef, s.getD m .undef]) h := by
 have hr : jz ⟨s, h⟩ [.t n, .t m] = some [s.getD n .undef, s.getD m .undef] := by simp only [jz, xu, ko hn, ko hm]
 constructor
 ·rintro ⟨_, vs, h1, h2⟩; rw [hr] at h1; cases h1; exact h2
 ·exact fun h1 => ⟨trivial, _, hr, h1⟩
theorem apa (hn : n < s.length) (hm : m < s.length) (hk : k < s.length) : RQ [.t n, .t m, .t k] P .ret ⟨s, h⟩ ↔ P (.tup [s.getD n .undef, s.getD m .undef, s.getD k .undef]) h := by
 have hr : jz ⟨s, h⟩ [.t n, .t m, .t k] = some [s.getD n .undef, s.getD m .undef, s.getD k .undef] := by simp only [jz, xu, ko hn, ko hm, ko hk]
 constructor
 ·rintro ⟨_, vs, h1, h2⟩; rw [hr] at h1; cases h1; exact h2
 ·exact fun h1 => ⟨trivial, _, hr, h1⟩
end
def XV (F : Nat -> Option FnIR) (x : Option (VV × ah)) (d : Option Nat) (r : List Op1) (s : List VV) (Q : Pst) : Prop := ∃ v h, x = some (v, h) /\ XO F r ⟨de s d v, h⟩ Q
theorem lf {v : VV} {h : ah} {d : Option Nat} {r : List Op1} {s : List VV} {Q : Pst} : XV F (some (v, h)) d r s Q ↔ XO F r ⟨de s d v, h⟩ Q := by
 constructor
 ·rintro ⟨_, _, he, hk⟩; cases he; exact hk
 ·exact fun hk => ⟨v, h, rfl, hk⟩
def XW (F : Nat -> Option FnIR) (x : Option VV) (h : ah) (d : Option Nat) (r : List Op1) (s : List VV) (Q : Pst) : Prop := ∃ v, x = some v /\ XO F r ⟨de s d v, h⟩ Q
theorem Uu {v : VV} {h : ah} {d : Option Nat} {r : List Op1} {s : List VV} {Q : Pst} : XW F (some v) h d r s Q ↔ XO F r ⟨de s d v, h⟩ Q := by
 constructor
 ·rintro ⟨_, he, hk⟩; cases he; exact hk
 ·exact fun hk => ⟨v, rfl, hk⟩
def XB (F : Nat -> Option FnIR) (v : VV) (a b : IR) (st : St) (Q : Pst) : Prop := ∃ t, v = .cv (.sc (.bool t)) /\ (if t then X F a st Q else X F b st Q)
theorem Xh {a b : IR} {st : St} {Q : Pst} : XB F (.cv (.sc (.bool true))) a b st Q ↔ X F a st Q := by
 constructor
 ·rintro ⟨_, he, hk⟩; cases he; exact hk
 ·exact fun hk => ⟨true, rfl, hk⟩
theorem Oh {a b : IR} {st : St} {Q : Pst} : XB F (.cv (.sc (.bool false))) a b st Q ↔ X F b st Q := by
 constructor
 ·rintro ⟨_, he, hk⟩; cases he; simpa using hk
 ·exact fun hk => ⟨false, rfl, hk⟩
theorem Pe {p : Prop} [Decidable p] {a b : IR} {st : St} {Q : Pst} (hp : p -> X F a st Q) (hq : ¬p -> X F b st Q) : XB F (.cv (.sc (.bool (decide p)))) a b st Q := by
 by_cases h : p
 ·simp only [h, decide_true]; exact Xh.mpr (hp h)
 ·simp only [h, decide_false]; exact Oh.mpr (hq h)
theorem anq {c : Opd} {a b : IR} {s : List VV} {h : ah} {Q : Pst} : X F (.cond c a b) ⟨s, h⟩ Q ↔ XB F (ae s c) a b ⟨s, h⟩ Q := by
 unfold X XB
 simp only [dr]
 constructor
 ·rintro ⟨o, st', he, hq⟩
  cases hv : ae s c with
  | cv w =>
   cases w with
   | sc u =>
    cases u with
    | bool t =>
     rw [hv] at he
     refine ⟨t, rfl, ?_⟩
     cases t
     ·exact ⟨o, st', he, hq⟩
     ·exact ⟨o, st', he, hq⟩
    | _ => rw [hv] at he; cases he
   | sl _ _ _ => rw [hv] at he; cases he
  | _ => rw [hv] at he; cases he
 ·rintro ⟨t, ht, hk⟩
  rw [ht]
  cases t
  ·exact hk
  ·exact hk
theorem ik {d : Option Nat} {i : Ins} {r : List Op1} {s : List VV} {h : ah} {Q : Pst} (hp : jq i = true) :
  XO F (⟨none, d, i⟩ :: r) ⟨s, h⟩ Q ↔ XV F (ak h (ae s) i) d r s Q := by
 unfold XO XV
 simp only [dm, bk]
 rw [eu hp]
 simp only
 cases hs : ak h (ae s) i with
 | none =>
  constructor
  ·rintro ⟨_, _, he, _⟩; cases he
  ·rintro ⟨_, _, he, _⟩; cases he
 | some y =>
  obtain ⟨v, h'⟩ := y
  constructor
  ·exact fun he => ⟨v, h', rfl, he⟩
  ·rintro ⟨_, _, he, hk⟩; cases he; exact hk
def XG (F : Nat -> Option FnIR) (v : VV) (b : Bool) (d : Option Nat) (i : Ins) (r : List Op1) (s : List VV) (h : ah) (Q : Pst) : Prop := match v with
 | .cv (.sc (.bool t)) => if t = b then XO F (⟨none, d, i⟩ :: r) ⟨s, h⟩ Q else XO F r ⟨de s d skp, h⟩ Q
 | .tup [] => XO F r ⟨de s d skp, h⟩ Q
 | _ => False
section
variable {b : Bool} {d : Option Nat} {i : Ins} {r : List Op1} {s : List VV} {h : ah} {Q : Pst}
theorem an3 : XG F (.cv (.sc (.bool true))) true d i r s h Q ↔ XO F (⟨none, d, i⟩ :: r) ⟨s, h⟩ Q := by simp [XG]
theorem anl : XG F (.cv (.sc (.bool false))) false d i r s h Q ↔ XO F (⟨none, d, i⟩ :: r) ⟨s, h⟩ Q := by simp [XG]
theorem am8 : XG F (.cv (.sc (.bool true))) false d i r s h Q ↔ XO F r ⟨de s d skp, h⟩ Q := by simp [XG]
theorem amy : XG F (.cv (.sc (.bool false))) true d i r s h Q ↔ XO F r ⟨de s d skp, h⟩ Q := by simp [XG]
theorem ao1 : XG F (.tup []) b d i r s h Q ↔ XO F r ⟨de s d skp, h⟩ Q := Iff.rfl
theorem aox {g : Nat} : XO F (⟨some (g, b), d, i⟩ :: r) ⟨s, h⟩ Q ↔ XG F (s.getD g .undef) b d i r s h Q := by
 have e : s.getD g .undef = (s[g]?).getD .undef := List.getD_eq_getElem?_getD
 cases hg : s[g]? with
 | none =>
  rw [e, hg]
  unfold XO; simp only [dm, bk, hg, Option.getD_none, XG]; exact Cf
 | some w =>
  cases w with
  | cv c => cases c with
   | sc u => cases u with
    | bool t => rw [aa4 (show s.getD g .undef = .cv (.sc (.bool t)) by rw [e, hg]; rfl), e, hg]; exact Iff.rfl
    | _ => (rw [e, hg]; unfold XO; simp only [dm, bk, hg, Option.getD_some, XG]; exact Cf)
   | sl _ _ _ => (rw [e, hg]; unfold XO; simp only [dm, bk, hg, Option.getD_some, XG]; exact Cf)
  | tup l => cases l with
   | nil => rw [e, hg]; unfold XO; simp only [dm, bk, hg, Option.getD_some, XG]; exact Iff.rfl
   | cons _ _ => rw [e, hg]; unfold XO; simp only [dm, bk, hg, Option.getD_some, XG]; exact Cf
  | _ => (rw [e, hg]; unfold XO; simp only [dm, bk, hg, Option.getD_some, XG]; exact Cf)
end
theorem ang {d : Nat} {x : Opd} {r : List Op1} {s : List VV} {h : ah} {Q : Pst} : XO F (⟨none, some d, .mv x⟩ :: r) ⟨s, h⟩ Q ↔ XO F r ⟨s.set d (ae s x), h⟩ Q :=
 ut rfl rfl
theorem bg {ir ir' : IR} (h : ir = ir') {st : St} {Q : Pst} : X F ir st Q ↔ X F ir' st Q := by rw [h]
theorem Vk {ir ir' : IR} (h : ir = ir') {l : Nat} {st : St} {Q : Pst} : XF F ir l st Q ↔ XF F ir' l st Q := by rw [h]
end
def tj : List (Op1 × Cl) -> Bool
 | [] => true
 | (_, .r lo hi) :: r => lo == hi && tj r
 | _ :: r => tj r
def isk : Cl -> Bool
 | .k => true
 | _ => false
def XD (F : Nat -> Option FnIR) : List (Op1 × Cl) -> St -> Pst -> Prop
 | [], st, Q => Q .norm st
 | (o, c) :: r, st, Q => match bk st.s o.g with
  | some true => ∃ st1, dv (call F) st o = some (.norm, st1) /\ (isk c = false -> st1.h = st.h) /\ XD F r st1 Q
  | some false => XD F r ⟨de st.s o.d skp, st.h⟩ Q
  | none => False
theorem Ir {F : Nat -> Option FnIR} : ∀ (ops : List (Op1 × Cl)) (hs : List ah) (ck : Cks) (st : St) (Q : Pst), tj ops = true -> XD F ops st Q -> (∀ x ∈ ck, ∀ h, x.2.2 h) ->
  ∃ st1 hs1 ck1, ce (call F) ops hs ck st = some (st1, hs1, ck1) /\ (∀ x ∈ ck1, ∀ h, x.2.2 h) /\ Q .norm st1
 | [], hs, ck, st, Q, _, hx, hc => ⟨st, hs, ck, rfl, hc, hx⟩
 | (o, c) :: r, hs, ck, st, Q, ha, hx, hc => by
  have har : tj r = true := by
   cases c with
   | p => exact ha
   | k => exact ha
   | r lo hi => simp only [tj, Bool.and_eq_true] at ha; exact ha.2
  simp only [XD] at hx
  simp only [ce]
  cases hw : bk st.s o.g with
  | none => rw [hw] at hx; exact hx.elim
  | some b =>
   rw [hw] at hx
   cases b with
   | false => exact Ir r _ ck _ Q har hx hc
   | true =>
    obtain ⟨st1, h1, h2, h3⟩ := hx
    simp only [h1]
    cases c with
    | p =>
     have e : (⟨st1.s, st.h⟩ : St) = st1 := by rw [<- h2 rfl]
     simp only [e]
     exact Ir r _ ck _ Q har h3 hc
    | k => exact Ir r _ ck _ Q har h3 hc
    | r lo hi =>
     have e : (⟨st1.s, st.h⟩ : St) = st1 := by rw [<- h2 rfl]
     have hlh : lo = hi := by
      simp only [tj, Bool.and_eq_true, beq_iff_eq] at ha
      exact ha.1
     simp only [e, if_pos hlh]
     refine Ir r _ _ _ Q har h3 ?_
     intro x hx
     rcases List.mem_cons.mp hx with rfl | hx
     ·exact fun _ => h2 rfl
     ·exact hc x hx
theorem jy {F : Nat -> Option FnIR} {ops : List (Op1 × Cl)} {st : St} {Q : Pst} (ha : tj ops = true) (hx : XD F ops st Q) : X F (.draw ops) st Q := by
 obtain ⟨st1, hs1, ck1, h1, h2, h3⟩ := Ir ops [st.h] [] st Q ha hx (fun x hx => by cases hx)
 refine ⟨.norm, st1, ?_, h3⟩
 simp only [dr, je, h1]
 rw [if_pos]
 exact fun x hx b _ _ h _ => h2 x hx h
section
variable {F : Nat -> Option FnIR} {d : Option Nat} {c : Cl} {q : List (Op1 × Cl)} {s : List VV} {h : ah} {Q : Pst}
theorem adq {st : St} : XD F [] st Q ↔ Q .norm st := Iff.rfl
def XVD (F : Nat -> Option FnIR) (x : Option (VV × ah)) (c : Cl) (h : ah) (d : Option Nat) (q : List (Op1 × Cl)) (s : List VV) (Q : Pst) : Prop :=
 ∃ v h', x = some (v, h') /\ (isk c = false -> h' = h) /\ XD F q ⟨de s d v, h'⟩ Q
theorem Ha {v : VV} : XVD F (some (v, h)) c h d q s Q ↔ XD F q ⟨de s d v, h⟩ Q := by
 constructor
 ·rintro ⟨_, _, he, _, hk⟩; cases he; exact hk
 ·exact fun hk => ⟨v, h, rfl, fun _ => rfl, hk⟩
theorem So {v : VV} {h' : ah} : XVD F (some (v, h')) .k h d q s Q ↔ XD F q ⟨de s d v, h'⟩ Q := by
 constructor
 ·rintro ⟨_, _, he, _, hk⟩; cases he; exact hk
 ·exact fun hk => ⟨v, h', rfl, (fun e => by cases e), hk⟩
def XWD (F : Nat -> Option FnIR) (x : Option VV) (h : ah) (d : Option Nat) (q : List (Op1 × Cl)) (s : List VV) (Q : Pst) : Prop := ∃ v, x = some v /\ XD F q ⟨de s d v, h⟩ Q
theorem zn {v : VV} : XWD F (some v) h d q s Q ↔ XD F q ⟨de s d v, h⟩ Q := by
 constructor
 ·rintro ⟨_, he, hk⟩; cases he; exact hk
 ·exact fun hk => ⟨v, rfl, hk⟩
theorem mi {i : Ins} (hp : jq i = true) : XD F ((⟨none, d, i⟩, c) :: q) ⟨s, h⟩ Q ↔ XVD F (ak h (ae s) i) c h d q s Q := by
 simp only [XD, bk]
 unfold XVD
 rw [eu hp]
 simp only
 cases hs : ak h (ae s) i with
 | none =>
  constructor
  ·rintro ⟨_, he, _⟩; cases he
  ·rintro ⟨_, _, he, _⟩; cases he
 | some y =>
  obtain ⟨v, h'⟩ := y
  constructor
  ·rintro ⟨_, he, h1, h2⟩; cases he; exact ⟨v, h', rfl, h1, h2⟩
  ·rintro ⟨_, _, he, h1, h2⟩; cases he; exact ⟨_, rfl, h1, h2⟩
theorem js {i : Ins} {u : Option VV} (hp : jq i = true) (hs : ak h (ae s) i = u.map (·, h)) : XD F ((⟨none, d, i⟩, c) :: q) ⟨s, h⟩ Q ↔ XWD F u h d q s Q := by
 rw [mi hp, hs]
 cases u with
 | none =>
  constructor
  ·rintro ⟨_, _, he, _⟩; cases he
  ·rintro ⟨_, he, _⟩; cases he
 | some v => exact Ha.trans zn.symm
def XGD (F : Nat -> Option FnIR) (v : VV) (b : Bool) (d : Option Nat) (i : Ins) (c : Cl) (q : List (Op1 × Cl)) (s : List VV) (h : ah) (Q : Pst) : Prop := match v with
 | .cv (.sc (.bool t)) => if t = b then XD F ((⟨none, d, i⟩, c) :: q) ⟨s, h⟩ Q else XD F q ⟨de s d skp, h⟩ Q
 | .tup [] => XD F q ⟨de s d skp, h⟩ Q
 | _ => False
theorem al3 {i : Ins} : XGD F (.cv (.sc (.bool true))) true d i c q s h Q ↔ XD F ((⟨none, d, i⟩, c) :: q) ⟨s, h⟩ Q := by simp [XGD]
theorem ame {i : Ins} : XGD F (.cv (.sc (.bool false))) false d i c q s h Q ↔ XD F ((⟨none, d, i⟩, c) :: q) ⟨s, h⟩ Q := by simp [XGD]
theorem ak7 {i : Ins} : XGD F (.cv (.sc (.bool true))) false d i c q s h Q ↔ XD F q ⟨de s d skp, h⟩ Q := by simp [XGD]
theorem ajj {i : Ins} : XGD F (.cv (.sc (.bool false))) true d i c q s h Q ↔ XD F q ⟨de s d skp, h⟩ Q := by simp [XGD]
theorem ank {b : Bool} {i : Ins} : XGD F (.tup []) b d i c q s h Q ↔ XD F q ⟨de s d skp, h⟩ Q := Iff.rfl
theorem ao0 {g : Nat} {b : Bool} {i : Ins} : XD F ((⟨some (g, b), d, i⟩, c) :: q) ⟨s, h⟩ Q ↔ XGD F (s.getD g .undef) b d i c q s h Q := by
 have e : s.getD g .undef = (s[g]?).getD .undef := List.getD_eq_getElem?_getD
 rw [e]
 cases hg : s[g]? with
 | none => simp only [XD, bk, hg, Option.getD_none, XGD]
 | some w =>
  cases w with
  | cv c => cases c with
   | sc u => cases u with
    | bool t =>
     by_cases htb : t = b
     ·subst htb
      simp only [XD, bk, hg, Option.getD_some, XGD, beq_self_eq_true, if_true]
      exact Iff.rfl
     ·have e : (t == b) = false := by simpa using htb
      simp only [XD, bk, hg, Option.getD_some, XGD, e, if_neg htb]
    | _ => simp only [XD, bk, hg, Option.getD_some, XGD]
   | sl _ _ _ => simp only [XD, bk, hg, Option.getD_some, XGD]
  | tup l => cases l with
   | nil => simp only [XD, bk, hg, Option.getD_some, XGD]
   | cons _ _ => simp only [XD, bk, hg, Option.getD_some, XGD]
  | _ => simp only [XD, bk, hg, Option.getD_some, XGD]
theorem an9 {d : Nat} {x : Opd} : XD F ((⟨none, some d, .mv x⟩, c) :: q) ⟨s, h⟩ Q ↔ XD F q ⟨s.set d (ae s x), h⟩ Q :=
 (js (u := some (ae s x)) rfl rfl).trans zn
theorem Vc {f : Nat} {p : Bool} {args : List Opd} {v : VV} (hc : ka (call F) h f p (args.map (ae s)) = some (.ret v, h)) (hk : XD F q ⟨de s d v, h⟩ Q) :
  XD F ((⟨none, d, .call f p args⟩, c) :: q) ⟨s, h⟩ Q := by
 simp only [XD, bk]
 exact ⟨⟨de s d v, h⟩, by simp only [dv, hc], fun _ => rfl, hk⟩
theorem Qd {f : Nat} {p : Bool} {args : List Opd} {v : VV} {h' : ah} (hc : ka (call F) h f p (args.map (ae s)) = some (.ret v, h')) (hk : XD F q ⟨de s d v, h'⟩ Q) :
  XD F ((⟨none, d, .call f p args⟩, .k) :: q) ⟨s, h⟩ Q := by
 simp only [XD, bk]
 exact ⟨⟨de s d v, h'⟩, by simp only [dv, hc], (fun e => by cases e), hk⟩
end
theorem ac7 {F : Nat -> Option FnIR} {d : Option Nat} {tbl : List (Nat × Nat)} {x : Opd} {args : List Opd} {q : List (Op1 × Cl)} {s : List VV} {h : ah} {Q : Pst} {v : VV} {h' : ah} {f t : Nat} {u : VV}
  (hx : ae s x = .iface t u) (hf : Sr tbl (.iface t u) = some (f, u)) (hc : call F f (u :: args.map (ae s)) h = some (.ret v, h')) (hk : XD F q ⟨de s d v, h'⟩ Q) : XD F ((⟨none, d, .inv tbl x args⟩, .k) :: q) ⟨s, h⟩ Q := by
 simp only [XD, bk]
 exact ⟨⟨de s d v, h'⟩, by simp only [dv, hx, hf, dy, Bool.false_eq_true, if_false, hc], (fun e => by cases e), hk⟩
abbrev vi (k : IntKind) (n : Int) : VV := .cv (.sc (.int k n))
abbrev vb (t : Bool) : VV := .cv (.sc (.bool t))
abbrev vs (t : ByteArray) : VV := .cv (.sc (.string t))
abbrev bq : VV := .cv (.sc (.slice none 0 0))
def kq (op : BinOp) : VV -> VV -> Option VV
 | .cv (.sc a), .cv (.sc b) => (su op a b).map fun v => .cv (.sc v)
 | _, _ => none
section
variable {F : Nat -> Option FnIR} {d : Option Nat} {x y z : Opd} {r : List Op1} {c : Cl} {q : List (Op1 × Cl)} {s : List VV} {h : ah} {Q : Pst}
theorem qh {i : Ins} {u : Option VV} (hp : jq i = true) (hs : ak h (ae s) i = u.map (·, h)) : XO F (⟨none, d, i⟩ :: r) ⟨s, h⟩ Q ↔ XW F u h d r s Q := by
 rw [ik hp, hs]
 cases u with
 | none =>
  constructor
  ·rintro ⟨_, _, he, _⟩; cases he
  ·rintro ⟨_, he, _⟩; cases he
 | some v => exact lf.trans Uu.symm
theorem Jc {op : BinOp} : ak h (ae s) (.bin op x y) = (kq op (ae s x) (ae s y)).map (·, h) := by
 simp only [ak]
 generalize ae s x = a
 generalize ae s y = b
 cases a with
 | cv c => cases c with
  | sc u =>
   cases b with
   | cv c' => cases c' with
    | sc u' => simp only [kq]; cases su op u u' <;> rfl
    | sl _ _ _ => rfl
   | _ => rfl
  | sl _ _ _ => rfl
 | _ => rfl
def cvO (k : IntKind) : VV -> Option VV
 | .cv (.sc (.int _ n)) => some (vi k (k.wrap n))
 | _ => none
theorem aig {k k' : IntKind} {n : Int} : cvO k (vi k' n) = some (vi k (k.wrap n)) := rfl
theorem Dz {k : IntKind} : ak h (ae s) (.cvI k x) = (cvO k (ae s x)).map (·, h) := by
 simp only [ak]
 generalize ae s x = v
 cases v with
 | cv c => cases c with
  | sc u => cases u <;> rfl
  | sl _ _ _ => rfl
 | _ => rfl
def pkO (c a b : VV) : Option VV := match c with
 | .cv (.sc (.bool t)) => some (if t then a else b)
 | _ => none
theorem ant {a b : VV} : pkO (vb true) a b = some a := rfl
theorem aob {a b : VV} : pkO (vb false) a b = some b := rfl
theorem Mk : ak h (ae s) (.pick x y z) = (pkO (ae s x) (ae s y) (ae s z)).map (·, h) := by
 simp only [ak]
 generalize ae s x = v
 cases v with
 | cv c => cases c with
  | sc u => cases u <;> rfl
  | sl _ _ _ => rfl
 | _ => rfl
def exO (v : VV) (i : Nat) : Option VV := match v with
 | .tup vs => vs[i]?
 | _ => none
theorem alq {l : List VV} {i : Nat} : exO (.tup l) i = l[i]? := rfl
theorem Xu {i : Nat} : ak h (ae s) (.ext x i) = (exO (ae s x) i).map (·, h) := by
 simp only [ak]
 generalize ae s x = v
 cases v with
 | tup vs => simp only [exO]; cases vs[i]? <;> rfl
 | _ => rfl
def lnO (str : Bool) (v : VV) : Option VV := (if str then Og v else lj v).map fun n => vi .i64 n
theorem On {str : Bool} : ak h (ae s) (.len str x) = (lnO str (ae s x)).map (·, h) := by
 simp only [ak, lnO]
 cases str
 ·simp only [Bool.false_eq_true, if_false]; cases lj (ae s x) <;> rfl
 ·simp only [if_true]; cases Og (ae s x) <;> rfl
def mmO (m : Bool) : VV -> VV -> Option VV
 | .cv (.sc (.int k a)), .cv (.sc (.int _ b)) => some (vi k (if m then min a b else max a b))
 | _, _ => none
theorem aex {k : IntKind} {a b : Int} : mmO true (vi k a) (vi k b) = some (vi k (min a b)) := rfl
theorem ad9 {k : IntKind} {a b : Int} : mmO false (vi k a) (vi k b) = some (vi k (max a b)) := rfl
theorem Uh {m : Bool} : ak h (ae s) (.mnmx m [x, y]) = (mmO m (ae s x) (ae s y)).map (·, h) := by
 simp only [ak, List.map]
 generalize ae s x = v
 generalize ae s y = w
 cases v with
 | cv c => cases c with
  | sc u =>
   cases w with
   | cv c' => cases c' with
    | sc u' =>
     cases u <;> cases u' <;> simp only [Re, abf, mmO, Option.map_none, Option.map_some]
     rename_i k a k' b
     cases m
     ·simp only [Bool.false_eq_true, if_false]
      have : (if b > a then b else a) = max a b := by split <;> omega
      rw [this]
     ·simp only [if_true]
      have : (if b < a then b else a) = min a b := by split <;> omega
      rw [this]
    | sl _ _ _ => cases u <;> rfl
   | _ => cases u <;> rfl
  | sl _ _ _ => rfl
 | _ => rfl
theorem ai0 {op : BinOp} : XO F (⟨none, d, .bin op x y⟩ :: r) ⟨s, h⟩ Q ↔ XW F (kq op (ae s x) (ae s y)) h d r s Q := qh rfl Jc
theorem aif {op : BinOp} : XD F ((⟨none, d, .bin op x y⟩, c) :: q) ⟨s, h⟩ Q ↔ XWD F (kq op (ae s x) (ae s y)) h d q s Q := js rfl Jc
theorem aj3 {k : IntKind} : XO F (⟨none, d, .cvI k x⟩ :: r) ⟨s, h⟩ Q ↔ XW F (cvO k (ae s x)) h d r s Q := qh rfl Dz
theorem ajk {k : IntKind} : XD F ((⟨none, d, .cvI k x⟩, c) :: q) ⟨s, h⟩ Q ↔ XWD F (cvO k (ae s x)) h d q s Q := js rfl Dz
theorem af3 : XO F (⟨none, d, .pick x y z⟩ :: r) ⟨s, h⟩ Q ↔ XW F (pkO (ae s x) (ae s y) (ae s z)) h d r s Q := qh rfl Mk
theorem afc : XD F ((⟨none, d, .pick x y z⟩, c) :: q) ⟨s, h⟩ Q ↔ XWD F (pkO (ae s x) (ae s y) (ae s z)) h d q s Q := js rfl Mk
theorem aly {i : Nat} : XO F (⟨none, d, .ext x i⟩ :: r) ⟨s, h⟩ Q ↔ XW F (exO (ae s x) i) h d r s Q := qh rfl Xu
theorem akq {i : Nat} : XD F ((⟨none, d, .ext x i⟩, c) :: q) ⟨s, h⟩ Q ↔ XWD F (exO (ae s x) i) h d q s Q := js rfl Xu
theorem aib {str : Bool} : XO F (⟨none, d, .len str x⟩ :: r) ⟨s, h⟩ Q ↔ XW F (lnO str (ae s x)) h d r s Q := qh rfl On
theorem amb {str : Bool} : XD F ((⟨none, d, .len str x⟩, c) :: q) ⟨s, h⟩ Q ↔ XWD F (lnO str (ae s x)) h d q s Q := js rfl On
theorem ae6 {m : Bool} : XO F (⟨none, d, .mnmx m [x, y]⟩ :: r) ⟨s, h⟩ Q ↔ XW F (mmO m (ae s x) (ae s y)) h d r s Q := qh rfl Uh
theorem aeb {m : Bool} : XD F ((⟨none, d, .mnmx m [x, y]⟩, c) :: q) ⟨s, h⟩ Q ↔ XWD F (mmO m (ae s x) (ae s y)) h d q s Q := js rfl Uh
end
end Go.Vm
/-
 Vm: what steps do to values, for simp (own work).
-/
namespace Go.Vm
open Go
abbrev txt (l : List UInt8) : VV := .cv (.sc (.string ⟨l.toArray⟩))
section
variable {k k' : IntKind} {a b : Int} {s t : List UInt8}
theorem aep : kq .add (vi k a) (vi k b) = some (vi k (k.wrap (a + b))) := by simp [kq, su]
theorem aea : kq .sub (vi k a) (vi k b) = some (vi k (k.wrap (a - b))) := by simp [kq, su]
theorem aen : kq .mul (vi k a) (vi k b) = some (vi k (k.wrap (a * b))) := by simp [kq, su]
theorem Hn (h : b ≠ 0) : kq .quo (vi k a) (vi k b) = some (vi k (k.wrap (a.tdiv b))) := by simp [kq, su, h]
theorem Nk (h : b ≠ 0) : kq .rem (vi k a) (vi k b) = some (vi k (a.tmod b)) := by simp [kq, su, h]
theorem aeq : kq .and (vi k a) (vi k b) = some (vi k (bits .and k a b)) := by simp [kq, su, bits]
theorem al7 : kq .or (vi k a) (vi k b) = some (vi k (bits .or k a b)) := by simp [kq, su, bits]
theorem Vz : kq .xor (vi k a) (vi k b) = some (vi k (bits .xor k a b)) := by simp [kq, su, bits]
theorem Ci (h : ¬ b < 0) : kq .shl (vi k a) (vi k' b) = some (vi k (k.wrap (a * 2 ^ (min b.toNat k.bits)))) := by simp [kq, su, h]
theorem nz (h : ¬ b < 0) : kq .shr (vi k a) (vi k' b) = some (vi k (a.fdiv (2 ^ (min b.toNat k.bits)))) := by simp [kq, su, h]
theorem ag1 : kq .eql (vi k a) (vi k b) = some (vb (decide (a = b))) := by simp [kq, su]; rfl
theorem ag9 : kq .neq (vi k a) (vi k b) = some (vb (decide (a ≠ b))) := by simp [kq, su, bne]; rfl
theorem agu : kq .lss (vi k a) (vi k b) = some (vb (decide (a < b))) := by simp [kq, su]
theorem ag5 : kq .leq (vi k a) (vi k b) = some (vb (decide (a <= b))) := by simp [kq, su]
theorem agh : kq .gtr (vi k a) (vi k b) = some (vb (decide (b < a))) := by simp [kq, su]
theorem afg : kq .geq (vi k a) (vi k b) = some (vb (decide (b <= a))) := by simp [kq, su]
theorem abo : kq .eql (txt s) (txt t) = some (vb (decide (s = t))) := by
 simp only [kq, su, Option.map_some, Option.some.injEq, VV.cv.injEq, CV.sc.injEq, Value.bool.injEq]
 by_cases h : s = t <;> simp [h]
theorem aan : kq .neq (txt s) (txt t) = some (vb (decide (s ≠ t))) := by
 simp only [kq, su, Option.map_some, Option.some.injEq, VV.cv.injEq, CV.sc.injEq, Value.bool.injEq]
 by_cases h : s = t
 ·subst h; simp
 ·have : (s == t) = false := by simpa using h
  simp [h]
end
theorem al8 : lnO false bq = some (vi .i64 0) := rfl
theorem ane {z : Nat} {els : List (List CV)} {ex : Bool} : lnO false (.cv (.sl z els ex)) = some (vi .i64 els.length) := rfl
theorem ah6 {id g off len : Nat} {ex : Bool} : lnO false (.own id g off len ex) = some (vi .i64 len) := rfl
theorem ai9 {l : List UInt8} : lnO true (txt l) = some (vi .i64 l.length) := rfl
section
variable {F : Nat -> Option FnIR} {d : Option Nat} {x y z : Opd} {r : List Op1} {c : Cl} {q : List (Op1 × Cl)} {s : List VV} {h : ah} {Q : Pst}
def mkO (h : ah) (z len : Nat) (zero : List VV) (parts : List (Nat × Nat × VV)) : Option (VV × ah) :=
 match fill zero parts with
 | some cs => match oi h cs with
  | some (cc, h1) => some (.cv (.sl z (ni z len cc) true), h1)
  | none => none
 | none => none
def gu (s : List VV) : List (Nat × Nat × Opd) -> List (Nat × Nat × VV)
 | [] => []
 | (a, b, x) :: r => (a, b, ae s x) :: gu s r
theorem Mt {s : List VV} : gu s [] = [] := rfl
theorem Kt {s : List VV} {a b : Nat} {x : Opd} {r : List (Nat × Nat × Opd)} : gu s ((a, b, x) :: r) = (a, b, ae s x) :: gu s r := rfl
theorem ta (s : List VV) : ∀ l : List (Nat × Nat × Opd), l.map (fun p => (p.1, p.2.1, ae s p.2.2)) = gu s l
 | [] => rfl
 | (a, b, x) :: r => by simp only [List.map, gu, ta s r]
theorem Hg {z len : Nat} {zero : List VV} {parts : List (Nat × Nat × Opd)} : ak h (ae s) (.mksl z len zero parts false) = mkO h z len zero (gu s parts) := by
 simp only [ak, mkO, ta, Bool.false_eq_true, if_false]
 cases fill zero (gu s parts) with
 | none => rfl
 | some cs => cases oi h cs <;> rfl
theorem ahi {z len : Nat} {zero : List VV} {parts : List (Nat × Nat × Opd)} : XO F (⟨none, d, .mksl z len zero parts false⟩ :: r) ⟨s, h⟩ Q ↔ XV F (mkO h z len zero (gu s parts)) d r s Q := by
 rw [ik rfl, Hg]
theorem ahu {z len : Nat} {zero : List VV} {parts : List (Nat × Nat × Opd)} : XD F ((⟨none, d, .mksl z len zero parts false⟩, c) :: q) ⟨s, h⟩ Q ↔ XVD F (mkO h z len zero (gu s parts)) c h d q s Q := by
 rw [mi rfl, Hg]
def bdO (zero : List VV) (parts : List (Nat × Nat × VV)) : Option VV := (fill zero parts).map .agg
theorem Gz {zero : List VV} {parts : List (Nat × Nat × Opd)} : ak h (ae s) (.build zero parts) = (bdO zero (gu s parts)).map (·, h) := by
 simp only [ak, bdO, ta]
 cases fill zero (gu s parts) <;> rfl
theorem aac {zero : List VV} {parts : List (Nat × Nat × Opd)} : XO F (⟨none, d, .build zero parts⟩ :: r) ⟨s, h⟩ Q ↔ XW F (bdO zero (gu s parts)) h d r s Q := qh rfl Gz
theorem Oz {zero : List VV} {parts : List (Nat × Nat × Opd)} : XD F ((⟨none, d, .build zero parts⟩, c) :: q) ⟨s, h⟩ Q ↔ XWD F (bdO zero (gu s parts)) h d q s Q := js rfl Gz
theorem ajf {z0 c : CV} : mkO h 1 1 [.cv z0] [(0, 1, .cv c)] = some (.cv (.sl 1 [[c]] true), h) := by
 simp [mkO, fill, cellsOf, ap, oi, clos, ni, List.range, List.range.loop]
theorem anb {z0 z1 c c1 : CV} : mkO h 1 2 [.cv z0, .cv z1] [(0, 1, .cv c), (1, 1, .cv c1)] = some (.cv (.sl 1 [[c], [c1]] true), h) := by
 simp [mkO, fill, cellsOf, ap, oi, clos, ni, List.range, List.range.loop]
end
section
variable {F : Nat -> Option FnIR} {d : Option Nat} {x y z : Opd} {r : List Op1} {c : Cl} {q : List (Op1 × Cl)} {s : List VV} {h : ah} {Q : Pst}
def ml (v w u : VV) : Opd -> VV
 | .t 0 => v
 | .t 1 => w
 | .t _ => u
 | .c c => c
def iaO (h : ah) (z : Nat) (v w : VV) : Option (VV × ah) := ak h (ml v w .undef) (.iadL z (.t 0) (.t 1))
theorem adv {z : Nat} : XO F (⟨none, d, .iadL z x y⟩ :: r) ⟨s, h⟩ Q ↔ XV F (iaO h z (ae s x) (ae s y)) d r s Q := ik rfl
theorem agk {z : Nat} : XD F ((⟨none, d, .iadL z x y⟩, c) :: q) ⟨s, h⟩ Q ↔ XVD F (iaO h z (ae s x) (ae s y)) c h d q s Q := mi rfl
theorem amt {z : Nat} {els : List (List CV)} {ex : Bool} {k : IntKind} {j : Int} {e : List CV} (h0 : 0 <= j) (he : els[j.toNat]? = some e) : iaO h z (.cv (.sl z els ex)) (vi k j) = some (.rptr e, h) := by
 simp [iaO, ak, ml, pk, h0, he]
theorem yn {z id g off len : Nat} {els : List (List CV)} {fr ex : Bool} {k : IntKind} {j : Int} (h0 : 0 <= j) (ho : h[id]? = some (.arr z els g fr)) (hl : j.toNat < len) :
  iaO h z (.own id g off len ex) (vi k j) = some (.eptr id g (off + j.toNat) 0, h) := by
 simp [iaO, ak, ml, pk, h0, ho, hl]
def ldO (h : ah) (ag : Bool) (n : Nat) (v : VV) : Option (VV × ah) := ak h (ml v .undef .undef) (.ld ag n (.t 0))
theorem ans {ag : Bool} {n : Nat} : XO F (⟨none, d, .ld ag n x⟩ :: r) ⟨s, h⟩ Q ↔ XV F (ldO h ag n (ae s x)) d r s Q := ik rfl
theorem anr {ag : Bool} {n : Nat} : XD F ((⟨none, d, .ld ag n x⟩, c) :: q) ⟨s, h⟩ Q ↔ XVD F (ldO h ag n (ae s x)) c h d q s Q := mi rfl
theorem ji {c : CV} {r : List CV} : ldO h false 1 (.rptr (c :: r)) = some (.cv c, h) := by simp [ldO, ak, ml, dp]
theorem bf {id off : Nat} {cells : List VV} {fr : Bool} {c : VV} (ho : h[id]? = some (.box cells fr)) (hc : cells[off]? = some c) : ldO h false 1 (.ptr id off) = some (c, h) := by
 have : (cells.drop off).take 1 = [c] := by
  rw [List.take_one, List.head?_drop, hc]; rfl
 simp [ldO, ak, ml, ho, this, dp]
theorem Gs {id g i z off : Nat} {els : List (List CV)} {fr : Bool} {e : List CV} {c : CV} (ho : h[id]? = some (.arr z els g fr)) (he : els[i]? = some e) (hc : e[off]? = some c) : ldO h false 1 (.eptr id g i off) = some (.cv c, h) := by
 have : (e.drop off).take 1 = [c] := by
  rw [List.take_one, List.head?_drop, hc]; rfl
 simp [ldO, ak, ml, ho, he, this, dp]
def fdO (off : Nat) : VV -> Option VV
 | .ptr id o => some (.ptr id (o + off))
 | .eptr id g i o => some (.eptr id g i (o + off))
 | .rptr cells => some (.rptr (cells.drop off))
 | _ => none
theorem tq {off : Nat} : ak h (ae s) (.fad off x) = (fdO off (ae s x)).map (·, h) := by
 simp only [ak]
 generalize ae s x = v
 cases v <;> rfl
theorem alc {off : Nat} : XO F (⟨none, d, .fad off x⟩ :: r) ⟨s, h⟩ Q ↔ XW F (fdO off (ae s x)) h d r s Q := qh rfl tq
theorem ajm {off : Nat} : XD F ((⟨none, d, .fad off x⟩, c) :: q) ⟨s, h⟩ Q ↔ XWD F (fdO off (ae s x)) h d q s Q := js rfl tq
theorem aow {off : Nat} {cells : List CV} : fdO off (.rptr cells) = some (.rptr (cells.drop off)) := rfl
theorem ao8 {id o off : Nat} : fdO off (.ptr id o) = some (.ptr id (o + off)) := rfl
theorem aos {id g i o off : Nat} : fdO off (.eptr id g i o) = some (.eptr id g i (o + off)) := rfl
def flO (ag : Bool) (off n : Nat) (v : VV) : Option VV := match v with
 | .agg cells => dp ag n ((cells.drop off).take n)
 | _ => none
theorem adh {ag : Bool} {off n : Nat} : ak h (ae s) (.fld ag off n x) = (flO ag off n (ae s x)).map (·, h) := by
 simp only [ak]
 generalize ae s x = v
 cases v <;> rfl
theorem ain {ag : Bool} {off n : Nat} : XO F (⟨none, d, .fld ag off n x⟩ :: r) ⟨s, h⟩ Q ↔ XW F (flO ag off n (ae s x)) h d r s Q := qh rfl adh
theorem aka {ag : Bool} {off n : Nat} : XD F ((⟨none, d, .fld ag off n x⟩, c) :: q) ⟨s, h⟩ Q ↔ XWD F (flO ag off n (ae s x)) h d q s Q := js rfl adh
def bsO (h : ah) (v : VV) : Option VV := match gh h 1 v with
 | some els => (pu els).map fun l => txt l
 | none => none
theorem Lt : ak h (ae s) (.cvBS x) = (bsO h (ae s x)).map (·, h) := by
 simp only [ak, bsO]
 cases gh h 1 (ae s x) with
 | none => rfl
 | some els => simp only; cases pu els <;> rfl
theorem agl : XO F (⟨none, d, .cvBS x⟩ :: r) ⟨s, h⟩ Q ↔ XW F (bsO h (ae s x)) h d r s Q := qh rfl Lt
theorem adw : XD F ((⟨none, d, .cvBS x⟩, c) :: q) ⟨s, h⟩ Q ↔ XWD F (bsO h (ae s x)) h d q s Q := js rfl Lt
theorem El : ∀ l : List UInt8, pu (eB l) = some l
 | [] => rfl
 | b :: l => by
  have ih := El l
  unfold pu at ih |-
  simp only [eB, List.map_cons, List.mapM_cons, bc, Nb] at ih |-
  rw [ih]
  simp
theorem ac8 {v : VV} {l : List UInt8} (hv : gh h 1 v = some (eB l)) : bsO h v = some (txt l) := by
 simp only [bsO, hv, El, Option.map_some]
theorem anx {l : List UInt8} {ex : Bool} : bsO h (.cv (.sl 1 (eB l) ex)) = some (txt l) := ac8 (by simp [gh])
theorem akr : bsO h bq = some (txt []) := rfl
def sbO (v : VV) : Option VV := match v with
 | .cv (.sc (.string t)) => some (.cv (.sl 1 (eB t.data.toList) false))
 | _ => none
theorem Wd : ak h (ae s) (.cvSB false x) = (sbO (ae s x)).map (·, h) := by
 simp only [ak]
 generalize ae s x = v
 cases v with
 | cv c => cases c with
  | sc u => cases u <;> rfl
  | sl _ _ _ => rfl
 | _ => rfl
theorem aec : XO F (⟨none, d, .cvSB false x⟩ :: r) ⟨s, h⟩ Q ↔ XW F (sbO (ae s x)) h d r s Q := qh rfl Wd
theorem aho : XD F ((⟨none, d, .cvSB false x⟩, c) :: q) ⟨s, h⟩ Q ↔ XWD F (sbO (ae s x)) h d q s Q := js rfl Wd
theorem aj6 {l : List UInt8} : sbO (txt l) = some (.cv (.sl 1 (eB l) false)) := rfl
def ah9 (x : Option VV) (dflt y : Nat) : Option Nat :=
 match x with
 | none => some dflt
 | some v => match pk v with
  | some i => if 0 <= i /\ i <= y then some i.toNat else none
  | none => none
def slO (h : ah) (z : Nat) (v : VV) (lo hi mx : Option VV) : Option (VV × ah) :=
 ak h (ml v .undef .undef) (.slL z (.t 0) (lo.map .c) (hi.map .c) (mx.map .c))
theorem Ax {ρ ρ' : Opd -> VV} (hc : ∀ v, ρ' (.c v) = v) (o : Option Opd) (a b : Nat) : bnd ρ o a b = bnd ρ' ((o.map ρ).map .c) a b := by
 cases o with
 | none => rfl
 | some o => simp only [bnd, Option.map_some, hc]
theorem adl {z : Nat} {lo hi mx : Option Opd} : ak h (ae s) (.slL z x lo hi mx) = slO h z (ae s x) (lo.map (ae s)) (hi.map (ae s)) (mx.map (ae s)) := by
 have hc : ∀ v, ml (ae s x) .undef .undef (.c v) = v := fun _ => rfl
 simp only [slO, ak]
 simp only [Ax hc lo, Ax hc hi, Ax hc mx, Option.isSome_map]
 rfl
theorem akw {z : Nat} {lo hi mx : Option Opd} : XO F (⟨none, d, .slL z x lo hi mx⟩ :: r) ⟨s, h⟩ Q ↔ XV F (slO h z (ae s x) (lo.map (ae s)) (hi.map (ae s)) (mx.map (ae s))) d r s Q := by
 rw [ik rfl, adl]
theorem amd {z : Nat} {lo hi mx : Option Opd} : XD F ((⟨none, d, .slL z x lo hi mx⟩, c) :: q) ⟨s, h⟩ Q ↔ XVD F (slO h z (ae s x) (lo.map (ae s)) (hi.map (ae s)) (mx.map (ae s))) c h d q s Q := by
 rw [mi rfl, adl]
theorem anu {z : Nat} {els : List (List CV)} {ex : Bool} {k k' : IntKind} {a b : Int} (h1 : 0 <= a) (h2 : a <= b) (h3 : b <= els.length) :
  ∃ ex', slO h z (.cv (.sl z els ex)) (some (vi k a)) (some (vi k' b)) none = some (.cv (.sl z ((els.drop a.toNat).take (b.toNat - a.toNat)) ex'), h) := by
 have h4 : 0 <= b := by omega
 have h5 : b <= (els.length : Int) := h3
 have h6 : a <= max b 0 := by omega
 refine ⟨ex && b.toNat == els.length, ?_⟩
 simp [slO, ak, ml, lj, bnd, pk, h1, h4, h5, h6]
theorem Gi {l : List UInt8} {a n : Nat} : ((eB l).drop a).take n = eB ((l.drop a).take n) := by simp [eB, List.map_drop, List.map_take]
theorem nm {l : List UInt8} {i : Nat} {c : UInt8} (hc : l[i]? = some c) : (eB l)[i]? = some [.sc (.int .u8 c.toNat)] := by
 simp [eB, hc, bc]
theorem ay {l : List UInt8} : (eB l).length = l.length := by simp [eB]
theorem af2 {l : List UInt8} : ja h 1 (txt l) = some (eB l) := rfl
theorem Vh {z : Nat} {els : List (List CV)} {ex : Bool} : ja h z (.cv (.sl z els ex)) = some els := by simp [ja, gh]
end
def SlV (z : Nat) (els : List (List CV)) (v : VV) : Prop := (v = bq /\ els = []) \/ ∃ ex, v = .cv (.sl z els ex)
section
variable {z : Nat} {es : List (List CV)} {v : VV} {h : ah}
theorem SlV.nil : SlV z [] bq := .inl ⟨rfl, rfl⟩
theorem SlV.sl {ex : Bool} : SlV z es (.cv (.sl z es ex)) := .inr ⟨ex, rfl⟩
theorem SlV.ln (hv : SlV z es v) : lnO false v = some (vi .i64 es.length) := by
 rcases hv with ⟨rfl, rfl⟩ | ⟨ex, rfl⟩ <;> rfl
theorem SlV.ia (hv : SlV z es v) {k : IntKind} {j : Int} {e : List CV} (h0 : 0 <= j) (he : es[j.toNat]? = some e) : iaO h z v (vi k j) = some (.rptr e, h) := by
 rcases hv with ⟨rfl, rfl⟩ | ⟨ex, rfl⟩
 ·simp at he
 ·exact amt h0 he
theorem SlV.part (hv : SlV z es v) {k k' : IntKind} {a b : Int} (h1 : 0 <= a) (h2 : a <= b) (h3 : b <= es.length) :
  ∃ v', SlV z ((es.drop a.toNat).take (b.toNat - a.toNat)) v' /\ slO h z v (some (vi k a)) (some (vi k' b)) none = some (v', h) := by
 rcases hv with ⟨rfl, rfl⟩ | ⟨ex, rfl⟩
 ·have hb : b = 0 := by simp at h3; omega
  have ha : a = 0 := by omega
  subst hb ha
  exact ⟨bq, .inl ⟨rfl, by simp⟩, by simp [slO, ak, ml, lj, bnd, pk]⟩
 ·obtain ⟨ex', e⟩ := anu (h := h) (z := z) (els := es) (ex := ex) (k := k) (k' := k') h1 h2 h3
  exact ⟨_, .inr ⟨ex', rfl⟩, e⟩
theorem SlV.els (hv : SlV z es v) : gh h z v = some es := by
 rcases hv with ⟨rfl, rfl⟩ | ⟨ex, rfl⟩
 ·rfl
 ·simp [gh]
theorem SlV.src (hv : SlV z es v) : ja h z v = some es := by
 rcases hv with ⟨rfl, rfl⟩ | ⟨ex, rfl⟩
 ·rfl
 ·exact Vh
theorem SlV.bs {l : List UInt8} (hv : SlV 1 (eB l) v) : bsO h v = some (txt l) := ac8 hv.els
theorem SlV.clos {l as : List VV} {h1 : ah} (hv : SlV z es v) (hl : cf h l = some (as, h1)) : cf h (v :: l) = some (v :: as, h1) := by
 rcases hv with ⟨rfl, rfl⟩ | ⟨ex, rfl⟩ <;> simp [cf, ij, Go.Vm.clos, hl]
end
section
variable {F : Nat -> Option FnIR} {d : Option Nat} {r : List Op1} {s : List VV} {h : ah} {Q : Pst}
theorem ao {f : Nat} {args : List Opd} {as : List VV} {h1 hc : ah} {v w : VV} (ha : cf h (args.map (ae s)) = some (as, h1)) (hcall : call F f as [] = some (.ret v, hc)) (hr : au hc v = some w)
  (hk : XO F r ⟨de s d w, h1⟩ Q) (hf : f < Cm := by decide) : XO F (⟨none, d, .call f true args⟩ :: r) ⟨s, h⟩ Q := by
 refine (Tk (v := w) (h' := h1) (sb hf ?_)).mpr hk
 unfold dy
 simp only [if_true, ha, hcall, hr, Option.map_some]
theorem am {f : Nat} {args : List Opd} {v : VV} {h' : ah} (hcall : call F f (args.map (ae s)) h = some (.ret v, h')) (hk : XO F r ⟨de s d v, h'⟩ Q) (hf : f < Cm := by decide) :
  XO F (⟨none, d, .call f false args⟩ :: r) ⟨s, h⟩ Q := by
 refine (Tk (v := v) (h' := h') (sb hf ?_)).mpr hk
 unfold dy
 simpa using hcall
theorem wh {c : Cl} {q : List (Op1 × Cl)} {f : Nat} {args : List Opd} {as : List VV} {hc : ah} {v w : VV} (ha : cf h (args.map (ae s)) = some (as, h)) (hcall : call F f as [] = some (.ret v, hc)) (hr : au hc v = some w)
  (hk : XD F q ⟨de s d w, h⟩ Q) (hf : f < Cm := by decide) : XD F ((⟨none, d, .call f true args⟩, c) :: q) ⟨s, h⟩ Q := by
 refine Vc (v := w) (sb hf ?_) hk
 unfold dy
 simp only [if_true, ha, hcall, hr, Option.map_some]
theorem Iw {q : List (Op1 × Cl)} {f : Nat} {args : List Opd} {as : List VV} {h1 hc : ah} {v w : VV} (ha : cf h (args.map (ae s)) = some (as, h1)) (hcall : call F f as [] = some (.ret v, hc)) (hr : au hc v = some w)
  (hk : XD F q ⟨de s d w, h1⟩ Q) (hf : f < Cm := by decide) : XD F ((⟨none, d, .call f true args⟩, .k) :: q) ⟨s, h⟩ Q := by
 refine Qd (v := w) (sb hf ?_) hk
 unfold dy
 simp only [if_true, ha, hcall, hr, Option.map_some]
theorem aao {n f : Nat} {as' as : List VV} {h1 hc : ah} {v w : VV} (hn : n = f + Cm) (ha : cf h as' = some (as, h1)) (hcall : call F f as [] = some (.ret v, hc)) (hr : au hc v = some w) :
  ka (call F) h n true as' = some (.ret w, if scalV w then h else h1) := by
 subst hn
 unfold ka Eb dy
 rw [if_neg (by omega), Nat.add_sub_cancel]
 simp only [if_true, ha, hcall, hr, Option.map_some]
theorem aaz {c : Cl} {q : List (Op1 × Cl)} {n f : Nat} {args : List Opd} {as : List VV} {h1 hc : ah} {v w : VV} (ha : cf h (args.map (ae s)) = some (as, h1)) (hcall : call F f as [] = some (.ret v, hc)) (hr : au hc v = some w) (hw : scalV w = true)
  (hk : XD F q ⟨de s d w, h⟩ Q) (hn : n = f + Cm := by rfl) : XD F ((⟨none, d, .call n true args⟩, c) :: q) ⟨s, h⟩ Q := by
 have := aao hn ha hcall hr
 rw [if_pos hw] at this
 exact Vc this hk
theorem ej {c : CV} {as : List VV} {l : List VV} {h1 : ah} (hl : cf h l = some (as, h1)) : cf h (.cv c :: l) = some (.cv c :: as, h1) := by
 simp [cf, ij, clos, hl]
theorem ls : cf h [] = some ([], h) := rfl
end
def Buf (h0 : ah) (z : Nat) (els : List (List CV)) (v : VV) (h : ah) : Prop :=
 (els = [] /\ v = bq /\ h = h0) \/ (∃ g, v = .own h0.length g 0 els.length false /\ h = h0 ++ [.arr z els g false])
theorem Buf.nil (h0 : ah) (z : Nat) : Buf h0 z [] bq h0 := .inl ⟨rfl, rfl, rfl⟩
theorem aa8 (h0 : ah) (o : VO) : (h0 ++ [o])[h0.length]? = some o := by simp
theorem aat (h0 : ah) (o o' : VO) : (h0 ++ [o]).set h0.length o' = h0 ++ [o'] := by simp
theorem Buf.len {h0 : ah} {z : Nat} {els : List (List CV)} {v : VV} {h : ah} (hb : Buf h0 z els v h) : lj v = some els.length := by
 rcases hb with ⟨rfl, rfl, rfl⟩ | ⟨g, rfl, rfl⟩ <;> rfl
theorem Buf.els {h0 : ah} {z : Nat} {els : List (List CV)} {v : VV} {h : ah} (hb : Buf h0 z els v h) : gh h z v = some els := by
 rcases hb with ⟨rfl, rfl, rfl⟩ | ⟨g, rfl, rfl⟩
 ·rfl
 ·simp [gh]
theorem Xn {h0 : ah} {z by_ : Nat} {zero : List CV} {els new : List (List CV)} {v : VV} {h : ah} {x y : Opd} {F : Nat -> Option FnIR} {d : Option Nat} {r : List Op1} {s : List VV} {Q : Pst}
  (hb : Buf h0 z els v h) (hx : ae s x = v) (hy : ja h z (ae s y) = some new) (h1 : (els.length + new.length) * by_ <= 35184372088832) (h2 : els.length + new.length <= 35184372088832)
  (hk : ∀ v' h', Buf h0 z (els ++ new) v' h' -> XO F r ⟨de s d v', h'⟩ Q) : XO F (⟨none, d, .app z by_ zero x y⟩ :: r) ⟨s, h⟩ Q := by
 rw [ik rfl]
 have hm : cj = 35184372088832 := rfl
 have hl : lj (ae s x) = some els.length := by rw [hx]; exact hb.len
 have hE : gh h z (ae s x) = some els := by rw [hx]; exact hb.els
 simp only [ak, hy, hl, hm, h1, h2, and_self, if_true]
 unfold XV
 by_cases hn : new = []
 ·subst hn
  simp only [if_true, hE]
  refine ⟨_, _, rfl, hk _ _ ?_⟩
  rw [hx, List.append_nil]; exact hb
 ·simp only [if_neg hn]
  rcases hb with ⟨rfl, rfl, rfl⟩ | ⟨g, rfl, rfl⟩
  ·rw [hx]
   refine ⟨_, _, rfl, hk _ _ (.inr ⟨0, ?_, ?_⟩)⟩ <;> simp
  ·rw [hx]
   simp only [aa8, Nat.zero_add, Nat.le_refl, and_self, if_true, Bool.false_eq_true, if_false, List.drop_zero, List.take_length, aat]
   refine ⟨_, _, rfl, hk _ _ (.inr ⟨g + 1, ?_, ?_⟩)⟩
   ·rw [List.length_append]
   ·rfl
theorem Buf.res {z : Nat} {els : List (List CV)} {v : VV} {h : ah} {h0 : ah} (hb : Buf h0 z els v h) (hn : els ≠ []) : au h v = some (.cv (.sl z els false)) := by
 rcases hb with ⟨e, _, _⟩ | ⟨g, rfl, rfl⟩
 ·exact absurd e hn
 ·simp [au, ij, clos]
theorem aj5 {l : List VV} : bdO l [] = some (.agg l) := rfl
theorem ao5 {a b : VV} {u v : CV} : bdO [a, b] [(0, 1, .cv u), (1, 1, .cv v)] = some (.agg [.cv u, .cv v]) := rfl
theorem aod {a b c : VV} {u v w : CV} : bdO [a, b, c] [(0, 1, .cv u), (1, 1, .cv v), (2, 1, .cv w)] = some (.agg [.cv u, .cv v, .cv w]) := rfl
theorem Lw {h : ah} {z0 z1 : VV} {u w : CV} : mkO h 2 1 [z0, z1] [(0, 2, .agg [.cv u, .cv w])] = some (.cv (.sl 2 [[u, w]] true), h) := rfl
theorem aet {h : ah} {z0 z1 z2 : VV} {u w t : CV} : mkO h 3 1 [z0, z1, z2] [(0, 3, .agg [.cv u, .cv w, .cv t])] = some (.cv (.sl 3 [[u, w, t]] true), h) := rfl
section
variable {F : Nat -> Option FnIR} {d : Option Nat} {x y z : Opd} {r : List Op1} {c : Cl} {q : List (Op1 × Cl)} {s : List VV} {h : ah} {Q : Pst}
theorem abg {zero : List VV} : XO F (⟨none, d, .alloc zero⟩ :: r) ⟨s, h⟩ Q ↔ XO F r ⟨de s d (.ptr h.length 0), h ++ [.box zero false]⟩ Q := ut rfl rfl
def bxO (h : ah) (n : Nat) (v : VV) : Option (VV × ah) := ak h (ml v .undef .undef) (.box n (.t 0))
theorem aie {n : Nat} : XO F (⟨none, d, .box n x⟩ :: r) ⟨s, h⟩ Q ↔ XV F (bxO h n (ae s x)) d r s Q := ik rfl
theorem Wh {v : VV} (hv : en v = true) : bxO h 1 v = some (.ptr h.length 0, h ++ [.box [v] false]) := by
 cases v <;> first | rfl | (simp [en] at hv)
theorem yv {n : Nat} {cs : List VV} (hn : cs.length = n) : bxO h n (.agg cs) = some (.ptr h.length 0, h ++ [.box cs false]) := by
 simp [bxO, ak, ml, cellsOf, hn]
def stO (h : ah) (n : Nat) (v w : VV) : Option (VV × ah) := ak h (ml v w .undef) (.st n (.t 0) (.t 1))
theorem anv {n : Nat} : XO F (⟨none, d, .st n x y⟩ :: r) ⟨s, h⟩ Q ↔ XV F (stO h n (ae s x) (ae s y)) d r s Q := ik rfl
theorem ann {n : Nat} : XD F ((⟨none, d, .st n x y⟩, c) :: q) ⟨s, h⟩ Q ↔ XVD F (stO h n (ae s x) (ae s y)) c h d q s Q := mi rfl
theorem kk {n id : Nat} {cs cells : List VV} (hn : cs.length = n) (ho : h[id]? = some (.box cells false)) (hc : cells.length = n) : stO h n (.ptr id 0) (.agg cs) = some (.undef, h.set id (.box cs false)) := by
 have : ap cells 0 cs = cs := by
  unfold ap
  rw [List.take_zero, List.nil_append, Nat.zero_add, List.drop_eq_nil_of_le (by omega), List.append_nil]
 simp [stO, ak, ml, cellsOf, hn, ho, hc, this]
theorem zi {id off : Nat} {v : VV} {cells : List VV} (hv : en v = true) (ho : h[id]? = some (.box cells false)) (hc : off < cells.length) : stO h 1 (.ptr id off) v = some (.undef, h.set id (.box (cells.set off v) false)) := by
 have hs : ap cells off [v] = cells.set off v := by
  unfold ap
  simp only [List.length_singleton]
  rw [List.set_eq_take_append_cons_drop, if_pos hc, List.append_assoc, List.singleton_append]
 have h1 : off + 1 <= cells.length := hc
 have hcv : cellsOf v = some [v] := by cases v <;> first | rfl | (simp [en] at hv)
 simp [stO, ak, ml, hcv, ho, h1, hs]
theorem nx {n id : Nat} {cells : List VV} {fr : Bool} (ho : h[id]? = some (.box cells fr)) (hc : cells.length = n) : ldO h true n (.ptr id 0) = some (.agg cells, h) := by
 subst hc
 simp [ldO, ak, ml, ho, dp]
theorem Ux {P : VV -> ah -> Prop} {a m k n id : Nat} {cells : List VV} {fr : Bool} (ha : s.getD a .undef = .ptr id 0) (ho : h[id]? = some (.box cells fr)) (hn : cells.length = n) (hm : m < s.length) (hk : k < s.length)
  (hP : P (.tup [.agg cells, s.getD m .undef, s.getD k .undef]) h) : RQ [.cell a true n, .t m, .t k] P .ret ⟨s, h⟩ := by
 subst hn
 refine ⟨trivial, [.agg cells, s.getD m .undef, s.getD k .undef], ?_, hP⟩
 simp only [jz, xu, ko hm, ko hk, ha, ho, List.drop_zero, List.take_length, dp, if_true]
theorem bh {o : VO} : (h ++ [o])[h.length]? = some o := by simp
theorem ly {o o' : VO} : (h ++ [o]).set h.length o' = h ++ [o'] := by simp
theorem ald {a b u v : VV} : stO [.box [a, b] false] 2 (.ptr 0 0) (.agg [u, v]) = some (.undef, [.box [u, v] false]) := rfl
theorem ai7 {a b c u v w : VV} : stO [.box [a, b, c] false] 3 (.ptr 0 0) (.agg [u, v, w]) = some (.undef, [.box [u, v, w] false]) := rfl
theorem adb {a b u v : VV} : stO (h ++ [.box [a, b] false]) 2 (.ptr h.length 0) (.agg [u, v]) = some (.undef, h ++ [.box [u, v] false]) := by
 rw [kk (n := 2) (cells := [a, b]) rfl (by simp) rfl, ly]
theorem Vx {a b c u v w : VV} : stO (h ++ [.box [a, b, c] false]) 3 (.ptr h.length 0) (.agg [u, v, w]) = some (.undef, h ++ [.box [u, v, w] false]) := by
 rw [kk (n := 3) (cells := [a, b, c]) rfl (by simp) rfl, ly]
theorem aip {a b : VV} {fr : Bool} : ldO (h ++ [.box [a, b] fr]) true 2 (.ptr h.length 0) = some (.agg [a, b], h ++ [.box [a, b] fr]) := nx bh rfl
theorem aij {a b c : VV} {fr : Bool} : ldO (h ++ [.box [a, b, c] fr]) true 3 (.ptr h.length 0) = some (.agg [a, b, c], h ++ [.box [a, b, c] fr]) := nx bh rfl
theorem Gy {cells : List VV} {fr : Bool} {i : Nat} {v : VV} (hv : cells[i]? = some v) : ldO (h ++ [.box cells fr]) false 1 (.ptr h.length i) = some (v, h ++ [.box cells fr]) := bf bh hv
theorem aiu {a b : CV} : ldO h true 2 (.rptr [a, b]) = some (.agg [.cv a, .cv b], h) := rfl
theorem acy {a b c : CV} : ldO h true 3 (.rptr [a, b, c]) = some (.agg [.cv a, .cv b, .cv c], h) := rfl
theorem Bo {x : Opd} {f : Nat} {args : List Opd} {as : List VV} {h1 hc : ah} {v w : VV} (hx : ae s x = .func f []) (ha : cf h (args.map (ae s)) = some (as, h1)) (hcall : call F f as [] = some (.ret v, hc))
  (hr : au hc v = some w) (hk : XO F r ⟨de s d w, h1⟩ Q) (hf : f < YB := by decide) : XO F (⟨none, d, .callv true x args⟩ :: r) ⟨s, h⟩ Q := by
 refine (Nu (v := w) (h' := h1) hx ?_ hf).mpr hk
 unfold dy
 simp only [List.append_nil, if_true, ha, hcall, hr, Option.map_some]
end
def eo (h : ah) (z : Nat) (els : List (List CV)) (v : VV) : Prop :=
 (els = [] /\ v = bq) \/ (∃ id g, els ≠ [] /\ v = .own id g 0 els.length false /\ h[id]? = some (.arr z els g false))
theorem eo.nil (h : ah) (z : Nat) : eo h z [] bq := .inl ⟨rfl, rfl⟩
theorem eo.push {h : ah} {z : Nat} {els : List (List CV)} {v : VV} (hb : eo h z els v) (o : VO) : eo (h ++ [o]) z els v := by
 rcases hb with hb | ⟨id, g, hne, h1, h2⟩
 ·exact .inl hb
 ·refine .inr ⟨id, g, hne, h1, ?_⟩
  have : id < h.length := (List.getElem?_eq_some_iff.1 h2).1
  rw [List.getElem?_append_left this]; exact h2
theorem eo.setBox {h : ah} {z : Nat} {els : List (List CV)} {v : VV} (hb : eo h z els v) {id : Nat} {cells : List VV} {fr : Bool} (ho : h[id]? = some (.box cells fr)) (o : VO) : eo (h.set id o) z els v := by
 rcases hb with hb | ⟨id', g, hne, h1, h2⟩
 ·exact .inl hb
 ·refine .inr ⟨id', g, hne, h1, ?_⟩
  have : id ≠ id' := by rintro rfl; rw [ho] at h2; cases h2
  rw [List.getElem?_set_ne this]; exact h2
theorem eo.els {h : ah} {z : Nat} {els : List (List CV)} {v : VV} (hb : eo h z els v) : gh h z v = some els := by
 rcases hb with ⟨rfl, rfl⟩ | ⟨id, g, hne, rfl, h2⟩
 ·rfl
 ·simp [gh, h2]
theorem eo.len {h : ah} {z : Nat} {els : List (List CV)} {v : VV} (hb : eo h z els v) : lj v = some els.length := by
 rcases hb with ⟨rfl, rfl⟩ | ⟨id, g, hne, rfl, h2⟩ <;> rfl
def slV (z : Nat) (els : List (List CV)) : VV := if els = [] then bq else .cv (.sl z els false)
theorem eo.res {h : ah} {z : Nat} {els : List (List CV)} {v : VV} (hb : eo h z els v) (hn : els ≠ []) : ij h v = some (.cv (.sl z els false), h.set (match v with | .own id _ _ _ _ => id | _ => 0) (match v with | .own _ g _ _ _ => .arr z els g true | _ => .box [] true)) := by
 rcases hb with ⟨e, _⟩ | ⟨id, g, hne, rfl, h2⟩
 ·exact absurd e hn
 ·simp [ij, clos, h2]
theorem eo.slV {h : ah} {z : Nat} {els : List (List CV)} {v : VV} (hb : eo h z els v) : ∃ h1, ij h v = some (Go.Vm.slV z els, h1) := by
 unfold Go.Vm.slV
 by_cases hn : els = []
 ·rw [if_pos hn]
  rcases hb with ⟨_, rfl⟩ | ⟨id, g, hne, rfl, h2⟩
  ·exact ⟨h, rfl⟩
  ·exact absurd hn hne
 ·rw [if_neg hn]
  exact ⟨_, hb.res hn⟩
theorem Hy {z : Nat} {els : List (List CV)} : SlV z els (slV z els) := by
 unfold slV
 split
 ·rename_i e; exact .inl ⟨rfl, e⟩
 ·exact .inr ⟨_, rfl⟩
def Cg (w : VV) (v : VV) (h : ah) : Prop := au h v = some w
theorem tz {z by_ : Nat} {zero : List CV} {els new : List (List CV)} {v : VV} {h : ah} {x y : Opd} {F : Nat → Option FnIR} {d : Option Nat} {r : List Op1} {s : List VV} {Q : Pst}
    (hb : eo h z els v) (hx : ae s x = v) (hy : ja h z (ae s y) = some new) (h1 : (els.length + new.length) * by_ ≤ 35184372088832) (h2 : els.length + new.length ≤ 35184372088832)
    (hk : ∀ v' h', eo h' z (els ++ new) v' → h.length ≤ h'.length → (∀ (j : Nat) (o : VO), h[j]? = some o → (∀ e g, o ≠ VO.arr z e g false) → h'[j]? = some o) → XO F r ⟨de s d v', h'⟩ Q) : XO F (⟨none, d, .app z by_ zero x y⟩ :: r) ⟨s, h⟩ Q := by
  rw [ik rfl]
  have hm : cj = 35184372088832 := rfl
  have hl : lj (ae s x) = some els.length := by rw [hx]; exact hb.len
  have hE : gh h z (ae s x) = some els := by rw [hx]; exact hb.els
  simp only [ak, hy, hl, hm, h1, h2, and_self, if_true]
  unfold XV
  by_cases hn : new = []
  · subst hn
    simp only [if_true, hE]
    refine ⟨_, _, rfl, hk _ _ ?_ (Nat.le_refl _) (fun j o ho _ => ho)⟩
    rw [hx, List.append_nil]; exact hb
  · simp only [if_neg hn]
    rcases hb with ⟨rfl, rfl⟩ | ⟨id, g, hne, rfl, h3⟩
    · rw [hx]
      refine ⟨_, _, rfl, hk _ _ (.inr ⟨h.length, 0, by simpa using hn, ?_, ?_⟩) (by simp) (fun j o ho _ => ?_)⟩
      · simp
      · simp
      · rw [List.getElem?_append_left (List.getElem?_eq_some_iff.1 ho).1]; exact ho
    · rw [hx]
      simp only [h3, Nat.zero_add, Nat.le_refl, and_self, if_true, Bool.false_eq_true, if_false, List.drop_zero, List.take_length]
      have hid : id < h.length := (List.getElem?_eq_some_iff.1 h3).1
      refine ⟨_, _, rfl, hk _ _ (.inr ⟨id, g + 1, by simp [hne], ?_, ?_⟩) (by simp) (fun j o ho hno => ?_)⟩
      · rw [List.length_append]
      · rw [List.getElem?_set_self hid]
      · have : id ≠ j := by
          rintro rfl
          rw [h3] at ho
          cases ho
          exact hno _ _ rfl
        rw [List.getElem?_set_ne this]; exact ho
theorem Buf.toG {h0 : ah} {z : Nat} {els : List (List CV)} {v : VV} {h : ah} (hb : Buf h0 z els v h) (hn : els ≠ []) : eo h z els v := by
 rcases hb with ⟨e, _, _⟩ | ⟨g, rfl, rfl⟩
 ·exact absurd e hn
 ·exact .inr ⟨h0.length, g, hn, rfl, by simp⟩
theorem eo.close {h : ah} {z : Nat} {els : List (List CV)} {v : VV} (hb : eo h z els v) : Cg (Go.Vm.slV z els) v h := by
 obtain ⟨h1, e⟩ := hb.slV
 unfold Cg
 rcases hb with ⟨rfl, rfl⟩ | ⟨id, g, hne, rfl, h2⟩
 ·rfl
 ·simp only [au, e]; rfl
section
variable {F : Nat -> Option FnIR} {d : Option Nat} {x y : Opd} {r : List Op1} {c : Cl} {q : List (Op1 × Cl)} {s : List VV} {h : ah} {Q : Pst}
def ah0 (h : ah) (z len : Nat) (zero : List VV) (parts : List (Nat × Nat × VV)) : Option (VV × ah) :=
 match fill zero parts with
 | some cs => match oi h cs with
  | some (cc, h1) => some (.own h1.length 0 0 len true, h1 ++ [.arr z (ni z len cc) 0 false])
  | none => none
 | none => none
theorem Nt {z len : Nat} {zero : List VV} {parts : List (Nat × Nat × Opd)} : ak h (ae s) (.mksl z len zero parts true) = ah0 h z len zero (gu s parts) := by
 simp only [ak, ah0, ta, if_true]
 cases fill zero (gu s parts) with
 | none => rfl
 | some cs => cases oi h cs <;> rfl
theorem Zs {z len : Nat} {zero : List VV} {parts : List (Nat × Nat × Opd)} : XO F (⟨none, d, .mksl z len zero parts true⟩ :: r) ⟨s, h⟩ Q ↔ XV F (ah0 h z len zero (gu s parts)) d r s Q := by
 rw [ik rfl, Nt]
theorem Zt {z len : Nat} {zero : List VV} {parts : List (Nat × Nat × Opd)} : XD F ((⟨none, d, .mksl z len zero parts true⟩, c) :: q) ⟨s, h⟩ Q ↔ XVD F (ah0 h z len zero (gu s parts)) c h d q s Q := by
 rw [mi rfl, Nt]
def mrO (h : ah) (v : VV) : Option (VV × ah) := ak h (ml v .undef .undef) (.mrk (.t 0))
theorem aii : XO F (⟨none, d, .mrk x⟩ :: r) ⟨s, h⟩ Q ↔ XV F (mrO h (ae s x)) d r s Q := ik rfl
theorem ajr : XD F ((⟨none, d, .mrk x⟩, c) :: q) ⟨s, h⟩ Q ↔ XVD F (mrO h (ae s x)) c h d q s Q := mi rfl
theorem alz {id g off len : Nat} {els : List (List CV)} {ex : Bool} (ho : h[id]? = some (.arr 1 els g false)) : mrO h (.own id g off len ex) = some (.own id g off len ex, h) := by
 simp [mrO, ak, ml, ho]
theorem aol {g off len : Nat} {els : List (List CV)} {ex : Bool} {t : ah} : mrO (.arr 1 els g false :: t) (.own 0 g off len ex) = some (.own 0 g off len ex, .arr 1 els g false :: t) := alz rfl
end
end Go.Vm
/-
 Vm: more ways to go on (own work).
-/
namespace Go.Vm
open Go
section
variable {F : Nat -> Option FnIR}
def NM (Mid : St -> Prop) : Pst := fun o st => o = .norm /\ Mid st
theorem adt {Mid : St -> Prop} {st : St} : NM Mid .norm st ↔ Mid st := ⟨fun h => h.2, fun h => ⟨rfl, h⟩⟩
theorem ajx {Mid : St -> Prop} {tail : IR} {Q : Pst} (hr : ∀ s h, Mid ⟨s, h⟩ -> X F tail ⟨s, h⟩ Q) : ∀ o st, NM Mid o st -> K F tail Q o st := by
 rintro o ⟨s, h⟩ ⟨rfl, hm⟩
 exact hr s h hm
theorem akt {p : Prop} [Decidable p] {a b tail : IR} {st : St} {Q : Pst} (Mid : St -> Prop) (hp : p -> X F a st (NM Mid)) (hq : ¬p -> X F b st (NM Mid)) (hr : ∀ s h, Mid ⟨s, h⟩ -> X F tail ⟨s, h⟩ Q) :
  XB F (.cv (.sc (.bool (decide p)))) a b st (K F tail Q) :=
 Pe (fun h => (hp h).mono (ajx hr)) (fun h => (hq h).mono (ajx hr))
def alp (neg : Bool) : VV -> VV -> Option VV
 | .cv (.sc (.bool a)), .cv (.sc (.bool b)) => some (vb (if neg then !(a == b) else a == b))
 | _, _ => none
theorem ah7 {a b : Bool} : alp false (vb a) (vb b) = some (vb (a == b)) := rfl
theorem ail {a b : Bool} : alp true (vb a) (vb b) = some (vb (!(a == b))) := rfl
variable {d : Option Nat} {x y z : Opd} {r : List Op1} {c : Cl} {q : List (Op1 × Cl)} {s : List VV} {h : ah} {Q : Pst}
theorem acz {neg : Bool} : ak h (ae s) (.eqb neg x y) = (alp neg (ae s x) (ae s y)).map (·, h) := by
 simp only [ak]
 generalize ae s x = a
 generalize ae s y = b
 cases a with
 | cv c => cases c with
  | sc u =>
   cases u with
   | bool t =>
    cases b with
    | cv c' => cases c' with
     | sc u' => cases u' <;> rfl
     | sl _ _ _ => rfl
    | _ => rfl
   | _ => rfl
  | sl _ _ _ => rfl
 | _ => rfl
theorem ajp {neg : Bool} : XO F (⟨none, d, .eqb neg x y⟩ :: r) ⟨s, h⟩ Q ↔ XW F (alp neg (ae s x) (ae s y)) h d r s Q := qh rfl acz
theorem aiq {neg : Bool} : XD F ((⟨none, d, .eqb neg x y⟩, c) :: q) ⟨s, h⟩ Q ↔ XWD F (alp neg (ae s x) (ae s y)) h d q s Q := js rfl acz
def unO (op : UnOp) : VV -> Option VV
 | .cv (.sc a) => (unV op a).map fun v => .cv (.sc v)
 | _ => none
theorem ake {b : Bool} : unO .not (vb b) = some (vb (!b)) := rfl
theorem alm {op : UnOp} : ak h (ae s) (.un op x) = (unO op (ae s x)).map (·, h) := by
 simp only [ak]
 generalize ae s x = a
 cases a with
 | cv c => cases c with
  | sc u => simp only [unO]; cases unV op u <;> rfl
  | sl _ _ _ => rfl
 | _ => rfl
theorem am2 {op : UnOp} : XO F (⟨none, d, .un op x⟩ :: r) ⟨s, h⟩ Q ↔ XW F (unO op (ae s x)) h d r s Q := qh rfl alm
theorem anz {op : UnOp} : XD F ((⟨none, d, .un op x⟩, c) :: q) ⟨s, h⟩ Q ↔ XWD F (unO op (ae s x)) h d q s Q := js rfl alm
end
theorem cg {h h1 h2 : ah} {v c : VV} {l as : List VV} (hv : ij h v = some (c, h1)) (hl : cf h1 l = some (as, h2)) : cf h (v :: l) = some (c :: as, h2) := by
 simp [cf, hv, hl]
section
variable {z : Nat} {es : List (List CV)} {v : VV} {h : ah}
theorem SlV.upto (hv : SlV z es v) {k : IntKind} {b : Int} (h2 : 0 <= b) (h3 : b <= es.length) :
  ∃ v', SlV z (es.take b.toNat) v' /\ slO h z v none (some (vi k b)) none = some (v', h) := by
 rcases hv with ⟨rfl, rfl⟩ | ⟨ex, rfl⟩
 ·have hb : b = 0 := by simp at h3; omega
  subst hb
  exact ⟨bq, .inl ⟨rfl, by simp⟩, by simp [slO, ak, ml, lj, bnd, pk]⟩
 ·refine ⟨.cv (.sl z (es.take b.toNat) (ex && b.toNat == es.length)), .inr ⟨_, rfl⟩, ?_⟩
  simp [slO, ak, ml, lj, bnd, pk, h2, h3]
theorem SlV.from_ (hv : SlV z es v) {k : IntKind} {a : Int} (h2 : 0 <= a) (h3 : a <= es.length) :
  ∃ v', SlV z (es.drop a.toNat) v' /\ slO h z v (some (vi k a)) none none = some (v', h) := by
 rcases hv with ⟨rfl, rfl⟩ | ⟨ex, rfl⟩
 ·have hb : a = 0 := by simp at h3; omega
  subst hb
  exact ⟨bq, .inl ⟨rfl, by simp⟩, by simp [slO, ak, ml, lj, bnd, pk]⟩
 ·refine ⟨.cv (.sl z (es.drop a.toNat) ex), .inr ⟨_, rfl⟩, ?_⟩
  have e : (es.drop a.toNat).take (es.length - a.toNat) = es.drop a.toNat := List.take_of_length_le (by simp)
  simp [slO, ak, ml, lj, bnd, pk, h2, h3, e]
end
end Go.Vm
/-
 Vm: more ways to go on, 2 (own work).
-/
namespace Go.Vm
open Go
section
variable {F : Nat -> Option FnIR} {d : Option Nat} {x y : Opd} {r : List Op1} {c : Cl} {q : List (Op1 × Cl)} {s : List VV} {h : ah} {Q : Pst}
theorem ak6 {z by_ : Nat} {zero : List CV} {k k' : IntKind} {a : Nat} (hx : ae s x = vi k a) (hy : ae s y = vi k' a) (h1 : a * by_ <= 35184372088832) (h2 : a <= 35184372088832) :
  ak h (ae s) (.mks z by_ zero x y true) = some (.own h.length 0 0 a true, h ++ [.arr z (List.replicate a zero) 0 false]) := by
 have hm : cj = 35184372088832 := rfl
 have h3 : (a : Int) * (by_ : Int) <= 35184372088832 := by
  rw [<- Int.natCast_mul]; omega
 have h4 : (a : Int) <= 35184372088832 := by omega
 simp [ak, hx, hy, pk, hm, h3, h4]
theorem Vf {z by_ : Nat} {zero : List CV} {k k' : IntKind} {a : Nat} (hx : ae s x = vi k a) (hy : ae s y = vi k' a) (h1 : a * by_ <= 35184372088832) (h2 : a <= 35184372088832)
  (hk : XO F r ⟨de s d (.own h.length 0 0 a true), h ++ [.arr z (List.replicate a zero) 0 false]⟩ Q) : XO F (⟨none, d, .mks z by_ zero x y true⟩ :: r) ⟨s, h⟩ Q := by
 rw [ik rfl, ak6 hx hy h1 h2, lf]
 exact hk
theorem ajg {z by_ : Nat} {zero : List CV} {els new : List (List CV)} {v : VV}
    (hb : eo h z els v) (hx : ae s x = v) (hy : ja h z (ae s y) = some new) (h1 : (els.length + new.length) * by_ ≤ 35184372088832) (h2 : els.length + new.length ≤ 35184372088832) :
    ∃ v' h', ak h (ae s) (.app z by_ zero x y) = some (v', h') ∧ eo h' z (els ++ new) v' ∧ h.length ≤ h'.length ∧ (∀ (j : Nat) (o : VO), h[j]? = some o → (∀ e g, o ≠ VO.arr z e g false) → h'[j]? = some o) := by
  have hm : cj = 35184372088832 := rfl
  have hl : lj (ae s x) = some els.length := by rw [hx]; exact hb.len
  have hE : gh h z (ae s x) = some els := by rw [hx]; exact hb.els
  simp only [ak, hy, hl, hm, h1, h2, and_self, if_true]
  by_cases hn : new = []
  · subst hn
    simp only [if_true, hE]
    refine ⟨_, _, rfl, ?_, Nat.le_refl _, (fun j o ho _ => ho)⟩
    rw [hx, List.append_nil]; exact hb
  · simp only [if_neg hn]
    rcases hb with ⟨rfl, rfl⟩ | ⟨id, g, hne, rfl, h3⟩
    · rw [hx]
      refine ⟨_, _, rfl, .inr ⟨h.length, 0, by simpa using hn, ?_, ?_⟩, by simp, (fun j o ho _ => ?_)⟩
      · simp
      · simp
      · rw [List.getElem?_append_left (List.getElem?_eq_some_iff.1 ho).1]; exact ho
    · rw [hx]
      simp only [h3, Nat.zero_add, Nat.le_refl, and_self, if_true, Bool.false_eq_true, if_false, List.drop_zero, List.take_length]
      have hid : id < h.length := (List.getElem?_eq_some_iff.1 h3).1
      refine ⟨_, _, rfl, .inr ⟨id, g + 1, by simp [hne], ?_, ?_⟩, by simp, (fun j o ho hno => ?_)⟩
      · rw [List.length_append]
      · rw [List.getElem?_set_self hid]
      · have : id ≠ j := by
          rintro rfl
          rw [h3] at ho
          cases ho
          exact hno _ _ rfl
        rw [List.getElem?_set_ne this]; exact ho
theorem ahs {z by_ : Nat} {zero : List CV} {els new : List (List CV)} {v : VV}
  (hb : eo h z els v) (hx : ae s x = v) (hy : ja h z (ae s y) = some new) (h1 : (els.length + new.length) * by_ <= 35184372088832) (h2 : els.length + new.length <= 35184372088832)
  (hk : ∀ v' h', eo h' z (els ++ new) v' -> h.length <= h'.length -> (∀ (j : Nat) (o : VO), h[j]? = some o -> (∀ e g, o ≠ VO.arr z e g false) -> h'[j]? = some o) -> XD F q ⟨de s d v', h'⟩ Q) :
  XD F ((⟨none, d, .app z by_ zero x y⟩, .k) :: q) ⟨s, h⟩ Q := by
 obtain ⟨v', h', e, a1, a2, a3⟩ := ajg (zero := zero) hb hx hy h1 h2
 rw [mi rfl, e, So]
 exact hk v' h' a1 a2 a3
end
theorem qr (n : Nat) : List.replicate n [CV.sc (.int .u8 0)] = eB (List.replicate n 0) := by
 simp [eB, bc]
theorem Ui {h : ah} {z : Nat} {els : List (List CV)} {g n : Nat} {ex : Bool} (hn : els.length = n) :
  clos (h ++ [.arr z els g false]) (.own h.length g 0 n ex) = some (.sl z els ex, h ++ [.arr z els g true]) := by
 subst hn
 simp [clos]
theorem agr {h : ah} {z : Nat} {els : List (List CV)} {g n i : Nat} {ex : Bool} {k : IntKind} (hi : i < n) : iaO (h ++ [.arr z els g false]) z (.own h.length g 0 n ex) (vi k (i : Int)) = some (.eptr h.length g i 0, h ++ [.arr z els g false]) := by
 rw [yn (els := els) (fr := false) (by omega) (by simp) (by simpa using hi)]
 simp
theorem ae3 {h : ah} {l : List UInt8} {g i : Nat} {b : UInt8} (hi : i < l.length) : stO (h ++ [.arr 1 (eB l) g false]) 1 (.eptr h.length g i 0) (vi .u8 b.toNat) = some (.undef, h ++ [.arr 1 (eB (l.set i b)) g false]) := by
 have he : (eB l)[i]? = some [.sc (.int .u8 (l[i]'hi).toNat)] := nm (List.getElem?_eq_getElem hi)
 have e2 : eB (l.set i b) = (eB l).set i (bc b) := by simp [eB, List.map_set]
 rw [e2]
 simp [stO, ak, ml, cellsOf, oi, clos, he, ap, bc]
def NM2 (Mid : List VV -> ah -> Prop) : Pst := fun o st => o = .norm /\ Mid st.s st.h
theorem abd {Mid : List VV -> ah -> Prop} {s : List VV} {h : ah} : NM2 Mid .norm ⟨s, h⟩ ↔ Mid s h := ⟨fun h => h.2, fun h => ⟨rfl, h⟩⟩
def NR2 (Mid : List VV -> ah -> Prop) (Q : Pst) : Pst := fun o st => match o with
 | .norm => Mid st.s st.h
 | o => Q o st
theorem Ys {Mid : List VV -> ah -> Prop} {Q : Pst} {s : List VV} {h : ah} : NR2 Mid Q .norm ⟨s, h⟩ ↔ Mid s h := Iff.rfl
theorem af1 {Mid : List VV -> ah -> Prop} {Q : Pst} {st : St} : NR2 Mid Q .ret st ↔ Q .ret st := Iff.rfl
theorem ach {Mid : List VV -> ah -> Prop} {Q : Pst} {st : St} {i : Nat} : NR2 Mid Q (.exit i) st ↔ Q (.exit i) st := Iff.rfl
theorem Zh {Mid : List VV -> ah -> Prop} {Q : Pst} {st : St} {i : Nat} : NR2 Mid Q (.goto i) st ↔ Q (.goto i) st := Iff.rfl
end Go.Vm
/-
 Vm: the rules by which a run is reckoned, for simp (own work).
-/
namespace Go.Vm
open Go
attribute [go_sem] abd Ys af1 ach Zh ao1 ank ai5 ad3 alk af9 afa akj aih ano aem ang aox an3 am8 amy anl ai0 aj3 af3 aly aib ae6 an9 ao0 al3 ak7 ajj ame aif ajk afc akq amb aeb ahu agk anr ajm adq zn Ha So abg anv ann aie Zs Zt aii ajr aol aac ald ai7 adb Vx aip aij aiu acy Gy Nat.zero_add aj5 ao5 aod Oz ain aka agl adw anx akr aec aho aj6 akw amd Option.map_some Option.map_none ahi adv ans alc ji aow ao8 aos List.drop_zero List.drop_succ_cons Mt Kt ajf anb Lw aet Vh aex ad9 Uu lf al8 ane ah6 ai9 aig ant aob alq Mj agv oe Au ac ahl di ne_eq not_false_eq_true not_true_eq_false ac1 aop am0 aot aou apa Oi akv aiy anm ams alb Jf aik anc an6 alt ajo anh amx anq Xh Oh aep aea aen aeq al7 nz Ci Hn Nk ag1 ag9 agu ag5 agh afg abo aan decide_true decide_false eq_self if_true if_false List.getElem?_cons_zero List.getElem?_cons_succ ajp aiq ah7 ail am2 anz ake adt Bool.not_true Bool.not_false
end Go.Vm
/-
 Vm: how a law's arguments come in, and how it ends (own work).
-/
namespace Go.Vm
open Go Go.RowKit
def acl (P : Program) : Nat -> TypeId -> Bool
 | 0, _ => false
 | n + 1, t => match P.underlying t with
  | some .bool => P.cellsOf t == 1
  | some (.int _) => P.cellsOf t == 1
  | some .string => P.cellsOf t == 1
  | some (.slice e) => P.cellsOf t == 1 && decide (0 < P.cellsOf e) && acl P n e
  | some (.struct fs) => (fs.toList.foldl (fun o f => o.bind fun k => if f.offset = k then some (k + P.cellsOf f.type) else none) (some 0) == some (P.cellsOf t)) && fs.toList.all fun f => acl P n f.type
  | _ => false
def DR (P : Program) {H : Type} : Nat → TypeId → DataW H → List CV → Prop
  | 0, _, _, _ => False
  | n + 1, t, d, cs => match P.underlying t with
    | some .bool => ∃ b, d = .lit (.bool b) ∧ cs = [.sc (.bool b)]
    | some (.int k) => ∃ x, d = .lit (.int k x) ∧ cs = [.sc (.int k x)] ∧ (Lit.int k x).wf = true
    | some .string => ∃ s : ByteArray, d = .lit (.string s.data.toList) ∧ cs = [.sc (.string s)] ∧ s.size ≤ maxLen
    | some (.slice e) => (d = .nil ∧ cs = [.sc (.slice none 0 0)]) ∨ ∃ ds rest els, d = .slice ds rest ∧ cs = [.sl (P.cellsOf e) els false] ∧ els.length = ds.length ∧ els.length ≤ maxLen ∧
        ∀ (i : Nat) (el : List CV) (y : DataW H), els[i]? = some el → ds[i]? = some y → el.length = P.cellsOf e ∧ DR P n e y el
    | some (.struct fs) => ∃ ds, d = .agg ds ∧ ds.length = fs.size ∧ cs.length = P.cellsOf t ∧
        ∀ (i : Nat) (f : Field) (y : DataW H), fs[i]? = some f → ds[i]? = some y → DR P n f.type y ((cs.drop f.offset).take (P.cellsOf f.type))
    | _ => False
section
variable {H : Type} {enc : TypeId × Value -> H} {P : Program} {w : World} {base : Nat} {sp : Nat -> Bool} {held : Bool}
def Rel (w : World) (cs : List Value) (ccs : List CV) : Prop := ccs.length = cs.length /\ ∀ (i : Nat) (v : Value) (c : CV), cs[i]? = some v -> ccs[i]? = some c -> CR w.cell? v c
theorem Rel.one {w : World} {v : Value} {c : CV} (h : CR w.cell? v c) : Rel w [v] [c] := by
 refine ⟨rfl, fun i v' c' hv hc => ?_⟩
 cases i with
 | zero => simp at hv hc; subst hv hc; exact h
 | succ i => simp at hv
theorem Gg : ∀ (fl : List Field) (k tot : Nat), fl.foldl (fun o f => o.bind fun k => if f.offset = k then some (k + P.cellsOf f.type) else none) (some k) = some tot -> k <= tot
 | [], k, tot, h => by simp at h; omega
 | f :: r, k, tot, h => by
  simp only [List.foldl_cons, Option.bind_some] at h
  by_cases hf : f.offset = k
  ·rw [if_pos hf] at h
   have := Gg r _ _ h
   omega
  ·rw [if_neg hf] at h
   have none_none : ∀ l : List Field, l.foldl (fun (o : Option Nat) f => o.bind fun k => if f.offset = k then some (k + P.cellsOf f.type) else none) none = none := by
    intro l; induction l with
    | nil => rfl
    | cons _ _ ih => simpa using ih
   rw [none_none] at h; cases h
theorem Kf {n fuel : Nat} {cs : List Value}
  (ih : ∀ (t : TypeId) (cs : List Value) (x : DataW H × List MemPlace), acl P n t = true -> DataW.trod enc P w base sp held fuel t cs = some x -> ∃ ccs, Rel w cs ccs /\ DR P n t x.1 ccs) :
  ∀ (fl : List Field) (off : Nat) (ds : List (DataW H × List MemPlace)), fl.foldl (fun o f => o.bind fun k => if f.offset = k then some (k + P.cellsOf f.type) else none) (some off) = some cs.length ->
   (∀ f ∈ fl, acl P n f.type = true) -> ds.length = fl.length ->
   (∀ (i : Nat) (f : Field), fl[i]? = some f -> DataW.trod enc P w base sp held fuel f.type ((cs.drop f.offset).take (P.cellsOf f.type)) = ds[i]?) ->
   ∃ ccs : List CV, ccs.length + off = cs.length /\ (∀ (i : Nat) (v : Value) (c : CV), cs[off + i]? = some v -> ccs[i]? = some c -> CR w.cell? v c) /\
    ∀ (i : Nat) (f : Field) (y : DataW H × List MemPlace), fl[i]? = some f -> ds[i]? = some y -> off <= f.offset /\ DR P n f.type y.1 ((ccs.drop (f.offset - off)).take (P.cellsOf f.type))
 | [], off, ds, ht, _, _, _ => by
  simp at ht
  exact ⟨[], by simpa using ht, fun i v c _ hc => by simp at hc, fun i f y hf => by simp at hf⟩
 | f :: r, off, ds, ht, hok, hl, hd => by
  have hle := Gg (P := P) (f :: r) _ _ ht
  simp only [List.foldl_cons, Option.bind_some] at ht
  by_cases hf : f.offset = off
  ·rw [if_pos hf] at ht
   have hle2 := Gg (P := P) r _ _ ht
   cases ds with
   | nil => simp at hl
   | cons y ys =>
    obtain ⟨fcs, ⟨h1, h2⟩, h3⟩ := ih f.type _ y (hok f (by simp)) (hd 0 f rfl)
    obtain ⟨rcs, h4, h5, h6⟩ := Kf ih r (off + P.cellsOf f.type) ys ht (fun g hg => hok g (by simp [hg])) (by simpa using hl) (fun i g hg => hd (i + 1) g (by simpa using hg))
    have hlen : fcs.length = P.cellsOf f.type := by
     rw [h1, List.length_take, List.length_drop, hf]; omega
    refine ⟨fcs ++ rcs, by rw [List.length_append, hlen]; omega, fun i v c hv hc => ?_, fun i g y' hg hy => ?_⟩
    ·rw [List.getElem?_append] at hc
     split at hc
     ·rename_i hlt
      refine h2 i v c ?_ hc
      rw [List.getElem?_take, if_pos (by omega), List.getElem?_drop, hf]; exact hv
     ·rename_i hge
      refine h5 (i - fcs.length) v c ?_ hc
      rw [<- hv]; congr 1; omega
    ·cases i with
     | zero =>
      simp at hg hy
      subst hg hy
      refine ⟨by omega, ?_⟩
      rw [hf, Nat.sub_self, List.drop_zero, List.take_append_of_le_length (by omega), List.take_of_length_le (by omega)]
      exact h3
     | succ i =>
      obtain ⟨a1, a2⟩ := h6 i g y' (by simpa using hg) (by simpa using hy)
      refine ⟨by omega, ?_⟩
      have e : g.offset - off = fcs.length + (g.offset - (off + P.cellsOf f.type)) := by omega
      rw [e, <- List.drop_drop, List.drop_left]
      exact a2
  ·rw [if_neg hf] at ht
   have none_none : ∀ l : List Field, l.foldl (fun (o : Option Nat) f => o.bind fun k => if f.offset = k then some (k + P.cellsOf f.type) else none) none = none := by
    intro l; induction l with
    | nil => rfl
    | cons _ _ ih => simpa using ih
   rw [none_none] at ht; cases ht
theorem se {base : Nat} {a : Addr} {n : Nat} {cs : List Value} (h : w.cells? base a n = some cs) : cs.length = n /\ ∀ i, i < n -> w.cell? (a.add i) = cs[i]? := by
 unfold World.cells? at h
 split at h
 ·refine ⟨by simpa using mapM_some_length h, fun i hi => ?_⟩
  exact mapM_some_get h i i (by simp [hi])
 ·cases h
theorem Mf (hsp0 : ∀ b, sp b = true) : ∀ (n fuel : Nat) (t : TypeId) (cs : List Value) (x : DataW H × List MemPlace), acl P n t = true → DataW.trod enc P w base sp held fuel t cs = some x → ∃ ccs, Rel w cs ccs ∧ DR P n t x.1 ccs
  | 0, _, _, _, _, hk, _ => by cases hk
  | n + 1, fuel, t, cs, x, hk, h => by
    simp only [acl] at hk
    simp only [DR]
    cases hu : P.underlying t with
    | none => rw [hu] at hk; cases hk
    | some d =>
      rw [hu] at hk
      cases d with
      | bool =>
        obtain ⟨b, rfl, rfl⟩ := DataW.trod_bool hu h
        exact ⟨[.sc (.bool b)], Rel.one (.sc _ rfl), _, rfl, rfl⟩
      | int k =>
        obtain ⟨m, rfl, rfl, hw⟩ := DataW.trod_int hu h
        exact ⟨[.sc (.int k m)], Rel.one (.sc _ rfl), _, rfl, rfl, hw⟩
      | string =>
        obtain ⟨s, rfl, rfl, hs⟩ := DataW.trod_string hu h
        exact ⟨[.sc (.string s)], Rel.one (.sc _ rfl), _, rfl, rfl, hs⟩
      | slice e =>
        simp only [Bool.and_eq_true, decide_eq_true_eq] at hk
        rcases DataW.trod_slice hu h with ⟨rfl, rfl⟩ | ⟨a, len, cap, elems, rest, m, rfl, rfl, rfl, hb, hl, hm, hlen, hel, hsp, hns⟩
        · exact ⟨[.sc (.slice none 0 0)], Rel.one (.sc _ rfl), .inl ⟨rfl, rfl⟩⟩
        · have key : ∀ i, i < len → ∃ el cv y, elems[i]? = some y ∧ w.cells? base (a.add (i * P.cellsOf e)) (P.cellsOf e) = some el ∧ Rel w el cv ∧ DR P n e y.1 cv := by
            intro i hi
            have hi' : i < elems.length := by omega
            have := hel i hi
            rw [List.getElem?_eq_getElem hi', Option.bind_eq_some_iff] at this
            obtain ⟨el, h1, h2⟩ := this
            obtain ⟨cv, h3, h4⟩ := Mf hsp0 n m e el _ hk.2 h2
            exact ⟨el, cv, _, List.getElem?_eq_getElem hi', h1, h3, h4⟩
          let els := (List.range len).map fun i => if hi : i < len then Classical.choose (Classical.choose_spec (key i hi)) else []
          have hels : ∀ i e', els[i]? = some e' → ∃ hi : i < len, e' = Classical.choose (Classical.choose_spec (key i hi)) := by
            intro i e' he
            have hi : i < len := by
              have := (List.getElem?_eq_some_iff.1 he).1
              simpa [els] using this
            refine ⟨hi, ?_⟩
            simp only [els, List.getElem?_map, List.getElem?_range hi, Option.map_some, dif_pos hi, Option.some.injEq] at he
            exact he.symm
          have hll : els.length = len := by simp [els]
          have val : ∀ i e', els[i]? = some e' → ∃ el y, i < len ∧ elems[i]? = some y ∧ w.cells? base (a.add (i * P.cellsOf e)) (P.cellsOf e) = some el ∧ Rel w el e' ∧ DR P n e y.1 e' := by
            intro i e' he
            obtain ⟨hi, rfl⟩ := hels i e' he
            obtain ⟨y, h1, h2, h3, h4⟩ := Classical.choose_spec (Classical.choose_spec (key i hi))
            exact ⟨_, y, hi, h1, h2, h3, h4⟩
          have spot : cap = 0 ∨ a.spot = none := by
            by_cases hl0 : len = 0
            · by_cases hc0 : cap = 0
              · exact .inl hc0
              · right
                obtain ⟨h1, h2⟩ := hsp (hsp0 _)
                have := h2 0 (by omega)
                rw [hl0, Nat.zero_add, Nat.zero_mul] at this
                have hr : 0 < rest.length := by omega
                rw [List.getElem?_eq_getElem hr, Option.bind_eq_some_iff] at this
                obtain ⟨el, h3, _⟩ := this
                obtain ⟨h4, h5⟩ := se h3
                have := h5 0 hk.1.2
                rw [List.getElem?_eq_getElem (by omega)] at this
                simpa [Addr.add] using World.cell?_spot this
            · right
              obtain ⟨el, cv, y, _, h1, _⟩ := key 0 (by omega)
              obtain ⟨h4, h5⟩ := se h1
              have := h5 0 hk.1.2
              rw [List.getElem?_eq_getElem (by omega)] at this
              simpa [Addr.add] using World.cell?_spot this
          have cell : ∀ i e', els[i]? = some e' → ∀ j c, e'[j]? = some c → ∃ v, w.cell? ⟨a.block, a.off + i * P.cellsOf e + j, none⟩ = some v ∧ CR w.cell? v c := by
            intro i e' he j c hj
            obtain ⟨el, y, hi, _, h2, ⟨h3, h3'⟩, _⟩ := val i e' he
            obtain ⟨h4, h5⟩ := se h2
            have hs : a.spot = none := spot.resolve_left (by omega)
            have hjl : j < el.length := by rw [← h3]; exact (List.getElem?_eq_some_iff.1 hj).1
            have := h5 j (by omega)
            rw [List.getElem?_eq_getElem hjl, db hs, db rfl] at this
            exact ⟨_, this, h3' j _ c (List.getElem?_eq_getElem hjl) hj⟩
          refine ⟨[.sl (P.cellsOf e) els false], Rel.one ?_, .inr ⟨elems.map (·.1), rest.map (·.1), els, rfl, rfl, by simp [hll, hlen], by omega, ?_⟩⟩
          · have := CR.sl (σ := w.cell?) a cap (P.cellsOf e) els false (fun i j => (w.cell? ⟨a.block, a.off + i * P.cellsOf e + j, none⟩).getD undef) spot (by omega) (fun e => by cases e) hk.1.2 ?_ ?_ ?_
            · rw [hll] at this; exact this
            · intro e' he
              obtain ⟨i, hi⟩ := List.getElem?_of_mem he
              obtain ⟨el, y, _, _, h2, ⟨h3, _⟩, _⟩ := val i e' hi
              rw [h3]; exact (se h2).1
            · intro i e' he j c hj
              obtain ⟨v, hv, _⟩ := cell i e' he j c hj
              rw [hv]; rfl
            · intro i e' he j c hj
              obtain ⟨v, hv, hr⟩ := cell i e' he j c hj
              rw [hv]; exact hr
          · intro i e' y he hy
            obtain ⟨el, y', _, h1, h2, ⟨h3, _⟩, h4⟩ := val i e' he
            rw [List.getElem?_map, h1] at hy
            cases hy
            exact ⟨by rw [h3]; exact (se h2).1, h4⟩
      | struct fs =>
        simp only [Bool.and_eq_true, beq_iff_eq, List.all_eq_true] at hk
        obtain ⟨xs, m, rfl, rfl, hcl, hxl, hxs⟩ := DataW.trod_struct hu h
        obtain ⟨ccs, h1, h2, h3⟩ := Kf (cs := cs) (fun t cs x => Mf hsp0 n m t cs x) fs.toList 0 xs (by rw [hcl]; exact hk.1) hk.2 (by simpa using hxl) (fun i f hf => hxs i f (by simpa using hf))
        refine ⟨ccs, ⟨by simpa using h1, fun i v c hv hc => h2 i v c (by rw [Nat.zero_add]; exact hv) hc⟩, xs.map (·.1), rfl, by simpa using hxl, by rw [← hcl]; simpa using h1, fun i f y hf hy => ?_⟩
        rw [List.getElem?_map] at hy
        cases hx : xs[i]? with
        | none => rw [hx] at hy; cases hy
        | some z =>
          rw [hx] at hy; cases hy
          have := (h3 i f z (by simpa using hf) hx).2
          simpa using this
      | _ => cases hk
def Rw (P : Program) (t : TypeId) : Bool := match P.underlying t with
 | some (.struct _) => true
 | _ => false
def DV (P : Program) (t : TypeId) (d : DataW H) (u : VV) : Prop := ∃ ccs, DR P 8 t d ccs /\ if Rw P t then u = .agg (ccs.map .cv) else ∃ c, ccs = [c] /\ u = .cv c
theorem arg_in (hsp0 : ∀ b, sp b = true) {r : Reach} {b : Nat} {t : TypeId} {v : Value} {d : DataW H} {ps : List MemPlace} (hk : acl P 8 t = true) (ho : Value.okWide P w r b t v) (h : DataW.Trod enc P w base sp held t v d ps) {β : Nat -> Option Loc} :
  ∃ u, VR w.cell? β v u /\ DV P t d u := by
 obtain ⟨fuel, h⟩ := h
 obtain ⟨ccs, ⟨h1, h2⟩, h3⟩ := Mf hsp0 8 fuel t _ _ hk h
 unfold DV Rw
 cases hu : P.underlying t with
 | none => simp [acl, hu] at hk
 | some ty =>
  have one : ∀ x : Value, v.cells = #[x] -> v = x -> ∃ u, VR w.cell? β v u /\ ∃ ccs, DR P 8 t d ccs /\ ∃ c, ccs = [c] /\ u = .cv c := by
   intro x hx hvx
   subst hvx
   rw [hx] at h1 h2
   match ccs, h1 with
   | [c], _ => exact ⟨.cv c, .cv _ _ (h2 0 v c rfl rfl), [c], h3, c, rfl, rfl⟩
  cases ty with
  | struct fs =>
   simp only [Value.okWide, hu] at ho
   obtain ⟨cs, rfl, hcs, _⟩ := ho
   refine ⟨.agg (ccs.map .cv), .agg _ _ (by simpa [Value.cells] using h1.symm) (fun c hc => ?_) (fun i v c hv hc => ?_), ccs, h3, by simp⟩
   ·obtain ⟨q, _, rfl⟩ := List.mem_map.1 hc; rfl
   ·rw [List.getElem?_map] at hc
    cases hq : ccs[i]? with
    | none => rw [hq] at hc; cases hc
    | some q => rw [hq] at hc; cases hc; exact .cv _ _ (h2 i v q (by simpa [Value.cells] using hv) hq)
  | bool =>
   simp only [Bool.false_eq_true, if_false]
   obtain ⟨x, rfl⟩ := WideShapes.okWide_bool hu ho
   exact one _ rfl rfl
  | int k =>
   simp only [Bool.false_eq_true, if_false]
   obtain ⟨x, rfl⟩ := WideShapes.okWide_int hu ho
   exact one _ rfl rfl
  | string =>
   simp only [Bool.false_eq_true, if_false]
   obtain ⟨x, rfl⟩ := WideShapes.okWide_string hu ho
   exact one _ rfl rfl
  | slice e =>
   simp only [Bool.false_eq_true, if_false]
   obtain ⟨x, y, z, rfl⟩ := WideShapes.okWide_slice hu ho
   exact one _ rfl rfl
  | _ => simp [acl, hu] at hk
end
theorem entry {P : Program} {F : Nat -> Option FnIR} (hT : Xo P F) {n : Nat} {rargs : Array Value} {args : List VV} {w : World} (hl : rargs.size = args.length)
  (hr : ∀ (i : Nat) (v : Value) (u : VV), rargs[i]? = some v -> args[i]? = some u -> VR w.cell? noβ v u) {h' : ah} (hc : call F n args [] = some (.ret (.cv (.sc (.bool true))), h')) (hn : n < YB := by decide) :
  Calls P n rargs w fun e w' => e = .returned (.bool true) /\ Below w.heap.size w w' := by
 obtain ⟨m, hm⟩ := pm.mp hc
 refine ((uk hT m).go n args [] _ h' hn hm rargs (· < w.heap.size) w.cell? noβ w hl hr ?_).mono ?_
 ·exact ⟨fun b hb => hb, fun a v h => h, (fun id o ho => by simp at ho), (fun id L hL => by cases hL), (fun id o L ho => by simp at ho), (fun id id' o o' L L' _ ho => by simp at ho)⟩
 ·rintro e w' ⟨σ', β', rv, hF, hW, ⟨v, hv, rfl, hV⟩ | ⟨v, hv, _⟩⟩
  ·cases hv
   obtain ⟨rfl, _⟩ := hV.sc_inv
   exact ⟨rfl, hF.os, hF.tape, hF.output, hF.size, fun k hk => hF.prot k hk hk⟩
  ·cases hv
end Go.Vm
/-
 Vm: what the arguments of a law are (own work).
-/
namespace Go.Vm
open Go Go.RowKit
section
variable {H : Type} {P : Program} {t e : TypeId} {d : DataW H} {u : VV} {cs : List CV} {n : Nat}
theorem Oe {k : IntKind} (hu : P.underlying t = some (.int k)) (h : DR P (n + 1) t d cs) : ∃ x, d = .lit (.int k x) /\ cs = [.sc (.int k x)] /\ (Lit.int k x).wf = true := by
 simpa only [DR, hu] using h
theorem afd (hu : P.underlying t = some .bool) (h : DR P (n + 1) t d cs) : ∃ b, d = .lit (.bool b) /\ cs = [.sc (.bool b)] := by
 simpa only [DR, hu] using h
theorem Ez (hu : P.underlying t = some (.slice e)) (h : DR P (n + 1) t d cs) : (d = .nil /\ cs = [.sc (.slice none 0 0)]) \/ ∃ ds rest els, d = .slice ds rest /\ cs = [.sl (P.cellsOf e) els false] /\ els.length = ds.length /\ els.length <= maxLen /\
  ∀ (i : Nat) (el : List CV) (y : DataW H), els[i]? = some el -> ds[i]? = some y -> el.length = P.cellsOf e /\ DR P n e y el := by
 simpa only [DR, hu] using h
theorem Wx {fs : Array Field} (hu : P.underlying t = some (.struct fs)) (h : DR P (n + 1) t d cs) : ∃ ds, d = .agg ds /\ ds.length = fs.size /\ cs.length = P.cellsOf t /\
  ∀ (i : Nat) (f : Field) (y : DataW H), fs[i]? = some f -> ds[i]? = some y -> DR P n f.type y ((cs.drop f.offset).take (P.cellsOf f.type)) := by
 simpa only [DR, hu] using h
theorem Yy {x : Int} (h : (Lit.int .u8 x).wf = true) : ∃ b : UInt8, x = b.toNat := by
 have := bounds_u8 h
 refine ⟨UInt8.ofNat x.toNat, ?_⟩
 rw [UInt8.toNat_ofNat']
 omega
theorem Yx (hu : P.underlying t = some (.slice e)) (he : P.underlying e = some (.int .u8)) (hc : P.cellsOf e = 1) (h : DR P (n + 2) t d cs) : ∃ (l : List UInt8) (c : CV), cs = [c] ∧ SlV 1 (eB l) (.cv c) ∧ l.length ≤ maxLen ∧
    ((d = .nil ∧ l = []) ∨ ∃ ds rest, d = .slice ds rest ∧ ds.length = l.length) := by
  rcases Ez hu h with ⟨rfl, rfl⟩ | ⟨ds, rest, els, rfl, rfl, h1, h2, h3⟩
  · exact ⟨[], _, rfl, .inl ⟨rfl, rfl⟩, by simp, .inl ⟨rfl, rfl⟩⟩
  · have key : ∀ el ∈ els, ∃ b : UInt8, el = bc b := by
      intro el hel
      obtain ⟨i, hi⟩ := List.getElem?_of_mem hel
      have hlt : i < ds.length := by rw [← h1]; exact (List.getElem?_eq_some_iff.1 hi).1
      obtain ⟨h4, h5⟩ := h3 i el _ hi (List.getElem?_eq_getElem hlt)
      obtain ⟨x, _, rfl, hw⟩ := Oe he h5
      obtain ⟨b, rfl⟩ := Yy hw
      exact ⟨b, rfl⟩
    have all : ∀ els : List (List CV), (∀ el ∈ els, ∃ b : UInt8, el = bc b) → ∃ l : List UInt8, els = eB l := by
      intro els
      induction els with
      | nil => exact fun _ => ⟨[], rfl⟩
      | cons x r ih =>
        intro hk
        obtain ⟨b, rfl⟩ := hk x (by simp)
        obtain ⟨l, rfl⟩ := ih fun el hel => hk el (by simp [hel])
        exact ⟨b :: l, rfl⟩
    obtain ⟨l, rfl⟩ := all els key
    rw [ay] at h1 h2
    rw [hc]
    exact ⟨l, _, rfl, .inr ⟨_, rfl⟩, h2, .inr ⟨ds, rest, rfl, h1.symm⟩⟩
theorem Hf (hs : Rw P t = false) (h : DV P t d u) : ∃ c, DR P 8 t d [c] /\ u = .cv c := by
 obtain ⟨ccs, h1, h2⟩ := h
 rw [hs] at h2
 obtain ⟨c, rfl, rfl⟩ := by simpa using h2
 exact ⟨c, h1, rfl⟩
theorem aio {k : IntKind} (hu : P.underlying t = some (.int k)) (h : DV P t d u) : ∃ x, u = vi k x /\ (Lit.int k x).wf = true := by
 obtain ⟨c, h1, rfl⟩ := Hf (by simp only [Rw, hu]) h
 obtain ⟨x, _, h2, h3⟩ := Oe hu h1
 cases h2
 exact ⟨x, rfl, h3⟩
theorem ais (hu : P.underlying t = some (.int .u8)) (h : DV P t d u) : ∃ b : UInt8, u = vi .u8 b.toNat := by
 obtain ⟨x, rfl, hw⟩ := aio hu h
 obtain ⟨b, rfl⟩ := Yy hw
 exact ⟨b, rfl⟩
end
theorem rel_list {σ : gp} {β : Nat -> Option Loc} {vs : List Value} {us : List VV} (h : ∀ (i : Nat) (v : Value) (u : VV), vs[i]? = some v -> us[i]? = some u -> VR σ β v u) : ∀ (i : Nat) (v : Value) (u : VV), vs.toArray[i]? = some v -> us[i]? = some u -> VR σ β v u :=
 fun i v u hv hu => h i v u (by simpa using hv) hu
theorem rel_cons {σ : gp} {β : Nat -> Option Loc} {v0 : Value} {u0 : VV} {vs : List Value} {us : List VV} (h0 : VR σ β v0 u0) (h : ∀ (i : Nat) (v : Value) (u : VV), vs[i]? = some v -> us[i]? = some u -> VR σ β v u) :
  ∀ (i : Nat) (v : Value) (u : VV), (v0 :: vs)[i]? = some v -> (u0 :: us)[i]? = some u -> VR σ β v u := by
 intro i v u hv hu
 cases i with
 | zero => simp at hv hu; subst hv hu; exact h0
 | succ i => exact h i v u (by simpa using hv) (by simpa using hu)
theorem rel_none {σ : gp} {β : Nat -> Option Loc} : ∀ (i : Nat) (v : Value) (u : VV), ([] : List Value)[i]? = some v -> ([] : List VV)[i]? = some u -> VR σ β v u := fun i v u hv => by simp at hv
end Go.Vm
/-
 Vm: more ways to go on, 3 (own work).
-/
namespace Go.Vm
open Go
def XE (F : Nat → Option FnIR) : List (Op1 × Cl) → St → Pst → Prop
  | [], st, Q => Q .norm st
  | (o, c) :: r, st, Q => match bk st.s o.g with
    | some true => ∃ st1, dv (call F) st o = some (.norm, st1) ∧ (isk c = false → st1.h = st.h) ∧
        (match c with | .r lo hi => lo = hi ∨ ∀ h, dv (call F) ⟨st.s, h⟩ o = some (.norm, ⟨st1.s, h⟩) | _ => True) ∧ XE F r st1 Q
    | some false => XE F r ⟨de st.s o.d skp, st.h⟩ Q
    | none => False
theorem Io {F : Nat -> Option FnIR} : ∀ (ops : List (Op1 × Cl)) (hs : List ah) (ck : Cks) (st : St) (Q : Pst), XE F ops st Q -> (∀ x ∈ ck, ∀ h, x.2.2 h) ->
  ∃ st1 hs1 ck1, ce (call F) ops hs ck st = some (st1, hs1, ck1) /\ (∀ x ∈ ck1, ∀ h, x.2.2 h) /\ Q .norm st1
 | [], hs, ck, st, Q, hx, hc => ⟨st, hs, ck, rfl, hc, hx⟩
 | (o, c) :: r, hs, ck, st, Q, hx, hc => by
  simp only [XE] at hx
  simp only [ce]
  cases hw : bk st.s o.g with
  | none => rw [hw] at hx; exact hx.elim
  | some b =>
   rw [hw] at hx
   cases b with
   | false => exact Io r _ ck _ Q hx hc
   | true =>
    obtain ⟨st1, h1, h2, hb, h3⟩ := hx
    simp only [h1]
    cases c with
    | p =>
     have e : (⟨st1.s, st.h⟩ : St) = st1 := by rw [<- h2 rfl]
     simp only [e]
     exact Io r _ ck _ Q h3 hc
    | k => exact Io r _ ck _ Q h3 hc
    | r lo hi =>
     have e : (⟨st1.s, st.h⟩ : St) = st1 := by rw [<- h2 rfl]
     simp only [e]
     refine Io r _ _ _ Q h3 ?_
     by_cases hlh : lo = hi
     ·rw [if_pos hlh]
      intro x hx
      rcases List.mem_cons.mp hx with rfl | hx
      ·exact fun _ => h2 rfl
      ·exact hc x hx
     ·rw [if_neg hlh]
      intro x hx
      rcases List.mem_cons.mp hx with rfl | hx
      ·exact fun h => (hb.resolve_left hlh) h
      ·exact hc x hx
theorem afn {F : Nat -> Option FnIR} {ops : List (Op1 × Cl)} {st : St} {Q : Pst} (hx : XE F ops st Q) : X F (.draw ops) st Q := by
 obtain ⟨st1, hs1, ck1, h1, h2, h3⟩ := Io ops [st.h] [] st Q hx (fun x hx => by cases hx)
 refine ⟨.norm, st1, ?_, h3⟩
 simp only [dr, je, h1]
 rw [if_pos]
 exact fun x hx b _ _ h _ => h2 x hx h
theorem Gk {F : Nat -> Option FnIR} : ∀ {ops : List (Op1 × Cl)} {st : St} {Q : Pst}, tj ops = true -> XD F ops st Q -> XE F ops st Q
 | [], _, _, _, h => h
 | (o, c) :: r, st, Q, ha, h => by
  simp only [XD, XE] at h |-
  have har : tj r = true := by
   cases c with
   | p => exact ha
   | k => exact ha
   | r lo hi => simp only [tj, Bool.and_eq_true] at ha; exact ha.2
  cases hw : bk st.s o.g with
  | none => rw [hw] at h; exact h
  | some b =>
   rw [hw] at h
   cases b with
   | false => exact Gk har h
   | true =>
    obtain ⟨st1, h1, h2, h3⟩ := h
    refine ⟨st1, h1, h2, ?_, Gk har h3⟩
    cases c with
    | r lo hi => exact .inl (by simp only [tj, Bool.and_eq_true, beq_iff_eq] at ha; exact ha.1)
    | _ => exact trivial
theorem amk {F : Nat -> Option FnIR} {d : Option Nat} {i : Ins} {c : Cl} {q : List (Op1 × Cl)} {s : List VV} {h : ah} {Q : Pst} {v : VV} (hp : jq i = true) (hs : ∀ h, ak h (ae s) i = some (v, h)) (hk : XE F q ⟨de s d v, h⟩ Q) :
  XE F ((⟨none, d, i⟩, c) :: q) ⟨s, h⟩ Q := by
 simp only [XE, bk]
 refine ⟨⟨de s d v, h⟩, ?_, fun _ => rfl, ?_, hk⟩
 ·rw [eu hp]
  simp only [hs]
 ·cases c with
  | r lo hi =>
   refine .inr fun h' => ?_
   rw [eu hp]
   simp only [hs]
  | _ => exact trivial
section
variable {F : Nat -> Option FnIR} {d : Option Nat} {x y : Opd} {c : Cl} {q : List (Op1 × Cl)} {s : List VV} {h : ah} {Q : Pst}
theorem ab4 {n : Nat} (hk : XE F q ⟨s.set n (ae s x), h⟩ Q) : XE F ((⟨none, some n, .mv x⟩, c) :: q) ⟨s, h⟩ Q := amk rfl (fun _ => rfl) hk
theorem acv {z : Nat} {v w r : VV} (hx : ae s x = v) (hy : ae s y = w) (hi : ∀ h, iaO h z v w = some (r, h)) (hk : XE F q ⟨de s d r, h⟩ Q) : XE F ((⟨none, d, .iadL z x y⟩, c) :: q) ⟨s, h⟩ Q :=
 amk rfl (fun h' => by subst hx hy; exact hi h') hk
theorem adm {o : Nat} {v r : VV} (hx : ae s x = v) (hi : fdO o v = some r) (hk : XE F q ⟨de s d r, h⟩ Q) : XE F ((⟨none, d, .fad o x⟩, c) :: q) ⟨s, h⟩ Q :=
 amk rfl (fun h' => by rw [tq, hx, hi]; rfl) hk
theorem ajv {ag : Bool} {n : Nat} {v r : VV} (hx : ae s x = v) (hi : ∀ h, ldO h ag n v = some (r, h)) (hk : XE F q ⟨de s d r, h⟩ Q) : XE F ((⟨none, d, .ld ag n x⟩, c) :: q) ⟨s, h⟩ Q :=
 amk rfl (fun h' => by subst hx; exact hi h') hk
end
theorem Oy {F : Nat -> Option FnIR} {d : Option Nat} {q : List (Op1 × Cl)} {s : List VV} {h : ah} {Q : Pst} {zero : List VV} : XD F ((⟨none, d, .alloc zero⟩, .k) :: q) ⟨s, h⟩ Q ↔ XD F q ⟨de s d (.ptr h.length 0), h ++ [.box zero false]⟩ Q :=
 (mi rfl).trans So
end Go.Vm
/-
 Vm: pointers, arrays in boxes (own work).
-/
namespace Go.Vm
open Go
section
variable {F : Nat -> Option FnIR} {d : Option Nat} {x y z : Opd} {r : List Op1} {c : Cl} {q : List (Op1 × Cl)} {s : List VV} {h : ah} {Q : Pst}
def nkO (v : VV) : Option VV := match qf v with
 | some false => match v with
  | .ptr _ _ | .eptr _ _ _ _ | .rptr _ | .func _ _ | .iface _ _ => some v
  | _ => none
 | _ => none
theorem zk : ak h (ae s) (.nilck x) = (nkO (ae s x)).map (·, h) := by
 simp only [ak, nkO]
 generalize ae s x = v
 cases qf v with
 | none => rfl
 | some b => cases b <;> first | rfl | (cases v <;> rfl)
theorem ab2 : XO F (⟨none, d, .nilck x⟩ :: r) ⟨s, h⟩ Q ↔ XW F (nkO (ae s x)) h d r s Q := qh rfl zk
theorem abk : XD F ((⟨none, d, .nilck x⟩, c) :: q) ⟨s, h⟩ Q ↔ XWD F (nkO (ae s x)) h d q s Q := js rfl zk
theorem aoz {a b : Nat} : nkO (.ptr a b) = some (.ptr a b) := rfl
theorem aoy {a b e f : Nat} : nkO (.eptr a b e f) = some (.eptr a b e f) := rfl
theorem aor {l : List CV} : nkO (.rptr l) = some (.rptr l) := rfl
def enO (k : NK) (neg : Bool) (v : VV) : Option VV := (kx k v).map fun t => vb (if neg then !t else t)
theorem adk {k : NK} {neg : Bool} : ak h (ae s) (.eqn k neg x) = (enO k neg (ae s x)).map (·, h) := by
 simp only [ak, enO]
 cases kx k (ae s x) <;> rfl
theorem akc {k : NK} {neg : Bool} : XO F (⟨none, d, .eqn k neg x⟩ :: r) ⟨s, h⟩ Q ↔ XW F (enO k neg (ae s x)) h d r s Q := qh rfl adk
theorem amf {k : NK} {neg : Bool} : XD F ((⟨none, d, .eqn k neg x⟩, c) :: q) ⟨s, h⟩ Q ↔ XWD F (enO k neg (ae s x)) h d q s Q := js rfl adk
theorem amn {neg : Bool} {a b : Nat} : enO .ptr neg (.ptr a b) = some (vb neg) := by cases neg <;> rfl
theorem am1 {neg : Bool} : enO .ptr neg (.cv (.sc (.pointer none))) = some (vb (!neg)) := by cases neg <;> rfl
theorem an7 {neg : Bool} {id g off len : Nat} {ex : Bool} : enO .slice neg (.own id g off len ex) = some (vb neg) := by cases neg <;> rfl
theorem ani {neg : Bool} {z : Nat} {els : List (List CV)} {ex : Bool} : enO .slice neg (.cv (.sl z els ex)) = some (vb neg) := by cases neg <;> rfl
theorem amu {neg : Bool} : enO .slice neg bq = some (vb (!neg)) := by cases neg <;> rfl
def saO (h : ah) (n z : Nat) (v : VV) (lo hi : Option VV) : Option (VV × ah) := ak h (ml v .undef .undef) (.slA n z (.t 0) (lo.map .c) (hi.map .c))
theorem aja {n z : Nat} {lo hi : Option Opd} : ak h (ae s) (.slA n z x lo hi) = saO h n z (ae s x) (lo.map (ae s)) (hi.map (ae s)) := by
 have hc : ∀ v, ml (ae s x) .undef .undef (.c v) = v := fun _ => rfl
 simp only [saO, ak]
 simp only [Ax hc lo, Ax hc hi]
 rfl
theorem als {n z : Nat} {lo hi : Option Opd} : XO F (⟨none, d, .slA n z x lo hi⟩ :: r) ⟨s, h⟩ Q ↔ XV F (saO h n z (ae s x) (lo.map (ae s)) (hi.map (ae s))) d r s Q := by
 rw [ik rfl, aja]
theorem Iv {n z id off : Nat} {cells : List VV} {fr : Bool} (ho : h[id]? = some (.box cells fr)) (hl : off + n * z <= cells.length) : saO h n z (.ptr id off) none none = some (.ob id off n z true, h) := by
 simp [saO, ak, ml, bnd, ho, hl]
def cpO (h : ah) (z : Nat) (v w : VV) : Option (VV × ah) := ak h (ml v w .undef) (.cpy z (.t 0) (.t 1))
theorem aj4 {z : Nat} : XO F (⟨none, d, .cpy z x y⟩ :: r) ⟨s, h⟩ Q ↔ XV F (cpO h z (ae s x) (ae s y)) d r s Q := ik rfl
theorem al5 {z id off len : Nat} {cells : List VV} {src : List (List CV)} {w : VV} {ex : Bool} (ho : h[id]? = some (.box cells false)) (hl : off + len * z <= cells.length) (hs : ja h z w = some src) :
  cpO h z (.ob id off len z ex) w = some (vi .i64 (min src.length len), h.set id (.box (ap cells off (((src.take (min src.length len)).flatten).map .cv)) false)) := by
 simp [cpO, ak, ml, hs, lj, ho, hl]
 omega
def Kr (n z : Nat) (v w : VV) : Option VV := match pk w with
 | some j => if 0 <= j /\ j < n then (match v with
  | .ptr id o => some (.ptr id (o + j.toNat * z))
  | .eptr id g k o => some (.eptr id g k (o + j.toNat * z))
  | .rptr cells => some (.rptr (cells.drop (j.toNat * z)))
  | _ => none) else none
 | none => none
theorem yb {n z : Nat} : ak h (ae s) (.iadA n z x y) = (Kr n z (ae s x) (ae s y)).map (·, h) := by
 simp only [ak, Kr]
 cases pk (ae s y) with
 | none => rfl
 | some j =>
  simp only
  split
  ·cases ae s x <;> rfl
  ·rfl
theorem aed {n z : Nat} : XO F (⟨none, d, .iadA n z x y⟩ :: r) ⟨s, h⟩ Q ↔ XW F (Kr n z (ae s x) (ae s y)) h d r s Q := qh rfl yb
theorem ahq {n z : Nat} : XD F ((⟨none, d, .iadA n z x y⟩, c) :: q) ⟨s, h⟩ Q ↔ XWD F (Kr n z (ae s x) (ae s y)) h d q s Q := js rfl yb
theorem Tj {n z id o : Nat} {k : IntKind} {j : Nat} (hj : j < n) : Kr n z (.ptr id o) (vi k (j : Int)) = some (.ptr id (o + j * z)) := by
 have : (j : Int) < n := by omega
 simp [Kr, pk, this]
theorem Um {f : Nat} {caps : List Opd} : XO F (⟨none, d, .mkfn f caps⟩ :: r) ⟨s, h⟩ Q ↔ XO F r ⟨de s d (.func f (caps.map (ae s))), h⟩ Q := ut rfl rfl
theorem zx {x : Opd} {f : Nat} {caps : List VV} {args : List Opd} {v : VV} {h' : ah} (hx : ae s x = .func f caps) (hcall : call F f (args.map (ae s) ++ caps) h = some (.ret v, h')) (hk : XO F r ⟨de s d v, h'⟩ Q) (hf : f < YB := by decide) :
  XO F (⟨none, d, .callv false x args⟩ :: r) ⟨s, h⟩ Q := by
 refine (Nu (v := v) (h' := h') hx ?_ hf).mpr hk
 unfold dy
 simpa using hcall
theorem wq {f : Nat} {args : List Opd} {v : VV} {h' : ah} (hcall : call F f (args.map (ae s)) h = some (.ret v, h')) (hk : XD F q ⟨de s d v, h'⟩ Q) (hf : f < Cm := by decide) :
  XD F ((⟨none, d, .call f false args⟩, .k) :: q) ⟨s, h⟩ Q := by
 refine Qd (v := v) (sb hf ?_) hk
 unfold dy
 simpa using hcall
end
section
variable {h : ah}
theorem Nr {n id off : Nat} {cs cells : List VV} (hn : cs.length = n) (ho : h[id]? = some (.box cells false)) (hc : off + n <= cells.length) : stO h n (.ptr id off) (.agg cs) = some (.undef, h.set id (.box (ap cells off cs) false)) := by
 simp [stO, ak, ml, cellsOf, hn, ho, hc]
theorem Ox {n id off : Nat} {cells : List VV} {fr : Bool} (ho : h[id]? = some (.box cells fr)) (hc : off + n <= cells.length) : ldO h true n (.ptr id off) = some (.agg ((cells.drop off).take n), h) := by
 have : n <= cells.length - off := by omega
 simp [ldO, ak, ml, ho, dp, Nat.min_eq_left this]
theorem pa {n id g i z : Nat} {els : List (List CV)} {fr : Bool} {e : List CV} (ho : h[id]? = some (.arr z els g fr)) (he : els[i]? = some e) (hn : e.length = n) : ldO h true n (.eptr id g i 0) = some (.agg (e.map .cv), h) := by
 subst hn
 simp [ldO, ak, ml, ho, he, dp]
theorem zf : ∀ (l : List CV) (h : ah), oi h (l.map .cv) = some (l, h)
 | [], _ => rfl
 | c :: l, h => by
  simp only [List.map_cons, oi]
  rw [show clos h (.cv c) = some (c, h) from rfl]
  simp only [zf l h]
theorem xc {α : Type} {l m : List α} (h : l.length = m.length) : ap l 0 m = m := by
 unfold ap
 rw [List.take_zero, List.nil_append, Nat.zero_add, List.drop_eq_nil_of_le (by omega), List.append_nil]
theorem Ji {n id g i z : Nat} {els : List (List CV)} {e cs : List CV} (hn : cs.length = n) (ho : h[id]? = some (.arr z els g false)) (he : els[i]? = some e) (hl : e.length = n) :
  stO h n (.eptr id g i 0) (.agg (cs.map .cv)) = some (.undef, h.set id (.arr z (els.set i cs) g false)) := by
 have hs : ap e 0 cs = cs := xc (by omega)
 have h1 : n <= e.length := by omega
 simp [stO, ak, ml, cellsOf, hn, zf, ho, he, h1, hs]
theorem anw {id g i off z : Nat} {els : List (List CV)} {e : List CV} {c : CV} (ho : h[id]? = some (.arr z els g false)) (he : els[i]? = some e) (hl : off < e.length) :
  stO h 1 (.eptr id g i off) (.cv c) = some (.undef, h.set id (.arr z (els.set i (e.set off c)) g false)) := by
 have hsp : ap e off [c] = e.set off c := by
  unfold ap
  simp only [List.length_singleton]
  rw [List.set_eq_take_append_cons_drop, if_pos hl, List.append_assoc, List.singleton_append]
 have h1 : off + 1 <= e.length := hl
 simp [stO, ak, ml, cellsOf, oi, clos, ho, he, h1, hsp]
end
attribute [go_sem] ab2 abk aoz aoy aor akc amf amn am1 an7 ani amu als aj4 aed ahq Um Oy
end Go.Vm
/-
 Vm: a region that draws its order, of which some operations look at one of several heaps: what must hold ahead of it (own work).
-/
namespace Go.Vm
open Go
theorem qt {call : bp} : ∀ (a b : List (Op1 × Cl)) (hs : List ah) (ck : Cks) (st : St), ce call (a ++ b) hs ck st = (ce call a hs ck st).bind fun x => ce call b x.2.1 x.2.2 x.1
 | [], b, hs, ck, st => rfl
 | (o, c) :: a, b, hs, ck, st => by
  simp only [List.cons_append, ce]
  split
  ·split
   ·split <;> exact qt a b _ _ _
   ·rfl
  ·split <;> exact qt a b _ _ _
  ·rfl
def XDA (F : Nat → Option FnIR) (P : ah → Prop) : List (Op1 × Cl) → St → (St → Prop) → Prop
  | [], st, Q => Q st
  | (o, c) :: r, st, Q => bk st.s o.g = some true ∧ ∃ st1, dv (call F) st o = some (.norm, st1) ∧
      (match c with
        | .p => st1.h = st.h
        | .k => P st1.h
        | .r lo hi => st1.h = st.h ∧ (lo = hi ∨ ∀ g, P g → dv (call F) ⟨st.s, g⟩ o = some (.norm, ⟨st1.s, g⟩))) ∧ XDA F P r st1 Q
def amm (a : List (Op1 × Cl)) : Nat := (a.filter fun x => isk x.2).length
theorem Hb {F : Nat → Option FnIR} {P : ah → Prop} (m : Nat) : ∀ (a : List (Op1 × Cl)) (hs : List ah) (ck : Cks) (st : St) (Q : St → Prop), (a.all fun x => match x.2 with | .p => true | .r lo hi => decide (lo = hi) || decide (hi ≤ m) | .k => true) = true → XDA F P a st Q →
    ∃ st1 L ck1, ce (call F) a hs ck st = some (st1, hs ++ L, ck1) ∧ (∀ g ∈ L, P g) ∧ L.length = amm a ∧ (∀ x ∈ ck1, x ∈ ck ∨ (x.2.1 ≤ m + 1 ∧ ∀ g, P g → x.2.2 g) ∨ ∀ g, x.2.2 g) ∧ Q st1
  | [], hs, ck, st, Q, _, hx => ⟨st, [], ck, by simp [ce], (by simp), rfl, fun _ h => .inl h, hx⟩
  | (o, c) :: r, hs, ck, st, Q, ha, hx => by
    obtain ⟨hw, st1, h1, h2, h3⟩ := hx
    simp only [List.all_cons, Bool.and_eq_true] at ha
    simp only [ce, hw, h1]
    cases c with
    | p =>
      have e : (⟨st1.s, st.h⟩ : St) = st1 := by rw [← h2]
      obtain ⟨s2, L, ck2, q1, q2, q3, q4⟩ := Hb m r hs ck st1 Q ha.2 h3
      exact ⟨s2, L, ck2, by simp only [e]; exact q1, q2, by rw [q3]; rfl, q4⟩
    | k =>
      obtain ⟨s2, L, ck2, q1, q2, q3, q4⟩ := Hb m r (hs ++ [st1.h]) ck st1 Q ha.2 h3
      refine ⟨s2, st1.h :: L, ck2, by rw [q1]; simp, fun g hg => ?_, by simp [amm, isk] at q3 ⊢; omega, q4⟩
      rcases List.mem_cons.1 hg with rfl | hg
      · exact h2
      · exact q2 g hg
    | r lo hi =>
      have e : (⟨st1.s, st.h⟩ : St) = st1 := by rw [← h2.1]
      obtain ⟨s2, L, ck2, q1, q2, q3, q4, q5⟩ := Hb m r hs (if lo = hi then (lo, hi + 1, fun _ => st1.h = st.h) :: ck else (lo, hi + 1, fun g => agf (call F) st o g st1.s) :: ck) st1 Q ha.2 h3
      refine ⟨s2, L, ck2, by simp only [e]; exact q1, q2, by rw [q3]; rfl, fun x hx => ?_, q5⟩
      rcases q4 x hx with h | h
      · split at h
        · rcases List.mem_cons.mp h with rfl | h
          · exact .inr (.inr fun _ => h2.1)
          · exact .inl h
        · rename_i hne
          rcases List.mem_cons.mp h with rfl | h
          · have : hi ≤ m := by
              have := ha.1
              simp [hne] at this
              exact this
            refine .inr (.inl ⟨by simp; omega, fun g hg => ?_⟩)
            rcases h2.2 with e | e
            · exact absurd e hne
            · exact e g hg
          · exact .inl h
      · exact .inr h
theorem uh {F : Nat -> Option FnIR} : ∀ (ops : List (Op1 × Cl)) (hs : List ah) (ck : Cks) (st : St) (Q : Pst), tj ops = true -> XD F ops st Q ->
  ∃ st1 L ck1, ce (call F) ops hs ck st = some (st1, hs ++ L, ck1) /\ (∀ x ∈ ck1, x ∈ ck \/ ∀ h, x.2.2 h) /\ Q .norm st1
 | [], hs, ck, st, Q, _, hx => ⟨st, [], ck, by simp [ce], fun _ h => .inl h, hx⟩
 | (o, c) :: r, hs, ck, st, Q, ha, hx => by
  have har : tj r = true := by
   cases c with
   | p => exact ha
   | k => exact ha
   | r lo hi => simp only [tj, Bool.and_eq_true] at ha; exact ha.2
  simp only [XD] at hx
  simp only [ce]
  cases hw : bk st.s o.g with
  | none => rw [hw] at hx; exact hx.elim
  | some b =>
   rw [hw] at hx
   cases b with
   | false =>
    cases c with
    | p => exact uh r hs ck ⟨de st.s o.d skp, st.h⟩ Q har hx
    | r lo hi => exact uh r hs ck ⟨de st.s o.d skp, st.h⟩ Q har hx
    | k =>
     obtain ⟨st1, L, ck1, q1, q2⟩ := uh r (hs ++ [st.h]) ck ⟨de st.s o.d skp, st.h⟩ Q har hx
     exact ⟨st1, st.h :: L, ck1, by rw [q1]; simp, q2⟩
   | true =>
    obtain ⟨⟨s1, h1⟩, hst, h2, h3⟩ := hx
    simp only [hst]
    cases c with
    | p =>
     have e1 : h1 = st.h := h2 rfl
     subst e1
     exact uh r hs ck ⟨s1, st.h⟩ Q har h3
    | k =>
     obtain ⟨st1, L, ck1, q1, q2⟩ := uh r (hs ++ [h1]) ck ⟨s1, h1⟩ Q har h3
     exact ⟨st1, h1 :: L, ck1, by rw [q1]; simp, q2⟩
    | r lo hi =>
     have e1 : h1 = st.h := h2 rfl
     subst e1
     have hlh : lo = hi := by
      simp only [tj, Bool.and_eq_true, beq_iff_eq] at ha
      exact ha.1
     obtain ⟨st1, L, ck1, q1, q2, q3⟩ := uh r hs (if lo = hi then (lo, hi + 1, fun _ => st.h = st.h) :: ck else (lo, hi + 1, fun h => agf (call F) st o h s1) :: ck) ⟨s1, st.h⟩ Q har h3
     refine ⟨st1, L, ck1, q1, fun x hx => ?_, q3⟩
     rcases q2 x hx with h | h
     ·rw [if_pos hlh] at h
      rcases List.mem_cons.mp h with rfl | h
      ·exact .inr fun _ => rfl
      ·exact .inl h
     ·exact .inr h
theorem ux {F : Nat -> Option FnIR} {ops : List (Op1 × Cl)} (n : Nat) {st : St} {Q : Pst} (P : ah -> Prop) (hP : P st.h)
  (ha : ((ops.take n).all fun x => match x.2 with | .p => true | .r lo hi => decide (lo = hi) || decide (hi <= amm (ops.take n)) | .k => true) = true) (hb : tj (ops.drop n) = true)
  (hx : XDA F P (ops.take n) st (fun st1 => XD F (ops.drop n) st1 Q)) : X F (.draw ops) st Q := by
 obtain ⟨st2, L, ck2, q1, q2, q3, q4, q5⟩ := Hb (amm (ops.take n)) (ops.take n) [st.h] [] st _ ha hx
 obtain ⟨st4, L2, ck4, r1, r2, r3⟩ := uh (ops.drop n) ([st.h] ++ L) ck2 st2 Q hb q5
 have hd : ce (call F) ops [st.h] [] st = some (st4, [st.h] ++ L ++ L2, ck4) := by
  have : ce (call F) (ops.take n ++ ops.drop n) [st.h] [] st = some (st4, [st.h] ++ L ++ L2, ck4) := by
   rw [qt, q1]
   exact r1
  rwa [List.take_append_drop] at this
 refine ⟨.norm, st4, ?_, r3⟩
 simp only [dr, je, hd]
 rw [if_pos]
 intro x hx i hi1 hi2 g hg
 rcases r2 x hx with h4 | h4
 ·rcases q4 x h4 with h5 | ⟨h5, h6⟩ | h5
  ·cases h5
  ·refine h6 g ?_
   have hl : i < ([st.h] ++ L).length := by simp; omega
   rw [List.getElem?_append_left hl] at hg
   have := List.mem_of_getElem? hg
   rcases List.mem_append.1 this with h7 | h7
   ·rw [List.mem_singleton.1 h7]; exact hP
   ·exact q2 g h7
  ·exact h5 g
 ·exact h4 g
section
variable {F : Nat -> Option FnIR} {P : ah -> Prop} {d : Option Nat} {r : List (Op1 × Cl)} {s : List VV} {h : ah} {Q : St -> Prop}
theorem pt {i : Ins} {v : VV} (hp : jq i = true) (hv : ak h (ae s) i = some (v, h)) (hk : XDA F P r ⟨de s d v, h⟩ Q) : XDA F P ((⟨none, d, i⟩, .p) :: r) ⟨s, h⟩ Q :=
 ⟨rfl, ⟨de s d v, h⟩, by rw [eu hp, hv], rfl, hk⟩
theorem xy {i : Ins} {v : VV} {lo hi : Nat} (hp : jq i = true) (hP : P h) (hv : ∀ g, P g -> ak g (ae s) i = some (v, g)) (hk : XDA F P r ⟨de s d v, h⟩ Q) : XDA F P ((⟨none, d, i⟩, .r lo hi) :: r) ⟨s, h⟩ Q :=
 ⟨rfl, ⟨de s d v, h⟩, by rw [eu hp, hv h hP], ⟨rfl, .inr fun g hg => by rw [eu hp, hv g hg]⟩, hk⟩
theorem vh {i : Ins} {v : VV} {lo : Nat} (hp : jq i = true) (hv : ak h (ae s) i = some (v, h)) (hk : XDA F P r ⟨de s d v, h⟩ Q) : XDA F P ((⟨none, d, i⟩, .r lo lo) :: r) ⟨s, h⟩ Q :=
 ⟨rfl, ⟨de s d v, h⟩, by rw [eu hp, hv], ⟨rfl, .inl rfl⟩, hk⟩
theorem Hu {i : Ins} {v : VV} {h' : ah} (hp : jq i = true) (hv : ak h (ae s) i = some (v, h')) (hP : P h') (hk : XDA F P r ⟨de s d v, h'⟩ Q) : XDA F P ((⟨none, d, i⟩, .k) :: r) ⟨s, h⟩ Q :=
 ⟨rfl, ⟨de s d v, h'⟩, by rw [eu hp, hv], hP, hk⟩
theorem vq {f : Nat} {args : List Opd} {v : VV} {h' : ah} (hc : call F f (args.map (ae s)) h = some (.ret v, h')) (hP : P h') (hk : XDA F P r ⟨de s d v, h'⟩ Q) (hf : f < Cm := by decide) : XDA F P ((⟨none, d, .call f false args⟩, .k) :: r) ⟨s, h⟩ Q :=
 ⟨rfl, ⟨de s d v, h'⟩, by simp [dv, ka, hf, dy, hc], hP, hk⟩
end
theorem mj {h : ah} {s : List VV} {ag : Bool} {n : Nat} {x : Opd} : ak h (ae s) (.ld ag n x) = ldO h ag n (ae s x) := rfl
theorem aki {h : ah} {s : List VV} {z : Nat} {x y : Opd} : ak h (ae s) (.iadL z x y) = iaO h z (ae s x) (ae s y) := rfl
end Go.Vm
/-
 Vm: heaps that grow; slices that grow in them; bytes in a box (own work).
-/
namespace Go.Vm
open Go
theorem df {h : ah} {i : Nat} {o : VO} (e : h[i]? = some o) : i < h.length := (List.getElem?_eq_some_iff.1 e).1
structure HExt (h h' : ah) : Prop where
 len : h.length <= h'.length
 same : ∀ j, j < h.length -> h'[j]? = h[j]?
theorem HExt.refl (h : ah) : HExt h h := ⟨Nat.le_refl _, fun _ _ => rfl⟩
theorem HExt.trans {h h1 h2 : ah} (a : HExt h h1) (b : HExt h1 h2) : HExt h h2 := ⟨Nat.le_trans a.len b.len, fun j hj => by rw [b.same j (Nat.lt_of_lt_of_le hj a.len), a.same j hj]⟩
theorem HExt.push (h : ah) (o : VO) : HExt h (h ++ [o]) := ⟨by simp, fun j hj => by rw [List.getElem?_append_left hj]⟩
theorem HExt.then {h h1 : ah} (a : HExt h h1) (o : VO) : HExt h (h1 ++ [o]) := a.trans (HExt.push _ _)
theorem HExt.get {h h' : ah} (e : HExt h h') {j : Nat} {o : VO} (hj : h[j]? = some o) : h'[j]? = some o := by rw [e.same j (df hj), hj]
theorem HExt.set {h h' : ah} (e : HExt h h') {i : Nat} (hi : h.length <= i) (o : VO) : HExt h (h'.set i o) := ⟨by rw [List.length_set]; exact e.len, fun j hj => by rw [List.getElem?_set_ne (by omega)]; exact e.same j hj⟩
def Ret (F : Nat -> Option FnIR) (n : Nat) (args : List VV) (h : ah) (P : VV -> ah -> Prop) : Prop := ∃ v h', call F n args h = some (.ret v, h') /\ P v h'
def Aq (F : Nat -> Option FnIR) (n : Nat) (args : List VV) (P : VV -> Prop) : Prop := Ret F n args [] fun v h' => ∃ w, au h' v = some w /\ P w
structure NB (h0 h : ah) (z : Nat) (els : List (List CV)) (v : VV) : Prop where
 ext : HExt h0 h
 v : (els = [] /\ v = bq) \/ ∃ id g, h0.length <= id /\ v = .own id g 0 els.length false /\ h[id]? = some (.arr z els g false)
section
variable {h0 h h' : ah} {z : Nat} {els new : List (List CV)} {v : VV}
theorem NB.nil (h : ah) (z : Nat) : NB h h z [] bq := ⟨HExt.refl h, .inl ⟨rfl, rfl⟩⟩
theorem NB.then (b : NB h0 h z els v) (e : HExt h h') : NB h0 h' z els v := by
 refine ⟨b.ext.trans e, ?_⟩
 rcases b.v with x | ⟨id, g, a1, a3, a4⟩
 ·exact .inl x
 ·exact .inr ⟨id, g, a1, a3, e.get a4⟩
theorem NB.setBox (b : NB h0 h z els v) {i : Nat} {cells : List VV} {fr : Bool} (hi : h0.length <= i) (hb : h[i]? = some (.box cells fr)) (o : VO) : NB h0 (h.set i o) z els v := by
 refine ⟨b.ext.set hi o, ?_⟩
 rcases b.v with x | ⟨id, g, a1, a3, a4⟩
 ·exact .inl x
 ·refine .inr ⟨id, g, a1, a3, ?_⟩
  rw [List.getElem?_set_ne (by rintro rfl; rw [hb] at a4; cases a4)]; exact a4
theorem NB.ln (b : NB h0 h z els v) : lnO false v = some (vi .i64 els.length) := by
 rcases b.v with ⟨rfl, rfl⟩ | ⟨id, g, _, rfl, _⟩ <;> rfl
theorem NB.src (b : NB h0 h z els v) : ja h z v = some els := by
 rcases b.v with ⟨rfl, rfl⟩ | ⟨id, g, _, rfl, a4⟩
 ·rfl
 ·simp [ja, gh, a4]
theorem NB.elsO (b : NB h0 h z els v) : gh h z v = some els := by
 rcases b.v with ⟨rfl, rfl⟩ | ⟨id, g, _, rfl, a4⟩
 ·rfl
 ·simp [gh, a4]
theorem NB.cell (b : NB h0 h z els v) : en v = true := by
 rcases b.v with ⟨_, rfl⟩ | ⟨_, _, _, rfl, _⟩ <;> rfl
theorem NB.clos (b : NB h0 h z els v) : ∃ w h1, ij h v = some (w, h1) /\ SlV z els w := by
 rcases b.v with ⟨rfl, rfl⟩ | ⟨id, g, _, rfl, a4⟩
 ·exact ⟨bq, h, rfl, .inl ⟨rfl, rfl⟩⟩
 ·exact ⟨.cv (.sl z els false), _, by simp [ij, Go.Vm.clos, a4]; rfl, .inr ⟨false, rfl⟩⟩
theorem NB.res (b : NB h0 h z els v) : ∃ w, au h v = some w /\ SlV z els w := by
 rcases b.v with ⟨rfl, rfl⟩ | ⟨id, g, _, rfl, a4⟩
 ·exact ⟨bq, rfl, .inl ⟨rfl, rfl⟩⟩
 ·exact ⟨.cv (.sl z els false), by simp [au, ij, Go.Vm.clos, a4], .inr ⟨false, rfl⟩⟩
theorem ads {by_ : Nat} {zero : List CV} {x y : Opd} {s : List VV} (b : NB h0 h z els v) (hx : ae s x = v) (hy : ja h z (ae s y) = some new) (h1 : (els.length + new.length) * by_ <= 35184372088832) (h2 : els.length + new.length <= 35184372088832) :
  ∃ v' h', ak h (ae s) (.app z by_ zero x y) = some (v', h') /\ NB h0 h' z (els ++ new) v' /\ HExt h0 h' /\ h.length <= h'.length /\ (∀ j, j < h.length -> (∀ g l e, v ≠ .own j g 0 l e) -> h'[j]? = h[j]?) /\ (∀ (j : Nat) (cells : List VV) fr, h[j]? = some (.box cells fr) -> h'[j]? = some (.box cells fr)) := by
 have hm : cj = 35184372088832 := rfl
 by_cases hne : new = []
 ·subst hne
  refine ⟨v, h, ?_, by rw [List.append_nil]; exact b, b.ext, Nat.le_refl _, fun _ _ _ => rfl, fun _ _ _ e => e⟩
  have e1 := b.elsO
  simp only [List.length_nil, Nat.add_zero] at h1 h2
  rcases b.v with ⟨rfl, rfl⟩ | ⟨id, g, a1, rfl, h3⟩
  ·simp [ak, hy, hx, lj, hm, gh]
  ·simp [ak, hy, hx, lj, hm, h1, h2, e1]
 ·rcases b.v with ⟨rfl, rfl⟩ | ⟨id, g, a1, rfl, h3⟩
  ·refine ⟨.own h.length 0 0 new.length false, h ++ [.arr z new 0 false], ?_, ⟨b.ext.then _, .inr ⟨h.length, 0, b.ext.len, by simp, by simp⟩⟩, b.ext.then _, by simp, fun j hj _ => by rw [List.getElem?_append_left hj], fun j c fr hj => (HExt.push h _).get hj⟩
   simp only [List.length_nil, Nat.zero_add] at h1 h2
   simp only [ak, hy, hx, lj, hm, Nat.zero_add, h1, h2, and_self, if_true, hne, if_false]
  ·have hid := df h3
   refine ⟨.own id (g + 1) 0 (els.length + new.length) false, h.set id (.arr z (els ++ new) (g + 1) false), ?_, ⟨b.ext.set a1 _, .inr ⟨id, g + 1, a1, by simp, by rw [List.getElem?_set_self hid]⟩⟩, b.ext.set a1 _, by simp, fun j hj hn => by rw [List.getElem?_set_ne (by rintro rfl; exact hn _ _ _ rfl)], fun j c fr hj => by rw [List.getElem?_set_ne (by rintro rfl; rw [h3] at hj; cases hj)]; exact hj⟩
   simp only [ak, hy, hx, lj, hm, h1, h2, and_self, if_true, h3, Nat.zero_add, Nat.le_refl, Bool.false_eq_true, if_false, List.drop_zero, List.take_length, hne]
theorem nv {F : Nat -> Option FnIR} {by_ : Nat} {zero : List CV} {x y : Opd} {s : List VV} {d : Option Nat} {r : List Op1} {Q : Pst} (b : NB h0 h z els v) (hx : ae s x = v) (hy : ja h z (ae s y) = some new) (h1 : (els.length + new.length) * by_ <= 35184372088832) (h2 : els.length + new.length <= 35184372088832)
  (hk : ∀ v' h', NB h0 h' z (els ++ new) v' -> h.length <= h'.length -> (∀ j, j < h.length -> (∀ g l e, v ≠ .own j g 0 l e) -> h'[j]? = h[j]?) -> (∀ (j : Nat) (cells : List VV) fr, h[j]? = some (.box cells fr) -> h'[j]? = some (.box cells fr)) -> XO F r ⟨de s d v', h'⟩ Q) : XO F (⟨none, d, .app z by_ zero x y⟩ :: r) ⟨s, h⟩ Q := by
 obtain ⟨v', h', e1, e2, e3, e4, e5, e6⟩ := ads (zero := zero) b hx hy h1 h2
 rw [ik rfl, e1, lf]
 exact hk v' h' e2 e4 e5 e6
theorem ab9 {F : Nat -> Option FnIR} {by_ : Nat} {zero : List CV} {x y : Opd} {s : List VV} {d : Option Nat} {q : List (Op1 × Cl)} {Q : Pst} (b : NB h0 h z els v) (hx : ae s x = v) (hy : ja h z (ae s y) = some new) (h1 : (els.length + new.length) * by_ <= 35184372088832) (h2 : els.length + new.length <= 35184372088832)
  (hk : ∀ v' h', NB h0 h' z (els ++ new) v' -> h.length <= h'.length -> (∀ j, j < h.length -> (∀ g l e, v ≠ .own j g 0 l e) -> h'[j]? = h[j]?) -> (∀ (j : Nat) (cells : List VV) fr, h[j]? = some (.box cells fr) -> h'[j]? = some (.box cells fr)) -> XD F q ⟨de s d v', h'⟩ Q) : XD F ((⟨none, d, .app z by_ zero x y⟩, .k) :: q) ⟨s, h⟩ Q := by
 obtain ⟨v', h', e1, e2, e3, e4, e5, e6⟩ := ads (zero := zero) b hx hy h1 h2
 rw [mi rfl, e1, So]
 exact hk v' h' e2 e4 e5 e6
end
def bC (b : List UInt8) : List CV := b.map fun x => .sc (.int .u8 x.toNat)
theorem qq {b : List UInt8} : (bC b).length = b.length := by simp [bC]
abbrev kr (b : List UInt8) : VO := .box ((bC b).map .cv) false
theorem qy (n : Nat) : List.replicate n (VV.cv (.sc (.int .u8 0))) = (bC (List.replicate n 0)).map .cv := by simp [bC]
theorem aha (b : List UInt8) : (eB b).flatten = bC b := by
 induction b with
 | nil => rfl
 | cons x b ih =>
  simp only [eB, bC, List.map_cons, List.flatten_cons, bc] at ih |-
  rw [ih]; rfl
theorem Ag {h : ah} {p j : Nat} {b : List UInt8} {x : UInt8} (hb : h[p]? = some (kr b)) (hj : j < b.length) :
  stO h 1 (.ptr p j) (vi .u8 x.toNat) = some (.undef, h.set p (kr (b.set j x))) := by
 rw [zi rfl hb (by simp [qq]; exact hj)]
 unfold kr bC
 rw [List.map_set, List.map_set]
theorem Ps (l : List CV) (f : VV -> Option CV) (hf : ∀ c, f (.cv c) = some c) : (l.map VV.cv).mapM f = some l := by
 induction l with
 | nil => rfl
 | cons c r ih => simp [List.mapM_cons, hf, ih]
theorem Dw : ∀ (n : Nat) (l : List CV), l.length = n -> ni 1 n l = l.map fun c => [c] := by
 intro n l hl
 subst hl
 unfold ni
 apply List.ext_getElem
 ·simp
 ·intro i h1 h2
  have hi : i < l.length := by simpa using h2
  simp only [List.getElem_map, List.getElem_range, Nat.mul_one]
  rw [List.drop_eq_getElem_cons hi]; rfl
theorem Mu {h : ah} {p off len : Nat} {b : List UInt8} {ex : Bool} (hb : h[p]? = some (kr b)) (hl : off + len <= b.length) : ij h (.ob p off len 1 ex) = some (.cv (.sl 1 (eB ((b.drop off).take len)) ex), h.set p (.box ((bC b).map .cv) true)) := by
 have e1 : (((bC b).map VV.cv).drop off).take (len * 1) = (bC ((b.drop off).take len)).map .cv := by
  simp [bC, List.map_take, List.map_drop]
 have hlen : (bC ((b.drop off).take len)).length = len := by rw [qq, List.length_take, List.length_drop]; omega
 have hE : ni 1 len (bC ((b.drop off).take len)) = eB ((b.drop off).take len) := by
  rw [Dw _ _ hlen]; unfold bC eB; rw [List.map_map]; rfl
 unfold ij clos
 simp only [hb]
 rw [e1, Ps _ _ (fun _ => rfl)]
 simp only [hlen, Nat.mul_one, if_true, hE]
theorem ga {α : Type} {l c : List α} {off : Nat} (h : off + c.length <= l.length) : (ap l off c).length = l.length := by
 unfold ap; simp; omega
theorem Ek {α β : Type} (f : α -> β) (l c : List α) (off : Nat) : ap (l.map f) off (c.map f) = (ap l off c).map f := by
 unfold ap; simp [List.map_take, List.map_drop]
theorem ad2 {h : ah} {p off len : Nat} {b c : List UInt8} {ex : Bool} {w : VV} (hb : h[p]? = some (kr b)) (hl : off + len <= b.length) (hw : ja h 1 w = some (eB c)) (hc : c.length <= len) :
  cpO h 1 (.ob p off len 1 ex) w = some (.cv (.sc (.int .i64 c.length)), h.set p (kr (ap b off c))) := by
 have hl' : off + len * 1 <= ((bC b).map VV.cv).length := by simp [qq]; omega
 rw [al5 hb hl' hw]
 have e0 : (eB c).length = c.length := by simp [eB]
 have e1 : min (eB c).length len = c.length := by rw [e0]; omega
 have e2 : (eB c).take c.length = eB c := List.take_of_length_le (by rw [e0]; exact Nat.le_refl _)
 rw [e1, e2, aha, Ek]
 have : ap (bC b) off (bC c) = bC (ap b off c) := by unfold bC; rw [Ek]
 have e3 : min ((eB c).length : Int) (len : Int) = (c.length : Int) := by rw [e0]; omega
 rw [this]
 simp only [e3]
theorem Yf {h : ah} {n id a : Nat} {cells : List VV} {fr : Bool} {k : IntKind} (ho : h[id]? = some (.box cells fr)) (hl : n <= cells.length) (ha : a <= n) : saO h n 1 (.ptr id 0) (some (vi k a)) none = some (.ob id a (n - a) 1 true, h) := by
 have h1 : (a : Int) <= (n : Int) := by omega
 simp [saO, ak, ml, bnd, pk, ho, hl, h1]
theorem ao6 {h : ah} {z0 z1 z2 z3 a b c d : CV} : mkO h 1 4 [.cv z0, .cv z1, .cv z2, .cv z3] [(0, 1, .cv a), (1, 1, .cv b), (2, 1, .cv c), (3, 1, .cv d)] = some (.cv (.sl 1 [[a], [b], [c], [d]] true), h) := rfl
theorem aa5 {F : Nat -> Option FnIR} {h h0 : ah} {s : List VV} {z by_ : Nat} {zero : List CV} {k k' : IntKind} {b : Nat} {x y : Opd} {d : Option Nat} {r : List Op1} {Q : Pst} (e : HExt h0 h) (hx : ae s x = vi k 0) (hy : ae s y = vi k' b) (hb : 0 < b) (h1 : b * by_ <= 35184372088832) (h2 : b <= 35184372088832)
  (hk : ∀ v h', NB h0 h' z [] v -> HExt h h' -> XO F r ⟨de s d v, h'⟩ Q) : XO F (⟨none, d, .mks z by_ zero x y true⟩ :: r) ⟨s, h⟩ Q := by
 have hm : cj = 35184372088832 := rfl
 have c1 : (b : Int) * by_ <= 35184372088832 := by rw [<- Int.natCast_mul]; omega
 have c2 : (b : Int) <= 35184372088832 := by omega
 have c3 : ¬ (0 : Int) = (b : Int) := by omega
 have hst : ak h (ae s) (.mks z by_ zero x y true) = some (.own h.length 0 0 0 false, h ++ [.arr z [] 0 false]) := by
  simp only [ak, hx, hy, pk]
  rw [if_pos ⟨Int.le_refl _, by omega, by rw [hm]; exact c1, by rw [hm]; exact c2⟩]
  simp only [if_true, decide_eq_false c3]
  rfl
 rw [ik rfl, hst, lf]
 exact hk _ _ ⟨e.then _, .inr ⟨h.length, 0, e.len, rfl, by simp⟩⟩ (HExt.push _ _)
structure BSrc (h0 h : ah) (b : List UInt8) (u : VV) : Prop where
 ln : lnO false u = some (vi .i64 b.length)
 cl : ∃ w h1, cf h [u] = some ([w], h1) /\ SlV 1 (eB b) w /\ HExt h0 h1 /\ ∀ h2, HExt h1 h2 -> ja h2 1 u = some (eB b)
theorem SlV.bsrc {h0 h : ah} {b : List UInt8} {u : VV} (hu : SlV 1 (eB b) u) (e : HExt h0 h) : BSrc h0 h b u :=
 ⟨by rw [hu.ln, ay], u, h, hu.clos rfl, hu, e, fun h2 _ => hu.src⟩
theorem ahh {h0 h : ah} {b : List UInt8} {p : Nat} {ex : Bool} (e : HExt h0 h) (hp : h[p]? = some (kr b)) (h0p : h0.length <= p) : BSrc h0 h b (.ob p 0 b.length 1 ex) := by
 have hc := Mu (ex := ex) (off := 0) (len := b.length) hp (by omega)
 rw [List.drop_zero, List.take_length] at hc
 refine ⟨rfl, .cv (.sl 1 (eB b) ex), h.set p (.box ((bC b).map .cv) true), by simp only [cf, hc], .inr ⟨ex, rfl⟩, e.set h0p _, fun h2 e2 => ?_⟩
 have hp2 : h2[p]? = some (.box ((bC b).map .cv) true) := e2.get (by rw [List.getElem?_set_self (df hp)])
 have e1 : (((bC b).map VV.cv).drop 0).take (b.length * 1) = (bC b).map .cv := by
  rw [List.drop_zero, List.take_of_length_le (by rw [List.length_map, qq]; omega)]
 show gh h2 1 (.ob p 0 b.length 1 ex) = _
 unfold gh
 simp only [hp2]
 rw [e1, Ps _ _ (fun _ => rfl)]
 simp only [qq, Nat.mul_one, and_self, if_true]
 rw [Dw _ _ qq]
 unfold bC eB
 rw [List.map_map]; rfl
theorem NB.bsrc {h0 h : ah} {b : List UInt8} {u : VV} (hu : NB h0 h 1 (eB b) u) : BSrc h0 h b u := by
 rcases hu.v with ⟨e, rfl⟩ | ⟨id, g, hid, rfl, a4⟩
 ·exact SlV.bsrc (.inl ⟨rfl, e⟩) hu.ext
 ·refine ⟨by rw [hu.ln, ay], .cv (.sl 1 (eB b) false), h.set id (.arr 1 (eB b) g true), by simp [cf, ij, Go.Vm.clos, a4], .inr ⟨false, rfl⟩, hu.ext.set hid _, fun h2 e2 => ?_⟩
  have := e2.get (show (h.set id (.arr 1 (eB b) g true))[id]? = some (.arr 1 (eB b) g true) by rw [List.getElem?_set_self (df a4)])
  simp [ja, gh, this]
theorem Cc {α : Type} {l c : List α} {off k : Nat} {x : α} (h : off + c.length < l.length) (hk : c.length = k) : (ap l off c).set (off + k) x = ap l off (c ++ [x]) := by
 subst hk
 unfold ap
 have h1 : (l.take off).length = off := by simp; omega
 rw [List.append_assoc, List.set_append_right _ _ (by omega), h1, Nat.add_sub_cancel_left, List.set_append_right _ _ (Nat.le_refl _), Nat.sub_self, List.drop_eq_getElem_cons h, List.set_cons_zero]
 simp [Nat.add_assoc]
theorem Ll {α : Type} {l : List α} {off : Nat} : ap l off [] = l := by unfold ap; simp
theorem afz {h : ah} {n : Nat} {e : List CV} (he : e.length = n) : ldO h true n (.rptr e) = some (.agg (e.map .cv), h) := by
 have : e.take n = e := List.take_of_length_le (by omega)
 simp [ldO, ak, ml, dp, this, he]
theorem As {h : ah} {n p : Nat} {cells : List VV} {fr : Bool} (ho : h[p]? = some (.box cells fr)) (hn : cells.length = n) : ldO h true n (.ptr p 0) = some (.agg cells, h) := nx ho hn
theorem Vv {P : VV -> ah -> Prop} {s : List VV} {h : ah} {a n id : Nat} {cells : List VV} {fr : Bool} (ha : s.getD a .undef = .ptr id 0) (ho : h[id]? = some (.box cells fr)) (hn : cells.length = n)
  (hP : P (.agg cells) h) : RQ [.cell a true n] P .ret ⟨s, h⟩ := by
 subst hn
 refine ⟨trivial, [.agg cells], ?_, hP⟩
 simp only [jz, xu, ha, ho, List.drop_zero, List.take_length, dp, if_true]
theorem aa6 {P : VV -> ah -> Prop} {s : List VV} {h : ah} {a m n id : Nat} {cells : List VV} {fr : Bool} (ha : s.getD a .undef = .ptr id 0) (ho : h[id]? = some (.box cells fr)) (hn : cells.length = n) (hm : m < s.length)
  (hP : P (.tup [.agg cells, s.getD m .undef]) h) : RQ [.cell a true n, .t m] P .ret ⟨s, h⟩ := by
 subst hn
 refine ⟨trivial, [.agg cells, s.getD m .undef], ?_, hP⟩
 simp only [jz, xu, ko hm, ha, ho, List.drop_zero, List.take_length, dp, if_true]
end Go.Vm
/-
 Sums of bytes: jq laws (own work).
-/
namespace Go.Vm
open Go
theorem Ef {a b : Nat} (ha : a < 4294967296) (hb : b < 4294967296) : bits .xor .u32 (a : Int) (b : Int) = ((a ^^^ b : Nat) : Int) := by
 have hx : a ^^^ b < 2 ^ 32 := Nat.xor_lt_two_pow (by omega) (by omega)
 have e1 : (BitVec.ofInt IntKind.u32.bits (a : Int) ^^^ BitVec.ofInt IntKind.u32.bits (b : Int)).toNat = a ^^^ b := by
  have h1 : (BitVec.ofInt 32 (a : Int)).toNat = a := by simp [BitVec.toNat_ofInt]; omega
  have h2 : (BitVec.ofInt 32 (b : Int)).toNat = b := by simp [BitVec.toNat_ofInt]; omega
  show (BitVec.ofInt 32 (a : Int) ^^^ BitVec.ofInt 32 (b : Int)).toNat = a ^^^ b
  rw [BitVec.toNat_xor, h1, h2]
 simp only [bits]
 rw [e1]
 exact IntWalk.u32_in _ (by omega)
theorem Tc {a : Nat} (ha : a < 4294967296) : bits .and .u32 (a : Int) 1 = ((a % 2 : Nat) : Int) := by
 have e1 : (BitVec.ofInt IntKind.u32.bits (a : Int) &&& BitVec.ofInt IntKind.u32.bits 1).toNat = a % 2 := by
  have h1 : (BitVec.ofInt 32 (a : Int)).toNat = a := by simp [BitVec.toNat_ofInt]; omega
  have h2 : (BitVec.ofInt 32 1).toNat = 1 := by decide
  show (BitVec.ofInt 32 (a : Int) &&& BitVec.ofInt 32 1).toNat = a % 2
  rw [BitVec.toNat_and, h1, h2, Nat.and_one_is_mod]
 simp only [bits]
 rw [e1]
 exact IntWalk.u32_in _ (by omega)
theorem Va {a b : Nat} (ha : a < 256) (hb : b < 256) : bits .xor .u8 (a : Int) (b : Int) = ((a ^^^ b : Nat) : Int) := by
 have hx : a ^^^ b < 2 ^ 8 := Nat.xor_lt_two_pow (by omega) (by omega)
 have e1 : (BitVec.ofInt IntKind.u8.bits (a : Int) ^^^ BitVec.ofInt IntKind.u8.bits (b : Int)).toNat = a ^^^ b := by
  have h1 : (BitVec.ofInt 8 (a : Int)).toNat = a := by simp [BitVec.toNat_ofInt]; omega
  have h2 : (BitVec.ofInt 8 (b : Int)).toNat = b := by simp [BitVec.toNat_ofInt]; omega
  show (BitVec.ofInt 8 (a : Int) ^^^ BitVec.ofInt 8 (b : Int)).toNat = a ^^^ b
  rw [BitVec.toNat_xor, h1, h2]
 simp only [bits]
 rw [e1]
 exact IntWalk.u8_in _ (by omega)
theorem Ny {a : Nat} (ha : a < 4294967296) : unO .xor (vi .u32 (a : Int)) = some (vi .u32 ((4294967295 ^^^ a : Nat) : Int)) := by
 have hx : 4294967295 ^^^ a < 2 ^ 32 := Nat.xor_lt_two_pow (by omega) (by omega)
 have e1 : (BitVec.ofInt IntKind.u32.bits (if IntKind.u32.signed then -1 else IntKind.u32.max) ^^^ BitVec.ofInt IntKind.u32.bits (a : Int)).toNat = 4294967295 ^^^ a := by
  have h1 : (BitVec.ofInt 32 (a : Int)).toNat = a := by simp [BitVec.toNat_ofInt]; omega
  have h2 : (BitVec.ofInt 32 (if IntKind.u32.signed then -1 else IntKind.u32.max)).toNat = 4294967295 := by decide
  show (BitVec.ofInt 32 (if IntKind.u32.signed then -1 else IntKind.u32.max) ^^^ BitVec.ofInt 32 (a : Int)).toNat = 4294967295 ^^^ a
  rw [BitVec.toNat_xor, h1, h2]
 simp only [unO, unV, Option.map_some]
 rw [e1, IntWalk.u32_in _ (by omega)]
def Ao (n : Nat) : Nat := (n / 2) ^^^ (3988292384 * (n % 2))
def ev : Nat -> Nat -> Nat
 | 0, n => n
 | k + 1, n => ev k (Ao n)
def ana (n : Nat) (b : List UInt8) : Nat := b.foldl (fun n c => ev 8 (n ^^^ c.toNat)) n
def ami (n : Nat) (b : List UInt8) : Nat := 4294967295 ^^^ ana (4294967295 ^^^ n) b
def crc (b : List UInt8) : Nat := ami 0 b
def le4 (n : Nat) : List UInt8 := [UInt8.ofNat (n % 256), UInt8.ofNat (n / 256 % 256), UInt8.ofNat (n / 65536 % 256), UInt8.ofNat (n / 16777216)]
def oc (b : List UInt8) : List UInt8 := b ++ le4 (crc b)
theorem Pt {n : Nat} (h : n < 4294967296) : Ao n < 4294967296 := by
 unfold Ao
 have : n % 2 < 2 := Nat.mod_lt _ (by decide)
 exact Nat.xor_lt_two_pow (n := 32) (by omega) (by omega)
theorem wi : ∀ (k : Nat) {n : Nat}, n < 4294967296 -> ev k n < 4294967296
 | 0, n, h => h
 | k + 1, n, h => wi k (Pt h)
theorem akg {n : Nat} (h : n < 4294967296) (c : UInt8) : n ^^^ c.toNat < 4294967296 := Nat.xor_lt_two_pow (n := 32) (by omega) (by have := c.toNat_lt; omega)
theorem Li : ∀ (b : List UInt8) {n : Nat}, n < 4294967296 -> ana n b < 4294967296
 | [], n, h => h
 | c :: b, n, h => Li b (wi 8 (akg h c))
theorem ad1 {n : Nat} (h : n < 4294967296) (b : List UInt8) : ami n b < 4294967296 := Nat.xor_lt_two_pow (n := 32) (by decide) (Li b (Nat.xor_lt_two_pow (n := 32) (by decide) h))
theorem alu (b : List UInt8) : crc b < 4294967296 := ad1 (by decide) b
theorem ow (b : List UInt8) : (oc b).length = b.length + 4 := by simp [oc, le4]
theorem Wv (a b : Nat) : Ao (a ^^^ b) = Ao a ^^^ Ao b := by
 unfold Ao
 have e1 : (a ^^^ b) / 2 = a / 2 ^^^ b / 2 := by
  have := Nat.shiftRight_xor_distrib (a := a) (b := b) (i := 1)
  simpa [Nat.shiftRight_eq_div_pow] using this
 have e2 : 3988292384 * ((a ^^^ b) % 2) = (3988292384 * (a % 2)) ^^^ (3988292384 * (b % 2)) := by
  have : (a ^^^ b) % 2 = (a % 2) ^^^ (b % 2) := by
   have := Nat.xor_mod_two_pow (a := a) (b := b) (n := 1)
   simpa using this
  rw [this]
  rcases Nat.mod_two_eq_zero_or_one a with h | h <;> rcases Nat.mod_two_eq_zero_or_one b with h' | h' <;> rw [h, h'] <;> rfl
 rw [e1, e2]
 simp only [Nat.xor_assoc]
 congr 1
 simp only [<- Nat.xor_assoc]
 rw [Nat.xor_comm (b / 2)]
theorem Ed : ∀ (k a b : Nat), ev k (a ^^^ b) = ev k a ^^^ ev k b
 | 0, a, b => rfl
 | k + 1, a, b => by simp only [ev]; rw [Wv, Ed k]
theorem Ac : ∀ (k m : Nat), ev k (2 ^ k * m) = m
 | 0, m => by simp [ev]
 | k + 1, m => by
  have e : Ao (2 ^ (k + 1) * m) = 2 ^ k * m := by
   unfold Ao
   have : 2 ^ (k + 1) * m = 2 * (2 ^ k * m) := by rw [Nat.pow_succ, Nat.mul_comm (2 ^ k) 2, Nat.mul_assoc]
   rw [this, Nat.mul_mod_right, Nat.mul_div_cancel_left _ (by decide)]
   simp
  simp only [ev]
  rw [e, Ac k m]
theorem Ia (x : Nat) : ev 8 x = (x / 256) ^^^ ev 8 (x % 256) := by
  have hx : x = (256 * (x / 256)) ^^^ (x % 256) := by
    have e : 256 * (x / 256) + x % 256 = (256 * (x / 256)) ||| (x % 256) := Nat.two_pow_add_eq_or_of_lt (i := 8) (Nat.mod_lt _ (by decide)) (x / 256)
    have e2 : (256 * (x / 256)) ||| (x % 256) = (256 * (x / 256)) ^^^ (x % 256) := by
      apply Nat.eq_of_testBit_eq
      intro i
      rw [Nat.testBit_or, Nat.testBit_xor]
      by_cases hi : i < 8
      · have : (256 * (x / 256)).testBit i = false := by
          have := Nat.testBit_two_pow_mul (i := 8) (a := x / 256) (j := i)
          rw [show (256 : Nat) = 2 ^ 8 from rfl, this]
          simp; omega
        simp [this]
      · have : (x % 256).testBit i = false := by
          rw [show (256 : Nat) = 2 ^ 8 from rfl, Nat.testBit_mod_two_pow]
          simp; omega
        simp [this]
    have e3 := Nat.div_add_mod x 256
    omega
  calc ev 8 x = ev 8 ((256 * (x / 256)) ^^^ (x % 256)) := by rw [← hx]
    _ = ev 8 (256 * (x / 256)) ^^^ ev 8 (x % 256) := Ed 8 _ _
    _ = (x / 256) ^^^ ev 8 (x % 256) := by rw [show ev 8 (256 * (x / 256)) = x / 256 from Ac 8 _]
theorem Lk (n : Nat) (c : UInt8) : ev 8 (n ^^^ c.toNat) = (n / 256) ^^^ ev 8 ((n % 256) ^^^ c.toNat) := by
 have hc := c.toNat_lt
 have e1 : (n ^^^ c.toNat) / 256 = n / 256 := by
  have := Nat.shiftRight_xor_distrib (a := n) (b := c.toNat) (i := 8)
  simp only [Nat.shiftRight_eq_div_pow] at this
  rw [show (2 : Nat) ^ 8 = 256 from rfl] at this
  rw [this, Nat.div_eq_of_lt hc, Nat.xor_zero]
 have e2 : (n ^^^ c.toNat) % 256 = (n % 256) ^^^ c.toNat := by
  have := Nat.xor_mod_two_pow (a := n) (b := c.toNat) (n := 8)
  rw [show (2 : Nat) ^ 8 = 256 from rfl] at this
  rw [this, Nat.mod_eq_of_lt hc]
 rw [Ia, e1, e2]
end Go.Vm
/-
 Vm: slices that are read, written no more (own work).
-/
namespace Go.Vm
open Go
def NF (h : ah) (z : Nat) (els : List (List CV)) (v : VV) : Prop := SlV z els v \/ ∃ id g ex fr, v = .own id g 0 els.length ex /\ h[id]? = some (.arr z els g fr)
section
variable {h h' : ah} {z : Nat} {els : List (List CV)} {v : VV}
structure Froze (h h1 : ah) : Prop where
 len : h1.length = h.length
 box : ∀ (j : Nat) (o : VO), h[j]? = some o -> (∀ z e g fr, o ≠ .arr z e g fr) -> h1[j]? = some o
 arr : ∀ (j : Nat) (z : Nat) (e : List (List CV)) (g : Nat) fr, h[j]? = some (.arr z e g fr) -> ∃ fr', h1[j]? = some (.arr z e g fr')
theorem Froze.refl (h : ah) : Froze h h := ⟨rfl, fun _ _ e _ => e, fun _ _ _ _ fr e => ⟨fr, e⟩⟩
theorem NF.at_ (b : NF h z els v) {k : IntKind} {j : Nat} {e : List CV} (he : els[j]? = some e) : ∃ p, iaO h z v (vi k (j : Int)) = some (p, h) /\ (p = .rptr e \/ ∃ id g fr, p = .eptr id g j 0 /\ h[id]? = some (.arr z els g fr)) := by
 have hj := (List.getElem?_eq_some_iff.1 he).1
 rcases b with b | ⟨id, g, ex, fr, rfl, a⟩
 ·exact ⟨.rptr e, b.ia (by omega) (by simpa using he), .inl rfl⟩
 ·exact ⟨.eptr id g j 0, by rw [yn (by omega) a (by simpa using hj)]; simp, .inr ⟨id, g, fr, rfl, a⟩⟩
theorem NF.cell (b : NF h z els v) {k : IntKind} {j : Nat} {e : List CV} (he : els[j]? = some e) : ∃ p, iaO h z v (vi k (j : Int)) = some (p, h) /\ (∀ n, e.length = n -> ldO h true n p = some (.agg (e.map .cv), h)) /\ (∀ off c, e[off]? = some c -> ∃ q, fdO off p = some q /\ ldO h false 1 q = some (.cv c, h)) /\ (∀ c r, e = c :: r -> ldO h false 1 p = some (.cv c, h)) := by
 obtain ⟨p, h1, h2⟩ := b.at_ (k := k) he
 refine ⟨p, h1, ?_⟩
 rcases h2 with rfl | ⟨id, g, fr, rfl, a⟩
 ·refine ⟨fun n hn => afz hn, fun off c hc => ⟨.rptr (e.drop off), rfl, ?_⟩, fun c r hc => by subst hc; exact ji⟩
  obtain ⟨hlt, e1⟩ := List.getElem?_eq_some_iff.1 hc
  rw [List.drop_eq_getElem_cons hlt, e1]
  exact ji
 ·refine ⟨fun n hn => pa a he hn, fun off c hc => ⟨.eptr id g j (0 + off), rfl, ?_⟩, fun c r hc => Gs a he (by subst hc; rfl)⟩
  rw [Nat.zero_add]; exact Gs a he hc
end
end Go.Vm
/-
 Vm: the front of a slice that grew (own work).
-/
namespace Go.Vm
open Go
end Go.Vm
/-
 Vm: views: slices that are read, wherever they begin and end (own work).
-/
namespace Go.Vm
open Go
def VF (h : ah) (z : Nat) (els : List (List CV)) (v : VV) : Prop :=
 SlV z els v \/ ∃ id g off ex fr full, v = .own id g off els.length ex /\ h[id]? = some (.arr z full g fr) /\ off + els.length <= full.length /\ els = (full.drop off).take els.length
section
variable {h h' : ah} {z : Nat} {els : List (List CV)} {v : VV}
theorem SlV.vf (b : SlV z els v) : VF h z els v := .inl b
theorem VF.ln (b : VF h z els v) : lnO false v = some (vi .i64 els.length) := by
 rcases b with b | ⟨id, g, off, ex, fr, full, rfl, _⟩
 ·exact b.ln
 ·rfl
theorem VF.lenv (b : VF h z els v) : lj v = some els.length := by
 rcases b with b | ⟨id, g, off, ex, fr, full, rfl, _⟩
 ·rcases b with ⟨rfl, rfl⟩ | ⟨ex, rfl⟩ <;> rfl
 ·rfl
theorem VF.ext (b : VF h z els v) (e : HExt h h') : VF h' z els v := by
 rcases b with b | ⟨id, g, off, ex, fr, full, rfl, a, a2⟩
 ·exact .inl b
 ·exact .inr ⟨id, g, off, ex, fr, full, rfl, e.get a, a2⟩
theorem VF.elsO (b : VF h z els v) : gh h z v = some els := by
 rcases b with b | ⟨id, g, off, ex, fr, full, rfl, a, a2, a3⟩
 ·exact b.els
 ·simp [gh, a, a2]; exact a3.symm
theorem VF.src (b : VF h z els v) : ja h z v = some els := by
 rcases b with b | ⟨id, g, off, ex, fr, full, rfl, a, a2, a3⟩
 ·exact b.src
 ·simp [ja, gh, a, a2]; exact a3.symm
theorem VF.clos (b : VF h z els v) : ∃ w h1, ij h v = some (w, h1) /\ SlV z els w /\ Froze h h1 := by
 rcases b with b | ⟨id, g, off, ex, fr, full, rfl, a, a2, a3⟩
 ·refine ⟨v, h, ?_, b, Froze.refl h⟩
  rcases b with ⟨rfl, rfl⟩ | ⟨ex, rfl⟩ <;> rfl
 ·refine ⟨.cv (.sl z els ex), h.set id (.arr z full g true), by simp [ij, Go.Vm.clos, a, a2]; exact a3.symm, .inr ⟨ex, rfl⟩, by simp, fun j o e hn => ?_, fun j z' e' g' fr' hj => ?_⟩
  ·rw [List.getElem?_set_ne (by rintro rfl; rw [a] at e; cases e; exact hn _ _ _ _ rfl)]; exact e
  ·by_cases hij : id = j
   ·subst hij
    rw [a] at hj; cases hj
    exact ⟨true, by rw [List.getElem?_set_self (df a)]⟩
   ·exact ⟨fr', by rw [List.getElem?_set_ne hij]; exact hj⟩
theorem VF.from_ (b : VF h z els v) {k : IntKind} {n : Nat} (hn : n <= els.length) : ∃ w, slO h z v (some (vi k (n : Int))) none none = some (w, h) /\ VF h z (els.drop n) w := by
 rcases b with b | ⟨id, g, off, ex, fr, full, rfl, a, a2, a3⟩
 ·obtain ⟨w, h1, h2⟩ := b.from_ (h := h) (k := k) (a := (n : Int)) (by omega) (by omega)
  rw [Int.toNat_natCast] at h1
  exact ⟨w, h2, .inl h1⟩
 ·have c1 : (n : Int) <= (els.length : Int) := by omega
  have hl : (els.drop n).length = els.length - n := by rw [List.length_drop]
  refine ⟨_, by simp [slO, ak, ml, lj, bnd, pk, c1, a]; rfl, .inr ⟨id, g, off + n, _, fr, full, by rw [hl], a, by omega, ?_⟩⟩
  rw [hl]
  conv => lhs; rw [a3]
  rw [List.drop_take, List.drop_drop]
theorem VF.cell (b : VF h z els v) {k : IntKind} {j : Nat} {e : List CV} (he : els[j]? = some e) : ∃ p, iaO h z v (vi k (j : Int)) = some (p, h) ∧ (∀ n, e.length = n → ldO h true n p = some (.agg (e.map .cv), h)) ∧ (∀ off c, e[off]? = some c → ∃ q, fdO off p = some q ∧ ldO h false 1 q = some (.cv c, h)) ∧ (∀ c r, e = c :: r → ldO h false 1 p = some (.cv c, h)) := by
  have hj := (List.getElem?_eq_some_iff.1 he).1
  rcases b with b | ⟨id, g, off, ex, fr, full, rfl, a, a2, a3⟩
  · exact (show NF h z els v from .inl b).cell (k := k) he
  · have hf : full[off + j]? = some e := by
      have h2 : ((full.drop off).take els.length)[j]? = some e := by rw [← a3]; exact he
      rw [List.getElem?_take, if_pos hj, List.getElem?_drop] at h2
      exact h2
    refine ⟨.eptr id g (off + j) 0, by rw [yn (by omega) a (by simpa using hj)]; simp, fun n hn => pa a hf hn, fun o c hc => ⟨.eptr id g (off + j) (0 + o), rfl, by rw [Nat.zero_add]; exact Gs a hf hc⟩, fun c r hc => Gs a hf (by subst hc; rfl)⟩
theorem VF.nil : VF h z [] bq := .inl (.inl ⟨rfl, rfl⟩)
end
end Go.Vm
/-
 The order of texts (own work).
-/
namespace Go.Vm
open Go
theorem Cj : ∀ a : List UInt8, Op.bytesLess a a = false
 | [] => rfl
 | x :: a => by simp [Op.bytesLess, Cj a]
theorem Pa : ∀ {a b c : List UInt8}, Op.bytesLess a b = true -> Op.bytesLess b c = true -> Op.bytesLess a c = true
 | a, b, [], h1, h2 => by cases b <;> simp [Op.bytesLess] at h2
 | [], b, z :: c, h1, h2 => rfl
 | x :: a, [], z :: c, h1, h2 => by simp [Op.bytesLess] at h1
 | x :: a, y :: b, z :: c, h1, h2 => by
  simp only [Op.bytesLess, Bool.or_eq_true, decide_eq_true_eq, Bool.and_eq_true, beq_iff_eq] at h1 h2 |-
  rcases h1 with h1 | ⟨rfl, h1⟩
  ·rcases h2 with h2 | ⟨rfl, h2⟩
   ·exact .inl (UInt8.lt_trans h1 h2)
   ·exact .inl h1
  ·rcases h2 with h2 | ⟨rfl, h2⟩
   ·exact .inl h2
   ·exact .inr ⟨rfl, Pa h1 h2⟩
theorem Pd : ∀ a b : List UInt8, Op.bytesLess a b = true \/ a = b \/ Op.bytesLess b a = true
 | [], [] => .inr (.inl rfl)
 | [], _ :: _ => .inl rfl
 | _ :: _, [] => .inr (.inr rfl)
 | x :: a, y :: b => by
  simp only [Op.bytesLess, Bool.or_eq_true, decide_eq_true_eq, Bool.and_eq_true, beq_iff_eq]
  rcases Nat.lt_trichotomy x.toNat y.toNat with h | h | h
  ·exact .inl (.inl (UInt8.lt_iff_toNat_lt.2 h))
  ·have e := UInt8.toNat_inj.1 h
   subst e
   rcases Pd a b with h | h | h
   ·exact .inl (.inr ⟨rfl, h⟩)
   ·exact .inr (.inl (by rw [h]))
   ·exact .inr (.inr (.inr ⟨rfl, h⟩))
  ·exact .inr (.inr (.inl (UInt8.lt_iff_toNat_lt.2 h)))
theorem ab5 {a b : List UInt8} (h : Op.bytesLess a b = true) : Op.bytesLess b a = false := by
 cases h2 : Op.bytesLess b a with
 | false => rfl
 | true => have := Pa h h2; rw [Cj] at this; cases this
def Cn (a b : List UInt8) : Bool := Op.bytesLess a b || a == b
theorem Br {a b : List UInt8} : Cn a b = true ↔ Op.bytesLess b a = false := by
 unfold Cn
 rw [Bool.or_eq_true, beq_iff_eq]
 constructor
 ·rintro (h | rfl)
  ·exact ab5 h
  ·exact Cj _
 ·intro h
  rcases Pd a b with h1 | h1 | h1
  ·exact .inl h1
  ·exact .inr h1
  ·rw [h1] at h; cases h
theorem Yb {a b : List UInt8} : Cn a b = false ↔ Op.bytesLess b a = true := by
 cases h : Cn a b with
 | true => rw [Br] at h; simp [h]
 | false =>
  cases h2 : Op.bytesLess b a with
  | true => simp
  | false => rw [<- Br, h] at h2; cases h2
end Go.Vm
/-
 Vm: what is written no more; slices that grow, step by step (own work).
-/
namespace Go.Vm
open Go
def VZ (h : ah) (z : Nat) (els : List (List CV)) (v : VV) : Prop :=
 SlV z els v \/ ∃ id g off ex full, v = .own id g off els.length ex /\ h[id]? = some (.arr z full g true) /\ off + els.length <= full.length /\ els = (full.drop off).take els.length
def KZ (h h' : ah) : Prop := ∀ (j z : Nat) (e : List (List CV)) (g : Nat), h[j]? = some (.arr z e g true) -> h'[j]? = some (.arr z e g true)
def KG (z : Nat) (h h' : ah) : Prop := h.length <= h'.length /\ ∀ (j : Nat) (o : VO), h[j]? = some o -> (∀ e g, o ≠ VO.arr z e g false) -> h'[j]? = some o
theorem KZ.refl (h : ah) : KZ h h := fun _ _ _ _ e => e
theorem KZ.trans {a b c : ah} (x : KZ a b) (y : KZ b c) : KZ a c := fun j z e g hj => y j z e g (x j z e g hj)
theorem KG.kz {z : Nat} {h h' : ah} (k : KG z h h') : KZ h h' := fun j z' e g hj => k.2 j _ hj (fun e' g' hh => by cases hh)
theorem KG.box {z : Nat} {h h' : ah} (k : KG z h h') {j : Nat} {cells : List VV} {fr : Bool} (hj : h[j]? = some (.box cells fr)) : h'[j]? = some (.box cells fr) := k.2 j _ hj (fun e' g' hh => by cases hh)
theorem KG.loop {z : Nat} {h h' : ah} (k : KG z h h') {j : Nat} {ps : List Nat} {a b : IR} {s : List VV} {t : LoopState} {p : Option Jmp} (hj : h[j]? = some (.loop ps a b s t p)) : h'[j]? = some (.loop ps a b s t p) := k.2 j _ hj (fun e' g' hh => by cases hh)
theorem HExt.kz {h h' : ah} (e : HExt h h') : KZ h h' := fun j z l g hj => e.get hj
theorem KZ.setBox (h : ah) {i : Nat} {cells : List VV} {fr : Bool} (hb : h[i]? = some (.box cells fr)) (o : VO) : KZ h (h.set i o) := fun j z e g hj => by
 rw [List.getElem?_set_ne (by rintro rfl; rw [hb] at hj; cases hj)]; exact hj
theorem KZ.setLoop (h : ah) {i : Nat} {ps : List Nat} {a b : IR} {s : List VV} {t : LoopState} {p : Option Jmp} (hb : h[i]? = some (.loop ps a b s t p)) (o : VO) : KZ h (h.set i o) := fun j z e g hj => by
 rw [List.getElem?_set_ne (by rintro rfl; rw [hb] at hj; cases hj)]; exact hj
theorem eo.kg {h h' : ah} {z z' : Nat} {els : List (List CV)} {v : VV} (b : eo h z els v) (k : KG z' h h') (hz : z ≠ z') : eo h' z els v := by
 rcases b with b | ⟨id, g, hne, h1, h2⟩
 ·exact .inl b
 ·exact .inr ⟨id, g, hne, h1, k.2 id _ h2 (fun e g' hh => by cases hh; exact hz rfl)⟩
theorem eo.hext {h h' : ah} {z : Nat} {els : List (List CV)} {v : VV} (b : eo h z els v) (k : HExt h h') : eo h' z els v := by
 rcases b with b | ⟨id, g, hne, h1, h2⟩
 ·exact .inl b
 ·exact .inr ⟨id, g, hne, h1, k.get h2⟩
theorem eo.setLoop {h : ah} {z : Nat} {els : List (List CV)} {v : VV} (hb : eo h z els v) {i : Nat} {ps : List Nat} {a b : IR} {s : List VV} {t : LoopState} {p : Option Jmp} (ho : h[i]? = some (.loop ps a b s t p)) (o : VO) : eo (h.set i o) z els v := by
 rcases hb with b | ⟨id, g, hne, h1, h2⟩
 ·exact .inl b
 ·exact .inr ⟨id, g, hne, h1, by rw [List.getElem?_set_ne (by rintro rfl; rw [ho] at h2; cases h2)]; exact h2⟩
theorem eo.vf {h : ah} {z : Nat} {els : List (List CV)} {v : VV} (b : eo h z els v) : VF h z els v := by
 rcases b with ⟨rfl, rfl⟩ | ⟨id, g, hne, rfl, h2⟩
 ·exact VF.nil
 ·exact .inr ⟨id, g, 0, false, false, els, rfl, h2, by omega, by simp⟩
theorem ip {h : ah} {id : Nat} {v : VV} {fr : Bool} (ho : h[id]? = some (.box [v] fr)) : ldO h false 1 (.ptr id 0) = some (v, h) := bf ho rfl
theorem eo.vf_cell {h : ah} {z : Nat} {els : List (List CV)} {v : VV} (b : eo h z els v) : en v = true := by
 rcases b with ⟨_, rfl⟩ | ⟨_, _, _, rfl, _⟩ <;> rfl
theorem eo.lnO' {h : ah} {z : Nat} {els : List (List CV)} {v : VV} (b : eo h z els v) : lnO false v = some (vi .i64 els.length) := b.vf.ln
theorem Vp {h : ah} {z by_ : Nat} {zero : List CV} {els new : List (List CV)} {v : VV} {x y : Opd} {s : List VV} (b : eo h z els v) (hx : ae s x = v) (hy : ja h z (ae s y) = some new) (h1 : (els.length + new.length) * by_ <= 35184372088832) (h2 : els.length + new.length <= 35184372088832) :
  ∃ v' h', ak h (ae s) (.app z by_ zero x y) = some (v', h') /\ eo h' z (els ++ new) v' /\ KG z h h' := by
 have hm : cj = 35184372088832 := rfl
 by_cases hn : new = []
 ·subst hn
  have e1 := b.els
  simp only [List.length_nil, Nat.add_zero] at h1 h2
  refine ⟨v, h, ?_, by rw [List.append_nil]; exact b, Nat.le_refl _, fun _ _ e _ => e⟩
  simp [ak, hy, hx, b.len, hm, h1, h2, e1]
 ·rcases b with ⟨rfl, rfl⟩ | ⟨id, g, hne, rfl, h3⟩
  ·simp only [List.length_nil, Nat.zero_add] at h1 h2
   refine ⟨.own h.length 0 0 new.length false, h ++ [.arr z new 0 false], ?_, .inr ⟨h.length, 0, by simpa using hn, by simp, by simp⟩, by simp, fun j o ho _ => by rw [List.getElem?_append_left (df ho)]; exact ho⟩
   simp only [ak, hy, hx, lj, hm, Nat.zero_add, h1, h2, and_self, if_true, hn, if_false]
  ·have hid := df h3
   refine ⟨.own id (g + 1) 0 (els.length + new.length) false, h.set id (.arr z (els ++ new) (g + 1) false), ?_, .inr ⟨id, g + 1, by simp [hne], by simp, by rw [List.getElem?_set_self hid]⟩, by simp, fun j o ho hno => ?_⟩
   ·simp only [ak, hy, hx, lj, hm, h1, h2, and_self, if_true, h3, Nat.zero_add, Nat.le_refl, Bool.false_eq_true, if_false, List.drop_zero, List.take_length, hn]
   ·rw [List.getElem?_set_ne (by rintro rfl; rw [h3] at ho; cases ho; exact hno _ _ rfl)]; exact ho
theorem Od {F : Nat -> Option FnIR} {h : ah} {z by_ : Nat} {zero : List CV} {els new : List (List CV)} {v : VV} {x y : Opd} {s : List VV} {d : Option Nat} {r : List Op1} {Q : Pst} (b : eo h z els v) (hx : ae s x = v) (hy : ja h z (ae s y) = some new) (h1 : (els.length + new.length) * by_ <= 35184372088832) (h2 : els.length + new.length <= 35184372088832)
  (hk : ∀ v' h', eo h' z (els ++ new) v' -> KG z h h' -> XO F r ⟨de s d v', h'⟩ Q) : XO F (⟨none, d, .app z by_ zero x y⟩ :: r) ⟨s, h⟩ Q := by
 obtain ⟨v', h', e1, e2, e3⟩ := Vp (zero := zero) b hx hy h1 h2
 rw [ik rfl, e1, lf]
 exact hk v' h' e2 e3
section
variable {h h' : ah} {z : Nat} {els : List (List CV)} {v : VV}
theorem VZ.vf (b : VZ h z els v) : VF h z els v := by
 rcases b with b | ⟨id, g, off, ex, full, h1, h2, h3⟩
 ·exact .inl b
 ·exact .inr ⟨id, g, off, ex, true, full, h1, h2, h3⟩
theorem VZ.kz (b : VZ h z els v) (k : KZ h h') : VZ h' z els v := by
 rcases b with b | ⟨id, g, off, ex, full, h1, h2, h3⟩
 ·exact .inl b
 ·exact .inr ⟨id, g, off, ex, full, h1, k _ _ _ _ h2, h3⟩
theorem ui {h : ah} {i : Nat} {o : VO} (e : h[i]? = some o) : h.set i o = h := by
 apply List.ext_getElem?
 intro j
 by_cases hj : i = j
 ·subst hj; rw [List.getElem?_set_self (df e), e]
 ·rw [List.getElem?_set_ne hj]
theorem VZ.clos (b : VZ h z els v) : ∃ w, ij h v = some (w, h) /\ SlV z els w := by
 rcases b with b | ⟨id, g, off, ex, full, rfl, a, a2, a3⟩
 ·refine ⟨v, ?_, b⟩
  rcases b with ⟨rfl, rfl⟩ | ⟨ex, rfl⟩ <;> rfl
 ·refine ⟨.cv (.sl z els ex), ?_, .inr ⟨ex, rfl⟩⟩
  have hs := ui a
  simp [ij, Go.Vm.clos, a, a2, hs]
  exact a3.symm
theorem VZ.upto (b : VZ h z els v) {k : IntKind} {n : Nat} (hn : n <= els.length) : ∃ w, slO h z v none (some (vi k (n : Int))) none = some (w, h) /\ VZ h z (els.take n) w := by
 rcases b with b | ⟨id, g, off, ex, full, rfl, a, a2, a3⟩
 ·obtain ⟨w, h1, h2⟩ := b.upto (h := h) (k := k) (b := (n : Int)) (by omega) (by omega)
  rw [Int.toNat_natCast] at h1
  exact ⟨w, h2, .inl h1⟩
 ·have c1 : (n : Int) <= (els.length : Int) := by omega
  have hl : (els.take n).length = n := by rw [List.length_take]; omega
  refine ⟨_, by simp [slO, ak, ml, lj, bnd, pk, c1, a]; rfl, .inr ⟨id, g, off, _, full, by rw [hl], a, by omega, ?_⟩⟩
  rw [hl]
  conv => lhs; rw [a3]
  rw [List.take_take]
  congr 1; omega
theorem VZ.from_ (b : VZ h z els v) {k : IntKind} {n : Nat} (hn : n <= els.length) : ∃ w, slO h z v (some (vi k (n : Int))) none none = some (w, h) /\ VZ h z (els.drop n) w := by
 rcases b with b | ⟨id, g, off, ex, full, rfl, a, a2, a3⟩
 ·obtain ⟨w, h1, h2⟩ := b.from_ (h := h) (k := k) (a := (n : Int)) (by omega) (by omega)
  rw [Int.toNat_natCast] at h1
  exact ⟨w, h2, .inl h1⟩
 ·have c1 : (n : Int) <= (els.length : Int) := by omega
  have hl : (els.drop n).length = els.length - n := by rw [List.length_drop]
  refine ⟨_, by simp [slO, ak, ml, lj, bnd, pk, c1, a]; rfl, .inr ⟨id, g, off + n, _, full, by rw [hl], a, by omega, ?_⟩⟩
  rw [hl]
  conv => lhs; rw [a3]
  rw [List.drop_take, List.drop_drop]
theorem VF.closZ (b : VF h z els v) : ∃ w h1, ij h v = some (w, h1) ∧ SlV z els w ∧ Froze h h1 ∧ VZ h1 z els v ∧ KZ h h1 ∧ (∀ z' elsB u, eo h z' elsB u → (z ≠ z' ∨ elsB = [] ∨ VZ h z els v) → eo h1 z' elsB u) := by
  rcases b with b | ⟨id, g, off, ex, fr, full, rfl, a, a2, a3⟩
  · refine ⟨v, h, ?_, b, Froze.refl h, .inl b, KZ.refl h, fun _ _ _ hb _ => hb⟩
    rcases b with ⟨rfl, rfl⟩ | ⟨ex, rfl⟩ <;> rfl
  · have hf : Froze h (h.set id (.arr z full g true)) := by
      refine ⟨by simp, fun j o e hn => ?_, fun j z' e' g' fr' hj => ?_⟩
      · rw [List.getElem?_set_ne (by rintro rfl; rw [a] at e; cases e; exact hn _ _ _ _ rfl)]; exact e
      · by_cases hij : id = j
        · subst hij
          rw [a] at hj; cases hj
          exact ⟨true, by rw [List.getElem?_set_self (df a)]⟩
        · exact ⟨fr', by rw [List.getElem?_set_ne hij]; exact hj⟩
    refine ⟨.cv (.sl z els ex), h.set id (.arr z full g true), by simp [ij, Go.Vm.clos, a, a2]; exact a3.symm, .inr ⟨ex, rfl⟩, hf, .inr ⟨id, g, off, ex, full, rfl, by rw [List.getElem?_set_self (df a)], a2, a3⟩, fun j z' e' g' hj => ?_, fun z' elsB u hb hc => ?_⟩
    · by_cases hij : id = j
      · subst hij
        rw [a] at hj; cases hj
        rw [List.getElem?_set_self (df a)]
      · rw [List.getElem?_set_ne hij]; exact hj
    · rcases hb with hb | ⟨id', g', hne, rfl, h2⟩
      · exact .inl hb
      · refine .inr ⟨id', g', hne, rfl, ?_⟩
        have : id ≠ id' := by
          rintro rfl
          rw [a] at h2
          cases h2
          rcases hc with hc | hc | hc
          · exact hc rfl
          · exact hne hc
          · rcases hc with hc | ⟨id2, g2, off2, ex2, full2, e, e2, _⟩
            · rcases hc with ⟨e, _⟩ | ⟨_, e⟩ <;> cases e
            · cases e; rw [a] at e2; cases e2
        rw [List.getElem?_set_ne this]; exact h2
end
theorem Froze.box' {h h1 : ah} (f : Froze h h1) {j : Nat} {cells : List VV} {fr : Bool} (hj : h[j]? = some (.box cells fr)) : h1[j]? = some (.box cells fr) := f.box j _ hj (fun _ _ _ _ e => by cases e)
theorem Froze.loop' {h h1 : ah} (f : Froze h h1) {j : Nat} {ps : List Nat} {a b : IR} {s : List VV} {t : LoopState} {p : Option Jmp} (hj : h[j]? = some (.loop ps a b s t p)) : h1[j]? = some (.loop ps a b s t p) := f.box j _ hj (fun _ _ _ _ e => by cases e)
theorem VZ.cellv {h : ah} {z : Nat} {els : List (List CV)} {v : VV} (b : VZ h z els v) : en v = true := by
 rcases b with (⟨rfl, _⟩ | ⟨_, rfl⟩) | ⟨_, _, _, _, _, rfl, _⟩ <;> rfl
theorem VF.cellv {h : ah} {z : Nat} {els : List (List CV)} {v : VV} (b : VF h z els v) : en v = true := by
 rcases b with (⟨rfl, _⟩ | ⟨_, rfl⟩) | ⟨_, _, _, _, _, _, rfl, _⟩ <;> rfl
end Go.Vm
/-
 Vm: slices that shrink and grow again (own work).
-/
namespace Go.Vm
open Go
structure PB (h0 h : ah) (z : Nat) (els : List (List CV)) (v : VV) : Prop where
 ext : HExt h0 h
 v : (els = [] /\ v = bq) \/ (els = [] /\ v = .cv (.sl z [] true)) \/ ∃ id g full, h0.length <= id /\ v = .own id g 0 els.length false /\ h[id]? = some (.arr z full g false) /\ els.length <= full.length /\ els = full.take els.length
section
variable {h0 h h' : ah} {z : Nat} {els new : List (List CV)} {v : VV}
theorem NB.pb (b : NB h0 h z els v) : PB h0 h z els v := by
 refine ⟨b.ext, ?_⟩
 rcases b.v with ⟨a, rfl⟩ | ⟨id, g, a1, rfl, a2⟩
 ·exact .inl ⟨a, rfl⟩
 ·exact .inr (.inr ⟨id, g, els, a1, rfl, a2, Nat.le_refl _, by rw [List.take_length]⟩)
theorem PB.vf (b : PB h0 h z els v) : VF h z els v := by
 rcases b.v with ⟨rfl, rfl⟩ | ⟨rfl, rfl⟩ | ⟨id, g, full, _, rfl, a2, a3, a4⟩
 ·exact VF.nil
 ·exact .inl (.inr ⟨true, rfl⟩)
 ·exact .inr ⟨id, g, 0, false, false, full, rfl, a2, by omega, by rw [List.drop_zero]; exact a4⟩
theorem PB.then (b : PB h0 h z els v) (e : HExt h h') : PB h0 h' z els v := by
 refine ⟨b.ext.trans e, ?_⟩
 rcases b.v with x | x | ⟨id, g, full, a1, rfl, a2, a3, a4⟩
 ·exact .inl x
 ·exact .inr (.inl x)
 ·exact .inr (.inr ⟨id, g, full, a1, rfl, e.get a2, a3, a4⟩)
theorem PB.cellv (b : PB h0 h z els v) : en v = true := b.vf.cellv
theorem Hc {by_ : Nat} {zero : List CV} {x y : Opd} {s : List VV} {d : Option Nat} {r : List Op1} {F : Nat -> Option FnIR} {Q : Pst} (b : PB h0 h z els v) (hx : ae s x = v) (hy : ja h z (ae s y) = some new) (h1 : (els.length + new.length) * by_ <= 35184372088832) (h2 : els.length + new.length <= 35184372088832)
  (hk : ∀ v' h', PB h0 h' z (els ++ new) v' -> h.length <= h'.length -> (∀ (j : Nat) (cells : List VV) fr, h[j]? = some (.box cells fr) -> h'[j]? = some (.box cells fr)) -> XO F r ⟨de s d v', h'⟩ Q) : XO F (⟨none, d, .app z by_ zero x y⟩ :: r) ⟨s, h⟩ Q := by
 have hm : cj = 35184372088832 := rfl
 have e1 := b.vf.elsO
 have e2 := b.vf.lenv
 by_cases hne : new = []
 ·subst hne
  simp only [List.length_nil, Nat.add_zero] at h1 h2
  have e : ak h (ae s) (.app z by_ zero x y) = some (v, h) := by simp [ak, hy, hx, e2, hm, h1, h2, e1]
  rw [ik rfl, e, lf]
  exact hk _ _ (by rw [List.append_nil]; exact b) (Nat.le_refl _) (fun _ _ _ hh => hh)
 ·rcases b.v with ⟨rfl, rfl⟩ | ⟨rfl, rfl⟩ | ⟨id, g, full, a1, rfl, a2, a3, a4⟩
  ·simp only [List.length_nil, Nat.zero_add] at h1 h2
   have e : ak h (ae s) (.app z by_ zero x y) = some (.own h.length 0 0 new.length false, h ++ [.arr z new 0 false]) := by
    simp only [ak, hy, hx, lj, hm, Nat.zero_add, h1, h2, and_self, if_true, hne, if_false]
   rw [ik rfl, e, lf]
   exact hk _ _ ⟨b.ext.then _, .inr (.inr ⟨h.length, 0, new, b.ext.len, by simp, by simp, by simp, by simp⟩)⟩ (by simp) (fun j c fr hj => (HExt.push h _).get hj)
  ·simp only [List.length_nil, Nat.zero_add] at h1 h2
   have e : ak h (ae s) (.app z by_ zero x y) = some (.own h.length 0 0 (0 + new.length) false, h ++ [.arr z ([] ++ new) 0 false]) := by
    simp only [ak, hy, hx, lj, hm, List.length_nil, Nat.zero_add, h1, h2, and_self, if_true, hne, if_false]
   rw [ik rfl, e, lf]
   exact hk _ _ ⟨b.ext.then _, .inr (.inr ⟨h.length, 0, new, b.ext.len, by simp, by simp, by simp, by simp⟩)⟩ (by simp) (fun j c fr hj => (HExt.push h _).get hj)
  ·have hid := df a2
   have e : ak h (ae s) (.app z by_ zero x y) = some (.own id (g + 1) 0 (els.length + new.length) false, h.set id (.arr z (els ++ new) (g + 1) false)) := by
    simp only [ak, hy, hx, lj, hm, h1, h2, and_self, if_true, a2, Nat.zero_add, a3, Bool.false_eq_true, if_false, List.drop_zero, hne]
    rw [<- a4]
   rw [ik rfl, e, lf]
   refine hk _ _ ⟨b.ext.set a1 _, .inr (.inr ⟨id, g + 1, els ++ new, a1, by simp, by rw [List.getElem?_set_self hid], by simp, by rw [List.take_of_length_le (Nat.le_refl _)]⟩)⟩ (by simp) (fun j c fr hj => ?_)
   rw [List.getElem?_set_ne (by rintro rfl; rw [a2] at hj; cases hj)]; exact hj
end
end Go.Vm
/-
 Vm: functions of values without an address that are told by hand (own work).
-/
namespace Go.Vm
open Go Go.RowKit
end Go.Vm
/-
 Vm: texts: parts, bytes; calls of what is told by hand (own work).
-/
namespace Go.Vm
open Go
def ssO (v : VV) (lo hi : Option VV) : Option VV := match v with
 | .cv (.sc (.string s)) => match ah9 hi s.size s.size with
  | some b => match ah9 lo 0 b with
   | some a => some (.cv (.sc (.string ⟨((s.data.toList.drop a).take (b - a)).toArray⟩)))
   | none => none
  | none => none
 | _ => none
theorem aci {ρ : Opd -> VV} (o : Option Opd) (a b : Nat) : bnd ρ o a b = ah9 (o.map ρ) a b := by cases o <;> rfl
section
variable {F : Nat -> Option FnIR} {d : Option Nat} {x y : Opd} {r : List Op1} {c : Cl} {q : List (Op1 × Cl)} {s : List VV} {h : ah} {Q : Pst}
theorem adg {lo hi : Option Opd} : ak h (ae s) (.slS x lo hi) = (ssO (ae s x) (lo.map (ae s)) (hi.map (ae s))).map (·, h) := by
 simp only [ak, aci]
 generalize ae s x = v
 cases v with
 | cv c => cases c with
  | sc u =>
   cases u with
   | string t =>
    simp only [ssO]
    cases ah9 (hi.map (ae s)) t.size t.size with
    | none => rfl
    | some b => simp only; cases ah9 (lo.map (ae s)) 0 b <;> rfl
   | _ => rfl
  | sl _ _ _ => rfl
 | _ => rfl
theorem ajc {lo hi : Option Opd} : XO F (⟨none, d, .slS x lo hi⟩ :: r) ⟨s, h⟩ Q ↔ XW F (ssO (ae s x) (lo.map (ae s)) (hi.map (ae s))) h d r s Q := qh rfl adg
theorem aj0 {lo hi : Option Opd} : XD F ((⟨none, d, .slS x lo hi⟩, c) :: q) ⟨s, h⟩ Q ↔ XWD F (ssO (ae s x) (lo.map (ae s)) (hi.map (ae s))) h d q s Q := js rfl adg
def aje (v w : VV) : Option VV := match w, v with
 | .cv (.sc (.int _ j)), .cv (.sc (.string s)) => if 0 <= j then (match s.data.toList[j.toNat]? with
  | some b => some (.cv (.sc (.int .u8 b.toNat)))
  | none => none) else none
 | _, _ => none
theorem ac0 : ak h (ae s) (.ixS x y) = (aje (ae s x) (ae s y)).map (·, h) := by
 simp only [ak]
 generalize ae s x = v
 generalize ae s y = w
 cases w with
 | cv c => cases c with
  | sc u =>
   cases u with
   | int k j =>
    cases v with
    | cv c' => cases c' with
     | sc u' =>
      cases u' with
      | string t =>
       simp only [pk, aje]
       split
       ·cases t.data.toList[j.toNat]? <;> rfl
       ·rfl
      | _ => rfl
     | sl _ _ _ => rfl
    | _ => rfl
   | _ => rfl
  | sl _ _ _ => rfl
 | _ => rfl
theorem akb : XO F (⟨none, d, .ixS x y⟩ :: r) ⟨s, h⟩ Q ↔ XW F (aje (ae s x) (ae s y)) h d r s Q := qh rfl ac0
theorem aiv : XD F ((⟨none, d, .ixS x y⟩, c) :: q) ⟨s, h⟩ Q ↔ XWD F (aje (ae s x) (ae s y)) h d q s Q := js rfl ac0
end
section
variable {l : List UInt8} {k k' : IntKind}
theorem am5 {b : UInt8} : aje (txt (b :: l)) (vi k 0) = some (vi .u8 b.toNat) := rfl
theorem agp {s t : List UInt8} : kq .leq (txt s) (txt t) = some (vb (Op.bytesLess s t || s == t)) := rfl
end
attribute [go_sem] ajc aj0 akb aiv am5 agp
theorem aof {F : Nat -> Option FnIR} {a b : IR} {st : St} {Q : Pst} (P : List VV -> ah -> Prop) (h1 : X F a st fun o st' => o = .norm /\ P st'.s st'.h) (h2 : ∀ s h, P s h -> X F b ⟨s, h⟩ Q) : X F a st (K F b Q) := by
 obtain ⟨o, ⟨s, h⟩, e, rfl, hP⟩ := h1
 exact ⟨.norm, ⟨s, h⟩, e, h2 s h hP⟩
end Go.Vm
/-
 Vm: a region that draws its order: what does not look at the heap, as equations (own work).
-/
namespace Go.Vm
open Go
def XWA (F : Nat -> Option FnIR) (P : ah -> Prop) (x : Option VV) (h : ah) (d : Option Nat) (r : List (Op1 × Cl)) (s : List VV) (Q : St -> Prop) : Prop := ∃ v, x = some v /\ XDA F P r ⟨de s d v, h⟩ Q
section
variable {F : Nat -> Option FnIR} {P : ah -> Prop} {d : Option Nat} {r : List (Op1 × Cl)} {s : List VV} {h : ah} {Q : St -> Prop} {x y z : Opd}
theorem Hx {v : VV} : XWA F P (some v) h d r s Q ↔ XDA F P r ⟨de s d v, h⟩ Q := by
 constructor
 ·rintro ⟨_, he, hk⟩; cases he; exact hk
 ·exact fun hk => ⟨v, rfl, hk⟩
theorem rg {i : Ins} {u : Option VV} (hp : jq i = true) (hx : ak h (ae s) i = u.map (·, h)) : XDA F P ((⟨none, d, i⟩, .p) :: r) ⟨s, h⟩ Q ↔ XWA F P u h d r s Q := by
 constructor
 ·rintro ⟨_, st1, e1, e2, e3⟩
  rw [eu hp, hx] at e1
  cases u with
  | none => cases e1
  | some v => cases e1; exact ⟨v, rfl, e3⟩
 ·rintro ⟨v, rfl, hk⟩
  exact pt hp (by rw [hx]; rfl) hk
theorem aid {d : Nat} : XDA F P ((⟨none, some d, .mv x⟩, .p) :: r) ⟨s, h⟩ Q ↔ XDA F P r ⟨s.set d (ae s x), h⟩ Q := (rg (u := some (ae s x)) rfl rfl).trans Hx
theorem afw {op : BinOp} : XDA F P ((⟨none, d, .bin op x y⟩, .p) :: r) ⟨s, h⟩ Q ↔ XWA F P (kq op (ae s x) (ae s y)) h d r s Q := rg rfl Jc
theorem aej {k : IntKind} : XDA F P ((⟨none, d, .cvI k x⟩, .p) :: r) ⟨s, h⟩ Q ↔ XWA F P (cvO k (ae s x)) h d r s Q := rg rfl Dz
theorem aab : XDA F P ((⟨none, d, .pick x y z⟩, .p) :: r) ⟨s, h⟩ Q ↔ XWA F P (pkO (ae s x) (ae s y) (ae s z)) h d r s Q := rg rfl Mk
theorem aeg {i : Nat} : XDA F P ((⟨none, d, .ext x i⟩, .p) :: r) ⟨s, h⟩ Q ↔ XWA F P (exO (ae s x) i) h d r s Q := rg rfl Xu
theorem afb {t : Bool} : XDA F P ((⟨none, d, .len t x⟩, .p) :: r) ⟨s, h⟩ Q ↔ XWA F P (lnO t (ae s x)) h d r s Q := rg rfl On
theorem afs {off : Nat} : XDA F P ((⟨none, d, .fad off x⟩, .p) :: r) ⟨s, h⟩ Q ↔ XWA F P (fdO off (ae s x)) h d r s Q := rg rfl tq
theorem aal {n k : Nat} : XDA F P ((⟨none, d, .iadA n k x y⟩, .p) :: r) ⟨s, h⟩ Q ↔ XWA F P (Kr n k (ae s x) (ae s y)) h d r s Q := rg rfl yb
theorem Tg {zero : List VV} {parts : List (Nat × Nat × Opd)} : XDA F P ((⟨none, d, .build zero parts⟩, .p) :: r) ⟨s, h⟩ Q ↔ XWA F P (bdO zero (gu s parts)) h d r s Q := rg rfl Gz
theorem Yc : XDA F P ((⟨none, d, .nilck x⟩, .p) :: r) ⟨s, h⟩ Q ↔ XWA F P (nkO (ae s x)) h d r s Q := rg rfl zk
theorem aa0 {d t : Nat} : XDA F P ((⟨none, some d, .mkif t x⟩, .p) :: r) ⟨s, h⟩ Q ↔ XDA F P r ⟨s.set d (.iface t (ae s x)), h⟩ Q := (rg (u := some (.iface t (ae s x))) rfl rfl).trans Hx
theorem ahe : XDA F P [] ⟨s, h⟩ Q ↔ Q ⟨s, h⟩ := Iff.rfl
end
theorem agw {F : Nat -> Option FnIR} {d t : Nat} {x : Opd} {r : List Op1} {s : List VV} {h : ah} {Q : Pst} : XO F (⟨none, some d, .mkif t x⟩ :: r) ⟨s, h⟩ Q ↔ XO F r ⟨s.set d (.iface t (ae s x)), h⟩ Q := ut rfl rfl
theorem ad4 {F : Nat -> Option FnIR} {d t : Nat} {x : Opd} {c : Cl} {q : List (Op1 × Cl)} {s : List VV} {h : ah} {Q : Pst} : XD F ((⟨none, some d, .mkif t x⟩, c) :: q) ⟨s, h⟩ Q ↔ XD F q ⟨s.set d (.iface t (ae s x)), h⟩ Q := (js (u := some (.iface t (ae s x))) rfl rfl).trans zn
theorem Oa {h : ah} {s : List VV} {n : Nat} {x y : Opd} : ak h (ae s) (.st n x y) = stO h n (ae s x) (ae s y) := rfl
attribute [go_sem] Hx aid afw aej aab aeg afb afs aal Tg Yc aa0 ahe agw ad4
end Go.Vm
