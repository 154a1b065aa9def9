/- Part of a proof: of what it says, and when, each theorem tells itself. -/
import Derived.Test.YtbhoknaipfnlnaaVmAll1
import Derived.Lib.VarintBits
import Derived.Carry
import Derived.ChangeArms
import Derived.OpenShut
import Derived.Below
set_option linter.unusedSimpArgs false
set_option linter.unusedVariables false
/-
 Vm: what must hold ahead of a piece of code (own work).
-/
namespace Go.Vm
open Go
abbrev Pst := Out -> St -> Prop
def X (F : Nat -> Option FnIR) (ir : IR) (st : St) (Q : Pst) : Prop := ∃ o st', dt F ir st = some (o, st') /\ Q o st'
def XF (F : Nat -> Option FnIR) (ir : IR) (l : Nat) (st : St) (Q : Pst) : Prop := ∃ o st', bt F ir l st = some (o, st') /\ Q o st'
def XO (F : Nat -> Option FnIR) (ops : List Op1) (st : St) (Q : Pst) : Prop := ∃ o st', dp (call F) ops st = some (o, st') /\ Q o st'
def K (F : Nat -> Option FnIR) (b : IR) (Q : Pst) : Pst := fun o st => match o with
 | .norm => X F b st Q
 | o => Q o st
def B (id : Nat) (Q : Pst) : Pst := fun o st => match o with
 | .exit id' => if id' = id then Q .norm st else Q (.exit id') st
 | o => Q o st
section
variable {F : Nat -> Option FnIR}
theorem X.mono {ir : IR} {st : St} {Q Q' : Pst} (h : X F ir st Q) (hq : ∀ o st, Q o st -> Q' o st) : X F ir st Q' := by
 obtain ⟨o, st', h1, h2⟩ := h
 exact ⟨o, st', h1, hq _ _ h2⟩
theorem ie {α β : Type} {a : α} {b : β} {Q : α -> β -> Prop} : (∃ o st', some (a, b) = some (o, st') /\ Q o st') ↔ Q a b := by
 grind
theorem Ak {α β : Type} {Q : α -> β -> Prop} : (∃ o st', (none : Option (α × β)) = some (o, st') /\ Q o st') ↔ False := by
 grind
theorem alo {st : St} {Q : Pst} : X F .skip st Q ↔ Q .norm st := by unfold X; simp only [dt]; exact ie
theorem aj1 {id : Nat} {st : St} {Q : Pst} : X F (.exit id) st Q ↔ Q (.exit id) st := by unfold X; simp only [dt]; exact ie
theorem ad0 {l : Nat} {st : St} {Q : Pst} : X F (.label l) st Q ↔ Q .norm st := by unfold X; simp only [dt]; exact ie
theorem ah0 {l : Nat} {st : St} {Q : Pst} : X F (.goto l) st Q ↔ Q (.goto l) st := by unfold X; simp only [dt]; exact ie
theorem ann {st : St} {Q : Pst} : X F .ret st Q ↔ Q .ret st := by unfold X; simp only [dt]; exact ie
theorem akm {ops : List Op1} {st : St} {Q : Pst} : X F (.reg ops) st Q ↔ XO F ops st Q := by unfold X XO; simp only [dt]
def KQ (g : St -> Option (Out × St)) (Q : Pst) : Pst := fun o st => match o with
 | .norm => ∃ o st', g st = some (o, st') /\ Q o st'
 | o => Q o st
theorem Gk {x : Option (Out × St)} {g : St -> Option (Out × St)} {Q : Pst} :
  (∃ o st', (match (motive := Option (Out × St) -> Option (Out × St)) x with | some (.norm, st1) => g st1 | x => x) = some (o, st') /\ Q o st') ↔
  (∃ o st', x = some (o, st') /\ KQ g Q o st') := by
 cases x with
 | none => grind
 | some y =>
  obtain ⟨o, s⟩ := y
  rw [ie (Q := KQ g Q)]
  cases o with
  | norm => exact Iff.rfl
  | _ => exact ie
theorem af4 {a b : IR} {st : St} {Q : Pst} : X F (.seq a b) st Q ↔ X F a st (K F b Q) := by
 unfold X
 simp only [dt]
 exact Gk (g := fun st1 => dt F b st1)
theorem au {b : IR} {st : St} {Q : Pst} : X F (.loop b) st Q ↔ X F b st (K F (.loop b) Q) := by
 unfold X
 rw [Qf]
 exact Gk (g := fun st1 => dt F (.loop b) st1)
theorem afv {id : Nat} {b : IR} {st : St} {Q : Pst} : X F (.block id b) st Q ↔ X F b st (B id Q) := by
 unfold X
 simp only [dt]
 cases hx : dt F b st with
 | none => grind
 | some y =>
  obtain ⟨o, s⟩ := y
  rw [ie (Q := B id Q)]
  cases o with
  | exit id' =>
   by_cases hid : id' = id
   ·subst hid
    simp only [B, if_true]; exact ie
   ·simp only [B, if_neg hid]; exact ie
  | _ => exact ie
theorem Ng {b : IR} {st : St} {Q : Pst} : K F b Q .norm st ↔ X F b st Q := Iff.rfl
theorem ajx {b : IR} {id : Nat} {st : St} {Q : Pst} : K F b Q (.exit id) st ↔ Q (.exit id) st := Iff.rfl
theorem aiq {b : IR} {l : Nat} {st : St} {Q : Pst} : K F b Q (.goto l) st ↔ Q (.goto l) st := Iff.rfl
theorem amp {b : IR} {st : St} {Q : Pst} : K F b Q .ret st ↔ Q .ret st := Iff.rfl
theorem ang {b : IR} {v : VV} {st : St} {Q : Pst} : K F b Q (.pan v) st ↔ Q (.pan v) st := Iff.rfl
theorem alj {id : Nat} {st : St} {Q : Pst} : B id Q .norm st ↔ Q .norm st := Iff.rfl
theorem Jz {id id' : Nat} {st : St} {Q : Pst} : B id Q (.exit id') st ↔ (if id' = id then Q .norm st else Q (.exit id') st) := Iff.rfl
theorem aky {id l : Nat} {st : St} {Q : Pst} : B id Q (.goto l) st ↔ Q (.goto l) st := Iff.rfl
theorem amw {id : Nat} {st : St} {Q : Pst} : B id Q .ret st ↔ Q .ret st := Iff.rfl
theorem anp {id : Nat} {v : VV} {st : St} {Q : Pst} : B id Q (.pan v) st ↔ Q (.pan v) st := Iff.rfl
noncomputable def J (F : Nat -> Option FnIR) (b : IR) (x : Option (Out × St)) : Option (Out × St) := lim fun n => br (fun l st => bt F b l st) (fun l => (oa b l).isSome) n x
def S (F : Nat -> Option FnIR) (b : IR) (Q : Pst) : Pst := fun o st => ∃ o' st', J F b (some (o, st)) = some (o', st') /\ Q o' st'
theorem Ya {b : IR} {x : Option (Out × St)} {r : Out × St} : J F b x = some r ↔ ∃ n, br (fun l st => bt F b l st) (fun l => (oa b l).isSome) n x = some r :=
 Bf fun _ _ _ hnm => jw (fun _ _ _ h => h) hnm (fun _ h => h)
theorem Pt {b : IR} {y : Out × St} (h : ∀ l s, y = (.goto l, s) -> (oa b l).isSome = false) : J F b (some y) = some y := Ya.mpr ⟨0, jx h⟩
theorem alu {b : IR} {l : Nat} {st : St} (h : (oa b l).isSome = true) : J F b (some (.goto l, st)) = J F b (bt F b l st) := by
 apply Option.ext
 intro r
 rw [Ya, Ya]
 constructor
 ·rintro ⟨n, hn⟩
  cases n with
  | zero => simp [br, h] at hn
  | succ n => simp only [br, h, if_true] at hn; grind
 ·rintro ⟨n, hn⟩
  exact ⟨n + 1, by simp only [br, h, if_true]; exact hn⟩
theorem ag4 {b : IR} {st : St} {Q : Pst} : X F (.scope b) st Q ↔ X F b st (S F b Q) := by
 unfold X
 simp only [dt]
 cases hx : dt F b st with
 | none =>
  constructor
  ·rintro ⟨o, st', h, _⟩
   obtain ⟨n, hn⟩ := Ya.mp h
   cases n <;> simp [br] at hn
  grind
 | some y =>
  obtain ⟨o, s⟩ := y
  rw [ie (Q := S F b Q)]
  exact Iff.rfl
theorem ak5 {b : IR} {st : St} {Q : Pst} : S F b Q .norm st ↔ Q .norm st := by unfold S; rw [Pt (fun l s h => by cases h)]; exact ie
theorem ah7 {b : IR} {id : Nat} {st : St} {Q : Pst} : S F b Q (.exit id) st ↔ Q (.exit id) st := by unfold S; rw [Pt (fun l s h => by cases h)]; exact ie
theorem anh {b : IR} {st : St} {Q : Pst} : S F b Q .ret st ↔ Q .ret st := by unfold S; rw [Pt (fun l s h => by cases h)]; exact ie
theorem anc {b : IR} {v : VV} {st : St} {Q : Pst} : S F b Q (.pan v) st ↔ Q (.pan v) st := by unfold S; rw [Pt (fun l s h => by cases h)]; exact ie
theorem Pg {b : IR} {l : Nat} {st : St} {Q : Pst} (h : (oa b l).isSome = true) : S F b Q (.goto l) st ↔ XF F b l st (S F b Q) := by
 unfold S XF
 rw [alu h]
 cases hx : bt F b l st with
 | none =>
  constructor
  ·rintro ⟨o, st', h, _⟩
   obtain ⟨n, hn⟩ := Ya.mp h
   cases n <;> simp [br] at hn
  grind
 | some y =>
  grind
theorem By {a b : IR} {l : Nat} {st : St} {Q : Pst} (h : (oa a l).isSome = true) : XF F (.seq a b) l st Q ↔ XF F a l st (K F b Q) := by
 unfold XF
 simp only [bt]
 cases hf : oa a l with
 | none => grind
 | some y => exact Gk (g := fun st1 => dt F b st1)
theorem eh {a b : IR} {l : Nat} {st : St} {Q : Pst} (h : oa a l = none) : XF F (.seq a b) l st Q ↔ XF F b l st Q := by
 unfold XF
 simp only [bt, h]
theorem wh {l : Nat} {st : St} {Q : Pst} : XF F (.label l) l st Q ↔ Q .norm st := by
 unfold XF
 simp only [bt, beq_self_eq_true, if_true]
 exact ie
def jm : Ins -> Bool
 | .call _ _ _ | .callv _ _ _ | .inv _ _ _ | .panic _ => false
 | _ => true
theorem adh {st : St} {Q : Pst} : XO F [] st Q ↔ Q .norm st := by unfold XO; simp only [dp]; exact ie
theorem eu {c : bo} {st : St} {o : Op1} (hp : jm o.i = true) : du c st o = (match ak st.h (ae st.s) o.i with
    | some (v, h) => some (.norm, ⟨de st.s o.d v, h⟩)
    | none => none) := by
  obtain ⟨g, d, i⟩ := o
  cases i <;> first | rfl | (simp [jm] at hp)
theorem ue {d : Option Nat} {i : Ins} {r : List Op1} {s : List VV} {h : ah} {Q : Pst} {v : VV} {h' : ah} (hp : jm i = true) (hs : ak h (ae s) i = some (v, h')) :
  XO F (⟨none, d, i⟩ :: r) ⟨s, h⟩ Q ↔ XO F r ⟨de s d v, h'⟩ Q := by
 unfold XO
 simp only [dp, bk]
 rw [eu hp]
 grind
theorem Yr {g : Nat} {b : Bool} {d : Option Nat} {i : Ins} {r : List Op1} {s : List VV} {h : ah} {Q : Pst} {t : Bool} (ht : s.getD g .undef = .cv (.sc (.bool t))) :
  XO F (⟨some (g, b), d, i⟩ :: r) ⟨s, h⟩ Q ↔ (if t = b then XO F (⟨none, d, i⟩ :: r) ⟨s, h⟩ Q else XO F r ⟨de s d skp, h⟩ Q) := by
 have hg : s[g]? = some (.cv (.sc (.bool t))) := by
  grind
 unfold XO
 simp only [dp, bk, hg]
 by_cases htb : t = b
 ·subst htb
  simp only [beq_self_eq_true, if_true]
  exact Iff.rfl
 grind
theorem Ur {d : Option Nat} {f : Nat} {p : Bool} {args : List Opd} {r : List Op1} {s : List VV} {h : ah} {Q : Pst} {v : VV} {h' : ah}
  (hc : kj (call F) h f p (args.map (ae s)) = some (.ret v, h')) : XO F (⟨none, d, .call f p args⟩ :: r) ⟨s, h⟩ Q ↔ XO F r ⟨de s d v, h'⟩ Q := by
 unfold XO
 simp only [dp, bk, du, hc]
theorem qt {call : bo} {h : ah} {f : Nat} {p : Bool} {args : List VV} {x : Option (CRes × ah)} (hf : f < Ci) (hd : dx call h f p args = x) : kj call h f p args = x := by
 unfold kj; grind
theorem Oa {d : Option Nat} {p : Bool} {x : Opd} {args : List Opd} {r : List Op1} {s : List VV} {h : ah} {Q : Pst} {v : VV} {h' : ah} {f : Nat} {caps : List VV}
  (hx : ae s x = .func f caps) (hc : dx (call F) h f p (args.map (ae s) ++ caps) = some (.ret v, h')) (hf : f < YB := by decide) : XO F (⟨none, d, .callv p x args⟩ :: r) ⟨s, h⟩ Q ↔ XO F r ⟨de s d v, h'⟩ Q := by
 unfold XO
 simp only [dp, bk, du, hx, sq, if_pos hf, hc]
theorem tn {d : Option Nat} {tbl : List (Nat × Nat)} {x : Opd} {args : List Opd} {r : List Op1} {s : List VV} {h : ah} {Q : Pst} {v : VV} {h' : ah} {f t : Nat} {u : VV}
  (hx : ae s x = .iface t u) (hf : Rx tbl (.iface t u) = some (f, u)) (hc : call F f (u :: args.map (ae s)) h = some (.ret v, h')) (hk : XO F r ⟨de s d v, h'⟩ Q) : XO F (⟨none, d, .inv tbl x args⟩ :: r) ⟨s, h⟩ Q := by
 obtain ⟨o, st', h1, h2⟩ := hk
 refine ⟨o, st', ?_, h2⟩
 simp only [dp, bk, du, hx, hf, dx, Bool.false_eq_true, if_false, hc]
 exact h1
theorem Gp {d : Option Nat} {x : Opd} {args : List Opd} {r : List Op1} {s : List VV} {h : ah} {Q : Pst} {v : VV} {h' : ah} {id : Nat}
  (hx : ae s x = .yield id) (hc : call F (YB + id) (args.map (ae s)) h = some (.ret v, h')) (hk : XO F r ⟨de s d v, h'⟩ Q) : XO F (⟨none, d, .callv false x args⟩ :: r) ⟨s, h⟩ Q := by
 obtain ⟨o, st', h1, h2⟩ := hk
 refine ⟨o, st', ?_, h2⟩
 simp only [dp, bk, du, hx, sq, Bool.false_eq_true, if_false, dx, List.append_nil, hc]
 exact h1
def RB (id : Nat) (ps : List Nat) (asg body : IR) (s0 : List VV) (P : VV -> ah -> Prop) : Pst := fun out st2 =>
 ∃ j t p, agf out = some j /\ st2.h[id]? = some (.loop ps asg body s0 t p) /\ P (.cv (.sc (.bool j.isNone))) (st2.h.set id (.loop ps asg body s0 (if j.isNone then .ready else .done) j))
def RA (F : Nat -> Option FnIR) (id : Nat) (ps : List Nat) (asg body : IR) (s0 : List VV) (P : VV -> ah -> Prop) : Pst := fun o st1 =>
 o = .norm /\ ∃ p, st1.h[id]? = some (.loop ps asg body s0 .ready p) /\ X F body ⟨st1.s, st1.h.set id (.loop ps asg body s0 .busy p)⟩ (RB id ps asg body s0 P)
theorem Gy {id : Nat} (hF : F (YB + id) = none) {ps : List Nat} {asg body : IR} {s0 : List VV} {t0 : LoopState} {p0 : Option Jmp} {a : List VV} {h : ah} {P : VV -> ah -> Prop} (ho : h[id]? = some (.loop ps asg body s0 t0 p0)) (hl : a.length = ps.length)
  (hx : X F asg ⟨tl s0 ps a, h⟩ (RA F id ps asg body s0 P)) : ∃ v h', call F (YB + id) a h = some (.ret v, h') /\ P v h' := by
 obtain ⟨o, st1, h1, rfl, p1, h2, out, st2, h3, j, t, p, h4, h5, h6⟩ := hx
 refine ⟨_, _, Qy hF ?_, h6⟩
 unfold rt
 grind
theorem zk {x : Opd} {ps : List Nat} {asg body : IR} {s : List VV} {h : ah} {Q : Pst} {f : Nat} {caps : List VV} {v : VV} {h2 : ah} {t : LoopState} {p : Option Jmp} (hx : ae s x = .func f caps)
  (hc : call F f (.yield h.length :: caps) (h ++ [.loop ps asg body s .ready none]) = some (.ret v, h2)) (ho : h2[h.length]? = some (.loop ps asg body s t p)) (ht : t ≠ .busy)
  (hk : Q (Nb p) ⟨s, h2.set h.length (.loop ps asg body s .exhausted p)⟩) (hf : f < YB := by decide) : X F (.rangeF x ps asg body) ⟨s, h⟩ Q := by
 refine ⟨_, _, ?_, hk⟩
 simp only [dt]
 unfold nd
 grind
theorem aew {s : List VV} {i : Nat} {v d : VV} (h : i < s.length) : (s.set i v).getD i d = v := by
 grind
theorem di {s : List VV} {i j : Nat} {v d : VV} (h : i ≠ j) : (s.set i v).getD j d = s.getD j d := by
 grind
theorem ac {s : List VV} {i : Nat} {v : VV} : (s.set i v).length = s.length := List.length_set
theorem Nc {s : List VV} {n : Nat} : ae s (.t n) = s.getD n .undef := rfl
theorem afy {s : List VV} {v : VV} : ae s (.c v) = v := rfl
theorem oz {s : List VV} {n : Nat} {v : VV} : de s (some n) v = s.set n v := rfl
theorem Bw {s : List VV} {v : VV} : de s none v = s := rfl
def RQ (res : List ResV) (P : VV -> ah -> Prop) : Pst := fun o st => (match o with | .norm | .ret => True | _ => False) /\ ∃ vs, ke st res = some vs /\ P (ahk vs) st.h
theorem qh {f : Nat} {fn : FnIR} (hf : F f = some fn) {a : List VV} {h : ah} {P : VV -> ah -> Prop}
  (hx : X F fn.body ⟨a ++ List.replicate (fn.nt - a.length) .undef, h⟩ (RQ fn.res P)) (hn : Nat.ble a.length fn.nt = true := by rfl) : ∃ v h', call F f a h = some (.ret v, h') /\ P v h' := by
 obtain ⟨o, st, h1, h2, vs, h3, h4⟩ := hx
 refine ⟨ahk vs, st.h, ?_, h4⟩
 refine aeg hf ?_
 unfold xy
 grind
def Is (v : VV) (h : ah) (v' : VV) (h' : ah) : Prop := v' = v /\ h' = h
theorem Is.refl (v : VV) (h : ah) : Is v h v h := ⟨rfl, rfl⟩
theorem Wq {f : Nat} {fn : FnIR} (hf : F f = some fn) {a : List VV} {h : ah} {v : VV} {h' : ah}
  (hx : X F fn.body ⟨a ++ List.replicate (fn.nt - a.length) .undef, h⟩ (RQ fn.res (Is v h'))) (hn : Nat.ble a.length fn.nt = true := by rfl) : call F f a h = some (.ret v, h') := by
 obtain ⟨v1, h1, hc, e1, e2⟩ := qh hf hx hn
 grind
theorem ki {s : List VV} {n : Nat} (hn : n < s.length) : s[n]? = some (s.getD n .undef) := by
 grind
section
variable {P : VV -> ah -> Prop} {s : List VV} {h : ah} {n m k : Nat}
theorem aoo : RQ [] P .ret ⟨s, h⟩ ↔ P (.tup []) h := by
 constructor
 ·rintro ⟨_, vs, h1, h2⟩; cases h1; exact h2
 ·exact fun h1 => ⟨trivial, _, rfl, h1⟩
theorem am1 : RQ [] P .norm ⟨s, h⟩ ↔ P (.tup []) h := by
 constructor
 ·rintro ⟨_, vs, h1, h2⟩; cases h1; exact h2
 ·exact fun h1 => ⟨trivial, _, rfl, h1⟩
theorem aoj (hn : n < s.length) : RQ [.t n] P .ret ⟨s, h⟩ ↔ P (s.getD n .undef) h := by
 have hr : ke ⟨s, h⟩ [.t n] = some [s.getD n .undef] := by simp only [ke, yc, ki hn]
 constructor
 ·rintro ⟨_, vs, h1, h2⟩; rw [hr] at h1; cases h1; exact h2
 ·exact fun h1 => ⟨trivial, _, hr, h1⟩
theorem aov (hn : n < s.length) (hm : m < s.length) : RQ [.t n, .t m] P .ret ⟨s, h⟩ ↔ P (.tup [s.getD n .undef, s.getD m .undef]) h := by
 have hr : ke ⟨s, h⟩ [.t n, .t m] = some [s.getD n .undef, s.getD m .undef] := by simp only [ke, yc, ki hn, ki hm]
 constructor
 ·rintro ⟨_, vs, h1, h2⟩; rw [hr] at h1; cases h1; exact h2
 ·exact fun h1 => ⟨trivial, _, hr, h1⟩
theorem aow (hn : n < s.length) (hm : m < s.length) (hk : k < s.length) : RQ [.t n, .t m, .t k] P .ret ⟨s, h⟩ ↔ P (.tup [s.getD n .undef, s.getD m .undef, s.getD k .undef]) h := by
 have hr : ke ⟨s, h⟩ [.t n, .t m, .t k] = some [s.getD n .undef, s.getD m .undef, s.getD k .undef] := by simp only [ke, yc, ki hn, ki hm, ki hk]
 constructor
 ·rintro ⟨_, vs, h1, h2⟩; rw [hr] at h1; cases h1; exact h2
 ·exact fun h1 => ⟨trivial, _, hr, h1⟩
end
def XV (F : Nat -> Option FnIR) (x : Option (VV × ah)) (d : Option Nat) (r : List Op1) (s : List VV) (Q : Pst) : Prop := ∃ v h, x = some (v, h) /\ XO F r ⟨de s d v, h⟩ Q
theorem lc {v : VV} {h : ah} {d : Option Nat} {r : List Op1} {s : List VV} {Q : Pst} : XV F (some (v, h)) d r s Q ↔ XO F r ⟨de s d v, h⟩ Q := by
 constructor
 ·rintro ⟨_, _, he, hk⟩; grind
 ·exact fun hk => ⟨v, h, rfl, hk⟩
def XW (F : Nat -> Option FnIR) (x : Option VV) (h : ah) (d : Option Nat) (r : List Op1) (s : List VV) (Q : Pst) : Prop := ∃ v, x = some v /\ XO F r ⟨de s d v, h⟩ Q
theorem Wy {v : VV} {h : ah} {d : Option Nat} {r : List Op1} {s : List VV} {Q : Pst} : XW F (some v) h d r s Q ↔ XO F r ⟨de s d v, h⟩ Q := by
 constructor
 ·rintro ⟨_, he, hk⟩; grind
 ·exact fun hk => ⟨v, rfl, hk⟩
def XB (F : Nat -> Option FnIR) (v : VV) (a b : IR) (st : St) (Q : Pst) : Prop := ∃ t, v = .cv (.sc (.bool t)) /\ (if t then X F a st Q else X F b st Q)
theorem Tn {a b : IR} {st : St} {Q : Pst} : XB F (.cv (.sc (.bool true))) a b st Q ↔ X F a st Q := by
 constructor
 ·rintro ⟨_, he, hk⟩; cases he; exact hk
 ·exact fun hk => ⟨true, rfl, hk⟩
theorem Po {a b : IR} {st : St} {Q : Pst} : XB F (.cv (.sc (.bool false))) a b st Q ↔ X F b st Q := by
 constructor
 ·rintro ⟨_, he, hk⟩; cases he; simpa using hk
 ·exact fun hk => ⟨false, rfl, hk⟩
theorem Od {p : Prop} [Decidable p] {a b : IR} {st : St} {Q : Pst} (hp : p -> X F a st Q) (hq : ¬p -> X F b st Q) : XB F (.cv (.sc (.bool (decide p)))) a b st Q := by
 by_cases h : p
 ·simp only [h, decide_true]; exact Tn.mpr (hp h)
 ·simp only [h, decide_false]; exact Po.mpr (hq h)
theorem ank {c : Opd} {a b : IR} {s : List VV} {h : ah} {Q : Pst} : X F (.cond c a b) ⟨s, h⟩ Q ↔ XB F (ae s c) a b ⟨s, h⟩ Q := by
 unfold X XB
 simp only [dt]
 constructor
 ·rintro ⟨o, st', he, hq⟩
  cases hv : ae s c with
  | cv w =>
   cases w with
   | sc u =>
    cases u with
    | bool t =>
     rw [hv] at he
     refine ⟨t, rfl, ?_⟩
     cases t
     ·exact ⟨o, st', he, hq⟩
     ·exact ⟨o, st', he, hq⟩
    | _ => grind
   | sl _ _ _ => grind
  | _ => grind
 ·rintro ⟨t, ht, hk⟩
  rw [ht]
  cases t
  ·exact hk
  ·exact hk
theorem ii {d : Option Nat} {i : Ins} {r : List Op1} {s : List VV} {h : ah} {Q : Pst} (hp : jm i = true) :
  XO F (⟨none, d, i⟩ :: r) ⟨s, h⟩ Q ↔ XV F (ak h (ae s) i) d r s Q := by
 unfold XO XV
 simp only [dp, bk]
 rw [eu hp]
 simp only
 cases hs : ak h (ae s) i with
 | none =>
  grind
 | some y =>
  obtain ⟨v, h'⟩ := y
  constructor
  ·exact fun he => ⟨v, h', rfl, he⟩
  ·rintro ⟨_, _, he, hk⟩; cases he; exact hk
def XG (F : Nat -> Option FnIR) (v : VV) (b : Bool) (d : Option Nat) (i : Ins) (r : List Op1) (s : List VV) (h : ah) (Q : Pst) : Prop := match v with
 | .cv (.sc (.bool t)) => if t = b then XO F (⟨none, d, i⟩ :: r) ⟨s, h⟩ Q else XO F r ⟨de s d skp, h⟩ Q
 | .tup [] => XO F r ⟨de s d skp, h⟩ Q
 | _ => False
section
variable {b : Bool} {d : Option Nat} {i : Ins} {r : List Op1} {s : List VV} {h : ah} {Q : Pst}
theorem ans : XG F (.cv (.sc (.bool true))) true d i r s h Q ↔ XO F (⟨none, d, i⟩ :: r) ⟨s, h⟩ Q := by simp [XG]
theorem ana : XG F (.cv (.sc (.bool false))) false d i r s h Q ↔ XO F (⟨none, d, i⟩ :: r) ⟨s, h⟩ Q := by simp [XG]
theorem amr : XG F (.cv (.sc (.bool true))) false d i r s h Q ↔ XO F r ⟨de s d skp, h⟩ Q := by simp [XG]
theorem an1 : XG F (.cv (.sc (.bool false))) true d i r s h Q ↔ XO F r ⟨de s d skp, h⟩ Q := by simp [XG]
theorem aoe : XG F (.tup []) b d i r s h Q ↔ XO F r ⟨de s d skp, h⟩ Q := Iff.rfl
theorem aoc {g : Nat} : XO F (⟨some (g, b), d, i⟩ :: r) ⟨s, h⟩ Q ↔ XG F (s.getD g .undef) b d i r s h Q := by
 have e : s.getD g .undef = (s[g]?).getD .undef := List.getD_eq_getElem?_getD
 cases hg : s[g]? with
 | none =>
  rw [e, hg]
  unfold XO; simp only [dp, bk, hg, Option.getD_none, XG]; exact Ak
 | some w =>
  cases w with
  | cv c => cases c with
   | sc u => cases u with
    | bool t => rw [Yr (show s.getD g .undef = .cv (.sc (.bool t)) by grind), e, hg]; exact Iff.rfl
    | _ => (rw [e, hg]; unfold XO; simp only [dp, bk, hg, Option.getD_some, XG]; exact Ak)
   | sl _ _ _ => (rw [e, hg]; unfold XO; simp only [dp, bk, hg, Option.getD_some, XG]; exact Ak)
  | tup l => cases l with
   | nil => rw [e, hg]; unfold XO; simp only [dp, bk, hg, Option.getD_some, XG]; exact Iff.rfl
   | cons _ _ => rw [e, hg]; unfold XO; simp only [dp, bk, hg, Option.getD_some, XG]; exact Ak
  | _ => (rw [e, hg]; unfold XO; simp only [dp, bk, hg, Option.getD_some, XG]; exact Ak)
end
theorem amy {d : Nat} {x : Opd} {r : List Op1} {s : List VV} {h : ah} {Q : Pst} : XO F (⟨none, some d, .mv x⟩ :: r) ⟨s, h⟩ Q ↔ XO F r ⟨s.set d (ae s x), h⟩ Q :=
 ue rfl rfl
theorem bg {ir ir' : IR} (h : ir = ir') {st : St} {Q : Pst} : X F ir st Q ↔ X F ir' st Q := by rw [h]
theorem Yg {ir ir' : IR} (h : ir = ir') {l : Nat} {st : St} {Q : Pst} : XF F ir l st Q ↔ XF F ir' l st Q := by rw [h]
end
def tf : List (Op1 × Cl) -> Bool
 | [] => true
 | (_, .r lo hi) :: r => lo == hi && tf r
 | _ :: r => tf r
def isk : Cl -> Bool
 | .k => true
 | _ => false
def XD (F : Nat -> Option FnIR) : List (Op1 × Cl) -> St -> Pst -> Prop
 | [], st, Q => Q .norm st
 | (o, c) :: r, st, Q => match bk st.s o.g with
  | some true => ∃ st1, du (call F) st o = some (.norm, st1) /\ (isk c = false -> st1.h = st.h) /\ XD F r st1 Q
  | some false => XD F r ⟨de st.s o.d skp, st.h⟩ Q
  | none => False
theorem Jw {F : Nat -> Option FnIR} : ∀ (ops : List (Op1 × Cl)) (hs : List ah) (ck : Cks) (st : St) (Q : Pst), tf ops = true -> XD F ops st Q -> (∀ x ∈ ck, ∀ h, x.2.2 h) ->
  ∃ st1 hs1 ck1, bz (call F) ops hs ck st = some (st1, hs1, ck1) /\ (∀ x ∈ ck1, ∀ h, x.2.2 h) /\ Q .norm st1
 | [], hs, ck, st, Q, _, hx, hc => ⟨st, hs, ck, rfl, hc, hx⟩
 | (o, c) :: r, hs, ck, st, Q, ha, hx, hc => by
  have har : tf r = true := by
   cases c with
   | p => exact ha
   | k => exact ha
   | r lo hi => simp only [tf, Bool.and_eq_true] at ha; exact ha.2
  simp only [XD] at hx
  simp only [bz]
  cases hw : bk st.s o.g with
  | none => grind
  | some b =>
   rw [hw] at hx
   cases b with
   | false => exact Jw r _ ck _ Q har hx hc
   | true =>
    obtain ⟨st1, h1, h2, h3⟩ := hx
    simp only [h1]
    cases c with
    | p =>
     have e : (⟨st1.s, st.h⟩ : St) = st1 := by rw [<- h2 rfl]
     simp only [e]
     exact Jw r _ ck _ Q har h3 hc
    | k => exact Jw r _ ck _ Q har h3 hc
    | r lo hi =>
     have e : (⟨st1.s, st.h⟩ : St) = st1 := by rw [<- h2 rfl]
     have hlh : lo = hi := by
      simp only [tf, Bool.and_eq_true, beq_iff_eq] at ha
      exact ha.1
     simp only [e, if_pos hlh]
     refine Jw r _ _ _ Q har h3 ?_
     intro x hx
     grind
theorem kh {F : Nat -> Option FnIR} {ops : List (Op1 × Cl)} {st : St} {Q : Pst} (ha : tf ops = true) (hx : XD F ops st Q) : X F (.draw ops) st Q := by
 obtain ⟨st1, hs1, ck1, h1, h2, h3⟩ := Jw ops [st.h] [] st Q ha hx (fun x hx => by cases hx)
 refine ⟨.norm, st1, ?_, h3⟩
 simp only [dt, jd, h1]
 rw [if_pos]
 exact fun x hx b _ _ h _ => h2 x hx h
section
variable {F : Nat -> Option FnIR} {d : Option Nat} {c : Cl} {q : List (Op1 × Cl)} {s : List VV} {h : ah} {Q : Pst}
theorem adk {st : St} : XD F [] st Q ↔ Q .norm st := Iff.rfl
def XVD (F : Nat -> Option FnIR) (x : Option (VV × ah)) (c : Cl) (h : ah) (d : Option Nat) (q : List (Op1 × Cl)) (s : List VV) (Q : Pst) : Prop :=
 ∃ v h', x = some (v, h') /\ (isk c = false -> h' = h) /\ XD F q ⟨de s d v, h'⟩ Q
theorem Gt {v : VV} : XVD F (some (v, h)) c h d q s Q ↔ XD F q ⟨de s d v, h⟩ Q := by
 constructor
 ·rintro ⟨_, _, he, _, hk⟩; cases he; exact hk
 ·exact fun hk => ⟨v, h, rfl, fun _ => rfl, hk⟩
theorem Rm {v : VV} {h' : ah} : XVD F (some (v, h')) .k h d q s Q ↔ XD F q ⟨de s d v, h'⟩ Q := by
 constructor
 ·rintro ⟨_, _, he, _, hk⟩; cases he; exact hk
 ·exact fun hk => ⟨v, h', rfl, (fun e => by cases e), hk⟩
def XWD (F : Nat -> Option FnIR) (x : Option VV) (h : ah) (d : Option Nat) (q : List (Op1 × Cl)) (s : List VV) (Q : Pst) : Prop := ∃ v, x = some v /\ XD F q ⟨de s d v, h⟩ Q
theorem za {v : VV} : XWD F (some v) h d q s Q ↔ XD F q ⟨de s d v, h⟩ Q := by
 constructor
 ·rintro ⟨_, he, hk⟩; cases he; exact hk
 ·exact fun hk => ⟨v, rfl, hk⟩
theorem mi {i : Ins} (hp : jm i = true) : XD F ((⟨none, d, i⟩, c) :: q) ⟨s, h⟩ Q ↔ XVD F (ak h (ae s) i) c h d q s Q := by
 simp only [XD, bk]
 unfold XVD
 rw [eu hp]
 grind
theorem js {i : Ins} {u : Option VV} (hp : jm i = true) (hs : ak h (ae s) i = u.map (·, h)) : XD F ((⟨none, d, i⟩, c) :: q) ⟨s, h⟩ Q ↔ XWD F u h d q s Q := by
 rw [mi hp, hs]
 cases u with
 | none =>
  constructor
  ·rintro ⟨_, _, he, _⟩; cases he
  ·rintro ⟨_, he, _⟩; cases he
 | some v => exact Gt.trans za.symm
def XGD (F : Nat -> Option FnIR) (v : VV) (b : Bool) (d : Option Nat) (i : Ins) (c : Cl) (q : List (Op1 × Cl)) (s : List VV) (h : ah) (Q : Pst) : Prop := match v with
 | .cv (.sc (.bool t)) => if t = b then XD F ((⟨none, d, i⟩, c) :: q) ⟨s, h⟩ Q else XD F q ⟨de s d skp, h⟩ Q
 | .tup [] => XD F q ⟨de s d skp, h⟩ Q
 | _ => False
theorem alz {i : Ins} : XGD F (.cv (.sc (.bool true))) true d i c q s h Q ↔ XD F ((⟨none, d, i⟩, c) :: q) ⟨s, h⟩ Q := by simp [XGD]
theorem ak4 {i : Ins} : XGD F (.cv (.sc (.bool false))) false d i c q s h Q ↔ XD F ((⟨none, d, i⟩, c) :: q) ⟨s, h⟩ Q := by simp [XGD]
theorem ajh {i : Ins} : XGD F (.cv (.sc (.bool true))) false d i c q s h Q ↔ XD F q ⟨de s d skp, h⟩ Q := by simp [XGD]
theorem alv {i : Ins} : XGD F (.cv (.sc (.bool false))) true d i c q s h Q ↔ XD F q ⟨de s d skp, h⟩ Q := by simp [XGD]
theorem amv {b : Bool} {i : Ins} : XGD F (.tup []) b d i c q s h Q ↔ XD F q ⟨de s d skp, h⟩ Q := Iff.rfl
theorem ao1 {g : Nat} {b : Bool} {i : Ins} : XD F ((⟨some (g, b), d, i⟩, c) :: q) ⟨s, h⟩ Q ↔ XGD F (s.getD g .undef) b d i c q s h Q := by
 have e : s.getD g .undef = (s[g]?).getD .undef := List.getD_eq_getElem?_getD
 rw [e]
 cases hg : s[g]? with
 | none => simp only [XD, bk, hg, Option.getD_none, XGD]
 | some w =>
  cases w with
  | cv c => cases c with
   | sc u => cases u with
    | bool t =>
     by_cases htb : t = b
     ·subst htb
      simp only [XD, bk, hg, Option.getD_some, XGD, beq_self_eq_true, if_true]
      exact Iff.rfl
     ·have e : (t == b) = false := by grind
      simp only [XD, bk, hg, Option.getD_some, XGD, e, if_neg htb]
    | _ => simp only [XD, bk, hg, Option.getD_some, XGD]
   | sl _ _ _ => simp only [XD, bk, hg, Option.getD_some, XGD]
  | tup l => cases l with
   | nil => simp only [XD, bk, hg, Option.getD_some, XGD]
   | cons _ _ => simp only [XD, bk, hg, Option.getD_some, XGD]
  | _ => simp only [XD, bk, hg, Option.getD_some, XGD]
theorem am6 {d : Nat} {x : Opd} : XD F ((⟨none, some d, .mv x⟩, c) :: q) ⟨s, h⟩ Q ↔ XD F q ⟨s.set d (ae s x), h⟩ Q :=
 (js (u := some (ae s x)) rfl rfl).trans za
theorem Wf {f : Nat} {p : Bool} {args : List Opd} {v : VV} (hc : kj (call F) h f p (args.map (ae s)) = some (.ret v, h)) (hk : XD F q ⟨de s d v, h⟩ Q) :
  XD F ((⟨none, d, .call f p args⟩, c) :: q) ⟨s, h⟩ Q := by
 simp only [XD, bk]
 exact ⟨⟨de s d v, h⟩, by simp only [du, hc], fun _ => rfl, hk⟩
theorem Ok {f : Nat} {p : Bool} {args : List Opd} {v : VV} {h' : ah} (hc : kj (call F) h f p (args.map (ae s)) = some (.ret v, h')) (hk : XD F q ⟨de s d v, h'⟩ Q) :
  XD F ((⟨none, d, .call f p args⟩, .k) :: q) ⟨s, h⟩ Q := by
 simp only [XD, bk]
 exact ⟨⟨de s d v, h'⟩, by simp only [du, hc], (fun e => by cases e), hk⟩
end
theorem acy {F : Nat -> Option FnIR} {d : Option Nat} {tbl : List (Nat × Nat)} {x : Opd} {args : List Opd} {q : List (Op1 × Cl)} {s : List VV} {h : ah} {Q : Pst} {v : VV} {h' : ah} {f t : Nat} {u : VV}
  (hx : ae s x = .iface t u) (hf : Rx tbl (.iface t u) = some (f, u)) (hc : call F f (u :: args.map (ae s)) h = some (.ret v, h')) (hk : XD F q ⟨de s d v, h'⟩ Q) : XD F ((⟨none, d, .inv tbl x args⟩, .k) :: q) ⟨s, h⟩ Q := by
 simp only [XD, bk]
 exact ⟨⟨de s d v, h'⟩, by simp only [du, hx, hf, dx, Bool.false_eq_true, if_false, hc], (fun e => by cases e), hk⟩
abbrev vi (k : IntKind) (n : Int) : VV := .cv (.sc (.int k n))
abbrev vb (t : Bool) : VV := .cv (.sc (.bool t))
abbrev vs (t : ByteArray) : VV := .cv (.sc (.string t))
abbrev bq : VV := .cv (.sc (.slice none 0 0))
def ls (op : BinOp) : VV -> VV -> Option VV
 | .cv (.sc a), .cv (.sc b) => (tm op a b).map fun v => .cv (.sc v)
 | _, _ => none
section
variable {F : Nat -> Option FnIR} {d : Option Nat} {x y z : Opd} {r : List Op1} {c : Cl} {q : List (Op1 × Cl)} {s : List VV} {h : ah} {Q : Pst}
theorem qc {i : Ins} {u : Option VV} (hp : jm i = true) (hs : ak h (ae s) i = u.map (·, h)) : XO F (⟨none, d, i⟩ :: r) ⟨s, h⟩ Q ↔ XW F u h d r s Q := by
 rw [ii hp, hs]
 cases u with
 | none =>
  constructor
  ·rintro ⟨_, _, he, _⟩; cases he
  ·rintro ⟨_, he, _⟩; cases he
 | some v => exact lc.trans Wy.symm
theorem Hs {op : BinOp} : ak h (ae s) (.bin op x y) = (ls op (ae s x) (ae s y)).map (·, h) := by
 simp only [ak]
 generalize ae s x = a
 generalize ae s y = b
 cases a with
 | cv c => cases c with
  | sc u =>
   cases b with
   | cv c' => cases c' with
    | sc u' => simp only [ls]; cases tm op u u' <;> rfl
    | sl _ _ _ => rfl
   | _ => rfl
  | sl _ _ _ => rfl
 | _ => rfl
def cvO (k : IntKind) : VV -> Option VV
 | .cv (.sc (.int _ n)) => some (vi k (k.wrap n))
 | _ => none
theorem ajp {k k' : IntKind} {n : Int} : cvO k (vi k' n) = some (vi k (k.wrap n)) := rfl
theorem Ea {k : IntKind} : ak h (ae s) (.cvI k x) = (cvO k (ae s x)).map (·, h) := by
 simp only [ak]
 generalize ae s x = v
 cases v with
 | cv c => cases c with
  | sc u => cases u <;> rfl
  | sl _ _ _ => rfl
 | _ => rfl
def pkO (c a b : VV) : Option VV := match c with
 | .cv (.sc (.bool t)) => some (if t then a else b)
 | _ => none
theorem aml {a b : VV} : pkO (vb true) a b = some a := rfl
theorem anl {a b : VV} : pkO (vb false) a b = some b := rfl
theorem Kq : ak h (ae s) (.pick x y z) = (pkO (ae s x) (ae s y) (ae s z)).map (·, h) := by
 simp only [ak]
 generalize ae s x = v
 cases v with
 | cv c => cases c with
  | sc u => cases u <;> rfl
  | sl _ _ _ => rfl
 | _ => rfl
def exO (v : VV) (i : Nat) : Option VV := match v with
 | .tup vs => vs[i]?
 | _ => none
theorem ai9 {l : List VV} {i : Nat} : exO (.tup l) i = l[i]? := rfl
theorem Su {i : Nat} : ak h (ae s) (.ext x i) = (exO (ae s x) i).map (·, h) := by
 simp only [ak]
 generalize ae s x = v
 cases v with
 | tup vs => simp only [exO]; grind
 | _ => rfl
def lnO (str : Bool) (v : VV) : Option VV := (if str then Ul v else ly v).map fun n => vi .i64 n
theorem Pv {str : Bool} : ak h (ae s) (.len str x) = (lnO str (ae s x)).map (·, h) := by
 simp only [ak, lnO]
 grind
def mmO (m : Bool) : VV -> VV -> Option VV
 | .cv (.sc (.int k a)), .cv (.sc (.int _ b)) => some (vi k (if m then min a b else max a b))
 | _, _ => none
theorem agl {k : IntKind} {a b : Int} : mmO true (vi k a) (vi k b) = some (vi k (min a b)) := rfl
theorem afq {k : IntKind} {a b : Int} : mmO false (vi k a) (vi k b) = some (vi k (max a b)) := rfl
theorem Vl {m : Bool} : ak h (ae s) (.mnmx m [x, y]) = (mmO m (ae s x) (ae s y)).map (·, h) := by
 simp only [ak, List.map]
 generalize ae s x = v
 generalize ae s y = w
 cases v with
 | cv c => cases c with
  | sc u =>
   cases w with
   | cv c' => cases c' with
    | sc u' =>
     cases u <;> cases u' <;> simp only [Qq, Zv, mmO, Option.map_none, Option.map_some]
     grind
    | sl _ _ _ => cases u <;> rfl
   | _ => cases u <;> rfl
  | sl _ _ _ => rfl
 | _ => rfl
theorem ajw {op : BinOp} : XO F (⟨none, d, .bin op x y⟩ :: r) ⟨s, h⟩ Q ↔ XW F (ls op (ae s x) (ae s y)) h d r s Q := qc rfl Hs
theorem alp {op : BinOp} : XD F ((⟨none, d, .bin op x y⟩, c) :: q) ⟨s, h⟩ Q ↔ XWD F (ls op (ae s x) (ae s y)) h d q s Q := js rfl Hs
theorem ain {k : IntKind} : XO F (⟨none, d, .cvI k x⟩ :: r) ⟨s, h⟩ Q ↔ XW F (cvO k (ae s x)) h d r s Q := qc rfl Ea
theorem ahy {k : IntKind} : XD F ((⟨none, d, .cvI k x⟩, c) :: q) ⟨s, h⟩ Q ↔ XWD F (cvO k (ae s x)) h d q s Q := js rfl Ea
theorem afc : XO F (⟨none, d, .pick x y z⟩ :: r) ⟨s, h⟩ Q ↔ XW F (pkO (ae s x) (ae s y) (ae s z)) h d r s Q := qc rfl Kq
theorem adz : XD F ((⟨none, d, .pick x y z⟩, c) :: q) ⟨s, h⟩ Q ↔ XWD F (pkO (ae s x) (ae s y) (ae s z)) h d q s Q := js rfl Kq
theorem ak9 {i : Nat} : XO F (⟨none, d, .ext x i⟩ :: r) ⟨s, h⟩ Q ↔ XW F (exO (ae s x) i) h d r s Q := qc rfl Su
theorem aja {i : Nat} : XD F ((⟨none, d, .ext x i⟩, c) :: q) ⟨s, h⟩ Q ↔ XWD F (exO (ae s x) i) h d q s Q := js rfl Su
theorem akf {str : Bool} : XO F (⟨none, d, .len str x⟩ :: r) ⟨s, h⟩ Q ↔ XW F (lnO str (ae s x)) h d r s Q := qc rfl Pv
theorem aia {str : Bool} : XD F ((⟨none, d, .len str x⟩, c) :: q) ⟨s, h⟩ Q ↔ XWD F (lnO str (ae s x)) h d q s Q := js rfl Pv
theorem aev {m : Bool} : XO F (⟨none, d, .mnmx m [x, y]⟩ :: r) ⟨s, h⟩ Q ↔ XW F (mmO m (ae s x) (ae s y)) h d r s Q := qc rfl Vl
theorem afx {m : Bool} : XD F ((⟨none, d, .mnmx m [x, y]⟩, c) :: q) ⟨s, h⟩ Q ↔ XWD F (mmO m (ae s x) (ae s y)) h d q s Q := js rfl Vl
end
end Go.Vm
/-
 Vm: what steps do to values, for simp (own work).
-/
namespace Go.Vm
open Go
abbrev txt (l : List UInt8) : VV := .cv (.sc (.string ⟨l.toArray⟩))
section
variable {k k' : IntKind} {a b : Int} {s t : List UInt8}
theorem agn : ls .add (vi k a) (vi k b) = some (vi k (k.wrap (a + b))) := by simp [ls, tm]
theorem ahp : ls .sub (vi k a) (vi k b) = some (vi k (k.wrap (a - b))) := by simp [ls, tm]
theorem ahf : ls .mul (vi k a) (vi k b) = some (vi k (k.wrap (a * b))) := by simp [ls, tm]
theorem Gj (h : b ≠ 0) : ls .quo (vi k a) (vi k b) = some (vi k (k.wrap (a.tdiv b))) := by simp [ls, tm, h]
theorem Gb (h : b ≠ 0) : ls .rem (vi k a) (vi k b) = some (vi k (a.tmod b)) := by simp [ls, tm, h]
theorem aes : ls .and (vi k a) (vi k b) = some (vi k (bits .and k a b)) := by simp [ls, tm, bits]
theorem ajv : ls .or (vi k a) (vi k b) = some (vi k (bits .or k a b)) := by simp [ls, tm, bits]
theorem Tj : ls .xor (vi k a) (vi k b) = some (vi k (bits .xor k a b)) := by simp [ls, tm, bits]
theorem Ai (h : ¬ b < 0) : ls .shl (vi k a) (vi k' b) = some (vi k (k.wrap (a * 2 ^ (min b.toNat k.bits)))) := by simp [ls, tm, h]
theorem ny (h : ¬ b < 0) : ls .shr (vi k a) (vi k' b) = some (vi k (a.fdiv (2 ^ (min b.toNat k.bits)))) := by simp [ls, tm, h]
theorem adw : ls .eql (vi k a) (vi k b) = some (vb (decide (a = b))) := by simp [ls, tm]; rfl
theorem agw : ls .neq (vi k a) (vi k b) = some (vb (decide (a ≠ b))) := by simp [ls, tm, bne]; rfl
theorem ag6 : ls .lss (vi k a) (vi k b) = some (vb (decide (a < b))) := by simp [ls, tm]
theorem ahd : ls .leq (vi k a) (vi k b) = some (vb (decide (a <= b))) := by simp [ls, tm]
theorem agp : ls .gtr (vi k a) (vi k b) = some (vb (decide (b < a))) := by simp [ls, tm]
theorem agu : ls .geq (vi k a) (vi k b) = some (vb (decide (b <= a))) := by simp [ls, tm]
theorem abh : ls .eql (txt s) (txt t) = some (vb (decide (s = t))) := by
 simp only [ls, tm, Option.map_some, Option.some.injEq, VV.cv.injEq, CV.sc.injEq, Value.bool.injEq]
 grind
theorem Yt : ls .neq (txt s) (txt t) = some (vb (decide (s ≠ t))) := by
 simp only [ls, tm, Option.map_some, Option.some.injEq, VV.cv.injEq, CV.sc.injEq, Value.bool.injEq]
 grind
end
theorem akl : lnO false bq = some (vi .i64 0) := rfl
theorem ant {z : Nat} {els : List (List CV)} {ex : Bool} : lnO false (.cv (.sl z els ex)) = some (vi .i64 els.length) := rfl
theorem aiy {id g off len : Nat} {ex : Bool} : lnO false (.own id g off len ex) = some (vi .i64 len) := rfl
theorem ah5 {l : List UInt8} : lnO true (txt l) = some (vi .i64 l.length) := rfl
section
variable {F : Nat -> Option FnIR} {d : Option Nat} {x y z : Opd} {r : List Op1} {c : Cl} {q : List (Op1 × Cl)} {s : List VV} {h : ah} {Q : Pst}
def mkO (h : ah) (z len : Nat) (zero : List VV) (parts : List (Nat × Nat × VV)) : Option (VV × ah) :=
 match fill zero parts with
 | some cs => match qb h cs with
  | some (cc, h1) => some (.cv (.sl z (na z len cc) true), h1)
  | none => none
 | none => none
def jh (s : List VV) : List (Nat × Nat × Opd) -> List (Nat × Nat × VV)
 | [] => []
 | (a, b, x) :: r => (a, b, ae s x) :: jh s r
theorem Lt {s : List VV} : jh s [] = [] := rfl
theorem Jb {s : List VV} {a b : Nat} {x : Opd} {r : List (Nat × Nat × Opd)} : jh s ((a, b, x) :: r) = (a, b, ae s x) :: jh s r := rfl
theorem sk (s : List VV) : ∀ l : List (Nat × Nat × Opd), l.map (fun p => (p.1, p.2.1, ae s p.2.2)) = jh s l
 | [] => rfl
 | (a, b, x) :: r => by simp only [List.map, jh, sk s r]
theorem Ge {z len : Nat} {zero : List VV} {parts : List (Nat × Nat × Opd)} : ak h (ae s) (.mksl z len zero parts false) = mkO h z len zero (jh s parts) := by
 simp only [ak, mkO, sk, Bool.false_eq_true, if_false]
 grind
theorem agr {z len : Nat} {zero : List VV} {parts : List (Nat × Nat × Opd)} : XO F (⟨none, d, .mksl z len zero parts false⟩ :: r) ⟨s, h⟩ Q ↔ XV F (mkO h z len zero (jh s parts)) d r s Q := by
 rw [ii rfl, Ge]
theorem afk {z len : Nat} {zero : List VV} {parts : List (Nat × Nat × Opd)} : XD F ((⟨none, d, .mksl z len zero parts false⟩, c) :: q) ⟨s, h⟩ Q ↔ XVD F (mkO h z len zero (jh s parts)) c h d q s Q := by
 rw [mi rfl, Ge]
def bdO (zero : List VV) (parts : List (Nat × Nat × VV)) : Option VV := (fill zero parts).map .agg
theorem Hn {zero : List VV} {parts : List (Nat × Nat × Opd)} : ak h (ae s) (.build zero parts) = (bdO zero (jh s parts)).map (·, h) := by
 simp only [ak, bdO, sk]
 grind
theorem aas {zero : List VV} {parts : List (Nat × Nat × Opd)} : XO F (⟨none, d, .build zero parts⟩ :: r) ⟨s, h⟩ Q ↔ XW F (bdO zero (jh s parts)) h d r s Q := qc rfl Hn
theorem Nn {zero : List VV} {parts : List (Nat × Nat × Opd)} : XD F ((⟨none, d, .build zero parts⟩, c) :: q) ⟨s, h⟩ Q ↔ XWD F (bdO zero (jh s parts)) h d q s Q := js rfl Hn
theorem ajr {z0 c : CV} : mkO h 1 1 [.cv z0] [(0, 1, .cv c)] = some (.cv (.sl 1 [[c]] true), h) := by
 simp [mkO, fill, cellsOf, am, qb, clos, na, List.range, List.range.loop]
theorem ami {z0 z1 c c1 : CV} : mkO h 1 2 [.cv z0, .cv z1] [(0, 1, .cv c), (1, 1, .cv c1)] = some (.cv (.sl 1 [[c], [c1]] true), h) := by
 simp [mkO, fill, cellsOf, am, qb, clos, na, List.range, List.range.loop]
end
section
variable {F : Nat -> Option FnIR} {d : Option Nat} {x y z : Opd} {r : List Op1} {c : Cl} {q : List (Op1 × Cl)} {s : List VV} {h : ah} {Q : Pst}
def mj (v w u : VV) : Opd -> VV
 | .t 0 => v
 | .t 1 => w
 | .t _ => u
 | .c c => c
def iaO (h : ah) (z : Nat) (v w : VV) : Option (VV × ah) := ak h (mj v w .undef) (.iadL z (.t 0) (.t 1))
theorem agy {z : Nat} : XO F (⟨none, d, .iadL z x y⟩ :: r) ⟨s, h⟩ Q ↔ XV F (iaO h z (ae s x) (ae s y)) d r s Q := ii rfl
theorem ahr {z : Nat} : XD F ((⟨none, d, .iadL z x y⟩, c) :: q) ⟨s, h⟩ Q ↔ XVD F (iaO h z (ae s x) (ae s y)) c h d q s Q := mi rfl
theorem anj {z : Nat} {els : List (List CV)} {ex : Bool} {k : IntKind} {j : Int} {e : List CV} (h0 : 0 <= j) (he : els[j.toNat]? = some e) : iaO h z (.cv (.sl z els ex)) (vi k j) = some (.rptr e, h) := by
 simp [iaO, ak, mj, pj, h0, he]
theorem yh {z id g off len : Nat} {els : List (List CV)} {fr ex : Bool} {k : IntKind} {j : Int} (h0 : 0 <= j) (ho : h[id]? = some (.arr z els g fr)) (hl : j.toNat < len) :
  iaO h z (.own id g off len ex) (vi k j) = some (.eptr id g (off + j.toNat) 0, h) := by
 simp [iaO, ak, mj, pj, h0, ho, hl]
def ldO (h : ah) (ag : Bool) (n : Nat) (v : VV) : Option (VV × ah) := ak h (mj v .undef .undef) (.ld ag n (.t 0))
theorem am4 {ag : Bool} {n : Nat} : XO F (⟨none, d, .ld ag n x⟩ :: r) ⟨s, h⟩ Q ↔ XV F (ldO h ag n (ae s x)) d r s Q := ii rfl
theorem amx {ag : Bool} {n : Nat} : XD F ((⟨none, d, .ld ag n x⟩, c) :: q) ⟨s, h⟩ Q ↔ XVD F (ldO h ag n (ae s x)) c h d q s Q := mi rfl
theorem iu {c : CV} {r : List CV} : ldO h false 1 (.rptr (c :: r)) = some (.cv c, h) := by simp [ldO, ak, mj, dm]
theorem bf {id off : Nat} {cells : List VV} {fr : Bool} {c : VV} (ho : h[id]? = some (.box cells fr)) (hc : cells[off]? = some c) : ldO h false 1 (.ptr id off) = some (c, h) := by
 have : (cells.drop off).take 1 = [c] := by
  rw [List.take_one, List.head?_drop, hc]; rfl
 simp [ldO, ak, mj, ho, this, dm]
theorem Gs {id g i z off : Nat} {els : List (List CV)} {fr : Bool} {e : List CV} {c : CV} (ho : h[id]? = some (.arr z els g fr)) (he : els[i]? = some e) (hc : e[off]? = some c) : ldO h false 1 (.eptr id g i off) = some (.cv c, h) := by
 have : (e.drop off).take 1 = [c] := by
  rw [List.take_one, List.head?_drop, hc]; rfl
 simp [ldO, ak, mj, ho, he, this, dm]
def fdO (off : Nat) : VV -> Option VV
 | .ptr id o => some (.ptr id (o + off))
 | .eptr id g i o => some (.eptr id g i (o + off))
 | .rptr cells => some (.rptr (cells.drop off))
 | _ => none
theorem tj {off : Nat} : ak h (ae s) (.fad off x) = (fdO off (ae s x)).map (·, h) := by
 simp only [ak]
 generalize ae s x = v
 cases v <;> rfl
theorem aks {off : Nat} : XO F (⟨none, d, .fad off x⟩ :: r) ⟨s, h⟩ Q ↔ XW F (fdO off (ae s x)) h d r s Q := qc rfl tj
theorem akb {off : Nat} : XD F ((⟨none, d, .fad off x⟩, c) :: q) ⟨s, h⟩ Q ↔ XWD F (fdO off (ae s x)) h d q s Q := js rfl tj
theorem ao2 {off : Nat} {cells : List CV} : fdO off (.rptr cells) = some (.rptr (cells.drop off)) := rfl
theorem aoq {id o off : Nat} : fdO off (.ptr id o) = some (.ptr id (o + off)) := rfl
theorem aox {id g i o off : Nat} : fdO off (.eptr id g i o) = some (.eptr id g i (o + off)) := rfl
def flO (ag : Bool) (off n : Nat) (v : VV) : Option VV := match v with
 | .agg cells => dm ag n ((cells.drop off).take n)
 | _ => none
theorem ac3 {ag : Bool} {off n : Nat} : ak h (ae s) (.fld ag off n x) = (flO ag off n (ae s x)).map (·, h) := by
 simp only [ak]
 generalize ae s x = v
 cases v <;> rfl
theorem ak0 {ag : Bool} {off n : Nat} : XO F (⟨none, d, .fld ag off n x⟩ :: r) ⟨s, h⟩ Q ↔ XW F (flO ag off n (ae s x)) h d r s Q := qc rfl ac3
theorem alx {ag : Bool} {off n : Nat} : XD F ((⟨none, d, .fld ag off n x⟩, c) :: q) ⟨s, h⟩ Q ↔ XWD F (flO ag off n (ae s x)) h d q s Q := js rfl ac3
def bsO (h : ah) (v : VV) : Option VV := match gh h 1 v with
 | some els => (pp els).map fun l => txt l
 | none => none
theorem Me : ak h (ae s) (.cvBS x) = (bsO h (ae s x)).map (·, h) := by
 simp only [ak, bsO]
 cases gh h 1 (ae s x) with
 | none => rfl
 | some els => simp only; cases pp els <;> rfl
theorem af3 : XO F (⟨none, d, .cvBS x⟩ :: r) ⟨s, h⟩ Q ↔ XW F (bsO h (ae s x)) h d r s Q := qc rfl Me
theorem af2 : XD F ((⟨none, d, .cvBS x⟩, c) :: q) ⟨s, h⟩ Q ↔ XWD F (bsO h (ae s x)) h d q s Q := js rfl Me
theorem Cv : ∀ l : List UInt8, pp (eB l) = some l
 | [] => rfl
 | b :: l => by
  have ih := Cv l
  unfold pp at ih |-
  simp only [eB, List.map_cons, List.mapM_cons, bc, Mx] at ih |-
  simp_all
theorem acl {v : VV} {l : List UInt8} (hv : gh h 1 v = some (eB l)) : bsO h v = some (txt l) := by
 simp only [bsO, hv, Cv, Option.map_some]
theorem am5 {l : List UInt8} {ex : Bool} : bsO h (.cv (.sl 1 (eB l) ex)) = some (txt l) := acl (by simp [gh])
theorem alw : bsO h bq = some (txt []) := rfl
def sbO (v : VV) : Option VV := match v with
 | .cv (.sc (.string t)) => some (.cv (.sl 1 (eB t.data.toList) false))
 | _ => none
theorem Wd : ak h (ae s) (.cvSB false x) = (sbO (ae s x)).map (·, h) := by
 simp only [ak]
 generalize ae s x = v
 cases v with
 | cv c => cases c with
  | sc u => cases u <;> rfl
  | sl _ _ _ => rfl
 | _ => rfl
theorem ad2 : XO F (⟨none, d, .cvSB false x⟩ :: r) ⟨s, h⟩ Q ↔ XW F (sbO (ae s x)) h d r s Q := qc rfl Wd
theorem agi : XD F ((⟨none, d, .cvSB false x⟩, c) :: q) ⟨s, h⟩ Q ↔ XWD F (sbO (ae s x)) h d q s Q := js rfl Wd
theorem ajk {l : List UInt8} : sbO (txt l) = some (.cv (.sl 1 (eB l) false)) := rfl
def al3 (x : Option VV) (dflt y : Nat) : Option Nat :=
 match x with
 | none => some dflt
 | some v => match pj v with
  | some i => if 0 <= i /\ i <= y then some i.toNat else none
  | none => none
def slO (h : ah) (z : Nat) (v : VV) (lo hi mx : Option VV) : Option (VV × ah) :=
 ak h (mj v .undef .undef) (.slL z (.t 0) (lo.map .c) (hi.map .c) (mx.map .c))
theorem Bo {ρ ρ' : Opd -> VV} (hc : ∀ v, ρ' (.c v) = v) (o : Option Opd) (a b : Nat) : bnd ρ o a b = bnd ρ' ((o.map ρ).map .c) a b := by
 cases o with
 | none => rfl
 | some o => simp only [bnd, Option.map_some, hc]
theorem ac5 {z : Nat} {lo hi mx : Option Opd} : ak h (ae s) (.slL z x lo hi mx) = slO h z (ae s x) (lo.map (ae s)) (hi.map (ae s)) (mx.map (ae s)) := by
 have hc : ∀ v, mj (ae s x) .undef .undef (.c v) = v := fun _ => rfl
 simp only [slO, ak]
 simp only [Bo hc lo, Bo hc hi, Bo hc mx, Option.isSome_map]
 rfl
theorem aiv {z : Nat} {lo hi mx : Option Opd} : XO F (⟨none, d, .slL z x lo hi mx⟩ :: r) ⟨s, h⟩ Q ↔ XV F (slO h z (ae s x) (lo.map (ae s)) (hi.map (ae s)) (mx.map (ae s))) d r s Q := by
 rw [ii rfl, ac5]
theorem ajn {z : Nat} {lo hi mx : Option Opd} : XD F ((⟨none, d, .slL z x lo hi mx⟩, c) :: q) ⟨s, h⟩ Q ↔ XVD F (slO h z (ae s x) (lo.map (ae s)) (hi.map (ae s)) (mx.map (ae s))) c h d q s Q := by
 rw [mi rfl, ac5]
theorem anq {z : Nat} {els : List (List CV)} {ex : Bool} {k k' : IntKind} {a b : Int} (h1 : 0 <= a) (h2 : a <= b) (h3 : b <= els.length) :
  ∃ ex', slO h z (.cv (.sl z els ex)) (some (vi k a)) (some (vi k' b)) none = some (.cv (.sl z ((els.drop a.toNat).take (b.toNat - a.toNat)) ex'), h) := by
 have h4 : 0 <= b := by omega
 have h5 : b <= (els.length : Int) := h3
 have h6 : a <= max b 0 := by omega
 refine ⟨ex && b.toNat == els.length, ?_⟩
 simp [slO, ak, mj, ly, bnd, pj, h1, h4, h5, h6]
theorem Em {l : List UInt8} {a n : Nat} : ((eB l).drop a).take n = eB ((l.drop a).take n) := by simp [eB, List.map_drop, List.map_take]
theorem nw {l : List UInt8} {i : Nat} {c : UInt8} (hc : l[i]? = some c) : (eB l)[i]? = some [.sc (.int .u8 c.toNat)] := by
 simp [eB, hc, bc]
theorem aw {l : List UInt8} : (eB l).length = l.length := by simp [eB]
theorem ael {l : List UInt8} : im h 1 (txt l) = some (eB l) := rfl
theorem Xx {z : Nat} {els : List (List CV)} {ex : Bool} : im h z (.cv (.sl z els ex)) = some els := by simp [im, gh]
end
def SlV (z : Nat) (els : List (List CV)) (v : VV) : Prop := (v = bq /\ els = []) \/ ∃ ex, v = .cv (.sl z els ex)
section
variable {z : Nat} {es : List (List CV)} {v : VV} {h : ah}
theorem SlV.nil : SlV z [] bq := .inl ⟨rfl, rfl⟩
theorem SlV.sl {ex : Bool} : SlV z es (.cv (.sl z es ex)) := .inr ⟨ex, rfl⟩
theorem SlV.ln (hv : SlV z es v) : lnO false v = some (vi .i64 es.length) := by
 rcases hv with ⟨rfl, rfl⟩ | ⟨ex, rfl⟩ <;> rfl
theorem SlV.ia (hv : SlV z es v) {k : IntKind} {j : Int} {e : List CV} (h0 : 0 <= j) (he : es[j.toNat]? = some e) : iaO h z v (vi k j) = some (.rptr e, h) := by
 rcases hv with ⟨rfl, rfl⟩ | ⟨ex, rfl⟩
 ·simp at he
 ·exact anj h0 he
theorem SlV.part (hv : SlV z es v) {k k' : IntKind} {a b : Int} (h1 : 0 <= a) (h2 : a <= b) (h3 : b <= es.length) :
  ∃ v', SlV z ((es.drop a.toNat).take (b.toNat - a.toNat)) v' /\ slO h z v (some (vi k a)) (some (vi k' b)) none = some (v', h) := by
 rcases hv with ⟨rfl, rfl⟩ | ⟨ex, rfl⟩
 ·have hb : b = 0 := by grind
  have ha : a = 0 := by omega
  subst hb ha
  exact ⟨bq, .inl ⟨rfl, by simp⟩, by simp [slO, ak, mj, ly, bnd, pj]⟩
 ·obtain ⟨ex', e⟩ := anq (h := h) (z := z) (els := es) (ex := ex) (k := k) (k' := k') h1 h2 h3
  exact ⟨_, .inr ⟨ex', rfl⟩, e⟩
theorem SlV.els (hv : SlV z es v) : gh h z v = some es := by
 rcases hv with ⟨rfl, rfl⟩ | ⟨ex, rfl⟩
 ·rfl
 ·simp [gh]
theorem SlV.src (hv : SlV z es v) : im h z v = some es := by
 rcases hv with ⟨rfl, rfl⟩ | ⟨ex, rfl⟩
 ·rfl
 ·exact Xx
theorem SlV.bs {l : List UInt8} (hv : SlV 1 (eB l) v) : bsO h v = some (txt l) := acl hv.els
theorem SlV.clos {l as : List VV} {h1 : ah} (hv : SlV z es v) (hl : ce h l = some (as, h1)) : ce h (v :: l) = some (v :: as, h1) := by
 rcases hv with ⟨rfl, rfl⟩ | ⟨ex, rfl⟩ <;> simp [ce, gy, Go.Vm.clos, hl]
end
section
variable {F : Nat -> Option FnIR} {d : Option Nat} {r : List Op1} {s : List VV} {h : ah} {Q : Pst}
theorem ao {f : Nat} {args : List Opd} {as : List VV} {h1 hc : ah} {v w : VV} (ha : ce h (args.map (ae s)) = some (as, h1)) (hcall : call F f as [] = some (.ret v, hc)) (hr : av hc v = some w)
  (hk : XO F r ⟨de s d w, h1⟩ Q) (hf : f < Ci := by decide) : XO F (⟨none, d, .call f true args⟩ :: r) ⟨s, h⟩ Q := by
 refine (Ur (v := w) (h' := h1) (qt hf ?_)).mpr hk
 unfold dx
 grind
theorem ap {f : Nat} {args : List Opd} {v : VV} {h' : ah} (hcall : call F f (args.map (ae s)) h = some (.ret v, h')) (hk : XO F r ⟨de s d v, h'⟩ Q) (hf : f < Ci := by decide) :
  XO F (⟨none, d, .call f false args⟩ :: r) ⟨s, h⟩ Q := by
 refine (Ur (v := v) (h' := h') (qt hf ?_)).mpr hk
 unfold dx
 grind
theorem wm {c : Cl} {q : List (Op1 × Cl)} {f : Nat} {args : List Opd} {as : List VV} {hc : ah} {v w : VV} (ha : ce h (args.map (ae s)) = some (as, h)) (hcall : call F f as [] = some (.ret v, hc)) (hr : av hc v = some w)
  (hk : XD F q ⟨de s d w, h⟩ Q) (hf : f < Ci := by decide) : XD F ((⟨none, d, .call f true args⟩, c) :: q) ⟨s, h⟩ Q := by
 refine Wf (v := w) (qt hf ?_) hk
 unfold dx
 grind
theorem Js {q : List (Op1 × Cl)} {f : Nat} {args : List Opd} {as : List VV} {h1 hc : ah} {v w : VV} (ha : ce h (args.map (ae s)) = some (as, h1)) (hcall : call F f as [] = some (.ret v, hc)) (hr : av hc v = some w)
  (hk : XD F q ⟨de s d w, h1⟩ Q) (hf : f < Ci := by decide) : XD F ((⟨none, d, .call f true args⟩, .k) :: q) ⟨s, h⟩ Q := by
 refine Ok (v := w) (qt hf ?_) hk
 unfold dx
 grind
theorem abw {n f : Nat} {as' as : List VV} {h1 hc : ah} {v w : VV} (hn : n = f + Ci) (ha : ce h as' = some (as, h1)) (hcall : call F f as [] = some (.ret v, hc)) (hr : av hc v = some w) :
  kj (call F) h n true as' = some (.ret w, if scalV w then h else h1) := by
 subst hn
 unfold kj Dc dx
 grind
theorem Zt {c : Cl} {q : List (Op1 × Cl)} {n f : Nat} {args : List Opd} {as : List VV} {h1 hc : ah} {v w : VV} (ha : ce h (args.map (ae s)) = some (as, h1)) (hcall : call F f as [] = some (.ret v, hc)) (hr : av hc v = some w) (hw : scalV w = true)
  (hk : XD F q ⟨de s d w, h⟩ Q) (hn : n = f + Ci := by rfl) : XD F ((⟨none, d, .call n true args⟩, c) :: q) ⟨s, h⟩ Q := by
 have := abw hn ha hcall hr
 rw [if_pos hw] at this
 exact Wf this hk
theorem ed {c : CV} {as : List VV} {l : List VV} {h1 : ah} (hl : ce h l = some (as, h1)) : ce h (.cv c :: l) = some (.cv c :: as, h1) := by
 simp [ce, gy, clos, hl]
theorem li : ce h [] = some ([], h) := rfl
end
def Buf (h0 : ah) (z : Nat) (els : List (List CV)) (v : VV) (h : ah) : Prop :=
 (els = [] /\ v = bq /\ h = h0) \/ (∃ g, v = .own h0.length g 0 els.length false /\ h = h0 ++ [.arr z els g false])
theorem Buf.nil (h0 : ah) (z : Nat) : Buf h0 z [] bq h0 := .inl ⟨rfl, rfl, rfl⟩
theorem abq (h0 : ah) (o : VO) : (h0 ++ [o])[h0.length]? = some o := by simp
theorem acd (h0 : ah) (o o' : VO) : (h0 ++ [o]).set h0.length o' = h0 ++ [o'] := by simp
theorem Buf.len {h0 : ah} {z : Nat} {els : List (List CV)} {v : VV} {h : ah} (hb : Buf h0 z els v h) : ly v = some els.length := by
 rcases hb with ⟨rfl, rfl, rfl⟩ | ⟨g, rfl, rfl⟩ <;> rfl
theorem Buf.els {h0 : ah} {z : Nat} {els : List (List CV)} {v : VV} {h : ah} (hb : Buf h0 z els v h) : gh h z v = some els := by
 rcases hb with ⟨rfl, rfl, rfl⟩ | ⟨g, rfl, rfl⟩
 ·rfl
 ·simp [gh]
theorem Wk {h0 : ah} {z by_ : Nat} {zero : List CV} {els new : List (List CV)} {v : VV} {h : ah} {x y : Opd} {F : Nat -> Option FnIR} {d : Option Nat} {r : List Op1} {s : List VV} {Q : Pst}
  (hb : Buf h0 z els v h) (hx : ae s x = v) (hy : im h z (ae s y) = some new) (h1 : (els.length + new.length) * by_ <= 35184372088832) (h2 : els.length + new.length <= 35184372088832)
  (hk : ∀ v' h', Buf h0 z (els ++ new) v' h' -> XO F r ⟨de s d v', h'⟩ Q) : XO F (⟨none, d, .app z by_ zero x y⟩ :: r) ⟨s, h⟩ Q := by
 rw [ii rfl]
 have hm : cj = 35184372088832 := rfl
 have hl : ly (ae s x) = some els.length := by rw [hx]; exact hb.len
 have hE : gh h z (ae s x) = some els := by rw [hx]; exact hb.els
 simp only [ak, hy, hl, hm, h1, h2, and_self, if_true]
 unfold XV
 by_cases hn : new = []
 ·grind
 ·simp only [if_neg hn]
  rcases hb with ⟨rfl, rfl, rfl⟩ | ⟨g, rfl, rfl⟩
  ·rw [hx]
   refine ⟨_, _, rfl, hk _ _ (.inr ⟨0, ?_, ?_⟩)⟩ <;> simp
  ·rw [hx]
   simp only [abq, Nat.zero_add, Nat.le_refl, and_self, if_true, Bool.false_eq_true, if_false, List.drop_zero, List.take_length, acd]
   refine ⟨_, _, rfl, hk _ _ (.inr ⟨g + 1, ?_, ?_⟩)⟩
   ·grind
   ·rfl
theorem Buf.res {z : Nat} {els : List (List CV)} {v : VV} {h : ah} {h0 : ah} (hb : Buf h0 z els v h) (hn : els ≠ []) : av h v = some (.cv (.sl z els false)) := by
 rcases hb with ⟨e, _, _⟩ | ⟨g, rfl, rfl⟩
 ·grind
 ·simp [av, gy, clos]
theorem ait {l : List VV} : bdO l [] = some (.agg l) := rfl
theorem aok {a b : VV} {u v : CV} : bdO [a, b] [(0, 1, .cv u), (1, 1, .cv v)] = some (.agg [.cv u, .cv v]) := rfl
theorem an4 {a b c : VV} {u v w : CV} : bdO [a, b, c] [(0, 1, .cv u), (1, 1, .cv v), (2, 1, .cv w)] = some (.agg [.cv u, .cv v, .cv w]) := rfl
theorem Li {h : ah} {z0 z1 : VV} {u w : CV} : mkO h 2 1 [z0, z1] [(0, 2, .agg [.cv u, .cv w])] = some (.cv (.sl 2 [[u, w]] true), h) := rfl
theorem ad4 {h : ah} {z0 z1 z2 : VV} {u w t : CV} : mkO h 3 1 [z0, z1, z2] [(0, 3, .agg [.cv u, .cv w, .cv t])] = some (.cv (.sl 3 [[u, w, t]] true), h) := rfl
section
variable {F : Nat -> Option FnIR} {d : Option Nat} {x y z : Opd} {r : List Op1} {c : Cl} {q : List (Op1 × Cl)} {s : List VV} {h : ah} {Q : Pst}
theorem Zf {zero : List VV} : XO F (⟨none, d, .alloc zero⟩ :: r) ⟨s, h⟩ Q ↔ XO F r ⟨de s d (.ptr h.length 0), h ++ [.box zero false]⟩ Q := ue rfl rfl
def bxO (h : ah) (n : Nat) (v : VV) : Option (VV × ah) := ak h (mj v .undef .undef) (.box n (.t 0))
theorem aik {n : Nat} : XO F (⟨none, d, .box n x⟩ :: r) ⟨s, h⟩ Q ↔ XV F (bxO h n (ae s x)) d r s Q := ii rfl
theorem Xj {v : VV} (hv : en v = true) : bxO h 1 v = some (.ptr h.length 0, h ++ [.box [v] false]) := by
 cases v <;> first | rfl | (simp [en] at hv)
theorem yp {n : Nat} {cs : List VV} (hn : cs.length = n) : bxO h n (.agg cs) = some (.ptr h.length 0, h ++ [.box cs false]) := by
 simp [bxO, ak, mj, cellsOf, hn]
def stO (h : ah) (n : Nat) (v w : VV) : Option (VV × ah) := ak h (mj v w .undef) (.st n (.t 0) (.t 1))
theorem an0 {n : Nat} : XO F (⟨none, d, .st n x y⟩ :: r) ⟨s, h⟩ Q ↔ XV F (stO h n (ae s x) (ae s y)) d r s Q := ii rfl
theorem anx {n : Nat} : XD F ((⟨none, d, .st n x y⟩, c) :: q) ⟨s, h⟩ Q ↔ XVD F (stO h n (ae s x) (ae s y)) c h d q s Q := mi rfl
theorem jz {n id : Nat} {cs cells : List VV} (hn : cs.length = n) (ho : h[id]? = some (.box cells false)) (hc : cells.length = n) : stO h n (.ptr id 0) (.agg cs) = some (.undef, h.set id (.box cs false)) := by
 have : am cells 0 cs = cs := by
  unfold am
  grind
 simp [stO, ak, mj, cellsOf, hn, ho, hc, this]
theorem zl {id off : Nat} {v : VV} {cells : List VV} (hv : en v = true) (ho : h[id]? = some (.box cells false)) (hc : off < cells.length) : stO h 1 (.ptr id off) v = some (.undef, h.set id (.box (cells.set off v) false)) := by
 have hs : am cells off [v] = cells.set off v := by
  unfold am
  simp only [List.length_singleton]
  rw [List.set_eq_take_append_cons_drop, if_pos hc, List.append_assoc, List.singleton_append]
 have h1 : off + 1 <= cells.length := hc
 have hcv : cellsOf v = some [v] := by cases v <;> first | rfl | (simp [en] at hv)
 simp [stO, ak, mj, hcv, ho, h1, hs]
theorem nr {n id : Nat} {cells : List VV} {fr : Bool} (ho : h[id]? = some (.box cells fr)) (hc : cells.length = n) : ldO h true n (.ptr id 0) = some (.agg cells, h) := by
 subst hc
 simp [ldO, ak, mj, ho, dm]
theorem Vw {P : VV -> ah -> Prop} {a m k n id : Nat} {cells : List VV} {fr : Bool} (ha : s.getD a .undef = .ptr id 0) (ho : h[id]? = some (.box cells fr)) (hn : cells.length = n) (hm : m < s.length) (hk : k < s.length)
  (hP : P (.tup [.agg cells, s.getD m .undef, s.getD k .undef]) h) : RQ [.cell a true n, .t m, .t k] P .ret ⟨s, h⟩ := by
 subst hn
 refine ⟨trivial, [.agg cells, s.getD m .undef, s.getD k .undef], ?_, hP⟩
 simp only [ke, yc, ki hm, ki hk, ha, ho, List.drop_zero, List.take_length, dm, if_true]
theorem bh {o : VO} : (h ++ [o])[h.length]? = some o := by simp
theorem lx {o o' : VO} : (h ++ [o]).set h.length o' = h ++ [o'] := by simp
theorem ah9 {a b u v : VV} : stO [.box [a, b] false] 2 (.ptr 0 0) (.agg [u, v]) = some (.undef, [.box [u, v] false]) := rfl
theorem alc {a b c u v w : VV} : stO [.box [a, b, c] false] 3 (.ptr 0 0) (.agg [u, v, w]) = some (.undef, [.box [u, v, w] false]) := rfl
theorem act {a b u v : VV} : stO (h ++ [.box [a, b] false]) 2 (.ptr h.length 0) (.agg [u, v]) = some (.undef, h ++ [.box [u, v] false]) := by
 rw [jz (n := 2) (cells := [a, b]) rfl (by simp) rfl, lx]
theorem Wc {a b c u v w : VV} : stO (h ++ [.box [a, b, c] false]) 3 (.ptr h.length 0) (.agg [u, v, w]) = some (.undef, h ++ [.box [u, v, w] false]) := by
 rw [jz (n := 3) (cells := [a, b, c]) rfl (by simp) rfl, lx]
theorem akj {a b : VV} {fr : Bool} : ldO (h ++ [.box [a, b] fr]) true 2 (.ptr h.length 0) = some (.agg [a, b], h ++ [.box [a, b] fr]) := nr bh rfl
theorem aly {a b c : VV} {fr : Bool} : ldO (h ++ [.box [a, b, c] fr]) true 3 (.ptr h.length 0) = some (.agg [a, b, c], h ++ [.box [a, b, c] fr]) := nr bh rfl
theorem El {cells : List VV} {fr : Bool} {i : Nat} {v : VV} (hv : cells[i]? = some v) : ldO (h ++ [.box cells fr]) false 1 (.ptr h.length i) = some (v, h ++ [.box cells fr]) := bf bh hv
theorem aig {a b : CV} : ldO h true 2 (.rptr [a, b]) = some (.agg [.cv a, .cv b], h) := rfl
theorem acp {a b c : CV} : ldO h true 3 (.rptr [a, b, c]) = some (.agg [.cv a, .cv b, .cv c], h) := rfl
theorem Az {x : Opd} {f : Nat} {args : List Opd} {as : List VV} {h1 hc : ah} {v w : VV} (hx : ae s x = .func f []) (ha : ce h (args.map (ae s)) = some (as, h1)) (hcall : call F f as [] = some (.ret v, hc))
  (hr : av hc v = some w) (hk : XO F r ⟨de s d w, h1⟩ Q) (hf : f < YB := by decide) : XO F (⟨none, d, .callv true x args⟩ :: r) ⟨s, h⟩ Q := by
 refine (Oa (v := w) (h' := h1) hx ?_ hf).mpr hk
 unfold dx
 grind
end
def er (h : ah) (z : Nat) (els : List (List CV)) (v : VV) : Prop :=
 (els = [] /\ v = bq) \/ (∃ id g, els ≠ [] /\ v = .own id g 0 els.length false /\ h[id]? = some (.arr z els g false))
theorem er.nil (h : ah) (z : Nat) : er h z [] bq := .inl ⟨rfl, rfl⟩
theorem er.push {h : ah} {z : Nat} {els : List (List CV)} {v : VV} (hb : er h z els v) (o : VO) : er (h ++ [o]) z els v := by
 rcases hb with hb | ⟨id, g, hne, h1, h2⟩
 ·exact .inl hb
 ·refine .inr ⟨id, g, hne, h1, ?_⟩
  grind
theorem er.setBox {h : ah} {z : Nat} {els : List (List CV)} {v : VV} (hb : er h z els v) {id : Nat} {cells : List VV} {fr : Bool} (ho : h[id]? = some (.box cells fr)) (o : VO) : er (h.set id o) z els v := by
 rcases hb with hb | ⟨id', g, hne, h1, h2⟩
 ·exact .inl hb
 ·refine .inr ⟨id', g, hne, h1, ?_⟩
  grind
theorem er.els {h : ah} {z : Nat} {els : List (List CV)} {v : VV} (hb : er h z els v) : gh h z v = some els := by
 rcases hb with ⟨rfl, rfl⟩ | ⟨id, g, hne, rfl, h2⟩
 ·rfl
 ·simp [gh, h2]
theorem er.len {h : ah} {z : Nat} {els : List (List CV)} {v : VV} (hb : er h z els v) : ly v = some els.length := by
 rcases hb with ⟨rfl, rfl⟩ | ⟨id, g, hne, rfl, h2⟩ <;> rfl
def slV (z : Nat) (els : List (List CV)) : VV := if els = [] then bq else .cv (.sl z els false)
theorem er.res {h : ah} {z : Nat} {els : List (List CV)} {v : VV} (hb : er h z els v) (hn : els ≠ []) : gy h v = some (.cv (.sl z els false), h.set (match v with | .own id _ _ _ _ => id | _ => 0) (match v with | .own _ g _ _ _ => .arr z els g true | _ => .box [] true)) := by
 rcases hb with ⟨e, _⟩ | ⟨id, g, hne, rfl, h2⟩
 ·grind
 ·simp [gy, clos, h2]
theorem er.slV {h : ah} {z : Nat} {els : List (List CV)} {v : VV} (hb : er h z els v) : ∃ h1, gy h v = some (Go.Vm.slV z els, h1) := by
 unfold Go.Vm.slV
 by_cases hn : els = []
 ·rw [if_pos hn]
  rcases hb with ⟨_, rfl⟩ | ⟨id, g, hne, rfl, h2⟩
  ·exact ⟨h, rfl⟩
  grind
 ·rw [if_neg hn]
  exact ⟨_, hb.res hn⟩
theorem Gl {z : Nat} {els : List (List CV)} : SlV z els (slV z els) := by
 unfold slV
 split
 ·rename_i e; exact .inl ⟨rfl, e⟩
 ·exact .inr ⟨_, rfl⟩
def Bq (w : VV) (v : VV) (h : ah) : Prop := av h v = some w
theorem uh {z by_ : Nat} {zero : List CV} {els new : List (List CV)} {v : VV} {h : ah} {x y : Opd} {F : Nat -> Option FnIR} {d : Option Nat} {r : List Op1} {s : List VV} {Q : Pst}
  (hb : er h z els v) (hx : ae s x = v) (hy : im h z (ae s y) = some new) (h1 : (els.length + new.length) * by_ <= 35184372088832) (h2 : els.length + new.length <= 35184372088832)
  (hk : ∀ v' h', er h' z (els ++ new) v' -> h.length <= h'.length -> (∀ (j : Nat) (o : VO), h[j]? = some o -> (∀ e g, o ≠ VO.arr z e g false) -> h'[j]? = some o) -> XO F r ⟨de s d v', h'⟩ Q) : XO F (⟨none, d, .app z by_ zero x y⟩ :: r) ⟨s, h⟩ Q := by
 rw [ii rfl]
 have hm : cj = 35184372088832 := rfl
 have hl : ly (ae s x) = some els.length := by rw [hx]; exact hb.len
 have hE : gh h z (ae s x) = some els := by rw [hx]; exact hb.els
 simp only [ak, hy, hl, hm, h1, h2, and_self, if_true]
 unfold XV
 by_cases hn : new = []
 ·grind
 ·simp only [if_neg hn]
  rcases hb with ⟨rfl, rfl⟩ | ⟨id, g, hne, rfl, h3⟩
  ·rw [hx]
   refine ⟨_, _, rfl, hk _ _ (.inr ⟨h.length, 0, by grind, ?_, ?_⟩) (by simp) (fun j o ho _ => ?_)⟩
   ·simp
   ·simp
   grind
  ·rw [hx]
   simp only [h3, Nat.zero_add, Nat.le_refl, and_self, if_true, Bool.false_eq_true, if_false, List.drop_zero, List.take_length]
   have hid : id < h.length := (List.getElem?_eq_some_iff.1 h3).1
   refine ⟨_, _, rfl, hk _ _ (.inr ⟨id, g + 1, by simp [hne], ?_, ?_⟩) (by simp) (fun j o ho hno => ?_)⟩
   ·grind
   ·grind
   grind
theorem Buf.toG {h0 : ah} {z : Nat} {els : List (List CV)} {v : VV} {h : ah} (hb : Buf h0 z els v h) (hn : els ≠ []) : er h z els v := by
 rcases hb with ⟨e, _, _⟩ | ⟨g, rfl, rfl⟩
 ·grind
 ·exact .inr ⟨h0.length, g, hn, rfl, by simp⟩
theorem er.close {h : ah} {z : Nat} {els : List (List CV)} {v : VV} (hb : er h z els v) : Bq (Go.Vm.slV z els) v h := by
 obtain ⟨h1, e⟩ := hb.slV
 unfold Bq
 rcases hb with ⟨rfl, rfl⟩ | ⟨id, g, hne, rfl, h2⟩
 ·rfl
 ·simp only [av, e]; rfl
section
variable {F : Nat -> Option FnIR} {d : Option Nat} {x y : Opd} {r : List Op1} {c : Cl} {q : List (Op1 × Cl)} {s : List VV} {h : ah} {Q : Pst}
def ahu (h : ah) (z len : Nat) (zero : List VV) (parts : List (Nat × Nat × VV)) : Option (VV × ah) :=
 match fill zero parts with
 | some cs => match qb h cs with
  | some (cc, h1) => some (.own h1.length 0 0 len true, h1 ++ [.arr z (na z len cc) 0 false])
  | none => none
 | none => none
theorem Oo {z len : Nat} {zero : List VV} {parts : List (Nat × Nat × Opd)} : ak h (ae s) (.mksl z len zero parts true) = ahu h z len zero (jh s parts) := by
 simp only [ak, ahu, sk, if_true]
 grind
theorem abz {z len : Nat} {zero : List VV} {parts : List (Nat × Nat × Opd)} : XO F (⟨none, d, .mksl z len zero parts true⟩ :: r) ⟨s, h⟩ Q ↔ XV F (ahu h z len zero (jh s parts)) d r s Q := by
 rw [ii rfl, Oo]
theorem ab0 {z len : Nat} {zero : List VV} {parts : List (Nat × Nat × Opd)} : XD F ((⟨none, d, .mksl z len zero parts true⟩, c) :: q) ⟨s, h⟩ Q ↔ XVD F (ahu h z len zero (jh s parts)) c h d q s Q := by
 rw [mi rfl, Oo]
def mrO (h : ah) (v : VV) : Option (VV × ah) := ak h (mj v .undef .undef) (.mrk (.t 0))
theorem ai8 : XO F (⟨none, d, .mrk x⟩ :: r) ⟨s, h⟩ Q ↔ XV F (mrO h (ae s x)) d r s Q := ii rfl
theorem aku : XD F ((⟨none, d, .mrk x⟩, c) :: q) ⟨s, h⟩ Q ↔ XVD F (mrO h (ae s x)) c h d q s Q := mi rfl
theorem ah8 {id g off len : Nat} {els : List (List CV)} {ex : Bool} (ho : h[id]? = some (.arr 1 els g false)) : mrO h (.own id g off len ex) = some (.own id g off len ex, h) := by
 simp [mrO, ak, mj, ho]
theorem aog {g off len : Nat} {els : List (List CV)} {ex : Bool} {t : ah} : mrO (.arr 1 els g false :: t) (.own 0 g off len ex) = some (.own 0 g off len ex, .arr 1 els g false :: t) := ah8 rfl
end
end Go.Vm
/-
 Vm: more ways to go on (own work).
-/
namespace Go.Vm
open Go
section
variable {F : Nat -> Option FnIR}
def NM (Mid : St -> Prop) : Pst := fun o st => o = .norm /\ Mid st
theorem aet {Mid : St -> Prop} {st : St} : NM Mid .norm st ↔ Mid st := ⟨fun h => h.2, fun h => ⟨rfl, h⟩⟩
theorem alh {Mid : St -> Prop} {tail : IR} {Q : Pst} (hr : ∀ s h, Mid ⟨s, h⟩ -> X F tail ⟨s, h⟩ Q) : ∀ o st, NM Mid o st -> K F tail Q o st := by
 rintro o ⟨s, h⟩ ⟨rfl, hm⟩
 exact hr s h hm
theorem ai4 {p : Prop} [Decidable p] {a b tail : IR} {st : St} {Q : Pst} (Mid : St -> Prop) (hp : p -> X F a st (NM Mid)) (hq : ¬p -> X F b st (NM Mid)) (hr : ∀ s h, Mid ⟨s, h⟩ -> X F tail ⟨s, h⟩ Q) :
  XB F (.cv (.sc (.bool (decide p)))) a b st (K F tail Q) :=
 Od (fun h => (hp h).mono (alh hr)) (fun h => (hq h).mono (alh hr))
def ah6 (neg : Bool) : VV -> VV -> Option VV
 | .cv (.sc (.bool a)), .cv (.sc (.bool b)) => some (vb (if neg then !(a == b) else a == b))
 | _, _ => none
theorem ajm {a b : Bool} : ah6 false (vb a) (vb b) = some (vb (a == b)) := rfl
theorem ajd {a b : Bool} : ah6 true (vb a) (vb b) = some (vb (!(a == b))) := rfl
variable {d : Option Nat} {x y z : Opd} {r : List Op1} {c : Cl} {q : List (Op1 × Cl)} {s : List VV} {h : ah} {Q : Pst}
theorem ac7 {neg : Bool} : ak h (ae s) (.eqb neg x y) = (ah6 neg (ae s x) (ae s y)).map (·, h) := by
 simp only [ak]
 generalize ae s x = a
 generalize ae s y = b
 cases a with
 | cv c => cases c with
  | sc u =>
   cases u with
   | bool t =>
    cases b with
    | cv c' => cases c' with
     | sc u' => cases u' <;> rfl
     | sl _ _ _ => rfl
    | _ => rfl
   | _ => rfl
  | sl _ _ _ => rfl
 | _ => rfl
theorem akv {neg : Bool} : XO F (⟨none, d, .eqb neg x y⟩ :: r) ⟨s, h⟩ Q ↔ XW F (ah6 neg (ae s x) (ae s y)) h d r s Q := qc rfl ac7
theorem ali {neg : Bool} : XD F ((⟨none, d, .eqb neg x y⟩, c) :: q) ⟨s, h⟩ Q ↔ XWD F (ah6 neg (ae s x) (ae s y)) h d q s Q := js rfl ac7
def unO (op : UnOp) : VV -> Option VV
 | .cv (.sc a) => (unV op a).map fun v => .cv (.sc v)
 | _ => none
theorem ah2 {b : Bool} : unO .not (vb b) = some (vb (!b)) := rfl
theorem akg {op : UnOp} : ak h (ae s) (.un op x) = (unO op (ae s x)).map (·, h) := by
 simp only [ak]
 generalize ae s x = a
 cases a with
 | cv c => cases c with
  | sc u => simp only [unO]; cases unV op u <;> rfl
  | sl _ _ _ => rfl
 | _ => rfl
theorem anv {op : UnOp} : XO F (⟨none, d, .un op x⟩ :: r) ⟨s, h⟩ Q ↔ XW F (unO op (ae s x)) h d r s Q := qc rfl akg
theorem amj {op : UnOp} : XD F ((⟨none, d, .un op x⟩, c) :: q) ⟨s, h⟩ Q ↔ XWD F (unO op (ae s x)) h d q s Q := js rfl akg
end
theorem cg {h h1 h2 : ah} {v c : VV} {l as : List VV} (hv : gy h v = some (c, h1)) (hl : ce h1 l = some (as, h2)) : ce h (v :: l) = some (c :: as, h2) := by
 simp [ce, hv, hl]
section
variable {z : Nat} {es : List (List CV)} {v : VV} {h : ah}
theorem SlV.upto (hv : SlV z es v) {k : IntKind} {b : Int} (h2 : 0 <= b) (h3 : b <= es.length) :
  ∃ v', SlV z (es.take b.toNat) v' /\ slO h z v none (some (vi k b)) none = some (v', h) := by
 rcases hv with ⟨rfl, rfl⟩ | ⟨ex, rfl⟩
 ·have hb : b = 0 := by simp at h3; omega
  subst hb
  exact ⟨bq, .inl ⟨rfl, by simp⟩, by simp [slO, ak, mj, ly, bnd, pj]⟩
 ·refine ⟨.cv (.sl z (es.take b.toNat) (ex && b.toNat == es.length)), .inr ⟨_, rfl⟩, ?_⟩
  simp [slO, ak, mj, ly, bnd, pj, h2, h3]
theorem SlV.from_ (hv : SlV z es v) {k : IntKind} {a : Int} (h2 : 0 <= a) (h3 : a <= es.length) :
  ∃ v', SlV z (es.drop a.toNat) v' /\ slO h z v (some (vi k a)) none none = some (v', h) := by
 rcases hv with ⟨rfl, rfl⟩ | ⟨ex, rfl⟩
 ·have hb : a = 0 := by simp at h3; omega
  subst hb
  exact ⟨bq, .inl ⟨rfl, by simp⟩, by simp [slO, ak, mj, ly, bnd, pj]⟩
 ·refine ⟨.cv (.sl z (es.drop a.toNat) ex), .inr ⟨_, rfl⟩, ?_⟩
  have e : (es.drop a.toNat).take (es.length - a.toNat) = es.drop a.toNat := List.take_of_length_le (by simp)
  simp [slO, ak, mj, ly, bnd, pj, h2, h3, e]
end
end Go.Vm
/-
 Vm: more ways to go on, 2 (own work).
-/
namespace Go.Vm
open Go
section
variable {F : Nat -> Option FnIR} {d : Option Nat} {x y : Opd} {r : List Op1} {c : Cl} {q : List (Op1 × Cl)} {s : List VV} {h : ah} {Q : Pst}
theorem ai5 {z by_ : Nat} {zero : List CV} {k k' : IntKind} {a : Nat} (hx : ae s x = vi k a) (hy : ae s y = vi k' a) (h1 : a * by_ <= 35184372088832) (h2 : a <= 35184372088832) :
  ak h (ae s) (.mks z by_ zero x y true) = some (.own h.length 0 0 a true, h ++ [.arr z (List.replicate a zero) 0 false]) := by
 have hm : cj = 35184372088832 := rfl
 have h3 : (a : Int) * (by_ : Int) <= 35184372088832 := by
  rw [<- Int.natCast_mul]; omega
 have h4 : (a : Int) <= 35184372088832 := by omega
 simp [ak, hx, hy, pj, hm, h3, h4]
theorem Um {z by_ : Nat} {zero : List CV} {k k' : IntKind} {a : Nat} (hx : ae s x = vi k a) (hy : ae s y = vi k' a) (h1 : a * by_ <= 35184372088832) (h2 : a <= 35184372088832)
  (hk : XO F r ⟨de s d (.own h.length 0 0 a true), h ++ [.arr z (List.replicate a zero) 0 false]⟩ Q) : XO F (⟨none, d, .mks z by_ zero x y true⟩ :: r) ⟨s, h⟩ Q := by
 rw [ii rfl, ai5 hx hy h1 h2, lc]
 exact hk
theorem alk {z by_ : Nat} {zero : List CV} {els new : List (List CV)} {v : VV}
    (hb : er h z els v) (hx : ae s x = v) (hy : im h z (ae s y) = some new) (h1 : (els.length + new.length) * by_ ≤ 35184372088832) (h2 : els.length + new.length ≤ 35184372088832) :
    ∃ v' h', ak h (ae s) (.app z by_ zero x y) = some (v', h') ∧ er h' z (els ++ new) v' ∧ h.length ≤ h'.length ∧ (∀ (j : Nat) (o : VO), h[j]? = some o → (∀ e g, o ≠ VO.arr z e g false) → h'[j]? = some o) := by
  have hm : cj = 35184372088832 := rfl
  have hl : ly (ae s x) = some els.length := by rw [hx]; exact hb.len
  have hE : gh h z (ae s x) = some els := by rw [hx]; exact hb.els
  simp only [ak, hy, hl, hm, h1, h2, and_self, if_true]
  by_cases hn : new = []
  · subst hn
    simp only [if_true, hE]
    refine ⟨_, _, rfl, ?_, Nat.le_refl _, (fun j o ho _ => ho)⟩
    rw [hx, List.append_nil]; exact hb
  · simp only [if_neg hn]
    rcases hb with ⟨rfl, rfl⟩ | ⟨id, g, hne, rfl, h3⟩
    · rw [hx]
      refine ⟨_, _, rfl, .inr ⟨h.length, 0, by simpa using hn, ?_, ?_⟩, by simp, (fun j o ho _ => ?_)⟩
      · simp
      · simp
      · rw [List.getElem?_append_left (List.getElem?_eq_some_iff.1 ho).1]; exact ho
    · rw [hx]
      simp only [h3, Nat.zero_add, Nat.le_refl, and_self, if_true, Bool.false_eq_true, if_false, List.drop_zero, List.take_length]
      have hid : id < h.length := (List.getElem?_eq_some_iff.1 h3).1
      refine ⟨_, _, rfl, .inr ⟨id, g + 1, by simp [hne], ?_, ?_⟩, by simp, (fun j o ho hno => ?_)⟩
      · rw [List.length_append]
      · rw [List.getElem?_set_self hid]
      · have : id ≠ j := by
          rintro rfl
          rw [h3] at ho
          cases ho
          exact hno _ _ rfl
        rw [List.getElem?_set_ne this]; exact ho
theorem ad7 {z by_ : Nat} {zero : List CV} {els new : List (List CV)} {v : VV}
  (hb : er h z els v) (hx : ae s x = v) (hy : im h z (ae s y) = some new) (h1 : (els.length + new.length) * by_ <= 35184372088832) (h2 : els.length + new.length <= 35184372088832)
  (hk : ∀ v' h', er h' z (els ++ new) v' -> h.length <= h'.length -> (∀ (j : Nat) (o : VO), h[j]? = some o -> (∀ e g, o ≠ VO.arr z e g false) -> h'[j]? = some o) -> XD F q ⟨de s d v', h'⟩ Q) :
  XD F ((⟨none, d, .app z by_ zero x y⟩, .k) :: q) ⟨s, h⟩ Q := by
 obtain ⟨v', h', e, a1, a2, a3⟩ := alk (zero := zero) hb hx hy h1 h2
 rw [mi rfl, e, Rm]
 exact hk v' h' a1 a2 a3
end
theorem rn (n : Nat) : List.replicate n [CV.sc (.int .u8 0)] = eB (List.replicate n 0) := by
 simp [eB, bc]
theorem Xn {h : ah} {z : Nat} {els : List (List CV)} {g n : Nat} {ex : Bool} (hn : els.length = n) :
  clos (h ++ [.arr z els g false]) (.own h.length g 0 n ex) = some (.sl z els ex, h ++ [.arr z els g true]) := by
 subst hn
 simp [clos]
theorem ahl {h : ah} {z : Nat} {els : List (List CV)} {g n i : Nat} {ex : Bool} {k : IntKind} (hi : i < n) : iaO (h ++ [.arr z els g false]) z (.own h.length g 0 n ex) (vi k (i : Int)) = some (.eptr h.length g i 0, h ++ [.arr z els g false]) := by
 rw [yh (els := els) (fr := false) (by omega) (by simp) (by simpa using hi)]
 simp
theorem ag3 {h : ah} {l : List UInt8} {g i : Nat} {b : UInt8} (hi : i < l.length) : stO (h ++ [.arr 1 (eB l) g false]) 1 (.eptr h.length g i 0) (vi .u8 b.toNat) = some (.undef, h ++ [.arr 1 (eB (l.set i b)) g false]) := by
 have he : (eB l)[i]? = some [.sc (.int .u8 (l[i]'hi).toNat)] := nw (List.getElem?_eq_getElem hi)
 have e2 : eB (l.set i b) = (eB l).set i (bc b) := by simp [eB, List.map_set]
 rw [e2]
 simp [stO, ak, mj, cellsOf, qb, clos, he, am, bc]
def NM2 (Mid : List VV -> ah -> Prop) : Pst := fun o st => o = .norm /\ Mid st.s st.h
theorem Zy {Mid : List VV -> ah -> Prop} {s : List VV} {h : ah} : NM2 Mid .norm ⟨s, h⟩ ↔ Mid s h := ⟨fun h => h.2, fun h => ⟨rfl, h⟩⟩
def NR2 (Mid : List VV -> ah -> Prop) (Q : Pst) : Pst := fun o st => match o with
 | .norm => Mid st.s st.h
 | o => Q o st
theorem aai {Mid : List VV -> ah -> Prop} {Q : Pst} {s : List VV} {h : ah} : NR2 Mid Q .norm ⟨s, h⟩ ↔ Mid s h := Iff.rfl
theorem afp {Mid : List VV -> ah -> Prop} {Q : Pst} {st : St} : NR2 Mid Q .ret st ↔ Q .ret st := Iff.rfl
theorem aa3 {Mid : List VV -> ah -> Prop} {Q : Pst} {st : St} {i : Nat} : NR2 Mid Q (.exit i) st ↔ Q (.exit i) st := Iff.rfl
theorem aan {Mid : List VV -> ah -> Prop} {Q : Pst} {st : St} {i : Nat} : NR2 Mid Q (.goto i) st ↔ Q (.goto i) st := Iff.rfl
end Go.Vm
/-
 Vm: the rules by which a run is reckoned, for simp (own work).
-/
namespace Go.Vm
open Go
attribute [go_sem] Zy aai afp aa3 aan aoe amv alo af4 akm afv ag4 aj1 ah0 ann ad0 amy aoc ans amr an1 ana ajw ain afc ak9 akf aev am6 ao1 alz ajh alv ak4 alp ahy adz aja aia afx afk ahr amx akb adk za Gt Rm Zf an0 anx aik abz ab0 ai8 aku aog aas ah9 alc act Wc akj aly aig acp El Nat.zero_add ait aok an4 Nn ak0 alx af3 af2 am5 alw ad2 agi ajk aiv ajn Option.map_some Option.map_none agr agy am4 aks iu ao2 aoq aox List.drop_zero List.drop_succ_cons Lt Jb ajr ami Li ad4 Xx agl afq Wy lc akl ant aiy ah5 ajp aml anl ai9 Nc afy oz Bw ac aew di ne_eq not_false_eq_true not_true_eq_false adh aoo am1 aoj aov aow Ng ajx aiq amp ang alj Jz aky amw anp ak5 ah7 anh anc ank Tn Po agn ahp ahf aes ajv ny Ai Gj Gb adw agw ag6 ahd agp agu abh Yt decide_true decide_false eq_self if_true if_false List.getElem?_cons_zero List.getElem?_cons_succ akv ali ajm ajd anv amj ah2 aet Bool.not_true Bool.not_false
end Go.Vm
/-
 Vm: how a law's arguments come in, and how it ends (own work).
-/
namespace Go.Vm
open Go Go.RowKit
def Zb (P : Program) : Nat -> TypeId -> Bool
 | 0, _ => false
 | n + 1, t => match P.underlying t with
  | some .bool => P.cellsOf t == 1
  | some (.int _) => P.cellsOf t == 1
  | some .string => P.cellsOf t == 1
  | some (.slice e) => P.cellsOf t == 1 && decide (0 < P.cellsOf e) && Zb P n e
  | some (.struct fs) => (fs.toList.foldl (fun o f => o.bind fun k => if f.offset = k then some (k + P.cellsOf f.type) else none) (some 0) == some (P.cellsOf t)) && fs.toList.all fun f => Zb P n f.type
  | _ => false
def DR (P : Program) {H : Type} : Nat → TypeId → DataW H → List CV → Prop
  | 0, _, _, _ => False
  | n + 1, t, d, cs => match P.underlying t with
    | some .bool => ∃ b, d = .lit (.bool b) ∧ cs = [.sc (.bool b)]
    | some (.int k) => ∃ x, d = .lit (.int k x) ∧ cs = [.sc (.int k x)] ∧ (Lit.int k x).wf = true
    | some .string => ∃ s : ByteArray, d = .lit (.string s.data.toList) ∧ cs = [.sc (.string s)] ∧ s.size ≤ maxLen
    | some (.slice e) => (d = .nil ∧ cs = [.sc (.slice none 0 0)]) ∨ ∃ ds rest els, d = .slice ds rest ∧ cs = [.sl (P.cellsOf e) els false] ∧ els.length = ds.length ∧ els.length ≤ maxLen ∧
        ∀ (i : Nat) (el : List CV) (y : DataW H), els[i]? = some el → ds[i]? = some y → el.length = P.cellsOf e ∧ DR P n e y el
    | some (.struct fs) => ∃ ds, d = .agg ds ∧ ds.length = fs.size ∧ cs.length = P.cellsOf t ∧
        ∀ (i : Nat) (f : Field) (y : DataW H), fs[i]? = some f → ds[i]? = some y → DR P n f.type y ((cs.drop f.offset).take (P.cellsOf f.type))
    | _ => False
section
variable {H : Type} {enc : TypeId × Value -> H} {P : Program} {w : World} {base : Nat} {sp : Nat -> Bool} {held : Bool}
def Rel (w : World) (cs : List Value) (ccs : List CV) : Prop := ccs.length = cs.length /\ ∀ (i : Nat) (v : Value) (c : CV), cs[i]? = some v -> ccs[i]? = some c -> CR w.cell? v c
theorem Rel.one {w : World} {v : Value} {c : CV} (h : CR w.cell? v c) : Rel w [v] [c] := by
 refine ⟨rfl, fun i v' c' hv hc => ?_⟩
 cases i with
 | zero => simp at hv hc; subst hv hc; exact h
 | succ i => simp at hv
theorem Hi : ∀ (fl : List Field) (k tot : Nat), fl.foldl (fun o f => o.bind fun k => if f.offset = k then some (k + P.cellsOf f.type) else none) (some k) = some tot -> k <= tot
 | [], k, tot, h => by simp at h; omega
 | f :: r, k, tot, h => by
  simp only [List.foldl_cons, Option.bind_some] at h
  by_cases hf : f.offset = k
  ·rw [if_pos hf] at h
   have := Hi r _ _ h
   omega
  ·rw [if_neg hf] at h
   have none_none : ∀ l : List Field, l.foldl (fun (o : Option Nat) f => o.bind fun k => if f.offset = k then some (k + P.cellsOf f.type) else none) none = none := by
    intro l; induction l with
    | nil => rfl
    | cons _ _ ih => simpa using ih
   rw [none_none] at h; cases h
theorem Ht {n fuel : Nat} {cs : List Value}
  (ih : ∀ (t : TypeId) (cs : List Value) (x : DataW H × List MemPlace), Zb P n t = true -> DataW.trod enc P w base sp held fuel t cs = some x -> ∃ ccs, Rel w cs ccs /\ DR P n t x.1 ccs) :
  ∀ (fl : List Field) (off : Nat) (ds : List (DataW H × List MemPlace)), fl.foldl (fun o f => o.bind fun k => if f.offset = k then some (k + P.cellsOf f.type) else none) (some off) = some cs.length ->
   (∀ f ∈ fl, Zb P n f.type = true) -> ds.length = fl.length ->
   (∀ (i : Nat) (f : Field), fl[i]? = some f -> DataW.trod enc P w base sp held fuel f.type ((cs.drop f.offset).take (P.cellsOf f.type)) = ds[i]?) ->
   ∃ ccs : List CV, ccs.length + off = cs.length /\ (∀ (i : Nat) (v : Value) (c : CV), cs[off + i]? = some v -> ccs[i]? = some c -> CR w.cell? v c) /\
    ∀ (i : Nat) (f : Field) (y : DataW H × List MemPlace), fl[i]? = some f -> ds[i]? = some y -> off <= f.offset /\ DR P n f.type y.1 ((ccs.drop (f.offset - off)).take (P.cellsOf f.type))
 | [], off, ds, ht, _, _, _ => by
  simp at ht
  exact ⟨[], by simpa using ht, fun i v c _ hc => by simp at hc, fun i f y hf => by simp at hf⟩
 | f :: r, off, ds, ht, hok, hl, hd => by
  have hle := Hi (P := P) (f :: r) _ _ ht
  simp only [List.foldl_cons, Option.bind_some] at ht
  by_cases hf : f.offset = off
  ·rw [if_pos hf] at ht
   have hle2 := Hi (P := P) r _ _ ht
   cases ds with
   | nil => simp at hl
   | cons y ys =>
    obtain ⟨fcs, ⟨h1, h2⟩, h3⟩ := ih f.type _ y (hok f (by simp)) (hd 0 f rfl)
    obtain ⟨rcs, h4, h5, h6⟩ := Ht ih r (off + P.cellsOf f.type) ys ht (fun g hg => hok g (by simp [hg])) (by simpa using hl) (fun i g hg => hd (i + 1) g (by simpa using hg))
    have hlen : fcs.length = P.cellsOf f.type := by
     rw [h1, List.length_take, List.length_drop, hf]; omega
    refine ⟨fcs ++ rcs, by rw [List.length_append, hlen]; omega, fun i v c hv hc => ?_, fun i g y' hg hy => ?_⟩
    ·rw [List.getElem?_append] at hc
     split at hc
     ·rename_i hlt
      refine h2 i v c ?_ hc
      rw [List.getElem?_take, if_pos (by omega), List.getElem?_drop, hf]; exact hv
     ·rename_i hge
      refine h5 (i - fcs.length) v c ?_ hc
      rw [<- hv]; congr 1; omega
    ·cases i with
     | zero =>
      simp at hg hy
      subst hg hy
      refine ⟨by omega, ?_⟩
      rw [hf, Nat.sub_self, List.drop_zero, List.take_append_of_le_length (by omega), List.take_of_length_le (by omega)]
      exact h3
     | succ i =>
      obtain ⟨a1, a2⟩ := h6 i g y' (by simpa using hg) (by simpa using hy)
      refine ⟨by omega, ?_⟩
      have e : g.offset - off = fcs.length + (g.offset - (off + P.cellsOf f.type)) := by omega
      rw [e, <- List.drop_drop, List.drop_left]
      exact a2
  ·rw [if_neg hf] at ht
   have none_none : ∀ l : List Field, l.foldl (fun (o : Option Nat) f => o.bind fun k => if f.offset = k then some (k + P.cellsOf f.type) else none) none = none := by
    intro l; induction l with
    | nil => rfl
    | cons _ _ ih => simpa using ih
   rw [none_none] at ht; cases ht
theorem rm {base : Nat} {a : Addr} {n : Nat} {cs : List Value} (h : w.cells? base a n = some cs) : cs.length = n /\ ∀ i, i < n -> w.cell? (a.add i) = cs[i]? := by
 unfold World.cells? at h
 split at h
 ·refine ⟨by simpa using mapM_some_length h, fun i hi => ?_⟩
  exact mapM_some_get h i i (by simp [hi])
 ·cases h
theorem Ln (hsp0 : ∀ b, sp b = true) : ∀ (n fuel : Nat) (t : TypeId) (cs : List Value) (x : DataW H × List MemPlace), Zb P n t = true → DataW.trod enc P w base sp held fuel t cs = some x → ∃ ccs, Rel w cs ccs ∧ DR P n t x.1 ccs
  | 0, _, _, _, _, hk, _ => by cases hk
  | n + 1, fuel, t, cs, x, hk, h => by
    simp only [Zb] at hk
    simp only [DR]
    cases hu : P.underlying t with
    | none => rw [hu] at hk; cases hk
    | some d =>
      rw [hu] at hk
      cases d with
      | bool =>
        obtain ⟨b, rfl, rfl⟩ := DataW.trod_bool hu h
        exact ⟨[.sc (.bool b)], Rel.one (.sc _ rfl), _, rfl, rfl⟩
      | int k =>
        obtain ⟨m, rfl, rfl, hw⟩ := DataW.trod_int hu h
        exact ⟨[.sc (.int k m)], Rel.one (.sc _ rfl), _, rfl, rfl, hw⟩
      | string =>
        obtain ⟨s, rfl, rfl, hs⟩ := DataW.trod_string hu h
        exact ⟨[.sc (.string s)], Rel.one (.sc _ rfl), _, rfl, rfl, hs⟩
      | slice e =>
        simp only [Bool.and_eq_true, decide_eq_true_eq] at hk
        rcases DataW.trod_slice hu h with ⟨rfl, rfl⟩ | ⟨a, len, cap, elems, rest, m, rfl, rfl, rfl, hb, hl, hm, hlen, hel, hsp, hns⟩
        · exact ⟨[.sc (.slice none 0 0)], Rel.one (.sc _ rfl), .inl ⟨rfl, rfl⟩⟩
        · have key : ∀ i, i < len → ∃ el cv y, elems[i]? = some y ∧ w.cells? base (a.add (i * P.cellsOf e)) (P.cellsOf e) = some el ∧ Rel w el cv ∧ DR P n e y.1 cv := by
            intro i hi
            have hi' : i < elems.length := by omega
            have := hel i hi
            rw [List.getElem?_eq_getElem hi', Option.bind_eq_some_iff] at this
            obtain ⟨el, h1, h2⟩ := this
            obtain ⟨cv, h3, h4⟩ := Ln hsp0 n m e el _ hk.2 h2
            exact ⟨el, cv, _, List.getElem?_eq_getElem hi', h1, h3, h4⟩
          let els := (List.range len).map fun i => if hi : i < len then Classical.choose (Classical.choose_spec (key i hi)) else []
          have hels : ∀ i e', els[i]? = some e' → ∃ hi : i < len, e' = Classical.choose (Classical.choose_spec (key i hi)) := by
            intro i e' he
            have hi : i < len := by
              have := (List.getElem?_eq_some_iff.1 he).1
              simpa [els] using this
            refine ⟨hi, ?_⟩
            simp only [els, List.getElem?_map, List.getElem?_range hi, Option.map_some, dif_pos hi, Option.some.injEq] at he
            exact he.symm
          have hll : els.length = len := by simp [els]
          have val : ∀ i e', els[i]? = some e' → ∃ el y, i < len ∧ elems[i]? = some y ∧ w.cells? base (a.add (i * P.cellsOf e)) (P.cellsOf e) = some el ∧ Rel w el e' ∧ DR P n e y.1 e' := by
            intro i e' he
            obtain ⟨hi, rfl⟩ := hels i e' he
            obtain ⟨y, h1, h2, h3, h4⟩ := Classical.choose_spec (Classical.choose_spec (key i hi))
            exact ⟨_, y, hi, h1, h2, h3, h4⟩
          have spot : cap = 0 ∨ a.spot = none := by
            by_cases hl0 : len = 0
            · by_cases hc0 : cap = 0
              · exact .inl hc0
              · right
                obtain ⟨h1, h2⟩ := hsp (hsp0 _)
                have := h2 0 (by omega)
                rw [hl0, Nat.zero_add, Nat.zero_mul] at this
                have hr : 0 < rest.length := by omega
                rw [List.getElem?_eq_getElem hr, Option.bind_eq_some_iff] at this
                obtain ⟨el, h3, _⟩ := this
                obtain ⟨h4, h5⟩ := rm h3
                have := h5 0 hk.1.2
                rw [List.getElem?_eq_getElem (by omega)] at this
                simpa [Addr.add] using World.cell?_spot this
            · right
              obtain ⟨el, cv, y, _, h1, _⟩ := key 0 (by omega)
              obtain ⟨h4, h5⟩ := rm h1
              have := h5 0 hk.1.2
              rw [List.getElem?_eq_getElem (by omega)] at this
              simpa [Addr.add] using World.cell?_spot this
          have cell : ∀ i e', els[i]? = some e' → ∀ j c, e'[j]? = some c → ∃ v, w.cell? ⟨a.block, a.off + i * P.cellsOf e + j, none⟩ = some v ∧ CR w.cell? v c := by
            intro i e' he j c hj
            obtain ⟨el, y, hi, _, h2, ⟨h3, h3'⟩, _⟩ := val i e' he
            obtain ⟨h4, h5⟩ := rm h2
            have hs : a.spot = none := spot.resolve_left (by omega)
            have hjl : j < el.length := by rw [← h3]; exact (List.getElem?_eq_some_iff.1 hj).1
            have := h5 j (by omega)
            rw [List.getElem?_eq_getElem hjl, db hs, db rfl] at this
            exact ⟨_, this, h3' j _ c (List.getElem?_eq_getElem hjl) hj⟩
          refine ⟨[.sl (P.cellsOf e) els false], Rel.one ?_, .inr ⟨elems.map (·.1), rest.map (·.1), els, rfl, rfl, by simp [hll, hlen], by omega, ?_⟩⟩
          · have := CR.sl (σ := w.cell?) a cap (P.cellsOf e) els false (fun i j => (w.cell? ⟨a.block, a.off + i * P.cellsOf e + j, none⟩).getD undef) spot (by omega) (fun e => by cases e) hk.1.2 ?_ ?_ ?_
            · rw [hll] at this; exact this
            · intro e' he
              obtain ⟨i, hi⟩ := List.getElem?_of_mem he
              obtain ⟨el, y, _, _, h2, ⟨h3, _⟩, _⟩ := val i e' hi
              rw [h3]; exact (rm h2).1
            · intro i e' he j c hj
              obtain ⟨v, hv, _⟩ := cell i e' he j c hj
              rw [hv]; rfl
            · intro i e' he j c hj
              obtain ⟨v, hv, hr⟩ := cell i e' he j c hj
              rw [hv]; exact hr
          · intro i e' y he hy
            obtain ⟨el, y', _, h1, h2, ⟨h3, _⟩, h4⟩ := val i e' he
            rw [List.getElem?_map, h1] at hy
            cases hy
            exact ⟨by rw [h3]; exact (rm h2).1, h4⟩
      | struct fs =>
        simp only [Bool.and_eq_true, beq_iff_eq, List.all_eq_true] at hk
        obtain ⟨xs, m, rfl, rfl, hcl, hxl, hxs⟩ := DataW.trod_struct hu h
        obtain ⟨ccs, h1, h2, h3⟩ := Ht (cs := cs) (fun t cs x => Ln hsp0 n m t cs x) fs.toList 0 xs (by rw [hcl]; exact hk.1) hk.2 (by simpa using hxl) (fun i f hf => hxs i f (by simpa using hf))
        refine ⟨ccs, ⟨by simpa using h1, fun i v c hv hc => h2 i v c (by rw [Nat.zero_add]; exact hv) hc⟩, xs.map (·.1), rfl, by simpa using hxl, by rw [← hcl]; simpa using h1, fun i f y hf hy => ?_⟩
        rw [List.getElem?_map] at hy
        cases hx : xs[i]? with
        | none => rw [hx] at hy; cases hy
        | some z =>
          rw [hx] at hy; cases hy
          have := (h3 i f z (by simpa using hf) hx).2
          simpa using this
      | _ => cases hk
def Mb (P : Program) (t : TypeId) : Bool := match P.underlying t with
 | some (.struct _) => true
 | _ => false
def DV (P : Program) (t : TypeId) (d : DataW H) (u : VV) : Prop := ∃ ccs, DR P 8 t d ccs /\ if Mb P t then u = .agg (ccs.map .cv) else ∃ c, ccs = [c] /\ u = .cv c
theorem arg_in (hsp0 : ∀ b, sp b = true) {r : Reach} {b : Nat} {t : TypeId} {v : Value} {d : DataW H} {ps : List MemPlace} (hk : Zb P 8 t = true) (ho : Value.okWide P w r b t v) (h : DataW.Trod enc P w base sp held t v d ps) {β : Nat -> Option Loc} :
  ∃ u, VR w.cell? β v u /\ DV P t d u := by
 obtain ⟨fuel, h⟩ := h
 obtain ⟨ccs, ⟨h1, h2⟩, h3⟩ := Ln hsp0 8 fuel t _ _ hk h
 unfold DV Mb
 cases hu : P.underlying t with
 | none => simp [Zb, hu] at hk
 | some ty =>
  have one : ∀ x : Value, v.cells = #[x] -> v = x -> ∃ u, VR w.cell? β v u /\ ∃ ccs, DR P 8 t d ccs /\ ∃ c, ccs = [c] /\ u = .cv c := by
   intro x hx hvx
   subst hvx
   rw [hx] at h1 h2
   match ccs, h1 with
   | [c], _ => exact ⟨.cv c, .cv _ _ (h2 0 v c rfl rfl), [c], h3, c, rfl, rfl⟩
  cases ty with
  | struct fs =>
   simp only [Value.okWide, hu] at ho
   obtain ⟨cs, rfl, hcs, _⟩ := ho
   refine ⟨.agg (ccs.map .cv), .agg _ _ (by simpa [Value.cells] using h1.symm) (fun c hc => ?_) (fun i v c hv hc => ?_), ccs, h3, by simp⟩
   ·obtain ⟨q, _, rfl⟩ := List.mem_map.1 hc; rfl
   ·rw [List.getElem?_map] at hc
    cases hq : ccs[i]? with
    | none => rw [hq] at hc; cases hc
    | some q => rw [hq] at hc; cases hc; exact .cv _ _ (h2 i v q (by simpa [Value.cells] using hv) hq)
  | bool =>
   simp only [Bool.false_eq_true, if_false]
   obtain ⟨x, rfl⟩ := WideShapes.okWide_bool hu ho
   exact one _ rfl rfl
  | int k =>
   simp only [Bool.false_eq_true, if_false]
   obtain ⟨x, rfl⟩ := WideShapes.okWide_int hu ho
   exact one _ rfl rfl
  | string =>
   simp only [Bool.false_eq_true, if_false]
   obtain ⟨x, rfl⟩ := WideShapes.okWide_string hu ho
   exact one _ rfl rfl
  | slice e =>
   simp only [Bool.false_eq_true, if_false]
   obtain ⟨x, y, z, rfl⟩ := WideShapes.okWide_slice hu ho
   exact one _ rfl rfl
  | _ => simp [Zb, hu] at hk
end
theorem entry {P : Program} {F : Nat -> Option FnIR} (hT : Vx P F) {n : Nat} {rargs : Array Value} {args : List VV} {w : World} (hl : rargs.size = args.length)
  (hr : ∀ (i : Nat) (v : Value) (u : VV), rargs[i]? = some v -> args[i]? = some u -> VR w.cell? noβ v u) {h' : ah} (hc : call F n args [] = some (.ret (.cv (.sc (.bool true))), h')) (hn : n < YB := by decide) :
  Calls P n rargs w fun e w' => e = .returned (.bool true) /\ Below w.heap.size w w' := by
 obtain ⟨m, hm⟩ := pu.mp hc
 refine ((ur hT m).go n args [] _ h' hn hm rargs (· < w.heap.size) w.cell? noβ w hl hr ?_).mono ?_
 ·exact ⟨fun b hb => hb, fun a v h => h, (fun id o ho => by simp at ho), (fun id L hL => by cases hL), (fun id o L ho => by simp at ho), (fun id id' o o' L L' _ ho => by simp at ho)⟩
 ·rintro e w' ⟨σ', β', rv, hF, hW, ⟨v, hv, rfl, hV⟩ | ⟨v, hv, _⟩⟩
  ·cases hv
   obtain ⟨rfl, _⟩ := hV.sc_inv
   exact ⟨rfl, hF.os, hF.tape, hF.output, hF.size, fun k hk => hF.prot k hk hk⟩
  ·cases hv
end Go.Vm
/-
 Vm: what the arguments of a law are (own work).
-/
namespace Go.Vm
open Go Go.RowKit
section
variable {H : Type} {P : Program} {t e : TypeId} {d : DataW H} {u : VV} {cs : List CV} {n : Nat}
theorem Pi {k : IntKind} (hu : P.underlying t = some (.int k)) (h : DR P (n + 1) t d cs) : ∃ x, d = .lit (.int k x) /\ cs = [.sc (.int k x)] /\ (Lit.int k x).wf = true := by
 simpa only [DR, hu] using h
theorem adv (hu : P.underlying t = some .bool) (h : DR P (n + 1) t d cs) : ∃ b, d = .lit (.bool b) /\ cs = [.sc (.bool b)] := by
 simpa only [DR, hu] using h
theorem Hf (hu : P.underlying t = some (.slice e)) (h : DR P (n + 1) t d cs) : (d = .nil /\ cs = [.sc (.slice none 0 0)]) \/ ∃ ds rest els, d = .slice ds rest /\ cs = [.sl (P.cellsOf e) els false] /\ els.length = ds.length /\ els.length <= maxLen /\
  ∀ (i : Nat) (el : List CV) (y : DataW H), els[i]? = some el -> ds[i]? = some y -> el.length = P.cellsOf e /\ DR P n e y el := by
 simpa only [DR, hu] using h
theorem Vy {fs : Array Field} (hu : P.underlying t = some (.struct fs)) (h : DR P (n + 1) t d cs) : ∃ ds, d = .agg ds /\ ds.length = fs.size /\ cs.length = P.cellsOf t /\
  ∀ (i : Nat) (f : Field) (y : DataW H), fs[i]? = some f -> ds[i]? = some y -> DR P n f.type y ((cs.drop f.offset).take (P.cellsOf f.type)) := by
 simpa only [DR, hu] using h
theorem ace {x : Int} (h : (Lit.int .u8 x).wf = true) : ∃ b : UInt8, x = b.toNat := by
 have := bounds_u8 h
 refine ⟨UInt8.ofNat x.toNat, ?_⟩
 rw [UInt8.toNat_ofNat']
 omega
theorem Oy (hu : P.underlying t = some (.slice e)) (he : P.underlying e = some (.int .u8)) (hc : P.cellsOf e = 1) (h : DR P (n + 2) t d cs) : ∃ (l : List UInt8) (c : CV), cs = [c] ∧ SlV 1 (eB l) (.cv c) ∧ l.length ≤ maxLen ∧
    ((d = .nil ∧ l = []) ∨ ∃ ds rest, d = .slice ds rest ∧ ds.length = l.length) := by
  rcases Hf hu h with ⟨rfl, rfl⟩ | ⟨ds, rest, els, rfl, rfl, h1, h2, h3⟩
  · exact ⟨[], _, rfl, .inl ⟨rfl, rfl⟩, by simp, .inl ⟨rfl, rfl⟩⟩
  · have key : ∀ el ∈ els, ∃ b : UInt8, el = bc b := by
      intro el hel
      obtain ⟨i, hi⟩ := List.getElem?_of_mem hel
      have hlt : i < ds.length := by rw [← h1]; exact (List.getElem?_eq_some_iff.1 hi).1
      obtain ⟨h4, h5⟩ := h3 i el _ hi (List.getElem?_eq_getElem hlt)
      obtain ⟨x, _, rfl, hw⟩ := Pi he h5
      obtain ⟨b, rfl⟩ := ace hw
      exact ⟨b, rfl⟩
    have all : ∀ els : List (List CV), (∀ el ∈ els, ∃ b : UInt8, el = bc b) → ∃ l : List UInt8, els = eB l := by
      intro els
      induction els with
      | nil => exact fun _ => ⟨[], rfl⟩
      | cons x r ih =>
        intro hk
        obtain ⟨b, rfl⟩ := hk x (by simp)
        obtain ⟨l, rfl⟩ := ih fun el hel => hk el (by simp [hel])
        exact ⟨b :: l, rfl⟩
    obtain ⟨l, rfl⟩ := all els key
    rw [aw] at h1 h2
    rw [hc]
    exact ⟨l, _, rfl, .inr ⟨_, rfl⟩, h2, .inr ⟨ds, rest, rfl, h1.symm⟩⟩
theorem zb (hs : Mb P t = false) (h : DV P t d u) : ∃ c, DR P 8 t d [c] /\ u = .cv c := by
 obtain ⟨ccs, h1, h2⟩ := h
 rw [hs] at h2
 obtain ⟨c, rfl, rfl⟩ := by simpa using h2
 exact ⟨c, h1, rfl⟩
theorem aje {k : IntKind} (hu : P.underlying t = some (.int k)) (h : DV P t d u) : ∃ x, u = vi k x /\ (Lit.int k x).wf = true := by
 obtain ⟨c, h1, rfl⟩ := zb (by simp only [Mb, hu]) h
 obtain ⟨x, _, h2, h3⟩ := Pi hu h1
 cases h2
 exact ⟨x, rfl, h3⟩
theorem amt (hu : P.underlying t = some (.int .u8)) (h : DV P t d u) : ∃ b : UInt8, u = vi .u8 b.toNat := by
 obtain ⟨x, rfl, hw⟩ := aje hu h
 obtain ⟨b, rfl⟩ := ace hw
 exact ⟨b, rfl⟩
theorem abs (hu : P.underlying t = some (.slice e)) (he : P.underlying e = some (.int .u8)) (hc : P.cellsOf e = 1) (h : DV P t d u) : ∃ l : List UInt8, SlV 1 (eB l) u /\ l.length <= maxLen := by
 obtain ⟨c, h1, rfl⟩ := zb (by simp only [Mb, hu]) h
 obtain ⟨l, c', h2, h3, h4, _⟩ := Oy hu he hc h1
 cases h2
 exact ⟨l, h3, h4⟩
end
theorem rel_list {σ : gp} {β : Nat -> Option Loc} {vs : List Value} {us : List VV} (h : ∀ (i : Nat) (v : Value) (u : VV), vs[i]? = some v -> us[i]? = some u -> VR σ β v u) : ∀ (i : Nat) (v : Value) (u : VV), vs.toArray[i]? = some v -> us[i]? = some u -> VR σ β v u :=
 fun i v u hv hu => h i v u (by simpa using hv) hu
theorem rel_cons {σ : gp} {β : Nat -> Option Loc} {v0 : Value} {u0 : VV} {vs : List Value} {us : List VV} (h0 : VR σ β v0 u0) (h : ∀ (i : Nat) (v : Value) (u : VV), vs[i]? = some v -> us[i]? = some u -> VR σ β v u) :
  ∀ (i : Nat) (v : Value) (u : VV), (v0 :: vs)[i]? = some v -> (u0 :: us)[i]? = some u -> VR σ β v u := by
 intro i v u hv hu
 cases i with
 | zero => simp at hv hu; subst hv hu; exact h0
 | succ i => exact h i v u (by simpa using hv) (by simpa using hu)
theorem rel_none {σ : gp} {β : Nat -> Option Loc} : ∀ (i : Nat) (v : Value) (u : VV), ([] : List Value)[i]? = some v -> ([] : List VV)[i]? = some u -> VR σ β v u := fun i v u hv => by simp at hv
end Go.Vm
/-
 Vm: more ways to go on, 3 (own work).
-/
namespace Go.Vm
open Go
def XE (F : Nat → Option FnIR) : List (Op1 × Cl) → St → Pst → Prop
  | [], st, Q => Q .norm st
  | (o, c) :: r, st, Q => match bk st.s o.g with
    | some true => ∃ st1, du (call F) st o = some (.norm, st1) ∧ (isk c = false → st1.h = st.h) ∧
        (match c with | .r lo hi => lo = hi ∨ ∀ h, du (call F) ⟨st.s, h⟩ o = some (.norm, ⟨st1.s, h⟩) | _ => True) ∧ XE F r st1 Q
    | some false => XE F r ⟨de st.s o.d skp, st.h⟩ Q
    | none => False
theorem Ip {F : Nat -> Option FnIR} : ∀ (ops : List (Op1 × Cl)) (hs : List ah) (ck : Cks) (st : St) (Q : Pst), XE F ops st Q -> (∀ x ∈ ck, ∀ h, x.2.2 h) ->
  ∃ st1 hs1 ck1, bz (call F) ops hs ck st = some (st1, hs1, ck1) /\ (∀ x ∈ ck1, ∀ h, x.2.2 h) /\ Q .norm st1
 | [], hs, ck, st, Q, hx, hc => ⟨st, hs, ck, rfl, hc, hx⟩
 | (o, c) :: r, hs, ck, st, Q, hx, hc => by
  simp only [XE] at hx
  simp only [bz]
  cases hw : bk st.s o.g with
  | none => rw [hw] at hx; exact hx.elim
  | some b =>
   rw [hw] at hx
   cases b with
   | false => exact Ip r _ ck _ Q hx hc
   | true =>
    obtain ⟨st1, h1, h2, hb, h3⟩ := hx
    simp only [h1]
    cases c with
    | p =>
     have e : (⟨st1.s, st.h⟩ : St) = st1 := by rw [<- h2 rfl]
     simp only [e]
     exact Ip r _ ck _ Q h3 hc
    | k => exact Ip r _ ck _ Q h3 hc
    | r lo hi =>
     have e : (⟨st1.s, st.h⟩ : St) = st1 := by rw [<- h2 rfl]
     simp only [e]
     refine Ip r _ _ _ Q h3 ?_
     by_cases hlh : lo = hi
     ·rw [if_pos hlh]
      intro x hx
      rcases List.mem_cons.mp hx with rfl | hx
      ·exact fun _ => h2 rfl
      ·exact hc x hx
     ·rw [if_neg hlh]
      intro x hx
      rcases List.mem_cons.mp hx with rfl | hx
      ·exact fun h => (hb.resolve_left hlh) h
      ·exact hc x hx
theorem agt {F : Nat -> Option FnIR} {ops : List (Op1 × Cl)} {st : St} {Q : Pst} (hx : XE F ops st Q) : X F (.draw ops) st Q := by
 obtain ⟨st1, hs1, ck1, h1, h2, h3⟩ := Ip ops [st.h] [] st Q hx (fun x hx => by cases hx)
 refine ⟨.norm, st1, ?_, h3⟩
 simp only [dt, jd, h1]
 rw [if_pos]
 exact fun x hx b _ _ h _ => h2 x hx h
theorem Hm {F : Nat -> Option FnIR} : ∀ {ops : List (Op1 × Cl)} {st : St} {Q : Pst}, tf ops = true -> XD F ops st Q -> XE F ops st Q
 | [], _, _, _, h => h
 | (o, c) :: r, st, Q, ha, h => by
  simp only [XD, XE] at h |-
  have har : tf r = true := by
   cases c with
   | p => exact ha
   | k => exact ha
   | r lo hi => simp only [tf, Bool.and_eq_true] at ha; exact ha.2
  cases hw : bk st.s o.g with
  | none => rw [hw] at h; exact h
  | some b =>
   rw [hw] at h
   cases b with
   | false => exact Hm har h
   | true =>
    obtain ⟨st1, h1, h2, h3⟩ := h
    refine ⟨st1, h1, h2, ?_, Hm har h3⟩
    cases c with
    | r lo hi => exact .inl (by simp only [tf, Bool.and_eq_true, beq_iff_eq] at ha; exact ha.1)
    | _ => exact trivial
theorem amc {F : Nat -> Option FnIR} {d : Option Nat} {i : Ins} {c : Cl} {q : List (Op1 × Cl)} {s : List VV} {h : ah} {Q : Pst} {v : VV} (hp : jm i = true) (hs : ∀ h, ak h (ae s) i = some (v, h)) (hk : XE F q ⟨de s d v, h⟩ Q) :
  XE F ((⟨none, d, i⟩, c) :: q) ⟨s, h⟩ Q := by
 simp only [XE, bk]
 refine ⟨⟨de s d v, h⟩, ?_, fun _ => rfl, ?_, hk⟩
 ·rw [eu hp]
  simp only [hs]
 ·cases c with
  | r lo hi =>
   refine .inr fun h' => ?_
   rw [eu hp]
   simp only [hs]
  | _ => exact trivial
section
variable {F : Nat -> Option FnIR} {d : Option Nat} {x y : Opd} {c : Cl} {q : List (Op1 × Cl)} {s : List VV} {h : ah} {Q : Pst}
theorem ab5 {n : Nat} (hk : XE F q ⟨s.set n (ae s x), h⟩ Q) : XE F ((⟨none, some n, .mv x⟩, c) :: q) ⟨s, h⟩ Q := amc rfl (fun _ => rfl) hk
theorem adi {z : Nat} {v w r : VV} (hx : ae s x = v) (hy : ae s y = w) (hi : ∀ h, iaO h z v w = some (r, h)) (hk : XE F q ⟨de s d r, h⟩ Q) : XE F ((⟨none, d, .iadL z x y⟩, c) :: q) ⟨s, h⟩ Q :=
 amc rfl (fun h' => by subst hx hy; exact hi h') hk
theorem acv {o : Nat} {v r : VV} (hx : ae s x = v) (hi : fdO o v = some r) (hk : XE F q ⟨de s d r, h⟩ Q) : XE F ((⟨none, d, .fad o x⟩, c) :: q) ⟨s, h⟩ Q :=
 amc rfl (fun h' => by rw [tj, hx, hi]; rfl) hk
theorem ajo {ag : Bool} {n : Nat} {v r : VV} (hx : ae s x = v) (hi : ∀ h, ldO h ag n v = some (r, h)) (hk : XE F q ⟨de s d r, h⟩ Q) : XE F ((⟨none, d, .ld ag n x⟩, c) :: q) ⟨s, h⟩ Q :=
 amc rfl (fun h' => by subst hx; exact hi h') hk
end
theorem Om {F : Nat -> Option FnIR} {d : Option Nat} {q : List (Op1 × Cl)} {s : List VV} {h : ah} {Q : Pst} {zero : List VV} : XD F ((⟨none, d, .alloc zero⟩, .k) :: q) ⟨s, h⟩ Q ↔ XD F q ⟨de s d (.ptr h.length 0), h ++ [.box zero false]⟩ Q :=
 (mi rfl).trans Rm
end Go.Vm
/-
 Vm: pointers, arrays in boxes (own work).
-/
namespace Go.Vm
open Go
section
variable {F : Nat -> Option FnIR} {d : Option Nat} {x y z : Opd} {r : List Op1} {c : Cl} {q : List (Op1 × Cl)} {s : List VV} {h : ah} {Q : Pst}
def nkO (v : VV) : Option VV := match qe v with
 | some false => match v with
  | .ptr _ _ | .eptr _ _ _ _ | .rptr _ | .func _ _ | .iface _ _ => some v
  | _ => none
 | _ => none
theorem zm : ak h (ae s) (.nilck x) = (nkO (ae s x)).map (·, h) := by
 simp only [ak, nkO]
 generalize ae s x = v
 cases qe v with
 | none => rfl
 | some b => cases b <;> first | rfl | (cases v <;> rfl)
theorem abi : XO F (⟨none, d, .nilck x⟩ :: r) ⟨s, h⟩ Q ↔ XW F (nkO (ae s x)) h d r s Q := qc rfl zm
theorem ab6 : XD F ((⟨none, d, .nilck x⟩, c) :: q) ⟨s, h⟩ Q ↔ XWD F (nkO (ae s x)) h d q s Q := js rfl zm
theorem aos {a b : Nat} : nkO (.ptr a b) = some (.ptr a b) := rfl
theorem aoh {a b e f : Nat} : nkO (.eptr a b e f) = some (.eptr a b e f) := rfl
theorem aof {l : List CV} : nkO (.rptr l) = some (.rptr l) := rfl
def enO (k : NK) (neg : Bool) (v : VV) : Option VV := (ks k v).map fun t => vb (if neg then !t else t)
theorem adg {k : NK} {neg : Bool} : ak h (ae s) (.eqn k neg x) = (enO k neg (ae s x)).map (·, h) := by
 simp only [ak, enO]
 cases ks k (ae s x) <;> rfl
theorem aj4 {k : NK} {neg : Bool} : XO F (⟨none, d, .eqn k neg x⟩ :: r) ⟨s, h⟩ Q ↔ XW F (enO k neg (ae s x)) h d r s Q := qc rfl adg
theorem aju {k : NK} {neg : Bool} : XD F ((⟨none, d, .eqn k neg x⟩, c) :: q) ⟨s, h⟩ Q ↔ XWD F (enO k neg (ae s x)) h d q s Q := js rfl adg
theorem amb {neg : Bool} {a b : Nat} : enO .ptr neg (.ptr a b) = some (vb neg) := by cases neg <;> rfl
theorem anr {neg : Bool} : enO .ptr neg (.cv (.sc (.pointer none))) = some (vb (!neg)) := by cases neg <;> rfl
theorem anm {neg : Bool} {id g off len : Nat} {ex : Bool} : enO .slice neg (.own id g off len ex) = some (vb neg) := by cases neg <;> rfl
theorem ani {neg : Bool} {z : Nat} {els : List (List CV)} {ex : Bool} : enO .slice neg (.cv (.sl z els ex)) = some (vb neg) := by cases neg <;> rfl
theorem an3 {neg : Bool} : enO .slice neg bq = some (vb (!neg)) := by cases neg <;> rfl
def saO (h : ah) (n z : Nat) (v : VV) (lo hi : Option VV) : Option (VV × ah) := ak h (mj v .undef .undef) (.slA n z (.t 0) (lo.map .c) (hi.map .c))
theorem ai0 {n z : Nat} {lo hi : Option Opd} : ak h (ae s) (.slA n z x lo hi) = saO h n z (ae s x) (lo.map (ae s)) (hi.map (ae s)) := by
 have hc : ∀ v, mj (ae s x) .undef .undef (.c v) = v := fun _ => rfl
 simp only [saO, ak]
 simp only [Bo hc lo, Bo hc hi]
 rfl
theorem al0 {n z : Nat} {lo hi : Option Opd} : XO F (⟨none, d, .slA n z x lo hi⟩ :: r) ⟨s, h⟩ Q ↔ XV F (saO h n z (ae s x) (lo.map (ae s)) (hi.map (ae s))) d r s Q := by
 rw [ii rfl, ai0]
theorem Il {n z id off : Nat} {cells : List VV} {fr : Bool} (ho : h[id]? = some (.box cells fr)) (hl : off + n * z <= cells.length) : saO h n z (.ptr id off) none none = some (.ob id off n z true, h) := by
 simp [saO, ak, mj, bnd, ho, hl]
def cpO (h : ah) (z : Nat) (v w : VV) : Option (VV × ah) := ak h (mj v w .undef) (.cpy z (.t 0) (.t 1))
theorem akn {z : Nat} : XO F (⟨none, d, .cpy z x y⟩ :: r) ⟨s, h⟩ Q ↔ XV F (cpO h z (ae s x) (ae s y)) d r s Q := ii rfl
theorem ai3 {z id off len : Nat} {cells : List VV} {src : List (List CV)} {w : VV} {ex : Bool} (ho : h[id]? = some (.box cells false)) (hl : off + len * z <= cells.length) (hs : im h z w = some src) :
  cpO h z (.ob id off len z ex) w = some (vi .i64 (min src.length len), h.set id (.box (am cells off (((src.take (min src.length len)).flatten).map .cv)) false)) := by
 simp [cpO, ak, mj, hs, ly, ho, hl]
 omega
def Ie (n z : Nat) (v w : VV) : Option VV := match pj w with
 | some j => if 0 <= j /\ j < n then (match v with
  | .ptr id o => some (.ptr id (o + j.toNat * z))
  | .eptr id g k o => some (.eptr id g k (o + j.toNat * z))
  | .rptr cells => some (.rptr (cells.drop (j.toNat * z)))
  | _ => none) else none
 | none => none
theorem xu {n z : Nat} : ak h (ae s) (.iadA n z x y) = (Ie n z (ae s x) (ae s y)).map (·, h) := by
 simp only [ak, Ie]
 cases pj (ae s y) with
 | none => rfl
 | some j =>
  simp only
  split
  ·cases ae s x <;> rfl
  ·rfl
theorem aez {n z : Nat} : XO F (⟨none, d, .iadA n z x y⟩ :: r) ⟨s, h⟩ Q ↔ XW F (Ie n z (ae s x) (ae s y)) h d r s Q := qc rfl xu
theorem af8 {n z : Nat} : XD F ((⟨none, d, .iadA n z x y⟩, c) :: q) ⟨s, h⟩ Q ↔ XWD F (Ie n z (ae s x) (ae s y)) h d q s Q := js rfl xu
theorem Vb {n z id o : Nat} {k : IntKind} {j : Nat} (hj : j < n) : Ie n z (.ptr id o) (vi k (j : Int)) = some (.ptr id (o + j * z)) := by
 have : (j : Int) < n := by omega
 simp [Ie, pj, this]
theorem Wz {f : Nat} {caps : List Opd} : XO F (⟨none, d, .mkfn f caps⟩ :: r) ⟨s, h⟩ Q ↔ XO F r ⟨de s d (.func f (caps.map (ae s))), h⟩ Q := ue rfl rfl
theorem Al {x : Opd} {f : Nat} {caps : List VV} {args : List Opd} {v : VV} {h' : ah} (hx : ae s x = .func f caps) (hcall : call F f (args.map (ae s) ++ caps) h = some (.ret v, h')) (hk : XO F r ⟨de s d v, h'⟩ Q) (hf : f < YB := by decide) :
  XO F (⟨none, d, .callv false x args⟩ :: r) ⟨s, h⟩ Q := by
 refine (Oa (v := v) (h' := h') hx ?_ hf).mpr hk
 unfold dx
 simpa using hcall
theorem vq {f : Nat} {args : List Opd} {v : VV} {h' : ah} (hcall : call F f (args.map (ae s)) h = some (.ret v, h')) (hk : XD F q ⟨de s d v, h'⟩ Q) (hf : f < Ci := by decide) :
  XD F ((⟨none, d, .call f false args⟩, .k) :: q) ⟨s, h⟩ Q := by
 refine Ok (v := v) (qt hf ?_) hk
 unfold dx
 simpa using hcall
end
section
variable {h : ah}
theorem Nf {n id off : Nat} {cs cells : List VV} (hn : cs.length = n) (ho : h[id]? = some (.box cells false)) (hc : off + n <= cells.length) : stO h n (.ptr id off) (.agg cs) = some (.undef, h.set id (.box (am cells off cs) false)) := by
 simp [stO, ak, mj, cellsOf, hn, ho, hc]
theorem Np {n id off : Nat} {cells : List VV} {fr : Bool} (ho : h[id]? = some (.box cells fr)) (hc : off + n <= cells.length) : ldO h true n (.ptr id off) = some (.agg ((cells.drop off).take n), h) := by
 have : n <= cells.length - off := by omega
 simp [ldO, ak, mj, ho, dm, Nat.min_eq_left this]
theorem og {n id g i z : Nat} {els : List (List CV)} {fr : Bool} {e : List CV} (ho : h[id]? = some (.arr z els g fr)) (he : els[i]? = some e) (hn : e.length = n) : ldO h true n (.eptr id g i 0) = some (.agg (e.map .cv), h) := by
 subst hn
 simp [ldO, ak, mj, ho, he, dm]
theorem zh : ∀ (l : List CV) (h : ah), qb h (l.map .cv) = some (l, h)
 | [], _ => rfl
 | c :: l, h => by
  simp only [List.map_cons, qb]
  rw [show clos h (.cv c) = some (c, h) from rfl]
  simp only [zh l h]
theorem wz {α : Type} {l m : List α} (h : l.length = m.length) : am l 0 m = m := by
 unfold am
 rw [List.take_zero, List.nil_append, Nat.zero_add, List.drop_eq_nil_of_le (by omega), List.append_nil]
theorem Jv {n id g i z : Nat} {els : List (List CV)} {e cs : List CV} (hn : cs.length = n) (ho : h[id]? = some (.arr z els g false)) (he : els[i]? = some e) (hl : e.length = n) :
  stO h n (.eptr id g i 0) (.agg (cs.map .cv)) = some (.undef, h.set id (.arr z (els.set i cs) g false)) := by
 have hs : am e 0 cs = cs := wz (by omega)
 have h1 : n <= e.length := by omega
 simp [stO, ak, mj, cellsOf, hn, zh, ho, he, h1, hs]
theorem anu {id g i off z : Nat} {els : List (List CV)} {e : List CV} {c : CV} (ho : h[id]? = some (.arr z els g false)) (he : els[i]? = some e) (hl : off < e.length) :
  stO h 1 (.eptr id g i off) (.cv c) = some (.undef, h.set id (.arr z (els.set i (e.set off c)) g false)) := by
 have hsp : am e off [c] = e.set off c := by
  unfold am
  simp only [List.length_singleton]
  rw [List.set_eq_take_append_cons_drop, if_pos hl, List.append_assoc, List.singleton_append]
 have h1 : off + 1 <= e.length := hl
 simp [stO, ak, mj, cellsOf, qb, clos, ho, he, h1, hsp]
end
attribute [go_sem] abi ab6 aos aoh aof aj4 aju amb anr anm ani an3 al0 akn aez af8 Wz Om
end Go.Vm
/-
 Vm: a region that draws its order, of which some operations look at one of several heaps: what must hold ahead of it (own work).
-/
namespace Go.Vm
open Go
theorem qr {call : bo} : ∀ (a b : List (Op1 × Cl)) (hs : List ah) (ck : Cks) (st : St), bz call (a ++ b) hs ck st = (bz call a hs ck st).bind fun x => bz call b x.2.1 x.2.2 x.1
 | [], b, hs, ck, st => rfl
 | (o, c) :: a, b, hs, ck, st => by
  simp only [List.cons_append, bz]
  split
  ·split
   ·split <;> exact qr a b _ _ _
   ·rfl
  ·split <;> exact qr a b _ _ _
  ·rfl
def XDA (F : Nat → Option FnIR) (P : ah → Prop) : List (Op1 × Cl) → St → (St → Prop) → Prop
  | [], st, Q => Q st
  | (o, c) :: r, st, Q => bk st.s o.g = some true ∧ ∃ st1, du (call F) st o = some (.norm, st1) ∧
      (match c with
        | .p => st1.h = st.h
        | .k => P st1.h
        | .r lo hi => st1.h = st.h ∧ (lo = hi ∨ ∀ g, P g → du (call F) ⟨st.s, g⟩ o = some (.norm, ⟨st1.s, g⟩))) ∧ XDA F P r st1 Q
def amf (a : List (Op1 × Cl)) : Nat := (a.filter fun x => isk x.2).length
theorem Hc {F : Nat → Option FnIR} {P : ah → Prop} (m : Nat) : ∀ (a : List (Op1 × Cl)) (hs : List ah) (ck : Cks) (st : St) (Q : St → Prop), (a.all fun x => match x.2 with | .p => true | .r lo hi => decide (lo = hi) || decide (hi ≤ m) | .k => true) = true → XDA F P a st Q →
    ∃ st1 L ck1, bz (call F) a hs ck st = some (st1, hs ++ L, ck1) ∧ (∀ g ∈ L, P g) ∧ L.length = amf a ∧ (∀ x ∈ ck1, x ∈ ck ∨ (x.2.1 ≤ m + 1 ∧ ∀ g, P g → x.2.2 g) ∨ ∀ g, x.2.2 g) ∧ Q st1
  | [], hs, ck, st, Q, _, hx => ⟨st, [], ck, by simp [bz], (by simp), rfl, fun _ h => .inl h, hx⟩
  | (o, c) :: r, hs, ck, st, Q, ha, hx => by
    obtain ⟨hw, st1, h1, h2, h3⟩ := hx
    simp only [List.all_cons, Bool.and_eq_true] at ha
    simp only [bz, hw, h1]
    cases c with
    | p =>
      have e : (⟨st1.s, st.h⟩ : St) = st1 := by rw [← h2]
      obtain ⟨s2, L, ck2, q1, q2, q3, q4⟩ := Hc m r hs ck st1 Q ha.2 h3
      exact ⟨s2, L, ck2, by simp only [e]; exact q1, q2, by rw [q3]; rfl, q4⟩
    | k =>
      obtain ⟨s2, L, ck2, q1, q2, q3, q4⟩ := Hc m r (hs ++ [st1.h]) ck st1 Q ha.2 h3
      refine ⟨s2, st1.h :: L, ck2, by rw [q1]; simp, fun g hg => ?_, by simp [amf, isk] at q3 ⊢; omega, q4⟩
      rcases List.mem_cons.1 hg with rfl | hg
      · exact h2
      · exact q2 g hg
    | r lo hi =>
      have e : (⟨st1.s, st.h⟩ : St) = st1 := by rw [← h2.1]
      obtain ⟨s2, L, ck2, q1, q2, q3, q4, q5⟩ := Hc m r hs (if lo = hi then (lo, hi + 1, fun _ => st1.h = st.h) :: ck else (lo, hi + 1, fun g => agc (call F) st o g st1.s) :: ck) st1 Q ha.2 h3
      refine ⟨s2, L, ck2, by simp only [e]; exact q1, q2, by rw [q3]; rfl, fun x hx => ?_, q5⟩
      rcases q4 x hx with h | h
      · split at h
        · rcases List.mem_cons.mp h with rfl | h
          · exact .inr (.inr fun _ => h2.1)
          · exact .inl h
        · rename_i hne
          rcases List.mem_cons.mp h with rfl | h
          · have : hi ≤ m := by
              have := ha.1
              simp [hne] at this
              exact this
            refine .inr (.inl ⟨by simp; omega, fun g hg => ?_⟩)
            rcases h2.2 with e | e
            · exact absurd e hne
            · exact e g hg
          · exact .inl h
      · exact .inr h
theorem tu {F : Nat -> Option FnIR} : ∀ (ops : List (Op1 × Cl)) (hs : List ah) (ck : Cks) (st : St) (Q : Pst), tf ops = true -> XD F ops st Q ->
  ∃ st1 L ck1, bz (call F) ops hs ck st = some (st1, hs ++ L, ck1) /\ (∀ x ∈ ck1, x ∈ ck \/ ∀ h, x.2.2 h) /\ Q .norm st1
 | [], hs, ck, st, Q, _, hx => ⟨st, [], ck, by simp [bz], fun _ h => .inl h, hx⟩
 | (o, c) :: r, hs, ck, st, Q, ha, hx => by
  have har : tf r = true := by
   cases c with
   | p => exact ha
   | k => exact ha
   | r lo hi => simp only [tf, Bool.and_eq_true] at ha; exact ha.2
  simp only [XD] at hx
  simp only [bz]
  cases hw : bk st.s o.g with
  | none => rw [hw] at hx; exact hx.elim
  | some b =>
   rw [hw] at hx
   cases b with
   | false =>
    cases c with
    | p => exact tu r hs ck ⟨de st.s o.d skp, st.h⟩ Q har hx
    | r lo hi => exact tu r hs ck ⟨de st.s o.d skp, st.h⟩ Q har hx
    | k =>
     obtain ⟨st1, L, ck1, q1, q2⟩ := tu r (hs ++ [st.h]) ck ⟨de st.s o.d skp, st.h⟩ Q har hx
     exact ⟨st1, st.h :: L, ck1, by rw [q1]; simp, q2⟩
   | true =>
    obtain ⟨⟨s1, h1⟩, hst, h2, h3⟩ := hx
    simp only [hst]
    cases c with
    | p =>
     have e1 : h1 = st.h := h2 rfl
     subst e1
     exact tu r hs ck ⟨s1, st.h⟩ Q har h3
    | k =>
     obtain ⟨st1, L, ck1, q1, q2⟩ := tu r (hs ++ [h1]) ck ⟨s1, h1⟩ Q har h3
     exact ⟨st1, h1 :: L, ck1, by rw [q1]; simp, q2⟩
    | r lo hi =>
     have e1 : h1 = st.h := h2 rfl
     subst e1
     have hlh : lo = hi := by
      simp only [tf, Bool.and_eq_true, beq_iff_eq] at ha
      exact ha.1
     obtain ⟨st1, L, ck1, q1, q2, q3⟩ := tu r hs (if lo = hi then (lo, hi + 1, fun _ => st.h = st.h) :: ck else (lo, hi + 1, fun h => agc (call F) st o h s1) :: ck) ⟨s1, st.h⟩ Q har h3
     refine ⟨st1, L, ck1, q1, fun x hx => ?_, q3⟩
     rcases q2 x hx with h | h
     ·rw [if_pos hlh] at h
      rcases List.mem_cons.mp h with rfl | h
      ·exact .inr fun _ => rfl
      ·exact .inl h
     ·exact .inr h
theorem uy {F : Nat -> Option FnIR} {ops : List (Op1 × Cl)} (n : Nat) {st : St} {Q : Pst} (P : ah -> Prop) (hP : P st.h)
  (ha : ((ops.take n).all fun x => match x.2 with | .p => true | .r lo hi => decide (lo = hi) || decide (hi <= amf (ops.take n)) | .k => true) = true) (hb : tf (ops.drop n) = true)
  (hx : XDA F P (ops.take n) st (fun st1 => XD F (ops.drop n) st1 Q)) : X F (.draw ops) st Q := by
 obtain ⟨st2, L, ck2, q1, q2, q3, q4, q5⟩ := Hc (amf (ops.take n)) (ops.take n) [st.h] [] st _ ha hx
 obtain ⟨st4, L2, ck4, r1, r2, r3⟩ := tu (ops.drop n) ([st.h] ++ L) ck2 st2 Q hb q5
 have hd : bz (call F) ops [st.h] [] st = some (st4, [st.h] ++ L ++ L2, ck4) := by
  have : bz (call F) (ops.take n ++ ops.drop n) [st.h] [] st = some (st4, [st.h] ++ L ++ L2, ck4) := by
   rw [qr, q1]
   exact r1
  rwa [List.take_append_drop] at this
 refine ⟨.norm, st4, ?_, r3⟩
 simp only [dt, jd, hd]
 rw [if_pos]
 intro x hx i hi1 hi2 g hg
 rcases r2 x hx with h4 | h4
 ·rcases q4 x h4 with h5 | ⟨h5, h6⟩ | h5
  ·cases h5
  ·refine h6 g ?_
   have hl : i < ([st.h] ++ L).length := by simp; omega
   rw [List.getElem?_append_left hl] at hg
   have := List.mem_of_getElem? hg
   rcases List.mem_append.1 this with h7 | h7
   ·rw [List.mem_singleton.1 h7]; exact hP
   ·exact q2 g h7
  ·exact h5 g
 ·exact h4 g
section
variable {F : Nat -> Option FnIR} {P : ah -> Prop} {d : Option Nat} {r : List (Op1 × Cl)} {s : List VV} {h : ah} {Q : St -> Prop}
theorem pk {i : Ins} {v : VV} (hp : jm i = true) (hv : ak h (ae s) i = some (v, h)) (hk : XDA F P r ⟨de s d v, h⟩ Q) : XDA F P ((⟨none, d, i⟩, .p) :: r) ⟨s, h⟩ Q :=
 ⟨rfl, ⟨de s d v, h⟩, by rw [eu hp, hv], rfl, hk⟩
theorem xh {i : Ins} {v : VV} {lo hi : Nat} (hp : jm i = true) (hP : P h) (hv : ∀ g, P g -> ak g (ae s) i = some (v, g)) (hk : XDA F P r ⟨de s d v, h⟩ Q) : XDA F P ((⟨none, d, i⟩, .r lo hi) :: r) ⟨s, h⟩ Q :=
 ⟨rfl, ⟨de s d v, h⟩, by rw [eu hp, hv h hP], ⟨rfl, .inr fun g hg => by rw [eu hp, hv g hg]⟩, hk⟩
theorem uz {i : Ins} {v : VV} {lo : Nat} (hp : jm i = true) (hv : ak h (ae s) i = some (v, h)) (hk : XDA F P r ⟨de s d v, h⟩ Q) : XDA F P ((⟨none, d, i⟩, .r lo lo) :: r) ⟨s, h⟩ Q :=
 ⟨rfl, ⟨de s d v, h⟩, by rw [eu hp, hv], ⟨rfl, .inl rfl⟩, hk⟩
theorem Hb {i : Ins} {v : VV} {h' : ah} (hp : jm i = true) (hv : ak h (ae s) i = some (v, h')) (hP : P h') (hk : XDA F P r ⟨de s d v, h'⟩ Q) : XDA F P ((⟨none, d, i⟩, .k) :: r) ⟨s, h⟩ Q :=
 ⟨rfl, ⟨de s d v, h'⟩, by rw [eu hp, hv], hP, hk⟩
theorem vo {f : Nat} {args : List Opd} {v : VV} {h' : ah} (hc : call F f (args.map (ae s)) h = some (.ret v, h')) (hP : P h') (hk : XDA F P r ⟨de s d v, h'⟩ Q) (hf : f < Ci := by decide) : XDA F P ((⟨none, d, .call f false args⟩, .k) :: r) ⟨s, h⟩ Q :=
 ⟨rfl, ⟨de s d v, h'⟩, by simp [du, kj, hf, dx, hc], hP, hk⟩
end
theorem mg {h : ah} {s : List VV} {ag : Bool} {n : Nat} {x : Opd} : ak h (ae s) (.ld ag n x) = ldO h ag n (ae s x) := rfl
theorem ah4 {h : ah} {s : List VV} {z : Nat} {x y : Opd} : ak h (ae s) (.iadL z x y) = iaO h z (ae s x) (ae s y) := rfl
end Go.Vm
/-
 Vm: heaps that grow; slices that grow in them; bytes in a box (own work).
-/
namespace Go.Vm
open Go
theorem df {h : ah} {i : Nat} {o : VO} (e : h[i]? = some o) : i < h.length := (List.getElem?_eq_some_iff.1 e).1
structure HExt (h h' : ah) : Prop where
 len : h.length <= h'.length
 same : ∀ j, j < h.length -> h'[j]? = h[j]?
theorem HExt.refl (h : ah) : HExt h h := ⟨Nat.le_refl _, fun _ _ => rfl⟩
theorem HExt.trans {h h1 h2 : ah} (a : HExt h h1) (b : HExt h1 h2) : HExt h h2 := ⟨Nat.le_trans a.len b.len, fun j hj => by rw [b.same j (Nat.lt_of_lt_of_le hj a.len), a.same j hj]⟩
theorem HExt.push (h : ah) (o : VO) : HExt h (h ++ [o]) := ⟨by simp, fun j hj => by rw [List.getElem?_append_left hj]⟩
theorem HExt.then {h h1 : ah} (a : HExt h h1) (o : VO) : HExt h (h1 ++ [o]) := a.trans (HExt.push _ _)
theorem HExt.get {h h' : ah} (e : HExt h h') {j : Nat} {o : VO} (hj : h[j]? = some o) : h'[j]? = some o := by rw [e.same j (df hj), hj]
theorem HExt.set {h h' : ah} (e : HExt h h') {i : Nat} (hi : h.length <= i) (o : VO) : HExt h (h'.set i o) := ⟨by rw [List.length_set]; exact e.len, fun j hj => by rw [List.getElem?_set_ne (by omega)]; exact e.same j hj⟩
def Ret (F : Nat -> Option FnIR) (n : Nat) (args : List VV) (h : ah) (P : VV -> ah -> Prop) : Prop := ∃ v h', call F n args h = some (.ret v, h') /\ P v h'
def Cc (F : Nat -> Option FnIR) (n : Nat) (args : List VV) (P : VV -> Prop) : Prop := Ret F n args [] fun v h' => ∃ w, av h' v = some w /\ P w
structure NB (h0 h : ah) (z : Nat) (els : List (List CV)) (v : VV) : Prop where
 ext : HExt h0 h
 v : (els = [] /\ v = bq) \/ ∃ id g, h0.length <= id /\ v = .own id g 0 els.length false /\ h[id]? = some (.arr z els g false)
section
variable {h0 h h' : ah} {z : Nat} {els new : List (List CV)} {v : VV}
theorem NB.nil (h : ah) (z : Nat) : NB h h z [] bq := ⟨HExt.refl h, .inl ⟨rfl, rfl⟩⟩
theorem NB.then (b : NB h0 h z els v) (e : HExt h h') : NB h0 h' z els v := by
 refine ⟨b.ext.trans e, ?_⟩
 rcases b.v with x | ⟨id, g, a1, a3, a4⟩
 ·exact .inl x
 ·exact .inr ⟨id, g, a1, a3, e.get a4⟩
theorem NB.setBox (b : NB h0 h z els v) {i : Nat} {cells : List VV} {fr : Bool} (hi : h0.length <= i) (hb : h[i]? = some (.box cells fr)) (o : VO) : NB h0 (h.set i o) z els v := by
 refine ⟨b.ext.set hi o, ?_⟩
 rcases b.v with x | ⟨id, g, a1, a3, a4⟩
 ·exact .inl x
 ·refine .inr ⟨id, g, a1, a3, ?_⟩
  rw [List.getElem?_set_ne (by rintro rfl; rw [hb] at a4; cases a4)]; exact a4
theorem NB.ln (b : NB h0 h z els v) : lnO false v = some (vi .i64 els.length) := by
 rcases b.v with ⟨rfl, rfl⟩ | ⟨id, g, _, rfl, _⟩ <;> rfl
theorem NB.src (b : NB h0 h z els v) : im h z v = some els := by
 rcases b.v with ⟨rfl, rfl⟩ | ⟨id, g, _, rfl, a4⟩
 ·rfl
 ·simp [im, gh, a4]
theorem NB.elsO (b : NB h0 h z els v) : gh h z v = some els := by
 rcases b.v with ⟨rfl, rfl⟩ | ⟨id, g, _, rfl, a4⟩
 ·rfl
 ·simp [gh, a4]
theorem NB.cell (b : NB h0 h z els v) : en v = true := by
 rcases b.v with ⟨_, rfl⟩ | ⟨_, _, _, rfl, _⟩ <;> rfl
theorem NB.clos (b : NB h0 h z els v) : ∃ w h1, gy h v = some (w, h1) /\ SlV z els w := by
 rcases b.v with ⟨rfl, rfl⟩ | ⟨id, g, _, rfl, a4⟩
 ·exact ⟨bq, h, rfl, .inl ⟨rfl, rfl⟩⟩
 ·exact ⟨.cv (.sl z els false), _, by simp [gy, Go.Vm.clos, a4]; rfl, .inr ⟨false, rfl⟩⟩
theorem NB.res (b : NB h0 h z els v) : ∃ w, av h v = some w /\ SlV z els w := by
 rcases b.v with ⟨rfl, rfl⟩ | ⟨id, g, _, rfl, a4⟩
 ·exact ⟨bq, rfl, .inl ⟨rfl, rfl⟩⟩
 ·exact ⟨.cv (.sl z els false), by simp [av, gy, Go.Vm.clos, a4], .inr ⟨false, rfl⟩⟩
theorem aco {by_ : Nat} {zero : List CV} {x y : Opd} {s : List VV} (b : NB h0 h z els v) (hx : ae s x = v) (hy : im h z (ae s y) = some new) (h1 : (els.length + new.length) * by_ <= 35184372088832) (h2 : els.length + new.length <= 35184372088832) :
  ∃ v' h', ak h (ae s) (.app z by_ zero x y) = some (v', h') /\ NB h0 h' z (els ++ new) v' /\ HExt h0 h' /\ h.length <= h'.length /\ (∀ j, j < h.length -> (∀ g l e, v ≠ .own j g 0 l e) -> h'[j]? = h[j]?) /\ (∀ (j : Nat) (cells : List VV) fr, h[j]? = some (.box cells fr) -> h'[j]? = some (.box cells fr)) := by
 have hm : cj = 35184372088832 := rfl
 by_cases hne : new = []
 ·subst hne
  refine ⟨v, h, ?_, by rw [List.append_nil]; exact b, b.ext, Nat.le_refl _, fun _ _ _ => rfl, fun _ _ _ e => e⟩
  have e1 := b.elsO
  simp only [List.length_nil, Nat.add_zero] at h1 h2
  rcases b.v with ⟨rfl, rfl⟩ | ⟨id, g, a1, rfl, h3⟩
  ·simp [ak, hy, hx, ly, hm, gh]
  ·simp [ak, hy, hx, ly, hm, h1, h2, e1]
 ·rcases b.v with ⟨rfl, rfl⟩ | ⟨id, g, a1, rfl, h3⟩
  ·refine ⟨.own h.length 0 0 new.length false, h ++ [.arr z new 0 false], ?_, ⟨b.ext.then _, .inr ⟨h.length, 0, b.ext.len, by simp, by simp⟩⟩, b.ext.then _, by simp, fun j hj _ => by rw [List.getElem?_append_left hj], fun j c fr hj => (HExt.push h _).get hj⟩
   simp only [List.length_nil, Nat.zero_add] at h1 h2
   simp only [ak, hy, hx, ly, hm, Nat.zero_add, h1, h2, and_self, if_true, hne, if_false]
  ·have hid := df h3
   refine ⟨.own id (g + 1) 0 (els.length + new.length) false, h.set id (.arr z (els ++ new) (g + 1) false), ?_, ⟨b.ext.set a1 _, .inr ⟨id, g + 1, a1, by simp, by rw [List.getElem?_set_self hid]⟩⟩, b.ext.set a1 _, by simp, fun j hj hn => by rw [List.getElem?_set_ne (by rintro rfl; exact hn _ _ _ rfl)], fun j c fr hj => by rw [List.getElem?_set_ne (by rintro rfl; rw [h3] at hj; cases hj)]; exact hj⟩
   simp only [ak, hy, hx, ly, hm, h1, h2, and_self, if_true, h3, Nat.zero_add, Nat.le_refl, Bool.false_eq_true, if_false, List.drop_zero, List.take_length, hne]
theorem nk {F : Nat -> Option FnIR} {by_ : Nat} {zero : List CV} {x y : Opd} {s : List VV} {d : Option Nat} {r : List Op1} {Q : Pst} (b : NB h0 h z els v) (hx : ae s x = v) (hy : im h z (ae s y) = some new) (h1 : (els.length + new.length) * by_ <= 35184372088832) (h2 : els.length + new.length <= 35184372088832)
  (hk : ∀ v' h', NB h0 h' z (els ++ new) v' -> h.length <= h'.length -> (∀ j, j < h.length -> (∀ g l e, v ≠ .own j g 0 l e) -> h'[j]? = h[j]?) -> (∀ (j : Nat) (cells : List VV) fr, h[j]? = some (.box cells fr) -> h'[j]? = some (.box cells fr)) -> XO F r ⟨de s d v', h'⟩ Q) : XO F (⟨none, d, .app z by_ zero x y⟩ :: r) ⟨s, h⟩ Q := by
 obtain ⟨v', h', e1, e2, e3, e4, e5, e6⟩ := aco (zero := zero) b hx hy h1 h2
 rw [ii rfl, e1, lc]
 exact hk v' h' e2 e4 e5 e6
theorem aat {F : Nat -> Option FnIR} {by_ : Nat} {zero : List CV} {x y : Opd} {s : List VV} {d : Option Nat} {q : List (Op1 × Cl)} {Q : Pst} (b : NB h0 h z els v) (hx : ae s x = v) (hy : im h z (ae s y) = some new) (h1 : (els.length + new.length) * by_ <= 35184372088832) (h2 : els.length + new.length <= 35184372088832)
  (hk : ∀ v' h', NB h0 h' z (els ++ new) v' -> h.length <= h'.length -> (∀ j, j < h.length -> (∀ g l e, v ≠ .own j g 0 l e) -> h'[j]? = h[j]?) -> (∀ (j : Nat) (cells : List VV) fr, h[j]? = some (.box cells fr) -> h'[j]? = some (.box cells fr)) -> XD F q ⟨de s d v', h'⟩ Q) : XD F ((⟨none, d, .app z by_ zero x y⟩, .k) :: q) ⟨s, h⟩ Q := by
 obtain ⟨v', h', e1, e2, e3, e4, e5, e6⟩ := aco (zero := zero) b hx hy h1 h2
 rw [mi rfl, e1, Rm]
 exact hk v' h' e2 e4 e5 e6
end
def bC (b : List UInt8) : List CV := b.map fun x => .sc (.int .u8 x.toNat)
theorem qk {b : List UInt8} : (bC b).length = b.length := by simp [bC]
abbrev kk (b : List UInt8) : VO := .box ((bC b).map .cv) false
theorem qu (n : Nat) : List.replicate n (VV.cv (.sc (.int .u8 0))) = (bC (List.replicate n 0)).map .cv := by simp [bC]
theorem af6 (b : List UInt8) : (eB b).flatten = bC b := by
 induction b with
 | nil => rfl
 | cons x b ih =>
  simp only [eB, bC, List.map_cons, List.flatten_cons, bc] at ih |-
  rw [ih]; rfl
theorem Bk {h : ah} {p j : Nat} {b : List UInt8} {x : UInt8} (hb : h[p]? = some (kk b)) (hj : j < b.length) :
  stO h 1 (.ptr p j) (vi .u8 x.toNat) = some (.undef, h.set p (kk (b.set j x))) := by
 rw [zl rfl hb (by simp [qk]; exact hj)]
 unfold kk bC
 rw [List.map_set, List.map_set]
theorem Pe (l : List CV) (f : VV -> Option CV) (hf : ∀ c, f (.cv c) = some c) : (l.map VV.cv).mapM f = some l := by
 induction l with
 | nil => rfl
 | cons c r ih => simp [List.mapM_cons, hf, ih]
theorem Dd : ∀ (n : Nat) (l : List CV), l.length = n -> na 1 n l = l.map fun c => [c] := by
 intro n l hl
 subst hl
 unfold na
 apply List.ext_getElem
 ·simp
 ·intro i h1 h2
  have hi : i < l.length := by simpa using h2
  simp only [List.getElem_map, List.getElem_range, Nat.mul_one]
  rw [List.drop_eq_getElem_cons hi]; rfl
theorem Md {h : ah} {p off len : Nat} {b : List UInt8} {ex : Bool} (hb : h[p]? = some (kk b)) (hl : off + len <= b.length) : gy h (.ob p off len 1 ex) = some (.cv (.sl 1 (eB ((b.drop off).take len)) ex), h.set p (.box ((bC b).map .cv) true)) := by
 have e1 : (((bC b).map VV.cv).drop off).take (len * 1) = (bC ((b.drop off).take len)).map .cv := by
  simp [bC, List.map_take, List.map_drop]
 have hlen : (bC ((b.drop off).take len)).length = len := by rw [qk, List.length_take, List.length_drop]; omega
 have hE : na 1 len (bC ((b.drop off).take len)) = eB ((b.drop off).take len) := by
  rw [Dd _ _ hlen]; unfold bC eB; rw [List.map_map]; rfl
 unfold gy clos
 simp only [hb]
 rw [e1, Pe _ _ (fun _ => rfl)]
 simp only [hlen, Nat.mul_one, if_true, hE]
theorem gb {α : Type} {l c : List α} {off : Nat} (h : off + c.length <= l.length) : (am l off c).length = l.length := by
 unfold am; simp; omega
theorem Dt {α β : Type} (f : α -> β) (l c : List α) (off : Nat) : am (l.map f) off (c.map f) = (am l off c).map f := by
 unfold am; simp [List.map_take, List.map_drop]
theorem afi {h : ah} {p off len : Nat} {b c : List UInt8} {ex : Bool} {w : VV} (hb : h[p]? = some (kk b)) (hl : off + len <= b.length) (hw : im h 1 w = some (eB c)) (hc : c.length <= len) :
  cpO h 1 (.ob p off len 1 ex) w = some (.cv (.sc (.int .i64 c.length)), h.set p (kk (am b off c))) := by
 have hl' : off + len * 1 <= ((bC b).map VV.cv).length := by simp [qk]; omega
 rw [ai3 hb hl' hw]
 have e0 : (eB c).length = c.length := by simp [eB]
 have e1 : min (eB c).length len = c.length := by rw [e0]; omega
 have e2 : (eB c).take c.length = eB c := List.take_of_length_le (by rw [e0]; exact Nat.le_refl _)
 rw [e1, e2, af6, Dt]
 have : am (bC b) off (bC c) = bC (am b off c) := by unfold bC; rw [Dt]
 have e3 : min ((eB c).length : Int) (len : Int) = (c.length : Int) := by rw [e0]; omega
 rw [this]
 simp only [e3]
theorem Ta {h : ah} {n id a : Nat} {cells : List VV} {fr : Bool} {k : IntKind} (ho : h[id]? = some (.box cells fr)) (hl : n <= cells.length) (ha : a <= n) : saO h n 1 (.ptr id 0) (some (vi k a)) none = some (.ob id a (n - a) 1 true, h) := by
 have h1 : (a : Int) <= (n : Int) := by omega
 simp [saO, ak, mj, bnd, pj, ho, hl, h1]
theorem ao0 {h : ah} {z0 z1 z2 z3 a b c d : CV} : mkO h 1 4 [.cv z0, .cv z1, .cv z2, .cv z3] [(0, 1, .cv a), (1, 1, .cv b), (2, 1, .cv c), (3, 1, .cv d)] = some (.cv (.sl 1 [[a], [b], [c], [d]] true), h) := rfl
theorem abb {F : Nat -> Option FnIR} {h h0 : ah} {s : List VV} {z by_ : Nat} {zero : List CV} {k k' : IntKind} {b : Nat} {x y : Opd} {d : Option Nat} {r : List Op1} {Q : Pst} (e : HExt h0 h) (hx : ae s x = vi k 0) (hy : ae s y = vi k' b) (hb : 0 < b) (h1 : b * by_ <= 35184372088832) (h2 : b <= 35184372088832)
  (hk : ∀ v h', NB h0 h' z [] v -> HExt h h' -> XO F r ⟨de s d v, h'⟩ Q) : XO F (⟨none, d, .mks z by_ zero x y true⟩ :: r) ⟨s, h⟩ Q := by
 have hm : cj = 35184372088832 := rfl
 have c1 : (b : Int) * by_ <= 35184372088832 := by rw [<- Int.natCast_mul]; omega
 have c2 : (b : Int) <= 35184372088832 := by omega
 have c3 : ¬ (0 : Int) = (b : Int) := by omega
 have hst : ak h (ae s) (.mks z by_ zero x y true) = some (.own h.length 0 0 0 false, h ++ [.arr z [] 0 false]) := by
  simp only [ak, hx, hy, pj]
  rw [if_pos ⟨Int.le_refl _, by omega, by rw [hm]; exact c1, by rw [hm]; exact c2⟩]
  simp only [if_true, decide_eq_false c3]
  rfl
 rw [ii rfl, hst, lc]
 exact hk _ _ ⟨e.then _, .inr ⟨h.length, 0, e.len, rfl, by simp⟩⟩ (HExt.push _ _)
structure BSrc (h0 h : ah) (b : List UInt8) (u : VV) : Prop where
 ln : lnO false u = some (vi .i64 b.length)
 cl : ∃ w h1, ce h [u] = some ([w], h1) /\ SlV 1 (eB b) w /\ HExt h0 h1 /\ ∀ h2, HExt h1 h2 -> im h2 1 u = some (eB b)
theorem SlV.bsrc {h0 h : ah} {b : List UInt8} {u : VV} (hu : SlV 1 (eB b) u) (e : HExt h0 h) : BSrc h0 h b u :=
 ⟨by rw [hu.ln, aw], u, h, hu.clos rfl, hu, e, fun h2 _ => hu.src⟩
theorem aei {h0 h : ah} {b : List UInt8} {p : Nat} {ex : Bool} (e : HExt h0 h) (hp : h[p]? = some (kk b)) (h0p : h0.length <= p) : BSrc h0 h b (.ob p 0 b.length 1 ex) := by
 have hc := Md (ex := ex) (off := 0) (len := b.length) hp (by omega)
 rw [List.drop_zero, List.take_length] at hc
 refine ⟨rfl, .cv (.sl 1 (eB b) ex), h.set p (.box ((bC b).map .cv) true), by simp only [ce, hc], .inr ⟨ex, rfl⟩, e.set h0p _, fun h2 e2 => ?_⟩
 have hp2 : h2[p]? = some (.box ((bC b).map .cv) true) := e2.get (by rw [List.getElem?_set_self (df hp)])
 have e1 : (((bC b).map VV.cv).drop 0).take (b.length * 1) = (bC b).map .cv := by
  rw [List.drop_zero, List.take_of_length_le (by rw [List.length_map, qk]; omega)]
 show gh h2 1 (.ob p 0 b.length 1 ex) = _
 unfold gh
 simp only [hp2]
 rw [e1, Pe _ _ (fun _ => rfl)]
 simp only [qk, Nat.mul_one, and_self, if_true]
 rw [Dd _ _ qk]
 unfold bC eB
 rw [List.map_map]; rfl
theorem NB.bsrc {h0 h : ah} {b : List UInt8} {u : VV} (hu : NB h0 h 1 (eB b) u) : BSrc h0 h b u := by
 rcases hu.v with ⟨e, rfl⟩ | ⟨id, g, hid, rfl, a4⟩
 ·exact SlV.bsrc (.inl ⟨rfl, e⟩) hu.ext
 ·refine ⟨by rw [hu.ln, aw], .cv (.sl 1 (eB b) false), h.set id (.arr 1 (eB b) g true), by simp [ce, gy, Go.Vm.clos, a4], .inr ⟨false, rfl⟩, hu.ext.set hid _, fun h2 e2 => ?_⟩
  have := e2.get (show (h.set id (.arr 1 (eB b) g true))[id]? = some (.arr 1 (eB b) g true) by rw [List.getElem?_set_self (df a4)])
  simp [im, gh, this]
theorem Bn {α : Type} {l c : List α} {off k : Nat} {x : α} (h : off + c.length < l.length) (hk : c.length = k) : (am l off c).set (off + k) x = am l off (c ++ [x]) := by
 subst hk
 unfold am
 have h1 : (l.take off).length = off := by simp; omega
 rw [List.append_assoc, List.set_append_right _ _ (by omega), h1, Nat.add_sub_cancel_left, List.set_append_right _ _ (Nat.le_refl _), Nat.sub_self, List.drop_eq_getElem_cons h, List.set_cons_zero]
 simp [Nat.add_assoc]
theorem Na {α : Type} {l : List α} {off : Nat} : am l off [] = l := by unfold am; simp
theorem ad9 {h : ah} {n : Nat} {e : List CV} (he : e.length = n) : ldO h true n (.rptr e) = some (.agg (e.map .cv), h) := by
 have : e.take n = e := List.take_of_length_le (by omega)
 simp [ldO, ak, mj, dm, this, he]
theorem Ao {h : ah} {n p : Nat} {cells : List VV} {fr : Bool} (ho : h[p]? = some (.box cells fr)) (hn : cells.length = n) : ldO h true n (.ptr p 0) = some (.agg cells, h) := nr ho hn
theorem Wt {P : VV -> ah -> Prop} {s : List VV} {h : ah} {a n id : Nat} {cells : List VV} {fr : Bool} (ha : s.getD a .undef = .ptr id 0) (ho : h[id]? = some (.box cells fr)) (hn : cells.length = n)
  (hP : P (.agg cells) h) : RQ [.cell a true n] P .ret ⟨s, h⟩ := by
 subst hn
 refine ⟨trivial, [.agg cells], ?_, hP⟩
 simp only [ke, yc, ha, ho, List.drop_zero, List.take_length, dm, if_true]
theorem aay {P : VV -> ah -> Prop} {s : List VV} {h : ah} {a m n id : Nat} {cells : List VV} {fr : Bool} (ha : s.getD a .undef = .ptr id 0) (ho : h[id]? = some (.box cells fr)) (hn : cells.length = n) (hm : m < s.length)
  (hP : P (.tup [.agg cells, s.getD m .undef]) h) : RQ [.cell a true n, .t m] P .ret ⟨s, h⟩ := by
 subst hn
 refine ⟨trivial, [.agg cells, s.getD m .undef], ?_, hP⟩
 simp only [ke, yc, ki hm, ha, ho, List.drop_zero, List.take_length, dm, if_true]
end Go.Vm
/-
 Sums of bytes: jm laws (own work).
-/
namespace Go.Vm
open Go
theorem Db {a b : Nat} (ha : a < 4294967296) (hb : b < 4294967296) : bits .xor .u32 (a : Int) (b : Int) = ((a ^^^ b : Nat) : Int) := by
 have hx : a ^^^ b < 2 ^ 32 := Nat.xor_lt_two_pow (by omega) (by omega)
 have e1 : (BitVec.ofInt IntKind.u32.bits (a : Int) ^^^ BitVec.ofInt IntKind.u32.bits (b : Int)).toNat = a ^^^ b := by
  have h1 : (BitVec.ofInt 32 (a : Int)).toNat = a := by simp [BitVec.toNat_ofInt]; omega
  have h2 : (BitVec.ofInt 32 (b : Int)).toNat = b := by simp [BitVec.toNat_ofInt]; omega
  show (BitVec.ofInt 32 (a : Int) ^^^ BitVec.ofInt 32 (b : Int)).toNat = a ^^^ b
  rw [BitVec.toNat_xor, h1, h2]
 simp only [bits]
 rw [e1]
 exact IntWalk.u32_in _ (by omega)
theorem Uv {a : Nat} (ha : a < 4294967296) : bits .and .u32 (a : Int) 1 = ((a % 2 : Nat) : Int) := by
 have e1 : (BitVec.ofInt IntKind.u32.bits (a : Int) &&& BitVec.ofInt IntKind.u32.bits 1).toNat = a % 2 := by
  have h1 : (BitVec.ofInt 32 (a : Int)).toNat = a := by simp [BitVec.toNat_ofInt]; omega
  have h2 : (BitVec.ofInt 32 1).toNat = 1 := by decide
  show (BitVec.ofInt 32 (a : Int) &&& BitVec.ofInt 32 1).toNat = a % 2
  rw [BitVec.toNat_and, h1, h2, Nat.and_one_is_mod]
 simp only [bits]
 rw [e1]
 exact IntWalk.u32_in _ (by omega)
theorem Un {a b : Nat} (ha : a < 256) (hb : b < 256) : bits .xor .u8 (a : Int) (b : Int) = ((a ^^^ b : Nat) : Int) := by
 have hx : a ^^^ b < 2 ^ 8 := Nat.xor_lt_two_pow (by omega) (by omega)
 have e1 : (BitVec.ofInt IntKind.u8.bits (a : Int) ^^^ BitVec.ofInt IntKind.u8.bits (b : Int)).toNat = a ^^^ b := by
  have h1 : (BitVec.ofInt 8 (a : Int)).toNat = a := by simp [BitVec.toNat_ofInt]; omega
  have h2 : (BitVec.ofInt 8 (b : Int)).toNat = b := by simp [BitVec.toNat_ofInt]; omega
  show (BitVec.ofInt 8 (a : Int) ^^^ BitVec.ofInt 8 (b : Int)).toNat = a ^^^ b
  rw [BitVec.toNat_xor, h1, h2]
 simp only [bits]
 rw [e1]
 exact IntWalk.u8_in _ (by omega)
theorem Pc {a : Nat} (ha : a < 4294967296) : unO .xor (vi .u32 (a : Int)) = some (vi .u32 ((4294967295 ^^^ a : Nat) : Int)) := by
 have hx : 4294967295 ^^^ a < 2 ^ 32 := Nat.xor_lt_two_pow (by omega) (by omega)
 have e1 : (BitVec.ofInt IntKind.u32.bits (if IntKind.u32.signed then -1 else IntKind.u32.max) ^^^ BitVec.ofInt IntKind.u32.bits (a : Int)).toNat = 4294967295 ^^^ a := by
  have h1 : (BitVec.ofInt 32 (a : Int)).toNat = a := by simp [BitVec.toNat_ofInt]; omega
  have h2 : (BitVec.ofInt 32 (if IntKind.u32.signed then -1 else IntKind.u32.max)).toNat = 4294967295 := by decide
  show (BitVec.ofInt 32 (if IntKind.u32.signed then -1 else IntKind.u32.max) ^^^ BitVec.ofInt 32 (a : Int)).toNat = 4294967295 ^^^ a
  rw [BitVec.toNat_xor, h1, h2]
 simp only [unO, unV, Option.map_some]
 rw [e1, IntWalk.u32_in _ (by omega)]
def Cd (n : Nat) : Nat := (n / 2) ^^^ (3988292384 * (n % 2))
def ev : Nat -> Nat -> Nat
 | 0, n => n
 | k + 1, n => ev k (Cd n)
def amm (n : Nat) (b : List UInt8) : Nat := b.foldl (fun n c => ev 8 (n ^^^ c.toNat)) n
def al9 (n : Nat) (b : List UInt8) : Nat := 4294967295 ^^^ amm (4294967295 ^^^ n) b
def crc (b : List UInt8) : Nat := al9 0 b
def le4 (n : Nat) : List UInt8 := [UInt8.ofNat (n % 256), UInt8.ofNat (n / 256 % 256), UInt8.ofNat (n / 65536 % 256), UInt8.ofNat (n / 16777216)]
def oc (b : List UInt8) : List UInt8 := b ++ le4 (crc b)
theorem Pu {n : Nat} (h : n < 4294967296) : Cd n < 4294967296 := by
 unfold Cd
 have : n % 2 < 2 := Nat.mod_lt _ (by decide)
 exact Nat.xor_lt_two_pow (n := 32) (by omega) (by omega)
theorem we : ∀ (k : Nat) {n : Nat}, n < 4294967296 -> ev k n < 4294967296
 | 0, n, h => h
 | k + 1, n, h => we k (Pu h)
theorem al1 {n : Nat} (h : n < 4294967296) (c : UInt8) : n ^^^ c.toNat < 4294967296 := Nat.xor_lt_two_pow (n := 32) (by omega) (by have := c.toNat_lt; omega)
theorem Lj : ∀ (b : List UInt8) {n : Nat}, n < 4294967296 -> amm n b < 4294967296
 | [], n, h => h
 | c :: b, n, h => Lj b (we 8 (al1 h c))
theorem aha {n : Nat} (h : n < 4294967296) (b : List UInt8) : al9 n b < 4294967296 := Nat.xor_lt_two_pow (n := 32) (by decide) (Lj b (Nat.xor_lt_two_pow (n := 32) (by decide) h))
theorem ai7 (b : List UInt8) : crc b < 4294967296 := aha (by decide) b
theorem ox (b : List UInt8) : (oc b).length = b.length + 4 := by simp [oc, le4]
theorem Sv (a b : Nat) : Cd (a ^^^ b) = Cd a ^^^ Cd b := by
 unfold Cd
 have e1 : (a ^^^ b) / 2 = a / 2 ^^^ b / 2 := by
  have := Nat.shiftRight_xor_distrib (a := a) (b := b) (i := 1)
  simpa [Nat.shiftRight_eq_div_pow] using this
 have e2 : 3988292384 * ((a ^^^ b) % 2) = (3988292384 * (a % 2)) ^^^ (3988292384 * (b % 2)) := by
  have : (a ^^^ b) % 2 = (a % 2) ^^^ (b % 2) := by
   have := Nat.xor_mod_two_pow (a := a) (b := b) (n := 1)
   simpa using this
  rw [this]
  rcases Nat.mod_two_eq_zero_or_one a with h | h <;> rcases Nat.mod_two_eq_zero_or_one b with h' | h' <;> rw [h, h'] <;> rfl
 rw [e1, e2]
 simp only [Nat.xor_assoc]
 congr 1
 simp only [<- Nat.xor_assoc]
 rw [Nat.xor_comm (b / 2)]
theorem Dz : ∀ (k a b : Nat), ev k (a ^^^ b) = ev k a ^^^ ev k b
 | 0, a, b => rfl
 | k + 1, a, b => by simp only [ev]; rw [Sv, Dz k]
theorem Ap : ∀ (k m : Nat), ev k (2 ^ k * m) = m
 | 0, m => by simp [ev]
 | k + 1, m => by
  have e : Cd (2 ^ (k + 1) * m) = 2 ^ k * m := by
   unfold Cd
   have : 2 ^ (k + 1) * m = 2 * (2 ^ k * m) := by rw [Nat.pow_succ, Nat.mul_comm (2 ^ k) 2, Nat.mul_assoc]
   rw [this, Nat.mul_mod_right, Nat.mul_div_cancel_left _ (by decide)]
   simp
  simp only [ev]
  rw [e, Ap k m]
theorem Jo (x : Nat) : ev 8 x = (x / 256) ^^^ ev 8 (x % 256) := by
  have hx : x = (256 * (x / 256)) ^^^ (x % 256) := by
    have e : 256 * (x / 256) + x % 256 = (256 * (x / 256)) ||| (x % 256) := Nat.two_pow_add_eq_or_of_lt (i := 8) (Nat.mod_lt _ (by decide)) (x / 256)
    have e2 : (256 * (x / 256)) ||| (x % 256) = (256 * (x / 256)) ^^^ (x % 256) := by
      apply Nat.eq_of_testBit_eq
      intro i
      rw [Nat.testBit_or, Nat.testBit_xor]
      by_cases hi : i < 8
      · have : (256 * (x / 256)).testBit i = false := by
          have := Nat.testBit_two_pow_mul (i := 8) (a := x / 256) (j := i)
          rw [show (256 : Nat) = 2 ^ 8 from rfl, this]
          simp; omega
        simp [this]
      · have : (x % 256).testBit i = false := by
          rw [show (256 : Nat) = 2 ^ 8 from rfl, Nat.testBit_mod_two_pow]
          simp; omega
        simp [this]
    have e3 := Nat.div_add_mod x 256
    omega
  calc ev 8 x = ev 8 ((256 * (x / 256)) ^^^ (x % 256)) := by rw [← hx]
    _ = ev 8 (256 * (x / 256)) ^^^ ev 8 (x % 256) := Dz 8 _ _
    _ = (x / 256) ^^^ ev 8 (x % 256) := by rw [show ev 8 (256 * (x / 256)) = x / 256 from Ap 8 _]
theorem Mt (n : Nat) (c : UInt8) : ev 8 (n ^^^ c.toNat) = (n / 256) ^^^ ev 8 ((n % 256) ^^^ c.toNat) := by
 have hc := c.toNat_lt
 have e1 : (n ^^^ c.toNat) / 256 = n / 256 := by
  have := Nat.shiftRight_xor_distrib (a := n) (b := c.toNat) (i := 8)
  simp only [Nat.shiftRight_eq_div_pow] at this
  rw [show (2 : Nat) ^ 8 = 256 from rfl] at this
  rw [this, Nat.div_eq_of_lt hc, Nat.xor_zero]
 have e2 : (n ^^^ c.toNat) % 256 = (n % 256) ^^^ c.toNat := by
  have := Nat.xor_mod_two_pow (a := n) (b := c.toNat) (n := 8)
  rw [show (2 : Nat) ^ 8 = 256 from rfl] at this
  rw [this, Nat.mod_eq_of_lt hc]
 rw [Jo, e1, e2]
end Go.Vm
/-
 Vm: slices that are read, written no more (own work).
-/
namespace Go.Vm
open Go
def NF (h : ah) (z : Nat) (els : List (List CV)) (v : VV) : Prop := SlV z els v \/ ∃ id g ex fr, v = .own id g 0 els.length ex /\ h[id]? = some (.arr z els g fr)
section
variable {h h' : ah} {z : Nat} {els : List (List CV)} {v : VV}
structure Froze (h h1 : ah) : Prop where
 len : h1.length = h.length
 box : ∀ (j : Nat) (o : VO), h[j]? = some o -> (∀ z e g fr, o ≠ .arr z e g fr) -> h1[j]? = some o
 arr : ∀ (j : Nat) (z : Nat) (e : List (List CV)) (g : Nat) fr, h[j]? = some (.arr z e g fr) -> ∃ fr', h1[j]? = some (.arr z e g fr')
theorem Froze.refl (h : ah) : Froze h h := ⟨rfl, fun _ _ e _ => e, fun _ _ _ _ fr e => ⟨fr, e⟩⟩
theorem NF.at_ (b : NF h z els v) {k : IntKind} {j : Nat} {e : List CV} (he : els[j]? = some e) : ∃ p, iaO h z v (vi k (j : Int)) = some (p, h) /\ (p = .rptr e \/ ∃ id g fr, p = .eptr id g j 0 /\ h[id]? = some (.arr z els g fr)) := by
 have hj := (List.getElem?_eq_some_iff.1 he).1
 rcases b with b | ⟨id, g, ex, fr, rfl, a⟩
 ·exact ⟨.rptr e, b.ia (by omega) (by simpa using he), .inl rfl⟩
 ·exact ⟨.eptr id g j 0, by rw [yh (by omega) a (by simpa using hj)]; simp, .inr ⟨id, g, fr, rfl, a⟩⟩
theorem NF.cell (b : NF h z els v) {k : IntKind} {j : Nat} {e : List CV} (he : els[j]? = some e) : ∃ p, iaO h z v (vi k (j : Int)) = some (p, h) /\ (∀ n, e.length = n -> ldO h true n p = some (.agg (e.map .cv), h)) /\ (∀ off c, e[off]? = some c -> ∃ q, fdO off p = some q /\ ldO h false 1 q = some (.cv c, h)) /\ (∀ c r, e = c :: r -> ldO h false 1 p = some (.cv c, h)) := by
 obtain ⟨p, h1, h2⟩ := b.at_ (k := k) he
 refine ⟨p, h1, ?_⟩
 rcases h2 with rfl | ⟨id, g, fr, rfl, a⟩
 ·refine ⟨fun n hn => ad9 hn, fun off c hc => ⟨.rptr (e.drop off), rfl, ?_⟩, fun c r hc => by subst hc; exact iu⟩
  obtain ⟨hlt, e1⟩ := List.getElem?_eq_some_iff.1 hc
  rw [List.drop_eq_getElem_cons hlt, e1]
  exact iu
 ·refine ⟨fun n hn => og a he hn, fun off c hc => ⟨.eptr id g j (0 + off), rfl, ?_⟩, fun c r hc => Gs a he (by subst hc; rfl)⟩
  rw [Nat.zero_add]; exact Gs a he hc
end
end Go.Vm
/-
 Vm: the front of a slice that grew (own work).
-/
namespace Go.Vm
open Go
end Go.Vm
/-
 Vm: views: slices that are read, wherever they begin and end (own work).
-/
namespace Go.Vm
open Go
def VF (h : ah) (z : Nat) (els : List (List CV)) (v : VV) : Prop :=
 SlV z els v \/ ∃ id g off ex fr full, v = .own id g off els.length ex /\ h[id]? = some (.arr z full g fr) /\ off + els.length <= full.length /\ els = (full.drop off).take els.length
section
variable {h h' : ah} {z : Nat} {els : List (List CV)} {v : VV}
theorem SlV.vf (b : SlV z els v) : VF h z els v := .inl b
theorem VF.ln (b : VF h z els v) : lnO false v = some (vi .i64 els.length) := by
 rcases b with b | ⟨id, g, off, ex, fr, full, rfl, _⟩
 ·exact b.ln
 ·rfl
theorem VF.lenv (b : VF h z els v) : ly v = some els.length := by
 rcases b with b | ⟨id, g, off, ex, fr, full, rfl, _⟩
 ·rcases b with ⟨rfl, rfl⟩ | ⟨ex, rfl⟩ <;> rfl
 ·rfl
theorem VF.ext (b : VF h z els v) (e : HExt h h') : VF h' z els v := by
 rcases b with b | ⟨id, g, off, ex, fr, full, rfl, a, a2⟩
 ·exact .inl b
 ·exact .inr ⟨id, g, off, ex, fr, full, rfl, e.get a, a2⟩
theorem VF.elsO (b : VF h z els v) : gh h z v = some els := by
 rcases b with b | ⟨id, g, off, ex, fr, full, rfl, a, a2, a3⟩
 ·exact b.els
 ·simp [gh, a, a2]; exact a3.symm
theorem VF.src (b : VF h z els v) : im h z v = some els := by
 rcases b with b | ⟨id, g, off, ex, fr, full, rfl, a, a2, a3⟩
 ·exact b.src
 ·simp [im, gh, a, a2]; exact a3.symm
theorem VF.clos (b : VF h z els v) : ∃ w h1, gy h v = some (w, h1) /\ SlV z els w /\ Froze h h1 := by
 rcases b with b | ⟨id, g, off, ex, fr, full, rfl, a, a2, a3⟩
 ·refine ⟨v, h, ?_, b, Froze.refl h⟩
  rcases b with ⟨rfl, rfl⟩ | ⟨ex, rfl⟩ <;> rfl
 ·refine ⟨.cv (.sl z els ex), h.set id (.arr z full g true), by simp [gy, Go.Vm.clos, a, a2]; exact a3.symm, .inr ⟨ex, rfl⟩, by simp, fun j o e hn => ?_, fun j z' e' g' fr' hj => ?_⟩
  ·rw [List.getElem?_set_ne (by rintro rfl; rw [a] at e; cases e; exact hn _ _ _ _ rfl)]; exact e
  ·by_cases hij : id = j
   ·subst hij
    rw [a] at hj; cases hj
    exact ⟨true, by rw [List.getElem?_set_self (df a)]⟩
   ·exact ⟨fr', by rw [List.getElem?_set_ne hij]; exact hj⟩
theorem VF.from_ (b : VF h z els v) {k : IntKind} {n : Nat} (hn : n <= els.length) : ∃ w, slO h z v (some (vi k (n : Int))) none none = some (w, h) /\ VF h z (els.drop n) w := by
 rcases b with b | ⟨id, g, off, ex, fr, full, rfl, a, a2, a3⟩
 ·obtain ⟨w, h1, h2⟩ := b.from_ (h := h) (k := k) (a := (n : Int)) (by omega) (by omega)
  rw [Int.toNat_natCast] at h1
  exact ⟨w, h2, .inl h1⟩
 ·have c1 : (n : Int) <= (els.length : Int) := by omega
  have hl : (els.drop n).length = els.length - n := by rw [List.length_drop]
  refine ⟨_, by simp [slO, ak, mj, ly, bnd, pj, c1, a]; rfl, .inr ⟨id, g, off + n, _, fr, full, by rw [hl], a, by omega, ?_⟩⟩
  rw [hl]
  conv => lhs; rw [a3]
  rw [List.drop_take, List.drop_drop]
theorem VF.cell (b : VF h z els v) {k : IntKind} {j : Nat} {e : List CV} (he : els[j]? = some e) : ∃ p, iaO h z v (vi k (j : Int)) = some (p, h) ∧ (∀ n, e.length = n → ldO h true n p = some (.agg (e.map .cv), h)) ∧ (∀ off c, e[off]? = some c → ∃ q, fdO off p = some q ∧ ldO h false 1 q = some (.cv c, h)) ∧ (∀ c r, e = c :: r → ldO h false 1 p = some (.cv c, h)) := by
  have hj := (List.getElem?_eq_some_iff.1 he).1
  rcases b with b | ⟨id, g, off, ex, fr, full, rfl, a, a2, a3⟩
  · exact (show NF h z els v from .inl b).cell (k := k) he
  · have hf : full[off + j]? = some e := by
      have h2 : ((full.drop off).take els.length)[j]? = some e := by rw [← a3]; exact he
      rw [List.getElem?_take, if_pos hj, List.getElem?_drop] at h2
      exact h2
    refine ⟨.eptr id g (off + j) 0, by rw [yh (by omega) a (by simpa using hj)]; simp, fun n hn => og a hf hn, fun o c hc => ⟨.eptr id g (off + j) (0 + o), rfl, by rw [Nat.zero_add]; exact Gs a hf hc⟩, fun c r hc => Gs a hf (by subst hc; rfl)⟩
theorem VF.nil : VF h z [] bq := .inl (.inl ⟨rfl, rfl⟩)
end
end Go.Vm
/-
 The order of texts (own work).
-/
namespace Go.Vm
open Go
theorem Bx : ∀ a : List UInt8, Op.bytesLess a a = false
 | [] => rfl
 | x :: a => by simp [Op.bytesLess, Bx a]
theorem Pb : ∀ {a b c : List UInt8}, Op.bytesLess a b = true -> Op.bytesLess b c = true -> Op.bytesLess a c = true
 | a, b, [], h1, h2 => by cases b <;> simp [Op.bytesLess] at h2
 | [], b, z :: c, h1, h2 => rfl
 | x :: a, [], z :: c, h1, h2 => by simp [Op.bytesLess] at h1
 | x :: a, y :: b, z :: c, h1, h2 => by
  simp only [Op.bytesLess, Bool.or_eq_true, decide_eq_true_eq, Bool.and_eq_true, beq_iff_eq] at h1 h2 |-
  rcases h1 with h1 | ⟨rfl, h1⟩
  ·rcases h2 with h2 | ⟨rfl, h2⟩
   ·exact .inl (UInt8.lt_trans h1 h2)
   ·exact .inl h1
  ·rcases h2 with h2 | ⟨rfl, h2⟩
   ·exact .inl h2
   ·exact .inr ⟨rfl, Pb h1 h2⟩
theorem Pw : ∀ a b : List UInt8, Op.bytesLess a b = true \/ a = b \/ Op.bytesLess b a = true
 | [], [] => .inr (.inl rfl)
 | [], _ :: _ => .inl rfl
 | _ :: _, [] => .inr (.inr rfl)
 | x :: a, y :: b => by
  simp only [Op.bytesLess, Bool.or_eq_true, decide_eq_true_eq, Bool.and_eq_true, beq_iff_eq]
  rcases Nat.lt_trichotomy x.toNat y.toNat with h | h | h
  ·exact .inl (.inl (UInt8.lt_iff_toNat_lt.2 h))
  ·have e := UInt8.toNat_inj.1 h
   subst e
   rcases Pw a b with h | h | h
   ·exact .inl (.inr ⟨rfl, h⟩)
   ·exact .inr (.inl (by rw [h]))
   ·exact .inr (.inr (.inr ⟨rfl, h⟩))
  ·exact .inr (.inr (.inl (UInt8.lt_iff_toNat_lt.2 h)))
theorem aad {a b : List UInt8} (h : Op.bytesLess a b = true) : Op.bytesLess b a = false := by
 cases h2 : Op.bytesLess b a with
 | false => rfl
 | true => have := Pb h h2; rw [Bx] at this; cases this
def Co (a b : List UInt8) : Bool := Op.bytesLess a b || a == b
theorem Ar {a b : List UInt8} : Co a b = true ↔ Op.bytesLess b a = false := by
 unfold Co
 rw [Bool.or_eq_true, beq_iff_eq]
 constructor
 ·rintro (h | rfl)
  ·exact aad h
  ·exact Bx _
 ·intro h
  rcases Pw a b with h1 | h1 | h1
  ·exact .inl h1
  ·exact .inr h1
  ·rw [h1] at h; cases h
theorem Uy {a b : List UInt8} : Co a b = false ↔ Op.bytesLess b a = true := by
 cases h : Co a b with
 | true => rw [Ar] at h; simp [h]
 | false =>
  cases h2 : Op.bytesLess b a with
  | true => simp
  | false => rw [<- Ar, h] at h2; cases h2
end Go.Vm
/-
 Vm: what is written no more; slices that grow, step by step (own work).
-/
namespace Go.Vm
open Go
def VZ (h : ah) (z : Nat) (els : List (List CV)) (v : VV) : Prop :=
 SlV z els v \/ ∃ id g off ex full, v = .own id g off els.length ex /\ h[id]? = some (.arr z full g true) /\ off + els.length <= full.length /\ els = (full.drop off).take els.length
def KZ (h h' : ah) : Prop := ∀ (j z : Nat) (e : List (List CV)) (g : Nat), h[j]? = some (.arr z e g true) -> h'[j]? = some (.arr z e g true)
def KG (z : Nat) (h h' : ah) : Prop := h.length <= h'.length /\ ∀ (j : Nat) (o : VO), h[j]? = some o -> (∀ e g, o ≠ VO.arr z e g false) -> h'[j]? = some o
theorem KZ.refl (h : ah) : KZ h h := fun _ _ _ _ e => e
theorem KZ.trans {a b c : ah} (x : KZ a b) (y : KZ b c) : KZ a c := fun j z e g hj => y j z e g (x j z e g hj)
theorem KG.kz {z : Nat} {h h' : ah} (k : KG z h h') : KZ h h' := fun j z' e g hj => k.2 j _ hj (fun e' g' hh => by cases hh)
theorem KG.box {z : Nat} {h h' : ah} (k : KG z h h') {j : Nat} {cells : List VV} {fr : Bool} (hj : h[j]? = some (.box cells fr)) : h'[j]? = some (.box cells fr) := k.2 j _ hj (fun e' g' hh => by cases hh)
theorem KG.loop {z : Nat} {h h' : ah} (k : KG z h h') {j : Nat} {ps : List Nat} {a b : IR} {s : List VV} {t : LoopState} {p : Option Jmp} (hj : h[j]? = some (.loop ps a b s t p)) : h'[j]? = some (.loop ps a b s t p) := k.2 j _ hj (fun e' g' hh => by cases hh)
theorem HExt.kz {h h' : ah} (e : HExt h h') : KZ h h' := fun j z l g hj => e.get hj
theorem KZ.setBox (h : ah) {i : Nat} {cells : List VV} {fr : Bool} (hb : h[i]? = some (.box cells fr)) (o : VO) : KZ h (h.set i o) := fun j z e g hj => by
 rw [List.getElem?_set_ne (by rintro rfl; rw [hb] at hj; cases hj)]; exact hj
theorem KZ.setLoop (h : ah) {i : Nat} {ps : List Nat} {a b : IR} {s : List VV} {t : LoopState} {p : Option Jmp} (hb : h[i]? = some (.loop ps a b s t p)) (o : VO) : KZ h (h.set i o) := fun j z e g hj => by
 rw [List.getElem?_set_ne (by rintro rfl; rw [hb] at hj; cases hj)]; exact hj
theorem er.kg {h h' : ah} {z z' : Nat} {els : List (List CV)} {v : VV} (b : er h z els v) (k : KG z' h h') (hz : z ≠ z') : er h' z els v := by
 rcases b with b | ⟨id, g, hne, h1, h2⟩
 ·exact .inl b
 ·exact .inr ⟨id, g, hne, h1, k.2 id _ h2 (fun e g' hh => by cases hh; exact hz rfl)⟩
theorem er.hext {h h' : ah} {z : Nat} {els : List (List CV)} {v : VV} (b : er h z els v) (k : HExt h h') : er h' z els v := by
 rcases b with b | ⟨id, g, hne, h1, h2⟩
 ·exact .inl b
 ·exact .inr ⟨id, g, hne, h1, k.get h2⟩
theorem er.setLoop {h : ah} {z : Nat} {els : List (List CV)} {v : VV} (hb : er h z els v) {i : Nat} {ps : List Nat} {a b : IR} {s : List VV} {t : LoopState} {p : Option Jmp} (ho : h[i]? = some (.loop ps a b s t p)) (o : VO) : er (h.set i o) z els v := by
 rcases hb with b | ⟨id, g, hne, h1, h2⟩
 ·exact .inl b
 ·exact .inr ⟨id, g, hne, h1, by rw [List.getElem?_set_ne (by rintro rfl; rw [ho] at h2; cases h2)]; exact h2⟩
theorem er.vf {h : ah} {z : Nat} {els : List (List CV)} {v : VV} (b : er h z els v) : VF h z els v := by
 rcases b with ⟨rfl, rfl⟩ | ⟨id, g, hne, rfl, h2⟩
 ·exact VF.nil
 ·exact .inr ⟨id, g, 0, false, false, els, rfl, h2, by omega, by simp⟩
theorem il {h : ah} {id : Nat} {v : VV} {fr : Bool} (ho : h[id]? = some (.box [v] fr)) : ldO h false 1 (.ptr id 0) = some (v, h) := bf ho rfl
theorem er.vf_cell {h : ah} {z : Nat} {els : List (List CV)} {v : VV} (b : er h z els v) : en v = true := by
 rcases b with ⟨_, rfl⟩ | ⟨_, _, _, rfl, _⟩ <;> rfl
theorem er.lnO' {h : ah} {z : Nat} {els : List (List CV)} {v : VV} (b : er h z els v) : lnO false v = some (vi .i64 els.length) := b.vf.ln
theorem Sr {h : ah} {z by_ : Nat} {zero : List CV} {els new : List (List CV)} {v : VV} {x y : Opd} {s : List VV} (b : er h z els v) (hx : ae s x = v) (hy : im h z (ae s y) = some new) (h1 : (els.length + new.length) * by_ <= 35184372088832) (h2 : els.length + new.length <= 35184372088832) :
  ∃ v' h', ak h (ae s) (.app z by_ zero x y) = some (v', h') /\ er h' z (els ++ new) v' /\ KG z h h' := by
 have hm : cj = 35184372088832 := rfl
 by_cases hn : new = []
 ·subst hn
  have e1 := b.els
  simp only [List.length_nil, Nat.add_zero] at h1 h2
  refine ⟨v, h, ?_, by rw [List.append_nil]; exact b, Nat.le_refl _, fun _ _ e _ => e⟩
  simp [ak, hy, hx, b.len, hm, h1, h2, e1]
 ·rcases b with ⟨rfl, rfl⟩ | ⟨id, g, hne, rfl, h3⟩
  ·simp only [List.length_nil, Nat.zero_add] at h1 h2
   refine ⟨.own h.length 0 0 new.length false, h ++ [.arr z new 0 false], ?_, .inr ⟨h.length, 0, by simpa using hn, by simp, by simp⟩, by simp, fun j o ho _ => by rw [List.getElem?_append_left (df ho)]; exact ho⟩
   simp only [ak, hy, hx, ly, hm, Nat.zero_add, h1, h2, and_self, if_true, hn, if_false]
  ·have hid := df h3
   refine ⟨.own id (g + 1) 0 (els.length + new.length) false, h.set id (.arr z (els ++ new) (g + 1) false), ?_, .inr ⟨id, g + 1, by simp [hne], by simp, by rw [List.getElem?_set_self hid]⟩, by simp, fun j o ho hno => ?_⟩
   ·simp only [ak, hy, hx, ly, hm, h1, h2, and_self, if_true, h3, Nat.zero_add, Nat.le_refl, Bool.false_eq_true, if_false, List.drop_zero, List.take_length, hn]
   ·rw [List.getElem?_set_ne (by rintro rfl; rw [h3] at ho; cases ho; exact hno _ _ rfl)]; exact ho
theorem Nm {F : Nat -> Option FnIR} {h : ah} {z by_ : Nat} {zero : List CV} {els new : List (List CV)} {v : VV} {x y : Opd} {s : List VV} {d : Option Nat} {r : List Op1} {Q : Pst} (b : er h z els v) (hx : ae s x = v) (hy : im h z (ae s y) = some new) (h1 : (els.length + new.length) * by_ <= 35184372088832) (h2 : els.length + new.length <= 35184372088832)
  (hk : ∀ v' h', er h' z (els ++ new) v' -> KG z h h' -> XO F r ⟨de s d v', h'⟩ Q) : XO F (⟨none, d, .app z by_ zero x y⟩ :: r) ⟨s, h⟩ Q := by
 obtain ⟨v', h', e1, e2, e3⟩ := Sr (zero := zero) b hx hy h1 h2
 rw [ii rfl, e1, lc]
 exact hk v' h' e2 e3
section
variable {h h' : ah} {z : Nat} {els : List (List CV)} {v : VV}
theorem VZ.vf (b : VZ h z els v) : VF h z els v := by
 rcases b with b | ⟨id, g, off, ex, full, h1, h2, h3⟩
 ·exact .inl b
 ·exact .inr ⟨id, g, off, ex, true, full, h1, h2, h3⟩
theorem VZ.kz (b : VZ h z els v) (k : KZ h h') : VZ h' z els v := by
 rcases b with b | ⟨id, g, off, ex, full, h1, h2, h3⟩
 ·exact .inl b
 ·exact .inr ⟨id, g, off, ex, full, h1, k _ _ _ _ h2, h3⟩
theorem ug {h : ah} {i : Nat} {o : VO} (e : h[i]? = some o) : h.set i o = h := by
 apply List.ext_getElem?
 intro j
 by_cases hj : i = j
 ·subst hj; rw [List.getElem?_set_self (df e), e]
 ·rw [List.getElem?_set_ne hj]
theorem VZ.clos (b : VZ h z els v) : ∃ w, gy h v = some (w, h) /\ SlV z els w := by
 rcases b with b | ⟨id, g, off, ex, full, rfl, a, a2, a3⟩
 ·refine ⟨v, ?_, b⟩
  rcases b with ⟨rfl, rfl⟩ | ⟨ex, rfl⟩ <;> rfl
 ·refine ⟨.cv (.sl z els ex), ?_, .inr ⟨ex, rfl⟩⟩
  have hs := ug a
  simp [gy, Go.Vm.clos, a, a2, hs]
  exact a3.symm
theorem VZ.upto (b : VZ h z els v) {k : IntKind} {n : Nat} (hn : n <= els.length) : ∃ w, slO h z v none (some (vi k (n : Int))) none = some (w, h) /\ VZ h z (els.take n) w := by
 rcases b with b | ⟨id, g, off, ex, full, rfl, a, a2, a3⟩
 ·obtain ⟨w, h1, h2⟩ := b.upto (h := h) (k := k) (b := (n : Int)) (by omega) (by omega)
  rw [Int.toNat_natCast] at h1
  exact ⟨w, h2, .inl h1⟩
 ·have c1 : (n : Int) <= (els.length : Int) := by omega
  have hl : (els.take n).length = n := by rw [List.length_take]; omega
  refine ⟨_, by simp [slO, ak, mj, ly, bnd, pj, c1, a]; rfl, .inr ⟨id, g, off, _, full, by rw [hl], a, by omega, ?_⟩⟩
  rw [hl]
  conv => lhs; rw [a3]
  rw [List.take_take]
  congr 1; omega
theorem VZ.from_ (b : VZ h z els v) {k : IntKind} {n : Nat} (hn : n <= els.length) : ∃ w, slO h z v (some (vi k (n : Int))) none none = some (w, h) /\ VZ h z (els.drop n) w := by
 rcases b with b | ⟨id, g, off, ex, full, rfl, a, a2, a3⟩
 ·obtain ⟨w, h1, h2⟩ := b.from_ (h := h) (k := k) (a := (n : Int)) (by omega) (by omega)
  rw [Int.toNat_natCast] at h1
  exact ⟨w, h2, .inl h1⟩
 ·have c1 : (n : Int) <= (els.length : Int) := by omega
  have hl : (els.drop n).length = els.length - n := by rw [List.length_drop]
  refine ⟨_, by simp [slO, ak, mj, ly, bnd, pj, c1, a]; rfl, .inr ⟨id, g, off + n, _, full, by rw [hl], a, by omega, ?_⟩⟩
  rw [hl]
  conv => lhs; rw [a3]
  rw [List.drop_take, List.drop_drop]
theorem VF.closZ (b : VF h z els v) : ∃ w h1, gy h v = some (w, h1) ∧ SlV z els w ∧ Froze h h1 ∧ VZ h1 z els v ∧ KZ h h1 ∧ (∀ z' elsB u, er h z' elsB u → (z ≠ z' ∨ elsB = [] ∨ VZ h z els v) → er h1 z' elsB u) := by
  rcases b with b | ⟨id, g, off, ex, fr, full, rfl, a, a2, a3⟩
  · refine ⟨v, h, ?_, b, Froze.refl h, .inl b, KZ.refl h, fun _ _ _ hb _ => hb⟩
    rcases b with ⟨rfl, rfl⟩ | ⟨ex, rfl⟩ <;> rfl
  · have hf : Froze h (h.set id (.arr z full g true)) := by
      refine ⟨by simp, fun j o e hn => ?_, fun j z' e' g' fr' hj => ?_⟩
      · rw [List.getElem?_set_ne (by rintro rfl; rw [a] at e; cases e; exact hn _ _ _ _ rfl)]; exact e
      · by_cases hij : id = j
        · subst hij
          rw [a] at hj; cases hj
          exact ⟨true, by rw [List.getElem?_set_self (df a)]⟩
        · exact ⟨fr', by rw [List.getElem?_set_ne hij]; exact hj⟩
    refine ⟨.cv (.sl z els ex), h.set id (.arr z full g true), by simp [gy, Go.Vm.clos, a, a2]; exact a3.symm, .inr ⟨ex, rfl⟩, hf, .inr ⟨id, g, off, ex, full, rfl, by rw [List.getElem?_set_self (df a)], a2, a3⟩, fun j z' e' g' hj => ?_, fun z' elsB u hb hc => ?_⟩
    · by_cases hij : id = j
      · subst hij
        rw [a] at hj; cases hj
        rw [List.getElem?_set_self (df a)]
      · rw [List.getElem?_set_ne hij]; exact hj
    · rcases hb with hb | ⟨id', g', hne, rfl, h2⟩
      · exact .inl hb
      · refine .inr ⟨id', g', hne, rfl, ?_⟩
        have : id ≠ id' := by
          rintro rfl
          rw [a] at h2
          cases h2
          rcases hc with hc | hc | hc
          · exact hc rfl
          · exact hne hc
          · rcases hc with hc | ⟨id2, g2, off2, ex2, full2, e, e2, _⟩
            · rcases hc with ⟨e, _⟩ | ⟨_, e⟩ <;> cases e
            · cases e; rw [a] at e2; cases e2
        rw [List.getElem?_set_ne this]; exact h2
end
theorem Froze.box' {h h1 : ah} (f : Froze h h1) {j : Nat} {cells : List VV} {fr : Bool} (hj : h[j]? = some (.box cells fr)) : h1[j]? = some (.box cells fr) := f.box j _ hj (fun _ _ _ _ e => by cases e)
theorem Froze.loop' {h h1 : ah} (f : Froze h h1) {j : Nat} {ps : List Nat} {a b : IR} {s : List VV} {t : LoopState} {p : Option Jmp} (hj : h[j]? = some (.loop ps a b s t p)) : h1[j]? = some (.loop ps a b s t p) := f.box j _ hj (fun _ _ _ _ e => by cases e)
theorem VZ.cellv {h : ah} {z : Nat} {els : List (List CV)} {v : VV} (b : VZ h z els v) : en v = true := by
 rcases b with (⟨rfl, _⟩ | ⟨_, rfl⟩) | ⟨_, _, _, _, _, rfl, _⟩ <;> rfl
theorem VF.cellv {h : ah} {z : Nat} {els : List (List CV)} {v : VV} (b : VF h z els v) : en v = true := by
 rcases b with (⟨rfl, _⟩ | ⟨_, rfl⟩) | ⟨_, _, _, _, _, _, rfl, _⟩ <;> rfl
end Go.Vm
/-
 Vm: slices that shrink and grow again (own work).
-/
namespace Go.Vm
open Go
structure PB (h0 h : ah) (z : Nat) (els : List (List CV)) (v : VV) : Prop where
 ext : HExt h0 h
 v : (els = [] /\ v = bq) \/ (els = [] /\ v = .cv (.sl z [] true)) \/ ∃ id g full, h0.length <= id /\ v = .own id g 0 els.length false /\ h[id]? = some (.arr z full g false) /\ els.length <= full.length /\ els = full.take els.length
section
variable {h0 h h' : ah} {z : Nat} {els new : List (List CV)} {v : VV}
theorem NB.pb (b : NB h0 h z els v) : PB h0 h z els v := by
 refine ⟨b.ext, ?_⟩
 rcases b.v with ⟨a, rfl⟩ | ⟨id, g, a1, rfl, a2⟩
 ·exact .inl ⟨a, rfl⟩
 ·exact .inr (.inr ⟨id, g, els, a1, rfl, a2, Nat.le_refl _, by rw [List.take_length]⟩)
theorem PB.vf (b : PB h0 h z els v) : VF h z els v := by
 rcases b.v with ⟨rfl, rfl⟩ | ⟨rfl, rfl⟩ | ⟨id, g, full, _, rfl, a2, a3, a4⟩
 ·exact VF.nil
 ·exact .inl (.inr ⟨true, rfl⟩)
 ·exact .inr ⟨id, g, 0, false, false, full, rfl, a2, by omega, by rw [List.drop_zero]; exact a4⟩
theorem PB.then (b : PB h0 h z els v) (e : HExt h h') : PB h0 h' z els v := by
 refine ⟨b.ext.trans e, ?_⟩
 rcases b.v with x | x | ⟨id, g, full, a1, rfl, a2, a3, a4⟩
 ·exact .inl x
 ·exact .inr (.inl x)
 ·exact .inr (.inr ⟨id, g, full, a1, rfl, e.get a2, a3, a4⟩)
theorem PB.cellv (b : PB h0 h z els v) : en v = true := b.vf.cellv
theorem Gf {by_ : Nat} {zero : List CV} {x y : Opd} {s : List VV} {d : Option Nat} {r : List Op1} {F : Nat -> Option FnIR} {Q : Pst} (b : PB h0 h z els v) (hx : ae s x = v) (hy : im h z (ae s y) = some new) (h1 : (els.length + new.length) * by_ <= 35184372088832) (h2 : els.length + new.length <= 35184372088832)
  (hk : ∀ v' h', PB h0 h' z (els ++ new) v' -> h.length <= h'.length -> (∀ (j : Nat) (cells : List VV) fr, h[j]? = some (.box cells fr) -> h'[j]? = some (.box cells fr)) -> XO F r ⟨de s d v', h'⟩ Q) : XO F (⟨none, d, .app z by_ zero x y⟩ :: r) ⟨s, h⟩ Q := by
 have hm : cj = 35184372088832 := rfl
 have e1 := b.vf.elsO
 have e2 := b.vf.lenv
 by_cases hne : new = []
 ·subst hne
  simp only [List.length_nil, Nat.add_zero] at h1 h2
  have e : ak h (ae s) (.app z by_ zero x y) = some (v, h) := by simp [ak, hy, hx, e2, hm, h1, h2, e1]
  rw [ii rfl, e, lc]
  exact hk _ _ (by rw [List.append_nil]; exact b) (Nat.le_refl _) (fun _ _ _ hh => hh)
 ·rcases b.v with ⟨rfl, rfl⟩ | ⟨rfl, rfl⟩ | ⟨id, g, full, a1, rfl, a2, a3, a4⟩
  ·simp only [List.length_nil, Nat.zero_add] at h1 h2
   have e : ak h (ae s) (.app z by_ zero x y) = some (.own h.length 0 0 new.length false, h ++ [.arr z new 0 false]) := by
    simp only [ak, hy, hx, ly, hm, Nat.zero_add, h1, h2, and_self, if_true, hne, if_false]
   rw [ii rfl, e, lc]
   exact hk _ _ ⟨b.ext.then _, .inr (.inr ⟨h.length, 0, new, b.ext.len, by simp, by simp, by simp, by simp⟩)⟩ (by simp) (fun j c fr hj => (HExt.push h _).get hj)
  ·simp only [List.length_nil, Nat.zero_add] at h1 h2
   have e : ak h (ae s) (.app z by_ zero x y) = some (.own h.length 0 0 (0 + new.length) false, h ++ [.arr z ([] ++ new) 0 false]) := by
    simp only [ak, hy, hx, ly, hm, List.length_nil, Nat.zero_add, h1, h2, and_self, if_true, hne, if_false]
   rw [ii rfl, e, lc]
   exact hk _ _ ⟨b.ext.then _, .inr (.inr ⟨h.length, 0, new, b.ext.len, by simp, by simp, by simp, by simp⟩)⟩ (by simp) (fun j c fr hj => (HExt.push h _).get hj)
  ·have hid := df a2
   have e : ak h (ae s) (.app z by_ zero x y) = some (.own id (g + 1) 0 (els.length + new.length) false, h.set id (.arr z (els ++ new) (g + 1) false)) := by
    simp only [ak, hy, hx, ly, hm, h1, h2, and_self, if_true, a2, Nat.zero_add, a3, Bool.false_eq_true, if_false, List.drop_zero, hne]
    rw [<- a4]
   rw [ii rfl, e, lc]
   refine hk _ _ ⟨b.ext.set a1 _, .inr (.inr ⟨id, g + 1, els ++ new, a1, by simp, by rw [List.getElem?_set_self hid], by simp, by rw [List.take_of_length_le (Nat.le_refl _)]⟩)⟩ (by simp) (fun j c fr hj => ?_)
   rw [List.getElem?_set_ne (by rintro rfl; rw [a2] at hj; cases hj)]; exact hj
end
end Go.Vm
/-
 Vm: functions of values without an address that are told by hand (own work).
-/
namespace Go.Vm
open Go Go.RowKit
end Go.Vm
/-
 Vm: texts: parts, bytes; calls of what is told by hand (own work).
-/
namespace Go.Vm
open Go
def ssO (v : VV) (lo hi : Option VV) : Option VV := match v with
 | .cv (.sc (.string s)) => match al3 hi s.size s.size with
  | some b => match al3 lo 0 b with
   | some a => some (.cv (.sc (.string ⟨((s.data.toList.drop a).take (b - a)).toArray⟩)))
   | none => none
  | none => none
 | _ => none
theorem aak {ρ : Opd -> VV} (o : Option Opd) (a b : Nat) : bnd ρ o a b = al3 (o.map ρ) a b := by cases o <;> rfl
section
variable {F : Nat -> Option FnIR} {d : Option Nat} {x y : Opd} {r : List Op1} {c : Cl} {q : List (Op1 × Cl)} {s : List VV} {h : ah} {Q : Pst}
theorem ac9 {lo hi : Option Opd} : ak h (ae s) (.slS x lo hi) = (ssO (ae s x) (lo.map (ae s)) (hi.map (ae s))).map (·, h) := by
 simp only [ak, aak]
 generalize ae s x = v
 cases v with
 | cv c => cases c with
  | sc u =>
   cases u with
   | string t =>
    simp only [ssO]
    cases al3 (hi.map (ae s)) t.size t.size with
    | none => rfl
    | some b => simp only; cases al3 (lo.map (ae s)) 0 b <;> rfl
   | _ => rfl
  | sl _ _ _ => rfl
 | _ => rfl
theorem akz {lo hi : Option Opd} : XO F (⟨none, d, .slS x lo hi⟩ :: r) ⟨s, h⟩ Q ↔ XW F (ssO (ae s x) (lo.map (ae s)) (hi.map (ae s))) h d r s Q := qc rfl ac9
theorem alr {lo hi : Option Opd} : XD F ((⟨none, d, .slS x lo hi⟩, c) :: q) ⟨s, h⟩ Q ↔ XWD F (ssO (ae s x) (lo.map (ae s)) (hi.map (ae s))) h d q s Q := js rfl ac9
def aj2 (v w : VV) : Option VV := match w, v with
 | .cv (.sc (.int _ j)), .cv (.sc (.string s)) => if 0 <= j then (match s.data.toList[j.toNat]? with
  | some b => some (.cv (.sc (.int .u8 b.toNat)))
  | none => none) else none
 | _, _ => none
theorem acn : ak h (ae s) (.ixS x y) = (aj2 (ae s x) (ae s y)).map (·, h) := by
 simp only [ak]
 generalize ae s x = v
 generalize ae s y = w
 cases w with
 | cv c => cases c with
  | sc u =>
   cases u with
   | int k j =>
    cases v with
    | cv c' => cases c' with
     | sc u' =>
      cases u' with
      | string t =>
       simp only [pj, aj2]
       split
       ·cases t.data.toList[j.toNat]? <;> rfl
       ·rfl
      | _ => rfl
     | sl _ _ _ => rfl
    | _ => rfl
   | _ => rfl
  | sl _ _ _ => rfl
 | _ => rfl
theorem akd : XO F (⟨none, d, .ixS x y⟩ :: r) ⟨s, h⟩ Q ↔ XW F (aj2 (ae s x) (ae s y)) h d r s Q := qc rfl acn
theorem ako : XD F ((⟨none, d, .ixS x y⟩, c) :: q) ⟨s, h⟩ Q ↔ XWD F (aj2 (ae s x) (ae s y)) h d q s Q := js rfl acn
end
section
variable {l : List UInt8} {k k' : IntKind}
theorem am8 {b : UInt8} : aj2 (txt (b :: l)) (vi k 0) = some (vi .u8 b.toNat) := rfl
theorem aea {s t : List UInt8} : ls .leq (txt s) (txt t) = some (vb (Op.bytesLess s t || s == t)) := rfl
end
attribute [go_sem] akz alr akd ako am8 aea
theorem an7 {F : Nat -> Option FnIR} {a b : IR} {st : St} {Q : Pst} (P : List VV -> ah -> Prop) (h1 : X F a st fun o st' => o = .norm /\ P st'.s st'.h) (h2 : ∀ s h, P s h -> X F b ⟨s, h⟩ Q) : X F a st (K F b Q) := by
 obtain ⟨o, ⟨s, h⟩, e, rfl, hP⟩ := h1
 exact ⟨.norm, ⟨s, h⟩, e, h2 s h hP⟩
end Go.Vm
/-
 Vm: a region that draws its order: what does not look at the heap, as equations (own work).
-/
namespace Go.Vm
open Go
def XWA (F : Nat -> Option FnIR) (P : ah -> Prop) (x : Option VV) (h : ah) (d : Option Nat) (r : List (Op1 × Cl)) (s : List VV) (Q : St -> Prop) : Prop := ∃ v, x = some v /\ XDA F P r ⟨de s d v, h⟩ Q
section
variable {F : Nat -> Option FnIR} {P : ah -> Prop} {d : Option Nat} {r : List (Op1 × Cl)} {s : List VV} {h : ah} {Q : St -> Prop} {x y z : Opd}
theorem Gv {v : VV} : XWA F P (some v) h d r s Q ↔ XDA F P r ⟨de s d v, h⟩ Q := by
 constructor
 ·rintro ⟨_, he, hk⟩; cases he; exact hk
 ·exact fun hk => ⟨v, rfl, hk⟩
theorem qq {i : Ins} {u : Option VV} (hp : jm i = true) (hx : ak h (ae s) i = u.map (·, h)) : XDA F P ((⟨none, d, i⟩, .p) :: r) ⟨s, h⟩ Q ↔ XWA F P u h d r s Q := by
 constructor
 ·rintro ⟨_, st1, e1, e2, e3⟩
  rw [eu hp, hx] at e1
  cases u with
  | none => cases e1
  | some v => cases e1; exact ⟨v, rfl, e3⟩
 ·rintro ⟨v, rfl, hk⟩
  exact pk hp (by rw [hx]; rfl) hk
theorem aiz {d : Nat} : XDA F P ((⟨none, some d, .mv x⟩, .p) :: r) ⟨s, h⟩ Q ↔ XDA F P r ⟨s.set d (ae s x), h⟩ Q := (qq (u := some (ae s x)) rfl rfl).trans Gv
theorem afg {op : BinOp} : XDA F P ((⟨none, d, .bin op x y⟩, .p) :: r) ⟨s, h⟩ Q ↔ XWA F P (ls op (ae s x) (ae s y)) h d r s Q := qq rfl Hs
theorem afs {k : IntKind} : XDA F P ((⟨none, d, .cvI k x⟩, .p) :: r) ⟨s, h⟩ Q ↔ XWA F P (cvO k (ae s x)) h d r s Q := qq rfl Ea
theorem aby : XDA F P ((⟨none, d, .pick x y z⟩, .p) :: r) ⟨s, h⟩ Q ↔ XWA F P (pkO (ae s x) (ae s y) (ae s z)) h d r s Q := qq rfl Kq
theorem adn {i : Nat} : XDA F P ((⟨none, d, .ext x i⟩, .p) :: r) ⟨s, h⟩ Q ↔ XWA F P (exO (ae s x) i) h d r s Q := qq rfl Su
theorem af1 {t : Bool} : XDA F P ((⟨none, d, .len t x⟩, .p) :: r) ⟨s, h⟩ Q ↔ XWA F P (lnO t (ae s x)) h d r s Q := qq rfl Pv
theorem afa {off : Nat} : XDA F P ((⟨none, d, .fad off x⟩, .p) :: r) ⟨s, h⟩ Q ↔ XWA F P (fdO off (ae s x)) h d r s Q := qq rfl tj
theorem aae {n k : Nat} : XDA F P ((⟨none, d, .iadA n k x y⟩, .p) :: r) ⟨s, h⟩ Q ↔ XWA F P (Ie n k (ae s x) (ae s y)) h d r s Q := qq rfl xu
theorem Tc {zero : List VV} {parts : List (Nat × Nat × Opd)} : XDA F P ((⟨none, d, .build zero parts⟩, .p) :: r) ⟨s, h⟩ Q ↔ XWA F P (bdO zero (jh s parts)) h d r s Q := qq rfl Hn
theorem Uc : XDA F P ((⟨none, d, .nilck x⟩, .p) :: r) ⟨s, h⟩ Q ↔ XWA F P (nkO (ae s x)) h d r s Q := qq rfl zm
theorem aaa {d t : Nat} : XDA F P ((⟨none, some d, .mkif t x⟩, .p) :: r) ⟨s, h⟩ Q ↔ XDA F P r ⟨s.set d (.iface t (ae s x)), h⟩ Q := (qq (u := some (.iface t (ae s x))) rfl rfl).trans Gv
theorem aep : XDA F P [] ⟨s, h⟩ Q ↔ Q ⟨s, h⟩ := Iff.rfl
end
theorem aeo {F : Nat -> Option FnIR} {d t : Nat} {x : Opd} {r : List Op1} {s : List VV} {h : ah} {Q : Pst} : XO F (⟨none, some d, .mkif t x⟩ :: r) ⟨s, h⟩ Q ↔ XO F r ⟨s.set d (.iface t (ae s x)), h⟩ Q := ue rfl rfl
theorem aho {F : Nat -> Option FnIR} {d t : Nat} {x : Opd} {c : Cl} {q : List (Op1 × Cl)} {s : List VV} {h : ah} {Q : Pst} : XD F ((⟨none, some d, .mkif t x⟩, c) :: q) ⟨s, h⟩ Q ↔ XD F q ⟨s.set d (.iface t (ae s x)), h⟩ Q := (js (u := some (.iface t (ae s x))) rfl rfl).trans za
theorem Pr {h : ah} {s : List VV} {n : Nat} {x y : Opd} : ak h (ae s) (.st n x y) = stO h n (ae s x) (ae s y) := rfl
attribute [go_sem] Gv aiz afg afs aby adn af1 afa aae Tc Uc aaa aep aeo aho
end Go.Vm
