/-
  Vm: what must hold ahead of a piece of code (own work).
-/
import Derived.Test.YtpingdgbndmcnaaVmLim
namespace Go.Vm
open Go

abbrev Pst := Out → St → Prop

def X (F : Nat → Option FnIR) (ir : IR) (st : St) (Q : Pst) : Prop := ∃ o st', execL F ir st = some (o, st') ∧ Q o st'
def XF (F : Nat → Option FnIR) (ir : IR) (l : Nat) (st : St) (Q : Pst) : Prop := ∃ o st', execLFrom F ir l st = some (o, st') ∧ Q o st'
def XO (F : Nat → Option FnIR) (ops : List Op1) (st : St) (Q : Pst) : Prop := ∃ o st', execOps (call F) ops st = some (o, st') ∧ Q o st'
/-- Then b. -/
def K (F : Nat → Option FnIR) (b : IR) (Q : Pst) : Pst := fun o st => match o with
  | .norm => X F b st Q
  | o => Q o st
/-- Out of a block. -/
def B (id : Nat) (Q : Pst) : Pst := fun o st => match o with
  | .exit id' => if id' = id then Q .norm st else Q (.exit id') st
  | o => Q o st
/-- A call's step. -/
def XC (F : Nat → Option FnIR) (f : Nat) (p : Bool) (args : List VV) (h : Heap) (Q : CRes → Heap → Prop) : Prop := ∃ r h', doCall (call F) h f p args = some (r, h') ∧ Q r h'

section
variable {F : Nat → Option FnIR}

theorem X.mono {ir : IR} {st : St} {Q Q' : Pst} (h : X F ir st Q) (hq : ∀ o st, Q o st → Q' o st) : X F ir st Q' := by
  obtain ⟨o, st', h1, h2⟩ := h
  exact ⟨o, st', h1, hq _ _ h2⟩

theorem ex_pair {α β : Type} {a : α} {b : β} {Q : α → β → Prop} : (∃ o st', some (a, b) = some (o, st') ∧ Q o st') ↔ Q a b := by
  constructor
  · rintro ⟨o, st', h, hq⟩
    cases h
    exact hq
  · exact fun h => ⟨a, b, rfl, h⟩

theorem ex_none {α β : Type} {Q : α → β → Prop} : (∃ o st', (none : Option (α × β)) = some (o, st') ∧ Q o st') ↔ False := by
  constructor
  · rintro ⟨_, _, h, _⟩; cases h
  · exact False.elim

theorem X_skip {st : St} {Q : Pst} : X F .skip st Q ↔ Q .norm st := by unfold X; simp only [execL]; exact ex_pair
theorem X_exit {id : Nat} {st : St} {Q : Pst} : X F (.exit id) st Q ↔ Q (.exit id) st := by unfold X; simp only [execL]; exact ex_pair
theorem X_label {l : Nat} {st : St} {Q : Pst} : X F (.label l) st Q ↔ Q .norm st := by unfold X; simp only [execL]; exact ex_pair
theorem X_goto {l : Nat} {st : St} {Q : Pst} : X F (.goto l) st Q ↔ Q (.goto l) st := by unfold X; simp only [execL]; exact ex_pair
theorem X_ret {st : St} {Q : Pst} : X F .ret st Q ↔ Q .ret st := by unfold X; simp only [execL]; exact ex_pair
theorem X_reg {ops : List Op1} {st : St} {Q : Pst} : X F (.reg ops) st Q ↔ XO F ops st Q := by unfold X XO; simp only [execL]

def KQ (g : St → Option (Out × St)) (Q : Pst) : Pst := fun o st => match o with
  | .norm => ∃ o st', g st = some (o, st') ∧ Q o st'
  | o => Q o st

theorem bind_iff {x : Option (Out × St)} {g : St → Option (Out × St)} {Q : Pst} :
    (∃ o st', (match (motive := Option (Out × St) → Option (Out × St)) x with | some (.norm, st1) => g st1 | x => x) = some (o, st') ∧ Q o st') ↔
    (∃ o st', x = some (o, st') ∧ KQ g Q o st') := by
  cases x with
  | none => constructor <;> (rintro ⟨_, _, h, _⟩; cases h)
  | some y =>
    obtain ⟨o, s⟩ := y
    rw [ex_pair (Q := KQ g Q)]
    cases o with
    | norm => exact Iff.rfl
    | _ => exact ex_pair

theorem X_seq {a b : IR} {st : St} {Q : Pst} : X F (.seq a b) st Q ↔ X F a st (K F b Q) := by
  unfold X
  simp only [execL]
  exact bind_iff (g := fun st1 => execL F b st1)

theorem X_loop {b : IR} {st : St} {Q : Pst} : X F (.loop b) st Q ↔ X F b st (K F (.loop b) Q) := by
  unfold X
  rw [execL_loop]
  exact bind_iff (g := fun st1 => execL F (.loop b) st1)

theorem X_cond {c : Opd} {a b : IR} {st : St} {Q : Pst} {t : Bool} (h : evalO st.s c = .cv (.sc (.bool t))) : X F (.cond c a b) st Q ↔ (if t then X F a st Q else X F b st Q) := by
  unfold X
  simp only [execL, h]
  cases t <;> exact Iff.rfl

theorem X_block {id : Nat} {b : IR} {st : St} {Q : Pst} : X F (.block id b) st Q ↔ X F b st (B id Q) := by
  unfold X
  simp only [execL]
  cases hx : execL F b st with
  | none => constructor <;> (rintro ⟨_, _, h, _⟩; cases h)
  | some y =>
    obtain ⟨o, s⟩ := y
    rw [ex_pair (Q := B id Q)]
    cases o with
    | exit id' =>
      by_cases hid : id' = id
      · subst hid
        simp only [B, if_true]; exact ex_pair
      · simp only [B, if_neg hid]; exact ex_pair
    | _ => exact ex_pair

theorem K_norm {b : IR} {st : St} {Q : Pst} : K F b Q .norm st ↔ X F b st Q := Iff.rfl
theorem K_exit {b : IR} {id : Nat} {st : St} {Q : Pst} : K F b Q (.exit id) st ↔ Q (.exit id) st := Iff.rfl
theorem K_goto {b : IR} {l : Nat} {st : St} {Q : Pst} : K F b Q (.goto l) st ↔ Q (.goto l) st := Iff.rfl
theorem K_ret {b : IR} {st : St} {Q : Pst} : K F b Q .ret st ↔ Q .ret st := Iff.rfl
theorem K_pan {b : IR} {v : VV} {st : St} {Q : Pst} : K F b Q (.pan v) st ↔ Q (.pan v) st := Iff.rfl
theorem B_norm {id : Nat} {st : St} {Q : Pst} : B id Q .norm st ↔ Q .norm st := Iff.rfl
theorem B_exit {id id' : Nat} {st : St} {Q : Pst} : B id Q (.exit id') st ↔ (if id' = id then Q .norm st else Q (.exit id') st) := Iff.rfl
theorem B_goto {id l : Nat} {st : St} {Q : Pst} : B id Q (.goto l) st ↔ Q (.goto l) st := Iff.rfl
theorem B_ret {id : Nat} {st : St} {Q : Pst} : B id Q .ret st ↔ Q .ret st := Iff.rfl
theorem B_pan {id : Nat} {v : VV} {st : St} {Q : Pst} : B id Q (.pan v) st ↔ Q (.pan v) st := Iff.rfl

/-! ### jumps -/

noncomputable def J (F : Nat → Option FnIR) (b : IR) (x : Option (Out × St)) : Option (Out × St) := lim fun n => jumpIter (fun l st => execLFrom F b l st) (fun l => (findL b l).isSome) n x
def S (F : Nat → Option FnIR) (b : IR) (Q : Pst) : Pst := fun o st => ∃ o' st', J F b (some (o, st)) = some (o', st') ∧ Q o' st'

theorem J_iff {b : IR} {x : Option (Out × St)} {r : Out × St} : J F b x = some r ↔ ∃ n, jumpIter (fun l st => execLFrom F b l st) (fun l => (findL b l).isSome) n x = some r :=
  lim_eq fun _ _ _ hnm => jumpIter_mono (fun _ _ _ h => h) hnm (fun _ h => h)

theorem J_stop {b : IR} {y : Out × St} (h : ∀ l s, y = (.goto l, s) → (findL b l).isSome = false) : J F b (some y) = some y := J_iff.mpr ⟨0, jumpIter_stop h⟩

theorem J_goto {b : IR} {l : Nat} {st : St} (h : (findL b l).isSome = true) : J F b (some (.goto l, st)) = J F b (execLFrom F b l st) := by
  apply Option.ext
  intro r
  rw [J_iff, J_iff]
  constructor
  · rintro ⟨n, hn⟩
    cases n with
    | zero => simp [jumpIter, h] at hn
    | succ n => simp only [jumpIter, h, if_true] at hn; exact ⟨n, hn⟩
  · rintro ⟨n, hn⟩
    exact ⟨n + 1, by simp only [jumpIter, h, if_true]; exact hn⟩

theorem X_scope {b : IR} {st : St} {Q : Pst} : X F (.scope b) st Q ↔ X F b st (S F b Q) := by
  unfold X
  simp only [execL]
  cases hx : execL F b st with
  | none =>
    constructor
    · rintro ⟨o, st', h, _⟩
      obtain ⟨n, hn⟩ := J_iff.mp h
      cases n <;> simp [jumpIter] at hn
    · rintro ⟨_, _, h, _⟩; cases h
  | some y =>
    obtain ⟨o, s⟩ := y
    rw [ex_pair (Q := S F b Q)]
    exact Iff.rfl

theorem S_norm {b : IR} {st : St} {Q : Pst} : S F b Q .norm st ↔ Q .norm st := by unfold S; rw [J_stop (fun l s h => by cases h)]; exact ex_pair
theorem S_exit {b : IR} {id : Nat} {st : St} {Q : Pst} : S F b Q (.exit id) st ↔ Q (.exit id) st := by unfold S; rw [J_stop (fun l s h => by cases h)]; exact ex_pair
theorem S_ret {b : IR} {st : St} {Q : Pst} : S F b Q .ret st ↔ Q .ret st := by unfold S; rw [J_stop (fun l s h => by cases h)]; exact ex_pair
theorem S_pan {b : IR} {v : VV} {st : St} {Q : Pst} : S F b Q (.pan v) st ↔ Q (.pan v) st := by unfold S; rw [J_stop (fun l s h => by cases h)]; exact ex_pair
theorem S_goto {b : IR} {l : Nat} {st : St} {Q : Pst} (h : (findL b l).isSome = true) : S F b Q (.goto l) st ↔ XF F b l st (S F b Q) := by
  unfold S XF
  rw [J_goto h]
  cases hx : execLFrom F b l st with
  | none =>
    constructor
    · rintro ⟨o, st', h, _⟩
      obtain ⟨n, hn⟩ := J_iff.mp h
      cases n <;> simp [jumpIter] at hn
    · rintro ⟨_, _, h, _⟩; cases h
  | some y =>
    obtain ⟨o, s⟩ := y
    exact (ex_pair (Q := S F b Q)).symm

theorem XF_seq1 {a b : IR} {l : Nat} {st : St} {Q : Pst} (h : (findL a l).isSome = true) : XF F (.seq a b) l st Q ↔ XF F a l st (K F b Q) := by
  unfold XF
  simp only [execLFrom]
  cases hf : findL a l with
  | none => rw [hf] at h; cases h
  | some y => exact bind_iff (g := fun st1 => execL F b st1)
theorem XF_seq2 {a b : IR} {l : Nat} {st : St} {Q : Pst} (h : findL a l = none) : XF F (.seq a b) l st Q ↔ XF F b l st Q := by
  unfold XF
  simp only [execLFrom, h]
theorem XF_label {l : Nat} {st : St} {Q : Pst} : XF F (.label l) l st Q ↔ Q .norm st := by
  unfold XF
  simp only [execLFrom, beq_self_eq_true, if_true]
  exact ex_pair

/-! ### operations -/

/-- Not a call, not a panic. -/
def plain : Ins → Bool
  | .call _ _ _ | .callv _ _ _ | .panic _ => false
  | _ => true

theorem XO_nil {st : St} {Q : Pst} : XO F [] st Q ↔ Q .norm st := by unfold XO; simp only [execOps]; exact ex_pair

theorem stepO_plain {c : CallSem} {st : St} {o : Op1} (hp : plain o.i = true) : stepO c st o = (match stepI st.h (evalO st.s) o.i with
    | some (v, h) => some (.norm, ⟨putD st.s o.d v, h⟩)
    | none => none) := by
  obtain ⟨g, d, i⟩ := o
  cases i <;> first | rfl | (simp [plain] at hp)

theorem XO_step {d : Option Nat} {i : Ins} {r : List Op1} {s : List VV} {h : Heap} {Q : Pst} {v : VV} {h' : Heap} (hp : plain i = true) (hs : stepI h (evalO s) i = some (v, h')) :
    XO F (⟨none, d, i⟩ :: r) ⟨s, h⟩ Q ↔ XO F r ⟨putD s d v, h'⟩ Q := by
  unfold XO
  simp only [execOps, wantedV]
  rw [stepO_plain hp]
  simp only [hs]

theorem XO_guard {g : Nat} {b : Bool} {d : Option Nat} {i : Ins} {r : List Op1} {s : List VV} {h : Heap} {Q : Pst} {t : Bool} (ht : s.getD g .undef = .cv (.sc (.bool t))) :
    XO F (⟨some (g, b), d, i⟩ :: r) ⟨s, h⟩ Q ↔ (if t = b then XO F (⟨none, d, i⟩ :: r) ⟨s, h⟩ Q else XO F r ⟨putD s d .undef, h⟩ Q) := by
  have hg : s[g]? = some (.cv (.sc (.bool t))) := by
    rw [List.getD_eq_getElem?_getD] at ht
    cases hh : s[g]? with
    | none => rw [hh] at ht; cases ht
    | some x => rw [hh] at ht; exact congrArg some ht
  unfold XO
  simp only [execOps, wantedV, hg]
  by_cases htb : t = b
  · subst htb
    simp only [beq_self_eq_true, if_true]
    exact Iff.rfl
  · have : (t == b) = false := by simpa using htb
    simp only [this, if_neg htb]

theorem XO_call {d : Option Nat} {f : Nat} {p : Bool} {args : List Opd} {r : List Op1} {s : List VV} {h : Heap} {Q : Pst} {v : VV} {h' : Heap}
    (hc : doCall (call F) h f p (args.map (evalO s)) = some (.ret v, h')) : XO F (⟨none, d, .call f p args⟩ :: r) ⟨s, h⟩ Q ↔ XO F r ⟨putD s d v, h'⟩ Q := by
  unfold XO
  simp only [execOps, wantedV, stepO, hc]

theorem XO_callv {d : Option Nat} {p : Bool} {x : Opd} {args : List Opd} {r : List Op1} {s : List VV} {h : Heap} {Q : Pst} {v : VV} {h' : Heap} {f : Nat} {caps : List VV}
    (hx : evalO s x = .func f caps) (hc : doCall (call F) h f p (args.map (evalO s) ++ caps) = some (.ret v, h')) : XO F (⟨none, d, .callv p x args⟩ :: r) ⟨s, h⟩ Q ↔ XO F r ⟨putD s d v, h'⟩ Q := by
  unfold XO
  simp only [execOps, wantedV, stepO, hx, hc]

/-! ### slots -/

theorem slot_eq {s : List VV} {i : Nat} {v d : VV} (h : i < s.length) : (s.set i v).getD i d = v := by
  rw [List.getD_eq_getElem?_getD, List.getElem?_set_self h]; rfl
theorem slot_ne {s : List VV} {i j : Nat} {v d : VV} (h : i ≠ j) : (s.set i v).getD j d = s.getD j d := by
  rw [List.getD_eq_getElem?_getD, List.getElem?_set_ne h, List.getD_eq_getElem?_getD]
theorem slot_len {s : List VV} {i : Nat} {v : VV} : (s.set i v).length = s.length := List.length_set
theorem evalO_t {s : List VV} {n : Nat} : evalO s (.t n) = s.getD n .undef := rfl
theorem evalO_c {s : List VV} {v : VV} : evalO s (.c v) = v := rfl
theorem putD_some {s : List VV} {n : Nat} {v : VV} : putD s (some n) v = s.set n v := rfl
theorem putD_none {s : List VV} {v : VV} : putD s none v = s := rfl

/-! ### functions -/

theorem call_X {f : Nat} {fn : FnIR} (hf : F f = some fn) {a : List VV} {h : Heap} {v : VV} {h' : Heap}
    (hx : X F fn.body ⟨a ++ List.replicate (fn.nt - a.length) .undef, h⟩ (fun o st => (match o with | .norm | .ret => True | _ => False) ∧ st.h = h' ∧ (resAll st fn.res).map pack = some v)) :
    call F f a h = some (.ret v, h') := by
  obtain ⟨o, st, h1, h2, h3, h4⟩ := hx
  refine call_of hf ?_
  unfold runFn
  rw [h1]
  cases hr : resAll st fn.res with
  | none => rw [hr] at h4; cases h4
  | some vs =>
    rw [hr] at h4
    simp only [Option.map_some, Option.some.injEq] at h4
    cases o with
    | norm => simp only [hr, Option.map_some, h3, h4]
    | ret => simp only [hr, Option.map_some, h3, h4]
    | _ => exact h2.elim

/-- What a function's body ends with. -/
def RQ (res : List ResV) (P : VV → Heap → Prop) : Pst := fun o st => (match o with | .norm | .ret => True | _ => False) ∧ ∃ vs, resAll st res = some vs ∧ P (pack vs) st.h

theorem call_E {f : Nat} {fn : FnIR} (hf : F f = some fn) {a : List VV} {h : Heap} {P : VV → Heap → Prop}
    (hx : X F fn.body ⟨a ++ List.replicate (fn.nt - a.length) .undef, h⟩ (RQ fn.res P)) : ∃ v h', call F f a h = some (.ret v, h') ∧ P v h' := by
  obtain ⟨o, st, h1, h2, vs, h3, h4⟩ := hx
  refine ⟨pack vs, st.h, ?_, h4⟩
  refine call_of hf ?_
  unfold runFn
  rw [h1]
  cases o with
  | norm => simp only [h3, Option.map_some]
  | ret => simp only [h3, Option.map_some]
  | _ => exact h2.elim

/-- Just this value, and this heap. -/
def Is (v : VV) (h : Heap) (v' : VV) (h' : Heap) : Prop := v' = v ∧ h' = h
theorem Is.refl (v : VV) (h : Heap) : Is v h v h := ⟨rfl, rfl⟩

theorem call_P {f : Nat} {fn : FnIR} (hf : F f = some fn) {a : List VV} {h : Heap} {v : VV} {h' : Heap}
    (hx : X F fn.body ⟨a ++ List.replicate (fn.nt - a.length) .undef, h⟩ (RQ fn.res (Is v h'))) : call F f a h = some (.ret v, h') := by
  obtain ⟨v1, h1, hc, e1, e2⟩ := call_E hf hx
  rw [hc, e1, e2]

theorem slot_get {s : List VV} {n : Nat} (hn : n < s.length) : s[n]? = some (s.getD n .undef) := by
  rw [List.getD_eq_getElem?_getD, List.getElem?_eq_getElem hn]; rfl

section
variable {P : VV → Heap → Prop} {s : List VV} {h : Heap} {n m k : Nat}
theorem RQ_0 : RQ [] P .ret ⟨s, h⟩ ↔ P (.tup []) h := by
  constructor
  · rintro ⟨_, vs, h1, h2⟩; cases h1; exact h2
  · exact fun h1 => ⟨trivial, _, rfl, h1⟩
theorem RQ_0n : RQ [] P .norm ⟨s, h⟩ ↔ P (.tup []) h := by
  constructor
  · rintro ⟨_, vs, h1, h2⟩; cases h1; exact h2
  · exact fun h1 => ⟨trivial, _, rfl, h1⟩
theorem RQ_1 (hn : n < s.length) : RQ [.t n] P .ret ⟨s, h⟩ ↔ P (s.getD n .undef) h := by
  have hr : resAll ⟨s, h⟩ [.t n] = some [s.getD n .undef] := by simp only [resAll, resOf, slot_get hn]
  constructor
  · rintro ⟨_, vs, h1, h2⟩; rw [hr] at h1; cases h1; exact h2
  · exact fun h1 => ⟨trivial, _, hr, h1⟩
theorem RQ_2 (hn : n < s.length) (hm : m < s.length) : RQ [.t n, .t m] P .ret ⟨s, h⟩ ↔ P (.tup [s.getD n .undef, s.getD m .undef]) h := by
  have hr : resAll ⟨s, h⟩ [.t n, .t m] = some [s.getD n .undef, s.getD m .undef] := by simp only [resAll, resOf, slot_get hn, slot_get hm]
  constructor
  · rintro ⟨_, vs, h1, h2⟩; rw [hr] at h1; cases h1; exact h2
  · exact fun h1 => ⟨trivial, _, hr, h1⟩
theorem RQ_3 (hn : n < s.length) (hm : m < s.length) (hk : k < s.length) : RQ [.t n, .t m, .t k] P .ret ⟨s, h⟩ ↔ P (.tup [s.getD n .undef, s.getD m .undef, s.getD k .undef]) h := by
  have hr : resAll ⟨s, h⟩ [.t n, .t m, .t k] = some [s.getD n .undef, s.getD m .undef, s.getD k .undef] := by simp only [resAll, resOf, slot_get hn, slot_get hm, slot_get hk]
  constructor
  · rintro ⟨_, vs, h1, h2⟩; rw [hr] at h1; cases h1; exact h2
  · exact fun h1 => ⟨trivial, _, hr, h1⟩
end

/-! ### for simp: no binders, so that nothing is gone through ahead of its time -/

/-- A plain step's outcome, and then the rest. -/
def XV (F : Nat → Option FnIR) (x : Option (VV × Heap)) (d : Option Nat) (r : List Op1) (s : List VV) (Q : Pst) : Prop := ∃ v h, x = some (v, h) ∧ XO F r ⟨putD s d v, h⟩ Q
theorem XV_some {v : VV} {h : Heap} {d : Option Nat} {r : List Op1} {s : List VV} {Q : Pst} : XV F (some (v, h)) d r s Q ↔ XO F r ⟨putD s d v, h⟩ Q := by
  constructor
  · rintro ⟨_, _, he, hk⟩; cases he; exact hk
  · exact fun hk => ⟨v, h, rfl, hk⟩
/-- The same, of a step that leaves the heap. -/
def XW (F : Nat → Option FnIR) (x : Option VV) (h : Heap) (d : Option Nat) (r : List Op1) (s : List VV) (Q : Pst) : Prop := ∃ v, x = some v ∧ XO F r ⟨putD s d v, h⟩ Q
theorem XW_some {v : VV} {h : Heap} {d : Option Nat} {r : List Op1} {s : List VV} {Q : Pst} : XW F (some v) h d r s Q ↔ XO F r ⟨putD s d v, h⟩ Q := by
  constructor
  · rintro ⟨_, he, hk⟩; cases he; exact hk
  · exact fun hk => ⟨v, rfl, hk⟩

/-- A branch. -/
def XB (F : Nat → Option FnIR) (v : VV) (a b : IR) (st : St) (Q : Pst) : Prop := ∃ t, v = .cv (.sc (.bool t)) ∧ (if t then X F a st Q else X F b st Q)
theorem XB_true {a b : IR} {st : St} {Q : Pst} : XB F (.cv (.sc (.bool true))) a b st Q ↔ X F a st Q := by
  constructor
  · rintro ⟨_, he, hk⟩; cases he; exact hk
  · exact fun hk => ⟨true, rfl, hk⟩
theorem XB_false {a b : IR} {st : St} {Q : Pst} : XB F (.cv (.sc (.bool false))) a b st Q ↔ X F b st Q := by
  constructor
  · rintro ⟨_, he, hk⟩; cases he; simpa using hk
  · exact fun hk => ⟨false, rfl, hk⟩
theorem XB_dec {p : Prop} [Decidable p] {a b : IR} {st : St} {Q : Pst} (hp : p → X F a st Q) (hq : ¬p → X F b st Q) : XB F (.cv (.sc (.bool (decide p)))) a b st Q := by
  by_cases h : p
  · simp only [h, decide_true]; exact XB_true.mpr (hp h)
  · simp only [h, decide_false]; exact XB_false.mpr (hq h)
theorem XB_bool {t : Bool} {a b : IR} {st : St} {Q : Pst} (hp : t = true → X F a st Q) (hq : t = false → X F b st Q) : XB F (.cv (.sc (.bool t))) a b st Q := by
  cases t
  · exact XB_false.mpr (hq rfl)
  · exact XB_true.mpr (hp rfl)

theorem X_cnd {c : Opd} {a b : IR} {s : List VV} {h : Heap} {Q : Pst} : X F (.cond c a b) ⟨s, h⟩ Q ↔ XB F (evalO s c) a b ⟨s, h⟩ Q := by
  unfold X XB
  simp only [execL]
  constructor
  · rintro ⟨o, st', he, hq⟩
    cases hv : evalO s c with
    | cv w =>
      cases w with
      | sc u =>
        cases u with
        | bool t =>
          rw [hv] at he
          refine ⟨t, rfl, ?_⟩
          cases t
          · exact ⟨o, st', he, hq⟩
          · exact ⟨o, st', he, hq⟩
        | _ => rw [hv] at he; cases he
      | sl _ _ _ => rw [hv] at he; cases he
    | _ => rw [hv] at he; cases he
  · rintro ⟨t, ht, hk⟩
    rw [ht]
    cases t
    · exact hk
    · exact hk

theorem XO_ins {d : Option Nat} {i : Ins} {r : List Op1} {s : List VV} {h : Heap} {Q : Pst} (hp : plain i = true) :
    XO F (⟨none, d, i⟩ :: r) ⟨s, h⟩ Q ↔ XV F (stepI h (evalO s) i) d r s Q := by
  unfold XO XV
  simp only [execOps, wantedV]
  rw [stepO_plain hp]
  simp only
  cases hs : stepI h (evalO s) i with
  | none =>
    constructor
    · rintro ⟨_, _, he, _⟩; cases he
    · rintro ⟨_, _, he, _⟩; cases he
  | some y =>
    obtain ⟨v, h'⟩ := y
    constructor
    · exact fun he => ⟨v, h', rfl, he⟩
    · rintro ⟨_, _, he, hk⟩; cases he; exact hk

/-- An operation behind a guard. -/
def XG (F : Nat → Option FnIR) (v : VV) (b : Bool) (d : Option Nat) (i : Ins) (r : List Op1) (s : List VV) (h : Heap) (Q : Pst) : Prop :=
  ∃ t, v = .cv (.sc (.bool t)) ∧ (if t = b then XO F (⟨none, d, i⟩ :: r) ⟨s, h⟩ Q else XO F r ⟨putD s d .undef, h⟩ Q)
section
variable {b : Bool} {d : Option Nat} {i : Ins} {r : List Op1} {s : List VV} {h : Heap} {Q : Pst}
theorem XG_tt : XG F (.cv (.sc (.bool true))) true d i r s h Q ↔ XO F (⟨none, d, i⟩ :: r) ⟨s, h⟩ Q := by
  constructor
  · rintro ⟨_, he, hk⟩; cases he; simpa using hk
  · exact fun hk => ⟨true, rfl, by simpa using hk⟩
theorem XG_ff : XG F (.cv (.sc (.bool false))) false d i r s h Q ↔ XO F (⟨none, d, i⟩ :: r) ⟨s, h⟩ Q := by
  constructor
  · rintro ⟨_, he, hk⟩; cases he; simpa using hk
  · exact fun hk => ⟨false, rfl, by simpa using hk⟩
theorem XG_tf : XG F (.cv (.sc (.bool true))) false d i r s h Q ↔ XO F r ⟨putD s d .undef, h⟩ Q := by
  constructor
  · rintro ⟨_, he, hk⟩; cases he; simpa using hk
  · exact fun hk => ⟨true, rfl, by simpa using hk⟩
theorem XG_ft : XG F (.cv (.sc (.bool false))) true d i r s h Q ↔ XO F r ⟨putD s d .undef, h⟩ Q := by
  constructor
  · rintro ⟨_, he, hk⟩; cases he; simpa using hk
  · exact fun hk => ⟨false, rfl, by simpa using hk⟩

theorem XO_g {g : Nat} : XO F (⟨some (g, b), d, i⟩ :: r) ⟨s, h⟩ Q ↔ XG F (s.getD g .undef) b d i r s h Q := by
  constructor
  · intro hx
    have : ∃ t, s.getD g .undef = .cv (.sc (.bool t)) := by
      obtain ⟨o, st', he, _⟩ := hx
      simp only [execOps, wantedV] at he
      rw [List.getD_eq_getElem?_getD]
      cases hg : s[g]? with
      | none => rw [hg] at he; cases he
      | some w =>
        rw [hg] at he
        cases w with
        | cv w =>
          cases w with
          | sc u =>
            cases u with
            | bool t => exact ⟨t, rfl⟩
            | _ => cases he
          | sl _ _ _ => cases he
        | _ => cases he
    obtain ⟨t, ht⟩ := this
    refine ⟨t, ht, ?_⟩
    rw [XO_guard ht] at hx
    exact hx
  · rintro ⟨t, ht, hk⟩
    rw [XO_guard ht]
    exact hk
end

theorem XO_mv {d : Nat} {x : Opd} {r : List Op1} {s : List VV} {h : Heap} {Q : Pst} : XO F (⟨none, some d, .mv x⟩ :: r) ⟨s, h⟩ Q ↔ XO F r ⟨s.set d (evalO s x), h⟩ Q :=
  XO_step rfl rfl

theorem X_eq {ir ir' : IR} (h : ir = ir') {st : St} {Q : Pst} : X F ir st Q ↔ X F ir' st Q := by rw [h]
theorem XF_eq {ir ir' : IR} (h : ir = ir') {l : Nat} {st : St} {Q : Pst} : XF F ir l st Q ↔ XF F ir' l st Q := by rw [h]

end

/-! ### regions that draw their order, where no read stands between changes -/

/-- Each read has one place among the changes. -/
def allEq : List (Op1 × Cl) → Bool
  | [] => true
  | (_, .r lo hi) :: r => lo == hi && allEq r
  | _ :: r => allEq r

def isk : Cl → Bool
  | .k => true
  | _ => false

def XD (F : Nat → Option FnIR) : List (Op1 × Cl) → St → Pst → Prop
  | [], st, Q => Q .norm st
  | (o, c) :: r, st, Q => match wantedV st.s o.g with
    | some true => ∃ st1, stepO (call F) st o = some (.norm, st1) ∧ (isk c = false → st1.h = st.h) ∧ XD F r st1 Q
    | some false => XD F r ⟨putD st.s o.d .undef, st.h⟩ Q
    | none => False

theorem XD_ops {F : Nat → Option FnIR} : ∀ (ops : List (Op1 × Cl)) (hs : List Heap) (ck : Cks) (st : St) (Q : Pst), allEq ops = true → XD F ops st Q → (∀ x ∈ ck, ∀ h, x.2.2 h) →
    ∃ st1 hs1 ck1, drawOps (call F) ops hs ck st = some (st1, hs1, ck1) ∧ (∀ x ∈ ck1, ∀ h, x.2.2 h) ∧ Q .norm st1
  | [], hs, ck, st, Q, _, hx, hc => ⟨st, hs, ck, rfl, hc, hx⟩
  | (o, c) :: r, hs, ck, st, Q, ha, hx, hc => by
    have har : allEq r = true := by
      cases c with
      | p => exact ha
      | k => exact ha
      | r lo hi => simp only [allEq, Bool.and_eq_true] at ha; exact ha.2
    simp only [XD] at hx
    simp only [drawOps]
    cases hw : wantedV st.s o.g with
    | none => rw [hw] at hx; exact hx.elim
    | some b =>
      rw [hw] at hx
      cases b with
      | false => exact XD_ops r _ ck _ Q har hx hc
      | true =>
        obtain ⟨st1, h1, h2, h3⟩ := hx
        simp only [h1]
        cases c with
        | p =>
          have e : (⟨st1.s, st.h⟩ : St) = st1 := by rw [← h2 rfl]
          simp only [e]
          exact XD_ops r _ ck _ Q har h3 hc
        | k => exact XD_ops r _ ck _ Q har h3 hc
        | r lo hi =>
          have e : (⟨st1.s, st.h⟩ : St) = st1 := by rw [← h2 rfl]
          have hlh : lo = hi := by
            simp only [allEq, Bool.and_eq_true, beq_iff_eq] at ha
            exact ha.1
          simp only [e, if_pos hlh]
          refine XD_ops r _ _ _ Q har h3 ?_
          intro x hx
          rcases List.mem_cons.mp hx with rfl | hx
          · exact fun _ => h2 rfl
          · exact hc x hx

theorem X_draw {F : Nat → Option FnIR} {ops : List (Op1 × Cl)} {st : St} {Q : Pst} (ha : allEq ops = true) (hx : XD F ops st Q) : X F (.draw ops) st Q := by
  obtain ⟨st1, hs1, ck1, h1, h2, h3⟩ := XD_ops ops [st.h] [] st Q ha hx (fun x hx => by cases hx)
  refine ⟨.norm, st1, ?_, h3⟩
  simp only [execL, execDraw, h1]
  rw [if_pos]
  exact fun x hx b _ _ h _ => h2 x hx h

section
variable {F : Nat → Option FnIR} {d : Option Nat} {c : Cl} {q : List (Op1 × Cl)} {s : List VV} {h : Heap} {Q : Pst}

theorem XD_nil {st : St} : XD F [] st Q ↔ Q .norm st := Iff.rfl

/-- A plain step's outcome, and then the rest. -/
def XVD (F : Nat → Option FnIR) (x : Option (VV × Heap)) (c : Cl) (h : Heap) (d : Option Nat) (q : List (Op1 × Cl)) (s : List VV) (Q : Pst) : Prop :=
  ∃ v h', x = some (v, h') ∧ (isk c = false → h' = h) ∧ XD F q ⟨putD s d v, h'⟩ Q
theorem XVD_same {v : VV} : XVD F (some (v, h)) c h d q s Q ↔ XD F q ⟨putD s d v, h⟩ Q := by
  constructor
  · rintro ⟨_, _, he, _, hk⟩; cases he; exact hk
  · exact fun hk => ⟨v, h, rfl, fun _ => rfl, hk⟩
theorem XVD_k {v : VV} {h' : Heap} : XVD F (some (v, h')) .k h d q s Q ↔ XD F q ⟨putD s d v, h'⟩ Q := by
  constructor
  · rintro ⟨_, _, he, _, hk⟩; cases he; exact hk
  · exact fun hk => ⟨v, h', rfl, (fun e => by cases e), hk⟩
def XWD (F : Nat → Option FnIR) (x : Option VV) (h : Heap) (d : Option Nat) (q : List (Op1 × Cl)) (s : List VV) (Q : Pst) : Prop := ∃ v, x = some v ∧ XD F q ⟨putD s d v, h⟩ Q
theorem XWD_some {v : VV} : XWD F (some v) h d q s Q ↔ XD F q ⟨putD s d v, h⟩ Q := by
  constructor
  · rintro ⟨_, he, hk⟩; cases he; exact hk
  · exact fun hk => ⟨v, rfl, hk⟩

theorem XD_ins {i : Ins} (hp : plain i = true) : XD F ((⟨none, d, i⟩, c) :: q) ⟨s, h⟩ Q ↔ XVD F (stepI h (evalO s) i) c h d q s Q := by
  simp only [XD, wantedV]
  unfold XVD
  rw [stepO_plain hp]
  simp only
  cases hs : stepI h (evalO s) i with
  | none =>
    constructor
    · rintro ⟨_, he, _⟩; cases he
    · rintro ⟨_, _, he, _⟩; cases he
  | some y =>
    obtain ⟨v, h'⟩ := y
    constructor
    · rintro ⟨_, he, h1, h2⟩; cases he; exact ⟨v, h', rfl, h1, h2⟩
    · rintro ⟨_, _, he, h1, h2⟩; cases he; exact ⟨_, rfl, h1, h2⟩

theorem XWD_of {i : Ins} {u : Option VV} (hp : plain i = true) (hs : stepI h (evalO s) i = u.map (·, h)) : XD F ((⟨none, d, i⟩, c) :: q) ⟨s, h⟩ Q ↔ XWD F u h d q s Q := by
  rw [XD_ins hp, hs]
  cases u with
  | none =>
    constructor
    · rintro ⟨_, _, he, _⟩; cases he
    · rintro ⟨_, he, _⟩; cases he
  | some v => exact XVD_same.trans XWD_some.symm

/-- An operation behind a guard. -/
def XGD (F : Nat → Option FnIR) (v : VV) (b : Bool) (d : Option Nat) (i : Ins) (c : Cl) (q : List (Op1 × Cl)) (s : List VV) (h : Heap) (Q : Pst) : Prop :=
  ∃ t, v = .cv (.sc (.bool t)) ∧ (if t = b then XD F ((⟨none, d, i⟩, c) :: q) ⟨s, h⟩ Q else XD F q ⟨putD s d .undef, h⟩ Q)
theorem XGD_tt {i : Ins} : XGD F (.cv (.sc (.bool true))) true d i c q s h Q ↔ XD F ((⟨none, d, i⟩, c) :: q) ⟨s, h⟩ Q := by
  constructor
  · rintro ⟨_, he, hk⟩; cases he; simpa using hk
  · exact fun hk => ⟨true, rfl, by simpa using hk⟩
theorem XGD_ff {i : Ins} : XGD F (.cv (.sc (.bool false))) false d i c q s h Q ↔ XD F ((⟨none, d, i⟩, c) :: q) ⟨s, h⟩ Q := by
  constructor
  · rintro ⟨_, he, hk⟩; cases he; simpa using hk
  · exact fun hk => ⟨false, rfl, by simpa using hk⟩
theorem XGD_tf {i : Ins} : XGD F (.cv (.sc (.bool true))) false d i c q s h Q ↔ XD F q ⟨putD s d .undef, h⟩ Q := by
  constructor
  · rintro ⟨_, he, hk⟩; cases he; simpa using hk
  · exact fun hk => ⟨true, rfl, by simpa using hk⟩
theorem XGD_ft {i : Ins} : XGD F (.cv (.sc (.bool false))) true d i c q s h Q ↔ XD F q ⟨putD s d .undef, h⟩ Q := by
  constructor
  · rintro ⟨_, he, hk⟩; cases he; simpa using hk
  · exact fun hk => ⟨false, rfl, by simpa using hk⟩

theorem XD_g {g : Nat} {b : Bool} {i : Ins} : XD F ((⟨some (g, b), d, i⟩, c) :: q) ⟨s, h⟩ Q ↔ XGD F (s.getD g .undef) b d i c q s h Q := by
  have hw : ∀ t, s.getD g .undef = .cv (.sc (.bool t)) → wantedV s (some (g, b)) = some (t == b) := by
    intro t ht
    have hg : s[g]? = some (.cv (.sc (.bool t))) := by
      rw [List.getD_eq_getElem?_getD] at ht
      cases hh : s[g]? with
      | none => rw [hh] at ht; cases ht
      | some x => rw [hh] at ht; exact congrArg some ht
    simp only [wantedV, hg]
  constructor
  · intro hx
    have : ∃ t, s.getD g .undef = .cv (.sc (.bool t)) := by
      simp only [XD, wantedV] at hx
      rw [List.getD_eq_getElem?_getD]
      cases hg : s[g]? with
      | none => rw [hg] at hx; exact hx.elim
      | some w =>
        rw [hg] at hx
        cases w with
        | cv w =>
          cases w with
          | sc u =>
            cases u with
            | bool t => exact ⟨t, rfl⟩
            | _ => exact hx.elim
          | sl _ _ _ => exact hx.elim
        | _ => exact hx.elim
    obtain ⟨t, ht⟩ := this
    refine ⟨t, ht, ?_⟩
    simp only [XD, hw t ht] at hx
    by_cases htb : t = b
    · subst htb
      simp only [beq_self_eq_true] at hx
      rw [if_pos rfl]
      exact hx
    · have e : (t == b) = false := by simpa using htb
      rw [e] at hx
      rw [if_neg htb]
      exact hx
  · rintro ⟨t, ht, hk⟩
    simp only [XD, hw t ht]
    by_cases htb : t = b
    · subst htb
      rw [if_pos rfl] at hk
      simp only [beq_self_eq_true]
      exact hk
    · have e : (t == b) = false := by simpa using htb
      rw [if_neg htb] at hk
      rw [e]
      exact hk

theorem XD_mv {d : Nat} {x : Opd} : XD F ((⟨none, some d, .mv x⟩, c) :: q) ⟨s, h⟩ Q ↔ XD F q ⟨s.set d (evalO s x), h⟩ Q :=
  (XWD_of (u := some (evalO s x)) rfl rfl).trans XWD_some

theorem XD_call {f : Nat} {p : Bool} {args : List Opd} {v : VV} (hc : doCall (call F) h f p (args.map (evalO s)) = some (.ret v, h)) (hk : XD F q ⟨putD s d v, h⟩ Q) :
    XD F ((⟨none, d, .call f p args⟩, c) :: q) ⟨s, h⟩ Q := by
  simp only [XD, wantedV]
  exact ⟨⟨putD s d v, h⟩, by simp only [stepO, hc], fun _ => rfl, hk⟩
theorem XD_callk {f : Nat} {p : Bool} {args : List Opd} {v : VV} {h' : Heap} (hc : doCall (call F) h f p (args.map (evalO s)) = some (.ret v, h')) (hk : XD F q ⟨putD s d v, h'⟩ Q) :
    XD F ((⟨none, d, .call f p args⟩, .k) :: q) ⟨s, h⟩ Q := by
  simp only [XD, wantedV]
  exact ⟨⟨putD s d v, h'⟩, by simp only [stepO, hc], (fun e => by cases e), hk⟩
end

/-! ### values -/

abbrev vi (k : IntKind) (n : Int) : VV := .cv (.sc (.int k n))
abbrev vb (t : Bool) : VV := .cv (.sc (.bool t))
abbrev vs (t : ByteArray) : VV := .cv (.sc (.string t))
abbrev nilS : VV := .cv (.sc (.slice none 0 0))

def binO (op : BinOp) : VV → VV → Option VV
  | .cv (.sc a), .cv (.sc b) => (binV op a b).map fun v => .cv (.sc v)
  | _, _ => none

section
variable {F : Nat → Option FnIR} {d : Option Nat} {x y z : Opd} {r : List Op1} {c : Cl} {q : List (Op1 × Cl)} {s : List VV} {h : Heap} {Q : Pst}

theorem XW_of {i : Ins} {u : Option VV} (hp : plain i = true) (hs : stepI h (evalO s) i = u.map (·, h)) : XO F (⟨none, d, i⟩ :: r) ⟨s, h⟩ Q ↔ XW F u h d r s Q := by
  rw [XO_ins hp, hs]
  cases u with
  | none =>
    constructor
    · rintro ⟨_, _, he, _⟩; cases he
    · rintro ⟨_, he, _⟩; cases he
  | some v => exact XV_some.trans XW_some.symm

theorem st_bin {op : BinOp} : stepI h (evalO s) (.bin op x y) = (binO op (evalO s x) (evalO s y)).map (·, h) := by
  simp only [stepI]
  generalize evalO s x = a
  generalize evalO s y = b
  cases a with
  | cv c => cases c with
    | sc u =>
      cases b with
      | cv c' => cases c' with
        | sc u' => simp only [binO]; cases binV op u u' <;> rfl
        | sl _ _ _ => rfl
      | _ => rfl
    | sl _ _ _ => rfl
  | _ => rfl

def cvO (k : IntKind) : VV → Option VV
  | .cv (.sc (.int _ n)) => some (vi k (k.wrap n))
  | _ => none
theorem cvO_eq {k k' : IntKind} {n : Int} : cvO k (vi k' n) = some (vi k (k.wrap n)) := rfl
theorem st_cvI {k : IntKind} : stepI h (evalO s) (.cvI k x) = (cvO k (evalO s x)).map (·, h) := by
  simp only [stepI]
  generalize evalO s x = v
  cases v with
  | cv c => cases c with
    | sc u => cases u <;> rfl
    | sl _ _ _ => rfl
  | _ => rfl

def pkO (c a b : VV) : Option VV := match c with
  | .cv (.sc (.bool t)) => some (if t then a else b)
  | _ => none
theorem pkO_t {a b : VV} : pkO (vb true) a b = some a := rfl
theorem pkO_f {a b : VV} : pkO (vb false) a b = some b := rfl
theorem st_pick : stepI h (evalO s) (.pick x y z) = (pkO (evalO s x) (evalO s y) (evalO s z)).map (·, h) := by
  simp only [stepI]
  generalize evalO s x = v
  cases v with
  | cv c => cases c with
    | sc u => cases u <;> rfl
    | sl _ _ _ => rfl
  | _ => rfl

def exO (v : VV) (i : Nat) : Option VV := match v with
  | .tup vs => vs[i]?
  | _ => none
theorem exO_eq {l : List VV} {i : Nat} : exO (.tup l) i = l[i]? := rfl
theorem st_ext {i : Nat} : stepI h (evalO s) (.ext x i) = (exO (evalO s x) i).map (·, h) := by
  simp only [stepI]
  generalize evalO s x = v
  cases v with
  | tup vs => simp only [exO]; cases vs[i]? <;> rfl
  | _ => rfl

def lnO (str : Bool) (v : VV) : Option VV := (if str then strLen v else lenV v).map fun n => vi .i64 n
theorem st_len {str : Bool} : stepI h (evalO s) (.len str x) = (lnO str (evalO s x)).map (·, h) := by
  simp only [stepI, lnO]
  cases str
  · simp only [Bool.false_eq_true, if_false]; cases lenV (evalO s x) <;> rfl
  · simp only [if_true]; cases strLen (evalO s x) <;> rfl

def mmO (m : Bool) : VV → VV → Option VV
  | .cv (.sc (.int k a)), .cv (.sc (.int _ b)) => some (vi k (if m then min a b else max a b))
  | _, _ => none
theorem mmO_min {k : IntKind} {a b : Int} : mmO true (vi k a) (vi k b) = some (vi k (min a b)) := rfl
theorem mmO_max {k : IntKind} {a b : Int} : mmO false (vi k a) (vi k b) = some (vi k (max a b)) := rfl
theorem st_mnmx {m : Bool} : stepI h (evalO s) (.mnmx m [x, y]) = (mmO m (evalO s x) (evalO s y)).map (·, h) := by
  simp only [stepI, List.map]
  generalize evalO s x = v
  generalize evalO s y = w
  cases v with
  | cv c => cases c with
    | sc u =>
      cases w with
      | cv c' => cases c' with
        | sc u' =>
          cases u <;> cases u' <;> simp only [mnmxL, mnmxV, mmO, Option.map_none, Option.map_some]
          rename_i k a k' b
          cases m
          · simp only [Bool.false_eq_true, if_false]
            have : (if b > a then b else a) = max a b := by split <;> omega
            rw [this]
          · simp only [if_true]
            have : (if b < a then b else a) = min a b := by split <;> omega
            rw [this]
        | sl _ _ _ => cases u <;> rfl
      | _ => cases u <;> rfl
    | sl _ _ _ => rfl
  | _ => rfl

theorem XO_bin {op : BinOp} : XO F (⟨none, d, .bin op x y⟩ :: r) ⟨s, h⟩ Q ↔ XW F (binO op (evalO s x) (evalO s y)) h d r s Q := XW_of rfl st_bin
theorem XD_bin {op : BinOp} : XD F ((⟨none, d, .bin op x y⟩, c) :: q) ⟨s, h⟩ Q ↔ XWD F (binO op (evalO s x) (evalO s y)) h d q s Q := XWD_of rfl st_bin
theorem XO_cvI {k : IntKind} : XO F (⟨none, d, .cvI k x⟩ :: r) ⟨s, h⟩ Q ↔ XW F (cvO k (evalO s x)) h d r s Q := XW_of rfl st_cvI
theorem XD_cvI {k : IntKind} : XD F ((⟨none, d, .cvI k x⟩, c) :: q) ⟨s, h⟩ Q ↔ XWD F (cvO k (evalO s x)) h d q s Q := XWD_of rfl st_cvI
theorem XO_pick : XO F (⟨none, d, .pick x y z⟩ :: r) ⟨s, h⟩ Q ↔ XW F (pkO (evalO s x) (evalO s y) (evalO s z)) h d r s Q := XW_of rfl st_pick
theorem XD_pick : XD F ((⟨none, d, .pick x y z⟩, c) :: q) ⟨s, h⟩ Q ↔ XWD F (pkO (evalO s x) (evalO s y) (evalO s z)) h d q s Q := XWD_of rfl st_pick
theorem XO_ext {i : Nat} : XO F (⟨none, d, .ext x i⟩ :: r) ⟨s, h⟩ Q ↔ XW F (exO (evalO s x) i) h d r s Q := XW_of rfl st_ext
theorem XD_ext {i : Nat} : XD F ((⟨none, d, .ext x i⟩, c) :: q) ⟨s, h⟩ Q ↔ XWD F (exO (evalO s x) i) h d q s Q := XWD_of rfl st_ext
theorem XO_len {str : Bool} : XO F (⟨none, d, .len str x⟩ :: r) ⟨s, h⟩ Q ↔ XW F (lnO str (evalO s x)) h d r s Q := XW_of rfl st_len
theorem XD_len {str : Bool} : XD F ((⟨none, d, .len str x⟩, c) :: q) ⟨s, h⟩ Q ↔ XWD F (lnO str (evalO s x)) h d q s Q := XWD_of rfl st_len
theorem XO_mnmx {m : Bool} : XO F (⟨none, d, .mnmx m [x, y]⟩ :: r) ⟨s, h⟩ Q ↔ XW F (mmO m (evalO s x) (evalO s y)) h d r s Q := XW_of rfl st_mnmx
theorem XD_mnmx {m : Bool} : XD F ((⟨none, d, .mnmx m [x, y]⟩, c) :: q) ⟨s, h⟩ Q ↔ XWD F (mmO m (evalO s x) (evalO s y)) h d q s Q := XWD_of rfl st_mnmx

def mk1 : VV → Option VV
  | .cv c => some (.cv (.sl 1 [[c]] true))
  | _ => none
theorem mk1_eq {c : CV} : mk1 (.cv c) = some (.cv (.sl 1 [[c]] true)) := rfl

end

end Go.Vm
