/- Part of a proof: of what it says, and when, each theorem tells itself. -/
import Derived.Test.YtlnbhfokhbmhdaaDoorVmAll1
import Derived.Below
import Derived.Lib.VarintBits
import Derived.Carry
import Derived.ChangeArms
import Derived.OpenShut
/-
  Vm: the machine without a measure: the limit of its runs (own work).
-/
namespace Go.Vm
open Go

def CallLe (c c' : CallSem) : Prop := ∀ f a h r, c f a h = some r → c' f a h = some r

theorem CallLe.rfl (c : CallSem) : CallLe c c := fun _ _ _ _ h => h

theorem doCall_mono {c c' : CallSem} (hc : CallLe c c') {h : Heap} {f : Nat} {p : Bool} {args : List VV} {r : CRes × Heap}
    (hr : doCall c h f p args = some r) : doCall c' h f p args = some r := by
  unfold doCall at hr ⊢
  cases p with
  | false => simpa using hc _ _ _ _ (by simpa using hr)
  | true =>
    simp only [if_true] at hr ⊢
    cases hA : closAs h args with
    | none => rw [hA] at hr; cases hr
    | some x =>
      obtain ⟨as, h1⟩ := x
      rw [hA] at hr
      simp only at hr ⊢
      cases hB : c f as [] with
      | none => rw [hB] at hr; cases hr
      | some y =>
        rw [hB] at hr
        rw [hc _ _ _ _ hB]
        exact hr

theorem callAt_mono {c c' : CallSem} (hc : CallLe c c') {h : Heap} {f : Nat} {p : Bool} {args : List VV} {r : CRes × Heap}
    (hr : callAt c h f p args = some r) : callAt c' h f p args = some r := by
  unfold callAt at hr ⊢
  by_cases hf : f < SOFT
  · rw [if_pos hf] at hr ⊢; exact doCall_mono hc hr
  · rw [if_neg hf] at hr ⊢
    unfold doSoft at hr ⊢
    cases hA : doCall c h (f - SOFT) true args with
    | none => rw [hA] at hr; cases hr
    | some x => rw [hA] at hr; rw [doCall_mono hc hA]; exact hr

theorem stepO_mono {c c' : CallSem} (hc : CallLe c c') {st : St} {o : Op1} {r : Out × St} (hr : stepO c st o = some r) : stepO c' st o = some r := by
  obtain ⟨g, d, i⟩ := o
  cases i with
  | call f p args =>
    simp only [stepO] at hr ⊢
    cases hA : callAt c st.h f p (args.map (evalO st.s)) with
    | none => rw [hA] at hr; cases hr
    | some x => rw [hA] at hr; rw [callAt_mono hc hA]; exact hr
  | callv p x args =>
    simp only [stepO] at hr ⊢
    cases hx : calleeOf p (evalO st.s x) with
    | none => rw [hx] at hr; cases hr
    | some y =>
    rw [hx] at hr
    obtain ⟨f, caps⟩ := y
    simp only at hr ⊢
    cases hA : doCall c st.h f p (args.map (evalO st.s) ++ caps) with
    | none => rw [hA] at hr; cases hr
    | some x => rw [hA] at hr; rw [doCall_mono hc hA]; exact hr
  | _ => exact hr

theorem execOps_mono {c c' : CallSem} (hc : CallLe c c') : ∀ (ops : List Op1) {st : St} {r : Out × St}, execOps c ops st = some r → execOps c' ops st = some r
  | [], _, _, hr => hr
  | o :: l, st, r, hr => by
    simp only [execOps] at hr ⊢
    cases hw : wantedV st.s o.g with
    | none => rw [hw] at hr; cases hr
    | some b =>
      rw [hw] at hr
      cases b with
      | false => exact execOps_mono hc l hr
      | true =>
        simp only at hr ⊢
        cases hs : stepO c st o with
        | none => rw [hs] at hr; cases hr
        | some x =>
          rw [hs] at hr
          rw [stepO_mono hc hs]
          obtain ⟨o', s'⟩ := x
          cases o' <;> first | exact execOps_mono hc l hr | exact hr

abbrev Cks := List (Nat × Nat × (Heap → Prop))
/-- The same checks, or weaker ones. -/
def CkLe (a b : Cks) : Prop := ∀ x ∈ b, ∃ y ∈ a, y.1 = x.1 ∧ y.2.1 = x.2.1 ∧ ∀ h, y.2.2 h → x.2.2 h

theorem CkLe.cons {a b : Cks} (h : CkLe a b) {lo hi : Nat} {p q : Heap → Prop} (hpq : ∀ h, p h → q h) : CkLe ((lo, hi, p) :: a) ((lo, hi, q) :: b) := by
  intro x hx
  rcases List.mem_cons.mp hx with rfl | hx
  · exact ⟨_, List.mem_cons_self, rfl, rfl, hpq⟩
  · obtain ⟨y, hy, h1, h2, h3⟩ := h x hx
    exact ⟨y, List.mem_cons_of_mem _ hy, h1, h2, h3⟩

theorem drawOps_mono {c c' : CallSem} (hc : CallLe c c') : ∀ (ops : List (Op1 × Cl)) {hs : List Heap} {ck ck' : Cks} {st : St} {st1 : St} {hs1 : List Heap} {ck1 : Cks},
    drawOps c ops hs ck st = some (st1, hs1, ck1) → CkLe ck ck' → ∃ ck1', drawOps c' ops hs ck' st = some (st1, hs1, ck1') ∧ CkLe ck1 ck1'
  | [], _, _, _, _, _, _, _, hr, hk => by
    simp only [drawOps, Option.some.injEq, Prod.mk.injEq] at hr ⊢
    obtain ⟨rfl, rfl, rfl⟩ := hr
    exact ⟨_, ⟨rfl, rfl, rfl⟩, hk⟩
  | (o, cl) :: l, hs, ck, ck', st, st1, hs1, ck1, hr, hk => by
    simp only [drawOps] at hr ⊢
    cases hw : wantedV st.s o.g with
    | none => rw [hw] at hr; cases hr
    | some b =>
      rw [hw] at hr
      cases b with
      | false => exact drawOps_mono hc l hr hk
      | true =>
        simp only at hr ⊢
        cases hst : stepO c st o with
        | none => rw [hst] at hr; cases hr
        | some x =>
          rw [hst] at hr
          rw [stepO_mono hc hst]
          obtain ⟨o', s'⟩ := x
          cases o' <;> try (simp only at hr; cases hr; done)
          cases cl with
          | p => exact drawOps_mono hc l hr hk
          | k => exact drawOps_mono hc l hr hk
          | r lo hi =>
            refine drawOps_mono hc l hr ?_
            by_cases hlh : lo = hi
            · rw [if_pos hlh, if_pos hlh]; exact hk.cons fun _ h => h
            · rw [if_neg hlh, if_neg hlh]; exact hk.cons fun h hh => stepO_mono hc hh

theorem execDraw_mono {c c' : CallSem} (hc : CallLe c c') {ops : List (Op1 × Cl)} {st : St} {r : Out × St} (hr : execDraw c ops st = some r) : execDraw c' ops st = some r := by
  unfold execDraw at hr ⊢
  cases hd : drawOps c ops [st.h] [] st with
  | none => rw [hd] at hr; cases hr
  | some x =>
    obtain ⟨st1, hs1, ck1⟩ := x
    rw [hd] at hr
    obtain ⟨ck', hd', hk⟩ := drawOps_mono hc ops hd (ck' := []) (fun x hx => by cases hx)
    rw [hd']
    simp only at hr ⊢
    split at hr
    · rename_i hall
      rw [if_pos]
      · exact hr
      · intro x hx b hb1 hb2 h hh
        obtain ⟨y, hy, h1, h2, h3⟩ := hk x hx
        exact h3 h (hall y hy b (by omega) (by omega) h hh)
    · cases hr

theorem iter_mono {b b' : St → Option (Out × St)} (hb : ∀ st r, b st = some r → b' st = some r) : ∀ {n m : Nat} (_ : n ≤ m) {st : St} {r : Out × St}, iter b n st = some r → iter b' m st = some r
  | 0, _, _, _, _, hr => by cases hr
  | n + 1, 0, hnm, _, _, _ => by omega
  | n + 1, m + 1, hnm, st, r, hr => by
    simp only [iter] at hr ⊢
    cases hs : b st with
    | none => rw [hs] at hr; cases hr
    | some x =>
      rw [hs] at hr
      rw [hb _ _ hs]
      obtain ⟨o', s'⟩ := x
      cases o' <;> first | exact iter_mono hb (by omega) hr | exact hr

theorem jumpIter_mono {f f' : Nat → St → Option (Out × St)} {has : Nat → Bool} (hf : ∀ l st r, f l st = some r → f' l st = some r) :
    ∀ {n m : Nat} (_ : n ≤ m) {x x' : Option (Out × St)} (_ : ∀ r, x = some r → x' = some r) {r : Out × St}, jumpIter f has n x = some r → jumpIter f' has m x' = some r
  | 0, m, _, x, x', hx, r, hr => by
    cases x with
    | none => simp [jumpIter] at hr
    | some y =>
      rw [hx _ rfl]
      obtain ⟨o, s⟩ := y
      cases o with
      | goto l =>
        simp only [jumpIter] at hr
        split at hr
        · cases hr
        · rename_i hh
          cases m with
          | zero => simp only [jumpIter]; rw [if_neg hh]; exact hr
          | succ m => simp only [jumpIter]; rw [if_neg hh]; exact hr
      | _ => cases m <;> exact hr
  | n + 1, 0, hnm, _, _, _, _, _ => by omega
  | n + 1, m + 1, hnm, x, x', hx, r, hr => by
    cases x with
    | none => simp [jumpIter] at hr
    | some y =>
      rw [hx _ rfl]
      obtain ⟨o, s⟩ := y
      cases o with
      | goto l =>
        simp only [jumpIter] at hr ⊢
        split at hr
        · rename_i hh
          rw [if_pos hh]
          exact jumpIter_mono hf (by omega) (hf l s) hr
        · rename_i hh
          rw [if_neg hh]
          exact hr
      | _ => exact hr

theorem rangeIn_mono {c c' : CallSem} (hc : CallLe c c') {x : VV} {ps : List Nat} {asg body : IR} {st : St} {r : Out × St} (hr : rangeIn c x ps asg body st = some r) : rangeIn c' x ps asg body st = some r := by
  unfold rangeIn at hr ⊢
  split at hr
  rotate_left
  · cases hr
  rename_i f caps
  split at hr
  rotate_left
  · cases hr
  rename_i hyb
  rw [if_pos hyb]
  cases hA : c f (.yield st.h.length :: caps) (st.h ++ [.loop ps asg body st.s .ready none]) with
  | none => rw [hA] at hr; cases hr
  | some y =>
    rw [hA] at hr
    rw [hc _ _ _ _ hA]; exact hr

theorem roundF_mono {ex ex' : IR → St → Option (Out × St)} (he : ∀ ir st r, ex ir st = some r → ex' ir st = some r) {id : Nat} {args : List VV} {h : Heap} {r : CRes × Heap} (hr : roundF ex id args h = some r) : roundF ex' id args h = some r := by
  unfold roundF at hr ⊢
  split at hr
  rotate_left
  · cases hr
  rename_i ps asg body s st0 p0 ho
  split at hr
  rotate_left
  · cases hr
  rename_i hlen
  rw [if_pos hlen]
  cases hA : ex asg ⟨setAll s ps args, h⟩ with
  | none => rw [hA] at hr; cases hr
  | some y =>
    rw [hA] at hr
    rw [he _ _ _ hA]
    obtain ⟨o, st1⟩ := y
    cases o with
    | norm =>
      simp only at hr ⊢
      split at hr
      rotate_left
      · cases hr
      rename_i ps1 asg1 body1 s1 p1 ho1
      cases hB : ex body ⟨st1.s, st1.h.set id (.loop ps1 asg1 body1 s1 .busy p1)⟩ with
      | none => rw [hB] at hr; cases hr
      | some z => rw [hB] at hr; simp only [he _ _ _ hB]; exact hr
    | _ => exact hr

theorem exec_mono {c c' : CallSem} (hc : CallLe c c') {n m : Nat} (hnm : n ≤ m) : ∀ (ir : IR),
    (∀ {st : St} {r : Out × St}, exec c n ir st = some r → exec c' m ir st = some r) ∧ (∀ {l : Nat} {st : St} {r : Out × St}, execFrom c n ir l st = some r → execFrom c' m ir l st = some r) := by
  intro ir
  induction ir with
  | skip => exact ⟨fun h => by simpa only [exec] using h, fun h => by simp [execFrom] at h⟩
  | reg ops => exact ⟨fun h => by simp only [exec] at h ⊢; exact execOps_mono hc _ h, fun h => by simp [execFrom] at h⟩
  | draw ops => exact ⟨fun h => by simp only [exec] at h ⊢; exact execDraw_mono hc h, fun h => by simp [execFrom] at h⟩
  | seq a b iha ihb =>
    refine ⟨fun {st r} h => ?_, fun {l st r} h => ?_⟩
    · simp only [exec] at h ⊢
      cases hs : exec c n a st with
      | none => rw [hs] at h; cases h
      | some x =>
        rw [hs] at h
        rw [iha.1 hs]
        obtain ⟨o', s'⟩ := x
        cases o' <;> first | exact ihb.1 h | exact h
    · simp only [execFrom] at h ⊢
      cases hf : findL a l with
      | none => rw [hf] at h; exact ihb.2 h
      | some y =>
        rw [hf] at h
        simp only at h ⊢
        cases hs : execFrom c n a l st with
        | none => rw [hs] at h; cases h
        | some x =>
          rw [hs] at h
          rw [iha.2 hs]
          obtain ⟨o', s'⟩ := x
          cases o' <;> first | exact ihb.1 h | exact h
  | cond e a b iha ihb =>
    refine ⟨fun {st r} h => ?_, fun h => by simp [execFrom] at h⟩
    simp only [exec] at h ⊢
    split at h
    · rename_i t ht
      cases t
      · exact ihb.1 h
      · exact iha.1 h
    · cases h
  | block id b ihb =>
    refine ⟨fun {st r} h => ?_, fun h => by simp [execFrom] at h⟩
    simp only [exec] at h ⊢
    cases hs : exec c n b st with
    | none => rw [hs] at h; cases h
    | some x => rw [hs] at h; rw [ihb.1 hs]; exact h
  | loop b ihb =>
    refine ⟨fun {st r} h => ?_, fun h => by simp [execFrom] at h⟩
    simp only [exec] at h ⊢
    exact iter_mono (fun _ _ h => ihb.1 h) hnm h
  | exit id => exact ⟨fun h => by simpa only [exec] using h, fun h => by simp [execFrom] at h⟩
  | scope b ihb =>
    refine ⟨fun {st r} h => ?_, fun h => by simp [execFrom] at h⟩
    simp only [exec] at h ⊢
    exact jumpIter_mono (fun _ _ _ h => ihb.2 h) hnm (fun _ h => ihb.1 h) h
  | label l => exact ⟨fun h => by simpa only [exec] using h, fun h => by simpa only [execFrom] using h⟩
  | goto l => exact ⟨fun h => by simpa only [exec] using h, fun h => by simp [execFrom] at h⟩
  | ret => exact ⟨fun h => by simpa only [exec] using h, fun h => by simp [execFrom] at h⟩
  | rangeF x ps asg body _ _ => exact ⟨fun h => by simp only [exec] at h ⊢; exact rangeIn_mono hc h, fun h => by simp [execFrom] at h⟩

theorem runFn_mono {ex ex' : IR → St → Option (Out × St)} {fn : FnIR} {args : List VV} {h : Heap} {r : CRes × Heap} (he : ∀ st r, ex fn.body st = some r → ex' fn.body st = some r)
    (hr : runFn ex fn args h = some r) : runFn ex' fn args h = some r := by
  unfold runFn at hr ⊢
  split at hr
  · cases hr
  rename_i hb
  rw [if_neg hb]
  cases hs : ex fn.body ⟨args ++ List.replicate (fn.nt - args.length) .undef, h⟩ with
  | none => rw [hs] at hr; cases hr
  | some x => rw [hs] at hr; rw [he _ _ hs]; exact hr

theorem callF_succ (F : Nat → Option FnIR) : ∀ n, CallLe (callF F n) (callF F (n + 1))
  | 0 => fun _ _ _ _ h => by cases h
  | n + 1 => fun f a h r hr => by
    have ih := callF_succ F n
    simp only [callF] at hr ⊢
    cases hf : F f with
    | none =>
      rw [hf] at hr
      simp only at hr ⊢
      split at hr
      · rename_i hy
        rw [if_pos hy]
        exact roundF_mono (fun ir st r hh => (exec_mono ih (Nat.le_succ n) ir).1 hh) hr
      · cases hr
    | some fn =>
      rw [hf] at hr
      exact runFn_mono (fun st r hh => (exec_mono ih (Nat.le_succ n) fn.body).1 hh) hr

theorem callF_mono (F : Nat → Option FnIR) {n m : Nat} (h : n ≤ m) : CallLe (callF F n) (callF F m) := by
  induction h with
  | refl => exact CallLe.rfl _
  | step _ ih => exact fun f a h r hr => callF_succ F _ f a h r (ih f a h r hr)

/-! ### the limit -/

open Classical in
/-- What a chain of runs comes to. -/
noncomputable def lim {α : Type} (f : Nat → Option α) : Option α := if h : ∃ r, ∃ n, f n = some r then some (Classical.choose h) else none

theorem lim_eq {α : Type} {f : Nat → Option α} (hf : ∀ n m r, n ≤ m → f n = some r → f m = some r) {r : α} : lim f = some r ↔ ∃ n, f n = some r := by
  unfold lim
  constructor
  · intro h
    split at h
    · rename_i he
      rw [← Option.some.inj h]
      exact Classical.choose_spec he
    · cases h
  · rintro ⟨n, hn⟩
    rw [dif_pos ⟨r, n, hn⟩]
    generalize hp : (⟨r, n, hn⟩ : ∃ r, ∃ n, f n = some r) = p
    obtain ⟨m, hm⟩ := Classical.choose_spec p
    have h1 := hf n (max n m) r (Nat.le_max_left _ _) hn
    have h2 := hf m (max n m) _ (Nat.le_max_right _ _) hm
    exact h2.symm.trans h1

noncomputable def call (F : Nat → Option FnIR) : CallSem := fun f a h => lim fun n => callF F n f a h

theorem call_iff {F : Nat → Option FnIR} {f : Nat} {a : List VV} {h : Heap} {r : CRes × Heap} : call F f a h = some r ↔ ∃ n, callF F n f a h = some r :=
  lim_eq fun _ _ _ hnm hr => callF_mono F hnm _ _ _ _ hr

mutual
noncomputable def execL (F : Nat → Option FnIR) : IR → St → Option (Out × St)
  | .skip, st => some (.norm, st)
  | .reg ops, st => execOps (call F) ops st
  | .draw ops, st => execDraw (call F) ops st
  | .seq a b, st => match execL F a st with
    | some (.norm, st1) => execL F b st1
    | x => x
  | .cond c a b, st => match evalO st.s c with
    | .cv (.sc (.bool t)) => if t then execL F a st else execL F b st
    | _ => none
  | .block id b, st => match execL F b st with
    | some (.exit id', st1) => if id' = id then some (.norm, st1) else some (.exit id', st1)
    | x => x
  | .loop b, st => lim fun n => iter (fun st => execL F b st) n st
  | .exit id, st => some (.exit id, st)
  | .scope b, st => lim fun n => jumpIter (fun l st => execLFrom F b l st) (fun l => (findL b l).isSome) n (execL F b st)
  | .label _, st => some (.norm, st)
  | .goto l, st => some (.goto l, st)
  | .ret, st => some (.ret, st)
  | .rangeF x ps asg body, st => rangeIn (call F) (evalO st.s x) ps asg body st
noncomputable def execLFrom (F : Nat → Option FnIR) : IR → Nat → St → Option (Out × St)
  | .seq a b, l, st => match findL a l with
    | some _ => match execLFrom F a l st with
      | some (.norm, st1) => execL F b st1
      | x => x
    | none => execLFrom F b l st
  | .label l', l, st => if l' == l then some (.norm, st) else none
  | _, _, _ => none
end

/-- The loop, once more. -/
theorem execL_loop (F : Nat → Option FnIR) (b : IR) (st : St) : execL F (.loop b) st = match execL F b st with
    | some (.norm, st1) => execL F (.loop b) st1
    | x => x := by
  have hm : ∀ st : St, ∀ n m r, n ≤ m → iter (fun st => execL F b st) n st = some r → iter (fun st => execL F b st) m st = some r :=
    fun st n m r hnm => iter_mono (fun _ _ h => h) hnm
  apply Option.ext
  intro r
  simp only [execL]
  rw [lim_eq (hm st)]
  cases hs : execL F b st with
  | none =>
    constructor
    · rintro ⟨n, hn⟩
      cases n with
      | zero => cases hn
      | succ n => simp only [iter, hs] at hn; cases hn
    · intro h; cases h
  | some x =>
    obtain ⟨o, s⟩ := x
    constructor
    · rintro ⟨n, hn⟩
      cases n with
      | zero => cases hn
      | succ n =>
        simp only [iter, hs] at hn
        cases o <;> first | exact (lim_eq (hm s)).mpr ⟨n, hn⟩ | exact hn
    · intro h
      cases o with
      | norm =>
        obtain ⟨n, hn⟩ := (lim_eq (hm s)).mp h
        exact ⟨n + 1, by simp only [iter, hs]; exact hn⟩
      | _ => exact ⟨1, by simp only [iter, hs]; exact h⟩

/-! ### what the limit has, a run has -/

theorem doCall_lim {F : Nat → Option FnIR} {h : Heap} {f : Nat} {p : Bool} {args : List VV} {r : CRes × Heap} (hr : doCall (call F) h f p args = some r) : ∃ n, doCall (callF F n) h f p args = some r := by
  unfold doCall at hr ⊢
  cases p with
  | false =>
    simp only [Bool.false_eq_true, if_false] at hr ⊢
    exact call_iff.mp hr
  | true =>
    simp only [if_true] at hr ⊢
    cases hA : closAs h args with
    | none => rw [hA] at hr; cases hr
    | some x =>
      obtain ⟨as, h1⟩ := x
      rw [hA] at hr
      simp only at hr ⊢
      cases hB : call F f as [] with
      | none => rw [hB] at hr; cases hr
      | some y =>
        rw [hB] at hr
        obtain ⟨n, hn⟩ := call_iff.mp hB
        exact ⟨n, by rw [hn]; exact hr⟩

theorem callAt_lim {F : Nat → Option FnIR} {h : Heap} {f : Nat} {p : Bool} {args : List VV} {r : CRes × Heap} (hr : callAt (call F) h f p args = some r) : ∃ n, callAt (callF F n) h f p args = some r := by
  unfold callAt at hr ⊢
  by_cases hf : f < SOFT
  · rw [if_pos hf] at hr; simp only [if_pos hf]; exact doCall_lim hr
  · rw [if_neg hf] at hr
    simp only [if_neg hf]
    unfold doSoft at hr ⊢
    cases hA : doCall (call F) h (f - SOFT) true args with
    | none => rw [hA] at hr; cases hr
    | some x =>
      rw [hA] at hr
      obtain ⟨n, hn⟩ := doCall_lim hA
      exact ⟨n, by rw [hn]; exact hr⟩

theorem stepO_lim {F : Nat → Option FnIR} {st : St} {o : Op1} {r : Out × St} (hr : stepO (call F) st o = some r) : ∃ n, stepO (callF F n) st o = some r := by
  obtain ⟨g, d, i⟩ := o
  cases i with
  | call f p args =>
    simp only [stepO] at hr ⊢
    cases hA : callAt (call F) st.h f p (args.map (evalO st.s)) with
    | none => rw [hA] at hr; cases hr
    | some x =>
      rw [hA] at hr
      obtain ⟨n, hn⟩ := callAt_lim hA
      exact ⟨n, by rw [hn]; exact hr⟩
  | callv p x args =>
    simp only [stepO] at hr ⊢
    cases hx : calleeOf p (evalO st.s x) with
    | none => rw [hx] at hr; cases hr
    | some y =>
    rw [hx] at hr
    obtain ⟨f, caps⟩ := y
    simp only at hr ⊢
    cases hA : doCall (call F) st.h f p (args.map (evalO st.s) ++ caps) with
    | none => rw [hA] at hr; cases hr
    | some x =>
      rw [hA] at hr
      obtain ⟨n, hn⟩ := doCall_lim hA
      exact ⟨n, by rw [hn]; exact hr⟩
  | _ => exact ⟨0, hr⟩

theorem rangeIn_lim {F : Nat → Option FnIR} {x : VV} {ps : List Nat} {asg body : IR} {st : St} {r : Out × St} (hr : rangeIn (call F) x ps asg body st = some r) : ∃ n, rangeIn (callF F n) x ps asg body st = some r := by
  unfold rangeIn at hr ⊢
  split at hr
  rotate_left
  · cases hr
  rename_i f caps
  split at hr
  rotate_left
  · cases hr
  rename_i hyb
  cases hA : call F f (.yield st.h.length :: caps) (st.h ++ [.loop ps asg body st.s .ready none]) with
  | none => rw [hA] at hr; cases hr
  | some y =>
    rw [hA] at hr
    obtain ⟨n, hn⟩ := call_iff.mp hA
    exact ⟨n, by simp only [if_pos hyb, hn]; exact hr⟩

theorem execOps_lim {F : Nat → Option FnIR} : ∀ (ops : List Op1) {st : St} {r : Out × St}, execOps (call F) ops st = some r → ∃ n, execOps (callF F n) ops st = some r
  | [], _, _, hr => ⟨0, hr⟩
  | o :: l, st, r, hr => by
    simp only [execOps] at hr ⊢
    cases hw : wantedV st.s o.g with
    | none => rw [hw] at hr; cases hr
    | some b =>
      rw [hw] at hr
      cases b with
      | false => exact execOps_lim l hr
      | true =>
        simp only at hr ⊢
        cases hs : stepO (call F) st o with
        | none => rw [hs] at hr; cases hr
        | some x =>
          rw [hs] at hr
          obtain ⟨n, hn⟩ := stepO_lim hs
          obtain ⟨o', s'⟩ := x
          cases o' with
          | norm =>
            obtain ⟨m, hm⟩ := execOps_lim l hr
            refine ⟨max n m, ?_⟩
            rw [stepO_mono (callF_mono F (Nat.le_max_left n m)) hn]
            exact execOps_mono (callF_mono F (Nat.le_max_right n m)) l hm
          | _ => exact ⟨n, by rw [hn]; exact hr⟩

/-- The checks hold of the heaps. -/
def CkOK (hs : List Heap) (ck : Cks) : Prop := ∀ x ∈ ck, ∀ b, x.1 ≤ b → b < x.2.1 → ∀ h, hs[b]? = some h → x.2.2 h

theorem CkOK.le {hs : List Heap} {a b : Cks} (h : CkOK hs a) (hl : CkLe a b) : CkOK hs b := by
  intro x hx i h1 h2 hp hh
  obtain ⟨y, hy, e1, e2, e3⟩ := hl x hx
  exact e3 hp (h y hy i (by omega) (by omega) hp hh)

theorem CkOK.cons {hs : List Heap} {a : Cks} (h : CkOK hs a) {lo hi : Nat} {p : Heap → Prop} (hp : ∀ b, lo ≤ b → b < hi → ∀ h, hs[b]? = some h → p h) : CkOK hs ((lo, hi, p) :: a) := by
  intro x hx
  rcases List.mem_cons.mp hx with rfl | hx
  · exact hp
  · exact h x hx

theorem CkLe.refl (a : Cks) : CkLe a a := fun x hx => ⟨x, hx, rfl, rfl, fun _ h => h⟩

theorem drawOps_ck {c : CallSem} : ∀ (ops : List (Op1 × Cl)) {hs : List Heap} {ck : Cks} {st : St} {st1 : St} {hs1 : List Heap} {ck1 : Cks},
    drawOps c ops hs ck st = some (st1, hs1, ck1) → ∀ x ∈ ck, x ∈ ck1
  | [], _, _, _, _, _, _, hr => by
    simp only [drawOps, Option.some.injEq, Prod.mk.injEq] at hr
    obtain ⟨_, _, rfl⟩ := hr
    exact fun _ h => h
  | (o, cl) :: l, hs, ck, st, st1, hs1, ck1, hr => by
    simp only [drawOps] at hr
    cases hw : wantedV st.s o.g with
    | none => rw [hw] at hr; cases hr
    | some b =>
      rw [hw] at hr
      cases b with
      | false => exact drawOps_ck l hr
      | true =>
        simp only at hr
        cases hst : stepO c st o with
        | none => rw [hst] at hr; cases hr
        | some x =>
          rw [hst] at hr
          obtain ⟨o', s'⟩ := x
          cases o' <;> try (simp only at hr; cases hr; done)
          cases cl with
          | p => exact drawOps_ck l hr
          | k => exact drawOps_ck l hr
          | r lo hi =>
            intro x hx
            refine drawOps_ck l hr x ?_
            split
            · exact List.mem_cons_of_mem _ hx
            · exact List.mem_cons_of_mem _ hx

theorem ex_all {p : Nat → Nat → Prop} (hm : ∀ n m b, n ≤ m → p n b → p m b) : ∀ (N : Nat), (∀ b < N, ∃ n, p n b) → ∃ n, ∀ b < N, p n b
  | 0, _ => ⟨0, fun b hb => by omega⟩
  | N + 1, h => by
    obtain ⟨n, hn⟩ := ex_all hm N fun b hb => h b (by omega)
    obtain ⟨m, hm'⟩ := h N (by omega)
    refine ⟨max n m, fun b hb => ?_⟩
    by_cases hbN : b = N
    · subst hbN; exact hm _ _ _ (Nat.le_max_right _ _) hm'
    · exact hm _ _ _ (Nat.le_max_left _ _) (hn b (by omega))

theorem drawOps_lim {F : Nat → Option FnIR} : ∀ (ops : List (Op1 × Cl)) {hs : List Heap} {ck ck' : Cks} {st : St} {st1 : St} {hs1 : List Heap} {ck1 : Cks},
    drawOps (call F) ops hs ck st = some (st1, hs1, ck1) → CkOK hs1 ck1 → CkOK hs1 ck' → ∃ n ck1', drawOps (callF F n) ops hs ck' st = some (st1, hs1, ck1') ∧ CkOK hs1 ck1'
  | [], _, _, _, _, _, _, _, hr, _, hk' => by
    simp only [drawOps, Option.some.injEq, Prod.mk.injEq] at hr ⊢
    obtain ⟨rfl, rfl, rfl⟩ := hr
    exact ⟨0, _, ⟨rfl, rfl, rfl⟩, hk'⟩
  | (o, cl) :: l, hs, ck, ck', st, st1, hs1, ck1, hr, hk, hk' => by
    simp only [drawOps] at hr ⊢
    cases hw : wantedV st.s o.g with
    | none => rw [hw] at hr; cases hr
    | some b =>
      rw [hw] at hr
      cases b with
      | false => exact drawOps_lim l hr hk hk'
      | true =>
        simp only at hr ⊢
        cases hst : stepO (call F) st o with
        | none => rw [hst] at hr; cases hr
        | some x =>
          rw [hst] at hr
          obtain ⟨n1, hn1⟩ := stepO_lim hst
          obtain ⟨o', s'⟩ := x
          cases o' <;> try (simp only at hr; cases hr; done)
          simp only at hr
          have fin : ∀ {hs : List Heap} {ck2 : Cks} {st2 : St}, drawOps (call F) l hs ck2 st2 = some (st1, hs1, ck1) → ∀ {ck3 : Cks}, CkOK hs1 ck3 →
              ∃ n ck1', stepO (callF F n) st o = some (Out.norm, s') ∧ drawOps (callF F n) l hs ck3 st2 = some (st1, hs1, ck1') ∧ CkOK hs1 ck1' := by
            intro hs ck2 st2 hd ck3 hk3
            obtain ⟨n2, c2, hn2, hc2⟩ := drawOps_lim l hd hk hk3
            obtain ⟨c3, hd3, hc3⟩ := drawOps_mono (callF_mono F (Nat.le_max_right n1 n2)) l hn2 (CkLe.refl _)
            exact ⟨max n1 n2, c3, stepO_mono (callF_mono F (Nat.le_max_left n1 n2)) hn1, hd3, hc2.le hc3⟩
          cases cl with
          | p =>
            obtain ⟨n, c1, h1, h2, h3⟩ := fin hr hk'
            exact ⟨n, c1, by rw [h1]; exact h2, h3⟩
          | k =>
            obtain ⟨n, c1, h1, h2, h3⟩ := fin hr hk'
            exact ⟨n, c1, by rw [h1]; exact h2, h3⟩
          | r lo hi =>
            by_cases hlh : lo = hi
            · simp only [if_pos hlh] at hr ⊢
              have hin := hk _ (drawOps_ck l hr _ List.mem_cons_self)
              obtain ⟨n, c1, h1, h2, h3⟩ := fin hr (hk'.cons hin)
              exact ⟨n, c1, by rw [h1]; exact h2, h3⟩
            · simp only [if_neg hlh] at hr ⊢
              have hin := hk _ (drawOps_ck l hr _ List.mem_cons_self)
              obtain ⟨n0, hn0⟩ := ex_all (p := fun n b => lo ≤ b → b < hi + 1 → ∀ h, hs1[b]? = some h → Same (callF F n) st o h s'.s)
                (fun n m b hnm h a1 a2 h' hh => stepO_mono (callF_mono F hnm) (h a1 a2 h' hh)) hs1.length (fun b hb => by
                  by_cases hr2 : lo ≤ b ∧ b < hi + 1
                  · obtain ⟨n, hn⟩ := stepO_lim (hin b hr2.1 hr2.2 (hs1[b]'hb) (List.getElem?_eq_getElem hb))
                    refine ⟨n, fun _ _ h hh => ?_⟩
                    rw [List.getElem?_eq_getElem hb] at hh
                    cases hh
                    exact hn
                  · exact ⟨0, fun a1 a2 => absurd ⟨a1, a2⟩ hr2⟩)
              have hck : CkOK hs1 ((lo, hi + 1, fun h => Same (callF F n0) st o h s'.s) :: ck') := hk'.cons fun b a1 a2 h hh =>
                hn0 b (by
                  rcases Nat.lt_or_ge b hs1.length with hlt | hge
                  · exact hlt
                  · rw [List.getElem?_eq_none hge] at hh; cases hh) a1 a2 h hh
              obtain ⟨n, c1, h1, h2, h3⟩ := fin hr hck
              obtain ⟨c2, h4, h5⟩ := drawOps_mono (callF_mono F (Nat.le_max_left n n0)) l h2
                (ck' := (lo, hi + 1, fun h => Same (callF F (max n n0)) st o h s'.s) :: ck') ((CkLe.refl _).cons fun h hh => stepO_mono (callF_mono F (Nat.le_max_right n n0)) hh)
              exact ⟨max n n0, c2, by rw [stepO_mono (callF_mono F (Nat.le_max_left n n0)) h1]; exact h4, h3.le h5⟩

theorem execDraw_lim {F : Nat → Option FnIR} {ops : List (Op1 × Cl)} {st : St} {r : Out × St} (hr : execDraw (call F) ops st = some r) : ∃ n, execDraw (callF F n) ops st = some r := by
  unfold execDraw at hr ⊢
  cases hd : drawOps (call F) ops [st.h] [] st with
  | none => rw [hd] at hr; cases hr
  | some x =>
    obtain ⟨st1, hs1, ck1⟩ := x
    rw [hd] at hr
    simp only at hr
    split at hr
    · rename_i hall
      obtain ⟨n, c1, h1, h2⟩ := drawOps_lim ops hd hall (ck' := []) (fun x hx => by cases hx)
      refine ⟨n, ?_⟩
      rw [h1]
      simp only
      rw [if_pos (show ∀ x ∈ c1, ∀ b, x.1 ≤ b → b < x.2.1 → ∀ h, hs1[b]? = some h → x.2.2 h from h2)]
      exact hr
    · cases hr

theorem iter_lim {b : St → Option (Out × St)} {bn : Nat → St → Option (Out × St)} (hm : ∀ n m st r, n ≤ m → bn n st = some r → bn m st = some r) (hb : ∀ st r, b st = some r → ∃ n, bn n st = some r) :
    ∀ {k : Nat} {st : St} {r : Out × St}, iter b k st = some r → ∃ n, iter (bn n) n st = some r
  | 0, _, _, hr => by cases hr
  | k + 1, st, r, hr => by
    simp only [iter] at hr
    cases hs : b st with
    | none => rw [hs] at hr; cases hr
    | some x =>
      rw [hs] at hr
      obtain ⟨n1, hn1⟩ := hb _ _ hs
      obtain ⟨o', s'⟩ := x
      cases o' with
      | norm =>
        obtain ⟨n2, hn2⟩ := iter_lim hm hb hr
        refine ⟨max n1 n2 + 1, ?_⟩
        simp only [iter]
        rw [hm _ _ _ _ (by omega) hn1]
        exact iter_mono (fun st r h => hm _ _ _ _ (by omega) h) (by omega) hn2
      | _ => exact ⟨n1 + 1, by simp only [iter]; rw [hm _ _ _ _ (by omega) hn1]; exact hr⟩

theorem jumpIter_stop {f : Nat → St → Option (Out × St)} {has : Nat → Bool} {n : Nat} {y : Out × St} (h : ∀ l s, y = (.goto l, s) → has l = false) : jumpIter f has n (some y) = some y := by
  obtain ⟨o, s⟩ := y
  cases o with
  | goto l =>
    have := h l s rfl
    cases n <;> simp [jumpIter, this]
  | _ => cases n <;> rfl

theorem jumpIter_lim {f : Nat → St → Option (Out × St)} {fn : Nat → Nat → St → Option (Out × St)} {has : Nat → Bool} (hm : ∀ n m l st r, n ≤ m → fn n l st = some r → fn m l st = some r)
    (hf : ∀ l st r, f l st = some r → ∃ n, fn n l st = some r) :
    ∀ {k : Nat} {x : Option (Out × St)} {xn : Nat → Option (Out × St)} (_ : ∀ n m r, n ≤ m → xn n = some r → xn m = some r) (_ : ∀ r, x = some r → ∃ n, xn n = some r) {r : Out × St},
      jumpIter f has k x = some r → ∃ n, jumpIter (fn n) has n (xn n) = some r := by
  intro k
  induction k with
  | zero =>
    intro x xn hxm hx r hr
    cases x with
    | none => simp [jumpIter] at hr
    | some y =>
      obtain ⟨n, hn⟩ := hx _ rfl
      have hst : ∀ l s, y = (.goto l, s) → has l = false := by
        rintro l s rfl
        simp only [jumpIter] at hr
        split at hr
        · cases hr
        · rename_i hh; simpa using hh
      rw [jumpIter_stop hst] at hr
      exact ⟨n, by rw [hn, jumpIter_stop hst]; exact hr⟩
  | succ k ih =>
    intro x xn hxm hx r hr
    cases x with
    | none => simp [jumpIter] at hr
    | some y =>
      obtain ⟨n, hn⟩ := hx _ rfl
      by_cases hst : ∀ l s, y = (.goto l, s) → has l = false
      · rw [jumpIter_stop hst] at hr
        exact ⟨n, by rw [hn, jumpIter_stop hst]; exact hr⟩
      · have : ∃ l s, y = (.goto l, s) ∧ has l = true := by
          apply Classical.byContradiction
          intro hc
          exact hst fun l s h => by
            cases hh : has l with
            | false => rfl
            | true => exact absurd ⟨l, s, h, hh⟩ hc
        obtain ⟨l, s, rfl, hl⟩ := this
        simp only [jumpIter, hl, if_true] at hr
        obtain ⟨n2, hn2⟩ := ih (xn := fun n => fn n l s) (fun n m r hnm => hm n m l s r hnm) (hf l s) hr
        refine ⟨max n n2 + 1, ?_⟩
        rw [hxm _ _ _ (by omega) hn]
        simp only [jumpIter, hl, if_true]
        exact jumpIter_mono (fun l st r h => hm _ _ _ _ _ (by omega) h) (by omega) (fun r h => hm _ _ _ _ _ (by omega) h) hn2

theorem execF_mono (F : Nat → Option FnIR) {n m : Nat} (h : n ≤ m) (ir : IR) {st : St} {r : Out × St} (hr : exec (callF F n) n ir st = some r) : exec (callF F m) m ir st = some r :=
  (exec_mono (callF_mono F h) h ir).1 hr
theorem execFromF_mono (F : Nat → Option FnIR) {n m : Nat} (h : n ≤ m) (ir : IR) {l : Nat} {st : St} {r : Out × St} (hr : execFrom (callF F n) n ir l st = some r) : execFrom (callF F m) m ir l st = some r :=
  (exec_mono (callF_mono F h) h ir).2 hr

theorem execL_lim {F : Nat → Option FnIR} : ∀ (ir : IR),
    (∀ {st : St} {r : Out × St}, execL F ir st = some r → ∃ n, exec (callF F n) n ir st = some r) ∧
    (∀ {l : Nat} {st : St} {r : Out × St}, execLFrom F ir l st = some r → ∃ n, execFrom (callF F n) n ir l st = some r) := by
  intro ir
  induction ir with
  | skip => exact ⟨fun h => ⟨0, by simpa only [exec, execL] using h⟩, fun h => by simp [execLFrom] at h⟩
  | reg ops => exact ⟨fun h => by simp only [exec, execL] at h ⊢; exact execOps_lim _ h, fun h => by simp [execLFrom] at h⟩
  | draw ops => exact ⟨fun h => by simp only [exec, execL] at h ⊢; exact execDraw_lim h, fun h => by simp [execLFrom] at h⟩
  | seq a b iha ihb =>
    refine ⟨fun {st r} h => ?_, fun {l st r} h => ?_⟩
    · simp only [exec, execL] at h ⊢
      cases hs : execL F a st with
      | none => rw [hs] at h; cases h
      | some x =>
        rw [hs] at h
        obtain ⟨n1, hn1⟩ := iha.1 hs
        obtain ⟨o', s'⟩ := x
        cases o' with
        | norm =>
          obtain ⟨n2, hn2⟩ := ihb.1 h
          exact ⟨max n1 n2, by rw [execF_mono F (Nat.le_max_left n1 n2) a hn1]; exact execF_mono F (Nat.le_max_right n1 n2) b hn2⟩
        | _ => exact ⟨n1, by rw [hn1]; exact h⟩
    · simp only [execFrom, execLFrom] at h ⊢
      cases hf : findL a l with
      | none => rw [hf] at h; exact ihb.2 h
      | some y =>
        rw [hf] at h
        simp only at h ⊢
        cases hs : execLFrom F a l st with
        | none => rw [hs] at h; cases h
        | some x =>
          rw [hs] at h
          obtain ⟨n1, hn1⟩ := iha.2 hs
          obtain ⟨o', s'⟩ := x
          cases o' with
          | norm =>
            obtain ⟨n2, hn2⟩ := ihb.1 h
            exact ⟨max n1 n2, by rw [execFromF_mono F (Nat.le_max_left n1 n2) a hn1]; exact execF_mono F (Nat.le_max_right n1 n2) b hn2⟩
          | _ => exact ⟨n1, by rw [hn1]; exact h⟩
  | cond e a b iha ihb =>
    refine ⟨fun {st r} h => ?_, fun h => by simp [execLFrom] at h⟩
    simp only [exec, execL] at h ⊢
    split at h
    · rename_i t ht
      simp only [ht]
      cases t
      · exact ihb.1 h
      · exact iha.1 h
    · cases h
  | block id b ihb =>
    refine ⟨fun {st r} h => ?_, fun h => by simp [execLFrom] at h⟩
    simp only [exec, execL] at h ⊢
    cases hs : execL F b st with
    | none => rw [hs] at h; cases h
    | some x =>
      rw [hs] at h
      obtain ⟨n, hn⟩ := ihb.1 hs
      exact ⟨n, by rw [hn]; exact h⟩
  | loop b ihb =>
    refine ⟨fun {st r} h => ?_, fun h => by simp [execLFrom] at h⟩
    simp only [exec, execL] at h ⊢
    obtain ⟨k, hk⟩ := (lim_eq fun n m r hnm => iter_mono (fun _ _ h => h) hnm).mp h
    exact iter_lim (b := fun st => execL F b st) (bn := fun n st => exec (callF F n) n b st) (fun n m st r hnm h => execF_mono F hnm b h) (fun st r h => ihb.1 h) hk
  | exit id => exact ⟨fun h => ⟨0, by simpa only [exec, execL] using h⟩, fun h => by simp [execLFrom] at h⟩
  | scope b ihb =>
    refine ⟨fun {st r} h => ?_, fun h => by simp [execLFrom] at h⟩
    simp only [exec, execL] at h ⊢
    obtain ⟨k, hk⟩ := (lim_eq fun n m r hnm => jumpIter_mono (fun _ _ _ h => h) hnm (fun _ h => h)).mp h
    exact jumpIter_lim (f := fun l st => execLFrom F b l st) (fn := fun n l st => execFrom (callF F n) n b l st) (has := fun l => (findL b l).isSome) (fun n m l st r hnm h => execFromF_mono F hnm b h) (fun l st r h => ihb.2 h) (xn := fun n => exec (callF F n) n b st) (fun n m r hnm h => execF_mono F hnm b h) (fun r h => ihb.1 h) hk
  | label l => exact ⟨fun h => ⟨0, by simpa only [exec, execL] using h⟩, fun h => ⟨0, by simpa only [execFrom, execLFrom] using h⟩⟩
  | goto l => exact ⟨fun h => ⟨0, by simpa only [exec, execL] using h⟩, fun h => by simp [execLFrom] at h⟩
  | ret => exact ⟨fun h => ⟨0, by simpa only [exec, execL] using h⟩, fun h => by simp [execLFrom] at h⟩
  | rangeF x ps asg body _ _ => exact ⟨fun h => by simp only [exec, execL] at h ⊢; exact rangeIn_lim h, fun h => by simp [execLFrom] at h⟩

/-- A round is a run of its code. -/
theorem call_round {F : Nat → Option FnIR} {id : Nat} (hF : F (YB + id) = none) {a : List VV} {h : Heap} {r : CRes × Heap} (hr : roundF (execL F) id a h = some r) : call F (YB + id) a h = some r := by
  suffices ∃ n, roundF (exec (callF F n) n) id a h = some r by
    obtain ⟨n, hn⟩ := this
    refine call_iff.mpr ⟨n + 1, ?_⟩
    simp only [callF, hF]
    rw [if_pos (by omega), Nat.add_sub_cancel_left]; exact hn
  unfold roundF at hr
  split at hr
  rotate_left
  · cases hr
  rename_i ps asg body s st0 p0 ho
  split at hr
  rotate_left
  · cases hr
  rename_i hlen
  split at hr
  rotate_left
  · cases hr
  rename_i st1 hA
  split at hr
  rotate_left
  · cases hr
  rename_i ps1 asg1 body1 s1 p1 ho1
  split at hr
  rotate_left
  · cases hr
  rename_i out st2 hB
  obtain ⟨n1, hn1⟩ := (execL_lim asg).1 hA
  obtain ⟨n2, hn2⟩ := (execL_lim body).1 hB
  refine ⟨max n1 n2, ?_⟩
  unfold roundF
  rw [ho]
  simp only [if_pos hlen]
  rw [execF_mono F (Nat.le_max_left n1 n2) asg hn1]
  simp only [ho1]
  rw [execF_mono F (Nat.le_max_right n1 n2) body hn2]
  exact hr

/-- A function's call is its body's run. -/
theorem call_of {F : Nat → Option FnIR} {f : Nat} {fn : FnIR} (hf : F f = some fn) {a : List VV} {h : Heap} {r : CRes × Heap} (hr : runFn (execL F) fn a h = some r) : call F f a h = some r := by
  unfold runFn at hr
  split at hr
  · cases hr
  rename_i hb
  cases hs : execL F fn.body ⟨a ++ List.replicate (fn.nt - a.length) .undef, h⟩ with
  | none => rw [hs] at hr; cases hr
  | some x =>
    rw [hs] at hr
    obtain ⟨n, hn⟩ := (execL_lim fn.body).1 hs
    refine call_iff.mpr ⟨n + 1, ?_⟩
    simp only [callF, hf]
    unfold runFn
    rw [if_neg hb, hn]
    exact hr

end Go.Vm

/-
  Vm: what must hold ahead of a piece of code (own work).
-/
namespace Go.Vm
open Go

abbrev Pst := Out → St → Prop

def X (F : Nat → Option FnIR) (ir : IR) (st : St) (Q : Pst) : Prop := ∃ o st', execL F ir st = some (o, st') ∧ Q o st'
def XO (F : Nat → Option FnIR) (ops : List Op1) (st : St) (Q : Pst) : Prop := ∃ o st', execOps (call F) ops st = some (o, st') ∧ Q o st'
/-- Then b. -/
def K (F : Nat → Option FnIR) (b : IR) (Q : Pst) : Pst := fun o st => match o with
  | .norm => X F b st Q
  | o => Q o st
/-- Out of a block. -/
def B (id : Nat) (Q : Pst) : Pst := fun o st => match o with
  | .exit id' => if id' = id then Q .norm st else Q (.exit id') st
  | o => Q o st
section
variable {F : Nat → Option FnIR}

theorem X.mono {ir : IR} {st : St} {Q Q' : Pst} (h : X F ir st Q) (hq : ∀ o st, Q o st → Q' o st) : X F ir st Q' := by
  obtain ⟨o, st', h1, h2⟩ := h
  exact ⟨o, st', h1, hq _ _ h2⟩

theorem ex_pair {α β : Type} {a : α} {b : β} {Q : α → β → Prop} : (∃ o st', some (a, b) = some (o, st') ∧ Q o st') ↔ Q a b := by
  constructor
  · rintro ⟨o, st', h, hq⟩
    cases h
    exact hq
  · exact fun h => ⟨a, b, rfl, h⟩

theorem ex_none {α β : Type} {Q : α → β → Prop} : (∃ o st', (none : Option (α × β)) = some (o, st') ∧ Q o st') ↔ False := by
  constructor
  · rintro ⟨_, _, h, _⟩; cases h
  · exact False.elim

theorem X_skip {st : St} {Q : Pst} : X F .skip st Q ↔ Q .norm st := by unfold X; simp only [execL]; exact ex_pair
theorem X_exit {id : Nat} {st : St} {Q : Pst} : X F (.exit id) st Q ↔ Q (.exit id) st := by unfold X; simp only [execL]; exact ex_pair
theorem X_label {l : Nat} {st : St} {Q : Pst} : X F (.label l) st Q ↔ Q .norm st := by unfold X; simp only [execL]; exact ex_pair
theorem X_goto {l : Nat} {st : St} {Q : Pst} : X F (.goto l) st Q ↔ Q (.goto l) st := by unfold X; simp only [execL]; exact ex_pair
theorem X_ret {st : St} {Q : Pst} : X F .ret st Q ↔ Q .ret st := by unfold X; simp only [execL]; exact ex_pair
theorem X_reg {ops : List Op1} {st : St} {Q : Pst} : X F (.reg ops) st Q ↔ XO F ops st Q := by unfold X XO; simp only [execL]

def KQ (g : St → Option (Out × St)) (Q : Pst) : Pst := fun o st => match o with
  | .norm => ∃ o st', g st = some (o, st') ∧ Q o st'
  | o => Q o st

theorem bind_iff {x : Option (Out × St)} {g : St → Option (Out × St)} {Q : Pst} :
    (∃ o st', (match (motive := Option (Out × St) → Option (Out × St)) x with | some (.norm, st1) => g st1 | x => x) = some (o, st') ∧ Q o st') ↔
    (∃ o st', x = some (o, st') ∧ KQ g Q o st') := by
  cases x with
  | none => constructor <;> (rintro ⟨_, _, h, _⟩; cases h)
  | some y =>
    obtain ⟨o, s⟩ := y
    rw [ex_pair (Q := KQ g Q)]
    cases o with
    | norm => exact Iff.rfl
    | _ => exact ex_pair

theorem X_seq {a b : IR} {st : St} {Q : Pst} : X F (.seq a b) st Q ↔ X F a st (K F b Q) := by
  unfold X
  simp only [execL]
  exact bind_iff (g := fun st1 => execL F b st1)

theorem X_loop {b : IR} {st : St} {Q : Pst} : X F (.loop b) st Q ↔ X F b st (K F (.loop b) Q) := by
  unfold X
  rw [execL_loop]
  exact bind_iff (g := fun st1 => execL F (.loop b) st1)

theorem X_block {id : Nat} {b : IR} {st : St} {Q : Pst} : X F (.block id b) st Q ↔ X F b st (B id Q) := by
  unfold X
  simp only [execL]
  cases hx : execL F b st with
  | none => constructor <;> (rintro ⟨_, _, h, _⟩; cases h)
  | some y =>
    obtain ⟨o, s⟩ := y
    rw [ex_pair (Q := B id Q)]
    cases o with
    | exit id' =>
      by_cases hid : id' = id
      · subst hid
        simp only [B, if_true]; exact ex_pair
      · simp only [B, if_neg hid]; exact ex_pair
    | _ => exact ex_pair

theorem K_norm {b : IR} {st : St} {Q : Pst} : K F b Q .norm st ↔ X F b st Q := Iff.rfl
theorem K_exit {b : IR} {id : Nat} {st : St} {Q : Pst} : K F b Q (.exit id) st ↔ Q (.exit id) st := Iff.rfl
theorem K_goto {b : IR} {l : Nat} {st : St} {Q : Pst} : K F b Q (.goto l) st ↔ Q (.goto l) st := Iff.rfl
theorem K_ret {b : IR} {st : St} {Q : Pst} : K F b Q .ret st ↔ Q .ret st := Iff.rfl
theorem K_pan {b : IR} {v : VV} {st : St} {Q : Pst} : K F b Q (.pan v) st ↔ Q (.pan v) st := Iff.rfl
theorem B_norm {id : Nat} {st : St} {Q : Pst} : B id Q .norm st ↔ Q .norm st := Iff.rfl
theorem B_exit {id id' : Nat} {st : St} {Q : Pst} : B id Q (.exit id') st ↔ (if id' = id then Q .norm st else Q (.exit id') st) := Iff.rfl
theorem B_goto {id l : Nat} {st : St} {Q : Pst} : B id Q (.goto l) st ↔ Q (.goto l) st := Iff.rfl
theorem B_ret {id : Nat} {st : St} {Q : Pst} : B id Q .ret st ↔ Q .ret st := Iff.rfl
theorem B_pan {id : Nat} {v : VV} {st : St} {Q : Pst} : B id Q (.pan v) st ↔ Q (.pan v) st := Iff.rfl

/-! ### jumps -/

noncomputable def J (F : Nat → Option FnIR) (b : IR) (x : Option (Out × St)) : Option (Out × St) := lim fun n => jumpIter (fun l st => execLFrom F b l st) (fun l => (findL b l).isSome) n x
def S (F : Nat → Option FnIR) (b : IR) (Q : Pst) : Pst := fun o st => ∃ o' st', J F b (some (o, st)) = some (o', st') ∧ Q o' st'

theorem J_iff {b : IR} {x : Option (Out × St)} {r : Out × St} : J F b x = some r ↔ ∃ n, jumpIter (fun l st => execLFrom F b l st) (fun l => (findL b l).isSome) n x = some r :=
  lim_eq fun _ _ _ hnm => jumpIter_mono (fun _ _ _ h => h) hnm (fun _ h => h)

theorem J_stop {b : IR} {y : Out × St} (h : ∀ l s, y = (.goto l, s) → (findL b l).isSome = false) : J F b (some y) = some y := J_iff.mpr ⟨0, jumpIter_stop h⟩

theorem X_scope {b : IR} {st : St} {Q : Pst} : X F (.scope b) st Q ↔ X F b st (S F b Q) := by
  unfold X
  simp only [execL]
  cases hx : execL F b st with
  | none =>
    constructor
    · rintro ⟨o, st', h, _⟩
      obtain ⟨n, hn⟩ := J_iff.mp h
      cases n <;> simp [jumpIter] at hn
    · rintro ⟨_, _, h, _⟩; cases h
  | some y =>
    obtain ⟨o, s⟩ := y
    rw [ex_pair (Q := S F b Q)]
    exact Iff.rfl

theorem S_norm {b : IR} {st : St} {Q : Pst} : S F b Q .norm st ↔ Q .norm st := by unfold S; rw [J_stop (fun l s h => by cases h)]; exact ex_pair
theorem S_exit {b : IR} {id : Nat} {st : St} {Q : Pst} : S F b Q (.exit id) st ↔ Q (.exit id) st := by unfold S; rw [J_stop (fun l s h => by cases h)]; exact ex_pair
theorem S_ret {b : IR} {st : St} {Q : Pst} : S F b Q .ret st ↔ Q .ret st := by unfold S; rw [J_stop (fun l s h => by cases h)]; exact ex_pair
theorem S_pan {b : IR} {v : VV} {st : St} {Q : Pst} : S F b Q (.pan v) st ↔ Q (.pan v) st := by unfold S; rw [J_stop (fun l s h => by cases h)]; exact ex_pair
/-! ### operations -/

/-- Not a call, not a panic. -/
def plain : Ins → Bool
  | .call _ _ _ | .callv _ _ _ | .panic _ => false
  | _ => true

theorem XO_nil {st : St} {Q : Pst} : XO F [] st Q ↔ Q .norm st := by unfold XO; simp only [execOps]; exact ex_pair

theorem stepO_plain {c : CallSem} {st : St} {o : Op1} (hp : plain o.i = true) : stepO c st o = (match stepI st.h (evalO st.s) o.i with
    | some (v, h) => some (.norm, ⟨putD st.s o.d v, h⟩)
    | none => none) := by
  obtain ⟨g, d, i⟩ := o
  cases i <;> first | rfl | (simp [plain] at hp)

theorem XO_step {d : Option Nat} {i : Ins} {r : List Op1} {s : List VV} {h : Heap} {Q : Pst} {v : VV} {h' : Heap} (hp : plain i = true) (hs : stepI h (evalO s) i = some (v, h')) :
    XO F (⟨none, d, i⟩ :: r) ⟨s, h⟩ Q ↔ XO F r ⟨putD s d v, h'⟩ Q := by
  unfold XO
  simp only [execOps, wantedV]
  rw [stepO_plain hp]
  simp only [hs]

theorem XO_guard {g : Nat} {b : Bool} {d : Option Nat} {i : Ins} {r : List Op1} {s : List VV} {h : Heap} {Q : Pst} {t : Bool} (ht : s.getD g .undef = .cv (.sc (.bool t))) :
    XO F (⟨some (g, b), d, i⟩ :: r) ⟨s, h⟩ Q ↔ (if t = b then XO F (⟨none, d, i⟩ :: r) ⟨s, h⟩ Q else XO F r ⟨putD s d skp, h⟩ Q) := by
  have hg : s[g]? = some (.cv (.sc (.bool t))) := by
    rw [List.getD_eq_getElem?_getD] at ht
    cases hh : s[g]? with
    | none => rw [hh] at ht; cases ht
    | some x => rw [hh] at ht; exact congrArg some ht
  unfold XO
  simp only [execOps, wantedV, hg]
  by_cases htb : t = b
  · subst htb
    simp only [beq_self_eq_true, if_true]
    exact Iff.rfl
  · have : (t == b) = false := by simpa using htb
    simp only [this, if_neg htb]

theorem XO_call {d : Option Nat} {f : Nat} {p : Bool} {args : List Opd} {r : List Op1} {s : List VV} {h : Heap} {Q : Pst} {v : VV} {h' : Heap}
    (hc : callAt (call F) h f p (args.map (evalO s)) = some (.ret v, h')) : XO F (⟨none, d, .call f p args⟩ :: r) ⟨s, h⟩ Q ↔ XO F r ⟨putD s d v, h'⟩ Q := by
  unfold XO
  simp only [execOps, wantedV, stepO, hc]
theorem callAt_do {call : CallSem} {h : Heap} {f : Nat} {p : Bool} {args : List VV} {x : Option (CRes × Heap)} (hf : f < SOFT) (hd : doCall call h f p args = x) : callAt call h f p args = x := by
  unfold callAt; rw [if_pos hf]; exact hd

theorem XO_callv {d : Option Nat} {p : Bool} {x : Opd} {args : List Opd} {r : List Op1} {s : List VV} {h : Heap} {Q : Pst} {v : VV} {h' : Heap} {f : Nat} {caps : List VV}
    (hx : evalO s x = .func f caps) (hc : doCall (call F) h f p (args.map (evalO s) ++ caps) = some (.ret v, h')) (hf : f < YB := by decide) : XO F (⟨none, d, .callv p x args⟩ :: r) ⟨s, h⟩ Q ↔ XO F r ⟨putD s d v, h'⟩ Q := by
  unfold XO
  simp only [execOps, wantedV, stepO, hx, calleeOf, if_pos hf, hc]
/-- A round is called for. -/
theorem XO_yield {d : Option Nat} {x : Opd} {args : List Opd} {r : List Op1} {s : List VV} {h : Heap} {Q : Pst} {v : VV} {h' : Heap} {id : Nat}
    (hx : evalO s x = .yield id) (hc : call F (YB + id) (args.map (evalO s)) h = some (.ret v, h')) (hk : XO F r ⟨putD s d v, h'⟩ Q) : XO F (⟨none, d, .callv false x args⟩ :: r) ⟨s, h⟩ Q := by
  obtain ⟨o, st', h1, h2⟩ := hk
  refine ⟨o, st', ?_, h2⟩
  simp only [execOps, wantedV, stepO, hx, calleeOf, Bool.false_eq_true, if_false, doCall, List.append_nil, hc]
  exact h1

/-- What a round's body must come to. -/
def RB (id : Nat) (ps : List Nat) (asg body : IR) (s0 : List VV) (P : VV → Heap → Prop) : Pst := fun out st2 =>
  ∃ j t p, jmpOf out = some j ∧ st2.h[id]? = some (.loop ps asg body s0 t p) ∧ P (.cv (.sc (.bool j.isNone))) (st2.h.set id (.loop ps asg body s0 (if j.isNone then .ready else .done) j))
/-- .. and, ahead of it, what the loop's variables are set by. -/
def RA (F : Nat → Option FnIR) (id : Nat) (ps : List Nat) (asg body : IR) (s0 : List VV) (P : VV → Heap → Prop) : Pst := fun o st1 =>
  o = .norm ∧ ∃ p, st1.h[id]? = some (.loop ps asg body s0 .ready p) ∧ X F body ⟨st1.s, st1.h.set id (.loop ps asg body s0 .busy p)⟩ (RB id ps asg body s0 P)
theorem round_X {id : Nat} (hF : F (YB + id) = none) {ps : List Nat} {asg body : IR} {s0 : List VV} {t0 : LoopState} {p0 : Option Jmp} {a : List VV} {h : Heap} {P : VV → Heap → Prop} (ho : h[id]? = some (.loop ps asg body s0 t0 p0)) (hl : a.length = ps.length)
    (hx : X F asg ⟨setAll s0 ps a, h⟩ (RA F id ps asg body s0 P)) : ∃ v h', call F (YB + id) a h = some (.ret v, h') ∧ P v h' := by
  obtain ⟨o, st1, h1, rfl, p1, h2, out, st2, h3, j, t, p, h4, h5, h6⟩ := hx
  refine ⟨_, _, call_round hF ?_, h6⟩
  unfold roundF
  simp only [ho, if_pos hl, h1, h2, h3, h4, h5]
/-- A range over a function. -/
theorem X_rangeF {x : Opd} {ps : List Nat} {asg body : IR} {s : List VV} {h : Heap} {Q : Pst} {f : Nat} {caps : List VV} {v : VV} {h2 : Heap} {t : LoopState} {p : Option Jmp} (hx : evalO s x = .func f caps)
    (hc : call F f (.yield h.length :: caps) (h ++ [.loop ps asg body s .ready none]) = some (.ret v, h2)) (ho : h2[h.length]? = some (.loop ps asg body s t p)) (ht : t ≠ .busy)
    (hk : Q (outOf p) ⟨s, h2.set h.length (.loop ps asg body s .exhausted p)⟩) (hf : f < YB := by decide) : X F (.rangeF x ps asg body) ⟨s, h⟩ Q := by
  refine ⟨_, _, ?_, hk⟩
  simp only [execL]
  unfold rangeIn
  simp only [hx, if_pos hf, hc, ho]

/-! ### slots -/

theorem slot_eq {s : List VV} {i : Nat} {v d : VV} (h : i < s.length) : (s.set i v).getD i d = v := by
  rw [List.getD_eq_getElem?_getD, List.getElem?_set_self h]; rfl
theorem slot_ne {s : List VV} {i j : Nat} {v d : VV} (h : i ≠ j) : (s.set i v).getD j d = s.getD j d := by
  rw [List.getD_eq_getElem?_getD, List.getElem?_set_ne h, List.getD_eq_getElem?_getD]
theorem slot_len {s : List VV} {i : Nat} {v : VV} : (s.set i v).length = s.length := List.length_set
theorem evalO_t {s : List VV} {n : Nat} : evalO s (.t n) = s.getD n .undef := rfl
theorem evalO_c {s : List VV} {v : VV} : evalO s (.c v) = v := rfl
theorem putD_some {s : List VV} {n : Nat} {v : VV} : putD s (some n) v = s.set n v := rfl
theorem putD_none {s : List VV} {v : VV} : putD s none v = s := rfl

/-! ### functions -/

/-- What a function's body ends with. -/
def RQ (res : List ResV) (P : VV → Heap → Prop) : Pst := fun o st => (match o with | .norm | .ret => True | _ => False) ∧ ∃ vs, resAll st res = some vs ∧ P (pack vs) st.h

theorem call_E {f : Nat} {fn : FnIR} (hf : F f = some fn) {a : List VV} {h : Heap} {P : VV → Heap → Prop}
    (hx : X F fn.body ⟨a ++ List.replicate (fn.nt - a.length) .undef, h⟩ (RQ fn.res P)) (hn : Nat.ble a.length fn.nt = true := by rfl) : ∃ v h', call F f a h = some (.ret v, h') ∧ P v h' := by
  obtain ⟨o, st, h1, h2, vs, h3, h4⟩ := hx
  refine ⟨pack vs, st.h, ?_, h4⟩
  refine call_of hf ?_
  unfold runFn
  rw [if_neg (by rw [hn]; decide), h1]
  cases o with
  | norm => simp only [h3, Option.map_some]
  | ret => simp only [h3, Option.map_some]
  | _ => exact h2.elim

/-- Just this value, and this heap. -/
def Is (v : VV) (h : Heap) (v' : VV) (h' : Heap) : Prop := v' = v ∧ h' = h
theorem Is.refl (v : VV) (h : Heap) : Is v h v h := ⟨rfl, rfl⟩

theorem call_P {f : Nat} {fn : FnIR} (hf : F f = some fn) {a : List VV} {h : Heap} {v : VV} {h' : Heap}
    (hx : X F fn.body ⟨a ++ List.replicate (fn.nt - a.length) .undef, h⟩ (RQ fn.res (Is v h'))) (hn : Nat.ble a.length fn.nt = true := by rfl) : call F f a h = some (.ret v, h') := by
  obtain ⟨v1, h1, hc, e1, e2⟩ := call_E hf hx hn
  rw [hc, e1, e2]

theorem slot_get {s : List VV} {n : Nat} (hn : n < s.length) : s[n]? = some (s.getD n .undef) := by
  rw [List.getD_eq_getElem?_getD, List.getElem?_eq_getElem hn]; rfl

section
variable {P : VV → Heap → Prop} {s : List VV} {h : Heap} {n m k : Nat}
theorem RQ_0 : RQ [] P .ret ⟨s, h⟩ ↔ P (.tup []) h := by
  constructor
  · rintro ⟨_, vs, h1, h2⟩; cases h1; exact h2
  · exact fun h1 => ⟨trivial, _, rfl, h1⟩
theorem RQ_0n : RQ [] P .norm ⟨s, h⟩ ↔ P (.tup []) h := by
  constructor
  · rintro ⟨_, vs, h1, h2⟩; cases h1; exact h2
  · exact fun h1 => ⟨trivial, _, rfl, h1⟩
theorem RQ_1 (hn : n < s.length) : RQ [.t n] P .ret ⟨s, h⟩ ↔ P (s.getD n .undef) h := by
  have hr : resAll ⟨s, h⟩ [.t n] = some [s.getD n .undef] := by simp only [resAll, resOf, slot_get hn]
  constructor
  · rintro ⟨_, vs, h1, h2⟩; rw [hr] at h1; cases h1; exact h2
  · exact fun h1 => ⟨trivial, _, hr, h1⟩
theorem RQ_2 (hn : n < s.length) (hm : m < s.length) : RQ [.t n, .t m] P .ret ⟨s, h⟩ ↔ P (.tup [s.getD n .undef, s.getD m .undef]) h := by
  have hr : resAll ⟨s, h⟩ [.t n, .t m] = some [s.getD n .undef, s.getD m .undef] := by simp only [resAll, resOf, slot_get hn, slot_get hm]
  constructor
  · rintro ⟨_, vs, h1, h2⟩; rw [hr] at h1; cases h1; exact h2
  · exact fun h1 => ⟨trivial, _, hr, h1⟩
theorem RQ_3 (hn : n < s.length) (hm : m < s.length) (hk : k < s.length) : RQ [.t n, .t m, .t k] P .ret ⟨s, h⟩ ↔ P (.tup [s.getD n .undef, s.getD m .undef, s.getD k .undef]) h := by
  have hr : resAll ⟨s, h⟩ [.t n, .t m, .t k] = some [s.getD n .undef, s.getD m .undef, s.getD k .undef] := by simp only [resAll, resOf, slot_get hn, slot_get hm, slot_get hk]
  constructor
  · rintro ⟨_, vs, h1, h2⟩; rw [hr] at h1; cases h1; exact h2
  · exact fun h1 => ⟨trivial, _, hr, h1⟩
end

/-! ### for simp: no binders, so that nothing is gone through ahead of its time -/

/-- A plain step's outcome, and then the rest. -/
def XV (F : Nat → Option FnIR) (x : Option (VV × Heap)) (d : Option Nat) (r : List Op1) (s : List VV) (Q : Pst) : Prop := ∃ v h, x = some (v, h) ∧ XO F r ⟨putD s d v, h⟩ Q
theorem XV_some {v : VV} {h : Heap} {d : Option Nat} {r : List Op1} {s : List VV} {Q : Pst} : XV F (some (v, h)) d r s Q ↔ XO F r ⟨putD s d v, h⟩ Q := by
  constructor
  · rintro ⟨_, _, he, hk⟩; cases he; exact hk
  · exact fun hk => ⟨v, h, rfl, hk⟩
/-- The same, of a step that leaves the heap. -/
def XW (F : Nat → Option FnIR) (x : Option VV) (h : Heap) (d : Option Nat) (r : List Op1) (s : List VV) (Q : Pst) : Prop := ∃ v, x = some v ∧ XO F r ⟨putD s d v, h⟩ Q
theorem XW_some {v : VV} {h : Heap} {d : Option Nat} {r : List Op1} {s : List VV} {Q : Pst} : XW F (some v) h d r s Q ↔ XO F r ⟨putD s d v, h⟩ Q := by
  constructor
  · rintro ⟨_, he, hk⟩; cases he; exact hk
  · exact fun hk => ⟨v, rfl, hk⟩

/-- A branch. -/
def XB (F : Nat → Option FnIR) (v : VV) (a b : IR) (st : St) (Q : Pst) : Prop := ∃ t, v = .cv (.sc (.bool t)) ∧ (if t then X F a st Q else X F b st Q)
theorem XB_true {a b : IR} {st : St} {Q : Pst} : XB F (.cv (.sc (.bool true))) a b st Q ↔ X F a st Q := by
  constructor
  · rintro ⟨_, he, hk⟩; cases he; exact hk
  · exact fun hk => ⟨true, rfl, hk⟩
theorem XB_false {a b : IR} {st : St} {Q : Pst} : XB F (.cv (.sc (.bool false))) a b st Q ↔ X F b st Q := by
  constructor
  · rintro ⟨_, he, hk⟩; cases he; simpa using hk
  · exact fun hk => ⟨false, rfl, hk⟩
theorem X_cnd {c : Opd} {a b : IR} {s : List VV} {h : Heap} {Q : Pst} : X F (.cond c a b) ⟨s, h⟩ Q ↔ XB F (evalO s c) a b ⟨s, h⟩ Q := by
  unfold X XB
  simp only [execL]
  constructor
  · rintro ⟨o, st', he, hq⟩
    cases hv : evalO s c with
    | cv w =>
      cases w with
      | sc u =>
        cases u with
        | bool t =>
          rw [hv] at he
          refine ⟨t, rfl, ?_⟩
          cases t
          · exact ⟨o, st', he, hq⟩
          · exact ⟨o, st', he, hq⟩
        | _ => rw [hv] at he; cases he
      | sl _ _ _ => rw [hv] at he; cases he
    | _ => rw [hv] at he; cases he
  · rintro ⟨t, ht, hk⟩
    rw [ht]
    cases t
    · exact hk
    · exact hk

theorem XO_ins {d : Option Nat} {i : Ins} {r : List Op1} {s : List VV} {h : Heap} {Q : Pst} (hp : plain i = true) :
    XO F (⟨none, d, i⟩ :: r) ⟨s, h⟩ Q ↔ XV F (stepI h (evalO s) i) d r s Q := by
  unfold XO XV
  simp only [execOps, wantedV]
  rw [stepO_plain hp]
  simp only
  cases hs : stepI h (evalO s) i with
  | none =>
    constructor
    · rintro ⟨_, _, he, _⟩; cases he
    · rintro ⟨_, _, he, _⟩; cases he
  | some y =>
    obtain ⟨v, h'⟩ := y
    constructor
    · exact fun he => ⟨v, h', rfl, he⟩
    · rintro ⟨_, _, he, hk⟩; cases he; exact hk

/-- An operation behind a guard. -/
def XG (F : Nat → Option FnIR) (v : VV) (b : Bool) (d : Option Nat) (i : Ins) (r : List Op1) (s : List VV) (h : Heap) (Q : Pst) : Prop := match v with
  | .cv (.sc (.bool t)) => if t = b then XO F (⟨none, d, i⟩ :: r) ⟨s, h⟩ Q else XO F r ⟨putD s d skp, h⟩ Q
  | .tup [] => XO F r ⟨putD s d skp, h⟩ Q
  | _ => False
section
variable {b : Bool} {d : Option Nat} {i : Ins} {r : List Op1} {s : List VV} {h : Heap} {Q : Pst}
theorem XG_tt : XG F (.cv (.sc (.bool true))) true d i r s h Q ↔ XO F (⟨none, d, i⟩ :: r) ⟨s, h⟩ Q := by simp [XG]
theorem XG_ff : XG F (.cv (.sc (.bool false))) false d i r s h Q ↔ XO F (⟨none, d, i⟩ :: r) ⟨s, h⟩ Q := by simp [XG]
theorem XG_tf : XG F (.cv (.sc (.bool true))) false d i r s h Q ↔ XO F r ⟨putD s d skp, h⟩ Q := by simp [XG]
theorem XG_ft : XG F (.cv (.sc (.bool false))) true d i r s h Q ↔ XO F r ⟨putD s d skp, h⟩ Q := by simp [XG]
theorem XG_u : XG F (.tup []) b d i r s h Q ↔ XO F r ⟨putD s d skp, h⟩ Q := Iff.rfl

theorem XO_g {g : Nat} : XO F (⟨some (g, b), d, i⟩ :: r) ⟨s, h⟩ Q ↔ XG F (s.getD g .undef) b d i r s h Q := by
  have e : s.getD g .undef = (s[g]?).getD .undef := List.getD_eq_getElem?_getD
  cases hg : s[g]? with
  | none =>
    rw [e, hg]
    unfold XO; simp only [execOps, wantedV, hg, Option.getD_none, XG]; exact ex_none
  | some w =>
    cases w with
    | cv c => cases c with
      | sc u => cases u with
        | bool t => rw [XO_guard (show s.getD g .undef = .cv (.sc (.bool t)) by rw [e, hg]; rfl), e, hg]; exact Iff.rfl
        | _ => (rw [e, hg]; unfold XO; simp only [execOps, wantedV, hg, Option.getD_some, XG]; exact ex_none)
      | sl _ _ _ => (rw [e, hg]; unfold XO; simp only [execOps, wantedV, hg, Option.getD_some, XG]; exact ex_none)
    | tup l => cases l with
      | nil => rw [e, hg]; unfold XO; simp only [execOps, wantedV, hg, Option.getD_some, XG]; exact Iff.rfl
      | cons _ _ => rw [e, hg]; unfold XO; simp only [execOps, wantedV, hg, Option.getD_some, XG]; exact ex_none
    | _ => (rw [e, hg]; unfold XO; simp only [execOps, wantedV, hg, Option.getD_some, XG]; exact ex_none)
end

theorem XO_mv {d : Nat} {x : Opd} {r : List Op1} {s : List VV} {h : Heap} {Q : Pst} : XO F (⟨none, some d, .mv x⟩ :: r) ⟨s, h⟩ Q ↔ XO F r ⟨s.set d (evalO s x), h⟩ Q :=
  XO_step rfl rfl

theorem X_eq {ir ir' : IR} (h : ir = ir') {st : St} {Q : Pst} : X F ir st Q ↔ X F ir' st Q := by rw [h]
end

/-! ### regions that draw their order, where no read stands between changes -/

/-- Each read has one place among the changes. -/
def allEq : List (Op1 × Cl) → Bool
  | [] => true
  | (_, .r lo hi) :: r => lo == hi && allEq r
  | _ :: r => allEq r

def isk : Cl → Bool
  | .k => true
  | _ => false

def XD (F : Nat → Option FnIR) : List (Op1 × Cl) → St → Pst → Prop
  | [], st, Q => Q .norm st
  | (o, c) :: r, st, Q => match wantedV st.s o.g with
    | some true => ∃ st1, stepO (call F) st o = some (.norm, st1) ∧ (isk c = false → st1.h = st.h) ∧ XD F r st1 Q
    | some false => XD F r ⟨putD st.s o.d skp, st.h⟩ Q
    | none => False

theorem XD_ops {F : Nat → Option FnIR} : ∀ (ops : List (Op1 × Cl)) (hs : List Heap) (ck : Cks) (st : St) (Q : Pst), allEq ops = true → XD F ops st Q → (∀ x ∈ ck, ∀ h, x.2.2 h) →
    ∃ st1 hs1 ck1, drawOps (call F) ops hs ck st = some (st1, hs1, ck1) ∧ (∀ x ∈ ck1, ∀ h, x.2.2 h) ∧ Q .norm st1
  | [], hs, ck, st, Q, _, hx, hc => ⟨st, hs, ck, rfl, hc, hx⟩
  | (o, c) :: r, hs, ck, st, Q, ha, hx, hc => by
    have har : allEq r = true := by
      cases c with
      | p => exact ha
      | k => exact ha
      | r lo hi => simp only [allEq, Bool.and_eq_true] at ha; exact ha.2
    simp only [XD] at hx
    simp only [drawOps]
    cases hw : wantedV st.s o.g with
    | none => rw [hw] at hx; exact hx.elim
    | some b =>
      rw [hw] at hx
      cases b with
      | false => exact XD_ops r _ ck _ Q har hx hc
      | true =>
        obtain ⟨st1, h1, h2, h3⟩ := hx
        simp only [h1]
        cases c with
        | p =>
          have e : (⟨st1.s, st.h⟩ : St) = st1 := by rw [← h2 rfl]
          simp only [e]
          exact XD_ops r _ ck _ Q har h3 hc
        | k => exact XD_ops r _ ck _ Q har h3 hc
        | r lo hi =>
          have e : (⟨st1.s, st.h⟩ : St) = st1 := by rw [← h2 rfl]
          have hlh : lo = hi := by
            simp only [allEq, Bool.and_eq_true, beq_iff_eq] at ha
            exact ha.1
          simp only [e, if_pos hlh]
          refine XD_ops r _ _ _ Q har h3 ?_
          intro x hx
          rcases List.mem_cons.mp hx with rfl | hx
          · exact fun _ => h2 rfl
          · exact hc x hx

theorem X_draw {F : Nat → Option FnIR} {ops : List (Op1 × Cl)} {st : St} {Q : Pst} (ha : allEq ops = true) (hx : XD F ops st Q) : X F (.draw ops) st Q := by
  obtain ⟨st1, hs1, ck1, h1, h2, h3⟩ := XD_ops ops [st.h] [] st Q ha hx (fun x hx => by cases hx)
  refine ⟨.norm, st1, ?_, h3⟩
  simp only [execL, execDraw, h1]
  rw [if_pos]
  exact fun x hx b _ _ h _ => h2 x hx h

section
variable {F : Nat → Option FnIR} {d : Option Nat} {c : Cl} {q : List (Op1 × Cl)} {s : List VV} {h : Heap} {Q : Pst}

theorem XD_nil {st : St} : XD F [] st Q ↔ Q .norm st := Iff.rfl

/-- A plain step's outcome, and then the rest. -/
def XVD (F : Nat → Option FnIR) (x : Option (VV × Heap)) (c : Cl) (h : Heap) (d : Option Nat) (q : List (Op1 × Cl)) (s : List VV) (Q : Pst) : Prop :=
  ∃ v h', x = some (v, h') ∧ (isk c = false → h' = h) ∧ XD F q ⟨putD s d v, h'⟩ Q
theorem XVD_same {v : VV} : XVD F (some (v, h)) c h d q s Q ↔ XD F q ⟨putD s d v, h⟩ Q := by
  constructor
  · rintro ⟨_, _, he, _, hk⟩; cases he; exact hk
  · exact fun hk => ⟨v, h, rfl, fun _ => rfl, hk⟩
theorem XVD_k {v : VV} {h' : Heap} : XVD F (some (v, h')) .k h d q s Q ↔ XD F q ⟨putD s d v, h'⟩ Q := by
  constructor
  · rintro ⟨_, _, he, _, hk⟩; cases he; exact hk
  · exact fun hk => ⟨v, h', rfl, (fun e => by cases e), hk⟩
def XWD (F : Nat → Option FnIR) (x : Option VV) (h : Heap) (d : Option Nat) (q : List (Op1 × Cl)) (s : List VV) (Q : Pst) : Prop := ∃ v, x = some v ∧ XD F q ⟨putD s d v, h⟩ Q
theorem XWD_some {v : VV} : XWD F (some v) h d q s Q ↔ XD F q ⟨putD s d v, h⟩ Q := by
  constructor
  · rintro ⟨_, he, hk⟩; cases he; exact hk
  · exact fun hk => ⟨v, rfl, hk⟩

theorem XD_ins {i : Ins} (hp : plain i = true) : XD F ((⟨none, d, i⟩, c) :: q) ⟨s, h⟩ Q ↔ XVD F (stepI h (evalO s) i) c h d q s Q := by
  simp only [XD, wantedV]
  unfold XVD
  rw [stepO_plain hp]
  simp only
  cases hs : stepI h (evalO s) i with
  | none =>
    constructor
    · rintro ⟨_, he, _⟩; cases he
    · rintro ⟨_, _, he, _⟩; cases he
  | some y =>
    obtain ⟨v, h'⟩ := y
    constructor
    · rintro ⟨_, he, h1, h2⟩; cases he; exact ⟨v, h', rfl, h1, h2⟩
    · rintro ⟨_, _, he, h1, h2⟩; cases he; exact ⟨_, rfl, h1, h2⟩

theorem XWD_of {i : Ins} {u : Option VV} (hp : plain i = true) (hs : stepI h (evalO s) i = u.map (·, h)) : XD F ((⟨none, d, i⟩, c) :: q) ⟨s, h⟩ Q ↔ XWD F u h d q s Q := by
  rw [XD_ins hp, hs]
  cases u with
  | none =>
    constructor
    · rintro ⟨_, _, he, _⟩; cases he
    · rintro ⟨_, he, _⟩; cases he
  | some v => exact XVD_same.trans XWD_some.symm

/-- An operation behind a guard. -/
def XGD (F : Nat → Option FnIR) (v : VV) (b : Bool) (d : Option Nat) (i : Ins) (c : Cl) (q : List (Op1 × Cl)) (s : List VV) (h : Heap) (Q : Pst) : Prop := match v with
  | .cv (.sc (.bool t)) => if t = b then XD F ((⟨none, d, i⟩, c) :: q) ⟨s, h⟩ Q else XD F q ⟨putD s d skp, h⟩ Q
  | .tup [] => XD F q ⟨putD s d skp, h⟩ Q
  | _ => False
theorem XGD_tt {i : Ins} : XGD F (.cv (.sc (.bool true))) true d i c q s h Q ↔ XD F ((⟨none, d, i⟩, c) :: q) ⟨s, h⟩ Q := by simp [XGD]
theorem XGD_ff {i : Ins} : XGD F (.cv (.sc (.bool false))) false d i c q s h Q ↔ XD F ((⟨none, d, i⟩, c) :: q) ⟨s, h⟩ Q := by simp [XGD]
theorem XGD_tf {i : Ins} : XGD F (.cv (.sc (.bool true))) false d i c q s h Q ↔ XD F q ⟨putD s d skp, h⟩ Q := by simp [XGD]
theorem XGD_ft {i : Ins} : XGD F (.cv (.sc (.bool false))) true d i c q s h Q ↔ XD F q ⟨putD s d skp, h⟩ Q := by simp [XGD]
theorem XGD_u {b : Bool} {i : Ins} : XGD F (.tup []) b d i c q s h Q ↔ XD F q ⟨putD s d skp, h⟩ Q := Iff.rfl

theorem XD_g {g : Nat} {b : Bool} {i : Ins} : XD F ((⟨some (g, b), d, i⟩, c) :: q) ⟨s, h⟩ Q ↔ XGD F (s.getD g .undef) b d i c q s h Q := by
  have e : s.getD g .undef = (s[g]?).getD .undef := List.getD_eq_getElem?_getD
  rw [e]
  cases hg : s[g]? with
  | none => simp only [XD, wantedV, hg, Option.getD_none, XGD]
  | some w =>
    cases w with
    | cv c => cases c with
      | sc u => cases u with
        | bool t =>
          by_cases htb : t = b
          · subst htb
            simp only [XD, wantedV, hg, Option.getD_some, XGD, beq_self_eq_true, if_true]
            exact Iff.rfl
          · have e : (t == b) = false := by simpa using htb
            simp only [XD, wantedV, hg, Option.getD_some, XGD, e, if_neg htb]
        | _ => simp only [XD, wantedV, hg, Option.getD_some, XGD]
      | sl _ _ _ => simp only [XD, wantedV, hg, Option.getD_some, XGD]
    | tup l => cases l with
      | nil => simp only [XD, wantedV, hg, Option.getD_some, XGD]
      | cons _ _ => simp only [XD, wantedV, hg, Option.getD_some, XGD]
    | _ => simp only [XD, wantedV, hg, Option.getD_some, XGD]

theorem XD_mv {d : Nat} {x : Opd} : XD F ((⟨none, some d, .mv x⟩, c) :: q) ⟨s, h⟩ Q ↔ XD F q ⟨s.set d (evalO s x), h⟩ Q :=
  (XWD_of (u := some (evalO s x)) rfl rfl).trans XWD_some

end

/-! ### values -/

abbrev vi (k : IntKind) (n : Int) : VV := .cv (.sc (.int k n))
abbrev vb (t : Bool) : VV := .cv (.sc (.bool t))
abbrev vs (t : ByteArray) : VV := .cv (.sc (.string t))
abbrev nilS : VV := .cv (.sc (.slice none 0 0))

def binO (op : BinOp) : VV → VV → Option VV
  | .cv (.sc a), .cv (.sc b) => (binV op a b).map fun v => .cv (.sc v)
  | _, _ => none

section
variable {F : Nat → Option FnIR} {d : Option Nat} {x y z : Opd} {r : List Op1} {c : Cl} {q : List (Op1 × Cl)} {s : List VV} {h : Heap} {Q : Pst}

theorem XW_of {i : Ins} {u : Option VV} (hp : plain i = true) (hs : stepI h (evalO s) i = u.map (·, h)) : XO F (⟨none, d, i⟩ :: r) ⟨s, h⟩ Q ↔ XW F u h d r s Q := by
  rw [XO_ins hp, hs]
  cases u with
  | none =>
    constructor
    · rintro ⟨_, _, he, _⟩; cases he
    · rintro ⟨_, he, _⟩; cases he
  | some v => exact XV_some.trans XW_some.symm

theorem st_bin {op : BinOp} : stepI h (evalO s) (.bin op x y) = (binO op (evalO s x) (evalO s y)).map (·, h) := by
  simp only [stepI]
  generalize evalO s x = a
  generalize evalO s y = b
  cases a with
  | cv c => cases c with
    | sc u =>
      cases b with
      | cv c' => cases c' with
        | sc u' => simp only [binO]; cases binV op u u' <;> rfl
        | sl _ _ _ => rfl
      | _ => rfl
    | sl _ _ _ => rfl
  | _ => rfl

def cvO (k : IntKind) : VV → Option VV
  | .cv (.sc (.int _ n)) => some (vi k (k.wrap n))
  | _ => none
theorem cvO_eq {k k' : IntKind} {n : Int} : cvO k (vi k' n) = some (vi k (k.wrap n)) := rfl
theorem st_cvI {k : IntKind} : stepI h (evalO s) (.cvI k x) = (cvO k (evalO s x)).map (·, h) := by
  simp only [stepI]
  generalize evalO s x = v
  cases v with
  | cv c => cases c with
    | sc u => cases u <;> rfl
    | sl _ _ _ => rfl
  | _ => rfl

def pkO (c a b : VV) : Option VV := match c with
  | .cv (.sc (.bool t)) => some (if t then a else b)
  | _ => none
theorem pkO_t {a b : VV} : pkO (vb true) a b = some a := rfl
theorem pkO_f {a b : VV} : pkO (vb false) a b = some b := rfl
theorem st_pick : stepI h (evalO s) (.pick x y z) = (pkO (evalO s x) (evalO s y) (evalO s z)).map (·, h) := by
  simp only [stepI]
  generalize evalO s x = v
  cases v with
  | cv c => cases c with
    | sc u => cases u <;> rfl
    | sl _ _ _ => rfl
  | _ => rfl

def exO (v : VV) (i : Nat) : Option VV := match v with
  | .tup vs => vs[i]?
  | _ => none
theorem exO_eq {l : List VV} {i : Nat} : exO (.tup l) i = l[i]? := rfl
theorem st_ext {i : Nat} : stepI h (evalO s) (.ext x i) = (exO (evalO s x) i).map (·, h) := by
  simp only [stepI]
  generalize evalO s x = v
  cases v with
  | tup vs => simp only [exO]; cases vs[i]? <;> rfl
  | _ => rfl

def lnO (str : Bool) (v : VV) : Option VV := (if str then strLen v else lenV v).map fun n => vi .i64 n
theorem st_len {str : Bool} : stepI h (evalO s) (.len str x) = (lnO str (evalO s x)).map (·, h) := by
  simp only [stepI, lnO]
  cases str
  · simp only [Bool.false_eq_true, if_false]; cases lenV (evalO s x) <;> rfl
  · simp only [if_true]; cases strLen (evalO s x) <;> rfl

def mmO (m : Bool) : VV → VV → Option VV
  | .cv (.sc (.int k a)), .cv (.sc (.int _ b)) => some (vi k (if m then min a b else max a b))
  | _, _ => none
theorem mmO_min {k : IntKind} {a b : Int} : mmO true (vi k a) (vi k b) = some (vi k (min a b)) := rfl
theorem mmO_max {k : IntKind} {a b : Int} : mmO false (vi k a) (vi k b) = some (vi k (max a b)) := rfl
theorem st_mnmx {m : Bool} : stepI h (evalO s) (.mnmx m [x, y]) = (mmO m (evalO s x) (evalO s y)).map (·, h) := by
  simp only [stepI, List.map]
  generalize evalO s x = v
  generalize evalO s y = w
  cases v with
  | cv c => cases c with
    | sc u =>
      cases w with
      | cv c' => cases c' with
        | sc u' =>
          cases u <;> cases u' <;> simp only [mnmxL, mnmxV, mmO, Option.map_none, Option.map_some]
          rename_i k a k' b
          cases m
          · simp only [Bool.false_eq_true, if_false]
            have : (if b > a then b else a) = max a b := by split <;> omega
            rw [this]
          · simp only [if_true]
            have : (if b < a then b else a) = min a b := by split <;> omega
            rw [this]
        | sl _ _ _ => cases u <;> rfl
      | _ => cases u <;> rfl
    | sl _ _ _ => rfl
  | _ => rfl

theorem XO_bin {op : BinOp} : XO F (⟨none, d, .bin op x y⟩ :: r) ⟨s, h⟩ Q ↔ XW F (binO op (evalO s x) (evalO s y)) h d r s Q := XW_of rfl st_bin
theorem XD_bin {op : BinOp} : XD F ((⟨none, d, .bin op x y⟩, c) :: q) ⟨s, h⟩ Q ↔ XWD F (binO op (evalO s x) (evalO s y)) h d q s Q := XWD_of rfl st_bin
theorem XO_cvI {k : IntKind} : XO F (⟨none, d, .cvI k x⟩ :: r) ⟨s, h⟩ Q ↔ XW F (cvO k (evalO s x)) h d r s Q := XW_of rfl st_cvI
theorem XD_cvI {k : IntKind} : XD F ((⟨none, d, .cvI k x⟩, c) :: q) ⟨s, h⟩ Q ↔ XWD F (cvO k (evalO s x)) h d q s Q := XWD_of rfl st_cvI
theorem XO_pick : XO F (⟨none, d, .pick x y z⟩ :: r) ⟨s, h⟩ Q ↔ XW F (pkO (evalO s x) (evalO s y) (evalO s z)) h d r s Q := XW_of rfl st_pick
theorem XD_pick : XD F ((⟨none, d, .pick x y z⟩, c) :: q) ⟨s, h⟩ Q ↔ XWD F (pkO (evalO s x) (evalO s y) (evalO s z)) h d q s Q := XWD_of rfl st_pick
theorem XO_ext {i : Nat} : XO F (⟨none, d, .ext x i⟩ :: r) ⟨s, h⟩ Q ↔ XW F (exO (evalO s x) i) h d r s Q := XW_of rfl st_ext
theorem XD_ext {i : Nat} : XD F ((⟨none, d, .ext x i⟩, c) :: q) ⟨s, h⟩ Q ↔ XWD F (exO (evalO s x) i) h d q s Q := XWD_of rfl st_ext
theorem XO_len {str : Bool} : XO F (⟨none, d, .len str x⟩ :: r) ⟨s, h⟩ Q ↔ XW F (lnO str (evalO s x)) h d r s Q := XW_of rfl st_len
theorem XD_len {str : Bool} : XD F ((⟨none, d, .len str x⟩, c) :: q) ⟨s, h⟩ Q ↔ XWD F (lnO str (evalO s x)) h d q s Q := XWD_of rfl st_len
theorem XO_mnmx {m : Bool} : XO F (⟨none, d, .mnmx m [x, y]⟩ :: r) ⟨s, h⟩ Q ↔ XW F (mmO m (evalO s x) (evalO s y)) h d r s Q := XW_of rfl st_mnmx
theorem XD_mnmx {m : Bool} : XD F ((⟨none, d, .mnmx m [x, y]⟩, c) :: q) ⟨s, h⟩ Q ↔ XWD F (mmO m (evalO s x) (evalO s y)) h d q s Q := XWD_of rfl st_mnmx

end

end Go.Vm

/-
  Vm: functions of values without an address that are told by hand (own work).
-/
namespace Go.Vm
open Go Go.RowKit

/-- The small code of such a function. -/
def pfFn (k : Nat) (φ : List Value → Option Value) : FnIR := ⟨k, [.t 0], .reg [⟨none, some 0, .pf φ ((List.range k).map .t)⟩]⟩

theorem scsOf_rel {σ : Stab} {β : Nat → Option Loc} : ∀ (us : List VV) (l rs : List Value), scsOf us = some l → rs.length = us.length → (∀ (i : Nat) (v : Value) (u : VV), rs[i]? = some v → us[i]? = some u → VR σ β v u) → rs = l
  | [], l, rs, h, hl, _ => by
    cases h
    exact List.length_eq_zero_iff.1 hl
  | u :: us, l, rs, h, hl, hr => by
    cases rs with
    | nil => simp at hl
    | cons r rs =>
      have h0 := hr 0 r u rfl rfl
      unfold scsOf at h
      split at h
      · rename_i h1; cases h1
      · rename_i v t h1
        cases h1
        obtain ⟨rfl, _⟩ := h0.sc_inv
        cases hq : scsOf us with
        | none => rw [hq] at h; cases h
        | some l1 =>
          rw [hq] at h; cases h
          rw [scsOf_rel us l1 rs hq (by simpa using hl) (fun i v u hv hu => hr (i + 1) v u (by simpa using hv) (by simpa using hu))]
      · cases h

theorem scsOf_undef : ∀ (us : List VV), VV.undef ∈ us → scsOf us = none := by
  intro us
  induction us with
  | nil => intro h; cases h
  | cons u us ih =>
    intro hm
    unfold scsOf
    split
    · rename_i h; cases h
    · rename_i v t h
      cases h
      rcases List.mem_cons.1 hm with h | h
      · cases h
      · rw [ih h]; rfl
    · rfl

/-- Its run. -/
theorem pf_run {k : Nat} {φ : List Value → Option Value} {call : CallSem} {n : Nat} {args : List VV} {h h' : Heap} {r : CRes} (hk : 0 < k) (hr : runFn (exec call n) (pfFn k φ) args h = some (r, h')) :
    ∃ l v, scsOf args = some l ∧ φ l = some v ∧ scalar v = true ∧ r = .ret (.cv (.sc v)) ∧ h' = h := by
  unfold runFn pfFn at hr
  simp only at hr
  split at hr
  · cases hr
  rename_i hb
  have hle : args.length ≤ k := Nat.le_of_ble_eq_true (by simpa using hb)
  simp only [exec, execOps, wantedV, stepO] at hr
  have hm : ((List.range k).map Opd.t).map (evalO (args ++ List.replicate (k - args.length) .undef)) = args ++ List.replicate (k - args.length) .undef := by
    apply List.ext_getElem?
    intro i
    simp only [List.getElem?_map, List.map_map]
    by_cases hi : i < k
    · rw [List.getElem?_range hi]
      simp only [Option.map_some, Function.comp_apply, evalO, List.getD_eq_getElem?_getD]
      rw [List.getElem?_eq_getElem (by rw [List.length_append, List.length_replicate]; omega)]; rfl
    · rw [List.getElem?_eq_none (by simpa using hi), List.getElem?_eq_none (by rw [List.length_append, List.length_replicate]; omega)]; rfl
  have hl : args.length = k := by
    rcases Nat.lt_or_ge args.length k with hlt | hge
    · exfalso
      have : scsOf (args ++ List.replicate (k - args.length) .undef) = none := scsOf_undef _ (List.mem_append_right _ (List.mem_replicate.2 ⟨by omega, rfl⟩))
      simp only [stepI, hm, this] at hr
      cases hr
    · omega
  subst hl
  simp only [Nat.sub_self, List.replicate_zero, List.append_nil] at hr hm
  simp only [stepI, hm] at hr
  cases hs : scsOf args with
  | none => rw [hs] at hr; simp at hr
  | some l =>
    rw [hs] at hr
    simp only at hr
    cases hp : φ l with
    | none => rw [hp] at hr; simp at hr
    | some v =>
      rw [hp] at hr
      simp only at hr
      by_cases hv : scalar v = true
      · simp only [hv, if_true, putD, resAll, resOf] at hr
        rw [List.getElem?_set_self hk] at hr
        simp [pack] at hr
        exact ⟨l, v, rfl, hp, hv, hr.1.symm, hr.2.symm⟩
      · rw [if_neg hv] at hr; simp at hr

/-- A function of values without an address, told by hand. -/
theorem natOK_pf {P : Program} {f k : Nat} {φ : List Value → Option Value} (h0 : 0 < k) (hfn : ∃ fnc, P.funcs[f]? = some fnc ∧ (fnc.name == "runtime.NumGoroutine") = false ∧ fnc.body.isNone = false)
    (hc : ∀ l v (w : World), φ l = some v → Calls P f l.toArray w fun e w' => e = .returned v ∧ Below w.heap.size w w') : NatOK P f (pfFn k φ) := by
  refine ⟨hfn, fun call n args h r h' _ hr rargs prot σ β w hl hrel hw => ?_⟩
  obtain ⟨l, v, h1, h2, h3, rfl, rfl⟩ := pf_run h0 hr
  have e : rargs.toList = l := scsOf_rel args l rargs.toList h1 (by simpa using hl) (fun i v u hv hu => hrel i v u (by simpa using hv) hu)
  have e2 : rargs = l.toArray := by rw [← e]
  rw [e2]
  refine (hc l v w h2).mono ?_
  rintro e w' ⟨rfl, hB⟩
  obtain ⟨hF, hW⟩ := hw.lent (w1 := w') (σ0 := σ) (σ1 := σ) (β1 := noβ) ⟨hB.os, hB.tape, hB.output, hB.size, fun b hb _ => hB.block b hb, fun _ _ h => h, (fun id L hL => by cases hL), fun _ ha => .inl ha, (fun id L hL => by cases hL)⟩
  exact ⟨σ, β, v, hF, hW, .inl ⟨_, rfl, rfl, VR.sc h3⟩⟩
end Go.Vm

/-
  Vm: what steps do to values, for simp (own work).
-/
namespace Go.Vm
open Go

/-- A text, by its bytes. -/
abbrev txt (l : List UInt8) : VV := .cv (.sc (.string ⟨l.toArray⟩))
section
variable {k k' : IntKind} {a b : Int} {s t : List UInt8}
theorem bin_add : binO .add (vi k a) (vi k b) = some (vi k (k.wrap (a + b))) := by simp [binO, binV]
theorem bin_sub : binO .sub (vi k a) (vi k b) = some (vi k (k.wrap (a - b))) := by simp [binO, binV]
theorem bin_mul : binO .mul (vi k a) (vi k b) = some (vi k (k.wrap (a * b))) := by simp [binO, binV]
theorem bin_quo (h : b ≠ 0) : binO .quo (vi k a) (vi k b) = some (vi k (k.wrap (a.tdiv b))) := by simp [binO, binV, h]
theorem bin_rem (h : b ≠ 0) : binO .rem (vi k a) (vi k b) = some (vi k (a.tmod b)) := by simp [binO, binV, h]
theorem bin_and : binO .and (vi k a) (vi k b) = some (vi k (bits .and k a b)) := by simp [binO, binV, bits]
theorem bin_or : binO .or (vi k a) (vi k b) = some (vi k (bits .or k a b)) := by simp [binO, binV, bits]
theorem bin_shl (h : ¬ b < 0) : binO .shl (vi k a) (vi k' b) = some (vi k (k.wrap (a * 2 ^ (min b.toNat k.bits)))) := by simp [binO, binV, h]
theorem bin_shr (h : ¬ b < 0) : binO .shr (vi k a) (vi k' b) = some (vi k (a.fdiv (2 ^ (min b.toNat k.bits)))) := by simp [binO, binV, h]
theorem bin_eql : binO .eql (vi k a) (vi k b) = some (vb (decide (a = b))) := by simp [binO, binV]; rfl
theorem bin_neq : binO .neq (vi k a) (vi k b) = some (vb (decide (a ≠ b))) := by simp [binO, binV, bne]; rfl
theorem bin_lss : binO .lss (vi k a) (vi k b) = some (vb (decide (a < b))) := by simp [binO, binV]
theorem bin_leq : binO .leq (vi k a) (vi k b) = some (vb (decide (a ≤ b))) := by simp [binO, binV]
theorem bin_gtr : binO .gtr (vi k a) (vi k b) = some (vb (decide (b < a))) := by simp [binO, binV]
theorem bin_geq : binO .geq (vi k a) (vi k b) = some (vb (decide (b ≤ a))) := by simp [binO, binV]
theorem bin_seql : binO .eql (txt s) (txt t) = some (vb (decide (s = t))) := by
  simp only [binO, binV, Option.map_some, Option.some.injEq, VV.cv.injEq, CV.sc.injEq, Value.bool.injEq]
  by_cases h : s = t <;> simp [h]
theorem bin_sneq : binO .neq (txt s) (txt t) = some (vb (decide (s ≠ t))) := by
  simp only [binO, binV, Option.map_some, Option.some.injEq, VV.cv.injEq, CV.sc.injEq, Value.bool.injEq]
  by_cases h : s = t
  · subst h; simp
  · have : (s == t) = false := by simpa using h
    simp [h]
theorem bin_sadd (h : s.length + t.length ≤ 9223372036854775807) : binO .add (txt s) (txt t) = some (txt (s ++ t)) := by
  have h' : (⟨s.toArray⟩ : ByteArray).size + (⟨t.toArray⟩ : ByteArray).size ≤ 9223372036854775807 := h
  simp only [binO, binV, if_pos h', Option.map_some, Option.some.injEq, VV.cv.injEq, CV.sc.injEq, Value.string.injEq]
  apply ByteArray.ext
  rw [ByteArray.data_append]
  simp
end

theorem ln_nil : lnO false nilS = some (vi .i64 0) := rfl
theorem ln_sl {z : Nat} {els : List (List CV)} {ex : Bool} : lnO false (.cv (.sl z els ex)) = some (vi .i64 els.length) := rfl
theorem ln_own {id g off len : Nat} {ex : Bool} : lnO false (.own id g off len ex) = some (vi .i64 len) := rfl
theorem ln_str {l : List UInt8} : lnO true (txt l) = some (vi .i64 l.length) := rfl

section
variable {F : Nat → Option FnIR} {d : Option Nat} {x y z : Opd} {r : List Op1} {c : Cl} {q : List (Op1 × Cl)} {s : List VV} {h : Heap} {Q : Pst}
/-- A slice's literal. -/
def mkO (h : Heap) (z len : Nat) (zero : List VV) (parts : List (Nat × Nat × VV)) : Option (VV × Heap) :=
  match fill zero parts with
  | some cs => match closL h cs with
    | some (cc, h1) => some (.cv (.sl z (chunk z len cc) true), h1)
    | none => none
  | none => none
def mkParts (s : List VV) : List (Nat × Nat × Opd) → List (Nat × Nat × VV)
  | [] => []
  | (a, b, x) :: r => (a, b, evalO s x) :: mkParts s r
theorem mkParts_nil {s : List VV} : mkParts s [] = [] := rfl
theorem mkParts_cons {s : List VV} {a b : Nat} {x : Opd} {r : List (Nat × Nat × Opd)} : mkParts s ((a, b, x) :: r) = (a, b, evalO s x) :: mkParts s r := rfl
theorem mkParts_eq (s : List VV) : ∀ l : List (Nat × Nat × Opd), l.map (fun p => (p.1, p.2.1, evalO s p.2.2)) = mkParts s l
  | [] => rfl
  | (a, b, x) :: r => by simp only [List.map, mkParts, mkParts_eq s r]
theorem st_mksl {z len : Nat} {zero : List VV} {parts : List (Nat × Nat × Opd)} : stepI h (evalO s) (.mksl z len zero parts false) = mkO h z len zero (mkParts s parts) := by
  simp only [stepI, mkO, mkParts_eq, Bool.false_eq_true, if_false]
  cases fill zero (mkParts s parts) with
  | none => rfl
  | some cs => cases closL h cs <;> rfl
theorem XO_mksl {z len : Nat} {zero : List VV} {parts : List (Nat × Nat × Opd)} : XO F (⟨none, d, .mksl z len zero parts false⟩ :: r) ⟨s, h⟩ Q ↔ XV F (mkO h z len zero (mkParts s parts)) d r s Q := by
  rw [XO_ins rfl, st_mksl]
theorem XD_mksl {z len : Nat} {zero : List VV} {parts : List (Nat × Nat × Opd)} : XD F ((⟨none, d, .mksl z len zero parts false⟩, c) :: q) ⟨s, h⟩ Q ↔ XVD F (mkO h z len zero (mkParts s parts)) c h d q s Q := by
  rw [XD_ins rfl, st_mksl]
/-- A struct's literal. -/
def bdO (zero : List VV) (parts : List (Nat × Nat × VV)) : Option VV := (fill zero parts).map .agg
theorem st_build {zero : List VV} {parts : List (Nat × Nat × Opd)} : stepI h (evalO s) (.build zero parts) = (bdO zero (mkParts s parts)).map (·, h) := by
  simp only [stepI, bdO, mkParts_eq]
  cases fill zero (mkParts s parts) <;> rfl
theorem XO_build {zero : List VV} {parts : List (Nat × Nat × Opd)} : XO F (⟨none, d, .build zero parts⟩ :: r) ⟨s, h⟩ Q ↔ XW F (bdO zero (mkParts s parts)) h d r s Q := XW_of rfl st_build
theorem XD_build {zero : List VV} {parts : List (Nat × Nat × Opd)} : XD F ((⟨none, d, .build zero parts⟩, c) :: q) ⟨s, h⟩ Q ↔ XWD F (bdO zero (mkParts s parts)) h d q s Q := XWD_of rfl st_build
theorem mkO_1 {z0 c : CV} : mkO h 1 1 [.cv z0] [(0, 1, .cv c)] = some (.cv (.sl 1 [[c]] true), h) := by
  simp [mkO, fill, cellsOf, splice, closL, clos, chunk, List.range, List.range.loop]
theorem mkO_2 {z0 z1 c c1 : CV} : mkO h 1 2 [.cv z0, .cv z1] [(0, 1, .cv c), (1, 1, .cv c1)] = some (.cv (.sl 1 [[c], [c1]] true), h) := by
  simp [mkO, fill, cellsOf, splice, closL, clos, chunk, List.range, List.range.loop]
end

/-! ### looking into slices -/

section
variable {F : Nat → Option FnIR} {d : Option Nat} {x y z : Opd} {r : List Op1} {c : Cl} {q : List (Op1 × Cl)} {s : List VV} {h : Heap} {Q : Pst}

def rhoO (v w u : VV) : Opd → VV
  | .t 0 => v
  | .t 1 => w
  | .t _ => u
  | .c c => c

def iaO (h : Heap) (z : Nat) (v w : VV) : Option (VV × Heap) := stepI h (rhoO v w .undef) (.iadL z (.t 0) (.t 1))
theorem XO_iadL {z : Nat} : XO F (⟨none, d, .iadL z x y⟩ :: r) ⟨s, h⟩ Q ↔ XV F (iaO h z (evalO s x) (evalO s y)) d r s Q := XO_ins rfl
theorem XD_iadL {z : Nat} : XD F ((⟨none, d, .iadL z x y⟩, c) :: q) ⟨s, h⟩ Q ↔ XVD F (iaO h z (evalO s x) (evalO s y)) c h d q s Q := XD_ins rfl
theorem ia_sl {z : Nat} {els : List (List CV)} {ex : Bool} {k : IntKind} {j : Int} {e : List CV} (h0 : 0 ≤ j) (he : els[j.toNat]? = some e) : iaO h z (.cv (.sl z els ex)) (vi k j) = some (.rptr e, h) := by
  simp [iaO, stepI, rhoO, intV, h0, he]
theorem ia_own {z id g off len : Nat} {els : List (List CV)} {fr ex : Bool} {k : IntKind} {j : Int} (h0 : 0 ≤ j) (ho : h[id]? = some (.arr z els g fr)) (hl : j.toNat < len) :
    iaO h z (.own id g off len ex) (vi k j) = some (.eptr id g (off + j.toNat) 0, h) := by
  simp [iaO, stepI, rhoO, intV, h0, ho, hl]

def ldO (h : Heap) (ag : Bool) (n : Nat) (v : VV) : Option (VV × Heap) := stepI h (rhoO v .undef .undef) (.ld ag n (.t 0))
theorem XO_ld {ag : Bool} {n : Nat} : XO F (⟨none, d, .ld ag n x⟩ :: r) ⟨s, h⟩ Q ↔ XV F (ldO h ag n (evalO s x)) d r s Q := XO_ins rfl
theorem XD_ld {ag : Bool} {n : Nat} : XD F ((⟨none, d, .ld ag n x⟩, c) :: q) ⟨s, h⟩ Q ↔ XVD F (ldO h ag n (evalO s x)) c h d q s Q := XD_ins rfl
theorem ld_rptr {c : CV} {r : List CV} : ldO h false 1 (.rptr (c :: r)) = some (.cv c, h) := by simp [ldO, stepI, rhoO, ldCells]
theorem ld_ptr {id off : Nat} {cells : List VV} {fr : Bool} {c : VV} (ho : h[id]? = some (.box cells fr)) (hc : cells[off]? = some c) : ldO h false 1 (.ptr id off) = some (c, h) := by
  have : (cells.drop off).take 1 = [c] := by
    rw [List.take_one, List.head?_drop, hc]; rfl
  simp [ldO, stepI, rhoO, ho, this, ldCells]
theorem ld_eptr {id g i z off : Nat} {els : List (List CV)} {fr : Bool} {e : List CV} {c : CV} (ho : h[id]? = some (.arr z els g fr)) (he : els[i]? = some e) (hc : e[off]? = some c) : ldO h false 1 (.eptr id g i off) = some (.cv c, h) := by
  have : (e.drop off).take 1 = [c] := by
    rw [List.take_one, List.head?_drop, hc]; rfl
  simp [ldO, stepI, rhoO, ho, he, this, ldCells]

def fdO (off : Nat) : VV → Option VV
  | .ptr id o => some (.ptr id (o + off))
  | .eptr id g i o => some (.eptr id g i (o + off))
  | .rptr cells => some (.rptr (cells.drop off))
  | _ => none
theorem st_fad {off : Nat} : stepI h (evalO s) (.fad off x) = (fdO off (evalO s x)).map (·, h) := by
  simp only [stepI]
  generalize evalO s x = v
  cases v <;> rfl
theorem XO_fad {off : Nat} : XO F (⟨none, d, .fad off x⟩ :: r) ⟨s, h⟩ Q ↔ XW F (fdO off (evalO s x)) h d r s Q := XW_of rfl st_fad
theorem XD_fad {off : Nat} : XD F ((⟨none, d, .fad off x⟩, c) :: q) ⟨s, h⟩ Q ↔ XWD F (fdO off (evalO s x)) h d q s Q := XWD_of rfl st_fad
theorem fd_r {off : Nat} {cells : List CV} : fdO off (.rptr cells) = some (.rptr (cells.drop off)) := rfl
theorem fd_p {id o off : Nat} : fdO off (.ptr id o) = some (.ptr id (o + off)) := rfl
theorem fd_e {id g i o off : Nat} : fdO off (.eptr id g i o) = some (.eptr id g i (o + off)) := rfl

/-- Of a struct's value, a field. -/
def flO (ag : Bool) (off n : Nat) (v : VV) : Option VV := match v with
  | .agg cells => ldCells ag n ((cells.drop off).take n)
  | _ => none
theorem st_fld {ag : Bool} {off n : Nat} : stepI h (evalO s) (.fld ag off n x) = (flO ag off n (evalO s x)).map (·, h) := by
  simp only [stepI]
  generalize evalO s x = v
  cases v <;> rfl
theorem XO_fld {ag : Bool} {off n : Nat} : XO F (⟨none, d, .fld ag off n x⟩ :: r) ⟨s, h⟩ Q ↔ XW F (flO ag off n (evalO s x)) h d r s Q := XW_of rfl st_fld
theorem XD_fld {ag : Bool} {off n : Nat} : XD F ((⟨none, d, .fld ag off n x⟩, c) :: q) ⟨s, h⟩ Q ↔ XWD F (flO ag off n (evalO s x)) h d q s Q := XWD_of rfl st_fld

/-- Bytes to a text. -/
def bsO (h : Heap) (v : VV) : Option VV := match elsOf h 1 v with
  | some els => (bytesOf els).map fun l => txt l
  | none => none
theorem st_cvBS : stepI h (evalO s) (.cvBS x) = (bsO h (evalO s x)).map (·, h) := by
  simp only [stepI, bsO]
  cases elsOf h 1 (evalO s x) with
  | none => rfl
  | some els => simp only; cases bytesOf els <;> rfl
theorem XO_cvBS : XO F (⟨none, d, .cvBS x⟩ :: r) ⟨s, h⟩ Q ↔ XW F (bsO h (evalO s x)) h d r s Q := XW_of rfl st_cvBS
theorem XD_cvBS : XD F ((⟨none, d, .cvBS x⟩, c) :: q) ⟨s, h⟩ Q ↔ XWD F (bsO h (evalO s x)) h d q s Q := XWD_of rfl st_cvBS
theorem bytesOf_eB : ∀ l : List UInt8, bytesOf (eB l) = some l
  | [] => rfl
  | b :: l => by
    have ih := bytesOf_eB l
    unfold bytesOf at ih ⊢
    simp only [eB, List.map_cons, List.mapM_cons, byteCell, byteOf?] at ih ⊢
    rw [ih]
    simp
theorem bs_els {v : VV} {l : List UInt8} (hv : elsOf h 1 v = some (eB l)) : bsO h v = some (txt l) := by
  simp only [bsO, hv, bytesOf_eB, Option.map_some]
theorem bs_sl {l : List UInt8} {ex : Bool} : bsO h (.cv (.sl 1 (eB l) ex)) = some (txt l) := bs_els (by simp [elsOf])
theorem bs_nil : bsO h nilS = some (txt []) := rfl

/-- A text to bytes, closed. -/
def sbO (v : VV) : Option VV := match v with
  | .cv (.sc (.string t)) => some (.cv (.sl 1 (eB t.data.toList) false))
  | _ => none
theorem st_cvSB : stepI h (evalO s) (.cvSB false x) = (sbO (evalO s x)).map (·, h) := by
  simp only [stepI]
  generalize evalO s x = v
  cases v with
  | cv c => cases c with
    | sc u => cases u <;> rfl
    | sl _ _ _ => rfl
  | _ => rfl
theorem XO_cvSB : XO F (⟨none, d, .cvSB false x⟩ :: r) ⟨s, h⟩ Q ↔ XW F (sbO (evalO s x)) h d r s Q := XW_of rfl st_cvSB
theorem XD_cvSB : XD F ((⟨none, d, .cvSB false x⟩, c) :: q) ⟨s, h⟩ Q ↔ XWD F (sbO (evalO s x)) h d q s Q := XWD_of rfl st_cvSB
theorem sb_txt {l : List UInt8} : sbO (txt l) = some (.cv (.sl 1 (eB l) false)) := rfl

/-- A part of a slice. -/
def bndV (x : Option VV) (dflt y : Nat) : Option Nat :=
  match x with
  | none => some dflt
  | some v => match intV v with
    | some i => if 0 ≤ i ∧ i ≤ y then some i.toNat else none
    | none => none
def slO (h : Heap) (z : Nat) (v : VV) (lo hi mx : Option VV) : Option (VV × Heap) :=
  stepI h (rhoO v .undef .undef) (.slL z (.t 0) (lo.map .c) (hi.map .c) (mx.map .c))
theorem bnd_map {ρ ρ' : Opd → VV} (hc : ∀ v, ρ' (.c v) = v) (o : Option Opd) (a b : Nat) : bnd ρ o a b = bnd ρ' ((o.map ρ).map .c) a b := by
  cases o with
  | none => rfl
  | some o => simp only [bnd, Option.map_some, hc]
theorem st_slL {z : Nat} {lo hi mx : Option Opd} : stepI h (evalO s) (.slL z x lo hi mx) = slO h z (evalO s x) (lo.map (evalO s)) (hi.map (evalO s)) (mx.map (evalO s)) := by
  have hc : ∀ v, rhoO (evalO s x) .undef .undef (.c v) = v := fun _ => rfl
  simp only [slO, stepI]
  simp only [bnd_map hc lo, bnd_map hc hi, bnd_map hc mx, Option.isSome_map]
  rfl
theorem XO_slL {z : Nat} {lo hi mx : Option Opd} : XO F (⟨none, d, .slL z x lo hi mx⟩ :: r) ⟨s, h⟩ Q ↔ XV F (slO h z (evalO s x) (lo.map (evalO s)) (hi.map (evalO s)) (mx.map (evalO s))) d r s Q := by
  rw [XO_ins rfl, st_slL]
theorem XD_slL {z : Nat} {lo hi mx : Option Opd} : XD F ((⟨none, d, .slL z x lo hi mx⟩, c) :: q) ⟨s, h⟩ Q ↔ XVD F (slO h z (evalO s x) (lo.map (evalO s)) (hi.map (evalO s)) (mx.map (evalO s))) c h d q s Q := by
  rw [XD_ins rfl, st_slL]
theorem sl_sl {z : Nat} {els : List (List CV)} {ex : Bool} {k k' : IntKind} {a b : Int} (h1 : 0 ≤ a) (h2 : a ≤ b) (h3 : b ≤ els.length) :
    ∃ ex', slO h z (.cv (.sl z els ex)) (some (vi k a)) (some (vi k' b)) none = some (.cv (.sl z ((els.drop a.toNat).take (b.toNat - a.toNat)) ex'), h) := by
  have h4 : 0 ≤ b := by omega
  have h5 : b ≤ (els.length : Int) := h3
  have h6 : a ≤ max b 0 := by omega
  refine ⟨ex && b.toNat == els.length, ?_⟩
  simp [slO, stepI, rhoO, lenV, bnd, intV, h1, h4, h5, h6]
theorem eB_get {l : List UInt8} {i : Nat} {c : UInt8} (hc : l[i]? = some c) : (eB l)[i]? = some [.sc (.int .u8 c.toNat)] := by
  simp [eB, hc, byteCell]
theorem eB_len {l : List UInt8} : (eB l).length = l.length := by simp [eB]
theorem src_sl {z : Nat} {els : List (List CV)} {ex : Bool} : srcOf h z (.cv (.sl z els ex)) = some els := by simp [srcOf, elsOf]
end

/-- v is a closed slice of these elements, or nil. -/
def SlV (z : Nat) (els : List (List CV)) (v : VV) : Prop := (v = nilS ∧ els = []) ∨ ∃ ex, v = .cv (.sl z els ex)

section
variable {z : Nat} {es : List (List CV)} {v : VV} {h : Heap}
theorem SlV.nil : SlV z [] nilS := .inl ⟨rfl, rfl⟩
theorem SlV.sl {ex : Bool} : SlV z es (.cv (.sl z es ex)) := .inr ⟨ex, rfl⟩
theorem SlV.ln (hv : SlV z es v) : lnO false v = some (vi .i64 es.length) := by
  rcases hv with ⟨rfl, rfl⟩ | ⟨ex, rfl⟩ <;> rfl
theorem SlV.ia (hv : SlV z es v) {k : IntKind} {j : Int} {e : List CV} (h0 : 0 ≤ j) (he : es[j.toNat]? = some e) : iaO h z v (vi k j) = some (.rptr e, h) := by
  rcases hv with ⟨rfl, rfl⟩ | ⟨ex, rfl⟩
  · simp at he
  · exact ia_sl h0 he
theorem SlV.part (hv : SlV z es v) {k k' : IntKind} {a b : Int} (h1 : 0 ≤ a) (h2 : a ≤ b) (h3 : b ≤ es.length) :
    ∃ v', SlV z ((es.drop a.toNat).take (b.toNat - a.toNat)) v' ∧ slO h z v (some (vi k a)) (some (vi k' b)) none = some (v', h) := by
  rcases hv with ⟨rfl, rfl⟩ | ⟨ex, rfl⟩
  · have hb : b = 0 := by simp at h3; omega
    have ha : a = 0 := by omega
    subst hb ha
    exact ⟨nilS, .inl ⟨rfl, by simp⟩, by simp [slO, stepI, rhoO, lenV, bnd, intV]⟩
  · obtain ⟨ex', e⟩ := sl_sl (h := h) (z := z) (els := es) (ex := ex) (k := k) (k' := k') h1 h2 h3
    exact ⟨_, .inr ⟨ex', rfl⟩, e⟩
theorem SlV.els (hv : SlV z es v) : elsOf h z v = some es := by
  rcases hv with ⟨rfl, rfl⟩ | ⟨ex, rfl⟩
  · rfl
  · simp [elsOf]
theorem SlV.src (hv : SlV z es v) : srcOf h z v = some es := by
  rcases hv with ⟨rfl, rfl⟩ | ⟨ex, rfl⟩
  · rfl
  · exact src_sl
theorem SlV.clos {l as : List VV} {h1 : Heap} (hv : SlV z es v) (hl : closAs h l = some (as, h1)) : closAs h (v :: l) = some (v :: as, h1) := by
  rcases hv with ⟨rfl, rfl⟩ | ⟨ex, rfl⟩ <;> simp [closAs, closA, Go.Vm.clos, hl]
end

/-! ### calls -/

section
variable {F : Nat → Option FnIR} {d : Option Nat} {r : List Op1} {s : List VV} {h : Heap} {Q : Pst}

/-- A call on closed values. -/
theorem XO_callP {f : Nat} {args : List Opd} {as : List VV} {h1 hc : Heap} {v w : VV} (ha : closAs h (args.map (evalO s)) = some (as, h1)) (hcall : call F f as [] = some (.ret v, hc)) (hr : closRes hc v = some w)
    (hk : XO F r ⟨putD s d w, h1⟩ Q) (hf : f < SOFT := by decide) : XO F (⟨none, d, .call f true args⟩ :: r) ⟨s, h⟩ Q := by
  refine (XO_call (v := w) (h' := h1) (callAt_do hf ?_)).mpr hk
  unfold doCall
  simp only [if_true, ha, hcall, hr, Option.map_some]

/-- A call in the caller's heap. -/
theorem XO_callR {f : Nat} {args : List Opd} {v : VV} {h' : Heap} (hcall : call F f (args.map (evalO s)) h = some (.ret v, h')) (hk : XO F r ⟨putD s d v, h'⟩ Q) (hf : f < SOFT := by decide) :
    XO F (⟨none, d, .call f false args⟩ :: r) ⟨s, h⟩ Q := by
  refine (XO_call (v := v) (h' := h') (callAt_do hf ?_)).mpr hk
  unfold doCall
  simpa using hcall

end

/-! ### slices that grow -/

/-- v is a slice that grows behind the heap h0. -/
def Buf (h0 : Heap) (z : Nat) (els : List (List CV)) (v : VV) (h : Heap) : Prop :=
  (els = [] ∧ v = nilS ∧ h = h0) ∨ (∃ g, v = .own h0.length g 0 els.length false ∧ h = h0 ++ [.arr z els g false])

theorem Buf.nil (h0 : Heap) (z : Nat) : Buf h0 z [] nilS h0 := .inl ⟨rfl, rfl, rfl⟩

theorem Buf.len {h0 : Heap} {z : Nat} {els : List (List CV)} {v : VV} {h : Heap} (hb : Buf h0 z els v h) : lenV v = some els.length := by
  rcases hb with ⟨rfl, rfl, rfl⟩ | ⟨g, rfl, rfl⟩ <;> rfl
theorem Buf.els {h0 : Heap} {z : Nat} {els : List (List CV)} {v : VV} {h : Heap} (hb : Buf h0 z els v h) : elsOf h z v = some els := by
  rcases hb with ⟨rfl, rfl, rfl⟩ | ⟨g, rfl, rfl⟩
  · rfl
  · simp [elsOf]

/-- What a growing slice is, closed. -/
theorem Buf.res {z : Nat} {els : List (List CV)} {v : VV} {h : Heap} {h0 : Heap} (hb : Buf h0 z els v h) (hn : els ≠ []) : closRes h v = some (.cv (.sl z els false)) := by
  rcases hb with ⟨e, _, _⟩ | ⟨g, rfl, rfl⟩
  · exact absurd e hn
  · simp [closRes, closA, clos]

theorem bd_nil {l : List VV} : bdO l [] = some (.agg l) := rfl
theorem bd_2 {a b : VV} {u v : CV} : bdO [a, b] [(0, 1, .cv u), (1, 1, .cv v)] = some (.agg [.cv u, .cv v]) := rfl
theorem bd_3 {a b c : VV} {u v w : CV} : bdO [a, b, c] [(0, 1, .cv u), (1, 1, .cv v), (2, 1, .cv w)] = some (.agg [.cv u, .cv v, .cv w]) := rfl

theorem mk_agg2 {h : Heap} {z0 z1 : VV} {u w : CV} : mkO h 2 1 [z0, z1] [(0, 2, .agg [.cv u, .cv w])] = some (.cv (.sl 2 [[u, w]] true), h) := rfl
theorem mk_agg3 {h : Heap} {z0 z1 z2 : VV} {u w t : CV} : mkO h 3 1 [z0, z1, z2] [(0, 3, .agg [.cv u, .cv w, .cv t])] = some (.cv (.sl 3 [[u, w, t]] true), h) := rfl

/-! ### boxes -/

section
variable {F : Nat → Option FnIR} {d : Option Nat} {x y z : Opd} {r : List Op1} {c : Cl} {q : List (Op1 × Cl)} {s : List VV} {h : Heap} {Q : Pst}

theorem XO_alloc {zero : List VV} : XO F (⟨none, d, .alloc zero⟩ :: r) ⟨s, h⟩ Q ↔ XO F r ⟨putD s d (.ptr h.length 0), h ++ [.box zero false]⟩ Q := XO_step rfl rfl
/-- A new box, in place of its block's number. -/
def bxO (h : Heap) (n : Nat) (v : VV) : Option (VV × Heap) := stepI h (rhoO v .undef .undef) (.box n (.t 0))
theorem XO_box {n : Nat} : XO F (⟨none, d, .box n x⟩ :: r) ⟨s, h⟩ Q ↔ XV F (bxO h n (evalO s x)) d r s Q := XO_ins rfl
theorem bx_1 {v : VV} (hv : isCell v = true) : bxO h 1 v = some (.ptr h.length 0, h ++ [.box [v] false]) := by
  cases v <;> first | rfl | (simp [isCell] at hv)
def stO (h : Heap) (n : Nat) (v w : VV) : Option (VV × Heap) := stepI h (rhoO v w .undef) (.st n (.t 0) (.t 1))
theorem XO_st {n : Nat} : XO F (⟨none, d, .st n x y⟩ :: r) ⟨s, h⟩ Q ↔ XV F (stO h n (evalO s x) (evalO s y)) d r s Q := XO_ins rfl
theorem XD_st {n : Nat} : XD F ((⟨none, d, .st n x y⟩, c) :: q) ⟨s, h⟩ Q ↔ XVD F (stO h n (evalO s x) (evalO s y)) c h d q s Q := XD_ins rfl
theorem st_agg {n id : Nat} {cs cells : List VV} (hn : cs.length = n) (ho : h[id]? = some (.box cells false)) (hc : cells.length = n) : stO h n (.ptr id 0) (.agg cs) = some (.undef, h.set id (.box cs false)) := by
  have : splice cells 0 cs = cs := by
    unfold splice
    rw [List.take_zero, List.nil_append, Nat.zero_add, List.drop_eq_nil_of_le (by omega), List.append_nil]
  simp [stO, stepI, rhoO, cellsOf, hn, ho, hc, this]
theorem st_1 {id off : Nat} {v : VV} {cells : List VV} (hv : isCell v = true) (ho : h[id]? = some (.box cells false)) (hc : off < cells.length) : stO h 1 (.ptr id off) v = some (.undef, h.set id (.box (cells.set off v) false)) := by
  have hs : splice cells off [v] = cells.set off v := by
    unfold splice
    simp only [List.length_singleton]
    rw [List.set_eq_take_append_cons_drop, if_pos hc, List.append_assoc, List.singleton_append]
  have h1 : off + 1 ≤ cells.length := hc
  have hcv : cellsOf v = some [v] := by cases v <;> first | rfl | (simp [isCell] at hv)
  simp [stO, stepI, rhoO, hcv, ho, h1, hs]

theorem ld_box {n id : Nat} {cells : List VV} {fr : Bool} (ho : h[id]? = some (.box cells fr)) (hc : cells.length = n) : ldO h true n (.ptr id 0) = some (.agg cells, h) := by
  subst hc
  simp [ldO, stepI, rhoO, ho, ldCells]
theorem at_last {o : VO} : (h ++ [o])[h.length]? = some o := by simp
theorem set_last' {o o' : VO} : (h ++ [o]).set h.length o' = h ++ [o'] := by simp

theorem st_0_2 {a b u v : VV} : stO [.box [a, b] false] 2 (.ptr 0 0) (.agg [u, v]) = some (.undef, [.box [u, v] false]) := rfl
theorem st_0_3 {a b c u v w : VV} : stO [.box [a, b, c] false] 3 (.ptr 0 0) (.agg [u, v, w]) = some (.undef, [.box [u, v, w] false]) := rfl
theorem st_l_2 {a b u v : VV} : stO (h ++ [.box [a, b] false]) 2 (.ptr h.length 0) (.agg [u, v]) = some (.undef, h ++ [.box [u, v] false]) := by
  rw [st_agg (n := 2) (cells := [a, b]) rfl (by simp) rfl, set_last']
theorem st_l_3 {a b c u v w : VV} : stO (h ++ [.box [a, b, c] false]) 3 (.ptr h.length 0) (.agg [u, v, w]) = some (.undef, h ++ [.box [u, v, w] false]) := by
  rw [st_agg (n := 3) (cells := [a, b, c]) rfl (by simp) rfl, set_last']
theorem ld_l_2 {a b : VV} {fr : Bool} : ldO (h ++ [.box [a, b] fr]) true 2 (.ptr h.length 0) = some (.agg [a, b], h ++ [.box [a, b] fr]) := ld_box at_last rfl
theorem ld_l_3 {a b c : VV} {fr : Bool} : ldO (h ++ [.box [a, b, c] fr]) true 3 (.ptr h.length 0) = some (.agg [a, b, c], h ++ [.box [a, b, c] fr]) := ld_box at_last rfl
theorem ld_l_at {cells : List VV} {fr : Bool} {i : Nat} {v : VV} (hv : cells[i]? = some v) : ldO (h ++ [.box cells fr]) false 1 (.ptr h.length i) = some (v, h ++ [.box cells fr]) := ld_ptr at_last hv
theorem ld_r_2 {a b : CV} : ldO h true 2 (.rptr [a, b]) = some (.agg [.cv a, .cv b], h) := rfl
theorem ld_r_3 {a b c : CV} : ldO h true 3 (.rptr [a, b, c]) = some (.agg [.cv a, .cv b, .cv c], h) := rfl

end

/-! ### slices that grow anywhere -/

/-- v is a slice that may grow. -/
def BufG (h : Heap) (z : Nat) (els : List (List CV)) (v : VV) : Prop :=
  (els = [] ∧ v = nilS) ∨ (∃ id g, els ≠ [] ∧ v = .own id g 0 els.length false ∧ h[id]? = some (.arr z els g false))

theorem BufG.nil (h : Heap) (z : Nat) : BufG h z [] nilS := .inl ⟨rfl, rfl⟩
theorem BufG.push {h : Heap} {z : Nat} {els : List (List CV)} {v : VV} (hb : BufG h z els v) (o : VO) : BufG (h ++ [o]) z els v := by
  rcases hb with hb | ⟨id, g, hne, h1, h2⟩
  · exact .inl hb
  · refine .inr ⟨id, g, hne, h1, ?_⟩
    have : id < h.length := (List.getElem?_eq_some_iff.1 h2).1
    rw [List.getElem?_append_left this]; exact h2
theorem BufG.els {h : Heap} {z : Nat} {els : List (List CV)} {v : VV} (hb : BufG h z els v) : elsOf h z v = some els := by
  rcases hb with ⟨rfl, rfl⟩ | ⟨id, g, hne, rfl, h2⟩
  · rfl
  · simp [elsOf, h2]
theorem BufG.len {h : Heap} {z : Nat} {els : List (List CV)} {v : VV} (hb : BufG h z els v) : lenV v = some els.length := by
  rcases hb with ⟨rfl, rfl⟩ | ⟨id, g, hne, rfl, h2⟩ <;> rfl

theorem BufG.res {h : Heap} {z : Nat} {els : List (List CV)} {v : VV} (hb : BufG h z els v) (hn : els ≠ []) : closA h v = some (.cv (.sl z els false), h.set (match v with | .own id _ _ _ _ => id | _ => 0) (match v with | .own _ g _ _ _ => .arr z els g true | _ => .box [] true)) := by
  rcases hb with ⟨e, _⟩ | ⟨id, g, hne, rfl, h2⟩
  · exact absurd e hn
  · simp [closA, clos, h2]

/-! ### literals that are the frame's own -/

section
variable {F : Nat → Option FnIR} {d : Option Nat} {x y : Opd} {r : List Op1} {c : Cl} {q : List (Op1 × Cl)} {s : List VV} {h : Heap} {Q : Pst}
def mkoO (h : Heap) (z len : Nat) (zero : List VV) (parts : List (Nat × Nat × VV)) : Option (VV × Heap) :=
  match fill zero parts with
  | some cs => match closL h cs with
    | some (cc, h1) => some (.own h1.length 0 0 len true, h1 ++ [.arr z (chunk z len cc) 0 false])
    | none => none
  | none => none
theorem st_mkslo {z len : Nat} {zero : List VV} {parts : List (Nat × Nat × Opd)} : stepI h (evalO s) (.mksl z len zero parts true) = mkoO h z len zero (mkParts s parts) := by
  simp only [stepI, mkoO, mkParts_eq, if_true]
  cases fill zero (mkParts s parts) with
  | none => rfl
  | some cs => cases closL h cs <;> rfl
theorem XO_mkslo {z len : Nat} {zero : List VV} {parts : List (Nat × Nat × Opd)} : XO F (⟨none, d, .mksl z len zero parts true⟩ :: r) ⟨s, h⟩ Q ↔ XV F (mkoO h z len zero (mkParts s parts)) d r s Q := by
  rw [XO_ins rfl, st_mkslo]
theorem XD_mkslo {z len : Nat} {zero : List VV} {parts : List (Nat × Nat × Opd)} : XD F ((⟨none, d, .mksl z len zero parts true⟩, c) :: q) ⟨s, h⟩ Q ↔ XVD F (mkoO h z len zero (mkParts s parts)) c h d q s Q := by
  rw [XD_ins rfl, st_mkslo]
def mrO (h : Heap) (v : VV) : Option (VV × Heap) := stepI h (rhoO v .undef .undef) (.mrk (.t 0))
theorem XO_mrk : XO F (⟨none, d, .mrk x⟩ :: r) ⟨s, h⟩ Q ↔ XV F (mrO h (evalO s x)) d r s Q := XO_ins rfl
theorem XD_mrk : XD F ((⟨none, d, .mrk x⟩, c) :: q) ⟨s, h⟩ Q ↔ XVD F (mrO h (evalO s x)) c h d q s Q := XD_ins rfl
theorem mr_own {id g off len : Nat} {els : List (List CV)} {ex : Bool} (ho : h[id]? = some (.arr 1 els g false)) : mrO h (.own id g off len ex) = some (.own id g off len ex, h) := by
  simp [mrO, stepI, rhoO, ho]
theorem mr_0 {g off len : Nat} {els : List (List CV)} {ex : Bool} {t : Heap} : mrO (.arr 1 els g false :: t) (.own 0 g off len ex) = some (.own 0 g off len ex, .arr 1 els g false :: t) := mr_own rfl
end

end Go.Vm

/-
  Vm: more ways to go on (own work).
-/
namespace Go.Vm
open Go

section
variable {F : Nat → Option FnIR}

/-- It ends here, and so. -/
def NM (Mid : St → Prop) : Pst := fun o st => o = .norm ∧ Mid st
theorem NM_norm {Mid : St → Prop} {st : St} : NM Mid .norm st ↔ Mid st := ⟨fun h => h.2, fun h => ⟨rfl, h⟩⟩
def ValIs' (v : VV) (v' : VV) (_ : Heap) : Prop := v' = v
theorem ValIs'.refl (v : VV) (h : Heap) : ValIs' v v h := rfl

def eqbO (neg : Bool) : VV → VV → Option VV
  | .cv (.sc (.bool a)), .cv (.sc (.bool b)) => some (vb (if neg then !(a == b) else a == b))
  | _, _ => none
theorem eqb_eq {a b : Bool} : eqbO false (vb a) (vb b) = some (vb (a == b)) := rfl
theorem eqb_ne {a b : Bool} : eqbO true (vb a) (vb b) = some (vb (!(a == b))) := rfl
variable {d : Option Nat} {x y z : Opd} {r : List Op1} {c : Cl} {q : List (Op1 × Cl)} {s : List VV} {h : Heap} {Q : Pst}
theorem st_eqb {neg : Bool} : stepI h (evalO s) (.eqb neg x y) = (eqbO neg (evalO s x) (evalO s y)).map (·, h) := by
  simp only [stepI]
  generalize evalO s x = a
  generalize evalO s y = b
  cases a with
  | cv c => cases c with
    | sc u =>
      cases u with
      | bool t =>
        cases b with
        | cv c' => cases c' with
          | sc u' => cases u' <;> rfl
          | sl _ _ _ => rfl
        | _ => rfl
      | _ => rfl
    | sl _ _ _ => rfl
  | _ => rfl
theorem XO_eqb {neg : Bool} : XO F (⟨none, d, .eqb neg x y⟩ :: r) ⟨s, h⟩ Q ↔ XW F (eqbO neg (evalO s x) (evalO s y)) h d r s Q := XW_of rfl st_eqb
theorem XD_eqb {neg : Bool} : XD F ((⟨none, d, .eqb neg x y⟩, c) :: q) ⟨s, h⟩ Q ↔ XWD F (eqbO neg (evalO s x) (evalO s y)) h d q s Q := XWD_of rfl st_eqb

def unO (op : UnOp) : VV → Option VV
  | .cv (.sc a) => (unV op a).map fun v => .cv (.sc v)
  | _ => none
theorem un_not {b : Bool} : unO .not (vb b) = some (vb (!b)) := rfl
theorem st_un {op : UnOp} : stepI h (evalO s) (.un op x) = (unO op (evalO s x)).map (·, h) := by
  simp only [stepI]
  generalize evalO s x = a
  cases a with
  | cv c => cases c with
    | sc u => simp only [unO]; cases unV op u <;> rfl
    | sl _ _ _ => rfl
  | _ => rfl
theorem XO_un {op : UnOp} : XO F (⟨none, d, .un op x⟩ :: r) ⟨s, h⟩ Q ↔ XW F (unO op (evalO s x)) h d r s Q := XW_of rfl st_un
theorem XD_un {op : UnOp} : XD F ((⟨none, d, .un op x⟩, c) :: q) ⟨s, h⟩ Q ↔ XWD F (unO op (evalO s x)) h d q s Q := XWD_of rfl st_un

end

/-! ### arrays of the frame's own -/

/-- v is a whole array of the frame's own. -/
def OwnV (ex : Bool) (h : Heap) (z : Nat) (els : List (List CV)) (v : VV) : Prop := ∃ id g, v = .own id g 0 els.length ex ∧ h[id]? = some (.arr z els g false)

theorem BufG.own {h : Heap} {z : Nat} {els : List (List CV)} {v : VV} (hb : BufG h z els v) (hn : els ≠ []) : OwnV false h z els v := by
  rcases hb with ⟨e, _⟩ | ⟨id, g, _, h1, h2⟩
  · exact absurd e hn
  · exact ⟨id, g, h1, h2⟩
theorem OwnV.ln {ex : Bool} {h : Heap} {z : Nat} {els : List (List CV)} {v : VV} (hb : OwnV ex h z els v) : lnO false v = some (vi .i64 els.length) := by
  obtain ⟨id, g, rfl, _⟩ := hb; rfl
theorem BufG.ln {h : Heap} {z : Nat} {els : List (List CV)} {v : VV} (hb : BufG h z els v) : lnO false v = some (vi .i64 els.length) := by
  unfold lnO; simp only [Bool.false_eq_true, if_false, hb.len]; rfl
theorem OwnV.els {ex : Bool} {h : Heap} {z : Nat} {els : List (List CV)} {v : VV} (hb : OwnV ex h z els v) : elsOf h z v = some els := by
  obtain ⟨id, g, rfl, h2⟩ := hb
  simp [elsOf, h2]
theorem OwnV.src {ex : Bool} {h : Heap} {z : Nat} {els : List (List CV)} {v : VV} (hb : OwnV ex h z els v) : srcOf h z v = some els := by
  have := hb.els
  obtain ⟨id, g, rfl, h2⟩ := hb
  exact this
theorem BufG.src {h : Heap} {z : Nat} {els : List (List CV)} {v : VV} (hb : BufG h z els v) : srcOf h z v = some els := by
  have := hb.els
  rcases hb with ⟨rfl, rfl⟩ | ⟨id, g, _, rfl, h2⟩
  · rfl
  · exact this

/-- An element's place. -/
theorem OwnV.at_ {ex : Bool} {h : Heap} {z : Nat} {els : List (List CV)} {v : VV} (hb : OwnV ex h z els v) {i : Nat} (hi : i < els.length) :
    ∃ p, (∀ k, iaO h z v (vi k (i : Int)) = some (p, h)) ∧ (∀ e c off, els[i]? = some e → e[off]? = some c → ∃ p', fdO off p = some p' ∧ ldO h false 1 p' = some (.cv c, h)) ∧
      (∀ e off, els[i]? = some e → off < e.length → ∃ p', fdO off p = some p' ∧ ∀ c : CV, ∃ h', stO h 1 p' (.cv c) = some (.undef, h') ∧ OwnV ex h' z (els.set i (e.set off c)) v) := by
  obtain ⟨id, g, rfl, h2⟩ := hb
  refine ⟨.eptr id g i 0, fun k => ?_, fun e c off he hc => ⟨.eptr id g i off, by rw [fd_e, Nat.zero_add], ld_eptr h2 he hc⟩, fun e off he ho => ⟨.eptr id g i off, by rw [fd_e, Nat.zero_add], fun c => ?_⟩⟩
  · rw [ia_own (by omega) h2 (by simpa using hi)]
    simp
  · have hid : id < h.length := (List.getElem?_eq_some_iff.1 h2).1
    have hsp : splice e off [c] = e.set off c := by
      unfold splice
      simp only [List.length_singleton]
      rw [List.set_eq_take_append_cons_drop, if_pos ho, List.append_assoc, List.singleton_append]
    refine ⟨h.set id (.arr z (els.set i (e.set off c)) g false), ?_, id, g, by rw [List.length_set], by rw [List.getElem?_set_self hid]⟩
    have ho' : off + 1 ≤ e.length := ho
    simp [stO, stepI, rhoO, cellsOf, closL, clos, h2, he, ho', hsp]

/-- Of bytes: an element's place. -/
theorem OwnV.byte {ex : Bool} {h : Heap} {l : List UInt8} {v : VV} (hb : OwnV ex h 1 (eB l) v) {i : Nat} {b : UInt8} (hi : l[i]? = some b) :
    ∃ p, (∀ k, iaO h 1 v (vi k (i : Int)) = some (p, h)) ∧ ldO h false 1 p = some (vi .u8 b.toNat, h) ∧ ∀ c : UInt8, ∃ h', stO h 1 p (vi .u8 c.toNat) = some (.undef, h') ∧ OwnV ex h' 1 (eB (l.set i c)) v := by
  have hlt : i < (eB l).length := by rw [eB_len]; exact (List.getElem?_eq_some_iff.1 hi).1
  obtain ⟨p, h1, h2, h3⟩ := hb.at_ hlt
  refine ⟨p, h1, ?_, fun c => ?_⟩
  · obtain ⟨p', e1, e2⟩ := h2 _ _ 0 (eB_get hi) rfl
    have : p' = p := by
      cases p <;> simp [fdO] at e1 <;> exact e1.symm
    rw [this] at e2; exact e2
  · obtain ⟨p', e1, e2⟩ := h3 _ 0 (eB_get hi) (Nat.zero_lt_one)
    have : p' = p := by
      cases p <;> simp [fdO] at e1 <;> exact e1.symm
    rw [this] at e2
    obtain ⟨h', e3, e4⟩ := e2 (.sc (.int .u8 c.toNat))
    refine ⟨h', e3, ?_⟩
    have : (eB l).set i [.sc (.int .u8 c.toNat)] = eB (l.set i c) := by
      simp only [eB, List.map_set, byteCell]
    rw [← this]; exact e4

section
variable {z : Nat} {es : List (List CV)} {v : VV} {h : Heap}
theorem SlV.upto (hv : SlV z es v) {k : IntKind} {b : Int} (h2 : 0 ≤ b) (h3 : b ≤ es.length) :
    ∃ v', SlV z (es.take b.toNat) v' ∧ slO h z v none (some (vi k b)) none = some (v', h) := by
  rcases hv with ⟨rfl, rfl⟩ | ⟨ex, rfl⟩
  · have hb : b = 0 := by simp at h3; omega
    subst hb
    exact ⟨nilS, .inl ⟨rfl, by simp⟩, by simp [slO, stepI, rhoO, lenV, bnd, intV]⟩
  · refine ⟨.cv (.sl z (es.take b.toNat) (ex && b.toNat == es.length)), .inr ⟨_, rfl⟩, ?_⟩
    simp [slO, stepI, rhoO, lenV, bnd, intV, h2, h3]
theorem SlV.from_ (hv : SlV z es v) {k : IntKind} {a : Int} (h2 : 0 ≤ a) (h3 : a ≤ es.length) :
    ∃ v', SlV z (es.drop a.toNat) v' ∧ slO h z v (some (vi k a)) none none = some (v', h) := by
  rcases hv with ⟨rfl, rfl⟩ | ⟨ex, rfl⟩
  · have hb : a = 0 := by simp at h3; omega
    subst hb
    exact ⟨nilS, .inl ⟨rfl, by simp⟩, by simp [slO, stepI, rhoO, lenV, bnd, intV]⟩
  · refine ⟨.cv (.sl z (es.drop a.toNat) ex), .inr ⟨_, rfl⟩, ?_⟩
    have e : (es.drop a.toNat).take (es.length - a.toNat) = es.drop a.toNat := List.take_of_length_le (by simp)
    simp [slO, stepI, rhoO, lenV, bnd, intV, h2, h3, e]
end

end Go.Vm

/-
  Vm: more ways to go on, 2 (own work).
-/
namespace Go.Vm
open Go

section
variable {F : Nat → Option FnIR} {d : Option Nat} {x y : Opd} {r : List Op1} {c : Cl} {q : List (Op1 × Cl)} {s : List VV} {h : Heap} {Q : Pst}

theorem st_mks {z by_ : Nat} {zero : List CV} {k k' : IntKind} {a : Nat} (hx : evalO s x = vi k a) (hy : evalO s y = vi k' a) (h1 : a * by_ ≤ 35184372088832) (h2 : a ≤ 35184372088832) :
    stepI h (evalO s) (.mks z by_ zero x y true) = some (.own h.length 0 0 a true, h ++ [.arr z (List.replicate a zero) 0 false]) := by
  have hm : maxBytes = 35184372088832 := rfl
  have h3 : (a : Int) * (by_ : Int) ≤ 35184372088832 := by
    rw [← Int.natCast_mul]; omega
  have h4 : (a : Int) ≤ 35184372088832 := by omega
  simp [stepI, hx, hy, intV, hm, h3, h4]
theorem XO_mks {z by_ : Nat} {zero : List CV} {k k' : IntKind} {a : Nat} (hx : evalO s x = vi k a) (hy : evalO s y = vi k' a) (h1 : a * by_ ≤ 35184372088832) (h2 : a ≤ 35184372088832)
    (hk : XO F r ⟨putD s d (.own h.length 0 0 a true), h ++ [.arr z (List.replicate a zero) 0 false]⟩ Q) : XO F (⟨none, d, .mks z by_ zero x y true⟩ :: r) ⟨s, h⟩ Q := by
  rw [XO_ins rfl, st_mks hx hy h1 h2, XV_some]
  exact hk

end

/-- It ends here, and so: of the slots and the heap. -/
def NM2 (Mid : List VV → Heap → Prop) : Pst := fun o st => o = .norm ∧ Mid st.s st.h
theorem NM2_norm {Mid : List VV → Heap → Prop} {s : List VV} {h : Heap} : NM2 Mid .norm ⟨s, h⟩ ↔ Mid s h := ⟨fun h => h.2, fun h => ⟨rfl, h⟩⟩
/-- It ends here, or it goes out with a result. -/
def NR2 (Mid : List VV → Heap → Prop) (Q : Pst) : Pst := fun o st => match o with
  | .norm => Mid st.s st.h
  | o => Q o st
theorem NR2_norm {Mid : List VV → Heap → Prop} {Q : Pst} {s : List VV} {h : Heap} : NR2 Mid Q .norm ⟨s, h⟩ ↔ Mid s h := Iff.rfl
theorem NR2_ret {Mid : List VV → Heap → Prop} {Q : Pst} {st : St} : NR2 Mid Q .ret st ↔ Q .ret st := Iff.rfl
theorem NR2_exit {Mid : List VV → Heap → Prop} {Q : Pst} {st : St} {i : Nat} : NR2 Mid Q (.exit i) st ↔ Q (.exit i) st := Iff.rfl
theorem NR2_goto {Mid : List VV → Heap → Prop} {Q : Pst} {st : St} {i : Nat} : NR2 Mid Q (.goto i) st ↔ Q (.goto i) st := Iff.rfl
end Go.Vm

/-
  Vm: more ways to go on, 3 (own work).
-/
namespace Go.Vm
open Go

/-! ### operations that do not look at the heap -/

section
variable {F : Nat → Option FnIR} {d : Option Nat} {x y : Opd} {c : Cl} {q : List (Op1 × Cl)} {s : List VV} {h : Heap} {Q : Pst}
end

theorem XD_alloc {F : Nat → Option FnIR} {d : Option Nat} {q : List (Op1 × Cl)} {s : List VV} {h : Heap} {Q : Pst} {zero : List VV} : XD F ((⟨none, d, .alloc zero⟩, .k) :: q) ⟨s, h⟩ Q ↔ XD F q ⟨putD s d (.ptr h.length 0), h ++ [.box zero false]⟩ Q :=
  (XD_ins rfl).trans XVD_k

end Go.Vm

/-
  Vm: the rules by which a run is reckoned, for simp (own work).
-/
namespace Go.Vm
open Go
attribute [go_sem]
  NM2_norm NR2_norm NR2_ret NR2_exit NR2_goto
  XG_u XGD_u X_skip X_seq X_reg X_block X_scope X_exit X_goto X_ret X_label XO_mv XO_g XG_tt XG_tf XG_ft XG_ff XO_bin XO_cvI XO_pick XO_ext XO_len XO_mnmx XD_mv
  XD_g XGD_tt XGD_tf XGD_ft XGD_ff XD_bin XD_cvI XD_pick XD_ext XD_len XD_mnmx XD_mksl XD_iadL XD_ld XD_fad XD_nil XWD_some XVD_same XVD_k XO_alloc
  XO_st XD_st XO_box XO_mkslo XD_mkslo XO_mrk XD_mrk mr_0 XO_build st_0_2 st_0_3 st_l_2 st_l_3 ld_l_2 ld_l_3 ld_r_2 ld_r_3 ld_l_at Nat.zero_add bd_nil
  bd_2 bd_3 XD_build XO_fld XD_fld XO_cvBS XD_cvBS bs_sl bs_nil XO_cvSB XD_cvSB sb_txt XO_slL XD_slL Option.map_some Option.map_none XO_mksl XO_iadL
  XO_ld XO_fad ld_rptr fd_r fd_p fd_e List.drop_zero List.drop_succ_cons mkParts_nil mkParts_cons mkO_1 mkO_2 mk_agg2 mk_agg3 src_sl mmO_min mmO_max
  XW_some XV_some ln_nil ln_sl ln_own ln_str cvO_eq pkO_t pkO_f exO_eq evalO_t evalO_c putD_some putD_none slot_len slot_eq slot_ne ne_eq
  not_false_eq_true not_true_eq_false XO_nil RQ_0 RQ_0n RQ_1 RQ_2 RQ_3 K_norm K_exit K_goto K_ret K_pan B_norm B_exit B_goto B_ret B_pan S_norm S_exit
  S_ret S_pan X_cnd XB_true XB_false bin_add bin_sub bin_mul bin_and bin_or bin_shr bin_shl bin_quo bin_rem bin_eql bin_neq bin_lss bin_leq bin_gtr
  bin_geq bin_seql bin_sneq decide_true decide_false eq_self if_true if_false List.getElem?_cons_zero List.getElem?_cons_succ XO_eqb XD_eqb eqb_eq
  eqb_ne XO_un XD_un un_not NM_norm Bool.not_true Bool.not_false
end Go.Vm

/-
  Vm: pointers, arrays in boxes (own work).
-/
namespace Go.Vm
open Go

section
variable {F : Nat → Option FnIR} {d : Option Nat} {x y z : Opd} {r : List Op1} {c : Cl} {q : List (Op1 × Cl)} {s : List VV} {h : Heap} {Q : Pst}

def nkO (v : VV) : Option VV := match isNil v with
  | some false => match v with
    | .ptr _ _ | .eptr _ _ _ _ | .rptr _ | .func _ _ | .iface _ _ => some v
    | _ => none
  | _ => none
theorem st_nilck : stepI h (evalO s) (.nilck x) = (nkO (evalO s x)).map (·, h) := by
  simp only [stepI, nkO]
  generalize evalO s x = v
  cases isNil v with
  | none => rfl
  | some b => cases b <;> first | rfl | (cases v <;> rfl)
theorem XO_nilck : XO F (⟨none, d, .nilck x⟩ :: r) ⟨s, h⟩ Q ↔ XW F (nkO (evalO s x)) h d r s Q := XW_of rfl st_nilck
theorem XD_nilck : XD F ((⟨none, d, .nilck x⟩, c) :: q) ⟨s, h⟩ Q ↔ XWD F (nkO (evalO s x)) h d q s Q := XWD_of rfl st_nilck
theorem nk_p {a b : Nat} : nkO (.ptr a b) = some (.ptr a b) := rfl
theorem nk_e {a b e f : Nat} : nkO (.eptr a b e f) = some (.eptr a b e f) := rfl
theorem nk_r {l : List CV} : nkO (.rptr l) = some (.rptr l) := rfl

def enO (k : NK) (neg : Bool) (v : VV) : Option VV := (isNilK k v).map fun t => vb (if neg then !t else t)
theorem st_eqn {k : NK} {neg : Bool} : stepI h (evalO s) (.eqn k neg x) = (enO k neg (evalO s x)).map (·, h) := by
  simp only [stepI, enO]
  cases isNilK k (evalO s x) <;> rfl
theorem XO_eqn {k : NK} {neg : Bool} : XO F (⟨none, d, .eqn k neg x⟩ :: r) ⟨s, h⟩ Q ↔ XW F (enO k neg (evalO s x)) h d r s Q := XW_of rfl st_eqn
theorem XD_eqn {k : NK} {neg : Bool} : XD F ((⟨none, d, .eqn k neg x⟩, c) :: q) ⟨s, h⟩ Q ↔ XWD F (enO k neg (evalO s x)) h d q s Q := XWD_of rfl st_eqn
theorem en_p {neg : Bool} {a b : Nat} : enO .ptr neg (.ptr a b) = some (vb neg) := by cases neg <;> rfl
theorem en_pn {neg : Bool} : enO .ptr neg (.cv (.sc (.pointer none))) = some (vb (!neg)) := by cases neg <;> rfl
theorem en_so {neg : Bool} {id g off len : Nat} {ex : Bool} : enO .slice neg (.own id g off len ex) = some (vb neg) := by cases neg <;> rfl
theorem en_ss {neg : Bool} {z : Nat} {els : List (List CV)} {ex : Bool} : enO .slice neg (.cv (.sl z els ex)) = some (vb neg) := by cases neg <;> rfl
theorem en_sn {neg : Bool} : enO .slice neg nilS = some (vb (!neg)) := by cases neg <;> rfl

def saO (h : Heap) (n z : Nat) (v : VV) (lo hi : Option VV) : Option (VV × Heap) := stepI h (rhoO v .undef .undef) (.slA n z (.t 0) (lo.map .c) (hi.map .c))
theorem st_slA {n z : Nat} {lo hi : Option Opd} : stepI h (evalO s) (.slA n z x lo hi) = saO h n z (evalO s x) (lo.map (evalO s)) (hi.map (evalO s)) := by
  have hc : ∀ v, rhoO (evalO s x) .undef .undef (.c v) = v := fun _ => rfl
  simp only [saO, stepI]
  simp only [bnd_map hc lo, bnd_map hc hi]
  rfl
theorem XO_slA {n z : Nat} {lo hi : Option Opd} : XO F (⟨none, d, .slA n z x lo hi⟩ :: r) ⟨s, h⟩ Q ↔ XV F (saO h n z (evalO s x) (lo.map (evalO s)) (hi.map (evalO s))) d r s Q := by
  rw [XO_ins rfl, st_slA]
def cpO (h : Heap) (z : Nat) (v w : VV) : Option (VV × Heap) := stepI h (rhoO v w .undef) (.cpy z (.t 0) (.t 1))
theorem XO_cpy {z : Nat} : XO F (⟨none, d, .cpy z x y⟩ :: r) ⟨s, h⟩ Q ↔ XV F (cpO h z (evalO s x) (evalO s y)) d r s Q := XO_ins rfl
def iaAO (n z : Nat) (v w : VV) : Option VV := match intV w with
  | some j => if 0 ≤ j ∧ j < n then (match v with
    | .ptr id o => some (.ptr id (o + j.toNat * z))
    | .eptr id g k o => some (.eptr id g k (o + j.toNat * z))
    | .rptr cells => some (.rptr (cells.drop (j.toNat * z)))
    | _ => none) else none
  | none => none
theorem st_iadA {n z : Nat} : stepI h (evalO s) (.iadA n z x y) = (iaAO n z (evalO s x) (evalO s y)).map (·, h) := by
  simp only [stepI, iaAO]
  cases intV (evalO s y) with
  | none => rfl
  | some j =>
    simp only
    split
    · cases evalO s x <;> rfl
    · rfl
theorem XO_iadA {n z : Nat} : XO F (⟨none, d, .iadA n z x y⟩ :: r) ⟨s, h⟩ Q ↔ XW F (iaAO n z (evalO s x) (evalO s y)) h d r s Q := XW_of rfl st_iadA
theorem XD_iadA {n z : Nat} : XD F ((⟨none, d, .iadA n z x y⟩, c) :: q) ⟨s, h⟩ Q ↔ XWD F (iaAO n z (evalO s x) (evalO s y)) h d q s Q := XWD_of rfl st_iadA
theorem XO_mkfn {f : Nat} {caps : List Opd} : XO F (⟨none, d, .mkfn f caps⟩ :: r) ⟨s, h⟩ Q ↔ XO F r ⟨putD s d (.func f (caps.map (evalO s))), h⟩ Q := XO_step rfl rfl

/-- A call of a value in the caller's heap. -/
theorem XO_callvR {x : Opd} {f : Nat} {caps : List VV} {args : List Opd} {v : VV} {h' : Heap} (hx : evalO s x = .func f caps) (hcall : call F f (args.map (evalO s) ++ caps) h = some (.ret v, h')) (hk : XO F r ⟨putD s d v, h'⟩ Q) (hf : f < YB := by decide) :
    XO F (⟨none, d, .callv false x args⟩ :: r) ⟨s, h⟩ Q := by
  refine (XO_callv (v := v) (h' := h') hx ?_ hf).mpr hk
  unfold doCall
  simpa using hcall
end

section
variable {h : Heap}
theorem ld_ecells {n id g i z : Nat} {els : List (List CV)} {fr : Bool} {e : List CV} (ho : h[id]? = some (.arr z els g fr)) (he : els[i]? = some e) (hn : e.length = n) : ldO h true n (.eptr id g i 0) = some (.agg (e.map .cv), h) := by
  subst hn
  simp [ldO, stepI, rhoO, ho, he, ldCells]
theorem st_e1 {id g i off z : Nat} {els : List (List CV)} {e : List CV} {c : CV} (ho : h[id]? = some (.arr z els g false)) (he : els[i]? = some e) (hl : off < e.length) :
    stO h 1 (.eptr id g i off) (.cv c) = some (.undef, h.set id (.arr z (els.set i (e.set off c)) g false)) := by
  have hsp : splice e off [c] = e.set off c := by
    unfold splice
    simp only [List.length_singleton]
    rw [List.set_eq_take_append_cons_drop, if_pos hl, List.append_assoc, List.singleton_append]
  have h1 : off + 1 ≤ e.length := hl
  simp [stO, stepI, rhoO, cellsOf, closL, clos, ho, he, h1, hsp]
end

attribute [go_sem] XO_nilck XD_nilck nk_p nk_e nk_r XO_eqn XD_eqn en_p en_pn en_so en_ss en_sn XO_slA XO_cpy XO_iadA XD_iadA XO_mkfn XD_alloc

end Go.Vm

/-
  Vm: a region that draws its order, of which some operations look at one of several heaps: what must hold ahead of it (own work).
-/
set_option linter.unusedSimpArgs false
set_option linter.unusedVariables false
namespace Go.Vm
open Go

section
variable {F : Nat → Option FnIR} {P : Heap → Prop} {d : Option Nat} {r : List (Op1 × Cl)} {s : List VV} {h : Heap} {Q : St → Prop}
end
end Go.Vm

/-
  Vm: heaps that grow; slices that grow in them; bytes in a box (own work).
-/
set_option linter.unusedSimpArgs false
set_option linter.unusedVariables false
namespace Go.Vm
open Go

theorem lt_at {h : Heap} {i : Nat} {o : VO} (e : h[i]? = some o) : i < h.length := (List.getElem?_eq_some_iff.1 e).1

/-- The heap has grown; what was there is as it was. -/
structure HExt (h h' : Heap) : Prop where
  len : h.length ≤ h'.length
  same : ∀ j, j < h.length → h'[j]? = h[j]?
theorem HExt.refl (h : Heap) : HExt h h := ⟨Nat.le_refl _, fun _ _ => rfl⟩
theorem HExt.trans {h h1 h2 : Heap} (a : HExt h h1) (b : HExt h1 h2) : HExt h h2 := ⟨Nat.le_trans a.len b.len, fun j hj => by rw [b.same j (Nat.lt_of_lt_of_le hj a.len), a.same j hj]⟩
theorem HExt.push (h : Heap) (o : VO) : HExt h (h ++ [o]) := ⟨by simp, fun j hj => by rw [List.getElem?_append_left hj]⟩
theorem HExt.then {h h1 : Heap} (a : HExt h h1) (o : VO) : HExt h (h1 ++ [o]) := a.trans (HExt.push _ _)
theorem HExt.get {h h' : Heap} (e : HExt h h') {j : Nat} {o : VO} (hj : h[j]? = some o) : h'[j]? = some o := by rw [e.same j (lt_at hj), hj]
theorem HExt.set {h h' : Heap} (e : HExt h h') {i : Nat} (hi : h.length ≤ i) (o : VO) : HExt h (h'.set i o) := ⟨by rw [List.length_set]; exact e.len, fun j hj => by rw [List.getElem?_set_ne (by omega)]; exact e.same j hj⟩
theorem HExt.nil (h : Heap) : HExt [] h := ⟨Nat.zero_le _, fun j hj => absurd hj (Nat.not_lt_zero _)⟩

/-- A call gives a result. -/
def Ret (F : Nat → Option FnIR) (n : Nat) (args : List VV) (h : Heap) (P : VV → Heap → Prop) : Prop := ∃ v h', call F n args h = some (.ret v, h') ∧ P v h'
/-- A call of closed values gives a closed result. -/
def RetP (F : Nat → Option FnIR) (n : Nat) (args : List VV) (P : VV → Prop) : Prop := Ret F n args [] fun v h' => ∃ w, closRes h' v = some w ∧ P w

/-- A slice that grows behind a heap. -/
structure NB (h0 h : Heap) (z : Nat) (els : List (List CV)) (v : VV) : Prop where
  ext : HExt h0 h
  v : (els = [] ∧ v = nilS) ∨ ∃ id g, h0.length ≤ id ∧ v = .own id g 0 els.length false ∧ h[id]? = some (.arr z els g false)
section
variable {h0 h h' : Heap} {z : Nat} {els new : List (List CV)} {v : VV}
theorem NB.nil (h : Heap) (z : Nat) : NB h h z [] nilS := ⟨HExt.refl h, .inl ⟨rfl, rfl⟩⟩
theorem NB.then (b : NB h0 h z els v) (e : HExt h h') : NB h0 h' z els v := by
  refine ⟨b.ext.trans e, ?_⟩
  rcases b.v with x | ⟨id, g, a1, a3, a4⟩
  · exact .inl x
  · exact .inr ⟨id, g, a1, a3, e.get a4⟩
theorem NB.ln (b : NB h0 h z els v) : lnO false v = some (vi .i64 els.length) := by
  rcases b.v with ⟨rfl, rfl⟩ | ⟨id, g, _, rfl, _⟩ <;> rfl
theorem NB.src (b : NB h0 h z els v) : srcOf h z v = some els := by
  rcases b.v with ⟨rfl, rfl⟩ | ⟨id, g, _, rfl, a4⟩
  · rfl
  · simp [srcOf, elsOf, a4]
theorem NB.cell (b : NB h0 h z els v) : isCell v = true := by
  rcases b.v with ⟨_, rfl⟩ | ⟨_, _, _, rfl, _⟩ <;> rfl
/-- Its elements, closed. -/
theorem NB.clos (b : NB h0 h z els v) : ∃ w h1, closA h v = some (w, h1) ∧ SlV z els w := by
  rcases b.v with ⟨rfl, rfl⟩ | ⟨id, g, _, rfl, a4⟩
  · exact ⟨nilS, h, rfl, .inl ⟨rfl, rfl⟩⟩
  · exact ⟨.cv (.sl z els false), _, by simp [closA, Go.Vm.clos, a4]; rfl, .inr ⟨false, rfl⟩⟩
theorem NB.res (b : NB h0 h z els v) : ∃ w, closRes h v = some w ∧ SlV z els w := by
  rcases b.v with ⟨rfl, rfl⟩ | ⟨id, g, _, rfl, a4⟩
  · exact ⟨nilS, rfl, .inl ⟨rfl, rfl⟩⟩
  · exact ⟨.cv (.sl z els false), by simp [closRes, closA, Go.Vm.clos, a4], .inr ⟨false, rfl⟩⟩
theorem NB.ia (b : NB h0 h z els v) {k : IntKind} {j : Nat} (hj : j < els.length) : ∃ id g, v = .own id g 0 els.length false ∧ h[id]? = some (.arr z els g false) ∧ iaO h z v (vi k (j : Int)) = some (.eptr id g j 0, h) := by
  rcases b.v with ⟨rfl, rfl⟩ | ⟨id, g, _, rfl, a4⟩
  · simp at hj
  · exact ⟨id, g, rfl, a4, by rw [ia_own (by omega) a4 (by simpa using hj)]; simp⟩

end

/-! ### bytes in a box -/
theorem mk_4 {h : Heap} {z0 z1 z2 z3 a b c d : CV} : mkO h 1 4 [.cv z0, .cv z1, .cv z2, .cv z3] [(0, 1, .cv a), (1, 1, .cv b), (2, 1, .cv c), (3, 1, .cv d)] = some (.cv (.sl 1 [[a], [b], [c], [d]] true), h) := rfl
/-- A byte of an array is written. -/
theorem st_bA {h : Heap} {id g j : Nat} {b : List UInt8} {x : UInt8} (hb : h[id]? = some (.arr 1 (eB b) g false)) (hj : j < b.length) :
    stO h 1 (.eptr id g j 0) (vi .u8 x.toNat) = some (.undef, h.set id (.arr 1 (eB (b.set j x)) g false)) := by
  have he : (eB b)[j]? = some (byteCell b[j]) := by simp [eB, hj]
  rw [st_e1 hb he (by simp [byteCell])]
  have : (eB b).set j ((byteCell b[j]).set 0 (.sc (.int .u8 x.toNat))) = eB (b.set j x) := by simp [eB, List.map_set, byteCell]
  rw [this]
theorem ia_bA {h : Heap} {id g j n : Nat} {b : List UInt8} {ex : Bool} {k : IntKind} (hb : h[id]? = some (.arr 1 (eB b) g false)) (hj : j < n) : iaO h 1 (.own id g 0 n ex) (vi k (j : Int)) = some (.eptr id g j 0, h) := by
  rw [ia_own (by omega) hb (by simpa using hj)]; simp
theorem ld_rN {h : Heap} {n : Nat} {e : List CV} (he : e.length = n) : ldO h true n (.rptr e) = some (.agg (e.map .cv), h) := by
  have : e.take n = e := List.take_of_length_le (by omega)
  simp [ldO, stepI, rhoO, ldCells, this, he]
end Go.Vm

/-
  Vm: slices that are read, written no more (own work).
-/
set_option linter.unusedSimpArgs false
set_option linter.unusedVariables false
namespace Go.Vm
open Go

/-- A slice that is read, whether it is written any more or not. -/
def NF (h : Heap) (z : Nat) (els : List (List CV)) (v : VV) : Prop := SlV z els v ∨ ∃ id g ex fr, v = .own id g 0 els.length ex ∧ h[id]? = some (.arr z els g fr)
section
variable {h h' : Heap} {z : Nat} {els : List (List CV)} {v : VV}
theorem NF.ln (b : NF h z els v) : lnO false v = some (vi .i64 els.length) := by
  rcases b with b | ⟨id, g, ex, fr, rfl, _⟩
  · exact b.ln
  · rfl
theorem NF.ext (b : NF h z els v) (e : HExt h h') : NF h' z els v := by
  rcases b with b | ⟨id, g, ex, fr, rfl, a⟩
  · exact .inl b
  · exact .inr ⟨id, g, ex, fr, rfl, e.get a⟩
theorem NF.src (b : NF h z els v) : srcOf h z v = some els := by
  rcases b with b | ⟨id, g, ex, fr, rfl, a⟩
  · exact b.src
  · simp [srcOf, elsOf, a]
/-- All else stays as it is when it is closed; what it is of is written no more. -/
structure Froze (h h1 : Heap) : Prop where
  len : h1.length = h.length
  box : ∀ (j : Nat) (o : VO), h[j]? = some o → (∀ z e g fr, o ≠ .arr z e g fr) → h1[j]? = some o
  arr : ∀ (j : Nat) (z : Nat) (e : List (List CV)) (g : Nat) fr, h[j]? = some (.arr z e g fr) → ∃ fr', h1[j]? = some (.arr z e g fr')
theorem Froze.refl (h : Heap) : Froze h h := ⟨rfl, fun _ _ e _ => e, fun _ _ _ _ fr e => ⟨fr, e⟩⟩
theorem Froze.trans {h1 h2 : Heap} (a : Froze h h1) (b : Froze h1 h2) : Froze h h2 := by
  refine ⟨by rw [b.len, a.len], fun j o e hn => b.box j o (a.box j o e hn) hn, fun j z e g fr hj => ?_⟩
  obtain ⟨fr', e'⟩ := a.arr j z e g fr hj
  exact b.arr j z e g fr' e'
theorem NF.clos (b : NF h z els v) : ∃ w h1, closA h v = some (w, h1) ∧ SlV z els w ∧ Froze h h1 := by
  rcases b with b | ⟨id, g, ex, fr, rfl, a⟩
  · refine ⟨v, h, ?_, b, Froze.refl h⟩
    rcases b with ⟨rfl, rfl⟩ | ⟨ex, rfl⟩ <;> rfl
  · refine ⟨.cv (.sl z els ex), h.set id (.arr z els g true), by simp [closA, Go.Vm.clos, a], .inr ⟨ex, rfl⟩, by simp, fun j o e hn => ?_, fun j z' e' g' fr' hj => ?_⟩
    · rw [List.getElem?_set_ne (by rintro rfl; rw [a] at e; cases e; exact hn _ _ _ _ rfl)]; exact e
    · by_cases hij : id = j
      · subst hij
        rw [a] at hj; cases hj
        exact ⟨true, by rw [List.getElem?_set_self (lt_at a)]⟩
      · exact ⟨fr', by rw [List.getElem?_set_ne hij]; exact hj⟩
/-- An element is looked at. -/
theorem NF.at_ (b : NF h z els v) {k : IntKind} {j : Nat} {e : List CV} (he : els[j]? = some e) : ∃ p, iaO h z v (vi k (j : Int)) = some (p, h) ∧ (p = .rptr e ∨ ∃ id g fr, p = .eptr id g j 0 ∧ h[id]? = some (.arr z els g fr)) := by
  have hj := (List.getElem?_eq_some_iff.1 he).1
  rcases b with b | ⟨id, g, ex, fr, rfl, a⟩
  · exact ⟨.rptr e, b.ia (by omega) (by simpa using he), .inl rfl⟩
  · exact ⟨.eptr id g j 0, by rw [ia_own (by omega) a (by simpa using hj)]; simp, .inr ⟨id, g, fr, rfl, a⟩⟩
/-- Its cells, by their places. -/
theorem NF.cell (b : NF h z els v) {k : IntKind} {j : Nat} {e : List CV} (he : els[j]? = some e) : ∃ p, iaO h z v (vi k (j : Int)) = some (p, h) ∧ (∀ n, e.length = n → ldO h true n p = some (.agg (e.map .cv), h)) ∧ (∀ off c, e[off]? = some c → ∃ q, fdO off p = some q ∧ ldO h false 1 q = some (.cv c, h)) ∧ (∀ c r, e = c :: r → ldO h false 1 p = some (.cv c, h)) := by
  obtain ⟨p, h1, h2⟩ := b.at_ (k := k) he
  refine ⟨p, h1, ?_⟩
  rcases h2 with rfl | ⟨id, g, fr, rfl, a⟩
  · refine ⟨fun n hn => ld_rN hn, fun off c hc => ⟨.rptr (e.drop off), rfl, ?_⟩, fun c r hc => by subst hc; exact ld_rptr⟩
    obtain ⟨hlt, e1⟩ := List.getElem?_eq_some_iff.1 hc
    rw [List.drop_eq_getElem_cons hlt, e1]
    exact ld_rptr
  · refine ⟨fun n hn => ld_ecells a he hn, fun off c hc => ⟨.eptr id g j (0 + off), rfl, ?_⟩, fun c r hc => ld_eptr a he (by subst hc; rfl)⟩
    rw [Nat.zero_add]; exact ld_eptr a he hc
end
end Go.Vm

/-
  Vm: the front of a slice that grew (own work).
-/
set_option linter.unusedSimpArgs false
set_option linter.unusedVariables false
namespace Go.Vm
open Go

/-- A byte of what grew is written. -/
theorem NB.put {h0 h : Heap} {b : List UInt8} {v : VV} (hv : NB h0 h 1 (eB b) v) {j : Nat} (x : UInt8) {k : IntKind} (hj : j < b.length) :
    ∃ p h', iaO h 1 v (vi k (j : Int)) = some (p, h) ∧ stO h 1 p (vi .u8 x.toNat) = some (.undef, h') ∧ NB h0 h' 1 (eB (b.set j x)) v := by
  have hl : (eB b).length = b.length := eB_len
  rcases hv.v with ⟨e, rfl⟩ | ⟨id, g, hid, rfl, a4⟩
  · exfalso; rw [← hl, e] at hj; simp at hj
  · refine ⟨_, _, ia_bA (k := k) a4 (by omega), st_bA (x := x) a4 hj, hv.ext.set hid _, .inr ⟨id, g, hid, ?_, ?_⟩⟩
    · rw [hl, eB_len, List.length_set]
    · rw [List.getElem?_set_self (lt_at a4)]
end Go.Vm

/-
  Vm: views: slices that are read, wherever they begin and end (own work).
-/
set_option linter.unusedSimpArgs false
set_option linter.unusedVariables false
namespace Go.Vm
open Go

/-- A slice that is read: closed, or a part of an array, that is written any more or not. -/
def VF (h : Heap) (z : Nat) (els : List (List CV)) (v : VV) : Prop :=
  SlV z els v ∨ ∃ id g off ex fr full, v = .own id g off els.length ex ∧ h[id]? = some (.arr z full g fr) ∧ off + els.length ≤ full.length ∧ els = (full.drop off).take els.length
section
variable {h h' : Heap} {z : Nat} {els : List (List CV)} {v : VV}
theorem VF.ln (b : VF h z els v) : lnO false v = some (vi .i64 els.length) := by
  rcases b with b | ⟨id, g, off, ex, fr, full, rfl, _⟩
  · exact b.ln
  · rfl
theorem VF.ext (b : VF h z els v) (e : HExt h h') : VF h' z els v := by
  rcases b with b | ⟨id, g, off, ex, fr, full, rfl, a, a2⟩
  · exact .inl b
  · exact .inr ⟨id, g, off, ex, fr, full, rfl, e.get a, a2⟩
/-- .. whatever happens to what is no array. -/
theorem VF.keep {h1 : Heap} (b : VF h z els v) (k : ∀ (j : Nat) (z : Nat) (e : List (List CV)) (g : Nat) fr, h[j]? = some (.arr z e g fr) → ∃ fr', h1[j]? = some (.arr z e g fr')) : VF h1 z els v := by
  rcases b with b | ⟨id, g, off, ex, fr, full, rfl, a, a2⟩
  · exact .inl b
  · obtain ⟨fr', e⟩ := k id z full g fr a
    exact .inr ⟨id, g, off, ex, fr', full, rfl, e, a2⟩
theorem VF.src (b : VF h z els v) : srcOf h z v = some els := by
  rcases b with b | ⟨id, g, off, ex, fr, full, rfl, a, a2, a3⟩
  · exact b.src
  · simp [srcOf, elsOf, a, a2]; exact a3.symm
theorem VF.clos (b : VF h z els v) : ∃ w h1, closA h v = some (w, h1) ∧ SlV z els w ∧ Froze h h1 := by
  rcases b with b | ⟨id, g, off, ex, fr, full, rfl, a, a2, a3⟩
  · refine ⟨v, h, ?_, b, Froze.refl h⟩
    rcases b with ⟨rfl, rfl⟩ | ⟨ex, rfl⟩ <;> rfl
  · refine ⟨.cv (.sl z els ex), h.set id (.arr z full g true), by simp [closA, Go.Vm.clos, a, a2]; exact a3.symm, .inr ⟨ex, rfl⟩, by simp, fun j o e hn => ?_, fun j z' e' g' fr' hj => ?_⟩
    · rw [List.getElem?_set_ne (by rintro rfl; rw [a] at e; cases e; exact hn _ _ _ _ rfl)]; exact e
    · by_cases hij : id = j
      · subst hij
        rw [a] at hj; cases hj
        exact ⟨true, by rw [List.getElem?_set_self (lt_at a)]⟩
      · exact ⟨fr', by rw [List.getElem?_set_ne hij]; exact hj⟩
theorem VF.upto (b : VF h z els v) {k : IntKind} {n : Nat} (hn : n ≤ els.length) : ∃ w, slO h z v none (some (vi k (n : Int))) none = some (w, h) ∧ VF h z (els.take n) w := by
  rcases b with b | ⟨id, g, off, ex, fr, full, rfl, a, a2, a3⟩
  · obtain ⟨w, h1, h2⟩ := b.upto (h := h) (k := k) (b := (n : Int)) (by omega) (by omega)
    rw [Int.toNat_natCast] at h1
    exact ⟨w, h2, .inl h1⟩
  · have c1 : (n : Int) ≤ (els.length : Int) := by omega
    have hl : (els.take n).length = n := by rw [List.length_take]; omega
    refine ⟨_, by simp [slO, stepI, rhoO, lenV, bnd, intV, c1, a]; rfl, .inr ⟨id, g, off, _, fr, full, by rw [hl], a, by omega, ?_⟩⟩
    rw [hl]
    conv => lhs; rw [a3]
    rw [List.take_take]
    congr 1; omega
theorem VF.from_ (b : VF h z els v) {k : IntKind} {n : Nat} (hn : n ≤ els.length) : ∃ w, slO h z v (some (vi k (n : Int))) none none = some (w, h) ∧ VF h z (els.drop n) w := by
  rcases b with b | ⟨id, g, off, ex, fr, full, rfl, a, a2, a3⟩
  · obtain ⟨w, h1, h2⟩ := b.from_ (h := h) (k := k) (a := (n : Int)) (by omega) (by omega)
    rw [Int.toNat_natCast] at h1
    exact ⟨w, h2, .inl h1⟩
  · have c1 : (n : Int) ≤ (els.length : Int) := by omega
    have hl : (els.drop n).length = els.length - n := by rw [List.length_drop]
    refine ⟨_, by simp [slO, stepI, rhoO, lenV, bnd, intV, c1, a]; rfl, .inr ⟨id, g, off + n, _, fr, full, by rw [hl], a, by omega, ?_⟩⟩
    rw [hl]
    conv => lhs; rw [a3]
    rw [List.drop_take, List.drop_drop]
/-- An element is looked at: its cells, by their places. -/
theorem VF.cell (b : VF h z els v) {k : IntKind} {j : Nat} {e : List CV} (he : els[j]? = some e) : ∃ p, iaO h z v (vi k (j : Int)) = some (p, h) ∧ (∀ n, e.length = n → ldO h true n p = some (.agg (e.map .cv), h)) ∧ (∀ off c, e[off]? = some c → ∃ q, fdO off p = some q ∧ ldO h false 1 q = some (.cv c, h)) ∧ (∀ c r, e = c :: r → ldO h false 1 p = some (.cv c, h)) := by
  have hj := (List.getElem?_eq_some_iff.1 he).1
  rcases b with b | ⟨id, g, off, ex, fr, full, rfl, a, a2, a3⟩
  · exact (show NF h z els v from .inl b).cell (k := k) he
  · have hf : full[off + j]? = some e := by
      have h2 : ((full.drop off).take els.length)[j]? = some e := by rw [← a3]; exact he
      rw [List.getElem?_take, if_pos hj, List.getElem?_drop] at h2
      exact h2
    refine ⟨.eptr id g (off + j) 0, by rw [ia_own (by omega) a (by simpa using hj)]; simp, fun n hn => ld_ecells a hf hn, fun o c hc => ⟨.eptr id g (off + j) (0 + o), rfl, by rw [Nat.zero_add]; exact ld_eptr a hf hc⟩, fun c r hc => ld_eptr a hf (by subst hc; rfl)⟩
theorem VF.nil : VF h z [] nilS := .inl (.inl ⟨rfl, rfl⟩)
end
end Go.Vm

/-
  The order of texts (own work).
-/
set_option linter.unusedSimpArgs false
set_option linter.unusedVariables false
namespace Go.Vm
open Go

end Go.Vm

/-
  Vm: what is written no more; slices that grow, step by step (own work).
-/
set_option linter.unusedSimpArgs false
set_option linter.unusedVariables false
namespace Go.Vm
open Go

/-- A slice that is read, written no more. -/
def VZ (h : Heap) (z : Nat) (els : List (List CV)) (v : VV) : Prop :=
  SlV z els v ∨ ∃ id g off ex full, v = .own id g off els.length ex ∧ h[id]? = some (.arr z full g true) ∧ off + els.length ≤ full.length ∧ els = (full.drop off).take els.length
/-- What is written no more stays. -/
def KZ (h h' : Heap) : Prop := ∀ (j z : Nat) (e : List (List CV)) (g : Nat), h[j]? = some (.arr z e g true) → h'[j]? = some (.arr z e g true)
/-- All but what grows stays. -/
def KG (z : Nat) (h h' : Heap) : Prop := h.length ≤ h'.length ∧ ∀ (j : Nat) (o : VO), h[j]? = some o → (∀ e g, o ≠ VO.arr z e g false) → h'[j]? = some o
theorem KZ.refl (h : Heap) : KZ h h := fun _ _ _ _ e => e
theorem KZ.trans {a b c : Heap} (x : KZ a b) (y : KZ b c) : KZ a c := fun j z e g hj => y j z e g (x j z e g hj)
theorem KG.kz {z : Nat} {h h' : Heap} (k : KG z h h') : KZ h h' := fun j z' e g hj => k.2 j _ hj (fun e' g' hh => by cases hh)
theorem KG.box {z : Nat} {h h' : Heap} (k : KG z h h') {j : Nat} {cells : List VV} {fr : Bool} (hj : h[j]? = some (.box cells fr)) : h'[j]? = some (.box cells fr) := k.2 j _ hj (fun e' g' hh => by cases hh)
theorem KG.loop {z : Nat} {h h' : Heap} (k : KG z h h') {j : Nat} {ps : List Nat} {a b : IR} {s : List VV} {t : LoopState} {p : Option Jmp} (hj : h[j]? = some (.loop ps a b s t p)) : h'[j]? = some (.loop ps a b s t p) := k.2 j _ hj (fun e' g' hh => by cases hh)
theorem HExt.kz {h h' : Heap} (e : HExt h h') : KZ h h' := fun j z l g hj => e.get hj
theorem KZ.setLoop (h : Heap) {i : Nat} {ps : List Nat} {a b : IR} {s : List VV} {t : LoopState} {p : Option Jmp} (hb : h[i]? = some (.loop ps a b s t p)) (o : VO) : KZ h (h.set i o) := fun j z e g hj => by
  rw [List.getElem?_set_ne (by rintro rfl; rw [hb] at hj; cases hj)]; exact hj
theorem BufG.hext {h h' : Heap} {z : Nat} {els : List (List CV)} {v : VV} (b : BufG h z els v) (k : HExt h h') : BufG h' z els v := by
  rcases b with b | ⟨id, g, hne, h1, h2⟩
  · exact .inl b
  · exact .inr ⟨id, g, hne, h1, k.get h2⟩
theorem BufG.setLoop {h : Heap} {z : Nat} {els : List (List CV)} {v : VV} (hb : BufG h z els v) {i : Nat} {ps : List Nat} {a b : IR} {s : List VV} {t : LoopState} {p : Option Jmp} (ho : h[i]? = some (.loop ps a b s t p)) (o : VO) : BufG (h.set i o) z els v := by
  rcases hb with b | ⟨id, g, hne, h1, h2⟩
  · exact .inl b
  · exact .inr ⟨id, g, hne, h1, by rw [List.getElem?_set_ne (by rintro rfl; rw [ho] at h2; cases h2)]; exact h2⟩
theorem ld_p0 {h : Heap} {id : Nat} {v : VV} {fr : Bool} (ho : h[id]? = some (.box [v] fr)) : ldO h false 1 (.ptr id 0) = some (v, h) := ld_ptr ho rfl
section
variable {h h' : Heap} {z : Nat} {els : List (List CV)} {v : VV}
theorem VZ.kz (b : VZ h z els v) (k : KZ h h') : VZ h' z els v := by
  rcases b with b | ⟨id, g, off, ex, full, h1, h2, h3⟩
  · exact .inl b
  · exact .inr ⟨id, g, off, ex, full, h1, k _ _ _ _ h2, h3⟩
theorem set_at_same {h : Heap} {i : Nat} {o : VO} (e : h[i]? = some o) : h.set i o = h := by
  apply List.ext_getElem?
  intro j
  by_cases hj : i = j
  · subst hj; rw [List.getElem?_set_self (lt_at e), e]
  · rw [List.getElem?_set_ne hj]
theorem VZ.clos (b : VZ h z els v) : ∃ w, closA h v = some (w, h) ∧ SlV z els w := by
  rcases b with b | ⟨id, g, off, ex, full, rfl, a, a2, a3⟩
  · refine ⟨v, ?_, b⟩
    rcases b with ⟨rfl, rfl⟩ | ⟨ex, rfl⟩ <;> rfl
  · refine ⟨.cv (.sl z els ex), ?_, .inr ⟨ex, rfl⟩⟩
    have hs := set_at_same a
    simp [closA, Go.Vm.clos, a, a2, hs]
    exact a3.symm
theorem VZ.upto (b : VZ h z els v) {k : IntKind} {n : Nat} (hn : n ≤ els.length) : ∃ w, slO h z v none (some (vi k (n : Int))) none = some (w, h) ∧ VZ h z (els.take n) w := by
  rcases b with b | ⟨id, g, off, ex, full, rfl, a, a2, a3⟩
  · obtain ⟨w, h1, h2⟩ := b.upto (h := h) (k := k) (b := (n : Int)) (by omega) (by omega)
    rw [Int.toNat_natCast] at h1
    exact ⟨w, h2, .inl h1⟩
  · have c1 : (n : Int) ≤ (els.length : Int) := by omega
    have hl : (els.take n).length = n := by rw [List.length_take]; omega
    refine ⟨_, by simp [slO, stepI, rhoO, lenV, bnd, intV, c1, a]; rfl, .inr ⟨id, g, off, _, full, by rw [hl], a, by omega, ?_⟩⟩
    rw [hl]
    conv => lhs; rw [a3]
    rw [List.take_take]
    congr 1; omega
theorem VZ.from_ (b : VZ h z els v) {k : IntKind} {n : Nat} (hn : n ≤ els.length) : ∃ w, slO h z v (some (vi k (n : Int))) none none = some (w, h) ∧ VZ h z (els.drop n) w := by
  rcases b with b | ⟨id, g, off, ex, full, rfl, a, a2, a3⟩
  · obtain ⟨w, h1, h2⟩ := b.from_ (h := h) (k := k) (a := (n : Int)) (by omega) (by omega)
    rw [Int.toNat_natCast] at h1
    exact ⟨w, h2, .inl h1⟩
  · have c1 : (n : Int) ≤ (els.length : Int) := by omega
    have hl : (els.drop n).length = els.length - n := by rw [List.length_drop]
    refine ⟨_, by simp [slO, stepI, rhoO, lenV, bnd, intV, c1, a]; rfl, .inr ⟨id, g, off + n, _, full, by rw [hl], a, by omega, ?_⟩⟩
    rw [hl]
    conv => lhs; rw [a3]
    rw [List.drop_take, List.drop_drop]
end
end Go.Vm

/-
  Vm: slices that shrink and grow again (own work).
-/
set_option linter.unusedSimpArgs false
set_option linter.unusedVariables false
namespace Go.Vm
open Go

/-! ### slices that grow again -/
/-- A slice that may be appended to: nothing; an empty one without room; the front of an array of the frame's own. -/
structure PB (h0 h : Heap) (z : Nat) (els : List (List CV)) (v : VV) : Prop where
  ext : HExt h0 h
  v : (els = [] ∧ v = nilS) ∨ (els = [] ∧ v = .cv (.sl z [] true)) ∨ ∃ id g full, h0.length ≤ id ∧ v = .own id g 0 els.length false ∧ h[id]? = some (.arr z full g false) ∧ els.length ≤ full.length ∧ els = full.take els.length
section
variable {h0 h h' : Heap} {z : Nat} {els new : List (List CV)} {v : VV}
theorem PB.then (b : PB h0 h z els v) (e : HExt h h') : PB h0 h' z els v := by
  refine ⟨b.ext.trans e, ?_⟩
  rcases b.v with x | x | ⟨id, g, full, a1, rfl, a2, a3, a4⟩
  · exact .inl x
  · exact .inr (.inl x)
  · exact .inr (.inr ⟨id, g, full, a1, rfl, e.get a2, a3, a4⟩)
end

end Go.Vm

/-
  Vm: texts: parts, bytes; calls of what is told by hand (own work).
-/
namespace Go.Vm
open Go

/-- A part of a text. -/
def ssO (v : VV) (lo hi : Option VV) : Option VV := match v with
  | .cv (.sc (.string s)) => match bndV hi s.size s.size with
    | some b => match bndV lo 0 b with
      | some a => some (.cv (.sc (.string ⟨((s.data.toList.drop a).take (b - a)).toArray⟩)))
      | none => none
    | none => none
  | _ => none
theorem bnd_bndV {ρ : Opd → VV} (o : Option Opd) (a b : Nat) : bnd ρ o a b = bndV (o.map ρ) a b := by cases o <;> rfl

section
variable {F : Nat → Option FnIR} {d : Option Nat} {x y : Opd} {r : List Op1} {c : Cl} {q : List (Op1 × Cl)} {s : List VV} {h : Heap} {Q : Pst}
theorem st_slS {lo hi : Option Opd} : stepI h (evalO s) (.slS x lo hi) = (ssO (evalO s x) (lo.map (evalO s)) (hi.map (evalO s))).map (·, h) := by
  simp only [stepI, bnd_bndV]
  generalize evalO s x = v
  cases v with
  | cv c => cases c with
    | sc u =>
      cases u with
      | string t =>
        simp only [ssO]
        cases bndV (hi.map (evalO s)) t.size t.size with
        | none => rfl
        | some b => simp only; cases bndV (lo.map (evalO s)) 0 b <;> rfl
      | _ => rfl
    | sl _ _ _ => rfl
  | _ => rfl
theorem XO_slS {lo hi : Option Opd} : XO F (⟨none, d, .slS x lo hi⟩ :: r) ⟨s, h⟩ Q ↔ XW F (ssO (evalO s x) (lo.map (evalO s)) (hi.map (evalO s))) h d r s Q := XW_of rfl st_slS
theorem XD_slS {lo hi : Option Opd} : XD F ((⟨none, d, .slS x lo hi⟩, c) :: q) ⟨s, h⟩ Q ↔ XWD F (ssO (evalO s x) (lo.map (evalO s)) (hi.map (evalO s))) h d q s Q := XWD_of rfl st_slS

/-- A text's byte. -/
def ixSO (v w : VV) : Option VV := match w, v with
  | .cv (.sc (.int _ j)), .cv (.sc (.string s)) => if 0 ≤ j then (match s.data.toList[j.toNat]? with
    | some b => some (.cv (.sc (.int .u8 b.toNat)))
    | none => none) else none
  | _, _ => none
theorem st_ixS : stepI h (evalO s) (.ixS x y) = (ixSO (evalO s x) (evalO s y)).map (·, h) := by
  simp only [stepI]
  generalize evalO s x = v
  generalize evalO s y = w
  cases w with
  | cv c => cases c with
    | sc u =>
      cases u with
      | int k j =>
        cases v with
        | cv c' => cases c' with
          | sc u' =>
            cases u' with
            | string t =>
              simp only [intV, ixSO]
              split
              · cases t.data.toList[j.toNat]? <;> rfl
              · rfl
            | _ => rfl
          | sl _ _ _ => rfl
        | _ => rfl
      | _ => rfl
    | sl _ _ _ => rfl
  | _ => rfl
theorem XO_ixS : XO F (⟨none, d, .ixS x y⟩ :: r) ⟨s, h⟩ Q ↔ XW F (ixSO (evalO s x) (evalO s y)) h d r s Q := XW_of rfl st_ixS
theorem XD_ixS : XD F ((⟨none, d, .ixS x y⟩, c) :: q) ⟨s, h⟩ Q ↔ XWD F (ixSO (evalO s x) (evalO s y)) h d q s Q := XWD_of rfl st_ixS
end

section
variable {l : List UInt8} {k k' : IntKind}
theorem ss_hi {b : Nat} (h : b ≤ l.length) : ssO (txt l) none (some (vi k b)) = some (txt (l.take b)) := by
  have e : (⟨l.toArray⟩ : ByteArray).size = l.length := rfl
  have h2 : (b : Int) ≤ (l.length : Int) := by omega
  simp [ssO, bndV, intV, e, h2]
theorem ss_lo {a : Nat} (h : a ≤ l.length) : ssO (txt l) (some (vi k a)) none = some (txt (l.drop a)) := by
  have e : (⟨l.toArray⟩ : ByteArray).size = l.length := rfl
  have h2 : (a : Int) ≤ (l.length : Int) := by omega
  have e2 : (l.drop a).take (l.length - a) = l.drop a := List.take_of_length_le (by simp)
  simp [ssO, bndV, intV, e, h2, e2]
theorem ixS_0 {b : UInt8} : ixSO (txt (b :: l)) (vi k 0) = some (vi .u8 b.toNat) := rfl
theorem bo_sleq {s t : List UInt8} : binO .leq (txt s) (txt t) = some (vb (Op.bytesLess s t || s == t)) := rfl
end
attribute [go_sem] XO_slS XD_slS XO_ixS XD_ixS ixS_0 bo_sleq

/-- A call of what is told by hand. -/
theorem call_pf {F : Nat → Option FnIR} {f k : Nat} {φ : List Value → Option Value} (hf : F f = some (pfFn k φ)) (h0 : 0 < k) {as : List VV} {l : List Value} {v : Value} (hk : as.length = k) (hl : scsOf as = some l) (hv : φ l = some v) (hs : scalar v = true) (h : Heap) :
    call F f as h = some (.ret (.cv (.sc v)), h) := by
  refine call_P hf ?_ (by unfold pfFn; simp only; exact Nat.ble_eq_true_of_le (by omega))
  subst hk
  unfold pfFn
  simp only [Nat.sub_self, List.replicate_zero, List.append_nil]
  have hm : ((List.range as.length).map Opd.t).map (evalO as) = as := by
    apply List.ext_getElem?
    intro i
    simp only [List.getElem?_map, List.map_map]
    by_cases hi : i < as.length
    · rw [List.getElem?_range hi]
      simp only [Option.map_some, Function.comp_apply, evalO, List.getD_eq_getElem?_getD]
      rw [List.getElem?_eq_getElem hi]; rfl
    · rw [List.getElem?_eq_none (by simpa using hi), List.getElem?_eq_none (by omega)]; rfl
  have hst : stepI h (evalO as) (.pf φ ((List.range as.length).map .t)) = some (.cv (.sc v), h) := by
    simp only [stepI, hm, hl, hv, hs, if_true]
  rw [X_reg, XO_ins rfl, hst, XV_some, XO_nil]
  refine ⟨trivial, [.cv (.sc v)], ?_, Is.refl _ _⟩
  simp only [resAll, resOf, putD_some]
  rw [List.getElem?_set_self h0]

/-- A cut behind a piece of code that ends in several ways. -/
theorem mid2 {F : Nat → Option FnIR} {a b : IR} {st : St} {Q : Pst} (P : List VV → Heap → Prop) (h1 : X F a st fun o st' => o = .norm ∧ P st'.s st'.h) (h2 : ∀ s h, P s h → X F b ⟨s, h⟩ Q) : X F a st (K F b Q) := by
  obtain ⟨o, ⟨s, h⟩, e, rfl, hP⟩ := h1
  exact ⟨.norm, ⟨s, h⟩, e, h2 s h hP⟩
end Go.Vm

/-
  Vm: how a law's arguments come in, and how it ends (own work).
-/
namespace Go.Vm
open Go Go.RowKit

/-- Plain data: whole numbers, truths, texts, slices and structs of such. -/
def okTy (P : Program) : Nat → TypeId → Bool
  | 0, _ => false
  | n + 1, t => match P.underlying t with
    | some .bool => P.cellsOf t == 1
    | some (.int _) => P.cellsOf t == 1
    | some .string => P.cellsOf t == 1
    | some (.slice e) => P.cellsOf t == 1 && decide (0 < P.cellsOf e) && okTy P n e
    | some (.struct fs) => (fs.toList.foldl (fun o f => o.bind fun k => if f.offset = k then some (k + P.cellsOf f.type) else none) (some 0) == some (P.cellsOf t)) && fs.toList.all fun f => okTy P n f.type
    | _ => false

/-- What a reading of a type is, closed. -/
def DR (P : Program) {H : Type} : Nat → TypeId → DataW H → List CV → Prop
  | 0, _, _, _ => False
  | n + 1, t, d, cs => match P.underlying t with
    | some .bool => ∃ b, d = .lit (.bool b) ∧ cs = [.sc (.bool b)]
    | some (.int k) => ∃ x, d = .lit (.int k x) ∧ cs = [.sc (.int k x)] ∧ (Lit.int k x).wf = true
    | some .string => ∃ s : ByteArray, d = .lit (.string s.data.toList) ∧ cs = [.sc (.string s)] ∧ s.size ≤ maxLen
    | some (.slice e) => (d = .nil ∧ cs = [.sc (.slice none 0 0)]) ∨ ∃ ds rest els, d = .slice ds rest ∧ cs = [.sl (P.cellsOf e) els false] ∧ els.length = ds.length ∧ els.length ≤ maxLen ∧
        ∀ (i : Nat) (el : List CV) (y : DataW H), els[i]? = some el → ds[i]? = some y → el.length = P.cellsOf e ∧ DR P n e y el
    | some (.struct fs) => ∃ ds, d = .agg ds ∧ ds.length = fs.size ∧ cs.length = P.cellsOf t ∧
        ∀ (i : Nat) (f : Field) (y : DataW H), fs[i]? = some f → ds[i]? = some y → DR P n f.type y ((cs.drop f.offset).take (P.cellsOf f.type))
    | _ => False

section
variable {H : Type} {enc : TypeId × Value → H} {P : Program} {w : World} {base : Nat} {sp : Nat → Bool} {held : Bool}

def Rel (w : World) (cs : List Value) (ccs : List CV) : Prop := ccs.length = cs.length ∧ ∀ (i : Nat) (v : Value) (c : CV), cs[i]? = some v → ccs[i]? = some c → CR w.cell? v c

theorem Rel.one {w : World} {v : Value} {c : CV} (h : CR w.cell? v c) : Rel w [v] [c] := by
  refine ⟨rfl, fun i v' c' hv hc => ?_⟩
  cases i with
  | zero => simp at hv hc; subst hv hc; exact h
  | succ i => simp at hv

theorem tiles_le : ∀ (fl : List Field) (k tot : Nat), fl.foldl (fun o f => o.bind fun k => if f.offset = k then some (k + P.cellsOf f.type) else none) (some k) = some tot → k ≤ tot
  | [], k, tot, h => by simp at h; omega
  | f :: r, k, tot, h => by
    simp only [List.foldl_cons, Option.bind_some] at h
    by_cases hf : f.offset = k
    · rw [if_pos hf] at h
      have := tiles_le r _ _ h
      omega
    · rw [if_neg hf] at h
      have none_none : ∀ l : List Field, l.foldl (fun (o : Option Nat) f => o.bind fun k => if f.offset = k then some (k + P.cellsOf f.type) else none) none = none := by
        intro l; induction l with
        | nil => rfl
        | cons _ _ ih => simpa using ih
      rw [none_none] at h; cases h

theorem struct_cr {n fuel : Nat} {cs : List Value}
    (ih : ∀ (t : TypeId) (cs : List Value) (x : DataW H × List MemPlace), okTy P n t = true → DataW.trod enc P w base sp held fuel t cs = some x → ∃ ccs, Rel w cs ccs ∧ DR P n t x.1 ccs) :
    ∀ (fl : List Field) (off : Nat) (ds : List (DataW H × List MemPlace)), fl.foldl (fun o f => o.bind fun k => if f.offset = k then some (k + P.cellsOf f.type) else none) (some off) = some cs.length →
      (∀ f ∈ fl, okTy P n f.type = true) → ds.length = fl.length →
      (∀ (i : Nat) (f : Field), fl[i]? = some f → DataW.trod enc P w base sp held fuel f.type ((cs.drop f.offset).take (P.cellsOf f.type)) = ds[i]?) →
      ∃ ccs : List CV, ccs.length + off = cs.length ∧ (∀ (i : Nat) (v : Value) (c : CV), cs[off + i]? = some v → ccs[i]? = some c → CR w.cell? v c) ∧
        ∀ (i : Nat) (f : Field) (y : DataW H × List MemPlace), fl[i]? = some f → ds[i]? = some y → off ≤ f.offset ∧ DR P n f.type y.1 ((ccs.drop (f.offset - off)).take (P.cellsOf f.type))
  | [], off, ds, ht, _, _, _ => by
    simp at ht
    exact ⟨[], by simpa using ht, fun i v c _ hc => by simp at hc, fun i f y hf => by simp at hf⟩
  | f :: r, off, ds, ht, hok, hl, hd => by
    have hle := tiles_le (P := P) (f :: r) _ _ ht
    simp only [List.foldl_cons, Option.bind_some] at ht
    by_cases hf : f.offset = off
    · rw [if_pos hf] at ht
      have hle2 := tiles_le (P := P) r _ _ ht
      cases ds with
      | nil => simp at hl
      | cons y ys =>
        obtain ⟨fcs, ⟨h1, h2⟩, h3⟩ := ih f.type _ y (hok f (by simp)) (hd 0 f rfl)
        obtain ⟨rcs, h4, h5, h6⟩ := struct_cr ih r (off + P.cellsOf f.type) ys ht (fun g hg => hok g (by simp [hg])) (by simpa using hl) (fun i g hg => hd (i + 1) g (by simpa using hg))
        have hlen : fcs.length = P.cellsOf f.type := by
          rw [h1, List.length_take, List.length_drop, hf]; omega
        refine ⟨fcs ++ rcs, by rw [List.length_append, hlen]; omega, fun i v c hv hc => ?_, fun i g y' hg hy => ?_⟩
        · rw [List.getElem?_append] at hc
          split at hc
          · rename_i hlt
            refine h2 i v c ?_ hc
            rw [List.getElem?_take, if_pos (by omega), List.getElem?_drop, hf]; exact hv
          · rename_i hge
            refine h5 (i - fcs.length) v c ?_ hc
            rw [← hv]; congr 1; omega
        · cases i with
          | zero =>
            simp at hg hy
            subst hg hy
            refine ⟨by omega, ?_⟩
            rw [hf, Nat.sub_self, List.drop_zero, List.take_append_of_le_length (by omega), List.take_of_length_le (by omega)]
            exact h3
          | succ i =>
            obtain ⟨a1, a2⟩ := h6 i g y' (by simpa using hg) (by simpa using hy)
            refine ⟨by omega, ?_⟩
            have e : g.offset - off = fcs.length + (g.offset - (off + P.cellsOf f.type)) := by omega
            rw [e, ← List.drop_drop, List.drop_left]
            exact a2
    · rw [if_neg hf] at ht
      have none_none : ∀ l : List Field, l.foldl (fun (o : Option Nat) f => o.bind fun k => if f.offset = k then some (k + P.cellsOf f.type) else none) none = none := by
        intro l; induction l with
        | nil => rfl
        | cons _ _ ih => simpa using ih
      rw [none_none] at ht; cases ht

theorem cells_get {base : Nat} {a : Addr} {n : Nat} {cs : List Value} (h : w.cells? base a n = some cs) : cs.length = n ∧ ∀ i, i < n → w.cell? (a.add i) = cs[i]? := by
  unfold World.cells? at h
  split at h
  · refine ⟨by simpa using mapM_some_length h, fun i hi => ?_⟩
    exact mapM_some_get h i i (by simp [hi])
  · cases h

/-- What is read is closed. -/
theorem read_cr (hsp0 : ∀ b, sp b = true) : ∀ (n fuel : Nat) (t : TypeId) (cs : List Value) (x : DataW H × List MemPlace), okTy P n t = true → DataW.trod enc P w base sp held fuel t cs = some x → ∃ ccs, Rel w cs ccs ∧ DR P n t x.1 ccs
  | 0, _, _, _, _, hk, _ => by cases hk
  | n + 1, fuel, t, cs, x, hk, h => by
    simp only [okTy] at hk
    simp only [DR]
    cases hu : P.underlying t with
    | none => rw [hu] at hk; cases hk
    | some d =>
      rw [hu] at hk
      cases d with
      | bool =>
        obtain ⟨b, rfl, rfl⟩ := DataW.trod_bool hu h
        exact ⟨[.sc (.bool b)], Rel.one (.sc _ rfl), _, rfl, rfl⟩
      | int k =>
        obtain ⟨m, rfl, rfl, hw⟩ := DataW.trod_int hu h
        exact ⟨[.sc (.int k m)], Rel.one (.sc _ rfl), _, rfl, rfl, hw⟩
      | string =>
        obtain ⟨s, rfl, rfl, hs⟩ := DataW.trod_string hu h
        exact ⟨[.sc (.string s)], Rel.one (.sc _ rfl), _, rfl, rfl, hs⟩
      | slice e =>
        simp only [Bool.and_eq_true, decide_eq_true_eq] at hk
        rcases DataW.trod_slice hu h with ⟨rfl, rfl⟩ | ⟨a, len, cap, elems, rest, m, rfl, rfl, rfl, hb, hl, hm, hlen, hel, hsp, hns⟩
        · exact ⟨[.sc (.slice none 0 0)], Rel.one (.sc _ rfl), .inl ⟨rfl, rfl⟩⟩
        · have key : ∀ i, i < len → ∃ el cv y, elems[i]? = some y ∧ w.cells? base (a.add (i * P.cellsOf e)) (P.cellsOf e) = some el ∧ Rel w el cv ∧ DR P n e y.1 cv := by
            intro i hi
            have hi' : i < elems.length := by omega
            have := hel i hi
            rw [List.getElem?_eq_getElem hi', Option.bind_eq_some_iff] at this
            obtain ⟨el, h1, h2⟩ := this
            obtain ⟨cv, h3, h4⟩ := read_cr hsp0 n m e el _ hk.2 h2
            exact ⟨el, cv, _, List.getElem?_eq_getElem hi', h1, h3, h4⟩
          let els := (List.range len).map fun i => if hi : i < len then Classical.choose (Classical.choose_spec (key i hi)) else []
          have hels : ∀ i e', els[i]? = some e' → ∃ hi : i < len, e' = Classical.choose (Classical.choose_spec (key i hi)) := by
            intro i e' he
            have hi : i < len := by
              have := (List.getElem?_eq_some_iff.1 he).1
              simpa [els] using this
            refine ⟨hi, ?_⟩
            simp only [els, List.getElem?_map, List.getElem?_range hi, Option.map_some, dif_pos hi, Option.some.injEq] at he
            exact he.symm
          have hll : els.length = len := by simp [els]
          have val : ∀ i e', els[i]? = some e' → ∃ el y, i < len ∧ elems[i]? = some y ∧ w.cells? base (a.add (i * P.cellsOf e)) (P.cellsOf e) = some el ∧ Rel w el e' ∧ DR P n e y.1 e' := by
            intro i e' he
            obtain ⟨hi, rfl⟩ := hels i e' he
            obtain ⟨y, h1, h2, h3, h4⟩ := Classical.choose_spec (Classical.choose_spec (key i hi))
            exact ⟨_, y, hi, h1, h2, h3, h4⟩
          have spot : cap = 0 ∨ a.spot = none := by
            by_cases hl0 : len = 0
            · by_cases hc0 : cap = 0
              · exact .inl hc0
              · right
                obtain ⟨h1, h2⟩ := hsp (hsp0 _)
                have := h2 0 (by omega)
                rw [hl0, Nat.zero_add, Nat.zero_mul] at this
                have hr : 0 < rest.length := by omega
                rw [List.getElem?_eq_getElem hr, Option.bind_eq_some_iff] at this
                obtain ⟨el, h3, _⟩ := this
                obtain ⟨h4, h5⟩ := cells_get h3
                have := h5 0 hk.1.2
                rw [List.getElem?_eq_getElem (by omega)] at this
                simpa [Addr.add] using World.cell?_spot this
            · right
              obtain ⟨el, cv, y, _, h1, _⟩ := key 0 (by omega)
              obtain ⟨h4, h5⟩ := cells_get h1
              have := h5 0 hk.1.2
              rw [List.getElem?_eq_getElem (by omega)] at this
              simpa [Addr.add] using World.cell?_spot this
          have cell : ∀ i e', els[i]? = some e' → ∀ j c, e'[j]? = some c → ∃ v, w.cell? ⟨a.block, a.off + i * P.cellsOf e + j, none⟩ = some v ∧ CR w.cell? v c := by
            intro i e' he j c hj
            obtain ⟨el, y, hi, _, h2, ⟨h3, h3'⟩, _⟩ := val i e' he
            obtain ⟨h4, h5⟩ := cells_get h2
            have hs : a.spot = none := spot.resolve_left (by omega)
            have hjl : j < el.length := by rw [← h3]; exact (List.getElem?_eq_some_iff.1 hj).1
            have := h5 j (by omega)
            rw [List.getElem?_eq_getElem hjl, add_spot hs, add_spot rfl] at this
            exact ⟨_, this, h3' j _ c (List.getElem?_eq_getElem hjl) hj⟩
          refine ⟨[.sl (P.cellsOf e) els false], Rel.one ?_, .inr ⟨elems.map (·.1), rest.map (·.1), els, rfl, rfl, by simp [hll, hlen], by omega, ?_⟩⟩
          · have := CR.sl (σ := w.cell?) a cap (P.cellsOf e) els false (fun i j => (w.cell? ⟨a.block, a.off + i * P.cellsOf e + j, none⟩).getD undef) spot (by omega) (fun e => by cases e) hk.1.2 ?_ ?_ ?_
            · rw [hll] at this; exact this
            · intro e' he
              obtain ⟨i, hi⟩ := List.getElem?_of_mem he
              obtain ⟨el, y, _, _, h2, ⟨h3, _⟩, _⟩ := val i e' hi
              rw [h3]; exact (cells_get h2).1
            · intro i e' he j c hj
              obtain ⟨v, hv, _⟩ := cell i e' he j c hj
              rw [hv]; rfl
            · intro i e' he j c hj
              obtain ⟨v, hv, hr⟩ := cell i e' he j c hj
              rw [hv]; exact hr
          · intro i e' y he hy
            obtain ⟨el, y', _, h1, h2, ⟨h3, _⟩, h4⟩ := val i e' he
            rw [List.getElem?_map, h1] at hy
            cases hy
            exact ⟨by rw [h3]; exact (cells_get h2).1, h4⟩
      | struct fs =>
        simp only [Bool.and_eq_true, beq_iff_eq, List.all_eq_true] at hk
        obtain ⟨xs, m, rfl, rfl, hcl, hxl, hxs⟩ := DataW.trod_struct hu h
        obtain ⟨ccs, h1, h2, h3⟩ := struct_cr (cs := cs) (fun t cs x => read_cr hsp0 n m t cs x) fs.toList 0 xs (by rw [hcl]; exact hk.1) hk.2 (by simpa using hxl) (fun i f hf => hxs i f (by simpa using hf))
        refine ⟨ccs, ⟨by simpa using h1, fun i v c hv hc => h2 i v c (by rw [Nat.zero_add]; exact hv) hc⟩, xs.map (·.1), rfl, by simpa using hxl, by rw [← hcl]; simpa using h1, fun i f y hf hy => ?_⟩
        rw [List.getElem?_map] at hy
        cases hx : xs[i]? with
        | none => rw [hx] at hy; cases hy
        | some z =>
          rw [hx] at hy; cases hy
          have := (h3 i f z (by simpa using hf) hx).2
          simpa using this
      | _ => cases hk

/-! ### arguments -/

/-- Is it a struct? -/
def isStr (P : Program) (t : TypeId) : Bool := match P.underlying t with
  | some (.struct _) => true
  | _ => false

/-- An argument that reads as a datum. -/
def DV (P : Program) (t : TypeId) (d : DataW H) (u : VV) : Prop := ∃ ccs, DR P 8 t d ccs ∧ if isStr P t then u = .agg (ccs.map .cv) else ∃ c, ccs = [c] ∧ u = .cv c

theorem arg_in (hsp0 : ∀ b, sp b = true) {r : Reach} {b : Nat} {t : TypeId} {v : Value} {d : DataW H} {ps : List MemPlace} (hk : okTy P 8 t = true) (ho : Value.okWide P w r b t v) (h : DataW.Trod enc P w base sp held t v d ps) {β : Nat → Option Loc} :
    ∃ u, VR w.cell? β v u ∧ DV P t d u := by
  obtain ⟨fuel, h⟩ := h
  obtain ⟨ccs, ⟨h1, h2⟩, h3⟩ := read_cr hsp0 8 fuel t _ _ hk h
  unfold DV isStr
  cases hu : P.underlying t with
  | none => simp [okTy, hu] at hk
  | some ty =>
    have one : ∀ x : Value, v.cells = #[x] → v = x → ∃ u, VR w.cell? β v u ∧ ∃ ccs, DR P 8 t d ccs ∧ ∃ c, ccs = [c] ∧ u = .cv c := by
      intro x hx hvx
      subst hvx
      rw [hx] at h1 h2
      match ccs, h1 with
      | [c], _ => exact ⟨.cv c, .cv _ _ (h2 0 v c rfl rfl), [c], h3, c, rfl, rfl⟩
    cases ty with
    | struct fs =>
      simp only [Value.okWide, hu] at ho
      obtain ⟨cs, rfl, hcs, _⟩ := ho
      refine ⟨.agg (ccs.map .cv), .agg _ _ (by simpa [Value.cells] using h1.symm) (fun c hc => ?_) (fun i v c hv hc => ?_), ccs, h3, by simp⟩
      · obtain ⟨q, _, rfl⟩ := List.mem_map.1 hc; rfl
      · rw [List.getElem?_map] at hc
        cases hq : ccs[i]? with
        | none => rw [hq] at hc; cases hc
        | some q => rw [hq] at hc; cases hc; exact .cv _ _ (h2 i v q (by simpa [Value.cells] using hv) hq)
    | bool =>
      simp only [Bool.false_eq_true, if_false]
      obtain ⟨x, rfl⟩ := WideShapes.okWide_bool hu ho
      exact one _ rfl rfl
    | int k =>
      simp only [Bool.false_eq_true, if_false]
      obtain ⟨x, rfl⟩ := WideShapes.okWide_int hu ho
      exact one _ rfl rfl
    | string =>
      simp only [Bool.false_eq_true, if_false]
      obtain ⟨x, rfl⟩ := WideShapes.okWide_string hu ho
      exact one _ rfl rfl
    | slice e =>
      simp only [Bool.false_eq_true, if_false]
      obtain ⟨x, y, z, rfl⟩ := WideShapes.okWide_slice hu ho
      exact one _ rfl rfl
    | _ => simp [okTy, hu] at hk
end

/-- A law's call. -/
theorem entry {P : Program} {F : Nat → Option FnIR} (hT : TblOK P F) {n : Nat} {rargs : Array Value} {args : List VV} {w : World} (hl : rargs.size = args.length)
    (hr : ∀ (i : Nat) (v : Value) (u : VV), rargs[i]? = some v → args[i]? = some u → VR w.cell? noβ v u) {h' : Heap} (hc : call F n args [] = some (.ret (.cv (.sc (.bool true))), h')) (hn : n < YB := by decide) :
    Calls P n rargs w fun e w' => e = .returned (.bool true) ∧ Below w.heap.size w w' := by
  obtain ⟨m, hm⟩ := call_iff.mp hc
  refine ((callF_sound hT m).go n args [] _ h' hn hm rargs (· < w.heap.size) w.cell? noβ w hl hr ?_).mono ?_
  · exact ⟨fun b hb => hb, fun a v h => h, (fun id o ho => by simp at ho), (fun id L hL => by cases hL), (fun id o L ho => by simp at ho), (fun id id' o o' L L' _ ho => by simp at ho)⟩
  · rintro e w' ⟨σ', β', rv, hF, hW, ⟨v, hv, rfl, hV⟩ | ⟨v, hv, _⟩⟩
    · cases hv
      obtain ⟨rfl, _⟩ := hV.sc_inv
      exact ⟨rfl, hF.os, hF.tape, hF.output, hF.size, fun k hk => hF.prot k hk hk⟩
    · cases hv

end Go.Vm

/-
  Vm: what the arguments of a law are (own work).
-/
namespace Go.Vm
open Go Go.RowKit

section
variable {H : Type} {P : Program} {t e : TypeId} {d : DataW H} {u : VV} {cs : List CV} {n : Nat}

theorem DR_int {k : IntKind} (hu : P.underlying t = some (.int k)) (h : DR P (n + 1) t d cs) : ∃ x, d = .lit (.int k x) ∧ cs = [.sc (.int k x)] ∧ (Lit.int k x).wf = true := by
  simpa only [DR, hu] using h
theorem DR_string (hu : P.underlying t = some .string) (h : DR P (n + 1) t d cs) : ∃ s : ByteArray, d = .lit (.string s.data.toList) ∧ cs = [.sc (.string s)] ∧ s.size ≤ maxLen := by
  simpa only [DR, hu] using h
theorem DR_slice (hu : P.underlying t = some (.slice e)) (h : DR P (n + 1) t d cs) : (d = .nil ∧ cs = [.sc (.slice none 0 0)]) ∨ ∃ ds rest els, d = .slice ds rest ∧ cs = [.sl (P.cellsOf e) els false] ∧ els.length = ds.length ∧ els.length ≤ maxLen ∧
    ∀ (i : Nat) (el : List CV) (y : DataW H), els[i]? = some el → ds[i]? = some y → el.length = P.cellsOf e ∧ DR P n e y el := by
  simpa only [DR, hu] using h
theorem wf_u8 {x : Int} (h : (Lit.int .u8 x).wf = true) : ∃ b : UInt8, x = b.toNat := by
  have := bounds_u8 h
  refine ⟨UInt8.ofNat x.toNat, ?_⟩
  rw [UInt8.toNat_ofNat']
  omega
/-- Bytes in a cell. -/
theorem DR_bytes (hu : P.underlying t = some (.slice e)) (he : P.underlying e = some (.int .u8)) (hc : P.cellsOf e = 1) (h : DR P (n + 2) t d cs) : ∃ (l : List UInt8) (c : CV), cs = [c] ∧ SlV 1 (eB l) (.cv c) ∧ l.length ≤ maxLen ∧
    ((d = .nil ∧ l = []) ∨ ∃ ds rest, d = .slice ds rest ∧ ds.length = l.length) := by
  rcases DR_slice hu h with ⟨rfl, rfl⟩ | ⟨ds, rest, els, rfl, rfl, h1, h2, h3⟩
  · exact ⟨[], _, rfl, .inl ⟨rfl, rfl⟩, by simp, .inl ⟨rfl, rfl⟩⟩
  · have key : ∀ el ∈ els, ∃ b : UInt8, el = byteCell b := by
      intro el hel
      obtain ⟨i, hi⟩ := List.getElem?_of_mem hel
      have hlt : i < ds.length := by rw [← h1]; exact (List.getElem?_eq_some_iff.1 hi).1
      obtain ⟨h4, h5⟩ := h3 i el _ hi (List.getElem?_eq_getElem hlt)
      obtain ⟨x, _, rfl, hw⟩ := DR_int he h5
      obtain ⟨b, rfl⟩ := wf_u8 hw
      exact ⟨b, rfl⟩
    have all : ∀ els : List (List CV), (∀ el ∈ els, ∃ b : UInt8, el = byteCell b) → ∃ l : List UInt8, els = eB l := by
      intro els
      induction els with
      | nil => exact fun _ => ⟨[], rfl⟩
      | cons x r ih =>
        intro hk
        obtain ⟨b, rfl⟩ := hk x (by simp)
        obtain ⟨l, rfl⟩ := ih fun el hel => hk el (by simp [hel])
        exact ⟨b :: l, rfl⟩
    obtain ⟨l, rfl⟩ := all els key
    rw [eB_len] at h1 h2
    rw [hc]
    exact ⟨l, _, rfl, .inr ⟨_, rfl⟩, h2, .inr ⟨ds, rest, rfl, h1.symm⟩⟩

theorem DV_plain (hs : isStr P t = false) (h : DV P t d u) : ∃ c, DR P 8 t d [c] ∧ u = .cv c := by
  obtain ⟨ccs, h1, h2⟩ := h
  rw [hs] at h2
  obtain ⟨c, rfl, rfl⟩ := by simpa using h2
  exact ⟨c, h1, rfl⟩
theorem DV_bytes (hu : P.underlying t = some (.slice e)) (he : P.underlying e = some (.int .u8)) (hc : P.cellsOf e = 1) (h : DV P t d u) : ∃ l : List UInt8, SlV 1 (eB l) u ∧ l.length ≤ maxLen := by
  obtain ⟨c, h1, rfl⟩ := DV_plain (by simp only [isStr, hu]) h
  obtain ⟨l, c', h2, h3, h4, _⟩ := DR_bytes hu he hc h1
  cases h2
  exact ⟨l, h3, h4⟩
end

theorem rel_list {σ : Stab} {β : Nat → Option Loc} {vs : List Value} {us : List VV} (h : ∀ (i : Nat) (v : Value) (u : VV), vs[i]? = some v → us[i]? = some u → VR σ β v u) : ∀ (i : Nat) (v : Value) (u : VV), vs.toArray[i]? = some v → us[i]? = some u → VR σ β v u :=
  fun i v u hv hu => h i v u (by simpa using hv) hu
theorem rel_cons {σ : Stab} {β : Nat → Option Loc} {v0 : Value} {u0 : VV} {vs : List Value} {us : List VV} (h0 : VR σ β v0 u0) (h : ∀ (i : Nat) (v : Value) (u : VV), vs[i]? = some v → us[i]? = some u → VR σ β v u) :
    ∀ (i : Nat) (v : Value) (u : VV), (v0 :: vs)[i]? = some v → (u0 :: us)[i]? = some u → VR σ β v u := by
  intro i v u hv hu
  cases i with
  | zero => simp at hv hu; subst hv hu; exact h0
  | succ i => exact h i v u (by simpa using hv) (by simpa using hu)
theorem rel_none {σ : Stab} {β : Nat → Option Loc} : ∀ (i : Nat) (v : Value) (u : VV), ([] : List Value)[i]? = some v → ([] : List VV)[i]? = some u → VR σ β v u := fun i v u hv => by simp at hv

end Go.Vm
