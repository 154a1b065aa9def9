/-
  Vm: the machine without a measure: the limit of its runs (own work).
-/
import Derived.Test.YtpingdgbndmcnaaVmCode
namespace Go.Vm
open Go

def CallLe (c c' : CallSem) : Prop := ∀ f a h r, c f a h = some r → c' f a h = some r

theorem CallLe.rfl (c : CallSem) : CallLe c c := fun _ _ _ _ h => h

theorem doCall_mono {c c' : CallSem} (hc : CallLe c c') {h : Heap} {f : Nat} {p : Bool} {args : List VV} {r : CRes × Heap}
    (hr : doCall c h f p args = some r) : doCall c' h f p args = some r := by
  unfold doCall at hr ⊢
  cases p with
  | false => simpa using hc _ _ _ _ (by simpa using hr)
  | true =>
    simp only [if_true] at hr ⊢
    cases hA : closAs h args with
    | none => rw [hA] at hr; cases hr
    | some x =>
      obtain ⟨as, h1⟩ := x
      rw [hA] at hr
      simp only at hr ⊢
      cases hB : c f as [] with
      | none => rw [hB] at hr; cases hr
      | some y =>
        rw [hB] at hr
        rw [hc _ _ _ _ hB]
        exact hr

theorem stepO_mono {c c' : CallSem} (hc : CallLe c c') {st : St} {o : Op1} {r : Out × St} (hr : stepO c st o = some r) : stepO c' st o = some r := by
  obtain ⟨g, d, i⟩ := o
  cases i with
  | call f p args =>
    simp only [stepO] at hr ⊢
    cases hA : doCall c st.h f p (args.map (evalO st.s)) with
    | none => rw [hA] at hr; cases hr
    | some x => rw [hA] at hr; rw [doCall_mono hc hA]; exact hr
  | callv p x args =>
    simp only [stepO] at hr ⊢
    cases hx : evalO st.s x <;> rw [hx] at hr <;> try (simp only at hr; cases hr; done)
    rename_i f caps
    simp only at hr ⊢
    cases hA : doCall c st.h f p (args.map (evalO st.s) ++ caps) with
    | none => rw [hA] at hr; cases hr
    | some x => rw [hA] at hr; rw [doCall_mono hc hA]; exact hr
  | _ => exact hr

theorem execOps_mono {c c' : CallSem} (hc : CallLe c c') : ∀ (ops : List Op1) {st : St} {r : Out × St}, execOps c ops st = some r → execOps c' ops st = some r
  | [], _, _, hr => hr
  | o :: l, st, r, hr => by
    simp only [execOps] at hr ⊢
    cases hw : wantedV st.s o.g with
    | none => rw [hw] at hr; cases hr
    | some b =>
      rw [hw] at hr
      cases b with
      | false => exact execOps_mono hc l hr
      | true =>
        simp only at hr ⊢
        cases hs : stepO c st o with
        | none => rw [hs] at hr; cases hr
        | some x =>
          rw [hs] at hr
          rw [stepO_mono hc hs]
          obtain ⟨o', s'⟩ := x
          cases o' <;> first | exact execOps_mono hc l hr | exact hr

abbrev Cks := List (Nat × Nat × (Heap → Prop))
/-- The same checks, or weaker ones. -/
def CkLe (a b : Cks) : Prop := ∀ x ∈ b, ∃ y ∈ a, y.1 = x.1 ∧ y.2.1 = x.2.1 ∧ ∀ h, y.2.2 h → x.2.2 h

theorem CkLe.cons {a b : Cks} (h : CkLe a b) {lo hi : Nat} {p q : Heap → Prop} (hpq : ∀ h, p h → q h) : CkLe ((lo, hi, p) :: a) ((lo, hi, q) :: b) := by
  intro x hx
  rcases List.mem_cons.mp hx with rfl | hx
  · exact ⟨_, List.mem_cons_self, rfl, rfl, hpq⟩
  · obtain ⟨y, hy, h1, h2, h3⟩ := h x hx
    exact ⟨y, List.mem_cons_of_mem _ hy, h1, h2, h3⟩

theorem drawOps_mono {c c' : CallSem} (hc : CallLe c c') : ∀ (ops : List (Op1 × Cl)) {hs : List Heap} {ck ck' : Cks} {st : St} {st1 : St} {hs1 : List Heap} {ck1 : Cks},
    drawOps c ops hs ck st = some (st1, hs1, ck1) → CkLe ck ck' → ∃ ck1', drawOps c' ops hs ck' st = some (st1, hs1, ck1') ∧ CkLe ck1 ck1'
  | [], _, _, _, _, _, _, _, hr, hk => by
    simp only [drawOps, Option.some.injEq, Prod.mk.injEq] at hr ⊢
    obtain ⟨rfl, rfl, rfl⟩ := hr
    exact ⟨_, ⟨rfl, rfl, rfl⟩, hk⟩
  | (o, cl) :: l, hs, ck, ck', st, st1, hs1, ck1, hr, hk => by
    simp only [drawOps] at hr ⊢
    cases hw : wantedV st.s o.g with
    | none => rw [hw] at hr; cases hr
    | some b =>
      rw [hw] at hr
      cases b with
      | false => exact drawOps_mono hc l hr hk
      | true =>
        simp only at hr ⊢
        cases hst : stepO c st o with
        | none => rw [hst] at hr; cases hr
        | some x =>
          rw [hst] at hr
          rw [stepO_mono hc hst]
          obtain ⟨o', s'⟩ := x
          cases o' <;> try (simp only at hr; cases hr; done)
          cases cl with
          | p => exact drawOps_mono hc l hr hk
          | k => exact drawOps_mono hc l hr hk
          | r lo hi =>
            refine drawOps_mono hc l hr ?_
            by_cases hlh : lo = hi
            · rw [if_pos hlh, if_pos hlh]; exact hk.cons fun _ h => h
            · rw [if_neg hlh, if_neg hlh]; exact hk.cons fun h hh => stepO_mono hc hh

theorem execDraw_mono {c c' : CallSem} (hc : CallLe c c') {ops : List (Op1 × Cl)} {st : St} {r : Out × St} (hr : execDraw c ops st = some r) : execDraw c' ops st = some r := by
  unfold execDraw at hr ⊢
  cases hd : drawOps c ops [st.h] [] st with
  | none => rw [hd] at hr; cases hr
  | some x =>
    obtain ⟨st1, hs1, ck1⟩ := x
    rw [hd] at hr
    obtain ⟨ck', hd', hk⟩ := drawOps_mono hc ops hd (ck' := []) (fun x hx => by cases hx)
    rw [hd']
    simp only at hr ⊢
    split at hr
    · rename_i hall
      rw [if_pos]
      · exact hr
      · intro x hx b hb1 hb2 h hh
        obtain ⟨y, hy, h1, h2, h3⟩ := hk x hx
        exact h3 h (hall y hy b (by omega) (by omega) h hh)
    · cases hr

theorem iter_mono {b b' : St → Option (Out × St)} (hb : ∀ st r, b st = some r → b' st = some r) : ∀ {n m : Nat} (_ : n ≤ m) {st : St} {r : Out × St}, iter b n st = some r → iter b' m st = some r
  | 0, _, _, _, _, hr => by cases hr
  | n + 1, 0, hnm, _, _, _ => by omega
  | n + 1, m + 1, hnm, st, r, hr => by
    simp only [iter] at hr ⊢
    cases hs : b st with
    | none => rw [hs] at hr; cases hr
    | some x =>
      rw [hs] at hr
      rw [hb _ _ hs]
      obtain ⟨o', s'⟩ := x
      cases o' <;> first | exact iter_mono hb (by omega) hr | exact hr

theorem jumpIter_mono {f f' : Nat → St → Option (Out × St)} {has : Nat → Bool} (hf : ∀ l st r, f l st = some r → f' l st = some r) :
    ∀ {n m : Nat} (_ : n ≤ m) {x x' : Option (Out × St)} (_ : ∀ r, x = some r → x' = some r) {r : Out × St}, jumpIter f has n x = some r → jumpIter f' has m x' = some r
  | 0, m, _, x, x', hx, r, hr => by
    cases x with
    | none => simp [jumpIter] at hr
    | some y =>
      rw [hx _ rfl]
      obtain ⟨o, s⟩ := y
      cases o with
      | goto l =>
        simp only [jumpIter] at hr
        split at hr
        · cases hr
        · rename_i hh
          cases m with
          | zero => simp only [jumpIter]; rw [if_neg hh]; exact hr
          | succ m => simp only [jumpIter]; rw [if_neg hh]; exact hr
      | _ => cases m <;> exact hr
  | n + 1, 0, hnm, _, _, _, _, _ => by omega
  | n + 1, m + 1, hnm, x, x', hx, r, hr => by
    cases x with
    | none => simp [jumpIter] at hr
    | some y =>
      rw [hx _ rfl]
      obtain ⟨o, s⟩ := y
      cases o with
      | goto l =>
        simp only [jumpIter] at hr ⊢
        split at hr
        · rename_i hh
          rw [if_pos hh]
          exact jumpIter_mono hf (by omega) (hf l s) hr
        · rename_i hh
          rw [if_neg hh]
          exact hr
      | _ => exact hr

theorem exec_mono {c c' : CallSem} (hc : CallLe c c') {n m : Nat} (hnm : n ≤ m) : ∀ (ir : IR),
    (∀ {st : St} {r : Out × St}, exec c n ir st = some r → exec c' m ir st = some r) ∧ (∀ {l : Nat} {st : St} {r : Out × St}, execFrom c n ir l st = some r → execFrom c' m ir l st = some r) := by
  intro ir
  induction ir with
  | skip => exact ⟨fun h => by simpa only [exec] using h, fun h => by simp [execFrom] at h⟩
  | reg ops => exact ⟨fun h => by simp only [exec] at h ⊢; exact execOps_mono hc _ h, fun h => by simp [execFrom] at h⟩
  | draw ops => exact ⟨fun h => by simp only [exec] at h ⊢; exact execDraw_mono hc h, fun h => by simp [execFrom] at h⟩
  | seq a b iha ihb =>
    refine ⟨fun {st r} h => ?_, fun {l st r} h => ?_⟩
    · simp only [exec] at h ⊢
      cases hs : exec c n a st with
      | none => rw [hs] at h; cases h
      | some x =>
        rw [hs] at h
        rw [iha.1 hs]
        obtain ⟨o', s'⟩ := x
        cases o' <;> first | exact ihb.1 h | exact h
    · simp only [execFrom] at h ⊢
      cases hf : findL a l with
      | none => rw [hf] at h; exact ihb.2 h
      | some y =>
        rw [hf] at h
        simp only at h ⊢
        cases hs : execFrom c n a l st with
        | none => rw [hs] at h; cases h
        | some x =>
          rw [hs] at h
          rw [iha.2 hs]
          obtain ⟨o', s'⟩ := x
          cases o' <;> first | exact ihb.1 h | exact h
  | cond e a b iha ihb =>
    refine ⟨fun {st r} h => ?_, fun h => by simp [execFrom] at h⟩
    simp only [exec] at h ⊢
    split at h
    · rename_i t ht
      cases t
      · exact ihb.1 h
      · exact iha.1 h
    · cases h
  | block id b ihb =>
    refine ⟨fun {st r} h => ?_, fun h => by simp [execFrom] at h⟩
    simp only [exec] at h ⊢
    cases hs : exec c n b st with
    | none => rw [hs] at h; cases h
    | some x => rw [hs] at h; rw [ihb.1 hs]; exact h
  | loop b ihb =>
    refine ⟨fun {st r} h => ?_, fun h => by simp [execFrom] at h⟩
    simp only [exec] at h ⊢
    exact iter_mono (fun _ _ h => ihb.1 h) hnm h
  | exit id => exact ⟨fun h => by simpa only [exec] using h, fun h => by simp [execFrom] at h⟩
  | scope b ihb =>
    refine ⟨fun {st r} h => ?_, fun h => by simp [execFrom] at h⟩
    simp only [exec] at h ⊢
    exact jumpIter_mono (fun _ _ _ h => ihb.2 h) hnm (fun _ h => ihb.1 h) h
  | label l => exact ⟨fun h => by simpa only [exec] using h, fun h => by simpa only [execFrom] using h⟩
  | goto l => exact ⟨fun h => by simpa only [exec] using h, fun h => by simp [execFrom] at h⟩
  | ret => exact ⟨fun h => by simpa only [exec] using h, fun h => by simp [execFrom] at h⟩

theorem runFn_mono {ex ex' : IR → St → Option (Out × St)} {fn : FnIR} {args : List VV} {h : Heap} {r : CRes × Heap} (he : ∀ st r, ex fn.body st = some r → ex' fn.body st = some r)
    (hr : runFn ex fn args h = some r) : runFn ex' fn args h = some r := by
  unfold runFn at hr ⊢
  cases hs : ex fn.body ⟨args ++ List.replicate (fn.nt - args.length) .undef, h⟩ with
  | none => rw [hs] at hr; cases hr
  | some x => rw [hs] at hr; rw [he _ _ hs]; exact hr

theorem callF_succ (F : Nat → Option FnIR) : ∀ n, CallLe (callF F n) (callF F (n + 1))
  | 0 => fun _ _ _ _ h => by cases h
  | n + 1 => fun f a h r hr => by
    have ih := callF_succ F n
    simp only [callF] at hr ⊢
    cases hf : F f with
    | none => rw [hf] at hr; cases hr
    | some fn =>
      rw [hf] at hr
      exact runFn_mono (fun st r hh => (exec_mono ih (Nat.le_succ n) fn.body).1 hh) hr

theorem callF_mono (F : Nat → Option FnIR) {n m : Nat} (h : n ≤ m) : CallLe (callF F n) (callF F m) := by
  induction h with
  | refl => exact CallLe.rfl _
  | step _ ih => exact fun f a h r hr => callF_succ F _ f a h r (ih f a h r hr)

/-! ### the limit -/

open Classical in
/-- What a chain of runs comes to. -/
noncomputable def lim {α : Type} (f : Nat → Option α) : Option α := if h : ∃ r, ∃ n, f n = some r then some (Classical.choose h) else none

theorem lim_eq {α : Type} {f : Nat → Option α} (hf : ∀ n m r, n ≤ m → f n = some r → f m = some r) {r : α} : lim f = some r ↔ ∃ n, f n = some r := by
  unfold lim
  constructor
  · intro h
    split at h
    · rename_i he
      rw [← Option.some.inj h]
      exact Classical.choose_spec he
    · cases h
  · rintro ⟨n, hn⟩
    rw [dif_pos ⟨r, n, hn⟩]
    generalize hp : (⟨r, n, hn⟩ : ∃ r, ∃ n, f n = some r) = p
    obtain ⟨m, hm⟩ := Classical.choose_spec p
    have h1 := hf n (max n m) r (Nat.le_max_left _ _) hn
    have h2 := hf m (max n m) _ (Nat.le_max_right _ _) hm
    exact h2.symm.trans h1

noncomputable def call (F : Nat → Option FnIR) : CallSem := fun f a h => lim fun n => callF F n f a h

theorem call_iff {F : Nat → Option FnIR} {f : Nat} {a : List VV} {h : Heap} {r : CRes × Heap} : call F f a h = some r ↔ ∃ n, callF F n f a h = some r :=
  lim_eq fun _ _ _ hnm hr => callF_mono F hnm _ _ _ _ hr

mutual
noncomputable def execL (F : Nat → Option FnIR) : IR → St → Option (Out × St)
  | .skip, st => some (.norm, st)
  | .reg ops, st => execOps (call F) ops st
  | .draw ops, st => execDraw (call F) ops st
  | .seq a b, st => match execL F a st with
    | some (.norm, st1) => execL F b st1
    | x => x
  | .cond c a b, st => match evalO st.s c with
    | .cv (.sc (.bool t)) => if t then execL F a st else execL F b st
    | _ => none
  | .block id b, st => match execL F b st with
    | some (.exit id', st1) => if id' = id then some (.norm, st1) else some (.exit id', st1)
    | x => x
  | .loop b, st => lim fun n => iter (fun st => execL F b st) n st
  | .exit id, st => some (.exit id, st)
  | .scope b, st => lim fun n => jumpIter (fun l st => execLFrom F b l st) (fun l => (findL b l).isSome) n (execL F b st)
  | .label _, st => some (.norm, st)
  | .goto l, st => some (.goto l, st)
  | .ret, st => some (.ret, st)
noncomputable def execLFrom (F : Nat → Option FnIR) : IR → Nat → St → Option (Out × St)
  | .seq a b, l, st => match findL a l with
    | some _ => match execLFrom F a l st with
      | some (.norm, st1) => execL F b st1
      | x => x
    | none => execLFrom F b l st
  | .label l', l, st => if l' == l then some (.norm, st) else none
  | _, _, _ => none
end

/-- The loop, once more. -/
theorem execL_loop (F : Nat → Option FnIR) (b : IR) (st : St) : execL F (.loop b) st = match execL F b st with
    | some (.norm, st1) => execL F (.loop b) st1
    | x => x := by
  have hm : ∀ st : St, ∀ n m r, n ≤ m → iter (fun st => execL F b st) n st = some r → iter (fun st => execL F b st) m st = some r :=
    fun st n m r hnm => iter_mono (fun _ _ h => h) hnm
  apply Option.ext
  intro r
  simp only [execL]
  rw [lim_eq (hm st)]
  cases hs : execL F b st with
  | none =>
    constructor
    · rintro ⟨n, hn⟩
      cases n with
      | zero => cases hn
      | succ n => simp only [iter, hs] at hn; cases hn
    · intro h; cases h
  | some x =>
    obtain ⟨o, s⟩ := x
    constructor
    · rintro ⟨n, hn⟩
      cases n with
      | zero => cases hn
      | succ n =>
        simp only [iter, hs] at hn
        cases o <;> first | exact (lim_eq (hm s)).mpr ⟨n, hn⟩ | exact hn
    · intro h
      cases o with
      | norm =>
        obtain ⟨n, hn⟩ := (lim_eq (hm s)).mp h
        exact ⟨n + 1, by simp only [iter, hs]; exact hn⟩
      | _ => exact ⟨1, by simp only [iter, hs]; exact h⟩

/-! ### what the limit has, a run has -/

theorem doCall_lim {F : Nat → Option FnIR} {h : Heap} {f : Nat} {p : Bool} {args : List VV} {r : CRes × Heap} (hr : doCall (call F) h f p args = some r) : ∃ n, doCall (callF F n) h f p args = some r := by
  unfold doCall at hr ⊢
  cases p with
  | false =>
    simp only [Bool.false_eq_true, if_false] at hr ⊢
    exact call_iff.mp hr
  | true =>
    simp only [if_true] at hr ⊢
    cases hA : closAs h args with
    | none => rw [hA] at hr; cases hr
    | some x =>
      obtain ⟨as, h1⟩ := x
      rw [hA] at hr
      simp only at hr ⊢
      cases hB : call F f as [] with
      | none => rw [hB] at hr; cases hr
      | some y =>
        rw [hB] at hr
        obtain ⟨n, hn⟩ := call_iff.mp hB
        exact ⟨n, by rw [hn]; exact hr⟩

theorem stepO_lim {F : Nat → Option FnIR} {st : St} {o : Op1} {r : Out × St} (hr : stepO (call F) st o = some r) : ∃ n, stepO (callF F n) st o = some r := by
  obtain ⟨g, d, i⟩ := o
  cases i with
  | call f p args =>
    simp only [stepO] at hr ⊢
    cases hA : doCall (call F) st.h f p (args.map (evalO st.s)) with
    | none => rw [hA] at hr; cases hr
    | some x =>
      rw [hA] at hr
      obtain ⟨n, hn⟩ := doCall_lim hA
      exact ⟨n, by rw [hn]; exact hr⟩
  | callv p x args =>
    simp only [stepO] at hr ⊢
    cases hx : evalO st.s x <;> rw [hx] at hr <;> try (simp only at hr; cases hr; done)
    rename_i f caps
    simp only at hr ⊢
    cases hA : doCall (call F) st.h f p (args.map (evalO st.s) ++ caps) with
    | none => rw [hA] at hr; cases hr
    | some x =>
      rw [hA] at hr
      obtain ⟨n, hn⟩ := doCall_lim hA
      exact ⟨n, by rw [hn]; exact hr⟩
  | _ => exact ⟨0, hr⟩

theorem execOps_lim {F : Nat → Option FnIR} : ∀ (ops : List Op1) {st : St} {r : Out × St}, execOps (call F) ops st = some r → ∃ n, execOps (callF F n) ops st = some r
  | [], _, _, hr => ⟨0, hr⟩
  | o :: l, st, r, hr => by
    simp only [execOps] at hr ⊢
    cases hw : wantedV st.s o.g with
    | none => rw [hw] at hr; cases hr
    | some b =>
      rw [hw] at hr
      cases b with
      | false => exact execOps_lim l hr
      | true =>
        simp only at hr ⊢
        cases hs : stepO (call F) st o with
        | none => rw [hs] at hr; cases hr
        | some x =>
          rw [hs] at hr
          obtain ⟨n, hn⟩ := stepO_lim hs
          obtain ⟨o', s'⟩ := x
          cases o' with
          | norm =>
            obtain ⟨m, hm⟩ := execOps_lim l hr
            refine ⟨max n m, ?_⟩
            rw [stepO_mono (callF_mono F (Nat.le_max_left n m)) hn]
            exact execOps_mono (callF_mono F (Nat.le_max_right n m)) l hm
          | _ => exact ⟨n, by rw [hn]; exact hr⟩

/-- The checks hold of the heaps. -/
def CkOK (hs : List Heap) (ck : Cks) : Prop := ∀ x ∈ ck, ∀ b, x.1 ≤ b → b < x.2.1 → ∀ h, hs[b]? = some h → x.2.2 h

theorem CkOK.le {hs : List Heap} {a b : Cks} (h : CkOK hs a) (hl : CkLe a b) : CkOK hs b := by
  intro x hx i h1 h2 hp hh
  obtain ⟨y, hy, e1, e2, e3⟩ := hl x hx
  exact e3 hp (h y hy i (by omega) (by omega) hp hh)

theorem CkOK.cons {hs : List Heap} {a : Cks} (h : CkOK hs a) {lo hi : Nat} {p : Heap → Prop} (hp : ∀ b, lo ≤ b → b < hi → ∀ h, hs[b]? = some h → p h) : CkOK hs ((lo, hi, p) :: a) := by
  intro x hx
  rcases List.mem_cons.mp hx with rfl | hx
  · exact hp
  · exact h x hx

theorem CkLe.refl (a : Cks) : CkLe a a := fun x hx => ⟨x, hx, rfl, rfl, fun _ h => h⟩

theorem drawOps_ck {c : CallSem} : ∀ (ops : List (Op1 × Cl)) {hs : List Heap} {ck : Cks} {st : St} {st1 : St} {hs1 : List Heap} {ck1 : Cks},
    drawOps c ops hs ck st = some (st1, hs1, ck1) → ∀ x ∈ ck, x ∈ ck1
  | [], _, _, _, _, _, _, hr => by
    simp only [drawOps, Option.some.injEq, Prod.mk.injEq] at hr
    obtain ⟨_, _, rfl⟩ := hr
    exact fun _ h => h
  | (o, cl) :: l, hs, ck, st, st1, hs1, ck1, hr => by
    simp only [drawOps] at hr
    cases hw : wantedV st.s o.g with
    | none => rw [hw] at hr; cases hr
    | some b =>
      rw [hw] at hr
      cases b with
      | false => exact drawOps_ck l hr
      | true =>
        simp only at hr
        cases hst : stepO c st o with
        | none => rw [hst] at hr; cases hr
        | some x =>
          rw [hst] at hr
          obtain ⟨o', s'⟩ := x
          cases o' <;> try (simp only at hr; cases hr; done)
          cases cl with
          | p => exact drawOps_ck l hr
          | k => exact drawOps_ck l hr
          | r lo hi =>
            intro x hx
            refine drawOps_ck l hr x ?_
            split
            · exact List.mem_cons_of_mem _ hx
            · exact List.mem_cons_of_mem _ hx

theorem ex_all {p : Nat → Nat → Prop} (hm : ∀ n m b, n ≤ m → p n b → p m b) : ∀ (N : Nat), (∀ b < N, ∃ n, p n b) → ∃ n, ∀ b < N, p n b
  | 0, _ => ⟨0, fun b hb => by omega⟩
  | N + 1, h => by
    obtain ⟨n, hn⟩ := ex_all hm N fun b hb => h b (by omega)
    obtain ⟨m, hm'⟩ := h N (by omega)
    refine ⟨max n m, fun b hb => ?_⟩
    by_cases hbN : b = N
    · subst hbN; exact hm _ _ _ (Nat.le_max_right _ _) hm'
    · exact hm _ _ _ (Nat.le_max_left _ _) (hn b (by omega))

theorem drawOps_lim {F : Nat → Option FnIR} : ∀ (ops : List (Op1 × Cl)) {hs : List Heap} {ck ck' : Cks} {st : St} {st1 : St} {hs1 : List Heap} {ck1 : Cks},
    drawOps (call F) ops hs ck st = some (st1, hs1, ck1) → CkOK hs1 ck1 → CkOK hs1 ck' → ∃ n ck1', drawOps (callF F n) ops hs ck' st = some (st1, hs1, ck1') ∧ CkOK hs1 ck1'
  | [], _, _, _, _, _, _, _, hr, _, hk' => by
    simp only [drawOps, Option.some.injEq, Prod.mk.injEq] at hr ⊢
    obtain ⟨rfl, rfl, rfl⟩ := hr
    exact ⟨0, _, ⟨rfl, rfl, rfl⟩, hk'⟩
  | (o, cl) :: l, hs, ck, ck', st, st1, hs1, ck1, hr, hk, hk' => by
    simp only [drawOps] at hr ⊢
    cases hw : wantedV st.s o.g with
    | none => rw [hw] at hr; cases hr
    | some b =>
      rw [hw] at hr
      cases b with
      | false => exact drawOps_lim l hr hk hk'
      | true =>
        simp only at hr ⊢
        cases hst : stepO (call F) st o with
        | none => rw [hst] at hr; cases hr
        | some x =>
          rw [hst] at hr
          obtain ⟨n1, hn1⟩ := stepO_lim hst
          obtain ⟨o', s'⟩ := x
          cases o' <;> try (simp only at hr; cases hr; done)
          simp only at hr
          have fin : ∀ {hs : List Heap} {ck2 : Cks} {st2 : St}, drawOps (call F) l hs ck2 st2 = some (st1, hs1, ck1) → ∀ {ck3 : Cks}, CkOK hs1 ck3 →
              ∃ n ck1', stepO (callF F n) st o = some (Out.norm, s') ∧ drawOps (callF F n) l hs ck3 st2 = some (st1, hs1, ck1') ∧ CkOK hs1 ck1' := by
            intro hs ck2 st2 hd ck3 hk3
            obtain ⟨n2, c2, hn2, hc2⟩ := drawOps_lim l hd hk hk3
            obtain ⟨c3, hd3, hc3⟩ := drawOps_mono (callF_mono F (Nat.le_max_right n1 n2)) l hn2 (CkLe.refl _)
            exact ⟨max n1 n2, c3, stepO_mono (callF_mono F (Nat.le_max_left n1 n2)) hn1, hd3, hc2.le hc3⟩
          cases cl with
          | p =>
            obtain ⟨n, c1, h1, h2, h3⟩ := fin hr hk'
            exact ⟨n, c1, by rw [h1]; exact h2, h3⟩
          | k =>
            obtain ⟨n, c1, h1, h2, h3⟩ := fin hr hk'
            exact ⟨n, c1, by rw [h1]; exact h2, h3⟩
          | r lo hi =>
            by_cases hlh : lo = hi
            · simp only [if_pos hlh] at hr ⊢
              have hin := hk _ (drawOps_ck l hr _ List.mem_cons_self)
              obtain ⟨n, c1, h1, h2, h3⟩ := fin hr (hk'.cons hin)
              exact ⟨n, c1, by rw [h1]; exact h2, h3⟩
            · simp only [if_neg hlh] at hr ⊢
              have hin := hk _ (drawOps_ck l hr _ List.mem_cons_self)
              obtain ⟨n0, hn0⟩ := ex_all (p := fun n b => lo ≤ b → b < hi + 1 → ∀ h, hs1[b]? = some h → Same (callF F n) st o h s'.s)
                (fun n m b hnm h a1 a2 h' hh => stepO_mono (callF_mono F hnm) (h a1 a2 h' hh)) hs1.length (fun b hb => by
                  by_cases hr2 : lo ≤ b ∧ b < hi + 1
                  · obtain ⟨n, hn⟩ := stepO_lim (hin b hr2.1 hr2.2 (hs1[b]'hb) (List.getElem?_eq_getElem hb))
                    refine ⟨n, fun _ _ h hh => ?_⟩
                    rw [List.getElem?_eq_getElem hb] at hh
                    cases hh
                    exact hn
                  · exact ⟨0, fun a1 a2 => absurd ⟨a1, a2⟩ hr2⟩)
              have hck : CkOK hs1 ((lo, hi + 1, fun h => Same (callF F n0) st o h s'.s) :: ck') := hk'.cons fun b a1 a2 h hh =>
                hn0 b (by
                  rcases Nat.lt_or_ge b hs1.length with hlt | hge
                  · exact hlt
                  · rw [List.getElem?_eq_none hge] at hh; cases hh) a1 a2 h hh
              obtain ⟨n, c1, h1, h2, h3⟩ := fin hr hck
              obtain ⟨c2, h4, h5⟩ := drawOps_mono (callF_mono F (Nat.le_max_left n n0)) l h2
                (ck' := (lo, hi + 1, fun h => Same (callF F (max n n0)) st o h s'.s) :: ck') ((CkLe.refl _).cons fun h hh => stepO_mono (callF_mono F (Nat.le_max_right n n0)) hh)
              exact ⟨max n n0, c2, by rw [stepO_mono (callF_mono F (Nat.le_max_left n n0)) h1]; exact h4, h3.le h5⟩

theorem execDraw_lim {F : Nat → Option FnIR} {ops : List (Op1 × Cl)} {st : St} {r : Out × St} (hr : execDraw (call F) ops st = some r) : ∃ n, execDraw (callF F n) ops st = some r := by
  unfold execDraw at hr ⊢
  cases hd : drawOps (call F) ops [st.h] [] st with
  | none => rw [hd] at hr; cases hr
  | some x =>
    obtain ⟨st1, hs1, ck1⟩ := x
    rw [hd] at hr
    simp only at hr
    split at hr
    · rename_i hall
      obtain ⟨n, c1, h1, h2⟩ := drawOps_lim ops hd hall (ck' := []) (fun x hx => by cases hx)
      refine ⟨n, ?_⟩
      rw [h1]
      simp only
      rw [if_pos (show ∀ x ∈ c1, ∀ b, x.1 ≤ b → b < x.2.1 → ∀ h, hs1[b]? = some h → x.2.2 h from h2)]
      exact hr
    · cases hr

theorem iter_lim {b : St → Option (Out × St)} {bn : Nat → St → Option (Out × St)} (hm : ∀ n m st r, n ≤ m → bn n st = some r → bn m st = some r) (hb : ∀ st r, b st = some r → ∃ n, bn n st = some r) :
    ∀ {k : Nat} {st : St} {r : Out × St}, iter b k st = some r → ∃ n, iter (bn n) n st = some r
  | 0, _, _, hr => by cases hr
  | k + 1, st, r, hr => by
    simp only [iter] at hr
    cases hs : b st with
    | none => rw [hs] at hr; cases hr
    | some x =>
      rw [hs] at hr
      obtain ⟨n1, hn1⟩ := hb _ _ hs
      obtain ⟨o', s'⟩ := x
      cases o' with
      | norm =>
        obtain ⟨n2, hn2⟩ := iter_lim hm hb hr
        refine ⟨max n1 n2 + 1, ?_⟩
        simp only [iter]
        rw [hm _ _ _ _ (by omega) hn1]
        exact iter_mono (fun st r h => hm _ _ _ _ (by omega) h) (by omega) hn2
      | _ => exact ⟨n1 + 1, by simp only [iter]; rw [hm _ _ _ _ (by omega) hn1]; exact hr⟩

theorem jumpIter_stop {f : Nat → St → Option (Out × St)} {has : Nat → Bool} {n : Nat} {y : Out × St} (h : ∀ l s, y = (.goto l, s) → has l = false) : jumpIter f has n (some y) = some y := by
  obtain ⟨o, s⟩ := y
  cases o with
  | goto l =>
    have := h l s rfl
    cases n <;> simp [jumpIter, this]
  | _ => cases n <;> rfl

theorem jumpIter_lim {f : Nat → St → Option (Out × St)} {fn : Nat → Nat → St → Option (Out × St)} {has : Nat → Bool} (hm : ∀ n m l st r, n ≤ m → fn n l st = some r → fn m l st = some r)
    (hf : ∀ l st r, f l st = some r → ∃ n, fn n l st = some r) :
    ∀ {k : Nat} {x : Option (Out × St)} {xn : Nat → Option (Out × St)} (_ : ∀ n m r, n ≤ m → xn n = some r → xn m = some r) (_ : ∀ r, x = some r → ∃ n, xn n = some r) {r : Out × St},
      jumpIter f has k x = some r → ∃ n, jumpIter (fn n) has n (xn n) = some r := by
  intro k
  induction k with
  | zero =>
    intro x xn hxm hx r hr
    cases x with
    | none => simp [jumpIter] at hr
    | some y =>
      obtain ⟨n, hn⟩ := hx _ rfl
      have hst : ∀ l s, y = (.goto l, s) → has l = false := by
        rintro l s rfl
        simp only [jumpIter] at hr
        split at hr
        · cases hr
        · rename_i hh; simpa using hh
      rw [jumpIter_stop hst] at hr
      exact ⟨n, by rw [hn, jumpIter_stop hst]; exact hr⟩
  | succ k ih =>
    intro x xn hxm hx r hr
    cases x with
    | none => simp [jumpIter] at hr
    | some y =>
      obtain ⟨n, hn⟩ := hx _ rfl
      by_cases hst : ∀ l s, y = (.goto l, s) → has l = false
      · rw [jumpIter_stop hst] at hr
        exact ⟨n, by rw [hn, jumpIter_stop hst]; exact hr⟩
      · have : ∃ l s, y = (.goto l, s) ∧ has l = true := by
          apply Classical.byContradiction
          intro hc
          exact hst fun l s h => by
            cases hh : has l with
            | false => rfl
            | true => exact absurd ⟨l, s, h, hh⟩ hc
        obtain ⟨l, s, rfl, hl⟩ := this
        simp only [jumpIter, hl, if_true] at hr
        obtain ⟨n2, hn2⟩ := ih (xn := fun n => fn n l s) (fun n m r hnm => hm n m l s r hnm) (hf l s) hr
        refine ⟨max n n2 + 1, ?_⟩
        rw [hxm _ _ _ (by omega) hn]
        simp only [jumpIter, hl, if_true]
        exact jumpIter_mono (fun l st r h => hm _ _ _ _ _ (by omega) h) (by omega) (fun r h => hm _ _ _ _ _ (by omega) h) hn2

theorem execF_mono (F : Nat → Option FnIR) {n m : Nat} (h : n ≤ m) (ir : IR) {st : St} {r : Out × St} (hr : exec (callF F n) n ir st = some r) : exec (callF F m) m ir st = some r :=
  (exec_mono (callF_mono F h) h ir).1 hr
theorem execFromF_mono (F : Nat → Option FnIR) {n m : Nat} (h : n ≤ m) (ir : IR) {l : Nat} {st : St} {r : Out × St} (hr : execFrom (callF F n) n ir l st = some r) : execFrom (callF F m) m ir l st = some r :=
  (exec_mono (callF_mono F h) h ir).2 hr

theorem execL_lim {F : Nat → Option FnIR} : ∀ (ir : IR),
    (∀ {st : St} {r : Out × St}, execL F ir st = some r → ∃ n, exec (callF F n) n ir st = some r) ∧
    (∀ {l : Nat} {st : St} {r : Out × St}, execLFrom F ir l st = some r → ∃ n, execFrom (callF F n) n ir l st = some r) := by
  intro ir
  induction ir with
  | skip => exact ⟨fun h => ⟨0, by simpa only [exec, execL] using h⟩, fun h => by simp [execLFrom] at h⟩
  | reg ops => exact ⟨fun h => by simp only [exec, execL] at h ⊢; exact execOps_lim _ h, fun h => by simp [execLFrom] at h⟩
  | draw ops => exact ⟨fun h => by simp only [exec, execL] at h ⊢; exact execDraw_lim h, fun h => by simp [execLFrom] at h⟩
  | seq a b iha ihb =>
    refine ⟨fun {st r} h => ?_, fun {l st r} h => ?_⟩
    · simp only [exec, execL] at h ⊢
      cases hs : execL F a st with
      | none => rw [hs] at h; cases h
      | some x =>
        rw [hs] at h
        obtain ⟨n1, hn1⟩ := iha.1 hs
        obtain ⟨o', s'⟩ := x
        cases o' with
        | norm =>
          obtain ⟨n2, hn2⟩ := ihb.1 h
          exact ⟨max n1 n2, by rw [execF_mono F (Nat.le_max_left n1 n2) a hn1]; exact execF_mono F (Nat.le_max_right n1 n2) b hn2⟩
        | _ => exact ⟨n1, by rw [hn1]; exact h⟩
    · simp only [execFrom, execLFrom] at h ⊢
      cases hf : findL a l with
      | none => rw [hf] at h; exact ihb.2 h
      | some y =>
        rw [hf] at h
        simp only at h ⊢
        cases hs : execLFrom F a l st with
        | none => rw [hs] at h; cases h
        | some x =>
          rw [hs] at h
          obtain ⟨n1, hn1⟩ := iha.2 hs
          obtain ⟨o', s'⟩ := x
          cases o' with
          | norm =>
            obtain ⟨n2, hn2⟩ := ihb.1 h
            exact ⟨max n1 n2, by rw [execFromF_mono F (Nat.le_max_left n1 n2) a hn1]; exact execF_mono F (Nat.le_max_right n1 n2) b hn2⟩
          | _ => exact ⟨n1, by rw [hn1]; exact h⟩
  | cond e a b iha ihb =>
    refine ⟨fun {st r} h => ?_, fun h => by simp [execLFrom] at h⟩
    simp only [exec, execL] at h ⊢
    split at h
    · rename_i t ht
      simp only [ht]
      cases t
      · exact ihb.1 h
      · exact iha.1 h
    · cases h
  | block id b ihb =>
    refine ⟨fun {st r} h => ?_, fun h => by simp [execLFrom] at h⟩
    simp only [exec, execL] at h ⊢
    cases hs : execL F b st with
    | none => rw [hs] at h; cases h
    | some x =>
      rw [hs] at h
      obtain ⟨n, hn⟩ := ihb.1 hs
      exact ⟨n, by rw [hn]; exact h⟩
  | loop b ihb =>
    refine ⟨fun {st r} h => ?_, fun h => by simp [execLFrom] at h⟩
    simp only [exec, execL] at h ⊢
    obtain ⟨k, hk⟩ := (lim_eq fun n m r hnm => iter_mono (fun _ _ h => h) hnm).mp h
    exact iter_lim (b := fun st => execL F b st) (bn := fun n st => exec (callF F n) n b st) (fun n m st r hnm h => execF_mono F hnm b h) (fun st r h => ihb.1 h) hk
  | exit id => exact ⟨fun h => ⟨0, by simpa only [exec, execL] using h⟩, fun h => by simp [execLFrom] at h⟩
  | scope b ihb =>
    refine ⟨fun {st r} h => ?_, fun h => by simp [execLFrom] at h⟩
    simp only [exec, execL] at h ⊢
    obtain ⟨k, hk⟩ := (lim_eq fun n m r hnm => jumpIter_mono (fun _ _ _ h => h) hnm (fun _ h => h)).mp h
    exact jumpIter_lim (f := fun l st => execLFrom F b l st) (fn := fun n l st => execFrom (callF F n) n b l st) (has := fun l => (findL b l).isSome) (fun n m l st r hnm h => execFromF_mono F hnm b h) (fun l st r h => ihb.2 h) (xn := fun n => exec (callF F n) n b st) (fun n m r hnm h => execF_mono F hnm b h) (fun r h => ihb.1 h) hk
  | label l => exact ⟨fun h => ⟨0, by simpa only [exec, execL] using h⟩, fun h => ⟨0, by simpa only [execFrom, execLFrom] using h⟩⟩
  | goto l => exact ⟨fun h => ⟨0, by simpa only [exec, execL] using h⟩, fun h => by simp [execLFrom] at h⟩
  | ret => exact ⟨fun h => ⟨0, by simpa only [exec, execL] using h⟩, fun h => by simp [execLFrom] at h⟩

/-- A function's call is its body's run. -/
theorem call_of {F : Nat → Option FnIR} {f : Nat} {fn : FnIR} (hf : F f = some fn) {a : List VV} {h : Heap} {r : CRes × Heap} (hr : runFn (execL F) fn a h = some r) : call F f a h = some r := by
  unfold runFn at hr
  cases hs : execL F fn.body ⟨a ++ List.replicate (fn.nt - a.length) .undef, h⟩ with
  | none => rw [hs] at hr; cases hr
  | some x =>
    rw [hs] at hr
    obtain ⟨n, hn⟩ := (execL_lim fn.body).1 hs
    refine call_iff.mpr ⟨n + 1, ?_⟩
    simp only [callF, hf]
    unfold runFn
    rw [hn]
    exact hr

end Go.Vm
