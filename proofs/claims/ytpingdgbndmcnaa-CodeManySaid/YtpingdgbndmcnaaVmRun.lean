/-
  Vm: calls, and regions whose order is the text's (own work).
-/
import Derived.Test.YtpingdgbndmcnaaVmOps
namespace Go.Vm
open Go Go.RowKit
set_option linter.unusedVariables false
set_option linter.unusedSimpArgs false

variable {P : Program} {prot : Nat → Prop} {σ : Stab} {β : Nat → Option Loc} {h : Heap} {w : World} {a : Act} {s : List VV}

/-- What holds behind a call. -/
def CPost (prot : Nat → Prop) (σ : Stab) (β : Nat → Option Loc) (w : World) (r : CRes) (h' : Heap) (e : Ending) (w' : World) : Prop :=
  ∃ σ' β' rv, Fut prot σ β w σ' β' w' ∧ WR prot σ' β' h' w' ∧
    ((∃ v, r = .ret v ∧ e = .returned rv ∧ VR σ' β' rv v) ∨ ∃ v, r = .pan v ∧ e = .panicked [{ v := rv, recovered := false }] ∧ VR σ' β' rv v)

structure CallsOK (P : Program) (call : CallSem) : Prop where
  fn : ∀ f args h r, call f args h = some r → ∃ fnc, P.funcs[f]? = some fnc ∧ (fnc.name == "runtime.NumGoroutine") = false ∧ fnc.body.isNone = false
  go : ∀ f args h r h', call f args h = some (r, h') → ∀ (rargs : Array Value) (prot : Nat → Prop) (σ : Stab) (β : Nat → Option Loc) (w : World), rargs.size = args.length →
    (∀ (i : Nat) (v : Value) (u : VV), rargs[i]? = some v → args[i]? = some u → VR σ β v u) → WR prot σ β h w → Calls P f rargs w (CPost prot σ β w r h')

def noβ : Nat → Option Loc := fun _ => none

theorem closA_rel {v : Value} {u c : VV} {h' : Heap} (hw : WR prot σ β h w) (hr : VR σ β v u) (hc : closA h u = some (c, h')) : ∃ σ', Fut prot σ β w σ' β w ∧ WR prot σ' β h' w ∧ VR σ' noβ v c := by
  unfold closA at hc
  split at hc
  · rename_i cells
    split at hc
    · rename_i cs h1 hcl
      cases hc
      cases hr with
      | agg vs _ hn hk hr =>
        obtain ⟨σ', hF, hW, hlen, hR⟩ := closL_rel (vs := vs.toList) hw (by simpa using hn) (fun i v u hv hu => hr i v u (by simpa using hv) hu) hcl
        refine ⟨σ', hF, hW, .agg _ _ (by simp [hlen, hn]) (fun c hc => ?_) (fun i v c hv hc => ?_)⟩
        · simp only [List.mem_map] at hc
          obtain ⟨q, _, rfl⟩ := hc; rfl
        · rw [List.getElem?_map] at hc
          cases hq : cs[i]? with
          | none => rw [hq] at hc; cases hc
          | some q => rw [hq] at hc; cases hc; exact .cv _ _ (hR i v q (by simpa using hv) hq)
    · cases hc
  · cases hc
    cases hr with
    | rptr A _ f hs hm hr => exact ⟨σ, .refl, hw, .rptr A _ f hs hm hr⟩
  · cases hc
    cases hr with
    | func _ cs _ hn hr => exact ⟨σ, .refl, hw, .func _ cs [] hn (fun i v c hv hc => by simp at hc)⟩
  · split at hc
    · rename_i c1 h1 hcl
      cases hc
      obtain ⟨σ', hF, hW, hR⟩ := clos_rel hw hr hcl
      exact ⟨σ', hF, hW, .cv _ _ hR⟩
    · cases hc

theorem closAs_rel {us : List VV} : ∀ {σ : Stab} {h : Heap} {vs : List Value} {cs : List VV} {h' : Heap}, WR prot σ β h w → vs.length = us.length → (∀ (i : Nat) (v : Value) (u : VV), vs[i]? = some v → us[i]? = some u → VR σ β v u) → closAs h us = some (cs, h') →
    ∃ σ', Fut prot σ β w σ' β w ∧ WR prot σ' β h' w ∧ cs.length = us.length ∧ ∀ (i : Nat) (v : Value) (c : VV), vs[i]? = some v → cs[i]? = some c → VR σ' noβ v c := by
  induction us with
  | nil =>
    intro σ h vs cs h' hw hl hr hc
    cases hc
    exact ⟨σ, .refl, hw, rfl, fun i v c hv hc => by simp at hc⟩
  | cons u us ih =>
    intro σ h vs cs h' hw hl hr hc
    cases vs with
    | nil => simp at hl
    | cons v vs =>
      simp only [closAs] at hc
      split at hc
      · rename_i c1 h1 e1
        split at hc
        · rename_i cs1 h2 e2
          cases hc
          obtain ⟨σ1, hF1, hW1, hR1⟩ := closA_rel hw (hr 0 v u rfl rfl) e1
          obtain ⟨σ2, hF2, hW2, hlen, hR2⟩ := ih hW1 (by simpa using hl) (fun i v u hv hu => (hr (i + 1) v u (by simpa using hv) (by simpa using hu)).mono hF1) e2
          refine ⟨σ2, hF1.trans hF2, hW2, by simp [hlen], fun i v' c' hv hc => ?_⟩
          cases i with
          | zero => simp at hv hc; subst hv hc; exact hR1.mono' hF2.sig (fun id L hL => by cases hL)
          | succ i => exact hR2 i v' c' (by simpa using hv) (by simpa using hc)
        · cases hc
      · cases hc

theorem closRes_rel {v : Value} {u c : VV} (hw : WR prot σ β h w) (hr : VR σ β v u) (hc : closRes h u = some c) : ∃ σ' h', Fut prot σ β w σ' β w ∧ WR prot σ' β h' w ∧ VR σ' noβ v c := by
  unfold closRes at hc
  split at hc
  · rename_i vs
    cases hcl : closAs h vs with
    | none => rw [hcl] at hc; cases hc
    | some p =>
      rw [hcl] at hc; cases hc
      cases hr with
      | tup rs us hn hr =>
        obtain ⟨σ', hF, hW, hlen, hR⟩ := closAs_rel (vs := rs.toList) hw (by simpa using hn) (fun i v u hv hu => hr i v u (by simpa using hv) hu) (cs := p.1) (h' := p.2) hcl
        exact ⟨σ', p.2, hF, hW, .tup _ _ (by simp [hlen, hn]) (fun i v c hv hc => hR i v c (by simpa using hv) hc)⟩
  · cases hcl : closA h u with
    | none => rw [hcl] at hc; cases hc
    | some p =>
      rw [hcl] at hc; cases hc
      obtain ⟨σ', hF, hW, hR⟩ := closA_rel hw hr (c := p.1) (h' := p.2) hcl
      exact ⟨σ', p.2, hF, hW, hR⟩

/-- The callee's own heap is empty, and all that is there is kept. -/
theorem WR.inside (hw : WR prot σ β h w) : WR (fun b => b < w.heap.size) σ noβ [] w :=
  ⟨fun _ h => h, hw.stab, fun id o ho => (by simp at ho), fun id L hL => (by cases hL), fun id o L ho => (by simp at ho), fun id id' o o' L L' _ ho => (by simp at ho)⟩

/-- .. and the caller's state behind it. -/
theorem WR.back {w1 : World} {σ1 : Stab} {β1 : Nat → Option Loc} {hc : Heap} (hw : WR prot σ β h w) (hF : Fut (fun b => b < w.heap.size) σ noβ w σ1 β1 w1) (hW : WR (fun b => b < w.heap.size) σ1 β1 hc w1) :
    Fut prot σ β w σ1 β w1 ∧ WR prot σ1 β h w1 := by
  have hheap : ∀ b, b < w.heap.size → w1.heap[b]? = w.heap[b]? := fun b hb => hF.prot b hb hb
  have hnews : ∀ a, σ1 a ≠ none → σ a ≠ none ∨ w.heap.size ≤ a.block := by
    intro a ha
    rcases hF.news a ha with h | h | ⟨id, L, hL, _⟩
    · exact .inl h
    · exact .inr h
    · cases hL
  have F : Fut prot σ β w σ1 β w1 := ⟨hF.os, hF.tape, hF.output, hF.size, fun b _ hb => hheap b hb, hF.sig, fun id L hL => ⟨L, hL, .inl rfl⟩, fun a ha => (hnews a ha).imp id .inl, fun id L hL => .inr ⟨L, hL, rfl⟩⟩
  refine ⟨F, fun b hb => Nat.lt_of_lt_of_le (hw.pr b hb) hF.size, hW.stab, ?_, hw.dom, ?_, hw.inj⟩
  · intro id o ho
    obtain ⟨L, hL, hO⟩ := hw.obj id o ho
    exact ⟨L, hL, hO.keep F (hheap _ (blk_lt hO.blk))⟩
  · intro id o L ho hfr hL
    obtain ⟨h1, h2⟩ := hw.live id o L ho hfr hL
    refine ⟨h1, fun a ha => ?_⟩
    cases hs : σ1 a with
    | none => rfl
    | some v =>
      obtain ⟨L', hL', hO⟩ := hw.obj id o ho
      rw [hL] at hL'; cases hL'
      have := blk_lt hO.blk
      rcases hnews a (by rw [hs]; simp) with h | h
      · exact absurd (h2 a ha) h
      · omega

theorem doCall_sound {call : CallSem} (hcall : CallsOK P call) {f : Nat} {pure : Bool} {args : List VV} {r : CRes} {h' : Heap} (hd : doCall call h f pure args = some (r, h')) {rargs : Array Value} (hl : rargs.size = args.length)
    (hr : ∀ (i : Nat) (v : Value) (u : VV), rargs[i]? = some v → args[i]? = some u → VR σ β v u) (hw : WR prot σ β h w) :
    (∃ fnc, P.funcs[f]? = some fnc ∧ (fnc.name == "runtime.NumGoroutine") = false ∧ fnc.body.isNone = false) ∧ Calls P f rargs w (CPost prot σ β w r h') := by
  unfold doCall at hd
  cases pure with
  | false =>
    simp only [Bool.false_eq_true, if_false] at hd
    exact ⟨hcall.fn _ _ _ _ hd, hcall.go _ _ _ _ _ hd rargs prot σ β w hl hr hw⟩
  | true =>
    simp only [if_true] at hd
    split at hd
    · rename_i as h1 hcl
      obtain ⟨σ0, hF0, hW0, hlen0, hR0⟩ := closAs_rel (vs := rargs.toList) hw (by simpa using hl) (fun i v u hv hu => hr i v u (by simpa using hv) hu) hcl
      have main : ∀ (q : CRes) (hc : Heap), call f as [] = some (q, hc) → ∀ (u : VV), (q = .ret u ∨ q = .pan u) → ∀ u', closRes hc u = some u' → (r = (match q with | .ret _ => .ret u' | .pan _ => .pan u')) → h' = h1 →
          Calls P f rargs w (CPost prot σ β w r h') := by
        intro q hc hq u hqu u' hcr hrr hh
        subst hh
        refine (hcall.go _ _ _ _ _ hq rargs (fun b => b < w.heap.size) σ0 noβ w (by simp [hlen0, hl]) (fun i v u hv hu => hR0 i v u (by simpa using hv) hu) hW0.inside).mono ?_
        rintro e w' ⟨σ1, β1, rv, hF1, hW1, hres⟩
        have hrv : VR σ1 β1 rv u := by
          rcases hres with ⟨v, hv, _, hR⟩ | ⟨v, hv, _, hR⟩ <;> rcases hqu with h | h <;> (rw [h] at hv; first | (cases hv; done) | (injection hv with hv; subst hv; exact hR))
        obtain ⟨σ2, hh2, hF2, hW2, hV2⟩ := closRes_rel hW1 hrv hcr
        obtain ⟨hF3, hW3⟩ := hW0.back (hF1.trans hF2) hW2
        refine ⟨σ2, β, rv, hF0.trans hF3, hW3, ?_⟩
        have hV3 : VR σ2 β rv u' := hV2.ext (fun id L hL => by cases hL)
        rcases hres with ⟨v, hv, he, _⟩ | ⟨v, hv, he, _⟩
        · subst hv; exact .inl ⟨u', hrr, he, hV3⟩
        · subst hv; exact .inr ⟨u', hrr, he, hV3⟩
      split at hd
      · rename_i v hc hq
        cases hcr : closRes hc v with
        | none => rw [hcr] at hd; cases hd
        | some u' =>
          rw [hcr] at hd; cases hd
          exact ⟨hcall.fn _ _ _ _ hq, main _ hc hq v (.inl rfl) u' hcr rfl rfl⟩
      · rename_i v hc hq
        cases hcr : closRes hc v with
        | none => rw [hcr] at hd; cases hd
        | some u' =>
          rw [hcr] at hd; cases hd
          exact ⟨hcall.fn _ _ _ _ hq, main _ hc hq v (.inr rfl) u' hcr rfl rfl⟩
      · cases hd
    · cases hd

/-- How a guard is told. -/
def GR (ops : Array Oper) (o : Oper) (g : Option (Nat × Bool)) : Prop :=
  (o.guard = none ∧ g = none) ∨ ∃ j b d, o.guard = some (j, b) ∧ (ops[j]?).bind (·.dst) = some d ∧ g = some (d, b)

theorem compO_inv {refs : List Nat} {own : Bool} {ops : Array Oper} {o : Oper} {o1 : Op1} (hc : compO P refs own ops o = some o1) : compOp P refs own o = some o1.i ∧ o1.d = o.dst ∧ GR ops o o1.g := by
  unfold compO at hc
  split at hc
  · rename_i i hi
    split at hc
    · rename_i hg; cases hc; exact ⟨hi, rfl, .inl ⟨hg, rfl⟩⟩
    · rename_i j b hg
      split at hc
      · rename_i d hd; cases hc; exact ⟨hi, rfl, .inr ⟨j, b, d, hg, hd, rfl⟩⟩
      · cases hc
  · cases hc

theorem wanted_rel {ops : Array Oper} {o : Oper} {g : Option (Nat × Bool)} {t : Bool} (hg : GR ops o g) (hf : FR σ β a.tmps s) (hw : wantedV s g = some t) : Region.wanted o (yielded ops a.tmps) = t := by
  unfold Region.wanted
  rcases hg with ⟨h1, rfl⟩ | ⟨j, b, d, h1, h2, rfl⟩
  · rw [h1]; cases hw; rfl
  · rw [h1]
    simp only [wantedV] at hw
    split at hw
    · rename_i t' hs
      cases hw
      have hlt : d < a.tmps.size := by rw [hf.1]; exact (List.getElem?_eq_some_iff.1 hs).1
      have := scalar_of (hf.2 d a.tmps[d] _ (by simp [hlt]) hs)
      unfold yielded
      simp only [h2, Option.bind_some]
      rw [Array.getElem?_eq_getElem hlt, this]
      simp
    · cases hw

theorem callFunc_enter {f : Nat} {args : Array Value} {fnc : Func} (h1 : P.funcs[f]? = some fnc) (h2 : (fnc.name == "runtime.NumGoroutine") = false) (h3 : fnc.body.isNone = false) (w : World) : (callFunc f args).run P w = .ok (.enter f args) w := by
  unfold callFunc
  rw [run_bind_ok (x := P) (w1 := w) rfl]
  simp only [h1, h2, h3, Bool.false_eq_true, if_false]
  rfl

theorem inv_call {refs : List Nat} {own : Bool} {o : Oper} {f : Nat} {pure : Bool} {args : List Opd} (hc : compOp P refs own o = some (.call f pure args)) : ∃ c, o.op = .call c ∧ c.callee = .value (.func f) ∧ opds c.args.toList = some args := by
  unfold compOp at hc
  cases hop : o.op with
  | call c =>
    rw [hop] at hc; simp only at hc
    repeat' (first | (cases hc; done) | (obtain ⟨_, _, e⟩ := map_some hc; cases e; done) | split at hc)
    rename_i f' hcal
    obtain ⟨l, hl, e⟩ := map_some hc
    cases e
    exact ⟨c, rfl, hcal, hl⟩
  | _ =>
    exfalso
    rw [hop] at hc; simp only at hc
    repeat' (first | (cases hc; done) | (obtain ⟨_, _, e⟩ := map_some hc; cases e; done) | (rename_i hq; cases hq; done) | split at hc)

theorem inv_callv {refs : List Nat} {own : Bool} {o : Oper} {pure : Bool} {x : Opd} {args : List Opd} (hc : compOp P refs own o = some (.callv pure x args)) : ∃ c y, o.op = .call c ∧ c.callee = .value y ∧ opd y = some x ∧ opds c.args.toList = some args := by
  unfold compOp at hc
  cases hop : o.op with
  | call c =>
    rw [hop] at hc; simp only at hc
    repeat' (first | (cases hc; done) | (obtain ⟨_, _, e⟩ := map_some hc; cases e; done) | split at hc)
    rename_i y hnf hcal _ _ x' l hx hl
    cases hc
    exact ⟨c, y, rfl, hcal, hx, hl⟩
  | _ =>
    exfalso
    rw [hop] at hc; simp only at hc
    repeat' (first | (cases hc; done) | (obtain ⟨_, _, e⟩ := map_some hc; cases e; done) | (rename_i hq; cases hq; done) | split at hc)

theorem inv_panic {refs : List Nat} {own : Bool} {o : Oper} {x : Opd} (hc : compOp P refs own o = some (.panic x)) : ∃ y, o.op = .panic y ∧ opd y = some x := by
  unfold compOp at hc
  cases hop : o.op with
  | panic y =>
    rw [hop] at hc; simp only at hc
    obtain ⟨z, hz, e⟩ := map_some hc
    cases e
    exact ⟨y, rfl, hz⟩
  | _ =>
    exfalso
    rw [hop] at hc; simp only at hc
    repeat' (first | (cases hc; done) | (obtain ⟨_, _, e⟩ := map_some hc; cases e; done) | (rename_i hq; cases hq; done) | split at hc)

/-- One operation. -/
theorem stepO_sound {call : CallSem} (hcall : CallsOK P call) {refs : List Nat} {own : Bool} {ops : Array Oper} {o : Oper} {o1 : Op1} {out : Out} {s' : List VV} {h' : Heap} (hc : compO P refs own ops o = some o1) (hs : stepO call ⟨s, h⟩ o1 = some (out, ⟨s', h'⟩))
    (hf : FR σ β a.tmps s) (hw : WR prot σ β h w) :
    (out = .norm ∧ ∃ u, s' = putD s o.dst u ∧ ∀ K Q, (∀ rv w' σ' β', Fut prot σ β w σ' β' w' → WR prot σ' β' h' w' → VR σ' β' rv u → K (a.put o.dst rv) w') → o.wp P a w K Q) ∨
    (∃ v, out = .pan v ∧ s' = s ∧ ∀ K Q, (∀ rv w' σ' β', Fut prot σ β w σ' β' w' → WR prot σ' β' h' w' → VR σ' β' rv v → Q (.panic [{ v := rv, recovered := false }]) a w') → o.wp P a w K Q) := by
  obtain ⟨hci, hd, hg⟩ := compO_inv hc
  have callGo : ∀ (f : Nat) (pure : Bool) (args : List VV) (rargs : Array Value), rargs.size = args.length → (∀ (i : Nat) (v : Value) (u : VV), rargs[i]? = some v → args[i]? = some u → VR σ β v u) →
      (∀ fnc, P.funcs[f]? = some fnc → (fnc.name == "runtime.NumGoroutine") = false → fnc.body.isNone = false → (execOp a.eval o).run P w = .ok (.enter f rargs) w) →
      (match doCall call h f pure args with
        | some (.ret v, h) => some (Out.norm, (⟨putD s o1.d v, h⟩ : St))
        | some (.pan v, h) => some (.pan v, ⟨s, h⟩)
        | none => none) = some (out, ⟨s', h'⟩) →
      (out = .norm ∧ ∃ u, s' = putD s o.dst u ∧ ∀ K Q, (∀ rv w' σ' β', Fut prot σ β w σ' β' w' → WR prot σ' β' h' w' → VR σ' β' rv u → K (a.put o.dst rv) w') → o.wp P a w K Q) ∨
      (∃ v, out = .pan v ∧ s' = s ∧ ∀ K Q, (∀ rv w' σ' β', Fut prot σ β w σ' β' w' → WR prot σ' β' h' w' → VR σ' β' rv v → Q (.panic [{ v := rv, recovered := false }]) a w') → o.wp P a w K Q) := by
    intro f pure args rargs hl hr hgo hs
    split at hs
    · rename_i v hh hdc
      cases hs
      obtain ⟨⟨fnc, q1, q2, q3⟩, hC⟩ := doCall_sound hcall hdc hl hr hw
      refine .inl ⟨rfl, v, by rw [hd], fun K Q hK => ?_⟩
      unfold Oper.wp
      rw [hgo fnc q1 q2 q3, Oper.upon_enter]
      refine hC.mono ?_
      rintro e w' ⟨σ', β', rv, hF, hW, hres⟩
      rcases hres with ⟨v', hv, rfl, hR⟩ | ⟨v', hv, _, _⟩
      · cases hv; exact hK rv w' σ' β' hF hW hR
      · cases hv
    · rename_i v hh hdc
      cases hs
      obtain ⟨⟨fnc, q1, q2, q3⟩, hC⟩ := doCall_sound hcall hdc hl hr hw
      refine .inr ⟨v, rfl, rfl, fun K Q hK => ?_⟩
      unfold Oper.wp
      rw [hgo fnc q1 q2 q3, Oper.upon_enter]
      refine hC.mono ?_
      rintro e w' ⟨σ', β', rv, hF, hW, hres⟩
      rcases hres with ⟨v', hv, _, _⟩ | ⟨v', hv, rfl, hR⟩
      · cases hv
      · cases hv; exact hK rv w' σ' β' hF hW hR
    · cases hs
  have plain : ∀ v hh, stepI h (evalO s) o1.i = some (v, hh) → out = .norm → s' = putD s o1.d v → h' = hh →
      (out = .norm ∧ ∃ u, s' = putD s o.dst u ∧ ∀ K Q, (∀ rv w' σ' β', Fut prot σ β w σ' β' w' → WR prot σ' β' h' w' → VR σ' β' rv u → K (a.put o.dst rv) w') → o.wp P a w K Q) ∨
      (∃ v, out = .pan v ∧ s' = s ∧ ∀ K Q, (∀ rv w' σ' β', Fut prot σ β w σ' β' w' → WR prot σ' β' h' w' → VR σ' β' rv v → Q (.panic [{ v := rv, recovered := false }]) a w') → o.wp P a w K Q) := by
    intro v hh hst e1 e2 e3
    subst e1 e2 e3
    obtain ⟨rv, w', σ', β', hgo, hF, hW, hV⟩ := step_sound hci hst hf hw
    refine .inl ⟨rfl, v, by rw [hd], fun K Q hK => ?_⟩
    unfold Oper.wp
    rcases hgo with hgo | ⟨hgo, rfl⟩
    · rw [hgo, Oper.upon_value]; exact hK rv w' σ' β' hF hW hV
    · rw [hgo, Oper.upon_skip]; exact hK _ w' σ' β' hF hW hV
  unfold stepO at hs
  simp only at hs
  split at hs
  · -- a call of a function
    rename_i f pure args hi
    rw [hi] at hci
    obtain ⟨c, hop, hcal, hargs⟩ := inv_call hci
    obtain ⟨hl, hr⟩ := opds_rel hargs hf
    refine callGo f pure _ (c.args.map a.eval) (by simpa using hl) (fun i v u hv hu => hr i v u (by simpa using hv) hu) (fun fnc q1 q2 q3 => ?_) hs
    unfold execOp; rw [hop]
    have hres : (resolve a.eval c o.type).run P w = .ok { target := .fn (.func f) #[], args := c.args.map a.eval } w := by
      have : resolve a.eval c o.type = Deferred.ofValue (.func (.func f) #[] #[]) (c.args.map a.eval) := by unfold resolve; rw [hcal]; rfl
      rw [this]; simp [Deferred.ofValue]
    rw [run_bind_ok hres]
    simp only [invoke, Array.append_empty]
    exact callFunc_enter q1 q2 q3 w
  · -- a call of a value
    rename_i pure x args hi
    rw [hi] at hci
    obtain ⟨c, y, hop, hcal, hy, hargs⟩ := inv_callv hci
    obtain ⟨hl, hr⟩ := opds_rel hargs hf
    have ry := opd_rel hy hf
    split at hs
    · rename_i f caps e1
      rw [e1] at ry
      generalize hX : a.eval y = X at ry
      cases ry with
      | func _ cs _ hn hcr =>
        refine callGo f pure _ (c.args.map a.eval ++ cs) (by simp at hl; simp [hl, hn]) (fun i v u hv hu => ?_) (fun fnc q1 q2 q3 => ?_) hs
        · rw [Array.getElem?_append] at hv
          rw [List.getElem?_append] at hu
          have hsz : (c.args.map a.eval).size = (args.map (evalO s)).length := by simpa using hl
          rw [hsz] at hv
          split at hv
          · rename_i hlt
            rw [if_pos hlt] at hu
            exact hr i v u (by simpa using hv) hu
          · rename_i hge
            rw [if_neg hge] at hu
            exact hcr _ v u hv hu
        · unfold execOp; rw [hop]
          have hres : (resolve a.eval c o.type).run P w = .ok { target := .fn (.func f) cs, args := c.args.map a.eval } w := by
            have : resolve a.eval c o.type = Deferred.ofValue (.func (.func f) #[] cs) (c.args.map a.eval) := by unfold resolve; rw [hcal]; simp only [hX]
            rw [this]; simp [Deferred.ofValue]
          rw [run_bind_ok hres]
          simp only [invoke]
          exact callFunc_enter q1 q2 q3 w
    · cases hs
  · -- a panic
    rename_i x hi
    rw [hi] at hci
    obtain ⟨y, hop, hy⟩ := inv_panic hci
    have ry := opd_rel hy hf
    split at hs
    · rename_i t v e1
      cases hs
      rw [e1] at ry
      generalize hX : a.eval y = X at ry
      cases ry with
      | iface _ x _ hr =>
        refine .inr ⟨.iface t v, rfl, rfl, fun K Q hK => ?_⟩
        unfold Oper.wp
        have : (execOp a.eval o).run P w = .halt (.panic (.iface t x)) w := by
          unfold execOp; rw [hop]
          simp only [hX, Instr.panic, goPanic]
          rfl
        rw [this, Oper.upon_panic]
        exact hK _ w σ β .refl hw (.iface t x v hr)
    · cases hs
  · rename_i i hn1 hn2 hn3
    split at hs
    · rename_i v hh hst
      cases hs
      exact plain v _ hst rfl rfl rfl
    · cases hs

end Go.Vm
