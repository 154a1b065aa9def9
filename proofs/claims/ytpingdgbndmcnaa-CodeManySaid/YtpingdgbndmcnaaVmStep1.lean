/-
  Vm: the plain steps are the machine's (own work), first part: what does not touch memory.
-/
import Derived.Test.YtpingdgbndmcnaaVmComp
namespace Go.Vm
open Go Go.RowKit
set_option linter.unusedVariables false
set_option linter.unusedSimpArgs false

variable {P : Program} {prot : Nat → Prop} {σ : Stab} {β : Nat → Option Loc} {h : Heap} {w : World} {a : Act} {s : List VV}

def Goes (P : Program) (o : Oper) (a : Act) (w : World) (rv : Value) (w' : World) : Prop :=
  (execOp a.eval o).run P w = .ok (.value rv) w' ∨ ((execOp a.eval o).run P w = .ok .skip w' ∧ rv = undef)

def Sim (P : Program) (o : Oper) (a : Act) (prot : Nat → Prop) (σ : Stab) (β : Nat → Option Loc) (w : World) (v : VV) (h' : Heap) : Prop :=
  ∃ rv w' σ' β', Goes P o a w rv w' ∧ Fut prot σ β w σ' β' w' ∧ WR prot σ' β' h' w' ∧ VR σ' β' rv v

theorem Sim.pure {o : Oper} {rv : Value} {v : VV} (hw : WR prot σ β h w) (hr : (execOp a.eval o).run P w = .ok (.value rv) w) (hv : VR σ β rv v) : Sim P o a prot σ β w v h :=
  ⟨rv, w, σ, β, .inl hr, .refl, hw, hv⟩

theorem mapM_scV {l : List Value} {cs : List CV} (hm : l.mapM scV = some cs) : l.length = cs.length ∧ ∀ (i : Nat) (v : Value) (c : CV), l[i]? = some v → cs[i]? = some c → scalar v = true ∧ c = .sc v := by
  induction l generalizing cs with
  | nil => simp at hm; subst hm; exact ⟨rfl, fun i v c h1 => by simp at h1⟩
  | cons x l ih =>
    rw [List.mapM_cons] at hm
    simp only [Option.bind_eq_bind, Option.bind_eq_some_iff, Option.pure_def, Option.some.injEq] at hm
    obtain ⟨y, hy, ys, hys, rfl⟩ := hm
    obtain ⟨h1, h2⟩ := ih hys
    refine ⟨by simp [h1], fun i v c hv hc => ?_⟩
    cases i with
    | zero =>
      simp at hv hc; subst hv hc
      unfold scV at hy
      split at hy
      · rename_i hsc; simp at hy; exact ⟨hsc, hy.symm⟩
      · cases hy
    | succ i => simp at hv hc; exact h2 i v c hv hc

theorem scV_rel {v : Value} {c : CV} (hc : scV v = some c) : CR σ v c := by
  unfold scV at hc
  split at hc
  · rename_i hs; cases hc; exact .sc v hs
  · cases hc

theorem constV_rel {v : Value} {u : VV} (hc : constV v = some u) : VR σ β v u := by
  unfold constV at hc
  split at hc
  · rename_i cs
    cases hm : cs.toList.mapM scV with
    | none => rw [hm] at hc; cases hc
    | some l =>
      rw [hm] at hc
      cases hc
      obtain ⟨h1, h2⟩ := mapM_scV hm
      refine .agg cs _ (by simpa using h1) (fun c hc => ?_) (fun i v c hv hc => ?_)
      · simp only [List.mem_map] at hc
        obtain ⟨x, _, rfl⟩ := hc
        rfl
      · rw [List.getElem?_map] at hc
        cases hx : l[i]? with
        | none => rw [hx] at hc; cases hc
        | some x =>
          rw [hx] at hc; cases hc
          have := h2 i v x (by simpa using hv) hx
          obtain ⟨e1, rfl⟩ := this
          exact .sc e1
  · rename_i f first captured
    split at hc
    · rename_i he
      cases hc
      simp at he
      obtain ⟨rfl, rfl⟩ := he
      exact .func f #[] [] rfl (fun i v c hv => by simp at hv)
    · cases hc
  · rename_i h1 h2
    cases hs : scV v with
    | none => rw [hs] at hc; cases hc
    | some c => rw [hs] at hc; cases hc; exact .cv _ _ (scV_rel hs)

theorem opd_rel {x : Operand} {y : Opd} (hx : opd x = some y) (hf : FR σ β a.tmps s) : VR σ β (a.eval x) (evalO s y) := by
  cases x with
  | tmp t =>
    cases hx
    simp only [Act.eval, evalO]
    rcases Nat.lt_or_ge t s.length with hlt | hge
    · have h1 : a.tmps[t]? = some (a.tmps.getD t undef) := by simp [hf.1, hlt]
      have h2 : s[t]? = some (s.getD t .undef) := by simp [hlt]
      exact hf.2 t _ _ h1 h2
    · rw [List.getD_eq_getElem?_getD, List.getElem?_eq_none hge]; exact .undef _
  | const v =>
    simp only [opd] at hx
    cases hc : constV v with
    | none => rw [hc] at hx; cases hx
    | some u => rw [hc] at hx; cases hx; exact constV_rel hc
  | global g => cases hx
  | func f => cases hx; exact .func f #[] [] rfl (fun i v c hv => by simp at hv)

theorem scalar_of {v : Value} {u : Value} (hr : VR σ β v (.cv (.sc u))) : v = u := hr.sc_inv.1

theorem sim_mv {o : Oper} {x : Operand} {i : Ins} {v : VV} {h' : Heap} (ho : o.op = .move x ∨ o.op = .assign x) (hc : (opd x).map Ins.mv = some i) (hs : stepI h (evalO s) i = some (v, h')) (hf : FR σ β a.tmps s) (hw : WR prot σ β h w) :
    Sim P o a prot σ β w v h' := by
  cases hx : opd x with
  | none => rw [hx] at hc; cases hc
  | some y =>
    rw [hx] at hc; cases hc
    simp only [stepI] at hs
    cases hs
    refine .pure hw ?_ (opd_rel hx hf)
    rcases ho with e | e <;> (unfold execOp; rw [e]; rfl)

theorem sim_pick {o : Oper} {c x y : Operand} {v : VV} {h' : Heap} (ho : o.op = .pick c x y) {c' x' y' : Opd} (h1 : opd c = some c') (h2 : opd x = some x') (h3 : opd y = some y')
    (hs : stepI h (evalO s) (.pick c' x' y') = some (v, h')) (hf : FR σ β a.tmps s) (hw : WR prot σ β h w) : Sim P o a prot σ β w v h' := by
  have r1 := opd_rel h1 hf
  simp only [stepI] at hs
  split at hs
  · rename_i t e
    rw [e] at r1
    have e1 := scalar_of r1
    cases hs
    refine .pure (rv := if t then a.eval x else a.eval y) hw ?_ ?_
    · unfold execOp; rw [ho]; simp only [e1]; cases t <;> rfl
    · cases t
      · exact opd_rel h3 hf
      · exact opd_rel h2 hf
  · cases hs

theorem isNil_rel {v : Value} {u : VV} {t : Bool} (hr : VR σ β v u) (hn : isNil u = some t) : (t = true → v = .pointer none ∨ v = .slice none 0 0 ∨ v = .nilFunc ∨ v = .nilIface) ∧
    (t = false → (∃ A, v = .pointer (some A)) ∨ (∃ A n c, v = .slice (some A) n c) ∨ (∃ f cs, v = .func (.func f) #[] cs) ∨ ∃ T x, v = .iface T x) := by
  cases hr with
  | cv v c hcr =>
    cases hcr with
    | sc v hs => cases v <;> simp [isNil] at hn <;> (try split at hn) <;> simp_all
    | sl => simp [isNil] at hn; subst hn; simp
  | own => simp [isNil] at hn; subst hn; simp
  | ob => simp [isNil] at hn; subst hn; simp
  | ptr => simp [isNil] at hn; subst hn; simp
  | eptr => simp [isNil] at hn; subst hn; simp
  | rptr => simp [isNil] at hn; subst hn; simp
  | agg => simp [isNil] at hn
  | tup => simp [isNil] at hn
  | func => simp [isNil] at hn; subst hn; simp
  | iface => simp [isNil] at hn; subst hn; simp
  | undef => simp [isNil] at hn

theorem sim_nilck {o : Oper} {x : Operand} {i : Ins} {v : VV} {h' : Heap} (ho : o.op = .nilCheck x) (hc : (opd x).map Ins.nilck = some i) (hs : stepI h (evalO s) i = some (v, h')) (hf : FR σ β a.tmps s) (hw : WR prot σ β h w) :
    Sim P o a prot σ β w v h' := by
  cases hx : opd x with
  | none => rw [hx] at hc; cases hc
  | some y =>
    rw [hx] at hc; cases hc
    have r := opd_rel hx hf
    simp only [stepI] at hs
    split at hs
    · rename_i e
      have hv : v = evalO s y ∧ h' = h := by split at hs <;> simp_all
      obtain ⟨rfl, rfl⟩ := hv
      refine .pure hw ?_ r
      have := (isNil_rel r e).2 rfl
      have hne : ∀ A n c, a.eval x ≠ .slice (some A) n c := by
        intro A n c e1
        rw [e1] at r
        cases hy : evalO s y with
        | cv c => rw [hy] at hs; simp at hs
        | own => rw [hy] at hs; simp at hs
        | ob => rw [hy] at hs; simp at hs
        | _ => rw [hy] at r; cases r
               try (rw [hy] at hs; simp at hs)
      rcases this with ⟨A, e1⟩ | ⟨A, n, c, e1⟩ | ⟨f, cs, e1⟩ | ⟨T, z, e1⟩
      · unfold execOp; rw [ho]; simp only [e1]; rfl
      · exact absurd e1 (hne A n c)
      · unfold execOp; rw [ho]; simp only [e1]; rfl
      · unfold execOp; rw [ho]; simp only [e1]; rfl
    · cases hs

theorem scalar_int (k : IntKind) (n : Int) : scalar (.int k n) = true := rfl
theorem scalar_bool (b : Bool) : scalar (.bool b) = true := rfl
theorem scalar_string (b : ByteArray) : scalar (.string b) = true := rfl

theorem toList_data (x : ByteArray) : x.toList = x.data.toList := by
  first | exact ByteArray.toList_eq x | simp [ByteArray.toList_data]

end Go.Vm
