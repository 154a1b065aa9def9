/-
  Vm: the plain steps are the machine's (own work), second part: arithmetic, comparisons, conversions.
-/
import Derived.Test.YtpingdgbndmcnaaVmStep1
namespace Go.Vm
open Go Go.RowKit
set_option linter.unusedVariables false
set_option linter.unusedSimpArgs false

variable {P : Program} {prot : Nat → Prop} {σ : Stab} {β : Nat → Option Loc} {h : Heap} {w : World} {a : Act} {s : List VV}

theorem eqGuard_plain (op : BinOp) (t : TypeId) (x y : Operand) (u v : Value) (h1 : ∀ cs, u ≠ .agg cs) (h2 : u = .nilIface → v = .nilIface → ((∃ z, x = .const z) ∨ ∃ z, y = .const z)) (w : World) :
    (eqGuard op t x y u v).run P w = .ok () w := by
  unfold eqGuard
  cases op
  case eql | neq =>
    cases u <;> cases v <;> first | rfl | (exact absurd rfl (h1 _)) | skip
    rcases h2 rfl rfl with h | h
    · obtain ⟨z, rfl⟩ := h; simp
    · obtain ⟨z, rfl⟩ := h; simp
  all_goals rfl

theorem run_bind_ok {α γ : Type} {m : Sem α} {f : α → Sem γ} {w w1 : World} {x : α} (h : m.run P w = .ok x w1) : (m >>= f).run P w = (f x).run P w1 := by
  rw [Sem.run_bind, h]; rfl

theorem binV_scalar {op : BinOp} {x y z : Value} (h : binV op x y = some z) : scalar z = true := by
  unfold binV at h
  split at h
  · split at h <;> (try split at h) <;> first | (cases h; rfl) | cases h
  · split at h <;> (try split at h) <;> first | (cases h; rfl) | cases h
  · cases h

theorem binV_run {op : BinOp} {t : TypeId} {x y z : Value} (h : binV op x y = some z) : binOp op t x y = pure z := by
  unfold binV at h
  split at h
  · rename_i k m k' n
    cases op <;> simp only at h <;> split at h <;> first | (cases h; done) | skip
    all_goals (rename_i hk; try (first | subst hk | (obtain ⟨hk, hn⟩ := hk; subst hk)))
    all_goals cases h
    all_goals first
        | rfl
        | (simp only [binOp, ne_eq, not_true_eq_false, if_false, Op.intArith]; done)
        | (simp only [binOp, ne_eq, not_true_eq_false, if_false, Op.intDiv, if_neg hn]; done)
        | (simp only [binOp, ne_eq, not_true_eq_false, if_false, Op.intBits]; done)
        | (simp only [binOp, ne_eq, not_true_eq_false, if_false, Op.intCmp]; done)
        | (simp only [binOp, Op.shift]; rw [if_neg hk]; done)
        | skip
  · rename_i m n
    cases op <;> simp only at h <;> (try split at h) <;> first | (cases h; done) | skip
    all_goals cases h
    all_goals simp only [binOp, Op.stringOp, toList_data]
    rename_i hk
    rw [if_neg]
    show ¬ (((m.size + n.size : Nat) : Int) > 9223372036854775807)
    omega
  · cases h

theorem sim_bin {o : Oper} {op : BinOp} {t yt : TypeId} {x y : Operand} {x' y' : Opd} {v : VV} {h' : Heap} (ho : o.op = .binOp op t x y yt) (h1 : opd x = some x') (h2 : opd y = some y')
    (hs : stepI h (evalO s) (.bin op x' y') = some (v, h')) (hf : FR σ β a.tmps s) (hw : WR prot σ β h w) : Sim P o a prot σ β w v h' := by
  have r1 := opd_rel h1 hf
  have r2 := opd_rel h2 hf
  simp only [stepI] at hs
  split at hs
  · rename_i u1 u2 e1 e2
    rw [e1] at r1; rw [e2] at r2
    have q1 := scalar_of r1
    have q2 := scalar_of r2
    cases hb : binV op u1 u2 with
    | none => rw [hb] at hs; cases hs
    | some z =>
      rw [hb] at hs; cases hs
      refine .pure hw ?_ (.sc (binV_scalar hb))
      have hg := eqGuard_plain (P := P) op t x y u1 u2 (fun cs e => by subst e; simp [binV] at hb) (fun e1 e2 => by subst e1; simp [binV] at hb) w
      unfold execOp; rw [ho]
      simp only [q1, q2]
      rw [run_bind_ok (x := z) (w1 := w)]
      · rfl
      · rw [run_bind_ok hg, binV_run hb]; rfl
  · cases hs

theorem run_under {t : TypeId} {d : TypeDesc} (hd : P.underlying t = some d) (w : World) : (underlying t).run P w = .ok d w := by
  unfold underlying
  simp [program, bind, Sem.bind, Sem.run, hd, pure]

theorem sim_eqb {o : Oper} {neg : Bool} {t yt : TypeId} {x y : Operand} {x' y' : Opd} {v : VV} {h' : Heap} (ho : o.op = .binOp (if neg then .neq else .eql) t x y yt) (ht : P.underlying t = some .bool) (h1 : opd x = some x') (h2 : opd y = some y')
    (hs : stepI h (evalO s) (.eqb neg x' y') = some (v, h')) (hf : FR σ β a.tmps s) (hw : WR prot σ β h w) : Sim P o a prot σ β w v h' := by
  have r1 := opd_rel h1 hf
  have r2 := opd_rel h2 hf
  simp only [stepI] at hs
  split at hs
  · rename_i u1 u2 e1 e2
    rw [e1] at r1; rw [e2] at r2
    have q1 := scalar_of r1
    have q2 := scalar_of r2
    cases hs
    refine .pure hw ?_ (.sc rfl)
    have hg := eqGuard_plain (P := P) (if neg then .neq else .eql) t x y (.bool u1) (.bool u2) (fun cs e => by cases e) (fun e1 e2 => by cases e1) w
    have he : (Op.equal t (.bool u1) (.bool u2)).run P w = .ok (u1 == u2) w := by
      unfold Op.equal Op.maxDepth
      rw [Op.equalIn, run_bind_ok (run_under ht w)]
      rfl
    unfold execOp; rw [ho]
    simp only [q1, q2]
    rw [run_bind_ok (x := .bool (if neg then !(u1 == u2) else u1 == u2)) (w1 := w)]
    · rfl
    · rw [run_bind_ok hg]
      cases neg
      · simp only [binOp, Bool.false_eq_true, if_false]; rw [run_bind_ok he]; rfl
      · simp only [binOp, if_true]; rw [run_bind_ok he]; rfl
  · cases hs

def NilIs : NK → Bool → Value → Prop
  | .ptr, t, v => if t then v = .pointer none else ∃ A, v = .pointer (some A)
  | .slice, t, v => if t then v = .slice none 0 0 else ∃ A n c, v = .slice (some A) n c
  | .func, t, v => if t then v = .nilFunc else ∃ f cs, v = .func (.func f) #[] cs
  | .iface, t, v => if t then v = .nilIface else ∃ T x, v = .iface T x

theorem isNilK_rel {k : NK} {v : Value} {u : VV} {t : Bool} (hr : VR σ β v u) (hn : isNilK k u = some t) :
    NilIs k t v := by
  unfold NilIs
  cases hr with
  | cv v c hcr =>
    cases hcr with
    | sc v hs => cases k <;> cases v <;> simp [isNilK] at hn <;> (try split at hn) <;> simp_all <;> (subst hn; simp)
    | sl => cases k <;> simp [isNilK] at hn; subst hn; simp
  | own => cases k <;> simp [isNilK] at hn; subst hn; simp
  | ob => cases k <;> simp [isNilK] at hn; subst hn; simp
  | ptr => cases k <;> simp [isNilK] at hn; subst hn; simp
  | eptr => cases k <;> simp [isNilK] at hn; subst hn; simp
  | rptr => cases k <;> simp [isNilK] at hn; subst hn; simp
  | agg => cases k <;> simp [isNilK] at hn
  | tup => cases k <;> simp [isNilK] at hn
  | func => cases k <;> simp [isNilK] at hn; subst hn; simp
  | iface => cases k <;> simp [isNilK] at hn; subst hn; simp
  | undef => cases k <;> simp [isNilK] at hn

def nilV : NK → Value
  | .ptr => .pointer none
  | .slice => .slice none 0 0
  | .func => .nilFunc
  | .iface => .nilIface

theorem isNilC_eq {k : NK} {y : Operand} (h : isNilC k y = true) : y = .const (nilV k) := by
  unfold isNilC at h
  split at h <;> first | rfl | cases h

theorem equal_nil {k : NK} {t : TypeId} {d : TypeDesc} (ht : P.underlying t = some d) (hk : nkOf d = some k) {y : Operand} {v : Value} {b : Bool} (hy : isNilC k y = true)
    (hv : NilIs k b v) (w : World) :
    (Op.equal t v (a.eval y)).run P w = .ok b w ∧ (Op.equal t (a.eval y) v).run P w = .ok b w := by
  unfold Op.equal Op.maxDepth
  rw [Op.equalIn, Op.equalIn, run_bind_ok (run_under ht w), run_bind_ok (run_under ht w)]
  obtain rfl := isNilC_eq hy
  simp only [Act.eval]
  cases d <;> simp [nkOf] at hk <;> subst hk <;> simp only [nilV] <;> cases b <;> simp [NilIs] at hv
  case pointer.false => obtain ⟨A, rfl⟩ := hv; exact ⟨rfl, rfl⟩
  case pointer.true => subst hv; exact ⟨rfl, rfl⟩
  case slice.false => obtain ⟨A, n, c, rfl⟩ := hv; exact ⟨rfl, rfl⟩
  case slice.true => subst hv; exact ⟨rfl, rfl⟩
  case func.false => obtain ⟨f, cs, rfl⟩ := hv; exact ⟨rfl, rfl⟩
  case func.true => subst hv; exact ⟨rfl, rfl⟩
  case interface.false => obtain ⟨T, z, rfl⟩ := hv; exact ⟨rfl, rfl⟩
  case interface.true => subst hv; exact ⟨rfl, rfl⟩


/-- No number, no text: '==' goes by the type. -/
def plainEq : Value → Bool
  | .int _ _ | .float _ _ | .complex _ _ _ | .string _ => false
  | _ => true

theorem binOp_eql {t : TypeId} {x y : Value} (h : plainEq x = true) : binOp .eql t x y = (do pure (.bool (← Op.equal t x y))) := by
  cases x <;> first | rfl | cases h
theorem binOp_neq {t : TypeId} {x y : Value} (h : plainEq x = true) : binOp .neq t x y = (do pure (.bool (!(← Op.equal t x y)))) := by
  cases x <;> first | rfl | cases h

theorem sim_eqn {o : Oper} {neg : Bool} {t yt : TypeId} {x y : Operand} {z : Opd} {k : NK} {d : TypeDesc} {v : VV} {h' : Heap} (ho : o.op = .binOp (if neg then .neq else .eql) t x y yt) (ht : P.underlying t = some d) (hk : nkOf d = some k)
    (hz : (opd x = some z ∧ isNilC k y = true) ∨ (opd y = some z ∧ isNilC k x = true))
    (hs : stepI h (evalO s) (.eqn k neg z) = some (v, h')) (hf : FR σ β a.tmps s) (hw : WR prot σ β h w) : Sim P o a prot σ β w v h' := by
  simp only [stepI] at hs
  split at hs
  · rename_i b hb
    cases hs
    have key : ∀ u c : Value, plainEq u = true → (∀ cs, u ≠ .agg cs) → (u = .nilIface → c = .nilIface → ((∃ z, x = .const z) ∨ ∃ z, y = .const z)) → a.eval x = u → a.eval y = c → (Op.equal t u c).run P w = .ok b w →
        Sim P o a prot σ β w (.cv (.sc (.bool (if neg then !b else b)))) h := by
      intro u c hp hagg hi e1 e2 he
      refine .pure hw ?_ (.sc rfl)
      have hg := eqGuard_plain (P := P) (if neg then .neq else .eql) t x y u c hagg hi w
      unfold execOp; rw [ho]
      simp only [e1, e2]
      rw [run_bind_ok (x := .bool (if neg then !b else b)) (w1 := w)]
      · rfl
      · rw [run_bind_ok hg]
        cases neg
        · simp only [Bool.false_eq_true, if_false]; rw [binOp_eql hp, run_bind_ok he]; rfl
        · simp only [if_true]; rw [binOp_neq hp, run_bind_ok he]; rfl
    rcases hz with ⟨h1, h2⟩ | ⟨h1, h2⟩
    · have hr := isNilK_rel (opd_rel h1 hf) hb
      obtain ⟨q1, _⟩ := equal_nil (a := a) ht hk h2 hr w
      have hy := isNilC_eq h2
      refine key _ _ ?_ ?_ ?_ rfl rfl q1
      · cases k <;> cases b <;> simp [NilIs] at hr <;> first | (obtain ⟨A, e⟩ := hr; rw [e]; rfl) | (obtain ⟨A, n, e⟩ := hr; rw [e]; rfl) | (obtain ⟨A, n, c, e⟩ := hr; rw [e]; rfl) | (rw [hr]; rfl)
      · intro cs e; rw [e] at hr
        cases k <;> cases b <;> simp [NilIs] at hr
      · intro _ _; exact .inr ⟨_, hy⟩
    · have hr := isNilK_rel (opd_rel h1 hf) hb
      obtain ⟨_, q1⟩ := equal_nil (a := a) ht hk h2 hr w
      have hy := isNilC_eq h2
      refine key _ _ ?_ ?_ ?_ rfl rfl q1
      · rw [hy]; cases k <;> rfl
      · intro cs e; rw [hy] at e; cases k <;> cases e
      · intro _ _; exact .inl ⟨_, hy⟩
  · cases hs

theorem sim_un {o : Oper} {op : UnOp} {t : TypeId} {x : Operand} {y : Opd} {v : VV} {h' : Heap} (ho : o.op = .unOp op t x) (h1 : opd x = some y)
    (hs : stepI h (evalO s) (.un op y) = some (v, h')) (hf : FR σ β a.tmps s) (hw : WR prot σ β h w) : Sim P o a prot σ β w v h' := by
  have r1 := opd_rel h1 hf
  simp only [stepI] at hs
  split at hs
  · rename_i u e1
    rw [e1] at r1
    have q1 := scalar_of r1
    cases hb : unV op u with
    | none => rw [hb] at hs; cases hs
    | some z =>
      rw [hb] at hs; cases hs
      have hz : scalar z = true ∧ Op.unary op u = pure z := by
        unfold unV at hb
        split at hb
        · cases op <;> simp only at hb <;> first | (cases hb; exact ⟨rfl, rfl⟩) | cases hb
        · cases op <;> simp only at hb <;> first | (cases hb; exact ⟨rfl, rfl⟩) | cases hb
        · cases hb
      refine .pure hw ?_ (.sc hz.1)
      unfold execOp; rw [ho]
      simp only [q1, hz.2]; rfl
  · cases hs

theorem run_convert_int {src dst : TypeId} {k k' : IntKind} {n : Int} {d : TypeDesc} (h1 : P.underlying src = some d) (h2 : P.underlying dst = some (.int k)) (w : World) : (convert src dst (.int k' n)).run P w = .ok (.int k (k.wrap n)) w := by
  unfold convert
  rw [run_bind_ok (run_under h1 w), run_bind_ok (run_under h2 w)]
  cases d <;> rfl

theorem sim_cvI {o : Oper} {src dst : TypeId} {x : Operand} {y : Opd} {k : IntKind} {d : TypeDesc} {v : VV} {h' : Heap} (ho : o.op = .convert src dst x) (hd1 : P.underlying src = some d) (hd2 : P.underlying dst = some (.int k)) (h1 : opd x = some y)
    (hs : stepI h (evalO s) (.cvI k y) = some (v, h')) (hf : FR σ β a.tmps s) (hw : WR prot σ β h w) : Sim P o a prot σ β w v h' := by
  have r1 := opd_rel h1 hf
  simp only [stepI] at hs
  split at hs
  · rename_i k' n e1
    rw [e1] at r1
    have q1 := scalar_of r1
    cases hs
    refine .pure hw ?_ (.sc rfl)
    unfold execOp; rw [ho]
    simp only [q1]
    rw [run_bind_ok (run_convert_int hd1 hd2 w)]; rfl
  · cases hs

theorem sim_cvSS {o : Oper} {src dst : TypeId} {x : Operand} {y : Opd} {v : VV} {h' : Heap} (ho : o.op = .convert src dst x) (hd1 : P.underlying src = some .string) (hd2 : P.underlying dst = some .string) (h1 : opd x = some y)
    (hs : stepI h (evalO s) (.cvSS y) = some (v, h')) (hf : FR σ β a.tmps s) (hw : WR prot σ β h w) : Sim P o a prot σ β w v h' := by
  have r1 := opd_rel h1 hf
  simp only [stepI] at hs
  split at hs
  · rename_i b e1
    rw [e1] at r1
    have q1 := scalar_of r1
    cases hs
    refine .pure hw ?_ (.sc rfl)
    unfold execOp; rw [ho]
    simp only [q1]
    unfold convert
    rw [run_bind_ok (w := w) (w1 := w) (x := .string b)]
    · rfl
    · rw [run_bind_ok (run_under hd1 w), run_bind_ok (run_under hd2 w)]; rfl
  · cases hs

theorem sim_mkif {o : Oper} {t : TypeId} {x : Operand} {y : Opd} {d : TypeDesc} {v : VV} {h' : Heap} (ho : o.op = .makeInterface t x) (hd : P.underlying t = some d) (hn : ∀ ms, d ≠ .interface ms) (h1 : opd x = some y)
    (hs : stepI h (evalO s) (.mkif t y) = some (v, h')) (hf : FR σ β a.tmps s) (hw : WR prot σ β h w) : Sim P o a prot σ β w v h' := by
  have r1 := opd_rel h1 hf
  simp only [stepI] at hs
  cases hs
  refine .pure hw ?_ (.iface t _ _ r1)
  unfold execOp; rw [ho]
  simp only [Instr.makeInterface]
  rw [run_bind_ok (w := w) (w1 := w) (x := .iface t (a.eval x))]
  · rfl
  · rw [run_bind_ok (run_under hd w)]
    cases d <;> first | rfl | (exact absurd rfl (hn _))

theorem opds_rel {xs : List Operand} {ys : List Opd} (hx : opds xs = some ys) (hf : FR σ β a.tmps s) : xs.length = ys.length ∧ ∀ (i : Nat) (v : Value) (u : VV), (xs.map a.eval)[i]? = some v → (ys.map (evalO s))[i]? = some u → VR σ β v u := by
  induction xs generalizing ys with
  | nil => cases hx; exact ⟨rfl, fun i v u h1 => by simp at h1⟩
  | cons x r ih =>
    simp only [opds] at hx
    split at hx
    · rename_i y l h1 h2
      cases hx
      obtain ⟨e, hr⟩ := ih h2
      refine ⟨by simp [e], fun i v u hv hu => ?_⟩
      cases i with
      | zero => simp at hv hu; subst hv hu; exact opd_rel h1 hf
      | succ i => simp only [List.map_cons, List.getElem?_cons_succ] at hv hu; exact hr i v u hv hu
    · cases hx

theorem sim_mkfn {o : Oper} {f : Nat} {first caps : Array Operand} {l : List Opd} {v : VV} {h' : Heap} (ho : o.op = .makeFunc (.func f) first caps) (he : first.isEmpty = true) (h1 : opds caps.toList = some l)
    (hs : stepI h (evalO s) (.mkfn f l) = some (v, h')) (hf : FR σ β a.tmps s) (hw : WR prot σ β h w) : Sim P o a prot σ β w v h' := by
  obtain ⟨e, hr⟩ := opds_rel h1 hf
  simp only [stepI] at hs
  cases hs
  have hfirst : first = #[] := by simpa using he
  subst hfirst
  refine .pure hw (rv := .func (.func f) #[] (caps.map a.eval)) ?_ ?_
  · unfold execOp; rw [ho]; simp [Instr.makeFunc]
  · refine .func f _ _ (by simpa using e) (fun i v c hv hc => hr i v c ?_ hc)
    simpa using hv

theorem fold_mnmx (isMin : Bool) (P : Program) (w : World) : ∀ (l : List VV) (rs : List Value) (v u : Value), rs.length = l.length → (∀ (i : Nat) (r : Value) (x : VV), rs[i]? = some r → l[i]? = some x → VR σ β r x) → mnmxL isMin v l = some u →
    (∃ k n, v = .int k n) → ((rs.foldlM (if isMin then Builtin.min2 else Builtin.max2) v : Sem Value).run P w = .ok u w) ∧ ∃ k n, u = .int k n := by
  intro l
  induction l with
  | nil =>
    intro rs v u hl hr hm hv
    simp only [List.length_nil, List.length_eq_zero_iff] at hl
    subst hl
    cases hm
    exact ⟨rfl, hv⟩
  | cons x l ih =>
    intro rs v u hl hr hm hv
    cases rs with
    | nil => simp at hl
    | cons r rs =>
      have r0 := hr 0 r x rfl rfl
      obtain ⟨k, n, rfl⟩ := hv
      have hx : ∃ k' m, x = .cv (.sc (.int k' m)) := by
        unfold mnmxL at hm
        cases x with
        | cv c =>
          cases c with
          | sc u0 => cases u0 <;> simp [mnmxV] at hm ⊢
          | sl z els ex => simp at hm
        | _ => simp at hm
      obtain ⟨k', m, rfl⟩ := hx
      have q := scalar_of r0
      subst q
      simp only [mnmxL, mnmxV] at hm
      obtain ⟨i1, i2⟩ := ih rs _ _ (by simpa using hl) (fun i r x h1 h2 => hr (i + 1) r x (by simpa using h1) (by simpa using h2)) hm ⟨_, _, rfl⟩
      refine ⟨?_, i2⟩
      rw [List.foldlM_cons]
      cases isMin
      · simp only [Bool.false_eq_true, if_false] at i1 ⊢
        rw [run_bind_ok (x := .int k (if m > n then m else n)) (w1 := w) (by simp [Builtin.max2])]
        exact i1
      · simp only [if_true] at i1 ⊢
        rw [run_bind_ok (x := .int k (if m < n then m else n)) (w1 := w) (by simp [Builtin.min2])]
        exact i1

theorem sim_mnmx {o : Oper} {isMin : Bool} {c : Call} {l : List Opd} {v : VV} {h' : Heap} (ho : o.op = .call c) (hc : c.callee = .builtin (if isMin then .min else .max)) (h1 : opds c.args.toList = some l)
    (hs : stepI h (evalO s) (.mnmx isMin l) = some (v, h')) (hf : FR σ β a.tmps s) (hw : WR prot σ β h w) : Sim P o a prot σ β w v h' := by
  obtain ⟨e, hr⟩ := opds_rel h1 hf
  simp only [stepI] at hs
  split at hs
  · rename_i v0 r hl
    split at hs
    · rename_i u hm
      split at hs
      · rename_i k n
        cases hs
        rw [hl] at hr
        have hlen : (c.args.toList.map a.eval).length = r.length + 1 := by
          have := congrArg List.length hl
          simp at this e ⊢; omega
        cases hrs : c.args.toList.map a.eval with
        | nil => rw [hrs] at hlen; simp at hlen
        | cons r0 rs =>
          rw [hrs] at hr hlen
          have q := scalar_of (hr 0 r0 _ rfl rfl)
          subst q
          obtain ⟨i1, k2, n2, rfl⟩ := fold_mnmx isMin P w r rs _ _ (by simpa using hlen) (fun i r x h1 h2 => hr (i + 1) r x (by simpa using h1) (by simpa using h2)) hm ⟨_, _, rfl⟩
          refine .pure hw (rv := .int k2 n2) ?_ (.sc rfl)
          unfold execOp; rw [ho]
          have hargs : (c.args.map a.eval).toList = .int k n :: rs := by simpa using hrs
          simp only [resolve, hc]
          cases isMin
          · simp only [Bool.false_eq_true, if_false] at i1 ⊢
            simp [invoke, builtin, Builtin.max_, hrs, i1]
          · simp only [if_true] at i1 ⊢
            simp [invoke, builtin, Builtin.min_, hrs, i1]
      · cases hs
    · cases hs
  · cases hs

theorem sim_cplx {o : Oper} {c : Call} {x y : Operand} {x' y' : Opd} {v : VV} {h' : Heap} (ho : o.op = .call c) (hc : c.callee = .builtin .complex) (ha : c.args.toList = [x, y]) (h1 : opd x = some x') (h2 : opd y = some y')
    (hs : stepI h (evalO s) (.cplx x' y') = some (v, h')) (hf : FR σ β a.tmps s) (hw : WR prot σ β h w) : Sim P o a prot σ β w v h' := by
  have r1 := opd_rel h1 hf
  have r2 := opd_rel h2 hf
  simp only [stepI] at hs
  split at hs
  · rename_i k u1 k' u2 e1 e2
    rw [e1] at r1; rw [e2] at r2
    have q1 := scalar_of r1
    have q2 := scalar_of r2
    split at hs
    · rename_i hk
      cases hs
      refine .pure hw ?_ (.sc rfl)
      have hargs : c.args = #[x, y] := by rw [← ha]
      unfold execOp; rw [ho]
      subst hk
      have hcx : ∀ A T, Builtin.complex_ A T #[.float k u1, .float k u2] = (if k = k then pure (.complex k u1 u2) else stuck "complex: parts of different kinds") := fun _ _ => rfl
      simp [resolve, hc, invoke, builtin, hargs, q1, q2, hcx]
    · cases hs
  · cases hs

theorem sim_ext {o : Oper} {x : Operand} {i : Nat} {y : Opd} {v : VV} {h' : Heap} (ho : o.op = .extract x i) (h1 : opd x = some y)
    (hs : stepI h (evalO s) (.ext y i) = some (v, h')) (hf : FR σ β a.tmps s) (hw : WR prot σ β h w) : Sim P o a prot σ β w v h' := by
  have r1 := opd_rel h1 hf
  simp only [stepI] at hs
  split at hs
  · rename_i vs e1
    rw [e1] at r1
    split at hs
    · rename_i u hu
      cases hs
      generalize hx : a.eval x = X at r1
      cases r1 with
      | tup rs us hn hr =>
        have hi : i < rs.size := by rw [hn]; exact (List.getElem?_eq_some_iff.1 hu).1
        refine .pure hw (rv := rs[i]) ?_ (hr i _ _ (by simp [hi]) hu)
        unfold execOp; rw [ho]
        simp [hx, Instr.extract, hi]
    · cases hs
  · cases hs

end Go.Vm
