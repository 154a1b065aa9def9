/-
  Vm: regions that draw their order (own work), second part: every order comes to what the text's comes to.
-/
import Derived.Test.YtpingdgbndmcnaaVmDraw1
import Derived.Still
namespace Go.Vm
open Go Go.RowKit
set_option linter.unusedVariables false
set_option linter.unusedSimpArgs false

variable {P : Program} {prot : Nat → Prop} {σ : Stab} {β : Nat → Option Loc} {h : Heap} {w : World} {a : Act} {s : List VV}

/-- What holds behind a piece of code. -/
def ER (σ : Stab) (β : Nat → Option Loc) (out : Out) (s : List VV) (a : Act) (e : Exit) : Prop :=
  a.defers = [] ∧ match out with
    | .norm => e = .normal ∧ FR σ β a.tmps s
    | .exit i => e = .exit i ∧ FR σ β a.tmps s
    | .goto l => e = .goto l ∧ FR σ β a.tmps s
    | .ret => e = .ret ∧ FR σ β a.tmps s
    | .pan v => ∃ rv, e = .panic [{ v := rv, recovered := false }] ∧ VR σ β rv v

def SimPost (prot : Nat → Prop) (σ : Stab) (β : Nat → Option Loc) (w : World) (out : Out) (st : St) (e : Exit) (a' : Act) (w' : World) : Prop :=
  ∃ σ' β', Fut prot σ β w σ' β' w' ∧ WR prot σ' β' st.h w' ∧ ER σ' β' out st.s a' e

theorem SimPost.after {σ1 : Stab} {β1 : Nat → Option Loc} {w1 w' : World} {out : Out} {st : St} {e : Exit} {a' : Act} (hF : Fut prot σ β w σ1 β1 w1) (h : SimPost prot σ1 β1 w1 out st e a' w') : SimPost prot σ β w out st e a' w' := by
  obtain ⟨σ', β', h1, h2, h3⟩ := h
  exact ⟨σ', β', hF.trans h1, h2, h3⟩

theorem cntK_le {l : List (Op1 × Cl)} {f g : Nat → Bool} (h : ∀ k, k < l.length → isK l k = true → f k = true → g k = true) : cntK l f ≤ cntK l g := by
  unfold cntK
  have : ∀ (m : List Nat), (∀ k ∈ m, k < l.length) → (m.filter fun k => isK l k && f k).length ≤ (m.filter fun k => isK l k && g k).length := by
    intro m
    induction m with
    | nil => intro _; simp
    | cons k m ih =>
      intro hm
      have i1 := ih (fun k hk => hm k (by simp [hk]))
      have hk := h k (hm k (by simp))
      simp only [List.filter_cons]
      by_cases h1 : (isK l k && f k) = true
      · simp only [Bool.and_eq_true] at h1
        have h2 : (isK l k && g k) = true := by simp [h1.1, hk h1.1 h1.2]
        rw [if_pos (by simp [h1]), if_pos h2]; simp only [List.length_cons]; omega
      · rw [if_neg h1]
        split
        · simp only [List.length_cons]; omega
        · exact i1
  exact this _ (fun k hk => by simpa using hk)

theorem cntK_eq {l : List (Op1 × Cl)} {f g : Nat → Bool} (h : ∀ k, k < l.length → isK l k = true → f k = g k) : cntK l f = cntK l g :=
  Nat.le_antisymm (cntK_le fun k h1 h2 h3 => by rw [← h k h1 h2]; exact h3) (cntK_le fun k h1 h2 h3 => by rw [h k h1 h2]; exact h3)

theorem cntK_add {l : List (Op1 × Cl)} {f g : Nat → Bool} (i : Nat) (hi : i < l.length) (hf : f i = false) (hg : g i = true) (h : ∀ k, k ≠ i → f k = g k) : cntK l g = cntK l f + if isK l i = true then 1 else 0 := by
  unfold cntK
  have : ∀ (n : Nat), ((List.range n).filter fun k => isK l k && g k).length = ((List.range n).filter fun k => isK l k && f k).length + if i < n ∧ isK l i = true then 1 else 0 := by
    intro n
    induction n with
    | zero => simp
    | succ n ih =>
      rw [List.range_succ, List.filter_append, List.filter_append, List.length_append, List.length_append, ih]
      by_cases hn : n = i
      · subst hn
        simp only [List.filter_cons, List.filter_nil, hf, hg, Bool.and_true, Bool.and_false, Bool.false_eq_true, if_false, List.length_nil, Nat.add_zero]
        rw [if_neg (by omega)]
        by_cases hk : isK l n = true
        · simp [hk]
        · simp [hk]
      · simp only [List.filter_cons, List.filter_nil, h n hn]
        have e : (i < n + 1 ∧ isK l i = true) ↔ (i < n ∧ isK l i = true) := ⟨fun ⟨a, b⟩ => ⟨by omega, b⟩, fun ⟨a, b⟩ => ⟨by omega, b⟩⟩
        simp only [e]
        omega
  rw [this]
  by_cases hk : isK l i = true
  · rw [if_pos ⟨hi, hk⟩, if_pos hk]
  · rw [if_neg (fun h => hk h.2), if_neg hk]

theorem isK_at {l : List (Op1 × Cl)} {i : Nat} {x : Op1} {c : Cl} (h : l[i]? = some (x, c)) : isK l i = true ↔ c = .k := by
  unfold isK
  rw [h]
  cases c <;> simp

theorem kc_cnt : ∀ (l : List (Op1 × Cl)) (i : Nat), i ≤ l.length → kc l i = cntK l (fun k => decide (k < i)) := by
  intro l i
  induction i with
  | zero =>
    intro _
    have : cntK l (fun k => decide (k < 0)) = 0 := by unfold cntK; simp
    rw [this]; cases l <;> simp [kc]
  | succ i ih =>
    intro hi
    have h1 := cntK_add (l := l) (f := fun k => decide (k < i)) (g := fun k => decide (k < i + 1)) i (by omega) (by simp) (by simp) (fun k hk => by simp only [decide_eq_decide]; omega)
    rw [h1, ← ih (by omega)]
    have step : ∀ (l : List (Op1 × Cl)) (i : Nat), i < l.length → kc l (i + 1) = kc l i + if isK l i = true then 1 else 0 := by
      intro l
      induction l with
      | nil => intro i hi; simp at hi
      | cons x l ih2 =>
        intro i hi
        obtain ⟨o, c⟩ := x
        cases i with
        | zero =>
          have hk : isK ((o, c) :: l) 0 = true ↔ c = .k := isK_at rfl
          cases c <;> simp [kc, hk]
        | succ i =>
          have : isK ((o, c) :: l) (i + 1) = isK l i := by simp [isK]
          have h2 := ih2 i (by simpa using hi)
          rw [this]
          cases c <;> simp only [kc] <;> omega
    exact step l i (by omega)

theorem compOps_at {refs : List Nat} {owns : List (Nat × Nat)} {id : Nat} {ops : Array Oper} : ∀ {l : List Oper} {k : Nat} {lo : List Op1}, compOps P refs owns id ops k l = some lo → lo.length = l.length ∧ ∀ (j : Nat) (o : Oper), l[j]? = some o → ∃ x own, lo[j]? = some x ∧ compO P refs own ops o = some x
  | [], k, lo, h => by cases h; exact ⟨rfl, fun j o h => by simp at h⟩
  | o :: l, k, lo, h => by
    simp only [compOps] at h
    split at h
    · rename_i x lr e1 e2
      cases h
      obtain ⟨h1, h2⟩ := compOps_at e2
      refine ⟨by simp [h1], fun j o' hj => ?_⟩
      cases j with
      | zero => simp at hj; subst hj; exact ⟨x, _, rfl, e1⟩
      | succ j => exact h2 j o' (by simpa using hj)
    · cases h

/-- The facts of a region that may be carried out in any order. -/
structure DOK (P : Program) (refs : List Nat) (ops : Array Oper) (l : List (Op1 × Cl)) (T : Nat → List Nat) : Prop where
  len : l.length = ops.size
  op : ∀ (i : Nat) (o : Oper), ops[i]? = some o → ∃ x c own, l[i]? = some (x, c) ∧ compO P refs own ops o = some x
  af : ∀ (i : Nat) (o : Oper), ops[i]? = some o → ∀ e ∈ o.after, Region.binds .any e = true → e.on < i
  tt : ∀ (i : Nat) (o : Oper), ops[i]? = some o → ∀ j ∈ T i, ∃ e ∈ o.after, Region.binds .any e = true ∧ (j = e.on ∨ j ∈ T e.on)
  cp : ∀ (i : Nat) (x : Op1), l[i]? = some (x, Cl.p) → kindOf x.i = 0
  cr : ∀ (i : Nat) (x : Op1) (lo hi : Nat), l[i]? = some (x, Cl.r lo hi) → lo = cntK l (fun k => (T i).contains k) ∧ hi = cntK l (fun k => !(T k).contains i)
  dst : ∀ (i j : Nat) (x y : Op1) (c c' : Cl), i ≠ j → l[i]? = some (x, c) → l[j]? = some (y, c') → ∀ d, x.d = some d → y.d ≠ some d ∧ (d ∈ looks1 y.g (opdsOf y.i) → if i < j then i ∈ T j else j ∈ T i)
  ch : ∀ (i j : Nat), isK l i = true → isK l j = true → i < j → j < l.length → i ∈ T j

theorem dok_of {refs : List Nat} {owns : List (Nat × Nat)} {id : Nat} {ops : Array Oper} {l : List (Op1 × Cl)} (hc : compDraw P refs owns id ops = some l) : ∃ T, DOK P refs ops l T := by
  unfold compDraw at hc
  split at hc
  · rename_i l1 hl1
    simp only at hc
    split at hc
    · rename_i hok
      cases hc
      obtain ⟨c1, c2⟩ := compOps_at hl1
      generalize hT : befT ops.toList [] = Tl at hok
      generalize hcl : (fun (x : Op1 × Nat) => (x.1, if (owns.contains (id, x.2) || kindOf x.1.i == 2) = true then Cl.k else if (kindOf x.1.i == 0) = true then Cl.p else
          Cl.r (cntK (l1.zipIdx.map fun (x : Op1 × Nat) => (x.1, if (owns.contains (id, x.2) || kindOf x.1.i == 2) = true then Cl.k else Cl.p)) fun k => (Tl.getD x.2 []).contains k) (cntK (l1.zipIdx.map fun (x : Op1 × Nat) => (x.1, if (owns.contains (id, x.2) || kindOf x.1.i == 2) = true then Cl.k else Cl.p)) fun k => !(Tl.getD k []).contains x.2))) = F at hok
      have hF : ∀ y, (F y).1 = y.1 := by intro y; rw [← hcl]
      have hlen : (l1.zipIdx.map F).length = ops.size := by simp [c1]
      have hat : ∀ (i : Nat) (o : Oper), ops[i]? = some o → ∃ x c own, (l1.zipIdx.map F)[i]? = some (x, c) ∧ compO P refs own ops o = some x := by
        intro i o ho
        obtain ⟨x, own, h1, h2⟩ := c2 i o (by simpa using ho)
        refine ⟨x, (F (x, i)).2, own, ?_, h2⟩
        rw [List.getElem?_map, List.getElem?_zipIdx, h1]
        simp only [Option.map_some, Nat.zero_add, Option.some.injEq]
        exact Prod.ext (hF _) rfl
      generalize hL : l1.zipIdx.map F = L at hok hlen hat
      unfold drawOK at hok
      simp only [Bool.and_eq_true, beq_iff_eq] at hok
      obtain ⟨⟨k1, k2⟩, k3⟩ := hok
      rw [List.all_eq_true] at k3
      have haf : ∀ (i : Nat) (o : Oper), ops[i]? = some o → (ops.toList.map afterOf).getD i [] = afterOf o := by
        intro i o ho
        simp [List.getD_eq_getElem?_getD, ho]
      have memaf : ∀ (o : Oper) (j : Nat), j ∈ afterOf o ↔ ∃ e ∈ o.after, Region.binds .any e = true ∧ e.on = j := by
        intro o j
        unfold afterOf
        rw [List.mem_filterMap]
        constructor
        · rintro ⟨e, he, h⟩
          split at h
          · rename_i hb; cases h; exact ⟨e, by simpa using he, hb, rfl⟩
          · cases h
        · rintro ⟨e, he, hb, rfl⟩
          exact ⟨e, by simpa using he, by rw [if_pos hb]⟩
      have hi_of : ∀ (i : Nat) (o : Oper), ops[i]? = some o → i ∈ List.range L.length := by
        intro i o ho
        rw [List.mem_range, hlen]; exact (Array.getElem?_eq_some_iff.1 ho).1
      refine ⟨fun i => Tl.getD i [], ⟨hlen, hat, ?_, ?_, ?_, ?_, ?_, ?_⟩⟩
      · intro i o ho e he hb
        have := k3 i (hi_of i o ho)
        simp only [Bool.and_eq_true] at this
        have h1 := this.1.1.1
        rw [haf i o ho, List.all_eq_true] at h1
        simpa using h1 e.on ((memaf o e.on).2 ⟨e, he, hb, rfl⟩)
      · intro i o ho j hj
        have := k3 i (hi_of i o ho)
        simp only [Bool.and_eq_true] at this
        have h1 := this.1.1.2
        rw [haf i o ho, List.all_eq_true] at h1
        have h2 := h1 j hj
        simp only [Bool.or_eq_true, List.contains_iff_mem, List.any_eq_true] at h2
        rcases h2 with h2 | ⟨e, he, h2⟩
        · obtain ⟨e, he, hb, rfl⟩ := (memaf o j).1 h2
          exact ⟨e, he, hb, .inl rfl⟩
        · obtain ⟨e', he', hb, rfl⟩ := (memaf o e).1 he
          exact ⟨e', he', hb, .inr h2⟩
      · intro i x hx
        have := k3 i (by rw [List.mem_range]; exact (List.getElem?_eq_some_iff.1 hx).1)
        simp only [Bool.and_eq_true] at this
        have h1 := this.1.2
        rw [hx] at h1
        simpa using h1
      · intro i x lo hi hx
        have := k3 i (by rw [List.mem_range]; exact (List.getElem?_eq_some_iff.1 hx).1)
        simp only [Bool.and_eq_true] at this
        have h1 := this.1.2
        rw [hx] at h1
        simpa using h1
      · intro i j x y c c' hij hx hy d hd
        have := k3 i (by rw [List.mem_range]; exact (List.getElem?_eq_some_iff.1 hx).1)
        simp only [Bool.and_eq_true] at this
        have h1 := this.2
        rw [List.all_eq_true] at h1
        have h2 := h1 j (by rw [List.mem_range]; exact (List.getElem?_eq_some_iff.1 hy).1)
        rw [hx, hy] at h2
        simp only [Bool.or_eq_true, beq_iff_eq, hij, false_or, hd, Bool.and_eq_true] at h2
        obtain ⟨⟨h3, h4⟩, _⟩ := h2
        refine ⟨by simpa using h3, fun hm => ?_⟩
        rcases h4 with h4 | h4
        · exact absurd hm (by simpa using h4)
        · split at h4
          · rename_i hlt; rw [if_pos hlt]; simpa using h4
          · rename_i hlt; rw [if_neg hlt]; simpa using h4
      · intro i j hi hj hlt hjl
        have := k3 i (by rw [List.mem_range]; omega)
        simp only [Bool.and_eq_true] at this
        have h1 := this.2
        rw [List.all_eq_true] at h1
        have h2 := h1 j (by rw [List.mem_range]; exact hjl)
        have hij : i ≠ j := by omega
        cases hx : L[i]? with
        | none => rw [List.getElem?_eq_none_iff] at hx; omega
        | some x =>
          cases hy : L[j]? with
          | none => rw [List.getElem?_eq_none_iff] at hy; omega
          | some y =>
            rw [hx, hy] at h2
            simp only [Bool.or_eq_true, beq_iff_eq, hij, false_or, Bool.and_eq_true] at h2
            have h3 := h2.2
            rw [if_pos ⟨⟨hi, hj⟩, by simpa using hlt⟩] at h3
            simpa using h3
    · cases hc
  · cases hc

end Go.Vm
