/- Part of a proof: of what it says, and when, each theorem tells itself. -/
import Derived.Test.YtpingdgbndmcnaaC01n
set_option linter.unusedSimpArgs false
namespace Go.V01
open Go Go.Vm

/-! ### the document's answer: rows that are read -/

/-- How a loop of reading ends. -/
def RL (z : Nat) (len : Nat) (v0 : VV) (x : List (List CV) × Nat × Nat) (o : Out) (s : List VV) (h : Heap) : Prop :=
  s.length = len ∧ ((x.2.2 ≠ 0 ∧ o = .ret ∧ s.getD 2 .undef = nilS ∧ s.getD 3 .undef = vi .i64 x.2.2) ∨
    (x.2.2 = 0 ∧ o = .exit 0 ∧ s.getD 0 .undef = v0 ∧ (∃ v, s.getD 7 .undef = v ∧ BufG h z x.1 v) ∧ s.getD 5 .undef = vi .i64 x.2.1 ∧ s.getD 6 .undef = vi .i64 0))

theorem f40_loop (b : List UInt8) (vb_ : VV) (hv : SlV 1 (eB b) vb_) (hb : b.length ≤ 1000000000) (n : Nat) (hn : n ≤ 5000) : ∀ (m i a : Nat) (out : List (List CV)) (s : List VV) (h : Heap) (v : VV) (Q : Pst), i + m = n → out.length + m ≤ 5000 → s.length = 70 →
    s.getD 0 .undef = vb_ → s.getD 4 .undef = vi .i64 n → s.getD 5 .undef = vi .i64 a → s.getD 6 .undef = vi .i64 0 → s.getD 7 .undef = v → s.getD 8 .undef = vi .i64 i → BufG h 2 out v →
    (∀ o s' h', RL 2 70 vb_ (wholeF (getRow b) m a out) o s' h' → Q o ⟨s', h'⟩) →
    X F (.loop f40_2) ⟨s, h⟩ Q := by
  intro m
  induction m with
  | zero =>
    intro i a out s h v Q hi hol hs h0 h4 h5 h6 h7 h8 hbuf hQ
    rw [X_loop, X_eq f40_2.eq_1]
    have hlt : ¬ (i : Int) < (n : Int) := by omega
    simp only [go_sem, Nat.reduceLT, Nat.reduceEqDiff, reduceCtorEq, Int.reduceLT, Int.reduceEq, hs, h4, h6, h8, hlt]
    exact hQ _ _ _ ⟨by simp only [slot_len, hs], .inr ⟨rfl, rfl, by simp only [go_sem, Nat.reduceLT, Nat.reduceEqDiff, reduceCtorEq, Int.reduceLT, Int.reduceEq, h0], ⟨v, by simp only [go_sem, Nat.reduceLT, Nat.reduceEqDiff, reduceCtorEq, Int.reduceLT, Int.reduceEq, h7], hbuf⟩, by simp only [go_sem, Nat.reduceLT, Nat.reduceEqDiff, reduceCtorEq, Int.reduceLT, Int.reduceEq, h5, wholeF], by simp only [go_sem, Nat.reduceLT, Nat.reduceEqDiff, reduceCtorEq, Int.reduceLT, Int.reduceEq, h6]⟩⟩
  | succ m ih =>
    intro i a out s h v Q hi hol hs h0 h4 h5 h6 h7 h8 hbuf hQ
    rw [X_loop, X_eq f40_2.eq_1]
    have hlt : (i : Int) < (n : Int) := by omega
    simp only [go_sem, Nat.reduceLT, Nat.reduceEqDiff, reduceCtorEq, Int.reduceLT, Int.reduceEq, hs, h0, h4, h5, h6, h8, hlt]
    refine XO_callP (by simp only [List.map, go_sem, Nat.reduceLT, Nat.reduceEqDiff, reduceCtorEq, Int.reduceLT, Int.reduceEq, hs, h0, h5]; exact hv.clos (clos_cv (clos_cv clos_nil))) (rtext_f37 b vb_ hv a 30 [] hb) clos_tup3 ?_
    simp only [wholeF] at hQ
    unfold getRow at hQ
    generalize hx : getText b a 30 = x at hQ ⊢
    obtain ⟨k, j, e⟩ := x
    simp only [go_sem, Nat.reduceLT, Nat.reduceEqDiff, reduceCtorEq, Int.reduceLT, Int.reduceEq, hs] at hQ ⊢
    rw [X_eq f40_0.eq_1]
    by_cases c1 : (e : Int) = 0
    · have c1' : e = 0 := by omega
      subst c1'
      simp only [go_sem, Nat.reduceLT, Nat.reduceEqDiff, reduceCtorEq, Int.reduceLT, Int.reduceEq, hs, h0, eq_true c1]
      refine XO_callP (by simp only [List.map, go_sem, Nat.reduceLT, Nat.reduceEqDiff, reduceCtorEq, Int.reduceLT, Int.reduceEq, hs, h0]; exact hv.clos (clos_cv (clos_cv clos_nil))) (rtext_f37 b vb_ hv j 150 [] hb) clos_tup3 ?_
      simp only [ne_eq, not_true_eq_false, if_false] at hQ
      generalize getText b j 150 = y at hQ ⊢
      obtain ⟨u, j2, e2⟩ := y
      simp only [go_sem, Nat.reduceLT, Nat.reduceEqDiff, reduceCtorEq, Int.reduceLT, Int.reduceEq, hs]
      rw [X_eq f40_1.eq_1]
      by_cases c2 : (e2 : Int) = 0
      · have c2' : e2 = 0 := by omega
        subst c2'
        have e5 : IntKind.i64.wrap ((i : Int) + 1) = ((i + 1 : Nat) : Int) := by rw [IntWalk.i64_in _ (by omega)]; omega
        simp only [go_sem, Nat.reduceLT, Nat.reduceEqDiff, reduceCtorEq, Int.reduceLT, Int.reduceEq, hs, h7, eq_true c2]
        refine XO_appG hbuf (new := [rowC k u]) (by simp only [go_sem, Nat.reduceLT, Nat.reduceEqDiff, reduceCtorEq, Int.reduceLT, Int.reduceEq, hs]) (by simp only [go_sem, Nat.reduceLT, Nat.reduceEqDiff, reduceCtorEq, Int.reduceLT, Int.reduceEq, hs]; rfl) (by simp only [List.length_singleton]; omega) (by simp only [List.length_singleton]; omega) (fun v' h' hb' _ _ => ?_)
        simp only [go_sem, Nat.reduceLT, Nat.reduceEqDiff, reduceCtorEq, Int.reduceLT, Int.reduceEq, hs, h8, e5]
        refine ih (i + 1) j2 (out ++ [rowC k u]) _ h' v' Q (by omega) (by simp only [List.length_append, List.length_singleton]; omega) (by simp only [slot_len, hs]) (by simp only [go_sem, Nat.reduceLT, Nat.reduceEqDiff, reduceCtorEq, Int.reduceLT, Int.reduceEq, h0]) (by simp only [go_sem, Nat.reduceLT, Nat.reduceEqDiff, reduceCtorEq, Int.reduceLT, Int.reduceEq, h4]) (by simp only [go_sem, Nat.reduceLT, Nat.reduceEqDiff, reduceCtorEq, Int.reduceLT, Int.reduceEq, hs]) (by simp only [go_sem, Nat.reduceLT, Nat.reduceEqDiff, reduceCtorEq, Int.reduceLT, Int.reduceEq, h6]) (by simp only [go_sem, Nat.reduceLT, Nat.reduceEqDiff, reduceCtorEq, Int.reduceLT, Int.reduceEq, hs]) (by simp only [go_sem, Nat.reduceLT, Nat.reduceEqDiff, reduceCtorEq, Int.reduceLT, Int.reduceEq, hs]) hb' ?_
        simp only [ne_eq, not_true_eq_false, if_false] at hQ
        exact hQ
      · have c2' : ¬ e2 = 0 := by omega
        simp only [go_sem, Nat.reduceLT, Nat.reduceEqDiff, reduceCtorEq, Int.reduceLT, Int.reduceEq, hs, c2]
        refine hQ _ _ _ ⟨by simp only [slot_len, hs], .inl ?_⟩
        simp only [ne_eq, c2', not_false_eq_true, if_true]
        exact ⟨trivial, trivial, by simp only [go_sem, Nat.reduceLT, Nat.reduceEqDiff, reduceCtorEq, Int.reduceLT, Int.reduceEq, hs], by simp only [go_sem, Nat.reduceLT, Nat.reduceEqDiff, reduceCtorEq, Int.reduceLT, Int.reduceEq, hs]⟩
    · have c1' : ¬ e = 0 := by omega
      simp only [go_sem, Nat.reduceLT, Nat.reduceEqDiff, reduceCtorEq, Int.reduceLT, Int.reduceEq, hs, c1]
      refine hQ _ _ _ ⟨by simp only [slot_len, hs], .inl ?_⟩
      simp only [ne_eq, c1', not_false_eq_true, if_true]
      exact ⟨trivial, trivial, by simp only [go_sem, Nat.reduceLT, Nat.reduceEqDiff, reduceCtorEq, Int.reduceLT, Int.reduceEq, hs], by simp only [go_sem, Nat.reduceLT, Nat.reduceEqDiff, reduceCtorEq, Int.reduceLT, Int.reduceEq, hs]⟩

theorem clos_nilc {h : Heap} {c : CV} : closRes h (.tup [nilS, .cv c]) = some (.tup [slV 0 [], .cv c]) := rfl
theorem slV_nil {z : Nat} : slV z [] = nilS := rfl

/-- Rows, by the document. -/
theorem rrows_f40 (b : List UInt8) (vb_ : VV) (hv : SlV 1 (eB b) vb_) (hb : b.length ≤ 1000000000) :
    ∃ v h', call F 40 [vb_] [] = some (.ret v, h') ∧ CloseTo (.tup [slV 2 (wholeB (getRow b) b).1, vi .i64 (wholeB (getRow b) b).2]) v h' := by
  refine call_E (fn := f40) rfl ?_
  simp only [f40]
  generalize hs0 : ([vb_] ++ List.replicate _ VV.undef : List VV) = s
  have hs : s.length = 70 := by rw [← hs0]; rfl
  have h0 : s.getD 0 .undef = vb_ := by rw [← hs0]; rfl
  clear hs0
  simp only [go_sem, Nat.reduceLT, Nat.reduceEqDiff, reduceCtorEq, Int.reduceLT, Int.reduceEq, hs, h0]
  obtain ⟨g1, hc1⟩ := many_f41 b vb_ hv [] hb
  refine XO_callP (by simp only [List.map, go_sem, Nat.reduceLT, Nat.reduceEqDiff, reduceCtorEq, Int.reduceLT, Int.reduceEq, hs]; exact hv.clos clos_nil) hc1 clos_tup3 ?_
  unfold wholeB manyF
  have hbd := getNum_bound b 0
  generalize getNum b 0 = x at hbd ⊢
  obtain ⟨n, a, e⟩ := x
  simp only at hbd ⊢
  -- the loop is left at once
  have bad : ∀ (e' : Nat) (a' n' : Nat) (s' : List VV) (w : VV), s'.length = 70 → e' ≠ 0 → s'.getD 0 .undef = vb_ → s'.getD 6 .undef = vi .i64 e' → s'.getD 4 .undef = vi .i64 n' → s'.getD 8 .undef = vi .i64 0 → w = .tup [slV 2 [], vi .i64 e'] →
      X F (.loop f40_2) ⟨s', []⟩ (B 0 (K F (.seq f40_3 (.seq f40_4 (.seq (.reg [⟨none, (some 69), (.mv (.t 7))⟩, ⟨none, (some 2), (.mv (.t 69))⟩, ⟨none, (some 3), (.mv (.c (.cv (.sc (.int .i64 0)))))⟩]) .ret))) (RQ [.t 2, .t 3] (CloseTo w)))) := by
    intro e' a' n' s' w hs' he h0' h6' h4' h8' hw
    have he' : ¬ (e' : Int) = 0 := by omega
    rw [X_loop, X_eq f40_2.eq_1]
    by_cases hlt : (0 : Int) < (n' : Int)
    · simp only [go_sem, Nat.reduceLT, Nat.reduceEqDiff, reduceCtorEq, Int.reduceLT, Int.reduceEq, hs', h4', h6', h8', hlt, he']
      rw [X_eq f40_3.eq_1]
      simp only [go_sem, Nat.reduceLT, Nat.reduceEqDiff, reduceCtorEq, Int.reduceLT, Int.reduceEq, hs', h6', he']
      rw [X_eq f40_4.eq_1]
      simp only [go_sem, Nat.reduceLT, Nat.reduceEqDiff, reduceCtorEq, Int.reduceLT, Int.reduceEq, hs', h6', he']
      rw [hw]; rfl
    · simp only [go_sem, Nat.reduceLT, Nat.reduceEqDiff, reduceCtorEq, Int.reduceLT, Int.reduceEq, hs', h4', h6', h8', hlt, he']
      rw [X_eq f40_3.eq_1]
      simp only [go_sem, Nat.reduceLT, Nat.reduceEqDiff, reduceCtorEq, Int.reduceLT, Int.reduceEq, hs', h6', he']
      rw [X_eq f40_4.eq_1]
      simp only [go_sem, Nat.reduceLT, Nat.reduceEqDiff, reduceCtorEq, Int.reduceLT, Int.reduceEq, hs', h6', he']
      rw [hw]; rfl
  by_cases c1 : e = 0
  · subst c1
    by_cases c2 : 5000 < n
    · simp only [go_sem, Nat.reduceLT, Nat.reduceEqDiff, reduceCtorEq, Int.reduceLT, Int.reduceEq, hs, h0, c2, and_self]
      exact bad 3 a n _ _ (by simp only [slot_len, hs]) (by decide) (by simp only [go_sem, Nat.reduceLT, Nat.reduceEqDiff, reduceCtorEq, Int.reduceLT, Int.reduceEq, h0]) (by simp only [go_sem, Nat.reduceLT, Nat.reduceEqDiff, reduceCtorEq, Int.reduceLT, Int.reduceEq, hs]) (by simp only [go_sem, Nat.reduceLT, Nat.reduceEqDiff, reduceCtorEq, Int.reduceLT, Int.reduceEq, hs]) (by simp only [go_sem, Nat.reduceLT, Nat.reduceEqDiff, reduceCtorEq, Int.reduceLT, Int.reduceEq, hs]) rfl
    · simp only [go_sem, Nat.reduceLT, Nat.reduceEqDiff, reduceCtorEq, Int.reduceLT, Int.reduceEq, hs, h0, c2, and_false]
      refine f40_loop b vb_ hv hb n (by omega) n 0 a [] _ [] nilS _ (by omega) (by simp only [List.length_nil]; omega) (by simp only [slot_len, hs]) (by simp only [go_sem, Nat.reduceLT, Nat.reduceEqDiff, reduceCtorEq, Int.reduceLT, Int.reduceEq, h0]) (by simp only [go_sem, Nat.reduceLT, Nat.reduceEqDiff, reduceCtorEq, Int.reduceLT, Int.reduceEq, hs]) (by simp only [go_sem, Nat.reduceLT, Nat.reduceEqDiff, reduceCtorEq, Int.reduceLT, Int.reduceEq, hs]) (by simp only [go_sem, Nat.reduceLT, Nat.reduceEqDiff, reduceCtorEq, Int.reduceLT, Int.reduceEq, hs]; rfl) (by simp only [go_sem, Nat.reduceLT, Nat.reduceEqDiff, reduceCtorEq, Int.reduceLT, Int.reduceEq, hs]) (by simp only [go_sem, Nat.reduceLT, Nat.reduceEqDiff, reduceCtorEq, Int.reduceLT, Int.reduceEq, hs]; rfl) (BufG.nil _ _) ?_
      intro o s' h' hR
      generalize wholeF (getRow b) n a [] = y at hR ⊢
      obtain ⟨out, j, e2⟩ := y
      obtain ⟨hs', ⟨k1, rfl, k2, k3⟩ | ⟨k1, rfl, k2, ⟨v, k3, k4⟩, k5, k6⟩⟩ := hR
      · simp only at k1 k3
        simp only [go_sem, Nat.reduceLT, Nat.reduceEqDiff, reduceCtorEq, Int.reduceLT, Int.reduceEq, hs', k2, k3, k1, ne_eq]
        rfl
      · simp only at k1 k4 k5
        subst k1
        simp only [go_sem, Nat.reduceLT, Nat.reduceEqDiff, reduceCtorEq, Int.reduceLT, Int.reduceEq, hs']
        rw [X_eq f40_3.eq_1]
        by_cases c4 : (j : Int) < (b.length : Int)
        · have c4' : j < b.length := by omega
          simp only [go_sem, Nat.reduceLT, Nat.reduceEqDiff, reduceCtorEq, Int.reduceLT, Int.reduceEq, hs', k2, k3, k5, k6, hv.ln, eB_len, c4]
          rw [X_eq f40_4.eq_1]
          simp only [go_sem, Nat.reduceLT, Nat.reduceEqDiff, reduceCtorEq, Int.reduceLT, Int.reduceEq, hs', c4']
          rfl
        · have c4' : ¬ j < b.length := by omega
          simp only [go_sem, Nat.reduceLT, Nat.reduceEqDiff, reduceCtorEq, Int.reduceLT, Int.reduceEq, hs', k2, k3, k5, k6, hv.ln, eB_len, c4]
          rw [X_eq f40_4.eq_1]
          simp only [go_sem, Nat.reduceLT, Nat.reduceEqDiff, reduceCtorEq, Int.reduceLT, Int.reduceEq, hs', k3, k6, c4']
          exact clos_slV k4
  · have c1' : e ≠ 0 := c1
    simp only [go_sem, Nat.reduceLT, Nat.reduceEqDiff, reduceCtorEq, Int.reduceLT, Int.reduceEq, hs, h0, c1, false_and]
    exact bad e a n _ _ (by simp only [slot_len, hs]) c1' (by simp only [go_sem, Nat.reduceLT, Nat.reduceEqDiff, reduceCtorEq, Int.reduceLT, Int.reduceEq, h0]) (by simp only [go_sem, Nat.reduceLT, Nat.reduceEqDiff, reduceCtorEq, Int.reduceLT, Int.reduceEq, hs]) (by simp only [go_sem, Nat.reduceLT, Nat.reduceEqDiff, reduceCtorEq, Int.reduceLT, Int.reduceEq, hs]) (by simp only [go_sem, Nat.reduceLT, Nat.reduceEqDiff, reduceCtorEq, Int.reduceLT, Int.reduceEq, hs]) rfl

end Go.V01
