/- Part of a proof: of what it says, and when, each theorem tells itself. -/
import Derived.Test.YtpingdgbndmcnaaC01b
set_option linter.unusedSimpArgs false
namespace Go.V01
open Go Go.Vm

/-- So many, each by 'get'. -/
def wholeF (get : Int → List CV × Nat × Nat) : Nat → Nat → List (List CV) → List (List CV) × Nat × Nat
  | 0, a, out => (out, a, 0)
  | n + 1, a, out => if (get a).2.2 ≠ 0 then (out, (get a).2.1, (get a).2.2) else wholeF get n (get a).2.1 (out ++ [(get a).1])

/-- What there is of all bytes: the elements; the error. -/
def wholeB (get : Int → List CV × Nat × Nat) (b : List UInt8) : List (List CV) × Nat :=
  let x := getNum b 0
  if x.2.2 ≠ 0 then ([], x.2.2) else
  if 5000 < x.1 then ([], 3) else
  let y := wholeF get x.1 x.2.1 []
  if y.2.2 ≠ 0 then ([], y.2.2) else
  if y.2.1 < b.length then ([], 11) else (y.1, 0)

theorem getRow_two (b : List UInt8) (a : Int) : ∃ u w, (getRow b a).1 = [u, w] := by
  unfold getRow
  split
  · exact ⟨_, _, rfl⟩
  · exact ⟨_, _, rfl⟩

theorem clos_row {h : Heap} {u w c1 c2 : CV} : closRes h (.tup [.agg [.cv u, .cv w], .cv c1, .cv c2]) = some (.tup [.agg [.cv u, .cv w], .cv c1, .cv c2]) := rfl

theorem f32_end (e : Nat) (s : List VV) (h : Heap) (Q : Pst) (hs : s.length = 55) (h9 : s.getD 9 .undef = vi .u16 e) (he : e ≠ 0)
    (hQ : ∀ s', s'.length = 55 → (∀ i, i < 10 → s'.getD i .undef = s.getD i .undef) → Q (.exit 0) ⟨s', h⟩) : X F (.loop f32_0) ⟨s, h⟩ Q := by
  rw [X_loop, X_eq f32_0.eq_1]
  have he' : ¬ (e : Int) = 0 := by omega
  simp only [go_sem, Nat.reduceLT, Nat.reduceEqDiff, reduceCtorEq, Int.reduceLT, Int.reduceEq, hs, h9, he']
  refine hQ _ (by simp only [slot_len, hs]) (fun i hi => ?_)
  have : ∀ j, 10 ≤ j → j ≠ i := by omega
  rw [slot_ne (this _ (by decide)), slot_ne (this _ (by decide)), slot_ne (this _ (by decide)), slot_ne (this _ (by decide)), slot_ne (this _ (by decide)), slot_ne (this _ (by decide))]

theorem f32_loop (b : List UInt8) (vb_ : VV) (hv : SlV 1 (eB b) vb_) (hb : b.length ≤ 1000000000) : ∀ (n a : Nat) (out : List (List CV)) (s : List VV) (h : Heap) (v : VV) (Q : Pst), out.length + n ≤ 5000 → s.length = 55 →
    s.getD 0 .undef = vb_ → s.getD 1 .undef = .func 33 [] → s.getD 6 .undef = v → s.getD 7 .undef = vi .i64 n → s.getD 8 .undef = vi .i64 a → s.getD 9 .undef = vi .u16 0 → BufG h 2 out v →
    (∀ s' h' v', s'.length = 55 → s'.getD 0 .undef = vb_ → s'.getD 6 .undef = v' → BufG h' 2 (wholeF (getRow b) n a out).1 v' →
      s'.getD 8 .undef = vi .i64 (wholeF (getRow b) n a out).2.1 → s'.getD 9 .undef = vi .u16 (wholeF (getRow b) n a out).2.2 → Q (.exit 0) ⟨s', h'⟩) →
    X F (.loop f32_0) ⟨s, h⟩ Q := by
  intro n
  induction n with
  | zero =>
    intro a out s h v Q hn hs h0 h1 h6 h7 h8 h9 hbuf hQ
    rw [X_loop, X_eq f32_0.eq_1]
    have hn0 : ¬ (0 : Int) < ((0 : Nat) : Int) := by decide
    simp only [go_sem, Nat.reduceLT, Nat.reduceEqDiff, reduceCtorEq, Int.reduceLT, Int.reduceEq, hs, h7, h9, hn0]
    exact hQ _ _ v (by simp only [slot_len, hs]) (by simp only [go_sem, Nat.reduceLT, Nat.reduceEqDiff, reduceCtorEq, Int.reduceLT, Int.reduceEq, h0]) (by simp only [go_sem, Nat.reduceLT, Nat.reduceEqDiff, reduceCtorEq, Int.reduceLT, Int.reduceEq, h6]) hbuf (by simp only [go_sem, Nat.reduceLT, Nat.reduceEqDiff, reduceCtorEq, Int.reduceLT, Int.reduceEq, h8, wholeF]) (by simp only [go_sem, Nat.reduceLT, Nat.reduceEqDiff, reduceCtorEq, Int.reduceLT, Int.reduceEq, h9, wholeF]; rfl)
  | succ n ih =>
    intro a out s h v Q hn hs h0 h1 h6 h7 h8 h9 hbuf hQ
    rw [X_loop, X_eq f32_0.eq_1]
    have hn0 : (0 : Int) < ((n + 1 : Nat) : Int) := by omega
    simp only [go_sem, Nat.reduceLT, Nat.reduceEqDiff, reduceCtorEq, Int.reduceLT, Int.reduceEq, hs, h0, h1, h6, h7, h8, h9, hn0]
    obtain ⟨w, hc, hcall, hw⟩ := row_f33 b vb_ hv a hb
    obtain ⟨u1, u2, hu⟩ := getRow_two b a
    unfold ValIs at hw
    rw [hw, hu] at hcall
    refine XO_callvP (by simp only [go_sem, Nat.reduceLT, Nat.reduceEqDiff, reduceCtorEq, Int.reduceLT, Int.reduceEq, hs]) (by simp only [List.map, go_sem, Nat.reduceLT, Nat.reduceEqDiff, reduceCtorEq, Int.reduceLT, Int.reduceEq, hs]; exact hv.clos (clos_cv clos_nil)) hcall clos_row ?_
    simp only [go_sem, Nat.reduceLT, Nat.reduceEqDiff, reduceCtorEq, Int.reduceLT, Int.reduceEq, hs, h0, h1, h6, h7, h8, h9]
    have e7 : IntKind.i64.wrap (((n + 1 : Nat) : Int) - 1) = (n : Int) := by rw [IntWalk.i64_in _ (by omega)]; omega
    by_cases c1 : ((getRow b a).2.2 : Int) = 0
    · have c1' : (getRow b a).2.2 = 0 := by omega
      simp only [go_sem, Nat.reduceLT, Nat.reduceEqDiff, reduceCtorEq, Int.reduceLT, Int.reduceEq, hs, h6, eq_true c1]
      refine XO_appG (new := [[u1, u2]]) (hbuf.push _) (by simp only [go_sem, Nat.reduceLT, Nat.reduceEqDiff, reduceCtorEq, Int.reduceLT, Int.reduceEq, hs]) (by simp only [go_sem, Nat.reduceLT, Nat.reduceEqDiff, reduceCtorEq, Int.reduceLT, Int.reduceEq, hs]) (by simp only [List.length_singleton]; omega) (by simp only [List.length_singleton]; omega) (fun v' h' hb' _ _ => ?_)
      simp only [go_sem, Nat.reduceLT, Nat.reduceEqDiff, reduceCtorEq, Int.reduceLT, Int.reduceEq, hs, h7, e7]
      refine ih (getRow b a).2.1 (out ++ [(getRow b a).1]) _ h' v' Q (by simp only [List.length_append, List.length_singleton]; omega) (by simp only [slot_len, hs]) (by simp only [go_sem, Nat.reduceLT, Nat.reduceEqDiff, reduceCtorEq, Int.reduceLT, Int.reduceEq, h0]) (by simp only [go_sem, Nat.reduceLT, Nat.reduceEqDiff, reduceCtorEq, Int.reduceLT, Int.reduceEq, h1]) (by simp only [go_sem, Nat.reduceLT, Nat.reduceEqDiff, reduceCtorEq, Int.reduceLT, Int.reduceEq, hs]) (by simp only [go_sem, Nat.reduceLT, Nat.reduceEqDiff, reduceCtorEq, Int.reduceLT, Int.reduceEq, hs]) (by simp only [go_sem, Nat.reduceLT, Nat.reduceEqDiff, reduceCtorEq, Int.reduceLT, Int.reduceEq, hs]) (by simp only [go_sem, Nat.reduceLT, Nat.reduceEqDiff, reduceCtorEq, Int.reduceLT, Int.reduceEq, hs, c1']; rfl) (by rw [hu]; exact hb') ?_
      simp only [wholeF, c1', ne_eq, not_true_eq_false, if_false] at hQ
      exact hQ
    · have c1' : ¬ (getRow b a).2.2 = 0 := by omega
      simp only [go_sem, Nat.reduceLT, Nat.reduceEqDiff, reduceCtorEq, Int.reduceLT, Int.reduceEq, hs, h6, h7, c1, e7]
      refine f32_end (getRow b a).2.2 _ _ Q (by simp only [slot_len, hs]) (by simp only [go_sem, Nat.reduceLT, Nat.reduceEqDiff, reduceCtorEq, Int.reduceLT, Int.reduceEq, hs]) c1' (fun s' hs' hl => ?_)
      simp only [wholeF, c1', ne_eq, not_false_eq_true, if_true] at hQ
      refine hQ s' _ v hs' ?_ ?_ (hbuf.push _) ?_ ?_
      · rw [hl 0 (by decide)]; simp only [go_sem, Nat.reduceLT, Nat.reduceEqDiff, reduceCtorEq, Int.reduceLT, Int.reduceEq, h0]
      · rw [hl 6 (by decide)]; simp only [go_sem, Nat.reduceLT, Nat.reduceEqDiff, reduceCtorEq, Int.reduceLT, Int.reduceEq, h6]
      · rw [hl 8 (by decide)]; simp only [go_sem, Nat.reduceLT, Nat.reduceEqDiff, reduceCtorEq, Int.reduceLT, Int.reduceEq, hs]
      · rw [hl 9 (by decide)]; simp only [go_sem, Nat.reduceLT, Nat.reduceEqDiff, reduceCtorEq, Int.reduceLT, Int.reduceEq, hs]

theorem clos_slV {h : Heap} {z : Nat} {els : List (List CV)} {v : VV} {c : CV} (hb : BufG h z els v) : closRes h (.tup [v, .cv c]) = some (.tup [slV z els, .cv c]) := by
  obtain ⟨h1, e⟩ := hb.slV
  simp only [closRes, closAs, e]
  rfl

theorem whole_f32 (b : List UInt8) (vb_ : VV) (hv : SlV 1 (eB b) vb_) (hb : b.length ≤ 1000000000) :
    ∃ v h', call F 32 [vb_, .func 33 []] [] = some (.ret v, h') ∧ CloseTo (.tup [slV 2 (wholeB (getRow b) b).1, vi .u16 (wholeB (getRow b) b).2]) v h' := by
  refine call_E (fn := f32) rfl ?_
  simp only [f32]
  generalize hs0 : ([vb_, .func 33 []] ++ List.replicate _ VV.undef : List VV) = s
  have hs : s.length = 55 := by rw [← hs0]; rfl
  have h0 : s.getD 0 .undef = vb_ := by rw [← hs0]; rfl
  have h1 : s.getD 1 .undef = .func 33 [] := by rw [← hs0]; rfl
  clear hs0
  simp only [go_sem, Nat.reduceLT, Nat.reduceEqDiff, reduceCtorEq, Int.reduceLT, Int.reduceEq, hs, h0, h1]
  refine XO_callP (by simp only [List.map, go_sem, Nat.reduceLT, Nat.reduceEqDiff, reduceCtorEq, Int.reduceLT, Int.reduceEq, hs]; exact hv.clos (clos_cv clos_nil)) (num_f13 b vb_ hv 0 [] hb) clos_tup3 ?_
  have hbd := getNum_bound b 0
  unfold wholeB
  generalize getNum b 0 = x at hbd ⊢
  obtain ⟨n, a, e⟩ := x
  simp only [go_sem, Nat.reduceLT, Nat.reduceEqDiff, reduceCtorEq, Int.reduceLT, Int.reduceEq, hs, h0, h1] at hbd ⊢
  -- the end, with an error
  have bad : ∀ (e : Nat) (s' : List VV) (h' : Heap) (w : VV), s'.length = 55 → e ≠ 0 → s'.getD 9 .undef = vi .u16 e → w = .tup [slV 2 [], vi .u16 e] →
      X F (.seq (.block 2
  (.seq (.reg [
  ⟨none, (some 46), (.mv (.t 9))⟩,
  ⟨none, (some 47), (.bin .neq (.t 46) (.c (.cv (.sc (.int .u16 0)))))⟩,
  ⟨none, (some 45), (.mv (.t 47))⟩])
  (.cond (.t 45)
  (.seq (.reg [
  ⟨none, (some 48), (.mv (.t 9))⟩,
  ⟨none, (some 4), (.mv (.c (.cv (.sc (.slice none 0 0)))))⟩,
  ⟨none, (some 5), (.mv (.t 48))⟩])
  .ret)
  (.seq (.reg [
  ⟨none, (some 50), (.mv (.t 8))⟩,
  ⟨none, (some 51), (.mv (.t 0))⟩,
  ⟨none, (some 52), (.len false (.t 51))⟩,
  ⟨none, (some 53), (.bin .lss (.t 50) (.t 52))⟩,
  ⟨none, (some 49), (.mv (.t 53))⟩])
  (.cond (.t 49)
  (.seq (.reg [
  ⟨none, (some 4), (.mv (.c (.cv (.sc (.slice none 0 0)))))⟩,
  ⟨none, (some 5), (.mv (.c (.cv (.sc (.int .u16 11)))))⟩])
  .ret) .skip)))))
  (.seq (.reg [
  ⟨none, (some 54), (.mv (.t 6))⟩,
  ⟨none, (some 4), (.mv (.t 54))⟩,
  ⟨none, (some 5), (.mv (.c (.cv (.sc (.int .u16 0)))))⟩])
  .ret)) ⟨s', h'⟩ (RQ [.t 4, .t 5] (CloseTo w)) := by
    intro e s' h' w hs' he h9 hw
    have he' : ¬ (e : Int) = 0 := by omega
    simp only [go_sem, Nat.reduceLT, Nat.reduceEqDiff, reduceCtorEq, Int.reduceLT, Int.reduceEq, hs', h9, he']
    rw [hw]
    exact clos_slV (BufG.nil h' 2)
  by_cases c1 : (e : Int) = 0
  · have c1' : e = 0 := by omega
    subst c1'
    by_cases c2 : (5000 : Int) < (n : Int)
    · have c2' : 5000 < n := by omega
      simp only [go_sem, Nat.reduceLT, Nat.reduceEqDiff, reduceCtorEq, Int.reduceLT, Int.reduceEq, hs, h0, h1, eq_true c1, c2, c2']
      refine f32_end 3 _ _ _ (by simp only [slot_len, hs]) (by simp only [go_sem, Nat.reduceLT, Nat.reduceEqDiff, reduceCtorEq, Int.reduceLT, Int.reduceEq, hs]; rfl) (by decide) (fun s' hs' hl => ?_)
      simp only [B_exit, if_true, K_norm]
      refine bad 3 _ _ _ hs' (by decide) ?_ rfl
      rw [hl 9 (by decide)]; simp only [go_sem, Nat.reduceLT, Nat.reduceEqDiff, reduceCtorEq, Int.reduceLT, Int.reduceEq, hs]; rfl
    · have c2' : ¬ 5000 < n := by omega
      simp only [go_sem, Nat.reduceLT, Nat.reduceEqDiff, reduceCtorEq, Int.reduceLT, Int.reduceEq, hs, h0, h1, eq_true c1, c2, c2']
      refine f32_loop b vb_ hv hb n a [] _ _ nilS _ (by simp only [List.length_nil]; omega) (by simp only [slot_len, hs]) (by simp only [go_sem, Nat.reduceLT, Nat.reduceEqDiff, reduceCtorEq, Int.reduceLT, Int.reduceEq, h0]) (by simp only [go_sem, Nat.reduceLT, Nat.reduceEqDiff, reduceCtorEq, Int.reduceLT, Int.reduceEq, h1]) (by simp only [go_sem, Nat.reduceLT, Nat.reduceEqDiff, reduceCtorEq, Int.reduceLT, Int.reduceEq, hs]) (by simp only [go_sem, Nat.reduceLT, Nat.reduceEqDiff, reduceCtorEq, Int.reduceLT, Int.reduceEq, hs]) (by simp only [go_sem, Nat.reduceLT, Nat.reduceEqDiff, reduceCtorEq, Int.reduceLT, Int.reduceEq, hs]) (by simp only [go_sem, Nat.reduceLT, Nat.reduceEqDiff, reduceCtorEq, Int.reduceLT, Int.reduceEq, hs]; rfl) (BufG.nil _ _) ?_
      intro s' h' v' hs' h0' h6' hb' h8' h9'
      simp only [B_exit, if_true, K_norm]
      generalize wholeF (getRow b) n a [] = y at *
      obtain ⟨out, j, e2⟩ := y
      simp only at *
      by_cases c3 : (e2 : Int) = 0
      · have c3' : e2 = 0 := by omega
        subst c3'
        by_cases c4 : (j : Int) < (b.length : Int)
        · have c4' : j < b.length := by omega
          simp only [go_sem, Nat.reduceLT, Nat.reduceEqDiff, reduceCtorEq, Int.reduceLT, Int.reduceEq, hs', h0', h6', h8', h9', eq_true c3, eB_len, hv.ln, c4, c4']
          exact clos_slV (BufG.nil h' 2)
        · have c4' : ¬ j < b.length := by omega
          simp only [go_sem, Nat.reduceLT, Nat.reduceEqDiff, reduceCtorEq, Int.reduceLT, Int.reduceEq, hs', h0', h6', h8', h9', eq_true c3, eB_len, hv.ln, c4, c4']
          exact clos_slV hb'
      · have c3' : e2 ≠ 0 := by omega
        rw [if_pos c3']
        exact bad e2 s' h' _ hs' c3' h9' rfl
  · have c1' : e ≠ 0 := by omega
    simp only [go_sem, Nat.reduceLT, Nat.reduceEqDiff, reduceCtorEq, Int.reduceLT, Int.reduceEq, hs, h0, h1, c1]
    rw [if_pos c1']
    refine f32_end e _ _ _ (by simp only [slot_len, hs]) (by simp only [go_sem, Nat.reduceLT, Nat.reduceEqDiff, reduceCtorEq, Int.reduceLT, Int.reduceEq, hs]) c1' (fun s' hs' hl => ?_)
    simp only [B_exit, if_true, K_norm]
    refine bad e _ _ _ hs' c1' ?_ rfl
    rw [hl 9 (by decide)]; simp only [go_sem, Nat.reduceLT, Nat.reduceEqDiff, reduceCtorEq, Int.reduceLT, Int.reduceEq, hs]

/-- Rows, of all bytes. -/
theorem rows_f22 (b : List UInt8) (vb_ : VV) (hv : SlV 1 (eB b) vb_) (hb : b.length ≤ 1000000000) :
    ∃ v h', call F 22 [vb_] [] = some (.ret v, h') ∧ CloseTo (.tup [slV 2 (wholeB (getRow b) b).1, vi .u16 (wholeB (getRow b) b).2]) v h' := by
  refine call_E (fn := f22) rfl ?_
  simp only [f22]
  generalize hs0 : ([vb_] ++ List.replicate _ VV.undef : List VV) = s
  have hs : s.length = 8 := by rw [← hs0]; rfl
  have h0 : s.getD 0 .undef = vb_ := by rw [← hs0]; rfl
  clear hs0
  simp only [go_sem, Nat.reduceLT, Nat.reduceEqDiff, reduceCtorEq, Int.reduceLT, Int.reduceEq, hs, h0]
  obtain ⟨v, hc, hcall, hw⟩ := whole_f32 b vb_ hv hb
  refine XO_callP (h1 := []) (by simp only [List.map, go_sem, Nat.reduceLT, Nat.reduceEqDiff, reduceCtorEq, Int.reduceLT, Int.reduceEq, hs]; exact hv.clos rfl) hcall hw ?_
  simp only [go_sem, Nat.reduceLT, Nat.reduceEqDiff, reduceCtorEq, Int.reduceLT, Int.reduceEq, hs]
  unfold slV
  split <;> rfl

end Go.V01
