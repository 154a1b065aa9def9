/- Part of a proof: of what it says, and when, each theorem tells itself. -/
import Derived.Test.YtpingdgbndmcnaaC01o
set_option linter.unusedSimpArgs false
namespace Go.V01
open Go Go.Vm

/-! ### changes that are read -/

def ch0 : List CV := [.sc (.string ⟨#[]⟩), .sc (.slice none 0 0), .sc (.bool false)]
def chC (k : List UInt8) (c : CV) (g : Bool) : List CV := [.sc (.string ⟨k.toArray⟩), c, .sc (.bool g)]

/-- A change, from its bytes. -/
def getCh (b : List UInt8) (a : Int) : List CV × Nat × Nat :=
  if (getText b a 30).2.2 ≠ 0 then (ch0, 0, (getText b a 30).2.2) else
  match b[(getText b a 30).2.1]? with
  | none => (ch0, 0, 10)
  | some c => if c.toNat = 1 then (chC (getText b a 30).1 (.sc (.slice none 0 0)) true, (getText b a 30).2.1 + 1, 0) else
    if 1 < c.toNat then (ch0, 0, 11) else
    (chC (getText b a 30).1 (.sl 1 (eB (getText b ((getText b a 30).2.1 + 1 : Nat) 150).1) false) false, (getText b ((getText b a 30).2.1 + 1 : Nat) 150).2.1, (getText b ((getText b a 30).2.1 + 1 : Nat) 150).2.2)

theorem getText_bound (b : List UInt8) (a m : Int) (h : (getText b a m).2.2 = 0) : (getText b a m).2.1 ≤ b.length ∧ (getText b a m).1.length ≤ b.length ∧ 0 ≤ a ∧ a < (getText b a m).2.1 := by
  have hbd := getNum_bound b a
  unfold getText at h ⊢
  split at h
  · rename_i h0; rw [if_pos h0]; simp only at h; exact absurd h h0
  · rename_i h0
    rw [if_neg h0]
    have h0' : (getNum b a).2.2 = 0 := by simpa using h0
    have := hbd.2.1 h0'
    split at h
    · simp at h
    · rename_i h1
      rw [if_neg h1]
      split at h
      · simp at h
      · rename_i h2
        rw [if_neg h2]
        refine ⟨by simp only; omega, ?_, this.1, by simp only; omega⟩
        simp only [List.length_take, List.length_drop]
        omega

theorem getCh_three (b : List UInt8) (a : Int) : ∃ u w t, (getCh b a).1 = [u, w, t] := by
  unfold getCh
  split
  · exact ⟨_, _, _, rfl⟩
  · split
    · exact ⟨_, _, _, rfl⟩
    · split
      · exact ⟨_, _, _, rfl⟩
      · split
        · exact ⟨_, _, _, rfl⟩
        · exact ⟨_, _, _, rfl⟩
theorem clos_ch {h : Heap} {u w t c1 c2 : CV} : closRes h (.tup [.agg [.cv u, .cv w, .cv t], .cv c1, .cv c2]) = some (.tup [.agg [.cv u, .cv w, .cv t], .cv c1, .cv c2]) := rfl
theorem bd_3k {a b c : VV} {u w : CV} : bdO [a, b, c] [(0, 1, .cv u), (2, 1, .cv w)] = some (.agg [.cv u, b, .cv w]) := rfl
theorem bd_3v {a b c : VV} {u w : CV} : bdO [a, b, c] [(0, 1, .cv u), (1, 1, .cv w)] = some (.agg [.cv u, .cv w, c]) := rfl

theorem change_f35 (b : List UInt8) (v : VV) (hv : SlV 1 (eB b) v) (a : Int) (hb : b.length ≤ 1000000000) :
    ∃ w h', call F 35 [v, vi .i64 a] [] = some (.ret w, h') ∧ ValIs (.tup [.agg ((getCh b a).1.map .cv), vi .i64 (getCh b a).2.1, vi .u16 (getCh b a).2.2]) w h' := by
  refine call_E (fn := f35) rfl ?_
  simp only [f35]
  generalize hs0 : ([v, vi .i64 a] ++ List.replicate _ VV.undef : List VV) = s
  have hs : s.length = 59 := by rw [← hs0]; rfl
  have h0 : s.getD 0 .undef = v := by rw [← hs0]; rfl
  have h1 : s.getD 1 .undef = vi .i64 a := by rw [← hs0]; rfl
  clear hs0
  simp only [go_sem, Nat.reduceLT, Nat.reduceEqDiff, reduceCtorEq, Int.reduceLT, Int.reduceEq, hs, h0, h1, List.nil_append, List.length_nil]
  refine XO_callP (by simp only [List.map, go_sem, Nat.reduceLT, Nat.reduceEqDiff, reduceCtorEq, Int.reduceLT, Int.reduceEq, hs, h0, h1]; exact hv.clos (clos_cv (clos_cv clos_nil))) (text_f15 b v hv a 30 [] hb) clos_tup3 ?_
  have hbd := getText_bound b a 30
  unfold getCh
  generalize getText b a 30 = x at hbd ⊢
  obtain ⟨k, j, e⟩ := x
  simp only [go_sem, Nat.reduceLT, Nat.reduceEqDiff, reduceCtorEq, Int.reduceLT, Int.reduceEq, hs, h0] at hbd ⊢
  by_cases c1 : (e : Int) = 0
  · have c1' : e = 0 := by omega
    subst c1'
    obtain ⟨hj, _⟩ := hbd rfl
    by_cases c2 : (j : Int) = (b.length : Int)
    · have hg : b[j]? = none := List.getElem?_eq_none (by omega)
      simp only [go_sem, Nat.reduceLT, Nat.reduceEqDiff, reduceCtorEq, Int.reduceLT, Int.reduceEq, hs, h0, eq_true c1, hv.ln, eB_len, eq_true c2, hg]
      refine RQ_c2 (id := 0) (by simp only [go_sem, Nat.reduceLT, Nat.reduceEqDiff, reduceCtorEq, Int.reduceLT, Int.reduceEq, hs]) rfl rfl (by simp only [go_sem, Nat.reduceLT, Nat.reduceEqDiff, reduceCtorEq, Int.reduceLT, Int.reduceEq, hs]) (by simp only [go_sem, Nat.reduceLT, Nat.reduceEqDiff, reduceCtorEq, Int.reduceLT, Int.reduceEq, hs]) ?_
      simp only [go_sem, Nat.reduceLT, Nat.reduceEqDiff, reduceCtorEq, Int.reduceLT, Int.reduceEq, hs]
      rfl
    · obtain ⟨c, hg⟩ : ∃ c, b[j]? = some c := ⟨_, List.getElem?_eq_getElem (show j < b.length by omega)⟩
      have hia : ∀ h : Heap, iaO h 1 v (vi .i64 (j : Int)) = some (.rptr (byteCell c), h) := fun h => hv.ia (by omega) (by exact eB_get hg)
      have e5 : IntKind.i64.wrap ((j : Int) + 1) = ((j + 1 : Nat) : Int) := by rw [IntWalk.i64_in _ (by omega)]; omega
      by_cases c3 : (c.toNat : Int) = 1
      · have c3' : c.toNat = 1 := by omega
        have k1 : ((1 : Nat) : Int) = 1 := rfl
        simp only [go_sem, Nat.reduceLT, Nat.reduceEqDiff, reduceCtorEq, Int.reduceLT, Int.reduceEq, hs, h0, eq_true c1, hv.ln, eB_len, c2, hia, byteCell, eq_true c3, c3', k1, hg, bd_3k, e5]
        refine RQ_c2 (id := 0) (by simp only [go_sem, Nat.reduceLT, Nat.reduceEqDiff, reduceCtorEq, Int.reduceLT, Int.reduceEq, hs]) rfl rfl (by simp only [go_sem, Nat.reduceLT, Nat.reduceEqDiff, reduceCtorEq, Int.reduceLT, Int.reduceEq, hs]) (by simp only [go_sem, Nat.reduceLT, Nat.reduceEqDiff, reduceCtorEq, Int.reduceLT, Int.reduceEq, hs]) ?_
        simp only [go_sem, Nat.reduceLT, Nat.reduceEqDiff, reduceCtorEq, Int.reduceLT, Int.reduceEq, hs]
        rfl
      · have c3' : ¬ c.toNat = 1 := by omega
        by_cases c4 : (1 : Int) < (c.toNat : Int)
        · have c4' : 1 < c.toNat := by omega
          simp only [go_sem, Nat.reduceLT, Nat.reduceEqDiff, reduceCtorEq, Int.reduceLT, Int.reduceEq, hs, h0, eq_true c1, hv.ln, eB_len, c2, hia, byteCell, c3, c3', c4, c4', hg]
          refine RQ_c2 (id := 0) (by simp only [go_sem, Nat.reduceLT, Nat.reduceEqDiff, reduceCtorEq, Int.reduceLT, Int.reduceEq, hs]) rfl rfl (by simp only [go_sem, Nat.reduceLT, Nat.reduceEqDiff, reduceCtorEq, Int.reduceLT, Int.reduceEq, hs]) (by simp only [go_sem, Nat.reduceLT, Nat.reduceEqDiff, reduceCtorEq, Int.reduceLT, Int.reduceEq, hs]) ?_
          simp only [go_sem, Nat.reduceLT, Nat.reduceEqDiff, reduceCtorEq, Int.reduceLT, Int.reduceEq, hs]
          rfl
        · have c4' : ¬ 1 < c.toNat := by omega
          simp only [go_sem, Nat.reduceLT, Nat.reduceEqDiff, reduceCtorEq, Int.reduceLT, Int.reduceEq, hs, h0, eq_true c1, hv.ln, eB_len, c2, hia, byteCell, c3, c3', c4, c4', hg, e5]
          refine XO_callP (by simp only [List.map, go_sem, Nat.reduceLT, Nat.reduceEqDiff, reduceCtorEq, Int.reduceLT, Int.reduceEq, hs]; exact hv.clos (clos_cv (clos_cv clos_nil))) (text_f15 b v hv (j + 1 : Nat) 150 [] hb) clos_tup3 ?_
          generalize getText b (j + 1 : Nat) 150 = y
          obtain ⟨u, j2, e2⟩ := y
          simp only [go_sem, Nat.reduceLT, Nat.reduceEqDiff, reduceCtorEq, Int.reduceLT, Int.reduceEq, hs, bd_3v]
          refine RQ_c2 (id := 0) (by simp only [go_sem, Nat.reduceLT, Nat.reduceEqDiff, reduceCtorEq, Int.reduceLT, Int.reduceEq, hs]) rfl rfl (by simp only [go_sem, Nat.reduceLT, Nat.reduceEqDiff, reduceCtorEq, Int.reduceLT, Int.reduceEq, hs]) (by simp only [go_sem, Nat.reduceLT, Nat.reduceEqDiff, reduceCtorEq, Int.reduceLT, Int.reduceEq, hs]) ?_
          simp only [go_sem, Nat.reduceLT, Nat.reduceEqDiff, reduceCtorEq, Int.reduceLT, Int.reduceEq, hs]
          rfl
  · have c1' : ¬ e = 0 := by omega
    simp only [go_sem, Nat.reduceLT, Nat.reduceEqDiff, reduceCtorEq, Int.reduceLT, Int.reduceEq, hs, c1, c1']
    refine RQ_c2 (id := 0) (by simp only [go_sem, Nat.reduceLT, Nat.reduceEqDiff, reduceCtorEq, Int.reduceLT, Int.reduceEq, hs]) rfl rfl (by simp only [go_sem, Nat.reduceLT, Nat.reduceEqDiff, reduceCtorEq, Int.reduceLT, Int.reduceEq, hs]) (by simp only [go_sem, Nat.reduceLT, Nat.reduceEqDiff, reduceCtorEq, Int.reduceLT, Int.reduceEq, hs]) ?_
    simp only [go_sem, Nat.reduceLT, Nat.reduceEqDiff, reduceCtorEq, Int.reduceLT, Int.reduceEq, hs]
    rfl

theorem f34_end (e : Nat) (s : List VV) (h : Heap) (Q : Pst) (hs : s.length = 55) (h9 : s.getD 9 .undef = vi .u16 e) (he : e ≠ 0)
    (hQ : ∀ s', s'.length = 55 → (∀ i, i < 10 → s'.getD i .undef = s.getD i .undef) → Q (.exit 0) ⟨s', h⟩) : X F (.loop f34_0) ⟨s, h⟩ Q := by
  rw [X_loop, X_eq f34_0.eq_1]
  have he' : ¬ (e : Int) = 0 := by omega
  simp only [go_sem, Nat.reduceLT, Nat.reduceEqDiff, reduceCtorEq, Int.reduceLT, Int.reduceEq, hs, h9, he']
  refine hQ _ (by simp only [slot_len, hs]) (fun i hi => ?_)
  have : ∀ j, 10 ≤ j → j ≠ i := by omega
  rw [slot_ne (this _ (by decide)), slot_ne (this _ (by decide)), slot_ne (this _ (by decide)), slot_ne (this _ (by decide)), slot_ne (this _ (by decide)), slot_ne (this _ (by decide))]

theorem f34_loop (b : List UInt8) (vb_ : VV) (hv : SlV 1 (eB b) vb_) (hb : b.length ≤ 1000000000) : ∀ (n a : Nat) (out : List (List CV)) (s : List VV) (h : Heap) (v : VV) (Q : Pst), out.length + n ≤ 5000 → s.length = 55 →
    s.getD 0 .undef = vb_ → s.getD 1 .undef = .func 35 [] → s.getD 6 .undef = v → s.getD 7 .undef = vi .i64 n → s.getD 8 .undef = vi .i64 a → s.getD 9 .undef = vi .u16 0 → BufG h 3 out v →
    (∀ s' h' v', s'.length = 55 → s'.getD 0 .undef = vb_ → s'.getD 6 .undef = v' → BufG h' 3 (wholeF (getCh b) n a out).1 v' →
      s'.getD 8 .undef = vi .i64 (wholeF (getCh b) n a out).2.1 → s'.getD 9 .undef = vi .u16 (wholeF (getCh b) n a out).2.2 → Q (.exit 0) ⟨s', h'⟩) →
    X F (.loop f34_0) ⟨s, h⟩ Q := by
  intro n
  induction n with
  | zero =>
    intro a out s h v Q hn hs h0 h1 h6 h7 h8 h9 hbuf hQ
    rw [X_loop, X_eq f34_0.eq_1]
    have hn0 : ¬ (0 : Int) < ((0 : Nat) : Int) := by decide
    simp only [go_sem, Nat.reduceLT, Nat.reduceEqDiff, reduceCtorEq, Int.reduceLT, Int.reduceEq, hs, h7, h9, hn0]
    exact hQ _ _ v (by simp only [slot_len, hs]) (by simp only [go_sem, Nat.reduceLT, Nat.reduceEqDiff, reduceCtorEq, Int.reduceLT, Int.reduceEq, h0]) (by simp only [go_sem, Nat.reduceLT, Nat.reduceEqDiff, reduceCtorEq, Int.reduceLT, Int.reduceEq, h6]) hbuf (by simp only [go_sem, Nat.reduceLT, Nat.reduceEqDiff, reduceCtorEq, Int.reduceLT, Int.reduceEq, h8, wholeF]) (by simp only [go_sem, Nat.reduceLT, Nat.reduceEqDiff, reduceCtorEq, Int.reduceLT, Int.reduceEq, h9, wholeF]; rfl)
  | succ n ih =>
    intro a out s h v Q hn hs h0 h1 h6 h7 h8 h9 hbuf hQ
    rw [X_loop, X_eq f34_0.eq_1]
    have hn0 : (0 : Int) < ((n + 1 : Nat) : Int) := by omega
    simp only [go_sem, Nat.reduceLT, Nat.reduceEqDiff, reduceCtorEq, Int.reduceLT, Int.reduceEq, hs, h0, h1, h6, h7, h8, h9, hn0]
    obtain ⟨w, hc, hcall, hw⟩ := change_f35 b vb_ hv a hb
    obtain ⟨u1, u2, u3, hu⟩ := getCh_three b a
    unfold ValIs at hw
    rw [hw, hu] at hcall
    refine XO_callvP (by simp only [go_sem, Nat.reduceLT, Nat.reduceEqDiff, reduceCtorEq, Int.reduceLT, Int.reduceEq, hs]) (by simp only [List.map, go_sem, Nat.reduceLT, Nat.reduceEqDiff, reduceCtorEq, Int.reduceLT, Int.reduceEq, hs]; exact hv.clos (clos_cv clos_nil)) hcall clos_ch ?_
    simp only [go_sem, Nat.reduceLT, Nat.reduceEqDiff, reduceCtorEq, Int.reduceLT, Int.reduceEq, hs, h0, h1, h6, h7, h8, h9]
    have e7 : IntKind.i64.wrap (((n + 1 : Nat) : Int) - 1) = (n : Int) := by rw [IntWalk.i64_in _ (by omega)]; omega
    by_cases c1 : ((getCh b a).2.2 : Int) = 0
    · have c1' : (getCh b a).2.2 = 0 := by omega
      simp only [go_sem, Nat.reduceLT, Nat.reduceEqDiff, reduceCtorEq, Int.reduceLT, Int.reduceEq, hs, h6, eq_true c1]
      refine XO_appG (new := [[u1, u2, u3]]) (hbuf.push _) (by simp only [go_sem, Nat.reduceLT, Nat.reduceEqDiff, reduceCtorEq, Int.reduceLT, Int.reduceEq, hs]) (by simp only [go_sem, Nat.reduceLT, Nat.reduceEqDiff, reduceCtorEq, Int.reduceLT, Int.reduceEq, hs]) (by simp only [List.length_singleton]; omega) (by simp only [List.length_singleton]; omega) (fun v' h' hb' _ _ => ?_)
      simp only [go_sem, Nat.reduceLT, Nat.reduceEqDiff, reduceCtorEq, Int.reduceLT, Int.reduceEq, hs, h7, e7]
      refine ih (getCh b a).2.1 (out ++ [(getCh b a).1]) _ h' v' Q (by simp only [List.length_append, List.length_singleton]; omega) (by simp only [slot_len, hs]) (by simp only [go_sem, Nat.reduceLT, Nat.reduceEqDiff, reduceCtorEq, Int.reduceLT, Int.reduceEq, h0]) (by simp only [go_sem, Nat.reduceLT, Nat.reduceEqDiff, reduceCtorEq, Int.reduceLT, Int.reduceEq, h1]) (by simp only [go_sem, Nat.reduceLT, Nat.reduceEqDiff, reduceCtorEq, Int.reduceLT, Int.reduceEq, hs]) (by simp only [go_sem, Nat.reduceLT, Nat.reduceEqDiff, reduceCtorEq, Int.reduceLT, Int.reduceEq, hs]) (by simp only [go_sem, Nat.reduceLT, Nat.reduceEqDiff, reduceCtorEq, Int.reduceLT, Int.reduceEq, hs]) (by simp only [go_sem, Nat.reduceLT, Nat.reduceEqDiff, reduceCtorEq, Int.reduceLT, Int.reduceEq, hs, c1']; rfl) (by rw [hu]; exact hb') ?_
      simp only [wholeF, c1', ne_eq, not_true_eq_false, if_false] at hQ
      exact hQ
    · have c1' : ¬ (getCh b a).2.2 = 0 := by omega
      simp only [go_sem, Nat.reduceLT, Nat.reduceEqDiff, reduceCtorEq, Int.reduceLT, Int.reduceEq, hs, h6, h7, c1, e7]
      refine f34_end (getCh b a).2.2 _ _ Q (by simp only [slot_len, hs]) (by simp only [go_sem, Nat.reduceLT, Nat.reduceEqDiff, reduceCtorEq, Int.reduceLT, Int.reduceEq, hs]) c1' (fun s' hs' hl => ?_)
      simp only [wholeF, c1', ne_eq, not_false_eq_true, if_true] at hQ
      refine hQ s' _ v hs' ?_ ?_ (hbuf.push _) ?_ ?_
      · rw [hl 0 (by decide)]; simp only [go_sem, Nat.reduceLT, Nat.reduceEqDiff, reduceCtorEq, Int.reduceLT, Int.reduceEq, h0]
      · rw [hl 6 (by decide)]; simp only [go_sem, Nat.reduceLT, Nat.reduceEqDiff, reduceCtorEq, Int.reduceLT, Int.reduceEq, h6]
      · rw [hl 8 (by decide)]; simp only [go_sem, Nat.reduceLT, Nat.reduceEqDiff, reduceCtorEq, Int.reduceLT, Int.reduceEq, hs]
      · rw [hl 9 (by decide)]; simp only [go_sem, Nat.reduceLT, Nat.reduceEqDiff, reduceCtorEq, Int.reduceLT, Int.reduceEq, hs]

theorem wholeC_f34 (b : List UInt8) (vb_ : VV) (hv : SlV 1 (eB b) vb_) (hb : b.length ≤ 1000000000) :
    ∃ v h', call F 34 [vb_, .func 35 []] [] = some (.ret v, h') ∧ CloseTo (.tup [slV 3 (wholeB (getCh b) b).1, vi .u16 (wholeB (getCh b) b).2]) v h' := by
  refine call_E (fn := f34) rfl ?_
  simp only [f34]
  generalize hs0 : ([vb_, .func 35 []] ++ List.replicate _ VV.undef : List VV) = s
  have hs : s.length = 55 := by rw [← hs0]; rfl
  have h0 : s.getD 0 .undef = vb_ := by rw [← hs0]; rfl
  have h1 : s.getD 1 .undef = .func 35 [] := by rw [← hs0]; rfl
  clear hs0
  simp only [go_sem, Nat.reduceLT, Nat.reduceEqDiff, reduceCtorEq, Int.reduceLT, Int.reduceEq, hs, h0, h1]
  refine XO_callP (by simp only [List.map, go_sem, Nat.reduceLT, Nat.reduceEqDiff, reduceCtorEq, Int.reduceLT, Int.reduceEq, hs]; exact hv.clos (clos_cv clos_nil)) (num_f13 b vb_ hv 0 [] hb) clos_tup3 ?_
  have hbd := getNum_bound b 0
  unfold wholeB
  generalize getNum b 0 = x at hbd ⊢
  obtain ⟨n, a, e⟩ := x
  simp only [go_sem, Nat.reduceLT, Nat.reduceEqDiff, reduceCtorEq, Int.reduceLT, Int.reduceEq, hs, h0, h1] at hbd ⊢
  -- the end, with an error
  have bad : ∀ (e : Nat) (s' : List VV) (h' : Heap) (w : VV), s'.length = 55 → e ≠ 0 → s'.getD 9 .undef = vi .u16 e → w = .tup [slV 3 [], vi .u16 e] →
      X F (.seq (.block 2
  (.seq (.reg [
  ⟨none, (some 46), (.mv (.t 9))⟩,
  ⟨none, (some 47), (.bin .neq (.t 46) (.c (.cv (.sc (.int .u16 0)))))⟩,
  ⟨none, (some 45), (.mv (.t 47))⟩])
  (.cond (.t 45)
  (.seq (.reg [
  ⟨none, (some 48), (.mv (.t 9))⟩,
  ⟨none, (some 4), (.mv (.c (.cv (.sc (.slice none 0 0)))))⟩,
  ⟨none, (some 5), (.mv (.t 48))⟩])
  .ret)
  (.seq (.reg [
  ⟨none, (some 50), (.mv (.t 8))⟩,
  ⟨none, (some 51), (.mv (.t 0))⟩,
  ⟨none, (some 52), (.len false (.t 51))⟩,
  ⟨none, (some 53), (.bin .lss (.t 50) (.t 52))⟩,
  ⟨none, (some 49), (.mv (.t 53))⟩])
  (.cond (.t 49)
  (.seq (.reg [
  ⟨none, (some 4), (.mv (.c (.cv (.sc (.slice none 0 0)))))⟩,
  ⟨none, (some 5), (.mv (.c (.cv (.sc (.int .u16 11)))))⟩])
  .ret) .skip)))))
  (.seq (.reg [
  ⟨none, (some 54), (.mv (.t 6))⟩,
  ⟨none, (some 4), (.mv (.t 54))⟩,
  ⟨none, (some 5), (.mv (.c (.cv (.sc (.int .u16 0)))))⟩])
  .ret)) ⟨s', h'⟩ (RQ [.t 4, .t 5] (CloseTo w)) := by
    intro e s' h' w hs' he h9 hw
    have he' : ¬ (e : Int) = 0 := by omega
    simp only [go_sem, Nat.reduceLT, Nat.reduceEqDiff, reduceCtorEq, Int.reduceLT, Int.reduceEq, hs', h9, he']
    rw [hw]
    exact clos_slV (BufG.nil h' 3)
  by_cases c1 : (e : Int) = 0
  · have c1' : e = 0 := by omega
    subst c1'
    by_cases c2 : (5000 : Int) < (n : Int)
    · have c2' : 5000 < n := by omega
      simp only [go_sem, Nat.reduceLT, Nat.reduceEqDiff, reduceCtorEq, Int.reduceLT, Int.reduceEq, hs, h0, h1, eq_true c1, c2, c2']
      refine f34_end 3 _ _ _ (by simp only [slot_len, hs]) (by simp only [go_sem, Nat.reduceLT, Nat.reduceEqDiff, reduceCtorEq, Int.reduceLT, Int.reduceEq, hs]; rfl) (by decide) (fun s' hs' hl => ?_)
      simp only [B_exit, if_true, K_norm]
      refine bad 3 _ _ _ hs' (by decide) ?_ rfl
      rw [hl 9 (by decide)]; simp only [go_sem, Nat.reduceLT, Nat.reduceEqDiff, reduceCtorEq, Int.reduceLT, Int.reduceEq, hs]; rfl
    · have c2' : ¬ 5000 < n := by omega
      simp only [go_sem, Nat.reduceLT, Nat.reduceEqDiff, reduceCtorEq, Int.reduceLT, Int.reduceEq, hs, h0, h1, eq_true c1, c2, c2']
      refine f34_loop b vb_ hv hb n a [] _ _ nilS _ (by simp only [List.length_nil]; omega) (by simp only [slot_len, hs]) (by simp only [go_sem, Nat.reduceLT, Nat.reduceEqDiff, reduceCtorEq, Int.reduceLT, Int.reduceEq, h0]) (by simp only [go_sem, Nat.reduceLT, Nat.reduceEqDiff, reduceCtorEq, Int.reduceLT, Int.reduceEq, h1]) (by simp only [go_sem, Nat.reduceLT, Nat.reduceEqDiff, reduceCtorEq, Int.reduceLT, Int.reduceEq, hs]) (by simp only [go_sem, Nat.reduceLT, Nat.reduceEqDiff, reduceCtorEq, Int.reduceLT, Int.reduceEq, hs]) (by simp only [go_sem, Nat.reduceLT, Nat.reduceEqDiff, reduceCtorEq, Int.reduceLT, Int.reduceEq, hs]) (by simp only [go_sem, Nat.reduceLT, Nat.reduceEqDiff, reduceCtorEq, Int.reduceLT, Int.reduceEq, hs]; rfl) (BufG.nil _ _) ?_
      intro s' h' v' hs' h0' h6' hb' h8' h9'
      simp only [B_exit, if_true, K_norm]
      generalize wholeF (getCh b) n a [] = y at *
      obtain ⟨out, j, e2⟩ := y
      simp only at *
      by_cases c3 : (e2 : Int) = 0
      · have c3' : e2 = 0 := by omega
        subst c3'
        by_cases c4 : (j : Int) < (b.length : Int)
        · have c4' : j < b.length := by omega
          simp only [go_sem, Nat.reduceLT, Nat.reduceEqDiff, reduceCtorEq, Int.reduceLT, Int.reduceEq, hs', h0', h6', h8', h9', eq_true c3, eB_len, hv.ln, c4, c4']
          exact clos_slV (BufG.nil h' 3)
        · have c4' : ¬ j < b.length := by omega
          simp only [go_sem, Nat.reduceLT, Nat.reduceEqDiff, reduceCtorEq, Int.reduceLT, Int.reduceEq, hs', h0', h6', h8', h9', eq_true c3, eB_len, hv.ln, c4, c4']
          exact clos_slV hb'
      · have c3' : e2 ≠ 0 := by omega
        rw [if_pos c3']
        exact bad e2 s' h' _ hs' c3' h9' rfl
  · have c1' : e ≠ 0 := by omega
    simp only [go_sem, Nat.reduceLT, Nat.reduceEqDiff, reduceCtorEq, Int.reduceLT, Int.reduceEq, hs, h0, h1, c1]
    rw [if_pos c1']
    refine f34_end e _ _ _ (by simp only [slot_len, hs]) (by simp only [go_sem, Nat.reduceLT, Nat.reduceEqDiff, reduceCtorEq, Int.reduceLT, Int.reduceEq, hs]) c1' (fun s' hs' hl => ?_)
    simp only [B_exit, if_true, K_norm]
    refine bad e _ _ _ hs' c1' ?_ rfl
    rw [hl 9 (by decide)]; simp only [go_sem, Nat.reduceLT, Nat.reduceEqDiff, reduceCtorEq, Int.reduceLT, Int.reduceEq, hs]

/-- Changes, of all bytes. -/
theorem changes_f24 (b : List UInt8) (vb_ : VV) (hv : SlV 1 (eB b) vb_) (hb : b.length ≤ 1000000000) :
    ∃ v h', call F 24 [vb_] [] = some (.ret v, h') ∧ CloseTo (.tup [slV 3 (wholeB (getCh b) b).1, vi .u16 (wholeB (getCh b) b).2]) v h' := by
  refine call_E (fn := f24) rfl ?_
  simp only [f24]
  generalize hs0 : ([vb_] ++ List.replicate _ VV.undef : List VV) = s
  have hs : s.length = 8 := by rw [← hs0]; rfl
  have h0 : s.getD 0 .undef = vb_ := by rw [← hs0]; rfl
  clear hs0
  simp only [go_sem, Nat.reduceLT, Nat.reduceEqDiff, reduceCtorEq, Int.reduceLT, Int.reduceEq, hs, h0]
  obtain ⟨v, hc, hcall, hw⟩ := wholeC_f34 b vb_ hv hb
  refine XO_callP (h1 := []) (by simp only [List.map, go_sem, Nat.reduceLT, Nat.reduceEqDiff, reduceCtorEq, Int.reduceLT, Int.reduceEq, hs]; exact hv.clos rfl) hcall hw ?_
  simp only [go_sem, Nat.reduceLT, Nat.reduceEqDiff, reduceCtorEq, Int.reduceLT, Int.reduceEq, hs]
  unfold slV
  split <;> rfl

end Go.V01
