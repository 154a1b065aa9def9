/- Part of a proof: of what it says, and when, each theorem tells itself. -/
import Derived.Test.YtpingdgbndmcnaaC01a
set_option linter.unusedSimpArgs false
namespace Go.V01
open Go Go.Vm

theorem getN_bound : ∀ k r at_ i n, (getN k r at_ i n).1 ≤ 9007199254740992 ∧ ((getN k r at_ i n).2.2 = 0 → at_ + i < (getN k r at_ i n).2.1 ∧ (getN k r at_ i n).2.1 ≤ at_ + i + r.length) ∧ (getN k r at_ i n).2.2 ≤ 11
  | 0, _, _, _, _ => by simp [getN]
  | k + 1, [], _, _, _ => by simp [getN]
  | k + 1, c :: r, at_, i, n => by
    simp only [getN, List.length_cons]
    split
    · split
      · simp
      · refine ⟨by simp only; omega, fun _ => ⟨by simp only; omega, by simp only; omega⟩, by simp⟩
    · have := getN_bound k r at_ (i + 1) (n + c.toNat % 128 * 128 ^ i)
      refine ⟨this.1, fun e => ?_, this.2.2⟩
      have := this.2.1 e
      omega

theorem getNum_bound (b : List UInt8) (a : Int) : (getNum b a).1 ≤ 9007199254740992 ∧ ((getNum b a).2.2 = 0 → 0 ≤ a ∧ a < ((getNum b a).2.1 : Int) ∧ (getNum b a).2.1 ≤ b.length) ∧ (getNum b a).2.2 ≤ 11 := by
  unfold getNum
  split
  · simp
  · have := getN_bound 8 (b.drop a.toNat) a.toNat 0 0
    refine ⟨this.1, fun e => ?_, this.2.2⟩
    have := this.2.1 e
    rw [List.length_drop] at this
    omega

/-- A text, from its bytes. -/
def getText (b : List UInt8) (a most : Int) : List UInt8 × Nat × Nat :=
  if (getNum b a).2.2 ≠ 0 then ([], 0, (getNum b a).2.2) else
  if most < ((getNum b a).1 : Int) then ([], 0, 3) else
  if (b.length : Int) - ((getNum b a).2.1 : Int) < ((getNum b a).1 : Int) then ([], 0, 10) else
  ((b.drop (getNum b a).2.1).take (getNum b a).1, (getNum b a).2.1 + (getNum b a).1, 0)

theorem text_f15 (b : List UInt8) (v : VV) (hv : SlV 1 (eB b) v) (a most : Int) (h : Heap) (hb : b.length ≤ 1000000000) :
    call F 15 [v, vi .i64 a, vi .i64 most] h = some (.ret (.tup [txt (getText b a most).1, vi .i64 (getText b a most).2.1, vi .u16 (getText b a most).2.2]), h) := by
  refine call_P (fn := f15) rfl ?_
  simp only [f15]
  generalize hs0 : ([v, vi .i64 a, vi .i64 most] ++ List.replicate _ VV.undef : List VV) = s
  have hs : s.length = 44 := by rw [← hs0]; rfl
  have h0 : s.getD 0 .undef = v := by rw [← hs0]; rfl
  have h1 : s.getD 1 .undef = vi .i64 a := by rw [← hs0]; rfl
  have h2 : s.getD 2 .undef = vi .i64 most := by rw [← hs0]; rfl
  clear hs0
  simp only [go_sem, Nat.reduceLT, Nat.reduceEqDiff, reduceCtorEq, Int.reduceLT, Int.reduceEq, hs, h0, h1, h2]
  refine XO_callP (by simp only [List.map, go_sem, Nat.reduceLT, Nat.reduceEqDiff, reduceCtorEq, Int.reduceLT, Int.reduceEq, hs]; exact hv.clos (clos_cv clos_nil)) (num_f13 b v hv a [] hb) rfl ?_
  have hbd := getNum_bound b a
  unfold getText
  generalize getNum b a = x at hbd ⊢
  obtain ⟨n, j, e⟩ := x
  simp only [go_sem, Nat.reduceLT, Nat.reduceEqDiff, reduceCtorEq, Int.reduceLT, Int.reduceEq, hs, h0, h1, h2] at hbd ⊢
  by_cases c1 : (e : Int) = 0
  · have c1' : e = 0 := by omega
    subst c1'
    have hb1 := hbd.2.1 rfl
    have e1 : IntKind.i64.wrap ((b.length : Int) - (j : Int)) = (b.length : Int) - (j : Int) := IntWalk.i64_in _ (by omega)
    by_cases c2 : most < (n : Int)
    · simp only [go_sem, Nat.reduceLT, Nat.reduceEqDiff, reduceCtorEq, Int.reduceLT, Int.reduceEq, hs, h0, h1, h2, eq_true c1, c2]
      exact Is.refl _ _
    · by_cases c3 : (b.length : Int) - (j : Int) < (n : Int)
      · simp only [go_sem, Nat.reduceLT, Nat.reduceEqDiff, reduceCtorEq, Int.reduceLT, Int.reduceEq, hs, h0, h1, h2, eq_true c1, c2, eB_len, hv.ln, e1, c3]
        exact Is.refl _ _
      · have e2 : IntKind.i64.wrap ((j : Int) + (n : Int)) = ((j + n : Nat) : Int) := by rw [IntWalk.i64_in _ (by omega)]; omega
        simp only [go_sem, Nat.reduceLT, Nat.reduceEqDiff, reduceCtorEq, Int.reduceLT, Int.reduceEq, hs, h0, h1, h2, eq_true c1, c2, eB_len, hv.ln, e1, e2, c3]
        obtain ⟨v', hv', e3⟩ := hv.part (h := h) (k := .i64) (k' := .i64) (a := (j : Int)) (b := ((j + n : Nat) : Int)) (by omega) (by omega) (by rw [eB_len]; omega)
        rw [eB_part] at hv'
        have e4 : (((j + n : Nat) : Int).toNat - (j : Int).toNat) = n := by omega
        rw [e4] at hv'
        rw [e3]
        simp only [go_sem, Nat.reduceLT, Nat.reduceEqDiff, reduceCtorEq, Int.reduceLT, Int.reduceEq, hs, e2, hv'.bs]
        exact Is.refl _ _
  · have c1' : ¬ e = 0 := by omega
    simp only [go_sem, Nat.reduceLT, Nat.reduceEqDiff, reduceCtorEq, Int.reduceLT, Int.reduceEq, hs, h0, h1, h2, c1, c1']
    exact Is.refl _ _

def row0 : List CV := [.sc (.string ⟨#[]⟩), .sc (.slice none 0 0)]
def rowC (k v : List UInt8) : List CV := [.sc (.string ⟨k.toArray⟩), .sl 1 (eB v) false]

/-- A row, from its bytes. -/
def getRow (b : List UInt8) (a : Int) : List CV × Nat × Nat :=
  if (getText b a 30).2.2 ≠ 0 then (row0, 0, (getText b a 30).2.2) else
  (rowC (getText b a 30).1 (getText b (getText b a 30).2.1 150).1, (getText b (getText b a 30).2.1 150).2.1, (getText b (getText b a 30).2.1 150).2.2)

theorem clos_tup3 {h : Heap} {c1 c2 c3 : CV} : closRes h (.tup [.cv c1, .cv c2, .cv c3]) = some (.tup [.cv c1, .cv c2, .cv c3]) := rfl

def ValIs (v : VV) (v' : VV) (_ : Heap) : Prop := v' = v

theorem row_f33 (b : List UInt8) (v : VV) (hv : SlV 1 (eB b) v) (a : Int) (hb : b.length ≤ 1000000000) :
    ∃ w h', call F 33 [v, vi .i64 a] [] = some (.ret w, h') ∧ ValIs (.tup [.agg ((getRow b a).1.map .cv), vi .i64 (getRow b a).2.1, vi .u16 (getRow b a).2.2]) w h' := by
  refine call_E (fn := f33) rfl ?_
  simp only [f33]
  generalize hs0 : ([v, vi .i64 a] ++ List.replicate _ VV.undef : List VV) = s
  have hs : s.length = 34 := by rw [← hs0]; rfl
  have h0 : s.getD 0 .undef = v := by rw [← hs0]; rfl
  have h1 : s.getD 1 .undef = vi .i64 a := by rw [← hs0]; rfl
  clear hs0
  simp only [go_sem, Nat.reduceLT, Nat.reduceEqDiff, reduceCtorEq, Int.reduceLT, Int.reduceEq, hs, h0, h1, List.nil_append, List.length_nil]
  refine XO_callP (by simp only [List.map, go_sem, Nat.reduceLT, Nat.reduceEqDiff, reduceCtorEq, Int.reduceLT, Int.reduceEq, hs]; exact hv.clos (clos_cv (clos_cv clos_nil))) (text_f15 b v hv a 30 [] hb) clos_tup3 ?_
  unfold getRow
  generalize getText b a 30 = x
  obtain ⟨k, j, e⟩ := x
  simp only [go_sem, Nat.reduceLT, Nat.reduceEqDiff, reduceCtorEq, Int.reduceLT, Int.reduceEq, hs, h0, h1]
  by_cases c1 : (e : Int) = 0
  · have c1' : e = 0 := by omega
    subst c1'
    simp only [go_sem, Nat.reduceLT, Nat.reduceEqDiff, reduceCtorEq, Int.reduceLT, Int.reduceEq, hs, h0, h1, eq_true c1]
    refine XO_callP (by simp only [List.map, go_sem, Nat.reduceLT, Nat.reduceEqDiff, reduceCtorEq, Int.reduceLT, Int.reduceEq, hs]; exact hv.clos (clos_cv (clos_cv clos_nil))) (text_f15 b v hv j 150 [] hb) clos_tup3 ?_
    generalize getText b j 150 = y
    obtain ⟨u, j2, e2⟩ := y
    simp only [go_sem, Nat.reduceLT, Nat.reduceEqDiff, reduceCtorEq, Int.reduceLT, Int.reduceEq, hs, h0, h1]
    refine RQ_c2 (id := 0) (by simp only [go_sem, Nat.reduceLT, Nat.reduceEqDiff, reduceCtorEq, Int.reduceLT, Int.reduceEq, hs]) rfl rfl (by simp only [go_sem, Nat.reduceLT, Nat.reduceEqDiff, reduceCtorEq, Int.reduceLT, Int.reduceEq, hs]) (by simp only [go_sem, Nat.reduceLT, Nat.reduceEqDiff, reduceCtorEq, Int.reduceLT, Int.reduceEq, hs]) ?_
    simp only [go_sem, Nat.reduceLT, Nat.reduceEqDiff, reduceCtorEq, Int.reduceLT, Int.reduceEq, hs]
    rfl
  · have c1' : ¬ e = 0 := by omega
    simp only [go_sem, Nat.reduceLT, Nat.reduceEqDiff, reduceCtorEq, Int.reduceLT, Int.reduceEq, hs, h0, h1, c1, c1']
    refine RQ_c2 (id := 0) (by simp only [go_sem, Nat.reduceLT, Nat.reduceEqDiff, reduceCtorEq, Int.reduceLT, Int.reduceEq, hs]) rfl rfl (by simp only [go_sem, Nat.reduceLT, Nat.reduceEqDiff, reduceCtorEq, Int.reduceLT, Int.reduceEq, hs]) (by simp only [go_sem, Nat.reduceLT, Nat.reduceEqDiff, reduceCtorEq, Int.reduceLT, Int.reduceEq, hs]) ?_
    simp only [go_sem, Nat.reduceLT, Nat.reduceEqDiff, reduceCtorEq, Int.reduceLT, Int.reduceEq, hs]
    rfl

end Go.V01
