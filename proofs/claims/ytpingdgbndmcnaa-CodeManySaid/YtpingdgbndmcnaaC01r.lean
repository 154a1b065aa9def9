/- Part of a proof: of what it says, and when, each theorem tells itself. -/
import Derived.Test.YtpingdgbndmcnaaC01q
set_option linter.unusedSimpArgs false
namespace Go.V01
open Go Go.Vm

/-! ### the same rows -/

theorem RowsE.get {l : List (List CV)} {k : List (List UInt8 × List UInt8)} (h : RowsE l k) : ∀ {i : Nat}, i < k.length → ∃ e p, l[i]? = some e ∧ k[i]? = some p ∧ rowE e p := by
  induction h with
  | nil => intro i hi; simp at hi
  | @cons e p l k h _ ih =>
    intro i hi
    cases i with
    | zero => exact ⟨e, p, rfl, rfl, h⟩
    | succ i =>
      obtain ⟨e', p', h1, h2, h3⟩ := ih (i := i) (by simpa using hi)
      exact ⟨e', p', by simpa using h1, by simpa using h2, h3⟩

theorem f23_loop (l m : List (List CV)) (k : List (List UInt8 × List UInt8)) (vl vm : VV) (hl : SlV 2 l vl) (hm : SlV 2 m vm) (hR : RowsE l k) (hS : RowsE m k) (hk : k.length ≤ 1000000000) (h : Heap) : ∀ (d i : Nat) (s : List VV) (Q : Pst),
    i + d = k.length → s.length = 43 → s.getD 0 .undef = vl → s.getD 1 .undef = vm → s.getD 5 .undef = vi .i64 i →
    (∀ s', s'.length = 43 → Q (.exit 0) ⟨s', h⟩) → X F (.loop f23_1) ⟨s, h⟩ Q := by
  intro d
  induction d with
  | zero =>
    intro i s Q hi hs h0 h1 h5 hQ
    rw [X_loop, X_eq f23_1.eq_1]
    have hlt : ¬ (i : Int) < (l.length : Int) := by rw [hR.len]; omega
    simp only [go_sem, Nat.reduceLT, Nat.reduceEqDiff, reduceCtorEq, Int.reduceLT, Int.reduceEq, hs, h0, h5, hl.ln, hlt]
    exact hQ _ (by simp only [slot_len, hs])
  | succ d ih =>
    intro i s Q hi hs h0 h1 h5 hQ
    rw [X_loop, X_eq f23_1.eq_1]
    have hlt : (i : Int) < (l.length : Int) := by rw [hR.len]; omega
    obtain ⟨e, p, g1, g2, c, rfl, hc⟩ := hR.get (i := i) (by omega)
    obtain ⟨e', p', g3, g4, c', rfl, hc'⟩ := hS.get (i := i) (by omega)
    rw [g2] at g4; cases g4
    have hia : ∀ h : Heap, iaO h 2 vl (vi .i64 (i : Int)) = some (.rptr [.sc (.string ⟨p.1.toArray⟩), c], h) := fun h => hl.ia (by omega) (by exact g1)
    have hib : ∀ h : Heap, iaO h 2 vm (vi .i64 (i : Int)) = some (.rptr [.sc (.string ⟨p.1.toArray⟩), c'], h) := fun h => hm.ia (by omega) (by exact g3)
    have e5 : IntKind.i64.wrap ((i : Int) + 1) = ((i + 1 : Nat) : Int) := by rw [IntWalk.i64_in _ (by omega)]; omega
    simp only [go_sem, Nat.reduceLT, Nat.reduceEqDiff, reduceCtorEq, Int.reduceLT, Int.reduceEq, hs, h0, h5, hl.ln, hlt]
    refine X_draw rfl ?_
    have hne : decide (p.1 ≠ p.1) = false := by simp
    have hne2 : decide (p.2 ≠ p.2) = false := by simp
    simp only [go_sem, Nat.reduceLT, Nat.reduceEqDiff, reduceCtorEq, Int.reduceLT, Int.reduceEq, hs, h0, h1, h5, hia, hib, hc.bs, hc'.bs, e5]
    exact ih (i + 1) _ Q (by omega) (by simp only [slot_len, hs]) (by simp only [go_sem, Nat.reduceLT, Nat.reduceEqDiff, reduceCtorEq, Int.reduceLT, Int.reduceEq, h0]) (by simp only [go_sem, Nat.reduceLT, Nat.reduceEqDiff, reduceCtorEq, Int.reduceLT, Int.reduceEq, h1]) (by simp only [go_sem, Nat.reduceLT, Nat.reduceEqDiff, reduceCtorEq, Int.reduceLT, Int.reduceEq, hs]) hQ

theorem same_f23 (l m : List (List CV)) (k : List (List UInt8 × List UInt8)) (vl vm : VV) (hl : SlV 2 l vl) (hm : SlV 2 m vm) (hR : RowsE l k) (hS : RowsE m k) (hk : k.length ≤ 1000000000) (h : Heap) :
    ∃ v h', call F 23 [vl, vm] h = some (.ret v, h') ∧ ValIs (vb true) v h' := by
  refine call_E (fn := f23) rfl ?_
  simp only [f23]
  generalize hs0 : ([vl, vm] ++ List.replicate _ VV.undef : List VV) = s
  have hs : s.length = 43 := by rw [← hs0]; rfl
  have h0 : s.getD 0 .undef = vl := by rw [← hs0]; rfl
  have h1 : s.getD 1 .undef = vm := by rw [← hs0]; rfl
  clear hs0
  simp only [go_sem, Nat.reduceLT, Nat.reduceEqDiff, reduceCtorEq, Int.reduceLT, Int.reduceEq, hs]
  rw [X_eq f23_0.eq_1]
  have hne : ((l.length : Int) ≠ (m.length : Int)) = False := by simp [hR.len, hS.len]
  simp only [go_sem, Nat.reduceLT, Nat.reduceEqDiff, reduceCtorEq, Int.reduceLT, Int.reduceEq, hs, h0, h1, hl.ln, hm.ln, hR.len, hS.len]
  refine f23_loop l m k vl vm hl hm hR hS hk h k.length 0 _ _ (by omega) (by simp only [slot_len, hs]) (by simp only [go_sem, Nat.reduceLT, Nat.reduceEqDiff, reduceCtorEq, Int.reduceLT, Int.reduceEq, h0]) (by simp only [go_sem, Nat.reduceLT, Nat.reduceEqDiff, reduceCtorEq, Int.reduceLT, Int.reduceEq, h1]) (by simp only [go_sem, Nat.reduceLT, Nat.reduceEqDiff, reduceCtorEq, Int.reduceLT, Int.reduceEq, hs]; rfl) ?_
  intro s' hs'
  simp only [go_sem, Nat.reduceLT, Nat.reduceEqDiff, reduceCtorEq, Int.reduceLT, Int.reduceEq, hs']
  rfl

end Go.V01
