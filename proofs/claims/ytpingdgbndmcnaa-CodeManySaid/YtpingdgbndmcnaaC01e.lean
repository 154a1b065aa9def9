/- Part of a proof: of what it says, and when, each theorem tells itself. -/
import Derived.Test.YtpingdgbndmcnaaC01d
set_option linter.unusedSimpArgs false
namespace Go.V01
open Go Go.Vm

theorem whole_known : wholeB (getRow [1, 1, 97, 1, 49]) [1, 1, 97, 1, 49] = ([rowC [97] [49]], 0) := by rfl
theorem num_known : getNum [128, 0] 0 = (0, 0, 11) := by rfl

theorem known_f11 : ∃ h', call F 11 [] [] = some (.ret (vb true), h') := by
  have : ∃ v h', call F 11 [] [] = some (.ret v, h') ∧ ValIs (vb true) v h' := by
    refine call_E (fn := f11) rfl ?_
    simp only [f11]
    generalize hs0 : ([] ++ List.replicate _ VV.undef : List VV) = s
    have hs : s.length = 47 := by rw [← hs0]; rfl
    clear hs0
    simp only [go_sem, Nat.reduceLT, Nat.reduceEqDiff, reduceCtorEq, Int.reduceLT, Int.reduceEq, hs]
    rw [show mkoO [] 1 5 _ _ = some (.own 0 0 0 5 true, [.arr 1 (eB [1, 1, 97, 1, 49]) 0 false]) from rfl]
    simp only [go_sem, Nat.reduceLT, Nat.reduceEqDiff, reduceCtorEq, Int.reduceLT, Int.reduceEq, hs]
    obtain ⟨v1, hc1, hcall1, hres1⟩ := rows_f22 [1, 1, 97, 1, 49] (.cv (.sl 1 (eB [1, 1, 97, 1, 49]) true)) SlV.sl (by decide)
    rw [whole_known] at hres1
    refine XO_callP (h1 := [.arr 1 (eB [1, 1, 97, 1, 49]) 0 true]) (by simp only [List.map, go_sem, Nat.reduceLT, Nat.reduceEqDiff, reduceCtorEq, Int.reduceLT, Int.reduceEq, hs]; rfl) hcall1 hres1 ?_
    simp only [go_sem, Nat.reduceLT, Nat.reduceEqDiff, reduceCtorEq, Int.reduceLT, Int.reduceEq, hs]
    refine XO_callP (by simp only [List.map, go_sem, Nat.reduceLT, Nat.reduceEqDiff, reduceCtorEq, Int.reduceLT, Int.reduceEq, hs]; exact (SlV.sl (es := eB [128, 0])).clos (clos_cv clos_nil)) (num_f13 [128, 0] _ SlV.sl 0 [] (by decide)) rfl ?_
    rw [num_known]
    simp only [go_sem, Nat.reduceLT, Nat.reduceEqDiff, reduceCtorEq, Int.reduceLT, Int.reduceEq, hs]
    obtain ⟨v2, hc2, hcall2, hres2⟩ := num_pure 300
    rw [show num (clamp 300) = [172, 2] from rfl] at hres2
    refine XO_callP (by simp only [List.map, go_sem, Nat.reduceLT, Nat.reduceEqDiff, reduceCtorEq, Int.reduceLT, Int.reduceEq, hs]; exact clos_cv clos_nil) hcall2 hres2 ?_
    simp only [go_sem, Nat.reduceLT, Nat.reduceEqDiff, reduceCtorEq, Int.reduceLT, Int.reduceEq, hs]
    have k0 : ((0 : Nat) : Int) = 0 := rfl
    have k11 : ((11 : Nat) : Int) = 11 := rfl
    have es : slV 2 ([rowC [97] [49]], 0).1 = .cv (.sl 2 [[.sc (.string ⟨[97].toArray⟩), .sl 1 (eB [49]) false]] false) := rfl
    have k1 : ((1 : Nat) : Int) = 1 := rfl
    simp only [go_sem, Nat.reduceLT, Nat.reduceEqDiff, reduceCtorEq, Int.reduceLT, Int.reduceEq, hs, k0, k1, k11, es, List.length_cons, List.length_nil]
    rw [ia_sl (e := [.sc (.string ⟨[97].toArray⟩), .sl 1 (eB [49]) false]) (by decide) rfl]
    simp only [go_sem, Nat.reduceLT, Nat.reduceEqDiff, reduceCtorEq, Int.reduceLT, Int.reduceEq, hs, k0, k1, k11]
    obtain ⟨v3, hc3, hcall3, hb3⟩ := rows_f20 [[.sc (.string ⟨[97].toArray⟩), .sl 1 (eB [49]) false]] [([97], [49])] (.cv (.sl 2 [[.sc (.string ⟨[97].toArray⟩), .sl 1 (eB [49]) false]] false)) SlV.sl (.cons ⟨_, rfl, SlV.sl⟩ .nil) [] (by decide) (by decide)
    have hres3 := hb3.close
    rw [show slV 1 (eB (rowsB [([97], [49])])) = .cv (.sl 1 (eB [1, 1, 97, 1, 49]) false) from rfl] at hres3
    refine XO_callP (by simp only [List.map, go_sem, Nat.reduceLT, Nat.reduceEqDiff, reduceCtorEq, Int.reduceLT, Int.reduceEq, hs]; exact clos_cv clos_nil) hcall3 hres3 ?_
    simp only [go_sem, Nat.reduceLT, Nat.reduceEqDiff, reduceCtorEq, Int.reduceLT, Int.reduceEq, hs, k0, k1, k11]
    exact rfl
  obtain ⟨v, h', h1, h2⟩ := this
  unfold ValIs at h2
  exact ⟨h', by rw [h1, h2]⟩

end Go.V01
