/- Part of a proof: of what it says, and when, each theorem tells itself. -/
import Derived.Test.YtpingdgbndmcnaaC01h
set_option linter.unusedSimpArgs false
namespace Go.V01
open Go Go.Vm

theorem eB_ne {l : List UInt8} : eB l ≠ [] ↔ l ≠ [] := by cases l <;> simp [eB]
theorem eB_take {l : List UInt8} {n : Nat} : (eB l).take n = eB (l.take n) := by simp [eB, List.map_take]
theorem eB_drop {l : List UInt8} {n : Nat} : (eB l).drop n = eB (l.drop n) := by simp [eB, List.map_drop]
theorem num_ne (n : Nat) : num n ≠ [] := numF_ne 8 n
theorem wrap_pred {n : Nat} (h : 0 < n) (h2 : n ≤ 1000000000) : IntKind.i64.wrap ((n : Int) - 1) = ((n - 1 : Nat) : Int) := by
  rw [IntWalk.i64_in _ (by omega)]; omega

theorem law_short (n : Int) (l : List UInt8) (m : UInt8) : ∃ h', call F 3 [vi .i64 n, txt l, vi .u8 m.toNat] [] = some (.ret (vb true), h') := by
  obtain ⟨hk, hknown⟩ := known_f11
  refine call_V (fn := f3) rfl ?_
  simp only [f3]
  generalize hs0 : ([vi .i64 n, txt l, vi .u8 m.toNat] ++ List.replicate _ VV.undef : List VV) = s
  have hs : s.length = 112 := by rw [← hs0]; rfl
  have h0 : s.getD 0 .undef = vi .i64 n := by rw [← hs0]; rfl
  have h1 : s.getD 1 .undef = txt l := by rw [← hs0]; rfl
  have h2 : s.getD 2 .undef = vi .u8 m.toNat := by rw [← hs0]; rfl
  clear hs0
  simp only [go_sem, Nat.reduceLT, Nat.reduceEqDiff, reduceCtorEq, Int.reduceLT, Int.reduceEq, hs, h0, h1, h2]
  refine XB_dec (fun hc => ?_) (fun hc => ?_)
  · simp only [go_sem, Nat.reduceLT, Nat.reduceEqDiff, reduceCtorEq, Int.reduceLT, Int.reduceEq, hs]
    refine XO_callP clos_nil hknown res_cv ?_
    simp only [go_sem, Nat.reduceLT, Nat.reduceEqDiff, reduceCtorEq, Int.reduceLT, Int.reduceEq, hs]
    exact rfl
  · have hl : l.length ≤ 200 := by omega
    obtain ⟨v1, g1, hc1, hr1⟩ := num_pure n
    obtain ⟨v2, g2, hc2, hr2⟩ := text_pure l (by omega)
    have hB := num_len n
    obtain ⟨B0, c, eB0, hc128, hB0⟩ := num_last n
    have hBn : num (clamp n) ≠ [] := num_ne _
    generalize num (clamp n) = B at *
    have hBp : 0 < B.length := List.length_pos_iff.2 hBn
    have hT : 0 < (text l).length := by
      have := text_ne l
      rw [eB_ne] at this
      exact List.length_pos_iff.2 this
    have hT2 : (text l).length ≤ 300 := by
      unfold text
      have := num_len l.length
      simp only [List.length_append]; omega
    have hlen : ¬ (B.length : Int) = 0 := by omega
    simp only [go_sem, Nat.reduceLT, Nat.reduceEqDiff, reduceCtorEq, Int.reduceLT, Int.reduceEq, hs, h0, h1, h2]
    refine XO_callP (by simp only [List.map, go_sem, Nat.reduceLT, Nat.reduceEqDiff, reduceCtorEq, Int.reduceLT, Int.reduceEq, hs, h0]; exact clos_cv clos_nil) hc1 hr1 ?_
    simp only [go_sem, Nat.reduceLT, Nat.reduceEqDiff, reduceCtorEq, Int.reduceLT, Int.reduceEq, hs, h0, h1, h2, eB_len, hlen, wrap_pred hBp (by omega)]
    obtain ⟨v3, hv3, e3⟩ := (SlV.sl (z := 1) (es := eB B) (ex := false)).upto (h := []) (k := .i64) (b := ((B.length - 1 : Nat) : Int)) (by omega) (by rw [eB_len]; omega)
    rw [e3]
    rw [eB_take] at hv3
    simp only [go_sem, Nat.reduceLT, Nat.reduceEqDiff, reduceCtorEq, Int.reduceLT, Int.reduceEq, hs]
    have hB1 : B.take ((B.length - 1 : Nat) : Int).toNat = B0 := by
      rw [eB0]; simp
    rw [hB1] at hv3
    have hB0l : B0.length < 8 := by rw [eB0] at hB; simp at hB; omega
    refine XO_callP (by simp only [List.map, go_sem, Nat.reduceLT, Nat.reduceEqDiff, reduceCtorEq, Int.reduceLT, Int.reduceEq, hs]; exact hv3.clos (clos_cv clos_nil)) (num_f13 B0 v3 hv3 0 [] (by omega)) rfl ?_
    rw [getNum_short hB0 hB0l]
    simp only [go_sem, Nat.reduceLT, Nat.reduceEqDiff, reduceCtorEq, Int.reduceLT, Int.reduceEq, hs, h0, h1, h2]
    refine XO_callP (by simp only [List.map, go_sem, Nat.reduceLT, Nat.reduceEqDiff, reduceCtorEq, Int.reduceLT, Int.reduceEq, hs, h1]; exact clos_cv clos_nil) hc2 hr2 ?_
    simp only [go_sem, Nat.reduceLT, Nat.reduceEqDiff, reduceCtorEq, Int.reduceLT, Int.reduceEq, hs, h0, h1, h2, eB_len, wrap_pred hT (by omega)]
    obtain ⟨v4, hv4, e4⟩ := (SlV.sl (z := 1) (es := eB (text l)) (ex := false)).upto (h := []) (k := .i64) (b := (((text l).length - 1 : Nat) : Int)) (by omega) (by rw [eB_len]; omega)
    rw [e4]
    rw [eB_take] at hv4
    simp only [go_sem, Nat.reduceLT, Nat.reduceEqDiff, reduceCtorEq, Int.reduceLT, Int.reduceEq, hs]
    refine XO_callP (by simp only [List.map, go_sem, Nat.reduceLT, Nat.reduceEqDiff, reduceCtorEq, Int.reduceLT, Int.reduceEq, hs]; exact hv4.clos (clos_cv (clos_cv clos_nil))) (text_f15 _ v4 hv4 0 1000 [] (by rw [List.length_take]; omega)) rfl ?_
    have g10 := getText_cut l hl
    rw [show (((text l).length - 1 : Nat) : Int).toNat = (text l).length - 1 from rfl]
    rw [g10]
    generalize getText ((text l).take ((text l).length - 1)) 0 1000 = y
    simp only [go_sem, Nat.reduceLT, Nat.reduceEqDiff, reduceCtorEq, Int.reduceLT, Int.reduceEq, hs]
    refine XO_appG (BufG.nil [] 1) (new := eB B) (by simp only [go_sem, Nat.reduceLT, Nat.reduceEqDiff, reduceCtorEq, Int.reduceLT, Int.reduceEq, hs]) (by simp only [go_sem, Nat.reduceLT, Nat.reduceEqDiff, reduceCtorEq, Int.reduceLT, Int.reduceEq, hs]) (by simp only [eB_len, List.length_nil]; omega) (by simp only [eB_len, List.length_nil]; omega) (fun v5 h5 hb5 _ _ => ?_)
    rw [List.nil_append] at hb5
    have ho5 := hb5.own (eB_ne.2 hBn)
    have hlast : B[B.length - 1]? = some (u8 c) := by
      rw [eB0]; simp
    obtain ⟨p, hp1, hp2, hp3⟩ := ho5.byte hlast
    simp only [go_sem, Nat.reduceLT, Nat.reduceEqDiff, reduceCtorEq, Int.reduceLT, Int.reduceEq, hs, hb5.ln, eB_len, wrap_pred hBp (by omega), hp1, hp2, u8_toNat c (by omega), u8_or128 c (by omega)]
    obtain ⟨h6, e6, ho6⟩ := hp3 (u8 (128 + c % 128))
    rw [u8_toNat _ (by omega)] at e6
    rw [e6]
    simp only [go_sem, Nat.reduceLT, Nat.reduceEqDiff, reduceCtorEq, Int.reduceLT, Int.reduceEq, hs]
    have eL : B.set (B.length - 1) (u8 (128 + c % 128)) = B0 ++ [u8 (128 + c % 128)] := by
      rw [eB0]; simp
    rw [eL] at ho6
    refine XO_appG (ho6.bufG (eB_ne.2 (by simp))) (new := eB [0]) (by simp only [go_sem, Nat.reduceLT, Nat.reduceEqDiff, reduceCtorEq, Int.reduceLT, Int.reduceEq, hs]) (by simp only [go_sem, Nat.reduceLT, Nat.reduceEqDiff, reduceCtorEq, Int.reduceLT, Int.reduceEq, hs]; rfl) (by simp only [eB_len, List.length_append, List.length_singleton]; omega) (by simp only [eB_len, List.length_append, List.length_singleton]; omega) (fun v7 h7 hb7 _ _ => ?_)
    rw [← eB_append] at hb7
    obtain ⟨g8, e8⟩ := hb7.slV
    simp only [go_sem, Nat.reduceLT, Nat.reduceEqDiff, reduceCtorEq, Int.reduceLT, Int.reduceEq, hs]
    have hge : ∀ d ∈ B0 ++ [u8 (128 + c % 128)], 128 ≤ d.toNat := by
      intro d hd
      rcases List.mem_append.1 hd with hd | hd
      · exact hB0 d hd
      · simp only [List.mem_singleton] at hd
        subst hd
        rw [u8_toNat _ (by omega)]; omega
    refine XO_callP (by simp only [List.map, go_sem, Nat.reduceLT, Nat.reduceEqDiff, reduceCtorEq, Int.reduceLT, Int.reduceEq, hs]; exact closAs_cons e8 (clos_cv clos_nil)) (num_f13 _ _ slV_SlV 0 [] (by simp only [List.length_append, List.length_singleton]; omega)) rfl ?_
    rw [getNum_zero hge (by simp only [List.length_append, List.length_singleton]; omega) (by simp)]
    have em : IntKind.i64.wrap (m.toNat : Int) = (m.toNat : Int) := IntWalk.i64_in _ (by have := m.toNat_lt; omega)
    simp only [go_sem, Nat.reduceLT, Nat.reduceEqDiff, reduceCtorEq, Int.reduceLT, Int.reduceEq, hs, h2, em]
    refine XO_callP (by simp only [List.map, go_sem, Nat.reduceLT, Nat.reduceEqDiff, reduceCtorEq, Int.reduceLT, Int.reduceEq, hs]; exact clos_cv (clos_cv (clos_cv clos_nil))) (text_f15 _ _ SlV.sl 0 m.toNat [] (by omega)) rfl ?_
    have gt := getText_text [] [] l m.toNat (by omega)
    simp only [List.nil_append, List.append_nil, List.length_nil, Nat.zero_add] at gt
    rw [show ((0 : Nat) : Int) = 0 from rfl] at gt
    rw [gt]
    by_cases hm : (m.toNat : Int) < (l.length : Int)
    · simp only [go_sem, Nat.reduceLT, Nat.reduceEqDiff, reduceCtorEq, Int.reduceLT, Int.reduceEq, hs, hm]
      refine XO_callP clos_nil hknown res_cv ?_
      simp only [go_sem, Nat.reduceLT, Nat.reduceEqDiff, reduceCtorEq, Int.reduceLT, Int.reduceEq, hs, h1, h2, em, hm, Int.cast_ofNat_Int, Int.ofNat_zero, BEq.rfl, beq_self_eq_true]
      exact rfl
    · simp only [go_sem, Nat.reduceLT, Nat.reduceEqDiff, reduceCtorEq, Int.reduceLT, Int.reduceEq, hs, hm]
      refine XO_callP clos_nil hknown res_cv ?_
      simp only [go_sem, Nat.reduceLT, Nat.reduceEqDiff, reduceCtorEq, Int.reduceLT, Int.reduceEq, hs, h1, h2, em, hm, Int.cast_ofNat_Int, Int.ofNat_zero, BEq.rfl, beq_self_eq_true]
      exact rfl

theorem short_in {H : Type} {d0 d1 d2 : DataW H} {u0 u1 u2 : VV} (h0 : DV Proofs.Try.prog 3 d0 u0) (h1 : DV Proofs.Try.prog 9 d1 u1) (h2 : DV Proofs.Try.prog 5 d2 u2) : ∃ h', call F 3 [u0, u1, u2] [] = some (.ret (vb true), h') := by
  obtain ⟨n, rfl, _⟩ := DV_i64 Proofs.Try.underlying3 h0
  obtain ⟨l, rfl, _⟩ := DV_str Proofs.Try.underlying9 h1
  obtain ⟨m, rfl⟩ := DV_u8 Proofs.Try.underlying5 h2
  exact law_short n l m

end Go.V01
