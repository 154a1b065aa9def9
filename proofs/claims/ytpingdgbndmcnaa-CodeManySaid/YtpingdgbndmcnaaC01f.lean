/- Part of a proof: of what it says, and when, each theorem tells itself. -/
import Derived.Test.YtpingdgbndmcnaaC01e
set_option linter.unusedSimpArgs false
namespace Go.V01
open Go Go.Vm

/-! ### numbers' bytes -/

theorem u8_toNat (n : Nat) (h : n < 256) : (u8 n).toNat = n := by
  unfold u8
  rw [UInt8.toNat_ofNat']
  exact Nat.mod_eq_of_lt h
theorem u8_inj {a b : Nat} (ha : a < 256) (hb : b < 256) (h : u8 a = u8 b) : a = b := by
  have := congrArg UInt8.toNat h
  rwa [u8_toNat a ha, u8_toNat b hb] at this

theorem numF_inj : ∀ k a b, a < 128 ^ (k + 1) → b < 128 ^ (k + 1) → numF k a = numF k b → a = b
  | 0, a, b, ha, hb, h => by
    simp only [numF, List.cons.injEq, and_true] at h
    exact u8_inj (by omega) (by omega) h
  | k + 1, a, b, ha, hb, h => by
    rw [Nat.pow_succ] at ha hb
    simp only [numF] at h
    by_cases h1 : 127 < a
    · by_cases h2 : 127 < b
      · rw [if_pos h1, if_pos h2, List.cons.injEq] at h
        have e1 := u8_inj (by omega) (by omega) h.1
        have e2 := numF_inj k _ _ (by omega) (by omega) h.2
        omega
      · rw [if_pos h1, if_neg h2, List.cons.injEq] at h
        have e1 := u8_inj (by omega) (by omega) h.1
        omega
    · by_cases h2 : 127 < b
      · rw [if_neg h1, if_pos h2, List.cons.injEq] at h
        have e1 := u8_inj (by omega) (by omega) h.1
        omega
      · rw [if_neg h1, if_neg h2, List.cons.injEq] at h
        exact u8_inj (by omega) (by omega) h.1

theorem numF_mono : ∀ k a b, a ≤ b → (numF k a).length ≤ (numF k b).length
  | 0, a, b, h => by simp [numF]
  | k + 1, a, b, h => by
    simp only [numF]
    by_cases h1 : 127 < a
    · rw [if_pos h1, if_pos (by omega)]
      simp only [List.length_cons]
      have := numF_mono k (a / 128) (b / 128) (by omega)
      omega
    · rw [if_neg h1]
      split <;> simp

theorem numF_len : ∀ k j n, n < 128 ^ (j + 1) → (numF k n).length ≤ j + 1
  | 0, j, n, h => by simp [numF]
  | k + 1, 0, n, h => by
    have : ¬ 127 < n := by omega
    simp only [numF, if_neg this]
    simp
  | k + 1, j + 1, n, h => by
    rw [Nat.pow_succ] at h
    simp only [numF]
    split
    · have := numF_len k j (n / 128) (by omega)
      simp only [List.length_cons]; omega
    · simp

theorem clamp_le (n : Int) : clamp n ≤ 9007199254740992 := by unfold clamp; omega
theorem clamp_of (n : Nat) (h : n ≤ 9007199254740992) : clamp n = n := by unfold clamp; omega
theorem pow9 : (128 : Nat) ^ (8 + 1) = 9223372036854775808 := by decide
theorem pow8 : (128 : Nat) ^ (7 + 1) = 72057594037927936 := by decide
theorem num_len (n : Int) : (num (clamp n)).length ≤ 8 := numF_len 8 7 _ (by rw [pow8]; have := clamp_le n; omega)
theorem num_eq {a b : Nat} (ha : a ≤ 9007199254740992) (hb : b ≤ 9007199254740992) : num a = num b ↔ a = b :=
  ⟨numF_inj 8 a b (by rw [pow9]; omega) (by rw [pow9]; omega), fun h => by rw [h]⟩

theorem law_order (a b : Nat) (ha : a < 18446744073709551616) (hb : b < 18446744073709551616) : ∃ h', call F 4 [vi .u64 a, vi .u64 b] [] = some (.ret (vb true), h') := by
  refine call_V (fn := f4) rfl ?_
  simp only [f4]
  generalize hs0 : ([vi .u64 a, vi .u64 b] ++ List.replicate _ VV.undef : List VV) = s
  have hs : s.length = 49 := by rw [← hs0]; rfl
  have h0 : s.getD 0 .undef = vi .u64 a := by rw [← hs0]; rfl
  have h1 : s.getD 1 .undef = vi .u64 b := by rw [← hs0]; rfl
  clear hs0
  have ea : IntKind.i64.wrap ((a : Int).tmod 9007199254740993) = ((a % 9007199254740993 : Nat) : Int) := by
    rw [Int.tmod_eq_emod_of_nonneg (by omega), IntWalk.i64_in _ (by omega)]; omega
  have eb : IntKind.i64.wrap ((b : Int).tmod 9007199254740993) = ((b % 9007199254740993 : Nat) : Int) := by
    rw [Int.tmod_eq_emod_of_nonneg (by omega), IntWalk.i64_in _ (by omega)]; omega
  simp only [go_sem, Nat.reduceLT, Nat.reduceEqDiff, reduceCtorEq, Int.reduceLT, Int.reduceEq, hs, h0, h1, ea, eb]
  have hx : a % 9007199254740993 ≤ 9007199254740992 := by omega
  have hy : b % 9007199254740993 ≤ 9007199254740992 := by omega
  generalize a % 9007199254740993 = x at hx ⊢
  generalize b % 9007199254740993 = y at hy ⊢
  refine XB_cut (fun st => st.h = [] ∧ st.s.length = 49 ∧ ∃ p q : Nat, p ≤ q ∧ q ≤ 9007199254740992 ∧ st.s.getD 5 .undef = vi .i64 p ∧ st.s.getD 6 .undef = vi .i64 q) (fun hc => ?_) (fun hc => ?_) ?_
  · simp only [go_sem, Nat.reduceLT, Nat.reduceEqDiff, reduceCtorEq, Int.reduceLT, Int.reduceEq, hs]
    exact ⟨trivial, by simp only [slot_len, hs], y, x, by omega, hx, by simp only [go_sem, Nat.reduceLT, Nat.reduceEqDiff, reduceCtorEq, Int.reduceLT, Int.reduceEq, hs], by simp only [go_sem, Nat.reduceLT, Nat.reduceEqDiff, reduceCtorEq, Int.reduceLT, Int.reduceEq, hs]⟩
  · simp only [go_sem, Nat.reduceLT, Nat.reduceEqDiff, reduceCtorEq, Int.reduceLT, Int.reduceEq, hs]
    exact ⟨trivial, by simp only [slot_len, hs], x, y, by omega, hy, by simp only [go_sem, Nat.reduceLT, Nat.reduceEqDiff, reduceCtorEq, Int.reduceLT, Int.reduceEq, hs], by simp only [go_sem, Nat.reduceLT, Nat.reduceEqDiff, reduceCtorEq, Int.reduceLT, Int.reduceEq, hs]⟩
  · rintro s h ⟨rfl, hs, p, q, hpq, hq, h5, h6⟩
    simp only at hs h5 h6
    simp only [go_sem, Nat.reduceLT, Nat.reduceEqDiff, reduceCtorEq, Int.reduceLT, Int.reduceEq, hs]
    refine X_draw rfl ?_
    obtain ⟨hk, hknown⟩ := known_f11
    obtain ⟨vp, hvp, hcp, hrp⟩ := num_pure p
    obtain ⟨vq, hvq, hcq, hrq⟩ := num_pure q
    rw [clamp_of p (by omega)] at hrp
    rw [clamp_of q (by omega)] at hrq
    have m1 : ((num p).length : Int) ≤ ((num q).length : Int) := by have := numF_mono 8 p q hpq; unfold num; omega
    have m2 : ((num q).length : Int) ≤ 8 := by have := num_len q; rw [clamp_of q (by omega)] at this; omega
    refine XD_callP clos_nil hknown res_cv ?_
    simp only [go_sem, Nat.reduceLT, Nat.reduceEqDiff, reduceCtorEq, Int.reduceLT, Int.reduceEq, hs, h5]
    refine XD_callP (by simp only [List.map, go_sem, Nat.reduceLT, Nat.reduceEqDiff, reduceCtorEq, Int.reduceLT, Int.reduceEq, hs]; exact clos_cv clos_nil) hcp hrp ?_
    simp only [go_sem, Nat.reduceLT, Nat.reduceEqDiff, reduceCtorEq, Int.reduceLT, Int.reduceEq, hs, h6]
    refine XD_callP (by simp only [List.map, go_sem, Nat.reduceLT, Nat.reduceEqDiff, reduceCtorEq, Int.reduceLT, Int.reduceEq, hs]; exact clos_cv clos_nil) hcq hrq ?_
    simp only [go_sem, Nat.reduceLT, Nat.reduceEqDiff, reduceCtorEq, Int.reduceLT, Int.reduceEq, hs, h5, h6, eB_len, m1]
    refine XD_callP (by simp only [List.map, go_sem, Nat.reduceLT, Nat.reduceEqDiff, reduceCtorEq, Int.reduceLT, Int.reduceEq, hs]; exact clos_cv clos_nil) hcp hrp ?_
    simp only [go_sem, Nat.reduceLT, Nat.reduceEqDiff, reduceCtorEq, Int.reduceLT, Int.reduceEq, hs, h5, h6]
    refine XD_callP (by simp only [List.map, go_sem, Nat.reduceLT, Nat.reduceEqDiff, reduceCtorEq, Int.reduceLT, Int.reduceEq, hs]; exact clos_cv clos_nil) hcq hrq ?_
    have e : (decide (((p : Nat) : Int) = ((q : Nat) : Int)) == decide (num p = num q)) = true := by
      rw [beq_iff_eq, decide_eq_decide, num_eq (by omega) hq]; omega
    simp only [go_sem, Nat.reduceLT, Nat.reduceEqDiff, reduceCtorEq, Int.reduceLT, Int.reduceEq, hs, h5, h6, e]
    refine XD_callP (by simp only [List.map, go_sem, Nat.reduceLT, Nat.reduceEqDiff, reduceCtorEq, Int.reduceLT, Int.reduceEq, hs]; exact clos_cv clos_nil) hcq hrq ?_
    simp only [go_sem, Nat.reduceLT, Nat.reduceEqDiff, reduceCtorEq, Int.reduceLT, Int.reduceEq, hs, h5, h6, eB_len, m2]
    exact rfl

end Go.V01
