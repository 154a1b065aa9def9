/- Part of a proof: of what it says, and when, each theorem tells itself. -/
import Derived.Test.YtpingdgbndmcnaaC01g
set_option linter.unusedSimpArgs false
namespace Go.V01
open Go Go.Vm

/-! ### a number's bytes, and the way back -/

theorem getN_numF : ∀ j k n r at_ i acc, n < 128 ^ (j + 1) → (numF j n).length ≤ k → (0 < n ∨ i = 0) → acc + n * 128 ^ i ≤ 9007199254740992 →
    getN k (numF j n ++ r) at_ i acc = (acc + n * 128 ^ i, at_ + i + (numF j n).length, 0)
  | 0, 0, n, r, at_, i, acc, hn, hk, h0, hm => by simp [numF] at hk
  | 0, k + 1, n, r, at_, i, acc, hn, hk, h0, hm => by
    have hn' : n < 128 := by omega
    simp only [numF, List.cons_append, List.nil_append, getN, u8_toNat n (by omega), Nat.mod_eq_of_lt hn', hn', if_true]
    rw [if_neg (by omega)]
    rfl
  | j + 1, 0, n, r, at_, i, acc, hn, hk, h0, hm => by
    simp only [numF] at hk
    split at hk <;> simp at hk
  | j + 1, k + 1, n, r, at_, i, acc, hn, hk, h0, hm => by
    rw [Nat.pow_succ] at hn
    simp only [numF] at hk ⊢
    by_cases h : 127 < n
    · rw [if_pos h] at hk ⊢
      simp only [List.length_cons] at hk ⊢
      have e : acc + n % 128 * 128 ^ i + n / 128 * 128 ^ (i + 1) = acc + n * 128 ^ i := by
        have : n * 128 ^ i = (n % 128 + 128 * (n / 128)) * 128 ^ i := by rw [Nat.mod_add_div]
        rw [this, Nat.add_mul, Nat.pow_succ, Nat.add_assoc]
        congr 2
        rw [Nat.mul_comm (128 ^ i) 128, ← Nat.mul_assoc, Nat.mul_comm 128 (n / 128)]
      simp only [List.cons_append, getN, u8_toNat (128 + n % 128) (by omega)]
      rw [if_neg (by omega), show (128 + n % 128) % 128 = n % 128 by omega]
      rw [getN_numF j k (n / 128) r at_ (i + 1) (acc + n % 128 * 128 ^ i) (by omega) (by omega) (.inl (by omega)) (by rw [e]; exact hm), e]
      rw [show at_ + (i + 1) + (numF j (n / 128)).length = at_ + i + ((numF j (n / 128)).length + 1) by omega]
    · rw [if_neg h]
      have hn' : n < 128 := by omega
      simp only [List.cons_append, List.nil_append, getN, u8_toNat n (by omega), Nat.mod_eq_of_lt hn', hn', if_true]
      rw [if_neg (by omega)]
      rfl

/-- A number, wherever it stands. -/
theorem getNum_num (a r : List UInt8) (n : Nat) (h : n ≤ 9007199254740992) : getNum (a ++ num n ++ r) a.length = (n, a.length + (num n).length, 0) := by
  have hl := num_len n
  rw [clamp_of n h] at hl
  unfold getNum
  rw [if_neg (by simp only [List.length_append]; omega)]
  have : ((a.length : Int)).toNat = a.length := rfl
  rw [this, List.append_assoc, List.drop_left]
  unfold num at hl ⊢
  rw [getN_numF 8 8 n r a.length 0 0 (by rw [pow9]; omega) hl (.inr rfl) (by omega)]
  simp

theorem getN_short : ∀ (l : List UInt8) (k at_ i acc : Nat), (∀ c ∈ l, 128 ≤ c.toNat) → l.length < k → getN k l at_ i acc = (0, 0, 10)
  | _, 0, _, _, _, _, h => by simp at h
  | [], k + 1, _, _, _, _, _ => rfl
  | c :: r, k + 1, at_, i, acc, hc, h => by
    have h1 := hc c (by simp)
    simp only [getN]
    rw [if_neg (by omega)]
    exact getN_short r k _ _ _ (fun d hd => hc d (by simp [hd])) (by simpa using h)

theorem getN_zero : ∀ (l : List UInt8) (k at_ i acc : Nat), (∀ c ∈ l, 128 ≤ c.toNat) → l.length ≤ k → 0 < i + l.length → getN k (l ++ [0]) at_ i acc = (0, 0, 11)
  | [], 0, _, _, _, _, _, _ => rfl
  | c :: r, 0, _, _, _, _, h, _ => by simp at h
  | [], k + 1, at_, i, acc, _, _, hi => by
    have : 0 < i := by simpa using hi
    simp [getN, this]
  | c :: r, k + 1, at_, i, acc, hc, h, _ => by
    have h1 := hc c (by simp)
    simp only [List.cons_append, getN]
    rw [if_neg (by omega)]
    exact getN_zero r k _ _ _ (fun d hd => hc d (by simp [hd])) (by simpa using h) (by omega)

theorem numF_last : ∀ k n, n < 128 ^ (k + 1) → ∃ l c, numF k n = l ++ [u8 c] ∧ c < 128 ∧ ∀ d ∈ l, 128 ≤ d.toNat
  | 0, n, h => ⟨[], n, rfl, by omega, by simp⟩
  | k + 1, n, h => by
    rw [Nat.pow_succ] at h
    simp only [numF]
    split
    · obtain ⟨l, c, e, hc, hl⟩ := numF_last k (n / 128) (by omega)
      refine ⟨u8 (128 + n % 128) :: l, c, by rw [e]; rfl, hc, fun d hd => ?_⟩
      rcases List.mem_cons.1 hd with rfl | hd
      · rw [u8_toNat _ (by omega)]; omega
      · exact hl d hd
    · exact ⟨[], n, rfl, by omega, by simp⟩

theorem num_last (n : Int) : ∃ l c, num (clamp n) = l ++ [u8 c] ∧ c < 128 ∧ ∀ d ∈ l, 128 ≤ d.toNat :=
  numF_last 8 _ (by rw [pow9]; have := clamp_le n; omega)

theorem getNum_short {l : List UInt8} (h : ∀ c ∈ l, 128 ≤ c.toNat) (hl : l.length < 8) : getNum l 0 = (0, 0, 10) := by
  unfold getNum
  rw [if_neg (by omega)]
  exact getN_short _ _ _ _ _ (by simpa using h) (by simpa using hl)
theorem getNum_zero {l : List UInt8} (h : ∀ c ∈ l, 128 ≤ c.toNat) (hl : l.length ≤ 8) (h0 : l ≠ []) : getNum (l ++ [0]) 0 = (0, 0, 11) := by
  unfold getNum
  rw [if_neg (by simp; omega)]
  have : 0 < l.length := List.length_pos_iff.2 h0
  exact getN_zero l 8 _ _ _ h hl (by omega)

/-- A text, wherever it stands. -/
theorem getText_text (a r l : List UInt8) (most : Int) (hl : l.length ≤ 1000000000) : getText (a ++ text l ++ r) a.length most = if most < (l.length : Int) then ([], 0, 3) else (l, a.length + (text l).length, 0) := by
  have h1 : clamp (l.length : Int) = l.length := clamp_of _ (by omega)
  have e : getNum (a ++ text l ++ r) a.length = (l.length, a.length + (num l.length).length, 0) := by
    unfold text
    rw [h1]
    have := getNum_num a (l ++ r) l.length (by omega)
    simpa [List.append_assoc] using this
  unfold getText
  rw [e]
  simp only [ne_eq, not_true_eq_false, if_false]
  split
  · rfl
  · have hb : ((a ++ text l ++ r).length : Int) - ((a.length + (num l.length).length : Nat) : Int) = ((l.length + r.length : Nat) : Int) := by
      unfold text
      rw [h1]
      simp only [List.length_append]
      omega
    rw [if_neg (by rw [hb]; omega)]
    congr 1
    · unfold text
      rw [h1]
      have : a ++ (num l.length ++ l) ++ r = (a ++ num l.length) ++ (l ++ r) := by simp
      rw [this, show a.length + (num l.length).length = (a ++ num l.length).length by simp, List.drop_left, List.take_left]
    · congr 1
      unfold text
      rw [h1]
      simp only [List.length_append]; omega

theorem getText_cut (l : List UInt8) (hl : l.length ≤ 200) : (getText ((text l).take ((text l).length - 1)) 0 1000).2.2 = 10 := by
  have h1 : clamp (l.length : Int) = l.length := clamp_of _ (by omega)
  by_cases h0 : l = []
  · subst h0; rfl
  · have hp : 0 < l.length := List.length_pos_iff.2 h0
    have e1 : (text l).take ((text l).length - 1) = num l.length ++ l.take (l.length - 1) := by
      unfold text
      rw [h1, List.length_append, List.take_append, List.take_of_length_le (by omega)]
      congr 2
      omega
    have e2 : getNum ((text l).take ((text l).length - 1)) 0 = (l.length, (num l.length).length, 0) := by
      rw [e1]
      have := getNum_num [] (l.take (l.length - 1)) l.length (by omega)
      simpa using this
    unfold getText
    rw [e2]
    simp only [ne_eq, not_true_eq_false, if_false]
    rw [if_neg (by omega), if_pos]
    rw [e1]
    simp only [List.length_append, List.length_take]
    omega

end Go.V01
