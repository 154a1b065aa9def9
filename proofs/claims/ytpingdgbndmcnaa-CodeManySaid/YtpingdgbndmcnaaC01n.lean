/- Part of a proof: of what it says, and when, each theorem tells itself. -/
import Derived.Test.YtpingdgbndmcnaaC01m
set_option linter.unusedSimpArgs false
namespace Go.V01
open Go Go.Vm

/-! ### the document's answer: what is got -/

def GNr (x : Nat × Nat × Nat) (o : Out) (s : List VV) : Prop :=
  (x = (0, 0, 11) ∧ o = .exit 0) ∨ (o = .ret ∧ s.getD 4 .undef = vi .i64 x.1 ∧ s.getD 5 .undef = vi .i64 x.2.1 ∧ s.getD 6 .undef = vi .i64 x.2.2)

theorem f36_loop (b : List UInt8) (v : VV) (hv : SlV 1 (eB b) v) (at_ : Nat) (h : Heap) (Q : Pst) (hat : at_ ≤ b.length) (hb : b.length ≤ 1000000000) : ∀ (k i n : Nat) (s : List VV), i + k = 8 → n < 128 ^ i → s.length = 61 →
    s.getD 0 .undef = v → s.getD 1 .undef = vi .i64 at_ → s.getD 7 .undef = vi .i64 n → s.getD 8 .undef = vi .i64 ((128 ^ i : Nat) : Int) → s.getD 9 .undef = vi .i64 i → at_ + i ≤ b.length →
    (∀ o s', s'.length = 61 → GNr (getN k (b.drop (at_ + i)) at_ i n) o s' → Q o ⟨s', h⟩) →
    X F (.loop f36_3) ⟨s, h⟩ Q := by
  intro k
  induction k with
  | zero =>
    intro i n s hi hn hs h0 h1 h7 h8 h9 hai hQ
    have hlt : ¬ (i : Int) < 8 := by omega
    rw [X_loop, X_eq f36_3.eq_1]
    simp only [go_sem, Nat.reduceLT, Nat.reduceEqDiff, reduceCtorEq, Int.reduceLT, Int.reduceEq, hs, h9, hlt]
    exact hQ _ _ (by simp only [slot_len, hs]) (.inl ⟨by simp only [getN], rfl⟩)
  | succ k ih =>
    intro i n s hi hn hs h0 h1 h7 h8 h9 hai hQ
    have hlt : (i : Int) < 8 := by omega
    rw [X_loop, X_eq f36_3.eq_1]
    have ea : IntKind.i64.wrap ((at_ : Int) + (i : Int)) = ((at_ + i : Nat) : Int) := by rw [IntWalk.i64_in _ (by omega)]; omega
    simp only [go_sem, Nat.reduceLT, Nat.reduceEqDiff, reduceCtorEq, Int.reduceLT, Int.reduceEq, hs, h9, hlt]
    rw [X_eq f36_1.eq_1]
    by_cases hc : ((at_ + i : Nat) : Int) = (b.length : Int)
    · simp only [go_sem, Nat.reduceLT, Nat.reduceEqDiff, reduceCtorEq, Int.reduceLT, Int.reduceEq, hs, h0, h1, h9, ea, hv.ln, eB_len, eq_true hc]
      refine hQ _ _ (by simp only [slot_len, hs]) (.inr ⟨rfl, ?_⟩)
      rw [List.drop_eq_nil_of_le (by omega)]
      simp only [go_sem, Nat.reduceLT, Nat.reduceEqDiff, reduceCtorEq, Int.reduceLT, Int.reduceEq, hs, getN]
      first | exact ⟨rfl, rfl, rfl⟩ | exact ⟨trivial, trivial, rfl⟩
    · have hlt2 : at_ + i < b.length := by omega
      obtain ⟨c, hget⟩ : ∃ c, b[at_ + i]? = some c := ⟨_, List.getElem?_eq_getElem hlt2⟩
      have hd : b.drop (at_ + i) = c :: b.drop (at_ + i + 1) := by
        rw [List.drop_eq_getElem_cons hlt2]
        rw [List.getElem?_eq_getElem hlt2] at hget
        cases hget; rfl
      have hc256 : c.toNat < 256 := c.toNat_lt
      have hia : iaO h 1 v (vi .i64 ((at_ + i : Nat) : Int)) = some (.rptr (byteCell c), h) := hv.ia (by omega) (by exact eB_get hget)
      have hp := pow_le i (by omega)
      have hpw := hp.1
      rw [Nat.pow_succ] at hpw
      have e0 : IntKind.i64.wrap (c.toNat : Int) = (c.toNat : Int) := IntWalk.i64_in _ (by omega)
      have e1 : (c.toNat : Int).tmod 128 = ((c.toNat % 128 : Nat) : Int) := rfl
      have hm : n + c.toNat % 128 * 128 ^ i < 128 ^ (i + 1) := by
        have : c.toNat % 128 * 128 ^ i ≤ 127 * 128 ^ i := Nat.mul_le_mul_right _ (by omega)
        rw [Nat.pow_succ]; omega
      have e2 : IntKind.i64.wrap (((c.toNat % 128 : Nat) : Int) * ((128 ^ i : Nat) : Int)) = ((c.toNat % 128 * 128 ^ i : Nat) : Int) := by
        rw [← Int.natCast_mul]
        have : c.toNat % 128 * 128 ^ i ≤ 127 * 128 ^ i := Nat.mul_le_mul_right _ (by omega)
        exact IntWalk.i64_in _ (by omega)
      have e3 : IntKind.i64.wrap ((n : Int) + ((c.toNat % 128 * 128 ^ i : Nat) : Int)) = ((n + c.toNat % 128 * 128 ^ i : Nat) : Int) := by
        rw [← Int.natCast_add]
        exact IntWalk.i64_in _ (by omega)
      have e4 : IntKind.i64.wrap (((128 ^ i : Nat) : Int) * 128) = ((128 ^ (i + 1) : Nat) : Int) := by
        rw [show (128 : Int) = ((128 : Nat) : Int) from rfl, ← Int.natCast_mul, ← Nat.pow_succ]
        exact IntWalk.i64_in _ (by omega)
      rw [hd] at hQ
      simp only [getN] at hQ
      simp only [go_sem, Nat.reduceLT, Nat.reduceEqDiff, reduceCtorEq, Int.reduceLT, Int.reduceEq, hs, h0, h1, h7, h8, h9, ea, hv.ln, eB_len, hc, hia, byteCell, e0, e1, e2, e3, e4]
      generalize n + c.toNat % 128 * 128 ^ i = m at hm hQ ⊢
      by_cases hcm : (c.toNat : Int) < 128
      · have hcm' : c.toNat < 128 := by omega
        simp only [hcm', if_true] at hQ
        have e5 : IntKind.i64.wrap (((at_ + i : Nat) : Int) + 1) = ((at_ + i + 1 : Nat) : Int) := by rw [IntWalk.i64_in _ (by omega)]; omega
        simp only [go_sem, Nat.reduceLT, Nat.reduceEqDiff, reduceCtorEq, Int.reduceLT, Int.reduceEq, hs, hcm]
        rw [X_eq f36_2.eq_1]
        by_cases hM : (9007199254740992 : Int) < (m : Int)
        · by_cases hz : (c.toNat : Int) = 0
          · by_cases hi0 : (0 : Int) < (i : Int)
            · simp only [go_sem, Nat.reduceLT, Nat.reduceEqDiff, reduceCtorEq, Int.reduceLT, Int.reduceEq, hs, h1, h9, eq_true hz, hi0, hM, e5, ea]
              refine hQ _ _ (by simp only [slot_len, hs]) (.inr ⟨rfl, ?_⟩)
              rw [if_pos (by omega)]
              simp only [go_sem, Nat.reduceLT, Nat.reduceEqDiff, reduceCtorEq, Int.reduceLT, Int.reduceEq, hs]
              first | exact ⟨rfl, rfl, rfl⟩ | exact ⟨trivial, trivial, rfl⟩
            · simp only [go_sem, Nat.reduceLT, Nat.reduceEqDiff, reduceCtorEq, Int.reduceLT, Int.reduceEq, hs, h1, h9, eq_true hz, hi0, hM, e5, ea]
              refine hQ _ _ (by simp only [slot_len, hs]) (.inr ⟨rfl, ?_⟩)
              rw [if_pos (by omega)]
              simp only [go_sem, Nat.reduceLT, Nat.reduceEqDiff, reduceCtorEq, Int.reduceLT, Int.reduceEq, hs]
              first | exact ⟨rfl, rfl, rfl⟩ | exact ⟨trivial, trivial, rfl⟩
          · simp only [go_sem, Nat.reduceLT, Nat.reduceEqDiff, reduceCtorEq, Int.reduceLT, Int.reduceEq, hs, h1, h9, hz, hM, e5, ea]
            refine hQ _ _ (by simp only [slot_len, hs]) (.inr ⟨rfl, ?_⟩)
            rw [if_pos (by omega)]
            simp only [go_sem, Nat.reduceLT, Nat.reduceEqDiff, reduceCtorEq, Int.reduceLT, Int.reduceEq, hs]
            first | exact ⟨rfl, rfl, rfl⟩ | exact ⟨trivial, trivial, rfl⟩
        · by_cases hz : (c.toNat : Int) = 0
          · by_cases hi0 : (0 : Int) < (i : Int)
            · simp only [go_sem, Nat.reduceLT, Nat.reduceEqDiff, reduceCtorEq, Int.reduceLT, Int.reduceEq, hs, h1, h9, eq_true hz, hi0, hM, e5, ea]
              refine hQ _ _ (by simp only [slot_len, hs]) (.inr ⟨rfl, ?_⟩)
              rw [if_pos (by omega)]
              simp only [go_sem, Nat.reduceLT, Nat.reduceEqDiff, reduceCtorEq, Int.reduceLT, Int.reduceEq, hs]
              first | exact ⟨rfl, rfl, rfl⟩ | exact ⟨trivial, trivial, rfl⟩
            · simp only [go_sem, Nat.reduceLT, Nat.reduceEqDiff, reduceCtorEq, Int.reduceLT, Int.reduceEq, hs, h1, h9, eq_true hz, hi0, hM, e5, ea]
              refine hQ _ _ (by simp only [slot_len, hs]) (.inr ⟨rfl, ?_⟩)
              rw [if_neg (by omega)]
              simp only [go_sem, Nat.reduceLT, Nat.reduceEqDiff, reduceCtorEq, Int.reduceLT, Int.reduceEq, hs]
              first | exact ⟨rfl, rfl, rfl⟩ | exact ⟨trivial, trivial, rfl⟩
          · simp only [go_sem, Nat.reduceLT, Nat.reduceEqDiff, reduceCtorEq, Int.reduceLT, Int.reduceEq, hs, h1, h9, hz, hM, e5, ea]
            refine hQ _ _ (by simp only [slot_len, hs]) (.inr ⟨rfl, ?_⟩)
            rw [if_neg (by omega)]
            simp only [go_sem, Nat.reduceLT, Nat.reduceEqDiff, reduceCtorEq, Int.reduceLT, Int.reduceEq, hs]
            first | exact ⟨rfl, rfl, rfl⟩ | exact ⟨trivial, trivial, rfl⟩
      · have hcm' : ¬ c.toNat < 128 := by omega
        simp only [hcm', if_false] at hQ
        have e5 : IntKind.i64.wrap ((i : Int) + 1) = ((i + 1 : Nat) : Int) := by rw [IntWalk.i64_in _ (by omega)]; omega
        simp only [go_sem, Nat.reduceLT, Nat.reduceEqDiff, reduceCtorEq, Int.reduceLT, Int.reduceEq, hs, h9, hcm, e5]
        exact ih (i + 1) m _ (by omega) hm (by simp only [slot_len, hs]) (by simp only [go_sem, Nat.reduceLT, Nat.reduceEqDiff, reduceCtorEq, Int.reduceLT, Int.reduceEq, h0]) (by simp only [go_sem, Nat.reduceLT, Nat.reduceEqDiff, reduceCtorEq, Int.reduceLT, Int.reduceEq, h1]) (by simp only [go_sem, Nat.reduceLT, Nat.reduceEqDiff, reduceCtorEq, Int.reduceLT, Int.reduceEq, hs]) (by simp only [go_sem, Nat.reduceLT, Nat.reduceEqDiff, reduceCtorEq, Int.reduceLT, Int.reduceEq, hs]) (by simp only [go_sem, Nat.reduceLT, Nat.reduceEqDiff, reduceCtorEq, Int.reduceLT, Int.reduceEq, hs]) (by omega) hQ

theorem rget_f36 (b : List UInt8) (v : VV) (hv : SlV 1 (eB b) v) (at_ : Int) (h : Heap) (hb : b.length ≤ 1000000000) :
    call F 36 [v, vi .i64 at_] h = some (.ret (.tup [vi .i64 (getNum b at_).1, vi .i64 (getNum b at_).2.1, vi .i64 (getNum b at_).2.2]), h) := by
  refine call_P (fn := f36) rfl ?_
  simp only [f36]
  generalize hs0 : ([v, vi .i64 at_] ++ List.replicate _ VV.undef : List VV) = s
  have hs : s.length = 61 := by rw [← hs0]; rfl
  have h0 : s.getD 0 .undef = v := by rw [← hs0]; rfl
  have h1 : s.getD 1 .undef = vi .i64 at_ := by rw [← hs0]; rfl
  clear hs0
  simp only [go_sem, Nat.reduceLT, Nat.reduceEqDiff, reduceCtorEq, Int.reduceLT, Int.reduceEq, hs]
  rw [X_eq f36_0.eq_1]
  by_cases c1 : at_ < 0
  · have eg : getNum b at_ = (0, 0, 10) := by unfold getNum; rw [if_pos (.inl c1)]
    simp only [go_sem, Nat.reduceLT, Nat.reduceEqDiff, reduceCtorEq, Int.reduceLT, Int.reduceEq, hs, h0, h1, eq_true c1, eg]
    exact ⟨rfl, rfl⟩
  · by_cases c2 : (b.length : Int) < at_
    · have eg : getNum b at_ = (0, 0, 10) := by unfold getNum; rw [if_pos (.inr c2)]
      simp only [go_sem, Nat.reduceLT, Nat.reduceEqDiff, reduceCtorEq, Int.reduceLT, Int.reduceEq, hs, h0, h1, c1, eB_len, hv.ln, eq_true c2, eg]
      exact ⟨rfl, rfl⟩
    · have eg : getNum b at_ = getN 8 (b.drop at_.toNat) at_.toNat 0 0 := by unfold getNum; rw [if_neg (by omega)]
      obtain ⟨a, rfl⟩ : ∃ a : Nat, at_ = Int.ofNat a := Int.eq_ofNat_of_zero_le (show 0 ≤ at_ by omega)
      simp only [go_sem, Nat.reduceLT, Nat.reduceEqDiff, reduceCtorEq, Int.reduceLT, Int.reduceEq, hs, h0, h1, c1, eB_len, hv.ln, c2]
      have c2' : ¬ (b.length : Int) < (a : Int) := c2
      refine f36_loop b v hv a h _ (by omega) hb 8 0 0 _ rfl (by decide) (by simp only [slot_len, hs]) (by simp only [go_sem, Nat.reduceLT, Nat.reduceEqDiff, reduceCtorEq, Int.reduceLT, Int.reduceEq, h0]) (by simp only [go_sem, Nat.reduceLT, Nat.reduceEqDiff, reduceCtorEq, Int.reduceLT, Int.reduceEq, h1]; rfl) (by simp only [go_sem, Nat.reduceLT, Nat.reduceEqDiff, reduceCtorEq, Int.reduceLT, Int.reduceEq, hs]; rfl) (by simp only [go_sem, Nat.reduceLT, Nat.reduceEqDiff, reduceCtorEq, Int.reduceLT, Int.reduceEq, hs]; rfl) (by simp only [go_sem, Nat.reduceLT, Nat.reduceEqDiff, reduceCtorEq, Int.reduceLT, Int.reduceEq, hs]; rfl) (by omega) ?_
      intro o s' hs' hg
      rw [Nat.add_zero] at hg
      rw [show getN 8 (b.drop a) a 0 0 = getNum b (Int.ofNat a) from eg.symm] at hg
      rcases hg with ⟨e, rfl⟩ | ⟨rfl, e1, e2, e3⟩
      · simp only [go_sem, Nat.reduceLT, Nat.reduceEqDiff, reduceCtorEq, Int.reduceLT, Int.reduceEq, hs', e]
        exact ⟨rfl, rfl⟩
      · simp only [go_sem, Nat.reduceLT, Nat.reduceEqDiff, reduceCtorEq, Int.reduceLT, Int.reduceEq, hs', e1, e2, e3]
        exact ⟨rfl, rfl⟩

theorem rtext_f37 (b : List UInt8) (v : VV) (hv : SlV 1 (eB b) v) (a most : Int) (h : Heap) (hb : b.length ≤ 1000000000) :
    call F 37 [v, vi .i64 a, vi .i64 most] h = some (.ret (.tup [txt (getText b a most).1, vi .i64 (getText b a most).2.1, vi .i64 (getText b a most).2.2]), h) := by
  refine call_P (fn := f37) rfl ?_
  simp only [f37]
  generalize hs0 : ([v, vi .i64 a, vi .i64 most] ++ List.replicate _ VV.undef : List VV) = s
  have hs : s.length = 49 := by rw [← hs0]; rfl
  have h0 : s.getD 0 .undef = v := by rw [← hs0]; rfl
  have h1 : s.getD 1 .undef = vi .i64 a := by rw [← hs0]; rfl
  have h2 : s.getD 2 .undef = vi .i64 most := by rw [← hs0]; rfl
  clear hs0
  simp only [go_sem, Nat.reduceLT, Nat.reduceEqDiff, reduceCtorEq, Int.reduceLT, Int.reduceEq, hs, h0, h1]
  refine XO_callP (by simp only [List.map, go_sem, Nat.reduceLT, Nat.reduceEqDiff, reduceCtorEq, Int.reduceLT, Int.reduceEq, hs]; exact hv.clos (clos_cv clos_nil)) (rget_f36 b v hv a [] hb) rfl ?_
  have hbd := getNum_bound b a
  unfold getText
  generalize getNum b a = x at hbd ⊢
  obtain ⟨n, j, e⟩ := x
  simp only [go_sem, Nat.reduceLT, Nat.reduceEqDiff, reduceCtorEq, Int.reduceLT, Int.reduceEq, hs] at hbd ⊢
  rw [X_eq f37_0.eq_1]
  by_cases c1 : (e : Int) = 0
  · have c1' : e = 0 := by omega
    subst c1'
    have hb1 := hbd.2.1 rfl
    have e1 : IntKind.i64.wrap ((b.length : Int) - (j : Int)) = (b.length : Int) - (j : Int) := IntWalk.i64_in _ (by omega)
    by_cases c2 : most < (n : Int)
    · simp only [go_sem, Nat.reduceLT, Nat.reduceEqDiff, reduceCtorEq, Int.reduceLT, Int.reduceEq, hs, h0, h2, eq_true c1, c2]
      rw [X_eq f37_1.eq_1]
      simp only [go_sem, Nat.reduceLT, Nat.reduceEqDiff, reduceCtorEq, Int.reduceLT, Int.reduceEq, hs]
      rw [X_eq f37_2.eq_1]
      simp only [go_sem, Nat.reduceLT, Nat.reduceEqDiff, reduceCtorEq, Int.reduceLT, Int.reduceEq, hs, Int.reduceEq]
      exact Is.refl _ _
    · by_cases c3 : (b.length : Int) - (j : Int) < (n : Int)
      · simp only [go_sem, Nat.reduceLT, Nat.reduceEqDiff, reduceCtorEq, Int.reduceLT, Int.reduceEq, hs, h0, h2, eq_true c1, c2]
        rw [X_eq f37_1.eq_1]
        simp only [go_sem, Nat.reduceLT, Nat.reduceEqDiff, reduceCtorEq, Int.reduceLT, Int.reduceEq, hs, h0, eq_true c1, hv.ln, eB_len, e1, c3]
        rw [X_eq f37_2.eq_1]
        simp only [go_sem, Nat.reduceLT, Nat.reduceEqDiff, reduceCtorEq, Int.reduceLT, Int.reduceEq, hs]
        exact Is.refl _ _
      · have e2 : IntKind.i64.wrap ((j : Int) + (n : Int)) = ((j + n : Nat) : Int) := by rw [IntWalk.i64_in _ (by omega)]; omega
        simp only [go_sem, Nat.reduceLT, Nat.reduceEqDiff, reduceCtorEq, Int.reduceLT, Int.reduceEq, hs, h0, h2, eq_true c1, c2]
        rw [X_eq f37_1.eq_1]
        simp only [go_sem, Nat.reduceLT, Nat.reduceEqDiff, reduceCtorEq, Int.reduceLT, Int.reduceEq, hs, h0, eq_true c1, hv.ln, eB_len, e1, c3]
        rw [X_eq f37_2.eq_1]
        obtain ⟨v', hv', e3⟩ := hv.part (h := h) (k := .i64) (k' := .i64) (a := (j : Int)) (b := ((j + n : Nat) : Int)) (by omega) (by omega) (by rw [eB_len]; omega)
        rw [eB_part] at hv'
        have e4 : (((j + n : Nat) : Int).toNat - (j : Int).toNat) = n := by omega
        rw [e4] at hv'
        simp only [go_sem, Nat.reduceLT, Nat.reduceEqDiff, reduceCtorEq, Int.reduceLT, Int.reduceEq, hs, h0, eq_true c1, e2, e3, hv'.bs]
        exact Is.refl _ _
  · have c1' : ¬ e = 0 := by omega
    simp only [go_sem, Nat.reduceLT, Nat.reduceEqDiff, reduceCtorEq, Int.reduceLT, Int.reduceEq, hs, c1, c1']
    rw [X_eq f37_1.eq_1]
    simp only [go_sem, Nat.reduceLT, Nat.reduceEqDiff, reduceCtorEq, Int.reduceLT, Int.reduceEq, hs, c1]
    rw [X_eq f37_2.eq_1]
    simp only [go_sem, Nat.reduceLT, Nat.reduceEqDiff, reduceCtorEq, Int.reduceLT, Int.reduceEq, hs, c1]
    exact Is.refl _ _

/-- How many there are to be. -/
def manyF (b : List UInt8) : Nat × Nat × Nat := let x := getNum b 0; if x.2.2 = 0 ∧ 5000 < x.1 then (x.1, x.2.1, 3) else x
theorem many_f41 (b : List UInt8) (v : VV) (hv : SlV 1 (eB b) v) (h : Heap) (hb : b.length ≤ 1000000000) :
    ∃ h', call F 41 [v] h = some (.ret (.tup [vi .i64 (manyF b).1, vi .i64 (manyF b).2.1, vi .i64 (manyF b).2.2]), h') := by
  have : ∃ v1 h', call F 41 [v] h = some (.ret v1, h') ∧ ValIs (.tup [vi .i64 (manyF b).1, vi .i64 (manyF b).2.1, vi .i64 (manyF b).2.2]) v1 h' := by
    refine call_E (fn := f41) rfl ?_
    simp only [f41]
    generalize hs0 : ([v] ++ List.replicate _ VV.undef : List VV) = s
    have hs : s.length = 23 := by rw [← hs0]; rfl
    have h0 : s.getD 0 .undef = v := by rw [← hs0]; rfl
    clear hs0
    simp only [go_sem, Nat.reduceLT, Nat.reduceEqDiff, reduceCtorEq, Int.reduceLT, Int.reduceEq, hs, h0]
    refine XO_callP (by simp only [List.map, go_sem, Nat.reduceLT, Nat.reduceEqDiff, reduceCtorEq, Int.reduceLT, Int.reduceEq, hs]; exact hv.clos (clos_cv clos_nil)) (rget_f36 b v hv 0 [] hb) rfl ?_
    unfold manyF
    generalize getNum b 0 = x
    obtain ⟨n, j, e⟩ := x
    simp only [go_sem, Nat.reduceLT, Nat.reduceEqDiff, reduceCtorEq, Int.reduceLT, Int.reduceEq, hs]
    rw [X_eq f41_0.eq_1]
    by_cases c1 : (e : Int) = 0
    · have c1' : e = 0 := by omega
      by_cases c2 : (5000 : Int) < (n : Int)
      · have c2' : 5000 < n := by omega
        simp only [go_sem, Nat.reduceLT, Nat.reduceEqDiff, reduceCtorEq, Int.reduceLT, Int.reduceEq, hs, eq_true c1, eq_true c1', c2, c2', and_self]
        rfl
      · have c2' : ¬ 5000 < n := by omega
        simp only [go_sem, Nat.reduceLT, Nat.reduceEqDiff, reduceCtorEq, Int.reduceLT, Int.reduceEq, hs, eq_true c1, c2, c2', and_false]
        rfl
    · have c1' : ¬ e = 0 := by omega
      simp only [go_sem, Nat.reduceLT, Nat.reduceEqDiff, reduceCtorEq, Int.reduceLT, Int.reduceEq, hs, c1, c1', false_and]
      rfl
  obtain ⟨v1, h', e1, e2⟩ := this
  unfold ValIs at e2
  exact ⟨h', by rw [e1, e2]⟩

end Go.V01
