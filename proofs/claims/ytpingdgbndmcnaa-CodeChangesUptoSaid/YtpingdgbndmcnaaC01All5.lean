/- Part of a proof: of what it says, and when, each theorem tells itself. -/
import Derived.Test.YtpingdgbndmcnaaC01All4
import Derived.Test.YtpingdgbndmcnaaVmAll2
import Derived.Test.YtpingdgbndmcnaaRows
set_option linter.unusedSimpArgs false
namespace Go.V01
open Go Go.Vm

/-! ### the document's answer: what is got -/

def GNr (x : Nat × Nat × Nat) (o : Out) (s : List VV) : Prop :=
  (x = (0, 0, 11) ∧ o = .exit 0) ∨ (o = .ret ∧ s.getD 4 .undef = vi .i64 x.1 ∧ s.getD 5 .undef = vi .i64 x.2.1 ∧ s.getD 6 .undef = vi .i64 x.2.2)

theorem f36_loop (b : List UInt8) (v : VV) (hv : SlV 1 (eB b) v) (at_ : Nat) (h : Heap) (Q : Pst) (hat : at_ ≤ b.length) (hb : b.length ≤ 1000000000) : ∀ (k i n : Nat) (s : List VV), i + k = 8 → n < 128 ^ i → s.length = 61 →
    s.getD 0 .undef = v → s.getD 1 .undef = vi .i64 at_ → s.getD 7 .undef = vi .i64 n → s.getD 8 .undef = vi .i64 ((128 ^ i : Nat) : Int) → s.getD 9 .undef = vi .i64 i → at_ + i ≤ b.length →
    (∀ o s', s'.length = 61 → GNr (getN k (b.drop (at_ + i)) at_ i n) o s' → Q o ⟨s', h⟩) →
    X F (.loop f36_3) ⟨s, h⟩ Q := by
  intro k
  induction k with
  | zero =>
    intro i n s hi hn hs h0 h1 h7 h8 h9 hai hQ
    have hlt : ¬ (i : Int) < 8 := by omega
    rw [X_loop, X_eq f36_3.eq_1]
    simp only [go_sem, Nat.reduceLT, Nat.reduceEqDiff, reduceCtorEq, Int.reduceLT, Int.reduceEq, hs, h9, hlt]
    exact hQ _ _ (by simp only [slot_len, hs]) (.inl ⟨by simp only [getN], rfl⟩)
  | succ k ih =>
    intro i n s hi hn hs h0 h1 h7 h8 h9 hai hQ
    have hlt : (i : Int) < 8 := by omega
    rw [X_loop, X_eq f36_3.eq_1]
    have ea : IntKind.i64.wrap ((at_ : Int) + (i : Int)) = ((at_ + i : Nat) : Int) := by rw [IntWalk.i64_in _ (by omega)]; omega
    simp only [go_sem, Nat.reduceLT, Nat.reduceEqDiff, reduceCtorEq, Int.reduceLT, Int.reduceEq, hs, h9, hlt]
    rw [X_eq f36_1.eq_1]
    by_cases hc : ((at_ + i : Nat) : Int) = (b.length : Int)
    · simp only [go_sem, Nat.reduceLT, Nat.reduceEqDiff, reduceCtorEq, Int.reduceLT, Int.reduceEq, hs, h0, h1, h9, ea, hv.ln, eB_len, eq_true hc]
      refine hQ _ _ (by simp only [slot_len, hs]) (.inr ⟨rfl, ?_⟩)
      rw [List.drop_eq_nil_of_le (by omega)]
      simp only [go_sem, Nat.reduceLT, Nat.reduceEqDiff, reduceCtorEq, Int.reduceLT, Int.reduceEq, hs, getN]
      first | exact ⟨rfl, rfl, rfl⟩ | exact ⟨trivial, trivial, rfl⟩
    · have hlt2 : at_ + i < b.length := by omega
      obtain ⟨c, hget⟩ : ∃ c, b[at_ + i]? = some c := ⟨_, List.getElem?_eq_getElem hlt2⟩
      have hd : b.drop (at_ + i) = c :: b.drop (at_ + i + 1) := by
        rw [List.drop_eq_getElem_cons hlt2]
        rw [List.getElem?_eq_getElem hlt2] at hget
        cases hget; rfl
      have hc256 : c.toNat < 256 := c.toNat_lt
      have hia : iaO h 1 v (vi .i64 ((at_ + i : Nat) : Int)) = some (.rptr (byteCell c), h) := hv.ia (by omega) (by exact eB_get hget)
      have hp := pow_le i (by omega)
      have hpw := hp.1
      rw [Nat.pow_succ] at hpw
      have e0 : IntKind.i64.wrap (c.toNat : Int) = (c.toNat : Int) := IntWalk.i64_in _ (by omega)
      have e1 : (c.toNat : Int).tmod 128 = ((c.toNat % 128 : Nat) : Int) := rfl
      have hm : n + c.toNat % 128 * 128 ^ i < 128 ^ (i + 1) := by
        have : c.toNat % 128 * 128 ^ i ≤ 127 * 128 ^ i := Nat.mul_le_mul_right _ (by omega)
        rw [Nat.pow_succ]; omega
      have e2 : IntKind.i64.wrap (((c.toNat % 128 : Nat) : Int) * ((128 ^ i : Nat) : Int)) = ((c.toNat % 128 * 128 ^ i : Nat) : Int) := by
        rw [← Int.natCast_mul]
        have : c.toNat % 128 * 128 ^ i ≤ 127 * 128 ^ i := Nat.mul_le_mul_right _ (by omega)
        exact IntWalk.i64_in _ (by omega)
      have e3 : IntKind.i64.wrap ((n : Int) + ((c.toNat % 128 * 128 ^ i : Nat) : Int)) = ((n + c.toNat % 128 * 128 ^ i : Nat) : Int) := by
        rw [← Int.natCast_add]
        exact IntWalk.i64_in _ (by omega)
      have e4 : IntKind.i64.wrap (((128 ^ i : Nat) : Int) * 128) = ((128 ^ (i + 1) : Nat) : Int) := by
        rw [show (128 : Int) = ((128 : Nat) : Int) from rfl, ← Int.natCast_mul, ← Nat.pow_succ]
        exact IntWalk.i64_in _ (by omega)
      rw [hd] at hQ
      simp only [getN] at hQ
      simp only [go_sem, Nat.reduceLT, Nat.reduceEqDiff, reduceCtorEq, Int.reduceLT, Int.reduceEq, hs, h0, h1, h7, h8, h9, ea, hv.ln, eB_len, hc, hia, byteCell, e0, e1, e2, e3, e4]
      generalize n + c.toNat % 128 * 128 ^ i = m at hm hQ ⊢
      by_cases hcm : (c.toNat : Int) < 128
      · have hcm' : c.toNat < 128 := by omega
        simp only [hcm', if_true] at hQ
        have e5 : IntKind.i64.wrap (((at_ + i : Nat) : Int) + 1) = ((at_ + i + 1 : Nat) : Int) := by rw [IntWalk.i64_in _ (by omega)]; omega
        simp only [go_sem, Nat.reduceLT, Nat.reduceEqDiff, reduceCtorEq, Int.reduceLT, Int.reduceEq, hs, hcm]
        rw [X_eq f36_2.eq_1]
        by_cases hM : (9007199254740992 : Int) < (m : Int)
        · by_cases hz : (c.toNat : Int) = 0
          · by_cases hi0 : (0 : Int) < (i : Int)
            · simp only [go_sem, Nat.reduceLT, Nat.reduceEqDiff, reduceCtorEq, Int.reduceLT, Int.reduceEq, hs, h1, h9, eq_true hz, hi0, hM, e5, ea]
              refine hQ _ _ (by simp only [slot_len, hs]) (.inr ⟨rfl, ?_⟩)
              rw [if_pos (by omega)]
              simp only [go_sem, Nat.reduceLT, Nat.reduceEqDiff, reduceCtorEq, Int.reduceLT, Int.reduceEq, hs]
              first | exact ⟨rfl, rfl, rfl⟩ | exact ⟨trivial, trivial, rfl⟩
            · simp only [go_sem, Nat.reduceLT, Nat.reduceEqDiff, reduceCtorEq, Int.reduceLT, Int.reduceEq, hs, h1, h9, eq_true hz, hi0, hM, e5, ea]
              refine hQ _ _ (by simp only [slot_len, hs]) (.inr ⟨rfl, ?_⟩)
              rw [if_pos (by omega)]
              simp only [go_sem, Nat.reduceLT, Nat.reduceEqDiff, reduceCtorEq, Int.reduceLT, Int.reduceEq, hs]
              first | exact ⟨rfl, rfl, rfl⟩ | exact ⟨trivial, trivial, rfl⟩
          · simp only [go_sem, Nat.reduceLT, Nat.reduceEqDiff, reduceCtorEq, Int.reduceLT, Int.reduceEq, hs, h1, h9, hz, hM, e5, ea]
            refine hQ _ _ (by simp only [slot_len, hs]) (.inr ⟨rfl, ?_⟩)
            rw [if_pos (by omega)]
            simp only [go_sem, Nat.reduceLT, Nat.reduceEqDiff, reduceCtorEq, Int.reduceLT, Int.reduceEq, hs]
            first | exact ⟨rfl, rfl, rfl⟩ | exact ⟨trivial, trivial, rfl⟩
        · by_cases hz : (c.toNat : Int) = 0
          · by_cases hi0 : (0 : Int) < (i : Int)
            · simp only [go_sem, Nat.reduceLT, Nat.reduceEqDiff, reduceCtorEq, Int.reduceLT, Int.reduceEq, hs, h1, h9, eq_true hz, hi0, hM, e5, ea]
              refine hQ _ _ (by simp only [slot_len, hs]) (.inr ⟨rfl, ?_⟩)
              rw [if_pos (by omega)]
              simp only [go_sem, Nat.reduceLT, Nat.reduceEqDiff, reduceCtorEq, Int.reduceLT, Int.reduceEq, hs]
              first | exact ⟨rfl, rfl, rfl⟩ | exact ⟨trivial, trivial, rfl⟩
            · simp only [go_sem, Nat.reduceLT, Nat.reduceEqDiff, reduceCtorEq, Int.reduceLT, Int.reduceEq, hs, h1, h9, eq_true hz, hi0, hM, e5, ea]
              refine hQ _ _ (by simp only [slot_len, hs]) (.inr ⟨rfl, ?_⟩)
              rw [if_neg (by omega)]
              simp only [go_sem, Nat.reduceLT, Nat.reduceEqDiff, reduceCtorEq, Int.reduceLT, Int.reduceEq, hs]
              first | exact ⟨rfl, rfl, rfl⟩ | exact ⟨trivial, trivial, rfl⟩
          · simp only [go_sem, Nat.reduceLT, Nat.reduceEqDiff, reduceCtorEq, Int.reduceLT, Int.reduceEq, hs, h1, h9, hz, hM, e5, ea]
            refine hQ _ _ (by simp only [slot_len, hs]) (.inr ⟨rfl, ?_⟩)
            rw [if_neg (by omega)]
            simp only [go_sem, Nat.reduceLT, Nat.reduceEqDiff, reduceCtorEq, Int.reduceLT, Int.reduceEq, hs]
            first | exact ⟨rfl, rfl, rfl⟩ | exact ⟨trivial, trivial, rfl⟩
      · have hcm' : ¬ c.toNat < 128 := by omega
        simp only [hcm', if_false] at hQ
        have e5 : IntKind.i64.wrap ((i : Int) + 1) = ((i + 1 : Nat) : Int) := by rw [IntWalk.i64_in _ (by omega)]; omega
        simp only [go_sem, Nat.reduceLT, Nat.reduceEqDiff, reduceCtorEq, Int.reduceLT, Int.reduceEq, hs, h9, hcm, e5]
        exact ih (i + 1) m _ (by omega) hm (by simp only [slot_len, hs]) (by simp only [go_sem, Nat.reduceLT, Nat.reduceEqDiff, reduceCtorEq, Int.reduceLT, Int.reduceEq, h0]) (by simp only [go_sem, Nat.reduceLT, Nat.reduceEqDiff, reduceCtorEq, Int.reduceLT, Int.reduceEq, h1]) (by simp only [go_sem, Nat.reduceLT, Nat.reduceEqDiff, reduceCtorEq, Int.reduceLT, Int.reduceEq, hs]) (by simp only [go_sem, Nat.reduceLT, Nat.reduceEqDiff, reduceCtorEq, Int.reduceLT, Int.reduceEq, hs]) (by simp only [go_sem, Nat.reduceLT, Nat.reduceEqDiff, reduceCtorEq, Int.reduceLT, Int.reduceEq, hs]) (by omega) hQ

theorem rget_f36 (b : List UInt8) (v : VV) (hv : SlV 1 (eB b) v) (at_ : Int) (h : Heap) (hb : b.length ≤ 1000000000) :
    call F 36 [v, vi .i64 at_] h = some (.ret (.tup [vi .i64 (getNum b at_).1, vi .i64 (getNum b at_).2.1, vi .i64 (getNum b at_).2.2]), h) := by
  refine call_P (fn := f36) rfl ?_
  simp only [f36]
  generalize hs0 : ([v, vi .i64 at_] ++ List.replicate _ VV.undef : List VV) = s
  have hs : s.length = 61 := by rw [← hs0]; rfl
  have h0 : s.getD 0 .undef = v := by rw [← hs0]; rfl
  have h1 : s.getD 1 .undef = vi .i64 at_ := by rw [← hs0]; rfl
  clear hs0
  simp only [go_sem, Nat.reduceLT, Nat.reduceEqDiff, reduceCtorEq, Int.reduceLT, Int.reduceEq, hs]
  rw [X_eq f36_0.eq_1]
  by_cases c1 : at_ < 0
  · have eg : getNum b at_ = (0, 0, 10) := by unfold getNum; rw [if_pos (.inl c1)]
    simp only [go_sem, Nat.reduceLT, Nat.reduceEqDiff, reduceCtorEq, Int.reduceLT, Int.reduceEq, hs, h0, h1, eq_true c1, eg]
    exact ⟨rfl, rfl⟩
  · by_cases c2 : (b.length : Int) < at_
    · have eg : getNum b at_ = (0, 0, 10) := by unfold getNum; rw [if_pos (.inr c2)]
      simp only [go_sem, Nat.reduceLT, Nat.reduceEqDiff, reduceCtorEq, Int.reduceLT, Int.reduceEq, hs, h0, h1, c1, eB_len, hv.ln, eq_true c2, eg]
      exact ⟨rfl, rfl⟩
    · have eg : getNum b at_ = getN 8 (b.drop at_.toNat) at_.toNat 0 0 := by unfold getNum; rw [if_neg (by omega)]
      obtain ⟨a, rfl⟩ : ∃ a : Nat, at_ = Int.ofNat a := Int.eq_ofNat_of_zero_le (show 0 ≤ at_ by omega)
      simp only [go_sem, Nat.reduceLT, Nat.reduceEqDiff, reduceCtorEq, Int.reduceLT, Int.reduceEq, hs, h0, h1, c1, eB_len, hv.ln, c2]
      have c2' : ¬ (b.length : Int) < (a : Int) := c2
      refine f36_loop b v hv a h _ (by omega) hb 8 0 0 _ rfl (by decide) (by simp only [slot_len, hs]) (by simp only [go_sem, Nat.reduceLT, Nat.reduceEqDiff, reduceCtorEq, Int.reduceLT, Int.reduceEq, h0]) (by simp only [go_sem, Nat.reduceLT, Nat.reduceEqDiff, reduceCtorEq, Int.reduceLT, Int.reduceEq, h1]; rfl) (by simp only [go_sem, Nat.reduceLT, Nat.reduceEqDiff, reduceCtorEq, Int.reduceLT, Int.reduceEq, hs]; rfl) (by simp only [go_sem, Nat.reduceLT, Nat.reduceEqDiff, reduceCtorEq, Int.reduceLT, Int.reduceEq, hs]; rfl) (by simp only [go_sem, Nat.reduceLT, Nat.reduceEqDiff, reduceCtorEq, Int.reduceLT, Int.reduceEq, hs]; rfl) (by omega) ?_
      intro o s' hs' hg
      rw [Nat.add_zero] at hg
      rw [show getN 8 (b.drop a) a 0 0 = getNum b (Int.ofNat a) from eg.symm] at hg
      rcases hg with ⟨e, rfl⟩ | ⟨rfl, e1, e2, e3⟩
      · simp only [go_sem, Nat.reduceLT, Nat.reduceEqDiff, reduceCtorEq, Int.reduceLT, Int.reduceEq, hs', e]
        exact ⟨rfl, rfl⟩
      · simp only [go_sem, Nat.reduceLT, Nat.reduceEqDiff, reduceCtorEq, Int.reduceLT, Int.reduceEq, hs', e1, e2, e3]
        exact ⟨rfl, rfl⟩

theorem rtext_f37 (b : List UInt8) (v : VV) (hv : SlV 1 (eB b) v) (a most : Int) (h : Heap) (hb : b.length ≤ 1000000000) :
    call F 37 [v, vi .i64 a, vi .i64 most] h = some (.ret (.tup [txt (getText b a most).1, vi .i64 (getText b a most).2.1, vi .i64 (getText b a most).2.2]), h) := by
  refine call_P (fn := f37) rfl ?_
  simp only [f37]
  generalize hs0 : ([v, vi .i64 a, vi .i64 most] ++ List.replicate _ VV.undef : List VV) = s
  have hs : s.length = 49 := by rw [← hs0]; rfl
  have h0 : s.getD 0 .undef = v := by rw [← hs0]; rfl
  have h1 : s.getD 1 .undef = vi .i64 a := by rw [← hs0]; rfl
  have h2 : s.getD 2 .undef = vi .i64 most := by rw [← hs0]; rfl
  clear hs0
  simp only [go_sem, Nat.reduceLT, Nat.reduceEqDiff, reduceCtorEq, Int.reduceLT, Int.reduceEq, hs, h0, h1]
  refine XO_callP (by simp only [List.map, go_sem, Nat.reduceLT, Nat.reduceEqDiff, reduceCtorEq, Int.reduceLT, Int.reduceEq, hs]; exact hv.clos (clos_cv clos_nil)) (rget_f36 b v hv a [] hb) rfl ?_
  have hbd := getNum_bound b a
  unfold getText
  generalize getNum b a = x at hbd ⊢
  obtain ⟨n, j, e⟩ := x
  simp only [go_sem, Nat.reduceLT, Nat.reduceEqDiff, reduceCtorEq, Int.reduceLT, Int.reduceEq, hs] at hbd ⊢
  rw [X_eq f37_0.eq_1]
  by_cases c1 : (e : Int) = 0
  · have c1' : e = 0 := by omega
    subst c1'
    have hb1 := hbd.2.1 rfl
    have e1 : IntKind.i64.wrap ((b.length : Int) - (j : Int)) = (b.length : Int) - (j : Int) := IntWalk.i64_in _ (by omega)
    by_cases c2 : most < (n : Int)
    · simp only [go_sem, Nat.reduceLT, Nat.reduceEqDiff, reduceCtorEq, Int.reduceLT, Int.reduceEq, hs, h0, h2, eq_true c1, c2]
      rw [X_eq f37_1.eq_1]
      simp only [go_sem, Nat.reduceLT, Nat.reduceEqDiff, reduceCtorEq, Int.reduceLT, Int.reduceEq, hs]
      rw [X_eq f37_2.eq_1]
      simp only [go_sem, Nat.reduceLT, Nat.reduceEqDiff, reduceCtorEq, Int.reduceLT, Int.reduceEq, hs, Int.reduceEq]
      exact Is.refl _ _
    · by_cases c3 : (b.length : Int) - (j : Int) < (n : Int)
      · simp only [go_sem, Nat.reduceLT, Nat.reduceEqDiff, reduceCtorEq, Int.reduceLT, Int.reduceEq, hs, h0, h2, eq_true c1, c2]
        rw [X_eq f37_1.eq_1]
        simp only [go_sem, Nat.reduceLT, Nat.reduceEqDiff, reduceCtorEq, Int.reduceLT, Int.reduceEq, hs, h0, eq_true c1, hv.ln, eB_len, e1, c3]
        rw [X_eq f37_2.eq_1]
        simp only [go_sem, Nat.reduceLT, Nat.reduceEqDiff, reduceCtorEq, Int.reduceLT, Int.reduceEq, hs]
        exact Is.refl _ _
      · have e2 : IntKind.i64.wrap ((j : Int) + (n : Int)) = ((j + n : Nat) : Int) := by rw [IntWalk.i64_in _ (by omega)]; omega
        simp only [go_sem, Nat.reduceLT, Nat.reduceEqDiff, reduceCtorEq, Int.reduceLT, Int.reduceEq, hs, h0, h2, eq_true c1, c2]
        rw [X_eq f37_1.eq_1]
        simp only [go_sem, Nat.reduceLT, Nat.reduceEqDiff, reduceCtorEq, Int.reduceLT, Int.reduceEq, hs, h0, eq_true c1, hv.ln, eB_len, e1, c3]
        rw [X_eq f37_2.eq_1]
        obtain ⟨v', hv', e3⟩ := hv.part (h := h) (k := .i64) (k' := .i64) (a := (j : Int)) (b := ((j + n : Nat) : Int)) (by omega) (by omega) (by rw [eB_len]; omega)
        rw [eB_part] at hv'
        have e4 : (((j + n : Nat) : Int).toNat - (j : Int).toNat) = n := by omega
        rw [e4] at hv'
        simp only [go_sem, Nat.reduceLT, Nat.reduceEqDiff, reduceCtorEq, Int.reduceLT, Int.reduceEq, hs, h0, eq_true c1, e2, e3, hv'.bs]
        exact Is.refl _ _
  · have c1' : ¬ e = 0 := by omega
    simp only [go_sem, Nat.reduceLT, Nat.reduceEqDiff, reduceCtorEq, Int.reduceLT, Int.reduceEq, hs, c1, c1']
    rw [X_eq f37_1.eq_1]
    simp only [go_sem, Nat.reduceLT, Nat.reduceEqDiff, reduceCtorEq, Int.reduceLT, Int.reduceEq, hs, c1]
    rw [X_eq f37_2.eq_1]
    simp only [go_sem, Nat.reduceLT, Nat.reduceEqDiff, reduceCtorEq, Int.reduceLT, Int.reduceEq, hs, c1]
    exact Is.refl _ _

/-- How many there are to be. -/
def manyF (b : List UInt8) : Nat × Nat × Nat := let x := getNum b 0; if x.2.2 = 0 ∧ 5000 < x.1 then (x.1, x.2.1, 3) else x
theorem many_f41 (b : List UInt8) (v : VV) (hv : SlV 1 (eB b) v) (h : Heap) (hb : b.length ≤ 1000000000) :
    ∃ h', call F 41 [v] h = some (.ret (.tup [vi .i64 (manyF b).1, vi .i64 (manyF b).2.1, vi .i64 (manyF b).2.2]), h') := by
  have : ∃ v1 h', call F 41 [v] h = some (.ret v1, h') ∧ ValIs (.tup [vi .i64 (manyF b).1, vi .i64 (manyF b).2.1, vi .i64 (manyF b).2.2]) v1 h' := by
    refine call_E (fn := f41) rfl ?_
    simp only [f41]
    generalize hs0 : ([v] ++ List.replicate _ VV.undef : List VV) = s
    have hs : s.length = 23 := by rw [← hs0]; rfl
    have h0 : s.getD 0 .undef = v := by rw [← hs0]; rfl
    clear hs0
    simp only [go_sem, Nat.reduceLT, Nat.reduceEqDiff, reduceCtorEq, Int.reduceLT, Int.reduceEq, hs, h0]
    refine XO_callP (by simp only [List.map, go_sem, Nat.reduceLT, Nat.reduceEqDiff, reduceCtorEq, Int.reduceLT, Int.reduceEq, hs]; exact hv.clos (clos_cv clos_nil)) (rget_f36 b v hv 0 [] hb) rfl ?_
    unfold manyF
    generalize getNum b 0 = x
    obtain ⟨n, j, e⟩ := x
    simp only [go_sem, Nat.reduceLT, Nat.reduceEqDiff, reduceCtorEq, Int.reduceLT, Int.reduceEq, hs]
    rw [X_eq f41_0.eq_1]
    by_cases c1 : (e : Int) = 0
    · have c1' : e = 0 := by omega
      by_cases c2 : (5000 : Int) < (n : Int)
      · have c2' : 5000 < n := by omega
        simp only [go_sem, Nat.reduceLT, Nat.reduceEqDiff, reduceCtorEq, Int.reduceLT, Int.reduceEq, hs, eq_true c1, eq_true c1', c2, c2', and_self]
        rfl
      · have c2' : ¬ 5000 < n := by omega
        simp only [go_sem, Nat.reduceLT, Nat.reduceEqDiff, reduceCtorEq, Int.reduceLT, Int.reduceEq, hs, eq_true c1, c2, c2', and_false]
        rfl
    · have c1' : ¬ e = 0 := by omega
      simp only [go_sem, Nat.reduceLT, Nat.reduceEqDiff, reduceCtorEq, Int.reduceLT, Int.reduceEq, hs, c1, c1', false_and]
      rfl
  obtain ⟨v1, h', e1, e2⟩ := this
  unfold ValIs at e2
  exact ⟨h', by rw [e1, e2]⟩

end Go.V01

set_option linter.unusedSimpArgs false
namespace Go.V01
open Go Go.Vm

/-! ### the document's answer: rows that are read -/

/-- How a loop of reading ends. -/
def RL (z : Nat) (len : Nat) (v0 : VV) (x : List (List CV) × Nat × Nat) (o : Out) (s : List VV) (h : Heap) : Prop :=
  s.length = len ∧ ((x.2.2 ≠ 0 ∧ o = .ret ∧ s.getD 2 .undef = nilS ∧ s.getD 3 .undef = vi .i64 x.2.2) ∨
    (x.2.2 = 0 ∧ o = .exit 0 ∧ s.getD 0 .undef = v0 ∧ (∃ v, s.getD 7 .undef = v ∧ BufG h z x.1 v) ∧ s.getD 5 .undef = vi .i64 x.2.1 ∧ s.getD 6 .undef = vi .i64 0))

theorem f40_loop (b : List UInt8) (vb_ : VV) (hv : SlV 1 (eB b) vb_) (hb : b.length ≤ 1000000000) (n : Nat) (hn : n ≤ 5000) : ∀ (m i a : Nat) (out : List (List CV)) (s : List VV) (h : Heap) (v : VV) (Q : Pst), i + m = n → out.length + m ≤ 5000 → s.length = 70 →
    s.getD 0 .undef = vb_ → s.getD 4 .undef = vi .i64 n → s.getD 5 .undef = vi .i64 a → s.getD 6 .undef = vi .i64 0 → s.getD 7 .undef = v → s.getD 8 .undef = vi .i64 i → BufG h 2 out v →
    (∀ o s' h', RL 2 70 vb_ (wholeF (getRow b) m a out) o s' h' → Q o ⟨s', h'⟩) →
    X F (.loop f40_2) ⟨s, h⟩ Q := by
  intro m
  induction m with
  | zero =>
    intro i a out s h v Q hi hol hs h0 h4 h5 h6 h7 h8 hbuf hQ
    rw [X_loop, X_eq f40_2.eq_1]
    have hlt : ¬ (i : Int) < (n : Int) := by omega
    simp only [go_sem, Nat.reduceLT, Nat.reduceEqDiff, reduceCtorEq, Int.reduceLT, Int.reduceEq, hs, h4, h6, h8, hlt]
    exact hQ _ _ _ ⟨by simp only [slot_len, hs], .inr ⟨rfl, rfl, by simp only [go_sem, Nat.reduceLT, Nat.reduceEqDiff, reduceCtorEq, Int.reduceLT, Int.reduceEq, h0], ⟨v, by simp only [go_sem, Nat.reduceLT, Nat.reduceEqDiff, reduceCtorEq, Int.reduceLT, Int.reduceEq, h7], hbuf⟩, by simp only [go_sem, Nat.reduceLT, Nat.reduceEqDiff, reduceCtorEq, Int.reduceLT, Int.reduceEq, h5, wholeF], by simp only [go_sem, Nat.reduceLT, Nat.reduceEqDiff, reduceCtorEq, Int.reduceLT, Int.reduceEq, h6]⟩⟩
  | succ m ih =>
    intro i a out s h v Q hi hol hs h0 h4 h5 h6 h7 h8 hbuf hQ
    rw [X_loop, X_eq f40_2.eq_1]
    have hlt : (i : Int) < (n : Int) := by omega
    simp only [go_sem, Nat.reduceLT, Nat.reduceEqDiff, reduceCtorEq, Int.reduceLT, Int.reduceEq, hs, h0, h4, h5, h6, h8, hlt]
    refine XO_callP (by simp only [List.map, go_sem, Nat.reduceLT, Nat.reduceEqDiff, reduceCtorEq, Int.reduceLT, Int.reduceEq, hs, h0, h5]; exact hv.clos (clos_cv (clos_cv clos_nil))) (rtext_f37 b vb_ hv a 30 [] hb) clos_tup3 ?_
    simp only [wholeF] at hQ
    unfold getRow at hQ
    generalize hx : getText b a 30 = x at hQ ⊢
    obtain ⟨k, j, e⟩ := x
    simp only [go_sem, Nat.reduceLT, Nat.reduceEqDiff, reduceCtorEq, Int.reduceLT, Int.reduceEq, hs] at hQ ⊢
    rw [X_eq f40_0.eq_1]
    by_cases c1 : (e : Int) = 0
    · have c1' : e = 0 := by omega
      subst c1'
      simp only [go_sem, Nat.reduceLT, Nat.reduceEqDiff, reduceCtorEq, Int.reduceLT, Int.reduceEq, hs, h0, eq_true c1]
      refine XO_callP (by simp only [List.map, go_sem, Nat.reduceLT, Nat.reduceEqDiff, reduceCtorEq, Int.reduceLT, Int.reduceEq, hs, h0]; exact hv.clos (clos_cv (clos_cv clos_nil))) (rtext_f37 b vb_ hv j 150 [] hb) clos_tup3 ?_
      simp only [ne_eq, not_true_eq_false, if_false] at hQ
      generalize getText b j 150 = y at hQ ⊢
      obtain ⟨u, j2, e2⟩ := y
      simp only [go_sem, Nat.reduceLT, Nat.reduceEqDiff, reduceCtorEq, Int.reduceLT, Int.reduceEq, hs]
      rw [X_eq f40_1.eq_1]
      by_cases c2 : (e2 : Int) = 0
      · have c2' : e2 = 0 := by omega
        subst c2'
        have e5 : IntKind.i64.wrap ((i : Int) + 1) = ((i + 1 : Nat) : Int) := by rw [IntWalk.i64_in _ (by omega)]; omega
        simp only [go_sem, Nat.reduceLT, Nat.reduceEqDiff, reduceCtorEq, Int.reduceLT, Int.reduceEq, hs, h7, eq_true c2]
        refine XO_appG hbuf (new := [rowC k u]) (by simp only [go_sem, Nat.reduceLT, Nat.reduceEqDiff, reduceCtorEq, Int.reduceLT, Int.reduceEq, hs]) (by simp only [go_sem, Nat.reduceLT, Nat.reduceEqDiff, reduceCtorEq, Int.reduceLT, Int.reduceEq, hs]; rfl) (by simp only [List.length_singleton]; omega) (by simp only [List.length_singleton]; omega) (fun v' h' hb' _ _ => ?_)
        simp only [go_sem, Nat.reduceLT, Nat.reduceEqDiff, reduceCtorEq, Int.reduceLT, Int.reduceEq, hs, h8, e5]
        refine ih (i + 1) j2 (out ++ [rowC k u]) _ h' v' Q (by omega) (by simp only [List.length_append, List.length_singleton]; omega) (by simp only [slot_len, hs]) (by simp only [go_sem, Nat.reduceLT, Nat.reduceEqDiff, reduceCtorEq, Int.reduceLT, Int.reduceEq, h0]) (by simp only [go_sem, Nat.reduceLT, Nat.reduceEqDiff, reduceCtorEq, Int.reduceLT, Int.reduceEq, h4]) (by simp only [go_sem, Nat.reduceLT, Nat.reduceEqDiff, reduceCtorEq, Int.reduceLT, Int.reduceEq, hs]) (by simp only [go_sem, Nat.reduceLT, Nat.reduceEqDiff, reduceCtorEq, Int.reduceLT, Int.reduceEq, h6]) (by simp only [go_sem, Nat.reduceLT, Nat.reduceEqDiff, reduceCtorEq, Int.reduceLT, Int.reduceEq, hs]) (by simp only [go_sem, Nat.reduceLT, Nat.reduceEqDiff, reduceCtorEq, Int.reduceLT, Int.reduceEq, hs]) hb' ?_
        simp only [ne_eq, not_true_eq_false, if_false] at hQ
        exact hQ
      · have c2' : ¬ e2 = 0 := by omega
        simp only [go_sem, Nat.reduceLT, Nat.reduceEqDiff, reduceCtorEq, Int.reduceLT, Int.reduceEq, hs, c2]
        refine hQ _ _ _ ⟨by simp only [slot_len, hs], .inl ?_⟩
        simp only [ne_eq, c2', not_false_eq_true, if_true]
        exact ⟨trivial, trivial, by simp only [go_sem, Nat.reduceLT, Nat.reduceEqDiff, reduceCtorEq, Int.reduceLT, Int.reduceEq, hs], by simp only [go_sem, Nat.reduceLT, Nat.reduceEqDiff, reduceCtorEq, Int.reduceLT, Int.reduceEq, hs]⟩
    · have c1' : ¬ e = 0 := by omega
      simp only [go_sem, Nat.reduceLT, Nat.reduceEqDiff, reduceCtorEq, Int.reduceLT, Int.reduceEq, hs, c1]
      refine hQ _ _ _ ⟨by simp only [slot_len, hs], .inl ?_⟩
      simp only [ne_eq, c1', not_false_eq_true, if_true]
      exact ⟨trivial, trivial, by simp only [go_sem, Nat.reduceLT, Nat.reduceEqDiff, reduceCtorEq, Int.reduceLT, Int.reduceEq, hs], by simp only [go_sem, Nat.reduceLT, Nat.reduceEqDiff, reduceCtorEq, Int.reduceLT, Int.reduceEq, hs]⟩

theorem clos_nilc {h : Heap} {c : CV} : closRes h (.tup [nilS, .cv c]) = some (.tup [slV 0 [], .cv c]) := rfl
theorem slV_nil {z : Nat} : slV z [] = nilS := rfl

/-- Rows, by the document. -/
theorem rrows_f40 (b : List UInt8) (vb_ : VV) (hv : SlV 1 (eB b) vb_) (hb : b.length ≤ 1000000000) :
    ∃ v h', call F 40 [vb_] [] = some (.ret v, h') ∧ CloseTo (.tup [slV 2 (wholeB (getRow b) b).1, vi .i64 (wholeB (getRow b) b).2]) v h' := by
  refine call_E (fn := f40) rfl ?_
  simp only [f40]
  generalize hs0 : ([vb_] ++ List.replicate _ VV.undef : List VV) = s
  have hs : s.length = 70 := by rw [← hs0]; rfl
  have h0 : s.getD 0 .undef = vb_ := by rw [← hs0]; rfl
  clear hs0
  simp only [go_sem, Nat.reduceLT, Nat.reduceEqDiff, reduceCtorEq, Int.reduceLT, Int.reduceEq, hs, h0]
  obtain ⟨g1, hc1⟩ := many_f41 b vb_ hv [] hb
  refine XO_callP (by simp only [List.map, go_sem, Nat.reduceLT, Nat.reduceEqDiff, reduceCtorEq, Int.reduceLT, Int.reduceEq, hs]; exact hv.clos clos_nil) hc1 clos_tup3 ?_
  unfold wholeB manyF
  have hbd := getNum_bound b 0
  generalize getNum b 0 = x at hbd ⊢
  obtain ⟨n, a, e⟩ := x
  simp only at hbd ⊢
  -- the loop is left at once
  have bad : ∀ (e' : Nat) (a' n' : Nat) (s' : List VV) (w : VV), s'.length = 70 → e' ≠ 0 → s'.getD 0 .undef = vb_ → s'.getD 6 .undef = vi .i64 e' → s'.getD 4 .undef = vi .i64 n' → s'.getD 8 .undef = vi .i64 0 → w = .tup [slV 2 [], vi .i64 e'] →
      X F (.loop f40_2) ⟨s', []⟩ (B 0 (K F (.seq f40_3 (.seq f40_4 (.seq (.reg [⟨none, (some 69), (.mv (.t 7))⟩, ⟨none, (some 2), (.mv (.t 69))⟩, ⟨none, (some 3), (.mv (.c (.cv (.sc (.int .i64 0)))))⟩]) .ret))) (RQ [.t 2, .t 3] (CloseTo w)))) := by
    intro e' a' n' s' w hs' he h0' h6' h4' h8' hw
    have he' : ¬ (e' : Int) = 0 := by omega
    rw [X_loop, X_eq f40_2.eq_1]
    by_cases hlt : (0 : Int) < (n' : Int)
    · simp only [go_sem, Nat.reduceLT, Nat.reduceEqDiff, reduceCtorEq, Int.reduceLT, Int.reduceEq, hs', h4', h6', h8', hlt, he']
      rw [X_eq f40_3.eq_1]
      simp only [go_sem, Nat.reduceLT, Nat.reduceEqDiff, reduceCtorEq, Int.reduceLT, Int.reduceEq, hs', h6', he']
      rw [X_eq f40_4.eq_1]
      simp only [go_sem, Nat.reduceLT, Nat.reduceEqDiff, reduceCtorEq, Int.reduceLT, Int.reduceEq, hs', h6', he']
      rw [hw]; rfl
    · simp only [go_sem, Nat.reduceLT, Nat.reduceEqDiff, reduceCtorEq, Int.reduceLT, Int.reduceEq, hs', h4', h6', h8', hlt, he']
      rw [X_eq f40_3.eq_1]
      simp only [go_sem, Nat.reduceLT, Nat.reduceEqDiff, reduceCtorEq, Int.reduceLT, Int.reduceEq, hs', h6', he']
      rw [X_eq f40_4.eq_1]
      simp only [go_sem, Nat.reduceLT, Nat.reduceEqDiff, reduceCtorEq, Int.reduceLT, Int.reduceEq, hs', h6', he']
      rw [hw]; rfl
  by_cases c1 : e = 0
  · subst c1
    by_cases c2 : 5000 < n
    · simp only [go_sem, Nat.reduceLT, Nat.reduceEqDiff, reduceCtorEq, Int.reduceLT, Int.reduceEq, hs, h0, c2, and_self]
      exact bad 3 a n _ _ (by simp only [slot_len, hs]) (by decide) (by simp only [go_sem, Nat.reduceLT, Nat.reduceEqDiff, reduceCtorEq, Int.reduceLT, Int.reduceEq, h0]) (by simp only [go_sem, Nat.reduceLT, Nat.reduceEqDiff, reduceCtorEq, Int.reduceLT, Int.reduceEq, hs]) (by simp only [go_sem, Nat.reduceLT, Nat.reduceEqDiff, reduceCtorEq, Int.reduceLT, Int.reduceEq, hs]) (by simp only [go_sem, Nat.reduceLT, Nat.reduceEqDiff, reduceCtorEq, Int.reduceLT, Int.reduceEq, hs]) rfl
    · simp only [go_sem, Nat.reduceLT, Nat.reduceEqDiff, reduceCtorEq, Int.reduceLT, Int.reduceEq, hs, h0, c2, and_false]
      refine f40_loop b vb_ hv hb n (by omega) n 0 a [] _ [] nilS _ (by omega) (by simp only [List.length_nil]; omega) (by simp only [slot_len, hs]) (by simp only [go_sem, Nat.reduceLT, Nat.reduceEqDiff, reduceCtorEq, Int.reduceLT, Int.reduceEq, h0]) (by simp only [go_sem, Nat.reduceLT, Nat.reduceEqDiff, reduceCtorEq, Int.reduceLT, Int.reduceEq, hs]) (by simp only [go_sem, Nat.reduceLT, Nat.reduceEqDiff, reduceCtorEq, Int.reduceLT, Int.reduceEq, hs]) (by simp only [go_sem, Nat.reduceLT, Nat.reduceEqDiff, reduceCtorEq, Int.reduceLT, Int.reduceEq, hs]; rfl) (by simp only [go_sem, Nat.reduceLT, Nat.reduceEqDiff, reduceCtorEq, Int.reduceLT, Int.reduceEq, hs]) (by simp only [go_sem, Nat.reduceLT, Nat.reduceEqDiff, reduceCtorEq, Int.reduceLT, Int.reduceEq, hs]; rfl) (BufG.nil _ _) ?_
      intro o s' h' hR
      generalize wholeF (getRow b) n a [] = y at hR ⊢
      obtain ⟨out, j, e2⟩ := y
      obtain ⟨hs', ⟨k1, rfl, k2, k3⟩ | ⟨k1, rfl, k2, ⟨v, k3, k4⟩, k5, k6⟩⟩ := hR
      · simp only at k1 k3
        simp only [go_sem, Nat.reduceLT, Nat.reduceEqDiff, reduceCtorEq, Int.reduceLT, Int.reduceEq, hs', k2, k3, k1, ne_eq]
        rfl
      · simp only at k1 k4 k5
        subst k1
        simp only [go_sem, Nat.reduceLT, Nat.reduceEqDiff, reduceCtorEq, Int.reduceLT, Int.reduceEq, hs']
        rw [X_eq f40_3.eq_1]
        by_cases c4 : (j : Int) < (b.length : Int)
        · have c4' : j < b.length := by omega
          simp only [go_sem, Nat.reduceLT, Nat.reduceEqDiff, reduceCtorEq, Int.reduceLT, Int.reduceEq, hs', k2, k3, k5, k6, hv.ln, eB_len, c4]
          rw [X_eq f40_4.eq_1]
          simp only [go_sem, Nat.reduceLT, Nat.reduceEqDiff, reduceCtorEq, Int.reduceLT, Int.reduceEq, hs', c4']
          rfl
        · have c4' : ¬ j < b.length := by omega
          simp only [go_sem, Nat.reduceLT, Nat.reduceEqDiff, reduceCtorEq, Int.reduceLT, Int.reduceEq, hs', k2, k3, k5, k6, hv.ln, eB_len, c4]
          rw [X_eq f40_4.eq_1]
          simp only [go_sem, Nat.reduceLT, Nat.reduceEqDiff, reduceCtorEq, Int.reduceLT, Int.reduceEq, hs', k3, k6, c4']
          exact clos_slV k4
  · have c1' : e ≠ 0 := c1
    simp only [go_sem, Nat.reduceLT, Nat.reduceEqDiff, reduceCtorEq, Int.reduceLT, Int.reduceEq, hs, h0, c1, false_and]
    exact bad e a n _ _ (by simp only [slot_len, hs]) c1' (by simp only [go_sem, Nat.reduceLT, Nat.reduceEqDiff, reduceCtorEq, Int.reduceLT, Int.reduceEq, h0]) (by simp only [go_sem, Nat.reduceLT, Nat.reduceEqDiff, reduceCtorEq, Int.reduceLT, Int.reduceEq, hs]) (by simp only [go_sem, Nat.reduceLT, Nat.reduceEqDiff, reduceCtorEq, Int.reduceLT, Int.reduceEq, hs]) (by simp only [go_sem, Nat.reduceLT, Nat.reduceEqDiff, reduceCtorEq, Int.reduceLT, Int.reduceEq, hs]) rfl

end Go.V01

set_option linter.unusedSimpArgs false
namespace Go.V01
open Go Go.Vm

/-! ### changes that are read -/

def ch0 : List CV := [.sc (.string ⟨#[]⟩), .sc (.slice none 0 0), .sc (.bool false)]
def chC (k : List UInt8) (c : CV) (g : Bool) : List CV := [.sc (.string ⟨k.toArray⟩), c, .sc (.bool g)]

/-- A change, from its bytes. -/
def getCh (b : List UInt8) (a : Int) : List CV × Nat × Nat :=
  if (getText b a 30).2.2 ≠ 0 then (ch0, 0, (getText b a 30).2.2) else
  match b[(getText b a 30).2.1]? with
  | none => (ch0, 0, 10)
  | some c => if c.toNat = 1 then (chC (getText b a 30).1 (.sc (.slice none 0 0)) true, (getText b a 30).2.1 + 1, 0) else
    if 1 < c.toNat then (ch0, 0, 11) else
    (chC (getText b a 30).1 (.sl 1 (eB (getText b ((getText b a 30).2.1 + 1 : Nat) 150).1) false) false, (getText b ((getText b a 30).2.1 + 1 : Nat) 150).2.1, (getText b ((getText b a 30).2.1 + 1 : Nat) 150).2.2)

theorem getText_bound (b : List UInt8) (a m : Int) (h : (getText b a m).2.2 = 0) : (getText b a m).2.1 ≤ b.length ∧ (getText b a m).1.length ≤ b.length ∧ 0 ≤ a ∧ a < (getText b a m).2.1 := by
  have hbd := getNum_bound b a
  unfold getText at h ⊢
  split at h
  · rename_i h0; rw [if_pos h0]; simp only at h; exact absurd h h0
  · rename_i h0
    rw [if_neg h0]
    have h0' : (getNum b a).2.2 = 0 := by simpa using h0
    have := hbd.2.1 h0'
    split at h
    · simp at h
    · rename_i h1
      rw [if_neg h1]
      split at h
      · simp at h
      · rename_i h2
        rw [if_neg h2]
        refine ⟨by simp only; omega, ?_, this.1, by simp only; omega⟩
        simp only [List.length_take, List.length_drop]
        omega

theorem getCh_three (b : List UInt8) (a : Int) : ∃ u w t, (getCh b a).1 = [u, w, t] := by
  unfold getCh
  split
  · exact ⟨_, _, _, rfl⟩
  · split
    · exact ⟨_, _, _, rfl⟩
    · split
      · exact ⟨_, _, _, rfl⟩
      · split
        · exact ⟨_, _, _, rfl⟩
        · exact ⟨_, _, _, rfl⟩
theorem clos_ch {h : Heap} {u w t c1 c2 : CV} : closRes h (.tup [.agg [.cv u, .cv w, .cv t], .cv c1, .cv c2]) = some (.tup [.agg [.cv u, .cv w, .cv t], .cv c1, .cv c2]) := rfl
theorem bd_3k {a b c : VV} {u w : CV} : bdO [a, b, c] [(0, 1, .cv u), (2, 1, .cv w)] = some (.agg [.cv u, b, .cv w]) := rfl
theorem bd_3v {a b c : VV} {u w : CV} : bdO [a, b, c] [(0, 1, .cv u), (1, 1, .cv w)] = some (.agg [.cv u, .cv w, c]) := rfl

theorem change_f35 (b : List UInt8) (v : VV) (hv : SlV 1 (eB b) v) (a : Int) (hb : b.length ≤ 1000000000) :
    ∃ w h', call F 35 [v, vi .i64 a] [] = some (.ret w, h') ∧ ValIs (.tup [.agg ((getCh b a).1.map .cv), vi .i64 (getCh b a).2.1, vi .u16 (getCh b a).2.2]) w h' := by
  refine call_E (fn := f35) rfl ?_
  simp only [f35]
  generalize hs0 : ([v, vi .i64 a] ++ List.replicate _ VV.undef : List VV) = s
  have hs : s.length = 59 := by rw [← hs0]; rfl
  have h0 : s.getD 0 .undef = v := by rw [← hs0]; rfl
  have h1 : s.getD 1 .undef = vi .i64 a := by rw [← hs0]; rfl
  clear hs0
  simp only [go_sem, Nat.reduceLT, Nat.reduceEqDiff, reduceCtorEq, Int.reduceLT, Int.reduceEq, hs, h0, h1, List.nil_append, List.length_nil]
  refine XO_callP (by simp only [List.map, go_sem, Nat.reduceLT, Nat.reduceEqDiff, reduceCtorEq, Int.reduceLT, Int.reduceEq, hs, h0, h1]; exact hv.clos (clos_cv (clos_cv clos_nil))) (text_f15 b v hv a 30 [] hb) clos_tup3 ?_
  have hbd := getText_bound b a 30
  unfold getCh
  generalize getText b a 30 = x at hbd ⊢
  obtain ⟨k, j, e⟩ := x
  simp only [go_sem, Nat.reduceLT, Nat.reduceEqDiff, reduceCtorEq, Int.reduceLT, Int.reduceEq, hs, h0] at hbd ⊢
  by_cases c1 : (e : Int) = 0
  · have c1' : e = 0 := by omega
    subst c1'
    obtain ⟨hj, _⟩ := hbd rfl
    by_cases c2 : (j : Int) = (b.length : Int)
    · have hg : b[j]? = none := List.getElem?_eq_none (by omega)
      simp only [go_sem, Nat.reduceLT, Nat.reduceEqDiff, reduceCtorEq, Int.reduceLT, Int.reduceEq, hs, h0, eq_true c1, hv.ln, eB_len, eq_true c2, hg]
      refine RQ_c2 (id := 0) (by simp only [go_sem, Nat.reduceLT, Nat.reduceEqDiff, reduceCtorEq, Int.reduceLT, Int.reduceEq, hs]) rfl rfl (by simp only [go_sem, Nat.reduceLT, Nat.reduceEqDiff, reduceCtorEq, Int.reduceLT, Int.reduceEq, hs]) (by simp only [go_sem, Nat.reduceLT, Nat.reduceEqDiff, reduceCtorEq, Int.reduceLT, Int.reduceEq, hs]) ?_
      simp only [go_sem, Nat.reduceLT, Nat.reduceEqDiff, reduceCtorEq, Int.reduceLT, Int.reduceEq, hs]
      rfl
    · obtain ⟨c, hg⟩ : ∃ c, b[j]? = some c := ⟨_, List.getElem?_eq_getElem (show j < b.length by omega)⟩
      have hia : ∀ h : Heap, iaO h 1 v (vi .i64 (j : Int)) = some (.rptr (byteCell c), h) := fun h => hv.ia (by omega) (by exact eB_get hg)
      have e5 : IntKind.i64.wrap ((j : Int) + 1) = ((j + 1 : Nat) : Int) := by rw [IntWalk.i64_in _ (by omega)]; omega
      by_cases c3 : (c.toNat : Int) = 1
      · have c3' : c.toNat = 1 := by omega
        have k1 : ((1 : Nat) : Int) = 1 := rfl
        simp only [go_sem, Nat.reduceLT, Nat.reduceEqDiff, reduceCtorEq, Int.reduceLT, Int.reduceEq, hs, h0, eq_true c1, hv.ln, eB_len, c2, hia, byteCell, eq_true c3, c3', k1, hg, bd_3k, e5]
        refine RQ_c2 (id := 0) (by simp only [go_sem, Nat.reduceLT, Nat.reduceEqDiff, reduceCtorEq, Int.reduceLT, Int.reduceEq, hs]) rfl rfl (by simp only [go_sem, Nat.reduceLT, Nat.reduceEqDiff, reduceCtorEq, Int.reduceLT, Int.reduceEq, hs]) (by simp only [go_sem, Nat.reduceLT, Nat.reduceEqDiff, reduceCtorEq, Int.reduceLT, Int.reduceEq, hs]) ?_
        simp only [go_sem, Nat.reduceLT, Nat.reduceEqDiff, reduceCtorEq, Int.reduceLT, Int.reduceEq, hs]
        rfl
      · have c3' : ¬ c.toNat = 1 := by omega
        by_cases c4 : (1 : Int) < (c.toNat : Int)
        · have c4' : 1 < c.toNat := by omega
          simp only [go_sem, Nat.reduceLT, Nat.reduceEqDiff, reduceCtorEq, Int.reduceLT, Int.reduceEq, hs, h0, eq_true c1, hv.ln, eB_len, c2, hia, byteCell, c3, c3', c4, c4', hg]
          refine RQ_c2 (id := 0) (by simp only [go_sem, Nat.reduceLT, Nat.reduceEqDiff, reduceCtorEq, Int.reduceLT, Int.reduceEq, hs]) rfl rfl (by simp only [go_sem, Nat.reduceLT, Nat.reduceEqDiff, reduceCtorEq, Int.reduceLT, Int.reduceEq, hs]) (by simp only [go_sem, Nat.reduceLT, Nat.reduceEqDiff, reduceCtorEq, Int.reduceLT, Int.reduceEq, hs]) ?_
          simp only [go_sem, Nat.reduceLT, Nat.reduceEqDiff, reduceCtorEq, Int.reduceLT, Int.reduceEq, hs]
          rfl
        · have c4' : ¬ 1 < c.toNat := by omega
          simp only [go_sem, Nat.reduceLT, Nat.reduceEqDiff, reduceCtorEq, Int.reduceLT, Int.reduceEq, hs, h0, eq_true c1, hv.ln, eB_len, c2, hia, byteCell, c3, c3', c4, c4', hg, e5]
          refine XO_callP (by simp only [List.map, go_sem, Nat.reduceLT, Nat.reduceEqDiff, reduceCtorEq, Int.reduceLT, Int.reduceEq, hs]; exact hv.clos (clos_cv (clos_cv clos_nil))) (text_f15 b v hv (j + 1 : Nat) 150 [] hb) clos_tup3 ?_
          generalize getText b (j + 1 : Nat) 150 = y
          obtain ⟨u, j2, e2⟩ := y
          simp only [go_sem, Nat.reduceLT, Nat.reduceEqDiff, reduceCtorEq, Int.reduceLT, Int.reduceEq, hs, bd_3v]
          refine RQ_c2 (id := 0) (by simp only [go_sem, Nat.reduceLT, Nat.reduceEqDiff, reduceCtorEq, Int.reduceLT, Int.reduceEq, hs]) rfl rfl (by simp only [go_sem, Nat.reduceLT, Nat.reduceEqDiff, reduceCtorEq, Int.reduceLT, Int.reduceEq, hs]) (by simp only [go_sem, Nat.reduceLT, Nat.reduceEqDiff, reduceCtorEq, Int.reduceLT, Int.reduceEq, hs]) ?_
          simp only [go_sem, Nat.reduceLT, Nat.reduceEqDiff, reduceCtorEq, Int.reduceLT, Int.reduceEq, hs]
          rfl
  · have c1' : ¬ e = 0 := by omega
    simp only [go_sem, Nat.reduceLT, Nat.reduceEqDiff, reduceCtorEq, Int.reduceLT, Int.reduceEq, hs, c1, c1']
    refine RQ_c2 (id := 0) (by simp only [go_sem, Nat.reduceLT, Nat.reduceEqDiff, reduceCtorEq, Int.reduceLT, Int.reduceEq, hs]) rfl rfl (by simp only [go_sem, Nat.reduceLT, Nat.reduceEqDiff, reduceCtorEq, Int.reduceLT, Int.reduceEq, hs]) (by simp only [go_sem, Nat.reduceLT, Nat.reduceEqDiff, reduceCtorEq, Int.reduceLT, Int.reduceEq, hs]) ?_
    simp only [go_sem, Nat.reduceLT, Nat.reduceEqDiff, reduceCtorEq, Int.reduceLT, Int.reduceEq, hs]
    rfl

theorem f34_end (e : Nat) (s : List VV) (h : Heap) (Q : Pst) (hs : s.length = 55) (h9 : s.getD 9 .undef = vi .u16 e) (he : e ≠ 0)
    (hQ : ∀ s', s'.length = 55 → (∀ i, i < 10 → s'.getD i .undef = s.getD i .undef) → Q (.exit 0) ⟨s', h⟩) : X F (.loop f34_0) ⟨s, h⟩ Q := by
  rw [X_loop, X_eq f34_0.eq_1]
  have he' : ¬ (e : Int) = 0 := by omega
  simp only [go_sem, Nat.reduceLT, Nat.reduceEqDiff, reduceCtorEq, Int.reduceLT, Int.reduceEq, hs, h9, he']
  refine hQ _ (by simp only [slot_len, hs]) (fun i hi => ?_)
  have : ∀ j, 10 ≤ j → j ≠ i := by omega
  rw [slot_ne (this _ (by decide)), slot_ne (this _ (by decide)), slot_ne (this _ (by decide)), slot_ne (this _ (by decide)), slot_ne (this _ (by decide)), slot_ne (this _ (by decide))]

theorem f34_loop (b : List UInt8) (vb_ : VV) (hv : SlV 1 (eB b) vb_) (hb : b.length ≤ 1000000000) : ∀ (n a : Nat) (out : List (List CV)) (s : List VV) (h : Heap) (v : VV) (Q : Pst), out.length + n ≤ 5000 → s.length = 55 →
    s.getD 0 .undef = vb_ → s.getD 1 .undef = .func 35 [] → s.getD 6 .undef = v → s.getD 7 .undef = vi .i64 n → s.getD 8 .undef = vi .i64 a → s.getD 9 .undef = vi .u16 0 → BufG h 3 out v →
    (∀ s' h' v', s'.length = 55 → s'.getD 0 .undef = vb_ → s'.getD 6 .undef = v' → BufG h' 3 (wholeF (getCh b) n a out).1 v' →
      s'.getD 8 .undef = vi .i64 (wholeF (getCh b) n a out).2.1 → s'.getD 9 .undef = vi .u16 (wholeF (getCh b) n a out).2.2 → Q (.exit 0) ⟨s', h'⟩) →
    X F (.loop f34_0) ⟨s, h⟩ Q := by
  intro n
  induction n with
  | zero =>
    intro a out s h v Q hn hs h0 h1 h6 h7 h8 h9 hbuf hQ
    rw [X_loop, X_eq f34_0.eq_1]
    have hn0 : ¬ (0 : Int) < ((0 : Nat) : Int) := by decide
    simp only [go_sem, Nat.reduceLT, Nat.reduceEqDiff, reduceCtorEq, Int.reduceLT, Int.reduceEq, hs, h7, h9, hn0]
    exact hQ _ _ v (by simp only [slot_len, hs]) (by simp only [go_sem, Nat.reduceLT, Nat.reduceEqDiff, reduceCtorEq, Int.reduceLT, Int.reduceEq, h0]) (by simp only [go_sem, Nat.reduceLT, Nat.reduceEqDiff, reduceCtorEq, Int.reduceLT, Int.reduceEq, h6]) hbuf (by simp only [go_sem, Nat.reduceLT, Nat.reduceEqDiff, reduceCtorEq, Int.reduceLT, Int.reduceEq, h8, wholeF]) (by simp only [go_sem, Nat.reduceLT, Nat.reduceEqDiff, reduceCtorEq, Int.reduceLT, Int.reduceEq, h9, wholeF]; rfl)
  | succ n ih =>
    intro a out s h v Q hn hs h0 h1 h6 h7 h8 h9 hbuf hQ
    rw [X_loop, X_eq f34_0.eq_1]
    have hn0 : (0 : Int) < ((n + 1 : Nat) : Int) := by omega
    simp only [go_sem, Nat.reduceLT, Nat.reduceEqDiff, reduceCtorEq, Int.reduceLT, Int.reduceEq, hs, h0, h1, h6, h7, h8, h9, hn0]
    obtain ⟨w, hc, hcall, hw⟩ := change_f35 b vb_ hv a hb
    obtain ⟨u1, u2, u3, hu⟩ := getCh_three b a
    unfold ValIs at hw
    rw [hw, hu] at hcall
    refine XO_callvP (by simp only [go_sem, Nat.reduceLT, Nat.reduceEqDiff, reduceCtorEq, Int.reduceLT, Int.reduceEq, hs]) (by simp only [List.map, go_sem, Nat.reduceLT, Nat.reduceEqDiff, reduceCtorEq, Int.reduceLT, Int.reduceEq, hs]; exact hv.clos (clos_cv clos_nil)) hcall clos_ch ?_
    simp only [go_sem, Nat.reduceLT, Nat.reduceEqDiff, reduceCtorEq, Int.reduceLT, Int.reduceEq, hs, h0, h1, h6, h7, h8, h9]
    have e7 : IntKind.i64.wrap (((n + 1 : Nat) : Int) - 1) = (n : Int) := by rw [IntWalk.i64_in _ (by omega)]; omega
    by_cases c1 : ((getCh b a).2.2 : Int) = 0
    · have c1' : (getCh b a).2.2 = 0 := by omega
      simp only [go_sem, Nat.reduceLT, Nat.reduceEqDiff, reduceCtorEq, Int.reduceLT, Int.reduceEq, hs, h6, eq_true c1]
      refine XO_appG (new := [[u1, u2, u3]]) (hbuf.push _) (by simp only [go_sem, Nat.reduceLT, Nat.reduceEqDiff, reduceCtorEq, Int.reduceLT, Int.reduceEq, hs]) (by simp only [go_sem, Nat.reduceLT, Nat.reduceEqDiff, reduceCtorEq, Int.reduceLT, Int.reduceEq, hs]) (by simp only [List.length_singleton]; omega) (by simp only [List.length_singleton]; omega) (fun v' h' hb' _ _ => ?_)
      simp only [go_sem, Nat.reduceLT, Nat.reduceEqDiff, reduceCtorEq, Int.reduceLT, Int.reduceEq, hs, h7, e7]
      refine ih (getCh b a).2.1 (out ++ [(getCh b a).1]) _ h' v' Q (by simp only [List.length_append, List.length_singleton]; omega) (by simp only [slot_len, hs]) (by simp only [go_sem, Nat.reduceLT, Nat.reduceEqDiff, reduceCtorEq, Int.reduceLT, Int.reduceEq, h0]) (by simp only [go_sem, Nat.reduceLT, Nat.reduceEqDiff, reduceCtorEq, Int.reduceLT, Int.reduceEq, h1]) (by simp only [go_sem, Nat.reduceLT, Nat.reduceEqDiff, reduceCtorEq, Int.reduceLT, Int.reduceEq, hs]) (by simp only [go_sem, Nat.reduceLT, Nat.reduceEqDiff, reduceCtorEq, Int.reduceLT, Int.reduceEq, hs]) (by simp only [go_sem, Nat.reduceLT, Nat.reduceEqDiff, reduceCtorEq, Int.reduceLT, Int.reduceEq, hs]) (by simp only [go_sem, Nat.reduceLT, Nat.reduceEqDiff, reduceCtorEq, Int.reduceLT, Int.reduceEq, hs, c1']; rfl) (by rw [hu]; exact hb') ?_
      simp only [wholeF, c1', ne_eq, not_true_eq_false, if_false] at hQ
      exact hQ
    · have c1' : ¬ (getCh b a).2.2 = 0 := by omega
      simp only [go_sem, Nat.reduceLT, Nat.reduceEqDiff, reduceCtorEq, Int.reduceLT, Int.reduceEq, hs, h6, h7, c1, e7]
      refine f34_end (getCh b a).2.2 _ _ Q (by simp only [slot_len, hs]) (by simp only [go_sem, Nat.reduceLT, Nat.reduceEqDiff, reduceCtorEq, Int.reduceLT, Int.reduceEq, hs]) c1' (fun s' hs' hl => ?_)
      simp only [wholeF, c1', ne_eq, not_false_eq_true, if_true] at hQ
      refine hQ s' _ v hs' ?_ ?_ (hbuf.push _) ?_ ?_
      · rw [hl 0 (by decide)]; simp only [go_sem, Nat.reduceLT, Nat.reduceEqDiff, reduceCtorEq, Int.reduceLT, Int.reduceEq, h0]
      · rw [hl 6 (by decide)]; simp only [go_sem, Nat.reduceLT, Nat.reduceEqDiff, reduceCtorEq, Int.reduceLT, Int.reduceEq, h6]
      · rw [hl 8 (by decide)]; simp only [go_sem, Nat.reduceLT, Nat.reduceEqDiff, reduceCtorEq, Int.reduceLT, Int.reduceEq, hs]
      · rw [hl 9 (by decide)]; simp only [go_sem, Nat.reduceLT, Nat.reduceEqDiff, reduceCtorEq, Int.reduceLT, Int.reduceEq, hs]

theorem wholeC_f34 (b : List UInt8) (vb_ : VV) (hv : SlV 1 (eB b) vb_) (hb : b.length ≤ 1000000000) :
    ∃ v h', call F 34 [vb_, .func 35 []] [] = some (.ret v, h') ∧ CloseTo (.tup [slV 3 (wholeB (getCh b) b).1, vi .u16 (wholeB (getCh b) b).2]) v h' := by
  refine call_E (fn := f34) rfl ?_
  simp only [f34]
  generalize hs0 : ([vb_, .func 35 []] ++ List.replicate _ VV.undef : List VV) = s
  have hs : s.length = 55 := by rw [← hs0]; rfl
  have h0 : s.getD 0 .undef = vb_ := by rw [← hs0]; rfl
  have h1 : s.getD 1 .undef = .func 35 [] := by rw [← hs0]; rfl
  clear hs0
  simp only [go_sem, Nat.reduceLT, Nat.reduceEqDiff, reduceCtorEq, Int.reduceLT, Int.reduceEq, hs, h0, h1]
  refine XO_callP (by simp only [List.map, go_sem, Nat.reduceLT, Nat.reduceEqDiff, reduceCtorEq, Int.reduceLT, Int.reduceEq, hs]; exact hv.clos (clos_cv clos_nil)) (num_f13 b vb_ hv 0 [] hb) clos_tup3 ?_
  have hbd := getNum_bound b 0
  unfold wholeB
  generalize getNum b 0 = x at hbd ⊢
  obtain ⟨n, a, e⟩ := x
  simp only [go_sem, Nat.reduceLT, Nat.reduceEqDiff, reduceCtorEq, Int.reduceLT, Int.reduceEq, hs, h0, h1] at hbd ⊢
  -- the end, with an error
  have bad : ∀ (e : Nat) (s' : List VV) (h' : Heap) (w : VV), s'.length = 55 → e ≠ 0 → s'.getD 9 .undef = vi .u16 e → w = .tup [slV 3 [], vi .u16 e] →
      X F (.seq (.block 2
  (.seq (.reg [
  ⟨none, (some 46), (.mv (.t 9))⟩,
  ⟨none, (some 47), (.bin .neq (.t 46) (.c (.cv (.sc (.int .u16 0)))))⟩,
  ⟨none, (some 45), (.mv (.t 47))⟩])
  (.cond (.t 45)
  (.seq (.reg [
  ⟨none, (some 48), (.mv (.t 9))⟩,
  ⟨none, (some 4), (.mv (.c (.cv (.sc (.slice none 0 0)))))⟩,
  ⟨none, (some 5), (.mv (.t 48))⟩])
  .ret)
  (.seq (.reg [
  ⟨none, (some 50), (.mv (.t 8))⟩,
  ⟨none, (some 51), (.mv (.t 0))⟩,
  ⟨none, (some 52), (.len false (.t 51))⟩,
  ⟨none, (some 53), (.bin .lss (.t 50) (.t 52))⟩,
  ⟨none, (some 49), (.mv (.t 53))⟩])
  (.cond (.t 49)
  (.seq (.reg [
  ⟨none, (some 4), (.mv (.c (.cv (.sc (.slice none 0 0)))))⟩,
  ⟨none, (some 5), (.mv (.c (.cv (.sc (.int .u16 11)))))⟩])
  .ret) .skip)))))
  (.seq (.reg [
  ⟨none, (some 54), (.mv (.t 6))⟩,
  ⟨none, (some 4), (.mv (.t 54))⟩,
  ⟨none, (some 5), (.mv (.c (.cv (.sc (.int .u16 0)))))⟩])
  .ret)) ⟨s', h'⟩ (RQ [.t 4, .t 5] (CloseTo w)) := by
    intro e s' h' w hs' he h9 hw
    have he' : ¬ (e : Int) = 0 := by omega
    simp only [go_sem, Nat.reduceLT, Nat.reduceEqDiff, reduceCtorEq, Int.reduceLT, Int.reduceEq, hs', h9, he']
    rw [hw]
    exact clos_slV (BufG.nil h' 3)
  by_cases c1 : (e : Int) = 0
  · have c1' : e = 0 := by omega
    subst c1'
    by_cases c2 : (5000 : Int) < (n : Int)
    · have c2' : 5000 < n := by omega
      simp only [go_sem, Nat.reduceLT, Nat.reduceEqDiff, reduceCtorEq, Int.reduceLT, Int.reduceEq, hs, h0, h1, eq_true c1, c2, c2']
      refine f34_end 3 _ _ _ (by simp only [slot_len, hs]) (by simp only [go_sem, Nat.reduceLT, Nat.reduceEqDiff, reduceCtorEq, Int.reduceLT, Int.reduceEq, hs]; rfl) (by decide) (fun s' hs' hl => ?_)
      simp only [B_exit, if_true, K_norm]
      refine bad 3 _ _ _ hs' (by decide) ?_ rfl
      rw [hl 9 (by decide)]; simp only [go_sem, Nat.reduceLT, Nat.reduceEqDiff, reduceCtorEq, Int.reduceLT, Int.reduceEq, hs]; rfl
    · have c2' : ¬ 5000 < n := by omega
      simp only [go_sem, Nat.reduceLT, Nat.reduceEqDiff, reduceCtorEq, Int.reduceLT, Int.reduceEq, hs, h0, h1, eq_true c1, c2, c2']
      refine f34_loop b vb_ hv hb n a [] _ _ nilS _ (by simp only [List.length_nil]; omega) (by simp only [slot_len, hs]) (by simp only [go_sem, Nat.reduceLT, Nat.reduceEqDiff, reduceCtorEq, Int.reduceLT, Int.reduceEq, h0]) (by simp only [go_sem, Nat.reduceLT, Nat.reduceEqDiff, reduceCtorEq, Int.reduceLT, Int.reduceEq, h1]) (by simp only [go_sem, Nat.reduceLT, Nat.reduceEqDiff, reduceCtorEq, Int.reduceLT, Int.reduceEq, hs]) (by simp only [go_sem, Nat.reduceLT, Nat.reduceEqDiff, reduceCtorEq, Int.reduceLT, Int.reduceEq, hs]) (by simp only [go_sem, Nat.reduceLT, Nat.reduceEqDiff, reduceCtorEq, Int.reduceLT, Int.reduceEq, hs]) (by simp only [go_sem, Nat.reduceLT, Nat.reduceEqDiff, reduceCtorEq, Int.reduceLT, Int.reduceEq, hs]; rfl) (BufG.nil _ _) ?_
      intro s' h' v' hs' h0' h6' hb' h8' h9'
      simp only [B_exit, if_true, K_norm]
      generalize wholeF (getCh b) n a [] = y at *
      obtain ⟨out, j, e2⟩ := y
      simp only at *
      by_cases c3 : (e2 : Int) = 0
      · have c3' : e2 = 0 := by omega
        subst c3'
        by_cases c4 : (j : Int) < (b.length : Int)
        · have c4' : j < b.length := by omega
          simp only [go_sem, Nat.reduceLT, Nat.reduceEqDiff, reduceCtorEq, Int.reduceLT, Int.reduceEq, hs', h0', h6', h8', h9', eq_true c3, eB_len, hv.ln, c4, c4']
          exact clos_slV (BufG.nil h' 3)
        · have c4' : ¬ j < b.length := by omega
          simp only [go_sem, Nat.reduceLT, Nat.reduceEqDiff, reduceCtorEq, Int.reduceLT, Int.reduceEq, hs', h0', h6', h8', h9', eq_true c3, eB_len, hv.ln, c4, c4']
          exact clos_slV hb'
      · have c3' : e2 ≠ 0 := by omega
        rw [if_pos c3']
        exact bad e2 s' h' _ hs' c3' h9' rfl
  · have c1' : e ≠ 0 := by omega
    simp only [go_sem, Nat.reduceLT, Nat.reduceEqDiff, reduceCtorEq, Int.reduceLT, Int.reduceEq, hs, h0, h1, c1]
    rw [if_pos c1']
    refine f34_end e _ _ _ (by simp only [slot_len, hs]) (by simp only [go_sem, Nat.reduceLT, Nat.reduceEqDiff, reduceCtorEq, Int.reduceLT, Int.reduceEq, hs]) c1' (fun s' hs' hl => ?_)
    simp only [B_exit, if_true, K_norm]
    refine bad e _ _ _ hs' c1' ?_ rfl
    rw [hl 9 (by decide)]; simp only [go_sem, Nat.reduceLT, Nat.reduceEqDiff, reduceCtorEq, Int.reduceLT, Int.reduceEq, hs]

/-- Changes, of all bytes. -/
theorem changes_f24 (b : List UInt8) (vb_ : VV) (hv : SlV 1 (eB b) vb_) (hb : b.length ≤ 1000000000) :
    ∃ v h', call F 24 [vb_] [] = some (.ret v, h') ∧ CloseTo (.tup [slV 3 (wholeB (getCh b) b).1, vi .u16 (wholeB (getCh b) b).2]) v h' := by
  refine call_E (fn := f24) rfl ?_
  simp only [f24]
  generalize hs0 : ([vb_] ++ List.replicate _ VV.undef : List VV) = s
  have hs : s.length = 8 := by rw [← hs0]; rfl
  have h0 : s.getD 0 .undef = vb_ := by rw [← hs0]; rfl
  clear hs0
  simp only [go_sem, Nat.reduceLT, Nat.reduceEqDiff, reduceCtorEq, Int.reduceLT, Int.reduceEq, hs, h0]
  obtain ⟨v, hc, hcall, hw⟩ := wholeC_f34 b vb_ hv hb
  refine XO_callP (h1 := []) (by simp only [List.map, go_sem, Nat.reduceLT, Nat.reduceEqDiff, reduceCtorEq, Int.reduceLT, Int.reduceEq, hs]; exact hv.clos rfl) hcall hw ?_
  simp only [go_sem, Nat.reduceLT, Nat.reduceEqDiff, reduceCtorEq, Int.reduceLT, Int.reduceEq, hs]
  unfold slV
  split <;> rfl

end Go.V01

set_option linter.unusedSimpArgs false
namespace Go.V01
open Go Go.Vm

/-! ### the same rows -/

theorem RowsE.get {l : List (List CV)} {k : List (List UInt8 × List UInt8)} (h : RowsE l k) : ∀ {i : Nat}, i < k.length → ∃ e p, l[i]? = some e ∧ k[i]? = some p ∧ rowE e p := by
  induction h with
  | nil => intro i hi; simp at hi
  | @cons e p l k h _ ih =>
    intro i hi
    cases i with
    | zero => exact ⟨e, p, rfl, rfl, h⟩
    | succ i =>
      obtain ⟨e', p', h1, h2, h3⟩ := ih (i := i) (by simpa using hi)
      exact ⟨e', p', by simpa using h1, by simpa using h2, h3⟩

theorem f23_loop (l m : List (List CV)) (k : List (List UInt8 × List UInt8)) (vl vm : VV) (hl : SlV 2 l vl) (hm : SlV 2 m vm) (hR : RowsE l k) (hS : RowsE m k) (hk : k.length ≤ 1000000000) (h : Heap) : ∀ (d i : Nat) (s : List VV) (Q : Pst),
    i + d = k.length → s.length = 43 → s.getD 0 .undef = vl → s.getD 1 .undef = vm → s.getD 5 .undef = vi .i64 i →
    (∀ s', s'.length = 43 → Q (.exit 0) ⟨s', h⟩) → X F (.loop f23_1) ⟨s, h⟩ Q := by
  intro d
  induction d with
  | zero =>
    intro i s Q hi hs h0 h1 h5 hQ
    rw [X_loop, X_eq f23_1.eq_1]
    have hlt : ¬ (i : Int) < (l.length : Int) := by rw [hR.len]; omega
    simp only [go_sem, Nat.reduceLT, Nat.reduceEqDiff, reduceCtorEq, Int.reduceLT, Int.reduceEq, hs, h0, h5, hl.ln, hlt]
    exact hQ _ (by simp only [slot_len, hs])
  | succ d ih =>
    intro i s Q hi hs h0 h1 h5 hQ
    rw [X_loop, X_eq f23_1.eq_1]
    have hlt : (i : Int) < (l.length : Int) := by rw [hR.len]; omega
    obtain ⟨e, p, g1, g2, c, rfl, hc⟩ := hR.get (i := i) (by omega)
    obtain ⟨e', p', g3, g4, c', rfl, hc'⟩ := hS.get (i := i) (by omega)
    rw [g2] at g4; cases g4
    have hia : ∀ h : Heap, iaO h 2 vl (vi .i64 (i : Int)) = some (.rptr [.sc (.string ⟨p.1.toArray⟩), c], h) := fun h => hl.ia (by omega) (by exact g1)
    have hib : ∀ h : Heap, iaO h 2 vm (vi .i64 (i : Int)) = some (.rptr [.sc (.string ⟨p.1.toArray⟩), c'], h) := fun h => hm.ia (by omega) (by exact g3)
    have e5 : IntKind.i64.wrap ((i : Int) + 1) = ((i + 1 : Nat) : Int) := by rw [IntWalk.i64_in _ (by omega)]; omega
    simp only [go_sem, Nat.reduceLT, Nat.reduceEqDiff, reduceCtorEq, Int.reduceLT, Int.reduceEq, hs, h0, h5, hl.ln, hlt]
    refine X_draw rfl ?_
    have hne : decide (p.1 ≠ p.1) = false := by simp
    have hne2 : decide (p.2 ≠ p.2) = false := by simp
    simp only [go_sem, Nat.reduceLT, Nat.reduceEqDiff, reduceCtorEq, Int.reduceLT, Int.reduceEq, hs, h0, h1, h5, hia, hib, hc.bs, hc'.bs, e5]
    exact ih (i + 1) _ Q (by omega) (by simp only [slot_len, hs]) (by simp only [go_sem, Nat.reduceLT, Nat.reduceEqDiff, reduceCtorEq, Int.reduceLT, Int.reduceEq, h0]) (by simp only [go_sem, Nat.reduceLT, Nat.reduceEqDiff, reduceCtorEq, Int.reduceLT, Int.reduceEq, h1]) (by simp only [go_sem, Nat.reduceLT, Nat.reduceEqDiff, reduceCtorEq, Int.reduceLT, Int.reduceEq, hs]) hQ

theorem same_f23 (l m : List (List CV)) (k : List (List UInt8 × List UInt8)) (vl vm : VV) (hl : SlV 2 l vl) (hm : SlV 2 m vm) (hR : RowsE l k) (hS : RowsE m k) (hk : k.length ≤ 1000000000) (h : Heap) :
    ∃ v h', call F 23 [vl, vm] h = some (.ret v, h') ∧ ValIs (vb true) v h' := by
  refine call_E (fn := f23) rfl ?_
  simp only [f23]
  generalize hs0 : ([vl, vm] ++ List.replicate _ VV.undef : List VV) = s
  have hs : s.length = 43 := by rw [← hs0]; rfl
  have h0 : s.getD 0 .undef = vl := by rw [← hs0]; rfl
  have h1 : s.getD 1 .undef = vm := by rw [← hs0]; rfl
  clear hs0
  simp only [go_sem, Nat.reduceLT, Nat.reduceEqDiff, reduceCtorEq, Int.reduceLT, Int.reduceEq, hs]
  rw [X_eq f23_0.eq_1]
  have hne : ((l.length : Int) ≠ (m.length : Int)) = False := by simp [hR.len, hS.len]
  simp only [go_sem, Nat.reduceLT, Nat.reduceEqDiff, reduceCtorEq, Int.reduceLT, Int.reduceEq, hs, h0, h1, hl.ln, hm.ln, hR.len, hS.len]
  refine f23_loop l m k vl vm hl hm hR hS hk h k.length 0 _ _ (by omega) (by simp only [slot_len, hs]) (by simp only [go_sem, Nat.reduceLT, Nat.reduceEqDiff, reduceCtorEq, Int.reduceLT, Int.reduceEq, h0]) (by simp only [go_sem, Nat.reduceLT, Nat.reduceEqDiff, reduceCtorEq, Int.reduceLT, Int.reduceEq, h1]) (by simp only [go_sem, Nat.reduceLT, Nat.reduceEqDiff, reduceCtorEq, Int.reduceLT, Int.reduceEq, hs]; rfl) ?_
  intro s' hs'
  simp only [go_sem, Nat.reduceLT, Nat.reduceEqDiff, reduceCtorEq, Int.reduceLT, Int.reduceEq, hs']
  rfl

end Go.V01

set_option linter.unusedSimpArgs false
set_option linter.unusedVariables false
namespace Go.V01
open Go Go.Vm

/-! ### what was put is got -/

def flatB (kv : List (List UInt8 × List UInt8)) : List UInt8 := (kv.map rowB).flatten
theorem flatB_cons {p : List UInt8 × List UInt8} {kv : List (List UInt8 × List UInt8)} : flatB (p :: kv) = rowB p ++ flatB kv := rfl
def rowCs (kv : List (List UInt8 × List UInt8)) : List (List CV) := kv.map fun p => rowC p.1 p.2
theorem rowCs_E : ∀ kv, RowsE (rowCs kv) kv
  | [] => .nil
  | p :: kv => .cons ⟨_, rfl, SlV.sl⟩ (rowCs_E kv)

theorem getRow_rowB (a r : List UInt8) (p : List UInt8 × List UInt8) (h1 : p.1.length ≤ 30) (h2 : p.2.length ≤ 150) : getRow (a ++ rowB p ++ r) a.length = (rowC p.1 p.2, a.length + (rowB p).length, 0) := by
  have e1 : getText (a ++ rowB p ++ r) a.length 30 = (p.1, a.length + (text p.1).length, 0) := by
    have := getText_text a (text p.2 ++ r) p.1 30 (by omega)
    rw [if_neg (by omega)] at this
    rw [← this]
    unfold rowB
    simp only [List.append_assoc]
  have e2 : getText (a ++ rowB p ++ r) ((a.length + (text p.1).length : Nat) : Int) 150 = (p.2, a.length + (text p.1).length + (text p.2).length, 0) := by
    have := getText_text (a ++ text p.1) r p.2 150 (by omega)
    rw [if_neg (by omega)] at this
    rw [List.length_append] at this
    rw [← this]
    unfold rowB
    simp only [List.append_assoc]
  unfold getRow
  rw [e1]
  simp only [ne_eq, not_true_eq_false, if_false]
  rw [e2]
  simp only [rowB, List.length_append, Nat.add_assoc]

/-- Rows that may be. -/
def Fits (kv : List (List UInt8 × List UInt8)) : Prop := ∀ p ∈ kv, p.1.length ≤ 30 ∧ p.2.length ≤ 150

theorem wholeF_rows : ∀ (kv : List (List UInt8 × List UInt8)) (a r : List UInt8) (out : List (List CV)), Fits kv →
    wholeF (getRow (a ++ flatB kv ++ r)) kv.length a.length out = (out ++ rowCs kv, a.length + (flatB kv).length, 0)
  | [], a, r, out, _ => by simp [wholeF, rowCs, flatB]
  | p :: kv, a, r, out, h => by
    obtain ⟨h1, h2⟩ := h p (by simp)
    have e1 : getRow (a ++ flatB (p :: kv) ++ r) a.length = (rowC p.1 p.2, a.length + (rowB p).length, 0) := by
      have := getRow_rowB a (flatB kv ++ r) p h1 h2
      rw [← this, flatB_cons]
      simp only [List.append_assoc]
    have e2 := wholeF_rows kv (a ++ rowB p) r (out ++ [rowC p.1 p.2]) (fun q hq => h q (by simp [hq]))
    rw [List.length_append] at e2
    simp only [List.length_cons, wholeF]
    rw [e1]
    simp only [ne_eq, not_true_eq_false, if_false]
    have e3 : a ++ flatB (p :: kv) ++ r = a ++ rowB p ++ flatB kv ++ r := by rw [flatB_cons]; simp only [List.append_assoc]
    rw [e3, e2]
    simp only [rowCs, List.map_cons, flatB_cons, List.length_append, List.append_assoc, List.singleton_append, Nat.add_assoc]

theorem wholeB_rows (kv : List (List UInt8 × List UInt8)) (hf : Fits kv) (hk : kv.length ≤ 5000) : wholeB (getRow (rowsB kv)) (rowsB kv) = (rowCs kv, 0) := by
  have hc : clamp (kv.length : Int) = kv.length := clamp_of _ (by omega)
  have e0 : rowsB kv = num kv.length ++ flatB kv ++ [] := by unfold rowsB; rw [hc]; simp [flatB]
  have e1 : getNum (rowsB kv) 0 = (kv.length, (num kv.length).length, 0) := by
    rw [e0]
    have := getNum_num [] (flatB kv ++ []) kv.length (by omega)
    simpa using this
  have e2 := wholeF_rows kv (num kv.length) [] [] hf
  rw [← e0] at e2
  unfold wholeB
  rw [e1]
  simp only [ne_eq, not_true_eq_false, if_false]
  rw [if_neg (by omega), e2]
  have e4 : ¬ (num kv.length).length + (flatB kv).length < (rowsB kv).length := by rw [e0]; simp
  simp only [List.nil_append, not_true_eq_false, if_false, e4]

theorem rowL_fits : ∀ n c, Fits (rowL n c)
  | 0, _ => by intro p hp; simp [rowL] at hp
  | n + 1, [] => by intro p hp; simp [rowL] at hp
  | n + 1, [_] => by intro p hp; simp [rowL] at hp
  | n + 1, x :: y :: r => by
    intro p hp
    simp only [rowL, List.mem_cons] at hp
    rcases hp with rfl | hp
    · have := rowV_len x y
      exact ⟨by simp [rowK], by simp only; omega⟩
    · exact rowL_fits n r p hp

theorem rowB_len (p : List UInt8 × List UInt8) (h : p.1.length ≤ 30 ∧ p.2.length ≤ 150) : (rowB p).length ≤ 200 := by
  unfold rowB text
  have h1 := num_len p.1.length
  have h2 := num_len p.2.length
  simp only [List.length_append]; omega
theorem flatB_len : ∀ kv, Fits kv → (flatB kv).length ≤ 200 * kv.length
  | [], _ => by simp [flatB]
  | p :: kv, h => by
    have h1 := rowB_len p (h p (by simp))
    have h2 := flatB_len kv (fun q hq => h q (by simp [hq]))
    rw [flatB_cons, List.length_append, List.length_cons]; omega
theorem rowsB_len (kv : List (List UInt8 × List UInt8)) (h : Fits kv) : (rowsB kv).length ≤ 8 + 200 * kv.length := by
  have h1 := flatB_len kv h
  have h2 := num_len kv.length
  unfold rowsB
  unfold flatB at h1
  rw [List.length_append]; omega

/-! ### slices that may be written no more -/

def BufF (h : Heap) (z : Nat) (els : List (List CV)) (v : VV) : Prop := (els = [] ∧ v = nilS) ∨ (∃ id g fr, els ≠ [] ∧ v = .own id g 0 els.length false ∧ h[id]? = some (.arr z els g fr))
theorem bufF_of {h : Heap} {z : Nat} {els : List (List CV)} {v : VV} (hb : BufG h z els v) : BufF h z els v := by
  rcases hb with hb | ⟨id, g, h1, h2, h3⟩
  · exact .inl hb
  · exact .inr ⟨id, g, false, h1, h2, h3⟩
theorem BufF.clos {h : Heap} {z : Nat} {els : List (List CV)} {v : VV} (hb : BufF h z els v) : ∃ h1, closA h v = some (slV z els, h1) ∧ BufF h1 z els v := by
  rcases hb with ⟨rfl, rfl⟩ | ⟨id, g, fr, h1, rfl, h3⟩
  · exact ⟨h, rfl, .inl ⟨rfl, rfl⟩⟩
  · have hid : id < h.length := (List.getElem?_eq_some_iff.1 h3).1
    refine ⟨h.set id (.arr z els g true), ?_, .inr ⟨id, g, true, h1, rfl, by rw [List.getElem?_set_self hid]⟩⟩
    simp [closA, Vm.clos, h3, slV, h1]
theorem BufF.ln {h : Heap} {z : Nat} {els : List (List CV)} {v : VV} (hb : BufF h z els v) : lnO false v = some (vi .i64 els.length) := by
  rcases hb with ⟨rfl, rfl⟩ | ⟨id, g, fr, h1, rfl, h3⟩ <;> rfl

theorem RowsE.set {l : List (List CV)} {k : List (List UInt8 × List UInt8)} (h : RowsE l k) : ∀ {i : Nat} {e : List CV} {p : List UInt8 × List UInt8}, k[i]? = some p → rowE e p → RowsE (l.set i e) k := by
  induction h with
  | nil => intro i e p hp; simp at hp
  | @cons e' p' l k h ht ih =>
    intro i e p hp he
    cases i with
    | zero => simp at hp; subst hp; exact .cons he ht
    | succ i => exact .cons h (ih (by simpa using hp) he)

theorem f6_loop (k : List (List UInt8 × List UInt8)) (hf : Fits k) (hk : k.length ≤ 100) : ∀ (d i : Nat) (els : List (List CV)) (h : Heap) (v : VV) (s : List VV) (Q : Pst),
    i + d = k.length → RowsE els k → BufG h 2 els v → s.length = 132 → s.getD 19 .undef = v → s.getD 20 .undef = vi .i64 i →
    (∀ s' h' els', s'.length = 132 → (∀ j, j < 20 → s'.getD j .undef = s.getD j .undef) → RowsE els' k → BufG h' 2 els' v → Q (.exit 0) ⟨s', h'⟩) → X F (.loop f6_1) ⟨s, h⟩ Q := by
  intro d
  induction d with
  | zero =>
    intro i els h v s Q hi hR hb hs h19 h20 hQ
    rw [X_loop, X_eq f6_1.eq_1]
    have hlt : ¬ (i : Int) < (els.length : Int) := by rw [hR.len]; omega
    simp only [go_sem, Nat.reduceLT, Nat.reduceEqDiff, reduceCtorEq, Int.reduceLT, Int.reduceEq, hs, h19, h20, hb.ln, hlt]
    refine hQ _ h els (by simp only [slot_len, hs]) (fun j hj => ?_) hR hb
    have : ∀ m, 20 ≤ m → m ≠ j := by omega
    simp only [slot_ne (this 68 (by decide)), slot_ne (this 69 (by decide)), slot_ne (this 70 (by decide)), slot_ne (this 71 (by decide))]
  | succ d ih =>
    intro i els h v s Q hi hR hb hs h19 h20 hQ
    rw [X_loop, X_eq f6_1.eq_1]
    have hlt : (i : Int) < (els.length : Int) := by rw [hR.len]; omega
    obtain ⟨e, p, g1, g2, c, rfl, hc⟩ := hR.get (i := i) (by omega)
    obtain ⟨f1, f2⟩ := hf p (List.mem_of_getElem? g2)
    have hne : els ≠ [] := by rintro rfl; simp at g1
    have ho := hb.own hne
    obtain ⟨q, q1, q2, q3⟩ := ho.at_ (i := i) (by omega)
    obtain ⟨q', r1, r2⟩ := q2 _ c 1 g1 rfl
    obtain ⟨q'', r3, r4⟩ := q3 _ 1 g1 (by simp)
    have hm : (min (p.2.length : Int) 150) = ((p.2.length : Nat) : Int) := by omega
    obtain ⟨v', hv', sl⟩ := hc.upto (h := h) (k := .i64) (b := ((p.2.length : Nat) : Int)) (by omega) (by rw [eB_len]; omega)
    rw [eB_take, show ((p.2.length : Nat) : Int).toNat = p.2.length from rfl, List.take_length] at hv'
    obtain ⟨c', rfl⟩ : ∃ c', v' = .cv c' := by
      rcases hv' with ⟨rfl, _⟩ | ⟨ex, rfl⟩ <;> exact ⟨_, rfl⟩
    have hq : q' = q'' := by rw [r1] at r3; cases r3; rfl
    subst hq
    obtain ⟨h', st, ho'⟩ := r4 c'
    have e5 : IntKind.i64.wrap ((i : Int) + 1) = ((i + 1 : Nat) : Int) := by rw [IntWalk.i64_in _ (by omega)]; omega
    simp only [go_sem, Nat.reduceLT, Nat.reduceEqDiff, reduceCtorEq, Int.reduceLT, Int.reduceEq, hs, h19, h20, hb.ln, hlt]
    refine X_draw rfl ?_
    simp only [go_sem, Nat.reduceLT, Nat.reduceEqDiff, reduceCtorEq, Int.reduceLT, Int.reduceEq, hs, h19, h20, q1, r1, r2, r3, hc.ln, eB_len, hm, sl, st, e5]
    have hR' : RowsE (els.set i ([CV.sc (.string ⟨p.1.toArray⟩), c].set 1 c')) k := hR.set g2 ⟨c', rfl, hv'⟩
    refine ih (i + 1) _ h' v _ Q (by omega) hR' (ho'.bufG ?_) (by simp only [slot_len, hs]) (by simp only [go_sem, Nat.reduceLT, Nat.reduceEqDiff, reduceCtorEq, Int.reduceLT, Int.reduceEq, h19]) (by simp only [go_sem, Nat.reduceLT, Nat.reduceEqDiff, reduceCtorEq, Int.reduceLT, Int.reduceEq, hs]) ?_
    · intro e0
      have := congrArg List.length e0
      rw [List.length_set, List.length_nil] at this
      exact hne (List.eq_nil_of_length_eq_zero this)
    · intro s' h' els' a1 a2 a3 a4
      refine hQ s' h' els' a1 (fun j hj => ?_) a3 a4
      rw [a2 j hj]
      have : ∀ m, 20 ≤ m → m ≠ j := by omega
      repeat rw [slot_ne (this _ (by decide))]

theorem law_back (n : Int) (l ahead : List UInt8) (va : VV) (hva : SlV 1 (eB ahead) va) (c : List UInt8) (vc : VV) (hvc : SlV 1 (eB c) vc) :
    ∃ h', call F 6 [vi .i64 n, txt l, va, vc] [] = some (.ret (vb true), h') := by
  obtain ⟨hk, hknown⟩ := known_f11
  refine call_V (fn := f6) rfl ?_
  simp only [f6]
  generalize hs0 : ([vi .i64 n, txt l, va, vc] ++ List.replicate _ VV.undef : List VV) = s
  have hs : s.length = 132 := by rw [← hs0]; rfl
  have h0 : s.getD 0 .undef = vi .i64 n := by rw [← hs0]; rfl
  have h1 : s.getD 1 .undef = txt l := by rw [← hs0]; rfl
  have h2 : s.getD 2 .undef = va := by rw [← hs0]; rfl
  have h3 : s.getD 3 .undef = vc := by rw [← hs0]; rfl
  clear hs0
  simp only [go_sem, Nat.reduceLT, Nat.reduceEqDiff, reduceCtorEq, Int.reduceLT, Int.reduceEq, hs]
  rw [X_eq f6_0.eq_1]
  by_cases c1 : (300 : Int) < (l.length : Int)
  · simp only [go_sem, Nat.reduceLT, Nat.reduceEqDiff, reduceCtorEq, Int.reduceLT, Int.reduceEq, hs, h1, eq_true c1]
    refine XO_callP clos_nil hknown res_cv ?_
    simp only [go_sem, Nat.reduceLT, Nat.reduceEqDiff, reduceCtorEq, Int.reduceLT, Int.reduceEq, hs]
    exact rfl
  · by_cases c2 : (300 : Int) < (ahead.length : Int)
    · simp only [go_sem, Nat.reduceLT, Nat.reduceEqDiff, reduceCtorEq, Int.reduceLT, Int.reduceEq, hs, h1, h2, c1, hva.ln, eB_len, eq_true c2]
      refine XO_callP clos_nil hknown res_cv ?_
      simp only [go_sem, Nat.reduceLT, Nat.reduceEqDiff, reduceCtorEq, Int.reduceLT, Int.reduceEq, hs]
      exact rfl
    · have hl : l.length ≤ 300 := by omega
      have ha : ahead.length ≤ 300 := by omega
      have ec : max 0 (min n 9007199254740992) = ((clamp n : Nat) : Int) := by unfold clamp; omega
      have hn := num_len n
      have hT : (text l).length ≤ 400 := by
        unfold text
        have := num_len l.length
        simp only [List.length_append]; omega
      simp only [go_sem, Nat.reduceLT, Nat.reduceEqDiff, reduceCtorEq, Int.reduceLT, Int.reduceEq, hs, h0, h1, h2, c1, hva.ln, eB_len, c2, ec]
      refine XO_appG (BufG.nil [] 1) (new := eB ahead) (by simp only [go_sem, Nat.reduceLT, Nat.reduceEqDiff, reduceCtorEq, Int.reduceLT, Int.reduceEq, hs]) (by simp only [go_sem, Nat.reduceLT, Nat.reduceEqDiff, reduceCtorEq, Int.reduceLT, Int.reduceEq, hs]; exact hva.src) (by simp only [eB_len, List.length_nil]; omega) (by simp only [eB_len, List.length_nil]; omega) (fun v5 g5 hb5 _ _ => ?_)
      rw [List.nil_append] at hb5
      obtain ⟨w1, x1, hc1, hr1⟩ := num_pure n
      obtain ⟨w2, x2, hc2, hr2⟩ := text_pure l (by omega)
      simp only [go_sem, Nat.reduceLT, Nat.reduceEqDiff, reduceCtorEq, Int.reduceLT, Int.reduceEq, hs, h0, h1]
      refine XO_callP (by simp only [List.map, go_sem, Nat.reduceLT, Nat.reduceEqDiff, reduceCtorEq, Int.reduceLT, Int.reduceEq, hs]; exact clos_cv clos_nil) hc1 hr1 ?_
      simp only [go_sem, Nat.reduceLT, Nat.reduceEqDiff, reduceCtorEq, Int.reduceLT, Int.reduceEq, hs, h1]
      refine XO_callP (by simp only [List.map, go_sem, Nat.reduceLT, Nat.reduceEqDiff, reduceCtorEq, Int.reduceLT, Int.reduceEq, hs]; exact clos_cv clos_nil) hc2 hr2 ?_
      simp only [go_sem, Nat.reduceLT, Nat.reduceEqDiff, reduceCtorEq, Int.reduceLT, Int.reduceEq, hs]
      refine XO_appG hb5 (new := eB (num (clamp n))) (by simp only [go_sem, Nat.reduceLT, Nat.reduceEqDiff, reduceCtorEq, Int.reduceLT, Int.reduceEq, hs]) (by simp only [go_sem, Nat.reduceLT, Nat.reduceEqDiff, reduceCtorEq, Int.reduceLT, Int.reduceEq, hs]) (by simp only [eB_len]; omega) (by simp only [eB_len]; omega) (fun v6 g6 hb6 _ _ => ?_)
      rw [← eB_append] at hb6
      simp only [go_sem, Nat.reduceLT, Nat.reduceEqDiff, reduceCtorEq, Int.reduceLT, Int.reduceEq, hs]
      refine XO_appG hb6 (new := eB (text l)) (by simp only [go_sem, Nat.reduceLT, Nat.reduceEqDiff, reduceCtorEq, Int.reduceLT, Int.reduceEq, hs]) (by simp only [go_sem, Nat.reduceLT, Nat.reduceEqDiff, reduceCtorEq, Int.reduceLT, Int.reduceEq, hs]) (by simp only [eB_len, List.length_append]; omega) (by simp only [eB_len, List.length_append]; omega) (fun v7 g7 hb7 _ _ => ?_)
      rw [← eB_append] at hb7
      simp only [go_sem, Nat.reduceLT, Nat.reduceEqDiff, reduceCtorEq, Int.reduceLT, Int.reduceEq, hs, h1, h2, hva.ln, eB_len]
      obtain ⟨g8, e8, hb8⟩ := (bufF_of hb7).clos
      obtain ⟨g9, e9, hb9⟩ := hb8.clos
      have q1 := getNum_num ahead (text l) (clamp n) (clamp_le n)
      refine XO_callP (by simp only [List.map, go_sem, Nat.reduceLT, Nat.reduceEqDiff, reduceCtorEq, Int.reduceLT, Int.reduceEq, hs]; exact closAs_cons e8 (clos_cv clos_nil)) (num_f13 _ _ slV_SlV ahead.length [] (by simp only [List.length_append]; omega)) rfl ?_
      rw [q1]
      simp only [go_sem, Nat.reduceLT, Nat.reduceEqDiff, reduceCtorEq, Int.reduceLT, Int.reduceEq, hs, h1]
      have q2 := getText_text (ahead ++ num (clamp n)) [] l l.length (by omega)
      rw [if_neg (by omega), List.append_nil, List.length_append] at q2
      refine XO_callP (by simp only [List.map, go_sem, Nat.reduceLT, Nat.reduceEqDiff, reduceCtorEq, Int.reduceLT, Int.reduceEq, hs]; exact closAs_cons e9 (clos_cv (clos_cv clos_nil))) (text_f15 _ _ slV_SlV ((ahead.length + (num (clamp n)).length : Nat) : Int) l.length [] (by simp only [List.length_append]; omega)) rfl ?_
      rw [q2]
      simp only [go_sem, Nat.reduceLT, Nat.reduceEqDiff, reduceCtorEq, Int.reduceLT, Int.reduceEq, hs, h3]
      obtain ⟨w3, g10, hc3, els, hb3, hR3⟩ := list_f17 c vc hvc 10 (by omega) g9
      refine XO_callR (v := w3) (h' := g10) (by simp only [List.map, go_sem, Nat.reduceLT, Nat.reduceEqDiff, reduceCtorEq, Int.reduceLT, Int.reduceEq, hs]; exact hc3) ?_
      have hf := rowL_fits 10 c
      have hk10 := rowL_len 10 c
      simp only [go_sem, Nat.reduceLT, Nat.reduceEqDiff, reduceCtorEq, Int.reduceLT, Int.reduceEq, hs]
      refine f6_loop (rowL 10 c) hf (by omega) (rowL 10 c).length 0 els g10 w3 _ _ (by omega) hR3 hb3 (by simp only [slot_len, hs]) (by simp only [go_sem, Nat.reduceLT, Nat.reduceEqDiff, reduceCtorEq, Int.reduceLT, Int.reduceEq, hs]) (by simp only [go_sem, Nat.reduceLT, Nat.reduceEqDiff, reduceCtorEq, Int.reduceLT, Int.reduceEq, hs]; rfl) ?_
      intro s' g11 els' hs' hj hR' hb'
      have k1 : s'.getD 1 .undef = txt l := by rw [hj 1 (by decide)]; simp only [go_sem, Nat.reduceLT, Nat.reduceEqDiff, reduceCtorEq, Int.reduceLT, Int.reduceEq, h1]
      have k9 : s'.getD 9 .undef = vi .i64 (clamp n) := by rw [hj 9 (by decide)]; simp only [go_sem, Nat.reduceLT, Nat.reduceEqDiff, reduceCtorEq, Int.reduceLT, Int.reduceEq, hs]
      have k10 : s'.getD 10 .undef = v7 := by rw [hj 10 (by decide)]; simp only [go_sem, Nat.reduceLT, Nat.reduceEqDiff, reduceCtorEq, Int.reduceLT, Int.reduceEq, hs]
      have k13 : s'.getD 13 .undef = vi .i64 (clamp n) := by rw [hj 13 (by decide)]; simp only [go_sem, Nat.reduceLT, Nat.reduceEqDiff, reduceCtorEq, Int.reduceLT, Int.reduceEq, hs]
      have k15 : s'.getD 15 .undef = vi .u16 0 := by rw [hj 15 (by decide)]; simp only [go_sem, Nat.reduceLT, Nat.reduceEqDiff, reduceCtorEq, Int.reduceLT, Int.reduceEq, hs]; rfl
      have k16 : s'.getD 16 .undef = txt l := by rw [hj 16 (by decide)]; simp only [go_sem, Nat.reduceLT, Nat.reduceEqDiff, reduceCtorEq, Int.reduceLT, Int.reduceEq, hs]
      have k17 : s'.getD 17 .undef = vi .i64 ((ahead.length + (num (clamp n)).length + (text l).length : Nat) : Int) := by rw [hj 17 (by decide)]; simp only [go_sem, Nat.reduceLT, Nat.reduceEqDiff, reduceCtorEq, Int.reduceLT, Int.reduceEq, hs]
      have k18 : s'.getD 18 .undef = vi .u16 0 := by rw [hj 18 (by decide)]; simp only [go_sem, Nat.reduceLT, Nat.reduceEqDiff, reduceCtorEq, Int.reduceLT, Int.reduceEq, hs]; rfl
      have k19 : s'.getD 19 .undef = w3 := by rw [hj 19 (by decide)]; simp only [go_sem, Nat.reduceLT, Nat.reduceEqDiff, reduceCtorEq, Int.reduceLT, Int.reduceEq, hs]
      clear hj hs h0 h1 h2 h3
      obtain ⟨g12, e12, hb12⟩ := (bufF_of hb').clos
      obtain ⟨g13, e13, hb13⟩ := hb12.clos
      obtain ⟨w4, g14, hc4, hb4⟩ := rows_f20 els' (rowL 10 c) (slV 2 els') slV_SlV hR' [] (by have := rowsB_len _ hf; omega) (by omega)
      simp only [go_sem, Nat.reduceLT, Nat.reduceEqDiff, reduceCtorEq, Int.reduceLT, Int.reduceEq, hs', k19]
      refine XO_callP (by simp only [List.map, go_sem, Nat.reduceLT, Nat.reduceEqDiff, reduceCtorEq, Int.reduceLT, Int.reduceEq, hs']; exact closAs_cons e12 clos_nil) hc4 hb4.close ?_
      simp only [go_sem, Nat.reduceLT, Nat.reduceEqDiff, reduceCtorEq, Int.reduceLT, Int.reduceEq, hs']
      obtain ⟨w5, g15, hc5, hr5⟩ := rows_f22 (rowsB (rowL 10 c)) _ slV_SlV (by have := rowsB_len _ hf; omega)
      rw [wholeB_rows _ hf (by omega)] at hr5
      refine XO_callP (h1 := g12) (by simp only [List.map, go_sem, Nat.reduceLT, Nat.reduceEqDiff, reduceCtorEq, Int.reduceLT, Int.reduceEq, hs']; exact slV_SlV.clos clos_nil) hc5 hr5 ?_
      simp only [go_sem, Nat.reduceLT, Nat.reduceEqDiff, reduceCtorEq, Int.reduceLT, Int.reduceEq, hs', k19]
      obtain ⟨w6, g16, hc6, hr6⟩ := same_f23 els' (rowCs (rowL 10 c)) (rowL 10 c) (slV 2 els') (slV 2 (rowCs (rowL 10 c))) slV_SlV slV_SlV hR' (rowCs_E _) (by omega) []
      unfold ValIs at hr6
      subst hr6
      refine XO_callP (by simp only [List.map, go_sem, Nat.reduceLT, Nat.reduceEqDiff, reduceCtorEq, Int.reduceLT, Int.reduceEq, hs', k19]; exact closAs_cons e13 (slV_SlV.clos clos_nil)) hc6 res_cv ?_
      simp only [go_sem, Nat.reduceLT, Nat.reduceEqDiff, reduceCtorEq, Int.reduceLT, Int.reduceEq, hs']
      refine XO_callP clos_nil hknown res_cv ?_
      have el : lnO false v7 = some (vi .i64 ((ahead.length + (num (clamp n)).length + (text l).length : Nat) : Int)) := by
        rw [hb7.ln, eB_len]; simp only [List.length_append]
      have z0 : ((0 : Nat) : Int) = 0 := rfl
      simp only [go_sem, Nat.reduceLT, Nat.reduceEqDiff, reduceCtorEq, Int.reduceLT, Int.reduceEq, hs', k1, k9, k10, k13, k15, k16, k17, k18, el, z0]
      exact rfl

theorem back_in {H : Type} {d0 d1 d2 d3 : DataW H} {u0 u1 u2 u3 : VV} (h0 : DV Proofs.Try.prog 3 d0 u0) (h1 : DV Proofs.Try.prog 9 d1 u1) (h2 : DV Proofs.Try.prog 23 d2 u2) (h3 : DV Proofs.Try.prog 23 d3 u3) : ∃ h', call F 6 [u0, u1, u2, u3] [] = some (.ret (vb true), h') := by
  obtain ⟨n, rfl, _⟩ := DV_i64 Proofs.Try.underlying3 h0
  obtain ⟨l, rfl, _⟩ := DV_str Proofs.Try.underlying9 h1
  obtain ⟨a, ha, _⟩ := DV_bytes Proofs.Try.underlying23 Proofs.Try.underlying5 (by kernel_rfl) h2
  obtain ⟨c, hc, _⟩ := DV_bytes Proofs.Try.underlying23 Proofs.Try.underlying5 (by kernel_rfl) h3
  exact law_back n l a u2 ha c u3 hc

end Go.V01

set_option linter.unusedSimpArgs false
set_option linter.unusedVariables false
namespace Go.V01
open Go Go.Vm

/-! ### more than may be -/

def repB : Nat → List UInt8
  | 0 => []
  | m + 1 => 0 :: 1 :: repB m
theorem repB_snoc : ∀ m, repB m ++ [0, 1] = repB (m + 1)
  | 0 => rfl
  | m + 1 => by
    have := repB_snoc m
    simp only [repB, List.cons_append] at this ⊢
    rw [this]
theorem repB_len : ∀ m, (repB m).length = 2 * m
  | 0 => rfl
  | m + 1 => by simp only [repB, List.length_cons, repB_len m]; omega

theorem getCh_gone (a r : List UInt8) : getCh (a ++ [0, 1] ++ r) a.length = (chC [] (.sc (.slice none 0 0)) true, a.length + 2, 0) := by
  have e1 : getText (a ++ [0, 1] ++ r) a.length 30 = ([], a.length + 1, 0) := by
    have := getText_text a (1 :: r) [] 30 (by simp)
    rw [if_neg (by simp)] at this
    rw [show (text []).length = 1 from rfl] at this
    rw [← this, show text [] = [0] from rfl]
    simp only [List.append_assoc, List.cons_append, List.nil_append]
  have e2 : (a ++ [0, 1] ++ r)[a.length + 1]? = some 1 := by
    rw [List.append_assoc, List.getElem?_append_right (by omega)]
    simp
  unfold getCh
  rw [e1]
  simp only [ne_eq, not_true_eq_false, if_false, e2]
  rw [if_pos (by decide)]

theorem wholeF_gone : ∀ (m : Nat) (a r : List UInt8) (out : List (List CV)), (wholeF (getCh (a ++ repB m ++ r)) m a.length out).2 = (a.length + 2 * m, 0)
  | 0, a, r, out => by simp [wholeF]
  | m + 1, a, r, out => by
    have e1 : getCh (a ++ repB (m + 1) ++ r) a.length = (chC [] (.sc (.slice none 0 0)) true, a.length + 2, 0) := by
      rw [← getCh_gone a (repB m ++ r)]
      simp only [repB, List.append_assoc, List.cons_append, List.nil_append]
    have e2 := wholeF_gone m (a ++ [0, 1]) r (out ++ [chC [] (.sc (.slice none 0 0)) true])
    rw [List.length_append] at e2
    simp only [wholeF]
    rw [e1]
    simp only [ne_eq, not_true_eq_false, if_false]
    have e3 : a ++ repB (m + 1) ++ r = a ++ [0, 1] ++ repB m ++ r := by simp only [repB, List.append_assoc, List.cons_append, List.nil_append]
    rw [e3]
    rw [show a.length + ([0, 1] : List UInt8).length = a.length + 2 from rfl] at e2
    rw [e2]
    congr 1
    omega

theorem wholeB_gone (m : Nat) (hm : m ≤ 6000) : (wholeB (getCh (num m ++ repB m)) (num m ++ repB m)).2 = if 5000 < m then 3 else 0 := by
  have e1 : getNum (num m ++ repB m) 0 = (m, (num m).length, 0) := by
    have := getNum_num [] (repB m) m (by omega)
    simpa using this
  unfold wholeB
  rw [e1]
  simp only [ne_eq, not_true_eq_false, if_false]
  by_cases h : 5000 < m
  · rw [if_pos h, if_pos h]
  · rw [if_neg h, if_neg h]
    have e2 := wholeF_gone m (num m) [] []
    rw [List.append_nil] at e2
    rw [e2]
    have e3 : ¬ (num m).length + 2 * m < (num m ++ repB m).length := by rw [List.length_append, repB_len]; omega
    simp only [not_true_eq_false, if_false, e3]

theorem wholeB_err {get : Int → List CV × Nat × Nat} {b : List UInt8} {n a e : Nat} (h : getNum b 0 = (n + 1, a, 0)) (hn : n + 1 ≤ 5000) (he : (get a).2.2 = e) (hne : e ≠ 0) : (wholeB get b).2 = e := by
  unfold wholeB
  rw [h]
  have h5 : ¬ 5000 < n + 1 := by omega
  simp only [wholeF, he, hne, h5, ne_eq, not_true_eq_false, not_false_eq_true, if_false, if_true]

theorem wholeB_one (p : List UInt8 × List UInt8) (h1 : p.1.length ≤ 1000) (h2 : p.2.length ≤ 1000) : (wholeB (getRow (rowsB [p])) (rowsB [p])).2 = if 30 < p.1.length ∨ 150 < p.2.length then 3 else 0 := by
  by_cases hf : 30 < p.1.length ∨ 150 < p.2.length
  · rw [if_pos hf]
    have e0 : rowsB [p] = [1] ++ rowB p ++ [] := by
      unfold rowsB
      simp only [List.map_cons, List.map_nil, List.flatten_cons, List.flatten_nil, List.append_nil]
      rfl
    have e1 : getNum (rowsB [p]) 0 = (1, 1, 0) := by
      rw [e0]
      have := getNum_num [] (rowB p) 1 (by omega)
      rw [show num 1 = [1] from rfl] at this
      simpa using this
    have e2 : (getRow (rowsB [p]) (1 : Nat)).2.2 = 3 := by
      have t1 := getText_text [1] (text p.2) p.1 30 (by omega)
      have t2 := getText_text ([1] ++ text p.1) [] p.2 150 (by omega)
      have b1 : rowsB [p] = [1] ++ text p.1 ++ text p.2 := by rw [e0]; simp only [rowB, List.append_assoc, List.append_nil]
      rw [List.append_nil] at t2
      unfold getRow
      rw [b1]
      rw [show (([1] : List UInt8).length : Int) = ((1 : Nat) : Int) from rfl] at t1
      rw [t1]
      by_cases hk : 30 < p.1.length
      · rw [if_pos (show (30 : Int) < (p.1.length : Int) by omega)]
        rfl
      · rw [if_neg (show ¬ (30 : Int) < (p.1.length : Int) by omega)]
        simp only [ne_eq, not_true_eq_false, if_false]
        rw [show ([1] : List UInt8).length + (text p.1).length = ([1] ++ text p.1).length by simp [Nat.add_comm], t2]
        rw [if_pos (show (150 : Int) < (p.2.length : Int) by omega)]
    exact wholeB_err (n := 0) e1 (by omega) e2 (by decide)
  · rw [if_neg hf, wholeB_rows]
    · intro q hq
      simp only [List.mem_singleton] at hq
      subst hq
      omega
    · simp

theorem f7_loop (n : UInt8) (M : Nat) (hM : M ≤ 6000) (hMn : IntKind.i64.wrap (4990 + IntKind.i64.wrap ((n.toNat : Int).tmod 20)) = (M : Int)) (out : List UInt8) (ho : out.length ≤ 100) (k v : VV) : ∀ (d i : Nat) (h : Heap) (w : VV) (s : List VV) (Q : Pst), i + d = M →
    s.length = 90 → s.getD 0 .undef = vi .u8 n.toNat → s.getD 1 .undef = k → s.getD 2 .undef = v → s.getD 7 .undef = w → s.getD 8 .undef = vi .i64 i → BufG h 1 (eB (out ++ repB i)) w →
    (∀ s' h' w', s'.length = 90 → s'.getD 0 .undef = vi .u8 n.toNat → s'.getD 1 .undef = k → s'.getD 2 .undef = v → s'.getD 7 .undef = w' → BufG h' 1 (eB (out ++ repB M)) w' → Q (.exit 0) ⟨s', h'⟩) →
    X F (.loop f7_0) ⟨s, h⟩ Q := by
  intro d
  induction d with
  | zero =>
    intro i h w s Q hi hs h0 h1 h2 h7 h8 hb hQ
    rw [X_loop, X_eq f7_0.eq_1]
    have hlt : ¬ (i : Int) < (M : Int) := by omega
    have e : i = M := by omega
    subst e
    simp only [go_sem, Nat.reduceLT, Nat.reduceEqDiff, reduceCtorEq, Int.reduceLT, Int.reduceEq, hs, h0, h8, hMn, hlt]
    exact hQ _ h w (by simp only [slot_len, hs]) (by simp only [go_sem, Nat.reduceLT, Nat.reduceEqDiff, reduceCtorEq, Int.reduceLT, Int.reduceEq, h0]) (by simp only [go_sem, Nat.reduceLT, Nat.reduceEqDiff, reduceCtorEq, Int.reduceLT, Int.reduceEq, h1]) (by simp only [go_sem, Nat.reduceLT, Nat.reduceEqDiff, reduceCtorEq, Int.reduceLT, Int.reduceEq, h2]) (by simp only [go_sem, Nat.reduceLT, Nat.reduceEqDiff, reduceCtorEq, Int.reduceLT, Int.reduceEq, h7]) hb
  | succ d ih =>
    intro i h w s Q hi hs h0 h1 h2 h7 h8 hb hQ
    rw [X_loop, X_eq f7_0.eq_1]
    have hlt : (i : Int) < (M : Int) := by omega
    have e5 : IntKind.i64.wrap ((i : Int) + 1) = ((i + 1 : Nat) : Int) := by rw [IntWalk.i64_in _ (by omega)]; omega
    have hl := repB_len i
    simp only [go_sem, Nat.reduceLT, Nat.reduceEqDiff, reduceCtorEq, Int.reduceLT, Int.reduceEq, hs, h0, h7, h8, hMn, hlt]
    refine XO_appG hb (new := eB [0, 1]) (by simp only [go_sem, Nat.reduceLT, Nat.reduceEqDiff, reduceCtorEq, Int.reduceLT, Int.reduceEq, hs]) (by simp only [go_sem, Nat.reduceLT, Nat.reduceEqDiff, reduceCtorEq, Int.reduceLT, Int.reduceEq, hs]; rfl) (by simp only [eB_len, List.length_append]; simp; omega) (by simp only [eB_len, List.length_append]; simp; omega) (fun v' h' hb' _ _ => ?_)
    rw [← eB_append, List.append_assoc, repB_snoc] at hb'
    simp only [go_sem, Nat.reduceLT, Nat.reduceEqDiff, reduceCtorEq, Int.reduceLT, Int.reduceEq, hs, h8, e5]
    exact ih (i + 1) h' v' _ Q (by omega) (by simp only [slot_len, hs]) (by simp only [go_sem, Nat.reduceLT, Nat.reduceEqDiff, reduceCtorEq, Int.reduceLT, Int.reduceEq, h0]) (by simp only [go_sem, Nat.reduceLT, Nat.reduceEqDiff, reduceCtorEq, Int.reduceLT, Int.reduceEq, h1]) (by simp only [go_sem, Nat.reduceLT, Nat.reduceEqDiff, reduceCtorEq, Int.reduceLT, Int.reduceEq, h2]) (by simp only [go_sem, Nat.reduceLT, Nat.reduceEqDiff, reduceCtorEq, Int.reduceLT, Int.reduceEq, hs]) (by simp only [go_sem, Nat.reduceLT, Nat.reduceEqDiff, reduceCtorEq, Int.reduceLT, Int.reduceEq, hs]) hb' hQ

theorem mk_agg2_own {hh : Heap} {z0 z1 : VV} {u : CV} {els : List (List CV)} {n : Nat} (hn : els.length = n) :
    mkO (hh ++ [.arr 1 els 0 false]) 2 1 [z0, z1] [(0, 2, .agg [.cv u, .own hh.length 0 0 n true])] = some (.cv (.sl 2 [[u, .sl 1 els true]] true), hh ++ [.arr 1 els 0 true]) := by
  have e1 : fill [z0, z1] [(0, 2, .agg [.cv u, .own hh.length 0 0 n true])] = some [.cv u, .own hh.length 0 0 n true] := rfl
  have e2 : closL (hh ++ [.arr 1 els 0 false]) [.cv u, .own hh.length 0 0 n true] = some ([u, .sl 1 els true], hh ++ [.arr 1 els 0 true]) := by
    have e3 : ∀ (h : Heap) (c : CV), clos h (.cv c) = some (c, h) := fun _ _ => rfl
    simp only [closL, e3, clos_last hn]
  simp only [mkO, e1, e2]
  rfl
theorem bs_own {hh : Heap} {o : VO} {l : List UInt8} {n : Nat} (hn : l.length = n) : bsO (hh ++ [.arr 1 (eB l) 0 false] ++ [o]) (.own hh.length 0 0 n true) = some (txt l) := by
  subst hn
  refine bs_els ?_
  have : (hh ++ [VO.arr 1 (eB l) 0 false] ++ [o])[hh.length]? = some (.arr 1 (eB l) 0 false) := by simp
  have e : List.take l.length (eB l) = eB l := List.take_of_length_le (by rw [eB_len]; exact Nat.le_refl _)
  simp [elsOf, this, eB_len, e]

theorem law_many (n k v : UInt8) : ∃ h', call F 7 [vi .u8 n.toNat, vi .u8 k.toNat, vi .u8 v.toNat] [] = some (.ret (vb true), h') := by
  obtain ⟨hk, hknown⟩ := known_f11
  refine call_V (fn := f7) rfl ?_
  simp only [f7]
  generalize hs0 : ([vi .u8 n.toNat, vi .u8 k.toNat, vi .u8 v.toNat] ++ List.replicate _ VV.undef : List VV) = s
  have hs : s.length = 90 := by rw [← hs0]; rfl
  have h0 : s.getD 0 .undef = vi .u8 n.toNat := by rw [← hs0]; rfl
  have h1 : s.getD 1 .undef = vi .u8 k.toNat := by rw [← hs0]; rfl
  have h2 : s.getD 2 .undef = vi .u8 v.toNat := by rw [← hs0]; rfl
  clear hs0
  have hn8 := n.toNat_lt
  have hk8 := k.toNat_lt
  have hv8 := v.toNat_lt
  have n20 : (n.toNat : Int).tmod 20 = ((n.toNat % 20 : Nat) : Int) := rfl
  have eM : IntKind.i64.wrap (4990 + IntKind.i64.wrap ((n.toNat : Int).tmod 20)) = ((4990 + n.toNat % 20 : Nat) : Int) := by
    have : IntKind.i64.wrap ((n.toNat % 20 : Nat) : Int) = ((n.toNat % 20 : Nat) : Int) := IntWalk.i64_in _ (by omega)
    rw [n20, this, IntWalk.i64_in _ (by omega)]; omega
  obtain ⟨w1, g1, hc1, hb1⟩ := num_f12 ((4990 + n.toNat % 20 : Nat) : Int) []
  rw [clamp_of _ (by omega)] at hb1
  simp only [go_sem, Nat.reduceLT, Nat.reduceEqDiff, reduceCtorEq, Int.reduceLT, Int.reduceEq, hs, h0, eM]
  refine XO_callR (by simp only [List.map, go_sem, Nat.reduceLT, Nat.reduceEqDiff, reduceCtorEq, Int.reduceLT, Int.reduceEq, hs]; exact hc1) ?_
  simp only [go_sem, Nat.reduceLT, Nat.reduceEqDiff, reduceCtorEq, Int.reduceLT, Int.reduceEq, hs]
  have hnl := num_len ((4990 + n.toNat % 20 : Nat) : Int)
  rw [clamp_of _ (by omega)] at hnl
  refine f7_loop n (4990 + n.toNat % 20) (by omega) eM (num (4990 + n.toNat % 20)) (by omega) (vi .u8 k.toNat) (vi .u8 v.toNat) (4990 + n.toNat % 20) 0 g1 w1 _ _ (by omega) (by simp only [slot_len, hs]) (by simp only [go_sem, Nat.reduceLT, Nat.reduceEqDiff, reduceCtorEq, Int.reduceLT, Int.reduceEq, h0]) (by simp only [go_sem, Nat.reduceLT, Nat.reduceEqDiff, reduceCtorEq, Int.reduceLT, Int.reduceEq, h1]) (by simp only [go_sem, Nat.reduceLT, Nat.reduceEqDiff, reduceCtorEq, Int.reduceLT, Int.reduceEq, h2]) (by simp only [go_sem, Nat.reduceLT, Nat.reduceEqDiff, reduceCtorEq, Int.reduceLT, Int.reduceEq, hs]) (by simp only [go_sem, Nat.reduceLT, Nat.reduceEqDiff, reduceCtorEq, Int.reduceLT, Int.reduceEq, hs]; rfl) (by rw [show repB 0 = [] from rfl, List.append_nil]; exact hb1.toG (eB_ne.2 (num_ne _))) ?_
  clear hs h0 h1 h2 hb1 hc1
  intro s g2 w2 hs h0 h1 h2 h7 hb2
  obtain ⟨g3, e3, hb3⟩ := (bufF_of hb2).clos
  simp only [go_sem, Nat.reduceLT, Nat.reduceEqDiff, reduceCtorEq, Int.reduceLT, Int.reduceEq, hs, h7]
  obtain ⟨w4, g4, hc4, hr4⟩ := changes_f24 (num (4990 + n.toNat % 20) ++ repB (4990 + n.toNat % 20)) _ slV_SlV (by rw [List.length_append, repB_len]; omega)
  refine XO_callP (by simp only [List.map, go_sem, Nat.reduceLT, Nat.reduceEqDiff, reduceCtorEq, Int.reduceLT, Int.reduceEq, hs, h7]; exact closAs_cons e3 clos_nil) hc4 hr4 ?_
  have q1 := wholeB_gone (4990 + n.toNat % 20) (by omega)
  rw [q1]
  have k40 : IntKind.i64.wrap ((k.toNat : Int).tmod 40) = ((k.toNat % 40 : Nat) : Int) := by
    have : (k.toNat : Int).tmod 40 = ((k.toNat % 40 : Nat) : Int) := rfl
    rw [this]; exact IntWalk.i64_in _ (by omega)
  have kv : IntKind.i64.wrap (v.toNat : Int) = (v.toNat : Int) := IntWalk.i64_in _ (by omega)
  simp only [go_sem, Nat.reduceLT, Nat.reduceEqDiff, reduceCtorEq, Int.reduceLT, Int.reduceEq, hs, h1, k40]
  refine XO_mks (k := .i64) (k' := .i64) (a := k.toNat % 40) (by simp only [go_sem, Nat.reduceLT, Nat.reduceEqDiff, reduceCtorEq, Int.reduceLT, Int.reduceEq, hs]) (by simp only [go_sem, Nat.reduceLT, Nat.reduceEqDiff, reduceCtorEq, Int.reduceLT, Int.reduceEq, hs]) (by omega) (by omega) ?_
  rw [eB_replicate]
  simp only [go_sem, Nat.reduceLT, Nat.reduceEqDiff, reduceCtorEq, Int.reduceLT, Int.reduceEq, hs, h2, kv]
  refine XO_mks (k := .i64) (k' := .i64) (a := v.toNat) (by simp only [go_sem, Nat.reduceLT, Nat.reduceEqDiff, reduceCtorEq, Int.reduceLT, Int.reduceEq, hs]) (by simp only [go_sem, Nat.reduceLT, Nat.reduceEqDiff, reduceCtorEq, Int.reduceLT, Int.reduceEq, hs]) (by omega) (by omega) ?_
  rw [eB_replicate]
  have bk := bs_own (hh := g3) (o := .arr 1 (eB (List.replicate v.toNat 0)) 0 false) (l := List.replicate (k.toNat % 40) 0) List.length_replicate
  simp only [go_sem, Nat.reduceLT, Nat.reduceEqDiff, reduceCtorEq, Int.reduceLT, Int.reduceEq, hs, bk, bd_co]
  rw [mk_agg2_own (by rw [eB_len]; exact List.length_replicate)]
  simp only [go_sem, Nat.reduceLT, Nat.reduceEqDiff, reduceCtorEq, Int.reduceLT, Int.reduceEq, hs]
  have hp1 : (List.replicate (k.toNat % 40) (0 : UInt8)).length = k.toNat % 40 := List.length_replicate
  have hp2 : (List.replicate v.toNat (0 : UInt8)).length = v.toNat := List.length_replicate
  have hone := wholeB_one (List.replicate (k.toNat % 40) 0, List.replicate v.toNat 0) (by rw [hp1]; omega) (by rw [hp2]; omega)
  simp only [hp1, hp2] at hone
  have hrl : (rowsB [(List.replicate (k.toNat % 40) 0, List.replicate v.toNat 0)]).length ≤ 1000 := by
    unfold rowsB rowB text
    have a1 := num_len (1 : Int)
    have a2 := num_len ((k.toNat % 40 : Nat) : Int)
    have a3 := num_len ((v.toNat : Nat) : Int)
    simp only [List.map_cons, List.map_nil, List.flatten_cons, List.flatten_nil, List.append_nil, List.length_append, hp1, hp2, List.length_cons, List.length_nil]
    rw [show ((0 + 1 : Nat) : Int) = 1 from rfl]
    omega
  obtain ⟨w5, g5, hc5, hb5⟩ := rows_f20 [[.sc (.string ⟨(List.replicate (k.toNat % 40) (0 : UInt8)).toArray⟩), .sl 1 (eB (List.replicate v.toNat 0)) true]] [(List.replicate (k.toNat % 40) 0, List.replicate v.toNat 0)] _ (SlV.sl (ex := true)) (.cons ⟨_, rfl, SlV.sl⟩ .nil) [] (by omega) (by simp)
  refine XO_callP (by simp only [List.map, go_sem, Nat.reduceLT, Nat.reduceEqDiff, reduceCtorEq, Int.reduceLT, Int.reduceEq, hs]; exact clos_cv clos_nil) hc5 hb5.close ?_
  simp only [go_sem, Nat.reduceLT, Nat.reduceEqDiff, reduceCtorEq, Int.reduceLT, Int.reduceEq, hs]
  obtain ⟨w6, g6, hc6, hr6⟩ := rows_f22 (rowsB [(List.replicate (k.toNat % 40) 0, List.replicate v.toNat 0)]) _ slV_SlV (by omega)
  rw [hone] at hr6
  refine XO_callP (by simp only [List.map, go_sem, Nat.reduceLT, Nat.reduceEqDiff, reduceCtorEq, Int.reduceLT, Int.reduceEq, hs]; exact slV_SlV.clos clos_nil) hc6 hr6 ?_
  simp only [go_sem, Nat.reduceLT, Nat.reduceEqDiff, reduceCtorEq, Int.reduceLT, Int.reduceEq, hs]
  refine XO_callP clos_nil hknown res_cv ?_
  have k40' : (k.toNat : Int).tmod 40 = ((k.toNat % 40 : Nat) : Int) := rfl
  have z0 : ((0 : Nat) : Int) = 0 := rfl
  have z3 : ((3 : Nat) : Int) = 3 := rfl
  have f1 : ((if 5000 < 4990 + n.toNat % 20 then (3 : Nat) else 0 : Nat) : Int) = if (10 : Int) < ((n.toNat % 20 : Nat) : Int) then 3 else 0 := by split <;> split <;> omega
  have f2 : ((if 30 < k.toNat % 40 ∨ 150 < v.toNat then (3 : Nat) else 0 : Nat) : Int) = if (30 : Int) < ((k.toNat % 40 : Nat) : Int) then 3 else if (150 : Int) < (v.toNat : Int) then 3 else 0 := by
    split <;> split <;> (try split) <;> omega
  rw [f1, f2]
  by_cases b1 : (10 : Int) < ((n.toNat % 20 : Nat) : Int)
  · by_cases b2 : (30 : Int) < ((k.toNat % 40 : Nat) : Int)
    · simp only [go_sem, Nat.reduceLT, Nat.reduceEqDiff, reduceCtorEq, Int.reduceLT, Int.reduceEq, Int.cast_ofNat_Int, Int.ofNat_zero, BEq.rfl, beq_self_eq_true, hs, h0, h1, h2, n20, k40', b1, b2]
      exact rfl
    · by_cases b3 : (150 : Int) < (v.toNat : Int)
      · simp only [go_sem, Nat.reduceLT, Nat.reduceEqDiff, reduceCtorEq, Int.reduceLT, Int.reduceEq, Int.cast_ofNat_Int, Int.ofNat_zero, BEq.rfl, beq_self_eq_true, hs, h0, h1, h2, n20, k40', b1, b2, b3]
        exact rfl
      · simp only [go_sem, Nat.reduceLT, Nat.reduceEqDiff, reduceCtorEq, Int.reduceLT, Int.reduceEq, Int.cast_ofNat_Int, Int.ofNat_zero, BEq.rfl, beq_self_eq_true, hs, h0, h1, h2, n20, k40', b1, b2, b3]
        exact rfl
  · by_cases b2 : (30 : Int) < ((k.toNat % 40 : Nat) : Int)
    · simp only [go_sem, Nat.reduceLT, Nat.reduceEqDiff, reduceCtorEq, Int.reduceLT, Int.reduceEq, Int.cast_ofNat_Int, Int.ofNat_zero, BEq.rfl, beq_self_eq_true, hs, h0, h1, h2, n20, k40', b1, b2]
      exact rfl
    · by_cases b3 : (150 : Int) < (v.toNat : Int)
      · simp only [go_sem, Nat.reduceLT, Nat.reduceEqDiff, reduceCtorEq, Int.reduceLT, Int.reduceEq, Int.cast_ofNat_Int, Int.ofNat_zero, BEq.rfl, beq_self_eq_true, hs, h0, h1, h2, n20, k40', b1, b2, b3]
        exact rfl
      · simp only [go_sem, Nat.reduceLT, Nat.reduceEqDiff, reduceCtorEq, Int.reduceLT, Int.reduceEq, Int.cast_ofNat_Int, Int.ofNat_zero, BEq.rfl, beq_self_eq_true, hs, h0, h1, h2, n20, k40', b1, b2, b3]
        exact rfl

theorem many_in {H : Type} {d0 d1 d2 : DataW H} {u0 u1 u2 : VV} (h0 : DV Proofs.Try.prog 5 d0 u0) (h1 : DV Proofs.Try.prog 5 d1 u1) (h2 : DV Proofs.Try.prog 5 d2 u2) : ∃ h', call F 7 [u0, u1, u2] [] = some (.ret (vb true), h') := by
  obtain ⟨n, rfl⟩ := DV_u8 Proofs.Try.underlying5 h0
  obtain ⟨k, rfl⟩ := DV_u8 Proofs.Try.underlying5 h1
  obtain ⟨v, rfl⟩ := DV_u8 Proofs.Try.underlying5 h2
  exact law_many n k v

end Go.V01

set_option linter.unusedSimpArgs false
set_option linter.unusedVariables false
namespace Go.V01
open Go Go.Vm

/-! ### what was got is put the same -/

theorem u8_self (c : UInt8) : u8 c.toNat = c := by
  unfold u8
  exact UInt8.ofNat_toNat

theorem getN_back : ∀ (k : Nat) (l : List UInt8) (at_ i acc m j : Nat), getN k l at_ i acc = (m, j, 0) →
    ∃ n q r, l = q ++ r ∧ j = at_ + i + q.length ∧ m = acc + n * 128 ^ i ∧ (0 < n ∨ i = 0) ∧ ∀ K, n < 128 ^ (K + 1) → q = numF K n
  | 0, _, _, _, _, _, _, h => by simp [getN] at h
  | k + 1, [], _, _, _, _, _, h => by simp [getN] at h
  | k + 1, c :: l, at_, i, acc, m, j, h => by
    have hc := c.toNat_lt
    simp only [getN] at h
    by_cases h1 : c.toNat < 128
    · rw [if_pos h1] at h
      split at h
      · simp at h
      · rename_i h2
        simp only [Prod.mk.injEq] at h
        obtain ⟨rfl, rfl, _⟩ := h
        rw [Nat.mod_eq_of_lt h1]
        refine ⟨c.toNat, [c], l, rfl, rfl, rfl, by omega, fun K _ => ?_⟩
        have : ¬ 127 < c.toNat := by omega
        cases K with
        | zero => simp [numF, u8_self]
        | succ K => simp [numF, this, u8_self]
    · rw [if_neg h1] at h
      obtain ⟨n, q, r, e1, e2, e3, e4, e5⟩ := getN_back k l at_ (i + 1) _ m j h
      refine ⟨c.toNat % 128 + 128 * n, c :: q, r, by rw [e1]; rfl, by simp only [List.length_cons]; omega, ?_, .inl (by omega), fun K hK => ?_⟩
      · rw [e3, Nat.pow_succ, Nat.add_mul, Nat.add_assoc]
        congr 2
        rw [Nat.mul_comm (128 ^ i) 128, ← Nat.mul_assoc, Nat.mul_comm n 128]
      · cases K with
        | zero => omega
        | succ K =>
          have hn : 0 < n := by omega
          rw [Nat.pow_succ] at hK
          simp only [numF]
          rw [if_pos (by omega), e5 K (by omega)]
          have h3 : (c.toNat % 128 + 128 * n) % 128 = c.toNat % 128 := by omega
          have h4 : (c.toNat % 128 + 128 * n) / 128 = n := by omega
          have h5 : 128 + c.toNat % 128 = c.toNat := by omega
          rw [h3, h4, h5, u8_self]

theorem getNum_back {b : List UInt8} {a : Int} {n j : Nat} (h : getNum b a = (n, j, 0)) : ∃ p r, b = p ++ num n ++ r ∧ (p.length : Int) = a ∧ j = p.length + (num n).length ∧ n ≤ 9007199254740992 := by
  have hbd := getNum_bound b a
  rw [h] at hbd
  unfold getNum at h
  split at h
  · simp at h
  · rename_i h0
    obtain ⟨n', q, r, e1, e2, e3, e4, e5⟩ := getN_back _ _ _ _ _ _ _ h
    simp only [Nat.pow_zero, Nat.mul_one, Nat.zero_add, Nat.add_zero] at e2 e3
    subst e3
    have hl : (b.take a.toNat).length = a.toNat := by rw [List.length_take]; omega
    have hq : q = num n := e5 8 (by rw [pow9]; have := hbd.1; simp only at this; omega)
    refine ⟨b.take a.toNat, r, ?_, by rw [hl]; omega, by rw [hl, e2, hq], hbd.1⟩
    rw [List.append_assoc, ← hq, ← e1, List.take_append_drop]

theorem getText_back {b : List UInt8} {a most : Int} {s : List UInt8} {j : Nat} (h : getText b a most = (s, j, 0)) : ∃ p r, b = p ++ text s ++ r ∧ (p.length : Int) = a ∧ j = p.length + (text s).length ∧ (s.length : Int) ≤ most := by
  unfold getText at h
  split at h
  · rename_i h0
    simp only [Prod.mk.injEq] at h
    exact absurd h.2.2 h0
  · rename_i h0
    split at h
    · simp at h
    · rename_i h1
      split at h
      · simp at h
      · rename_i h2
        have hx : getNum b a = ((getNum b a).1, (getNum b a).2.1, 0) := by
          have : (getNum b a).2.2 = 0 := by simpa using h0
          rw [← this]
        obtain ⟨p, r, e1, e2, e3, e4⟩ := getNum_back hx
        generalize (getNum b a).1 = n at *
        generalize (getNum b a).2.1 = k at *
        simp only [Prod.mk.injEq] at h
        obtain ⟨h3, h4, _⟩ := h
        have hk : k = (p ++ num n).length := by rw [List.length_append]; exact e3
        have hd : b.drop k = r := by rw [e1, hk, List.drop_left]
        rw [hd] at h3
        have hr : r.length = b.length - k := by rw [← hd, List.length_drop]
        have hkb : k ≤ b.length := by rw [e1, hk]; simp only [List.length_append]; omega
        have hs : s.length = n := by rw [← h3, List.length_take]; omega
        refine ⟨p, r.drop n, ?_, e2, ?_, by rw [hs]; omega⟩
        · unfold text
          rw [hs, clamp_of n e4, ← h3]
          rw [List.append_assoc p, List.append_assoc, List.take_append_drop, ← List.append_assoc]
          exact e1
        · unfold text
          rw [hs, clamp_of n e4, List.length_append, hs]; omega

theorem getRow_back {b : List UInt8} {a : Int} {e : List CV} {j : Nat} (h : getRow b a = (e, j, 0)) : ∃ k v p r, b = p ++ rowB (k, v) ++ r ∧ (p.length : Int) = a ∧ j = p.length + (rowB (k, v)).length ∧ e = rowC k v ∧ k.length ≤ 30 ∧ v.length ≤ 150 := by
  unfold getRow at h
  split at h
  · rename_i h0
    simp only [Prod.mk.injEq] at h
    exact absurd h.2.2 h0
  · rename_i h0
    have hx : getText b a 30 = ((getText b a 30).1, (getText b a 30).2.1, 0) := by
      have : (getText b a 30).2.2 = 0 := by simpa using h0
      rw [← this]
    obtain ⟨p, r, e1, e2, e3, e4⟩ := getText_back hx
    generalize (getText b a 30).1 = k at *
    generalize (getText b a 30).2.1 = j1 at *
    simp only [Prod.mk.injEq] at h
    obtain ⟨h3, h4, h5⟩ := h
    have hy : getText b (j1 : Int) 150 = ((getText b (j1 : Int) 150).1, (getText b (j1 : Int) 150).2.1, 0) := by rw [← h5]
    obtain ⟨p', r', f1, f2, f3, f4⟩ := getText_back hy
    generalize (getText b (j1 : Int) 150).1 = v at *
    generalize (getText b (j1 : Int) 150).2.1 = j2 at *
    have hp : p' = p ++ text k := by
      have h1 : b.take j1 = p' := by rw [f1, List.append_assoc, show j1 = p'.length by omega, List.take_left]
      have h2 : b.take j1 = p ++ text k := by rw [e1, show j1 = (p ++ text k).length by rw [List.length_append]; exact e3, List.take_left]
      rw [← h1, h2]
    refine ⟨k, v, p, r', ?_, e2, ?_, h3.symm, by omega, by omega⟩
    · rw [f1, hp]; simp only [rowB, List.append_assoc]
    · rw [← h4, f3, hp]; simp only [rowB, List.length_append]; omega

theorem wholeF_back {b : List UInt8} : ∀ (m a : Nat) (out els : List (List CV)) (j : Nat), a ≤ b.length → wholeF (getRow b) m a out = (els, j, 0) →
    ∃ kv p r, b = p ++ flatB kv ++ r ∧ p.length = a ∧ j = p.length + (flatB kv).length ∧ els = out ++ rowCs kv ∧ kv.length = m ∧ Fits kv
  | 0, a, out, els, j, ha, h => by
    simp only [wholeF, Prod.mk.injEq] at h
    obtain ⟨rfl, rfl, _⟩ := h
    exact ⟨[], b.take a, b.drop a, by simp [flatB], by rw [List.length_take]; omega, by rw [List.length_take]; simp [flatB]; omega, by simp [rowCs], rfl, by intro p hp; simp at hp⟩
  | m + 1, a, out, els, j, ha, h => by
    simp only [wholeF] at h
    split at h
    · rename_i h0
      simp only [Prod.mk.injEq] at h
      exact absurd h.2.2 h0
    · rename_i h0
      have hx : getRow b (a : Int) = ((getRow b (a : Int)).1, (getRow b (a : Int)).2.1, 0) := by
        have : (getRow b (a : Int)).2.2 = 0 := by simpa using h0
        rw [← this]
      obtain ⟨k, v, p, r, e1, e2, e3, e4, e5, e6⟩ := getRow_back hx
      generalize (getRow b (a : Int)).1 = e at *
      generalize (getRow b (a : Int)).2.1 = j1 at *
      have hj : j1 ≤ b.length := by rw [e1, e3]; simp only [List.length_append]; omega
      obtain ⟨kv, p', r', f1, f2, f3, f4, f5, f6⟩ := wholeF_back m j1 _ els j hj h
      have hp : p' = p ++ rowB (k, v) := by
        have h1 : b.take j1 = p' := by rw [f1, List.append_assoc, ← f2, List.take_left]
        have h2 : b.take j1 = p ++ rowB (k, v) := by rw [e1, show j1 = (p ++ rowB (k, v)).length by rw [List.length_append]; exact e3, List.take_left]
        rw [← h1, h2]
      refine ⟨(k, v) :: kv, p, r', ?_, by omega, ?_, ?_, by simp [f5], ?_⟩
      · rw [f1, hp, flatB_cons]; simp only [List.append_assoc]
      · rw [f3, hp, flatB_cons]; simp only [List.length_append]; omega
      · rw [f4, e4]; simp [rowCs]
      · intro q hq
        rcases List.mem_cons.1 hq with rfl | hq
        · exact ⟨e5, e6⟩
        · exact f6 q hq

/-- Whatever bytes are rows, they are the bytes of these. -/
theorem wholeB_back {b : List UInt8} (h : (wholeB (getRow b) b).2 = 0) : ∃ kv, (wholeB (getRow b) b).1 = rowCs kv ∧ b = rowsB kv ∧ Fits kv := by
  unfold wholeB at h ⊢
  simp only at h ⊢
  split at h
  · rename_i h0; exact absurd h h0
  · rename_i h0
    rw [if_neg h0]
    have hx : getNum b 0 = ((getNum b 0).1, (getNum b 0).2.1, 0) := by
      have : (getNum b 0).2.2 = 0 := by simpa using h0
      rw [← this]
    obtain ⟨p, r, e1, e2, e3, e4⟩ := getNum_back hx
    generalize (getNum b 0).1 = n at *
    generalize (getNum b 0).2.1 = a at *
    have hp0 : p = [] := List.eq_nil_of_length_eq_zero (by omega)
    subst hp0
    split at h
    · simp at h
    · rename_i h1
      rw [if_neg h1]
      split at h
      · rename_i h2; exact absurd h h2
      · rename_i h2
        rw [if_neg h2]
        have hy : wholeF (getRow b) n a [] = ((wholeF (getRow b) n a []).1, (wholeF (getRow b) n a []).2.1, 0) := by
          have : (wholeF (getRow b) n a []).2.2 = 0 := by simpa using h2
          rw [← this]
        have ha : a ≤ b.length := by rw [e3, e1]; simp only [List.length_append]; omega
        obtain ⟨kv, p', r', f1, f2, f3, f4, f5, f6⟩ := wholeF_back n a [] _ _ ha hy
        generalize (wholeF (getRow b) n a []).1 = els at *
        generalize (wholeF (getRow b) n a []).2.1 = j at *
        split at h
        · simp at h
        · rename_i h3
          rw [if_neg h3]
          have hr : r' = [] := by
            have := congrArg List.length f1
            simp only [List.length_append] at this
            exact List.eq_nil_of_length_eq_zero (by omega)
          subst hr
          have hp : p' = num n := by
            have h1 : b.take a = p' := by rw [f1, List.append_assoc, ← f2, List.take_left]
            have h2 : b.take a = num n := by rw [e1, List.nil_append, show a = (num n).length by simpa using e3, List.take_left]
            rw [← h1, h2]
          refine ⟨kv, by simpa using f4, ?_, f6⟩
          rw [f1, hp, List.append_nil]
          unfold rowsB
          rw [f5, clamp_of n e4]
          rfl

end Go.V01

set_option linter.unusedSimpArgs false
set_option linter.unusedVariables false
namespace Go.V01
open Go Go.Vm

/-! ### changes -/

abbrev Ch := List UInt8 × List UInt8 × Bool
def chB (p : Ch) : List UInt8 := text p.1 ++ (if p.2.2 then [1] else 0 :: text p.2.1)
def chsB (l : List Ch) : List UInt8 := num (clamp l.length) ++ (l.map chB).flatten
def chE (e : List CV) (p : Ch) : Prop := ∃ c, e = [.sc (.string ⟨p.1.toArray⟩), c, .sc (.bool p.2.2)] ∧ SlV 1 (eB p.2.1) (.cv c)
inductive ChsE : List (List CV) → List Ch → Prop
  | nil : ChsE [] []
  | cons {e : List CV} {p : Ch} {l : List (List CV)} {k : List Ch} (h : chE e p) (t : ChsE l k) : ChsE (e :: l) (p :: k)
theorem ChsE.len {l : List (List CV)} {k : List Ch} (h : ChsE l k) : l.length = k.length := by
  induction h with
  | nil => rfl
  | cons _ _ ih => simp [ih]
theorem ChsE.snoc {l : List (List CV)} {k : List Ch} (h : ChsE l k) {e : List CV} {p : Ch} (hp : chE e p) : ChsE (l ++ [e]) (k ++ [p]) := by
  induction h with
  | nil => exact .cons hp .nil
  | cons h _ ih => exact .cons h ih
theorem ChsE.append {l : List (List CV)} {k : List Ch} (h : ChsE l k) {l' : List (List CV)} {k' : List Ch} (h' : ChsE l' k') : ChsE (l ++ l') (k ++ k') := by
  induction h with
  | nil => exact h'
  | cons h _ ih => exact .cons h ih

theorem hn_of {a b c d : Nat} (h : a + (b + c) ≤ d) : a + b + c ≤ d := by omega

theorem f30_loop (l : List (List CV)) (vl : VV) (hv : SlV 3 l vl) : ∀ (rest : List (List CV)) (kv : List Ch) (_ : ChsE rest kv) (i : Nat) (out : List UInt8) (s : List VV) (h : Heap) (v : VV) (Q : Pst),
    l.drop i = rest → i ≤ l.length → l.length ≤ 1000000000 → out.length + ((kv.map chB).flatten).length ≤ 1000000000 → s.length = 36 →
    s.getD 9 .undef = vl → s.getD 10 .undef = vi .i64 l.length → s.getD 11 .undef = vi .i64 i → s.getD 3 .undef = v → BufG h 1 (eB out) v →
    (∀ s' h' v', s'.length = 36 → s'.getD 3 .undef = v' → BufG h' 1 (eB (out ++ (kv.map chB).flatten)) v' → Q (.exit 0) ⟨s', h'⟩) →
    X F (.loop f30_2) ⟨s, h⟩ Q := by
  intro rest kv hR
  induction hR with
  | nil =>
    intro i out s h v Q hd hi hl hn hs h9 h10 h11 h3 hb hQ
    rw [X_loop, X_eq f30_2.eq_1]
    have hlt : ¬ (i : Int) < (l.length : Int) := by
      have := congrArg List.length hd
      rw [List.length_drop, List.length_nil] at this
      omega
    simp only [go_sem, Nat.reduceLT, Nat.reduceEqDiff, reduceCtorEq, Int.reduceLT, Int.reduceEq, hs, h10, h11, hlt]
    rw [X_eq f30_0.eq_1]
    simp only [go_sem, Nat.reduceLT, Nat.reduceEqDiff, reduceCtorEq, Int.reduceLT, Int.reduceEq, hs, hlt]
    exact hQ _ _ v (by simp only [slot_len, hs]) (by simp only [go_sem, Nat.reduceLT, Nat.reduceEqDiff, reduceCtorEq, Int.reduceLT, Int.reduceEq, h3]) (by simpa using hb)
  | @cons e p rl rk hrow hrest ih =>
    intro i out s h v Q hd hi hl hn hs h9 h10 h11 h3 hb hQ
    have hget : l[i]? = some e := by
      have := congrArg (fun x => x[0]?) hd
      simpa using this
    have hilt : i < l.length := (List.getElem?_eq_some_iff.1 hget).1
    have hd' : l.drop (i + 1) = rl := by
      rw [← List.drop_drop, hd]; rfl
    obtain ⟨c, rfl, hc⟩ := hrow
    have hlt : (i : Int) < (l.length : Int) := by omega
    simp only [List.map_cons, List.flatten_cons, List.length_append, chB] at hn
    have hk1 := text_len p.1
    have hk2 := text_len p.2.1
    have e5 : IntKind.i64.wrap ((i : Int) + 1) = ((i + 1 : Nat) : Int) := by rw [IntWalk.i64_in _ (by omega)]; omega
    rw [X_loop, X_eq f30_2.eq_1]
    simp only [go_sem, Nat.reduceLT, Nat.reduceEqDiff, reduceCtorEq, Int.reduceLT, Int.reduceEq, hs, h9, h10, h11, h3, hlt]
    rw [X_eq f30_0.eq_1]
    simp only [go_sem, Nat.reduceLT, Nat.reduceEqDiff, reduceCtorEq, Int.reduceLT, Int.reduceEq, hs, h9, h10, h11, h3]
    rw [hv.ia (e := [.sc (.string ⟨p.1.toArray⟩), c, .sc (.bool p.2.2)]) (by omega) (by exact hget)]
    simp only [go_sem, Nat.reduceLT, Nat.reduceEqDiff, reduceCtorEq, Int.reduceLT, Int.reduceEq, hs, h9, h10, h11, h3]
    rw [ld_l_at (v := .cv (.sc (.string ⟨p.1.toArray⟩))) rfl]
    simp only [go_sem, Nat.reduceLT, Nat.reduceEqDiff, reduceCtorEq, Int.reduceLT, Int.reduceEq, hs, h9, h10, h11, h3]
    obtain ⟨v1, hc1, hcall1, hres1⟩ := text_pure p.1 (by omega)
    refine XO_callP (by simp only [List.map, go_sem, Nat.reduceLT, Nat.reduceEqDiff, reduceCtorEq, Int.reduceLT, Int.reduceEq, hs]; exact clos_cv clos_nil) hcall1 hres1 ?_
    simp only [go_sem, Nat.reduceLT, Nat.reduceEqDiff, reduceCtorEq, Int.reduceLT, Int.reduceEq, hs, h9, h10, h11, h3]
    refine XO_appG (new := eB (text p.1)) (hb.push _) (by simp only [go_sem, Nat.reduceLT, Nat.reduceEqDiff, reduceCtorEq, Int.reduceLT, Int.reduceEq, hs]) (by simp only [go_sem, Nat.reduceLT, Nat.reduceEqDiff, reduceCtorEq, Int.reduceLT, Int.reduceEq, hs]) (by simp only [eB_len]; omega) (by simp only [eB_len]; omega) (fun v' h' hb' _ hfr => ?_)
    have hbox := hfr h.length _ at_last (fun e g => by simp)
    rw [← eB_append] at hb'
    have l2 : ldO h' false 1 (.ptr h.length 2) = some (vb p.2.2, h') := ld_ptr (c := vb p.2.2) hbox rfl
    have l1 : ldO h' false 1 (.ptr h.length 1) = some (.cv c, h') := ld_ptr (c := .cv c) hbox rfl
    simp only [go_sem, Nat.reduceLT, Nat.reduceEqDiff, reduceCtorEq, Int.reduceLT, Int.reduceEq, hs]
    rw [X_eq f30_1.eq_1]
    cases hg : p.2.2 with
    | true =>
      rw [hg] at l2 hn
      simp only [go_sem, Nat.reduceLT, Nat.reduceEqDiff, reduceCtorEq, Int.reduceLT, Int.reduceEq, hs, l2]
      refine XO_appG hb' (new := eB [1]) (by simp only [go_sem, Nat.reduceLT, Nat.reduceEqDiff, reduceCtorEq, Int.reduceLT, Int.reduceEq, hs]) (by simp only [go_sem, Nat.reduceLT, Nat.reduceEqDiff, reduceCtorEq, Int.reduceLT, Int.reduceEq, hs]; rfl) (by simp only [eB_len, List.length_append]; simp at hn ⊢; omega) (by simp only [eB_len, List.length_append]; simp at hn ⊢; omega) (fun v2 h2 hb2 _ _ => ?_)
      rw [← eB_append, List.append_assoc] at hb2
      simp only [go_sem, Nat.reduceLT, Nat.reduceEqDiff, reduceCtorEq, Int.reduceLT, Int.reduceEq, hs, h11, e5]
      refine ih (i + 1) (out ++ chB p) _ h2 v2 Q hd' (by omega) hl (by simp only [chB, List.length_append, hg]; exact hn_of hn) (by simp only [slot_len, hs]) (by simp only [go_sem, Nat.reduceLT, Nat.reduceEqDiff, reduceCtorEq, Int.reduceLT, Int.reduceEq, h9]) (by simp only [go_sem, Nat.reduceLT, Nat.reduceEqDiff, reduceCtorEq, Int.reduceLT, Int.reduceEq, h10]) (by simp only [go_sem, Nat.reduceLT, Nat.reduceEqDiff, reduceCtorEq, Int.reduceLT, Int.reduceEq, hs]) (by simp only [go_sem, Nat.reduceLT, Nat.reduceEqDiff, reduceCtorEq, Int.reduceLT, Int.reduceEq, hs]) (by simpa only [chB, hg, if_true] using hb2) ?_
      simp only [List.map_cons, List.flatten_cons, ← List.append_assoc] at hQ
      exact hQ
    | false =>
      rw [hg] at l2 hn
      simp only [go_sem, Nat.reduceLT, Nat.reduceEqDiff, reduceCtorEq, Int.reduceLT, Int.reduceEq, hs, l2]
      refine XO_appG hb' (new := eB [0]) (by simp only [go_sem, Nat.reduceLT, Nat.reduceEqDiff, reduceCtorEq, Int.reduceLT, Int.reduceEq, hs]) (by simp only [go_sem, Nat.reduceLT, Nat.reduceEqDiff, reduceCtorEq, Int.reduceLT, Int.reduceEq, hs]; rfl) (by simp only [eB_len, List.length_append]; simp at hn ⊢; omega) (by simp only [eB_len, List.length_append]; simp at hn ⊢; omega) (fun v2 h2 hb2 _ hfr2 => ?_)
      have hbox2 := hfr2 h.length _ hbox (fun e g => by simp)
      have l3 : ldO h2 false 1 (.ptr h.length 1) = some (.cv c, h2) := ld_ptr (c := .cv c) hbox2 rfl
      rw [← eB_append, List.append_assoc] at hb2
      simp only [go_sem, Nat.reduceLT, Nat.reduceEqDiff, reduceCtorEq, Int.reduceLT, Int.reduceEq, hs, l3, hc.bs]
      obtain ⟨v2, hc2, hcall2, hres2⟩ := text_pure p.2.1 (by simp at hn; omega)
      refine XO_callP (by simp only [List.map, go_sem, Nat.reduceLT, Nat.reduceEqDiff, reduceCtorEq, Int.reduceLT, Int.reduceEq, hs]; exact clos_cv clos_nil) hcall2 hres2 ?_
      simp only [go_sem, Nat.reduceLT, Nat.reduceEqDiff, reduceCtorEq, Int.reduceLT, Int.reduceEq, hs]
      refine XO_appG (new := eB (text p.2.1)) hb2 (by simp only [go_sem, Nat.reduceLT, Nat.reduceEqDiff, reduceCtorEq, Int.reduceLT, Int.reduceEq, hs]) (by simp only [go_sem, Nat.reduceLT, Nat.reduceEqDiff, reduceCtorEq, Int.reduceLT, Int.reduceEq, hs]) (by simp only [eB_len, List.length_append]; simp at hn ⊢; omega) (by simp only [eB_len, List.length_append]; simp at hn ⊢; omega) (fun v3 h3' hb3 _ _ => ?_)
      rw [← eB_append, List.append_assoc, List.append_assoc] at hb3
      simp only [go_sem, Nat.reduceLT, Nat.reduceEqDiff, reduceCtorEq, Int.reduceLT, Int.reduceEq, hs, h11, e5]
      refine ih (i + 1) (out ++ chB p) _ h3' v3 Q hd' (by omega) hl (by simp only [chB, List.length_append, hg]; exact hn_of hn) (by simp only [slot_len, hs]) (by simp only [go_sem, Nat.reduceLT, Nat.reduceEqDiff, reduceCtorEq, Int.reduceLT, Int.reduceEq, h9]) (by simp only [go_sem, Nat.reduceLT, Nat.reduceEqDiff, reduceCtorEq, Int.reduceLT, Int.reduceEq, h10]) (by simp only [go_sem, Nat.reduceLT, Nat.reduceEqDiff, reduceCtorEq, Int.reduceLT, Int.reduceEq, hs]) (by simp only [go_sem, Nat.reduceLT, Nat.reduceEqDiff, reduceCtorEq, Int.reduceLT, Int.reduceEq, hs]) (by simpa only [chB, hg, if_false, List.singleton_append, Bool.false_eq_true] using hb3) ?_
      simp only [List.map_cons, List.flatten_cons, ← List.append_assoc] at hQ
      exact hQ

/-- Changes' bytes. -/
theorem chs_f30 (l : List (List CV)) (kv : List Ch) (vl : VV) (hv : SlV 3 l vl) (hR : ChsE l kv) (h : Heap) (hn : (chsB kv).length ≤ 1000000000) (hk : kv.length ≤ 1000000000) :
    ∃ v h', call F 30 [vl] h = some (.ret v, h') ∧ BufG h' 1 (eB (chsB kv)) v := by
  have : ∃ v h', call F 30 [vl] h = some (.ret v, h') ∧ (fun v h' => BufG h' 1 (eB (chsB kv)) v) v h' := by
    refine call_E (fn := f30) rfl ?_
    simp only [f30]
    generalize hs0 : ([vl] ++ List.replicate _ VV.undef : List VV) = s
    have hs : s.length = 36 := by rw [← hs0]; rfl
    have h0 : s.getD 0 .undef = vl := by rw [← hs0]; rfl
    clear hs0
    simp only [go_sem, Nat.reduceLT, Nat.reduceEqDiff, reduceCtorEq, Int.reduceLT, Int.reduceEq, hs, h0, hv.ln]
    obtain ⟨v1, h1, hcall1, hb1⟩ := num_f12 l.length h
    refine XO_callR (by simp only [List.map, go_sem, Nat.reduceLT, Nat.reduceEqDiff, reduceCtorEq, Int.reduceLT, Int.reduceEq, hs]; exact hcall1) ?_
    simp only [go_sem, Nat.reduceLT, Nat.reduceEqDiff, reduceCtorEq, Int.reduceLT, Int.reduceEq, hs, h0, hv.ln]
    have hne : eB (num (clamp l.length)) ≠ [] := eB_ne.2 (num_ne _)
    have hlen : ((l.length : Nat) : Int) = ((kv.length : Nat) : Int) := by rw [hR.len]
    simp only [chsB, List.length_append] at hn
    refine f30_loop l vl hv l kv hR 0 (num (clamp l.length)) _ h1 v1 _ rfl (by omega) (by rw [hR.len]; exact hk) (by rw [hlen]; omega) (by simp only [slot_len, hs]) (by simp only [go_sem, Nat.reduceLT, Nat.reduceEqDiff, reduceCtorEq, Int.reduceLT, Int.reduceEq, hs]) (by simp only [go_sem, Nat.reduceLT, Nat.reduceEqDiff, reduceCtorEq, Int.reduceLT, Int.reduceEq, hs]) (by simp only [go_sem, Nat.reduceLT, Nat.reduceEqDiff, reduceCtorEq, Int.reduceLT, Int.reduceEq, hs]; rfl) (by simp only [go_sem, Nat.reduceLT, Nat.reduceEqDiff, reduceCtorEq, Int.reduceLT, Int.reduceEq, hs]) (hb1.toG hne) ?_
    intro s' h' v' hs' h3' hb'
    simp only [go_sem, Nat.reduceLT, Nat.reduceEqDiff, reduceCtorEq, Int.reduceLT, Int.reduceEq, hs', h3']
    rw [hlen] at hb'
    exact hb'
  exact this

/-! ### the way back -/

def chCs (p : Ch) : List CV := if p.2.2 then chC p.1 (.sc (.slice none 0 0)) true else chC p.1 (.sl 1 (eB p.2.1) false) false
def chsCs (l : List Ch) : List (List CV) := l.map chCs
/-- Changes that may be read. -/
def ChFits (l : List Ch) : Prop := ∀ p ∈ l, p.1.length ≤ 30 ∧ p.2.1.length ≤ 150 ∧ (p.2.2 = true → p.2.1 = [])
theorem chCs_E : ∀ (l : List Ch), ChFits l → ChsE (chsCs l) l
  | [], _ => .nil
  | p :: l, h => by
    refine .cons ?_ (chCs_E l fun q hq => h q (by simp [hq]))
    obtain ⟨_, _, h3⟩ := h p (by simp)
    unfold chCs
    cases hg : p.2.2 with
    | true => exact ⟨_, by rw [hg]; rfl, .inl ⟨rfl, by rw [h3 hg]; rfl⟩⟩
    | false => exact ⟨_, by rw [hg]; rfl, SlV.sl⟩
def flatC (l : List Ch) : List UInt8 := (l.map chB).flatten
theorem flatC_cons {p : Ch} {l : List Ch} : flatC (p :: l) = chB p ++ flatC l := rfl

theorem getCh_back {b : List UInt8} {a : Int} {e : List CV} {j : Nat} (h : getCh b a = (e, j, 0)) : ∃ q p r, b = p ++ chB q ++ r ∧ (p.length : Int) = a ∧ j = p.length + (chB q).length ∧ e = chCs q ∧ q.1.length ≤ 30 ∧ q.2.1.length ≤ 150 ∧ (q.2.2 = true → q.2.1 = []) := by
  unfold getCh at h
  split at h
  · rename_i h0
    simp only [Prod.mk.injEq] at h
    exact absurd h.2.2 h0
  · rename_i h0
    have hx : getText b a 30 = ((getText b a 30).1, (getText b a 30).2.1, 0) := by
      have : (getText b a 30).2.2 = 0 := by simpa using h0
      rw [← this]
    obtain ⟨p, r, e1, e2, e3, e4⟩ := getText_back hx
    generalize (getText b a 30).1 = k at *
    generalize (getText b a 30).2.1 = j1 at *
    split at h
    · simp at h
    · rename_i c hc
      have hr : ∃ r', r = c :: r' := by
        have hj : j1 = (p ++ text k).length := by rw [List.length_append]; exact e3
        rw [e1, hj, List.getElem?_append_right (Nat.le_refl _), Nat.sub_self] at hc
        cases r with
        | nil => simp at hc
        | cons d r' => simp at hc; exact ⟨r', by rw [hc]⟩
      obtain ⟨r, rfl⟩ := hr
      split at h
      · rename_i h1
        simp only [Prod.mk.injEq] at h
        obtain ⟨h3, h4, _⟩ := h
        have hc1 : c = 1 := by rw [← u8_self c, h1]; rfl
        subst hc1
        refine ⟨(k, [], true), p, r, by rw [e1]; simp [chB], e2, ?_, h3.symm, by simp only; omega, by simp, fun _ => rfl⟩
        simp only [chB, if_true, List.length_append, List.length_singleton]; omega
      · rename_i h1
        split at h
        · simp at h
        · rename_i h2
          have hc0 : c = 0 := by rw [← u8_self c, show c.toNat = 0 by omega]; rfl
          subst hc0
          simp only [Prod.mk.injEq] at h
          obtain ⟨h3, h4, h5⟩ := h
          have hy : getText b ((j1 + 1 : Nat) : Int) 150 = ((getText b ((j1 + 1 : Nat) : Int) 150).1, (getText b ((j1 + 1 : Nat) : Int) 150).2.1, 0) := by rw [← h5]
          obtain ⟨p', r', f1, f2, f3, f4⟩ := getText_back hy
          generalize (getText b ((j1 + 1 : Nat) : Int) 150).1 = v at *
          generalize (getText b ((j1 + 1 : Nat) : Int) 150).2.1 = j2 at *
          have e1' : b = (p ++ text k ++ [0]) ++ r := by rw [e1]; simp
          have hp : p' = p ++ text k ++ [0] := by
            have g1 : b.take (j1 + 1) = p' := by rw [f1, List.append_assoc, show j1 + 1 = p'.length by omega, List.take_left]
            have g2 : b.take (j1 + 1) = p ++ text k ++ [0] := by rw [e1', show j1 + 1 = (p ++ text k ++ [0]).length by simp only [List.length_append, List.length_singleton]; omega, List.take_left]
            rw [← g1, g2]
          refine ⟨(k, v, false), p, r', ?_, e2, ?_, h3.symm, by simp only; omega, by simp only; omega, by simp⟩
          · rw [f1, hp]; simp only [chB, Bool.false_eq_true, if_false, List.append_assoc, List.cons_append, List.nil_append]
          · rw [← h4, f3, hp]; simp only [chB, Bool.false_eq_true, if_false, List.length_append, List.length_cons, List.length_nil]; omega

theorem wholeF_backC {b : List UInt8} : ∀ (m a : Nat) (out els : List (List CV)) (j : Nat), a ≤ b.length → wholeF (getCh b) m a out = (els, j, 0) →
    ∃ kv p r, b = p ++ flatC kv ++ r ∧ p.length = a ∧ j = p.length + (flatC kv).length ∧ els = out ++ chsCs kv ∧ kv.length = m ∧ ChFits kv
  | 0, a, out, els, j, ha, h => by
    simp only [wholeF, Prod.mk.injEq] at h
    obtain ⟨rfl, rfl, _⟩ := h
    exact ⟨[], b.take a, b.drop a, by simp [flatC], by rw [List.length_take]; omega, by rw [List.length_take]; simp [flatC]; omega, by simp [chsCs], rfl, by intro p hp; simp at hp⟩
  | m + 1, a, out, els, j, ha, h => by
    simp only [wholeF] at h
    split at h
    · rename_i h0
      simp only [Prod.mk.injEq] at h
      exact absurd h.2.2 h0
    · rename_i h0
      have hx : getCh b (a : Int) = ((getCh b (a : Int)).1, (getCh b (a : Int)).2.1, 0) := by
        have : (getCh b (a : Int)).2.2 = 0 := by simpa using h0
        rw [← this]
      obtain ⟨q, p, r, e1, e2, e3, e4, e5⟩ := getCh_back hx
      generalize (getCh b (a : Int)).1 = e at *
      generalize (getCh b (a : Int)).2.1 = j1 at *
      have hj : j1 ≤ b.length := by rw [e1, e3]; simp only [List.length_append]; omega
      obtain ⟨kv, p', r', f1, f2, f3, f4, f5, f6⟩ := wholeF_backC m j1 _ els j hj h
      have hp : p' = p ++ chB q := by
        have h1 : b.take j1 = p' := by rw [f1, List.append_assoc, ← f2, List.take_left]
        have h2 : b.take j1 = p ++ chB q := by rw [e1, show j1 = (p ++ chB q).length by rw [List.length_append]; exact e3, List.take_left]
        rw [← h1, h2]
      refine ⟨q :: kv, p, r', ?_, by omega, ?_, ?_, by simp [f5], ?_⟩
      · rw [f1, hp, flatC_cons]; simp only [List.append_assoc]
      · rw [f3, hp, flatC_cons]; simp only [List.length_append]; omega
      · rw [f4, e4]; simp [chsCs]
      · intro q' hq
        rcases List.mem_cons.1 hq with rfl | hq
        · exact e5
        · exact f6 q' hq

theorem wholeB_backC {b : List UInt8} (h : (wholeB (getCh b) b).2 = 0) : ∃ kv, (wholeB (getCh b) b).1 = chsCs kv ∧ b = chsB kv ∧ ChFits kv := by
  unfold wholeB at h ⊢
  simp only at h ⊢
  split at h
  · rename_i h0; exact absurd h h0
  · rename_i h0
    rw [if_neg h0]
    have hx : getNum b 0 = ((getNum b 0).1, (getNum b 0).2.1, 0) := by
      have : (getNum b 0).2.2 = 0 := by simpa using h0
      rw [← this]
    obtain ⟨p, r, e1, e2, e3, e4⟩ := getNum_back hx
    generalize (getNum b 0).1 = n at *
    generalize (getNum b 0).2.1 = a at *
    have hp0 : p = [] := List.eq_nil_of_length_eq_zero (by omega)
    subst hp0
    split at h
    · simp at h
    · rename_i h1
      rw [if_neg h1]
      split at h
      · rename_i h2; exact absurd h h2
      · rename_i h2
        rw [if_neg h2]
        have hy : wholeF (getCh b) n a [] = ((wholeF (getCh b) n a []).1, (wholeF (getCh b) n a []).2.1, 0) := by
          have : (wholeF (getCh b) n a []).2.2 = 0 := by simpa using h2
          rw [← this]
        have ha : a ≤ b.length := by rw [e3, e1]; simp only [List.length_append]; omega
        obtain ⟨kv, p', r', f1, f2, f3, f4, f5, f6⟩ := wholeF_backC n a [] _ _ ha hy
        generalize (wholeF (getCh b) n a []).1 = els at *
        generalize (wholeF (getCh b) n a []).2.1 = j at *
        split at h
        · simp at h
        · rename_i h3
          rw [if_neg h3]
          have hr : r' = [] := by
            have := congrArg List.length f1
            simp only [List.length_append] at this
            exact List.eq_nil_of_length_eq_zero (by omega)
          subst hr
          have hp : p' = num n := by
            have h1 : b.take a = p' := by rw [f1, List.append_assoc, ← f2, List.take_left]
            have h2 : b.take a = num n := by rw [e1, List.nil_append, show a = (num n).length by simpa using e3, List.take_left]
            rw [← h1, h2]
          refine ⟨kv, by simpa using f4, ?_, f6⟩
          rw [f1, hp, List.append_nil]
          unfold chsB
          rw [f5, clamp_of n e4]
          rfl

end Go.V01

set_option linter.unusedSimpArgs false
set_option linter.unusedVariables false
namespace Go.V01
open Go Go.Vm

theorem bend_len (b : List UInt8) (a : Nat) (x : UInt8) (w : Nat) : (bendL b a x w).length ≤ b.length + 1 := by
  unfold bendL bend1
  split
  · rw [List.length_take]; omega
  · split
    · simp
    · split
      · rw [List.length_set]; omega
      · omega

theorem flatL_le : ∀ kv : List (List UInt8 × List UInt8), kv.length ≤ ((kv.map rowB).flatten).length
  | [] => by simp
  | p :: kv => by
    have := flatL_le kv
    have h1 : 0 < (rowB p).length := by
      have := text_ne p.1
      rw [eB_ne] at this
      have := List.length_pos_iff.2 this
      unfold rowB; rw [List.length_append]; omega
    simp only [List.map_cons, List.flatten_cons, List.length_append, List.length_cons]; omega
theorem flatC_le : ∀ kv : List Ch, kv.length ≤ ((kv.map chB).flatten).length
  | [] => by simp
  | p :: kv => by
    have := flatC_le kv
    have h1 : 0 < (chB p).length := by
      have := text_ne p.1
      rw [eB_ne] at this
      have := List.length_pos_iff.2 this
      unfold chB; rw [List.length_append]; omega
    simp only [List.map_cons, List.flatten_cons, List.length_append, List.length_cons]; omega

structure OneS (x b : List UInt8) (e f g : Nat) (le lf lg w0 wx : VV) (s : List VV) (h : Heap) : Prop where
  hs : s.length = 81
  hh : h = []
  h0 : s.getD 0 .undef = w0
  h11 : s.getD 11 .undef = wx
  h12 : s.getD 12 .undef = le
  h13 : s.getD 13 .undef = vi .u16 e
  h14 : s.getD 14 .undef = lf
  h15 : s.getD 15 .undef = vi .u16 f
  h16 : s.getD 16 .undef = lg
  h17 : s.getD 17 .undef = vi .u16 g

structure OneM (x b : List UInt8) (e f g : Nat) (le lf lg w0 wx : VV) (k : Nat) (s : List VV) (h : Heap) : Prop where
  f : OneS x b e f g le lf lg w0 wx s h
  hk : s.getD k .undef = vb true

theorem law_one (b : List UInt8) (vb_ : VV) (hvb : SlV 1 (eB b) vb_) (c : List UInt8) (vc : VV) (hvc : SlV 1 (eB c) vc) (a : Nat) (ha : a < 65536) (x how : UInt8) :
    ∃ h', call F 10 [vb_, vc, vi .u16 a, vi .u8 x.toNat, vi .u8 how.toNat] [] = some (.ret (vb true), h') := by
  obtain ⟨hk, hknown⟩ := known_f11
  refine call_V (fn := f10) rfl ?_
  simp only [f10]
  generalize hs0 : ([vb_, vc, vi .u16 a, vi .u8 x.toNat, vi .u8 how.toNat] ++ List.replicate _ VV.undef : List VV) = s
  have hs : s.length = 81 := by rw [← hs0]; rfl
  have h0 : s.getD 0 .undef = vb_ := by rw [← hs0]; rfl
  have h1 : s.getD 1 .undef = vc := by rw [← hs0]; rfl
  have h2 : s.getD 2 .undef = vi .u16 a := by rw [← hs0]; rfl
  have h3 : s.getD 3 .undef = vi .u8 x.toNat := by rw [← hs0]; rfl
  have h4 : s.getD 4 .undef = vi .u8 how.toNat := by rw [← hs0]; rfl
  clear hs0
  simp only [go_sem, Nat.reduceLT, Nat.reduceEqDiff, reduceCtorEq, Int.reduceLT, Int.reduceEq, hs]
  rw [X_eq f10_0.eq_1]
  by_cases c1 : (500 : Int) < (b.length : Int)
  · simp only [go_sem, Nat.reduceLT, Nat.reduceEqDiff, reduceCtorEq, Int.reduceLT, Int.reduceEq, hs, h0, hvb.ln, eB_len, c1]
    refine XO_callP clos_nil hknown res_cv ?_
    simp only [go_sem, Nat.reduceLT, Nat.reduceEqDiff, reduceCtorEq, Int.reduceLT, Int.reduceEq, hs]
    exact rfl
  · have hb : b.length ≤ 500 := by omega
    obtain ⟨w1, g1, els, hc1, hr1, hR1⟩ := list_pure c vc hvc 8 (by omega)
    have hf := rowL_fits 8 c
    have hkl := rowL_len 8 c
    have hrl := rowsB_len _ hf
    obtain ⟨w2, g2, wr, hc2, hr2, hv2⟩ := rrows_f21 els (rowL 8 c) (slV 2 els) slV_SlV hR1 (by omega) (by omega)
    obtain ⟨w3, g3, wx, hc3, hr3, hv3⟩ := bend_f25 (rowsB (rowL 8 c)) wr hv2 (by omega) a ha x how
    have hXl := bend_len (rowsB (rowL 8 c)) a x how.toNat
    generalize bendL (rowsB (rowL 8 c)) a x how.toNat = X at *
    obtain ⟨w4, g4, hc4, hr4⟩ := rows_f22 X wx hv3 (by omega)
    obtain ⟨w5, g5, hc5, hr5⟩ := rows_f22 b vb_ hvb (by omega)
    obtain ⟨w6, g6, hc6, hr6⟩ := changes_f24 b vb_ hvb (by omega)
    simp only [go_sem, Nat.reduceLT, Nat.reduceEqDiff, reduceCtorEq, Int.reduceLT, Int.reduceEq, hs, h0, h1, h2, h3, h4, hvb.ln, eB_len, c1]
    refine XO_callP (h1 := []) (by simp only [List.map, go_sem, Nat.reduceLT, Nat.reduceEqDiff, reduceCtorEq, Int.reduceLT, Int.reduceEq, hs]; exact hvc.clos (clos_cv clos_nil)) hc1 hr1 ?_
    simp only [go_sem, Nat.reduceLT, Nat.reduceEqDiff, reduceCtorEq, Int.reduceLT, Int.reduceEq, hs]
    refine XO_callP (h1 := []) (by simp only [List.map, go_sem, Nat.reduceLT, Nat.reduceEqDiff, reduceCtorEq, Int.reduceLT, Int.reduceEq, hs]; exact slV_SlV.clos clos_nil) hc2 hr2 ?_
    simp only [go_sem, Nat.reduceLT, Nat.reduceEqDiff, reduceCtorEq, Int.reduceLT, Int.reduceEq, hs, h2, h3, h4]
    refine XO_callP (h1 := []) (by simp only [List.map, go_sem, Nat.reduceLT, Nat.reduceEqDiff, reduceCtorEq, Int.reduceLT, Int.reduceEq, hs]; exact hv2.clos (clos_cv (clos_cv (clos_cv clos_nil)))) hc3 hr3 ?_
    simp only [go_sem, Nat.reduceLT, Nat.reduceEqDiff, reduceCtorEq, Int.reduceLT, Int.reduceEq, hs]
    refine XO_callP (h1 := []) (by simp only [List.map, go_sem, Nat.reduceLT, Nat.reduceEqDiff, reduceCtorEq, Int.reduceLT, Int.reduceEq, hs]; exact hv3.clos clos_nil) hc4 hr4 ?_
    simp only [go_sem, Nat.reduceLT, Nat.reduceEqDiff, reduceCtorEq, Int.reduceLT, Int.reduceEq, hs, h0]
    refine XO_callP (h1 := []) (by simp only [List.map, go_sem, Nat.reduceLT, Nat.reduceEqDiff, reduceCtorEq, Int.reduceLT, Int.reduceEq, hs, h0]; exact hvb.clos clos_nil) hc5 hr5 ?_
    simp only [go_sem, Nat.reduceLT, Nat.reduceEqDiff, reduceCtorEq, Int.reduceLT, Int.reduceEq, hs, h0]
    refine XO_callP (h1 := []) (by simp only [List.map, go_sem, Nat.reduceLT, Nat.reduceEqDiff, reduceCtorEq, Int.reduceLT, Int.reduceEq, hs, h0]; exact hvb.clos clos_nil) hc6 hr6 ?_
    simp only [go_sem, Nat.reduceLT, Nat.reduceEqDiff, reduceCtorEq, Int.reduceLT, Int.reduceEq, hs]
    refine X_draw rfl ?_
    have q1 := @wholeB_back X
    have q2 := @wholeB_back b
    have q3 := @wholeB_backC b
    generalize (wholeB (getRow X) X).1 = E1 at *
    generalize (wholeB (getRow X) X).2 = e1 at *
    generalize (wholeB (getRow b) b).1 = E2 at *
    generalize (wholeB (getRow b) b).2 = e2 at *
    generalize (wholeB (getCh b) b).1 = E3 at *
    generalize (wholeB (getCh b) b).2 = e3 at *
    refine XD_cut 14 (OneM X b e1 e2 e3 (slV 2 E1) (slV 2 E2) (slV 3 E3) vb_ wx 57) ?_ ?_
    · simp only [List.take_succ_cons, List.take_zero]
      refine XD_callP clos_nil hknown res_cv ?_
      by_cases z : (e1 : Int) = 0
      · obtain ⟨kv, rfl, hX, hF⟩ := q1 (by omega)
        obtain ⟨w7, g7, hc7, hb7⟩ := rows_f20 (rowCs kv) kv (slV 2 (rowCs kv)) slV_SlV (rowCs_E kv) [] (by rw [← hX]; omega) (by have := congrArg List.length hX; unfold rowsB at this; rw [List.length_append] at this; have := flatL_le kv; omega)
        rw [← hX] at hb7
        simp only [go_sem, Nat.reduceLT, Nat.reduceEqDiff, reduceCtorEq, Int.reduceLT, Int.reduceEq, hs, eq_true z]
        refine XD_callP (by simp only [List.map, go_sem, Nat.reduceLT, Nat.reduceEqDiff, reduceCtorEq, Int.reduceLT, Int.reduceEq, hs]; exact slV_SlV.clos clos_nil) hc7 hb7.close ?_
        have bx : bsO [] (slV 1 (eB X)) = some (txt X) := slV_SlV.bs
        simp only [go_sem, Nat.reduceLT, Nat.reduceEqDiff, reduceCtorEq, Int.reduceLT, Int.reduceEq, hs, bx, hv3.bs]
        exact ⟨⟨by simp only [slot_len, hs], rfl, by simp only [go_sem, Nat.reduceLT, Nat.reduceEqDiff, reduceCtorEq, Int.reduceLT, Int.reduceEq, h0], by simp only [go_sem, Nat.reduceLT, Nat.reduceEqDiff, reduceCtorEq, Int.reduceLT, Int.reduceEq, hs], by simp only [go_sem, Nat.reduceLT, Nat.reduceEqDiff, reduceCtorEq, Int.reduceLT, Int.reduceEq, hs], by simp only [go_sem, Nat.reduceLT, Nat.reduceEqDiff, reduceCtorEq, Int.reduceLT, Int.reduceEq, hs], by simp only [go_sem, Nat.reduceLT, Nat.reduceEqDiff, reduceCtorEq, Int.reduceLT, Int.reduceEq, hs], by simp only [go_sem, Nat.reduceLT, Nat.reduceEqDiff, reduceCtorEq, Int.reduceLT, Int.reduceEq, hs], by simp only [go_sem, Nat.reduceLT, Nat.reduceEqDiff, reduceCtorEq, Int.reduceLT, Int.reduceEq, hs], by simp only [go_sem, Nat.reduceLT, Nat.reduceEqDiff, reduceCtorEq, Int.reduceLT, Int.reduceEq, hs]⟩, by simp only [go_sem, Nat.reduceLT, Nat.reduceEqDiff, reduceCtorEq, Int.reduceLT, Int.reduceEq, hs]⟩
      · simp only [go_sem, Nat.reduceLT, Nat.reduceEqDiff, reduceCtorEq, Int.reduceLT, Int.reduceEq, hs, z]
        exact ⟨⟨by simp only [slot_len, hs], rfl, by simp only [go_sem, Nat.reduceLT, Nat.reduceEqDiff, reduceCtorEq, Int.reduceLT, Int.reduceEq, h0], by simp only [go_sem, Nat.reduceLT, Nat.reduceEqDiff, reduceCtorEq, Int.reduceLT, Int.reduceEq, hs], by simp only [go_sem, Nat.reduceLT, Nat.reduceEqDiff, reduceCtorEq, Int.reduceLT, Int.reduceEq, hs], by simp only [go_sem, Nat.reduceLT, Nat.reduceEqDiff, reduceCtorEq, Int.reduceLT, Int.reduceEq, hs], by simp only [go_sem, Nat.reduceLT, Nat.reduceEqDiff, reduceCtorEq, Int.reduceLT, Int.reduceEq, hs], by simp only [go_sem, Nat.reduceLT, Nat.reduceEqDiff, reduceCtorEq, Int.reduceLT, Int.reduceEq, hs], by simp only [go_sem, Nat.reduceLT, Nat.reduceEqDiff, reduceCtorEq, Int.reduceLT, Int.reduceEq, hs], by simp only [go_sem, Nat.reduceLT, Nat.reduceEqDiff, reduceCtorEq, Int.reduceLT, Int.reduceEq, hs]⟩, by simp only [go_sem, Nat.reduceLT, Nat.reduceEqDiff, reduceCtorEq, Int.reduceLT, Int.reduceEq, hs]⟩
    · clear hs h0 h1 h2 h3 h4
      rintro s h ⟨⟨hs, rfl, h0, h11, h12, h13, h14, h15, h16, h17⟩, h57⟩
      simp only [List.drop_succ_cons, List.drop_zero]
      refine XD_cut 12 (OneM X b e1 e2 e3 (slV 2 E1) (slV 2 E2) (slV 3 E3) vb_ wx 69) ?_ ?_
      · simp only [List.take_succ_cons, List.take_zero]
        by_cases z : (e2 : Int) = 0
        · obtain ⟨kv, rfl, hX, hF⟩ := q2 (by omega)
          obtain ⟨w7, g7, hc7, hb7⟩ := rows_f20 (rowCs kv) kv (slV 2 (rowCs kv)) slV_SlV (rowCs_E kv) [] (by rw [← hX]; omega) (by have := congrArg List.length hX; unfold rowsB at this; rw [List.length_append] at this; have := flatL_le kv; omega)
          rw [← hX] at hb7
          simp only [go_sem, Nat.reduceLT, Nat.reduceEqDiff, reduceCtorEq, Int.reduceLT, Int.reduceEq, hs, h57, h15, h14, eq_true z]
          refine XD_callP (by simp only [List.map, go_sem, Nat.reduceLT, Nat.reduceEqDiff, reduceCtorEq, Int.reduceLT, Int.reduceEq, hs]; exact slV_SlV.clos clos_nil) hc7 hb7.close ?_
          have bx : bsO [] (slV 1 (eB b)) = some (txt b) := slV_SlV.bs
          simp only [go_sem, Nat.reduceLT, Nat.reduceEqDiff, reduceCtorEq, Int.reduceLT, Int.reduceEq, hs, h0, h57, bx, hvb.bs]
          exact ⟨⟨by simp only [slot_len, hs], rfl, by simp only [go_sem, Nat.reduceLT, Nat.reduceEqDiff, reduceCtorEq, Int.reduceLT, Int.reduceEq, h0], by simp only [go_sem, Nat.reduceLT, Nat.reduceEqDiff, reduceCtorEq, Int.reduceLT, Int.reduceEq, h11], by simp only [go_sem, Nat.reduceLT, Nat.reduceEqDiff, reduceCtorEq, Int.reduceLT, Int.reduceEq, h12], by simp only [go_sem, Nat.reduceLT, Nat.reduceEqDiff, reduceCtorEq, Int.reduceLT, Int.reduceEq, h13], by simp only [go_sem, Nat.reduceLT, Nat.reduceEqDiff, reduceCtorEq, Int.reduceLT, Int.reduceEq, h14], by simp only [go_sem, Nat.reduceLT, Nat.reduceEqDiff, reduceCtorEq, Int.reduceLT, Int.reduceEq, h15], by simp only [go_sem, Nat.reduceLT, Nat.reduceEqDiff, reduceCtorEq, Int.reduceLT, Int.reduceEq, h16], by simp only [go_sem, Nat.reduceLT, Nat.reduceEqDiff, reduceCtorEq, Int.reduceLT, Int.reduceEq, h17]⟩, by simp only [go_sem, Nat.reduceLT, Nat.reduceEqDiff, reduceCtorEq, Int.reduceLT, Int.reduceEq, hs]⟩
        · simp only [go_sem, Nat.reduceLT, Nat.reduceEqDiff, reduceCtorEq, Int.reduceLT, Int.reduceEq, hs, h57, h15, z]
          exact ⟨⟨by simp only [slot_len, hs], rfl, by simp only [go_sem, Nat.reduceLT, Nat.reduceEqDiff, reduceCtorEq, Int.reduceLT, Int.reduceEq, h0], by simp only [go_sem, Nat.reduceLT, Nat.reduceEqDiff, reduceCtorEq, Int.reduceLT, Int.reduceEq, h11], by simp only [go_sem, Nat.reduceLT, Nat.reduceEqDiff, reduceCtorEq, Int.reduceLT, Int.reduceEq, h12], by simp only [go_sem, Nat.reduceLT, Nat.reduceEqDiff, reduceCtorEq, Int.reduceLT, Int.reduceEq, h13], by simp only [go_sem, Nat.reduceLT, Nat.reduceEqDiff, reduceCtorEq, Int.reduceLT, Int.reduceEq, h14], by simp only [go_sem, Nat.reduceLT, Nat.reduceEqDiff, reduceCtorEq, Int.reduceLT, Int.reduceEq, h15], by simp only [go_sem, Nat.reduceLT, Nat.reduceEqDiff, reduceCtorEq, Int.reduceLT, Int.reduceEq, h16], by simp only [go_sem, Nat.reduceLT, Nat.reduceEqDiff, reduceCtorEq, Int.reduceLT, Int.reduceEq, h17]⟩, by simp only [go_sem, Nat.reduceLT, Nat.reduceEqDiff, reduceCtorEq, Int.reduceLT, Int.reduceEq, hs]⟩
      · clear hs h0 h11 h12 h13 h14 h15 h16 h17 h57
        rintro s h ⟨⟨hs, rfl, h0, h11, h12, h13, h14, h15, h16, h17⟩, h69⟩
        simp only [List.drop_succ_cons, List.drop_zero]
        by_cases z : (e3 : Int) = 0
        · obtain ⟨kv, rfl, hX, hF⟩ := q3 (by omega)
          obtain ⟨w7, g7, hc7, hb7⟩ := chs_f30 (chsCs kv) kv (slV 3 (chsCs kv)) slV_SlV (chCs_E kv hF) [] (by rw [← hX]; omega) (by have := congrArg List.length hX; unfold chsB at this; rw [List.length_append] at this; have := flatC_le kv; omega)
          rw [← hX] at hb7
          simp only [go_sem, Nat.reduceLT, Nat.reduceEqDiff, reduceCtorEq, Int.reduceLT, Int.reduceEq, hs, h69, h17, h16, eq_true z]
          refine XD_callP (by simp only [List.map, go_sem, Nat.reduceLT, Nat.reduceEqDiff, reduceCtorEq, Int.reduceLT, Int.reduceEq, hs]; exact slV_SlV.clos clos_nil) hc7 hb7.close ?_
          have bx : bsO [] (slV 1 (eB b)) = some (txt b) := slV_SlV.bs
          simp only [go_sem, Nat.reduceLT, Nat.reduceEqDiff, reduceCtorEq, Int.reduceLT, Int.reduceEq, hs, h0, h69, bx, hvb.bs]
          exact rfl
        · simp only [go_sem, Nat.reduceLT, Nat.reduceEqDiff, reduceCtorEq, Int.reduceLT, Int.reduceEq, hs, h69, h17, z]
          exact rfl

theorem one_in {H : Type} {d0 d1 d2 d3 d4 : DataW H} {u0 u1 u2 u3 u4 : VV} (h0 : DV Proofs.Try.prog 23 d0 u0) (h1 : DV Proofs.Try.prog 23 d1 u1) (h2 : DV Proofs.Try.prog 25 d2 u2) (h3 : DV Proofs.Try.prog 5 d3 u3) (h4 : DV Proofs.Try.prog 5 d4 u4) :
    ∃ h', call F 10 [u0, u1, u2, u3, u4] [] = some (.ret (vb true), h') := by
  obtain ⟨b, hb, _⟩ := DV_bytes Proofs.Try.underlying23 Proofs.Try.underlying5 (by kernel_rfl) h0
  obtain ⟨c, hc, _⟩ := DV_bytes Proofs.Try.underlying23 Proofs.Try.underlying5 (by kernel_rfl) h1
  obtain ⟨a, rfl, ha⟩ := DV_u16 Proofs.Try.underlying25 h2
  obtain ⟨x, rfl⟩ := DV_u8 Proofs.Try.underlying5 h3
  obtain ⟨w, rfl⟩ := DV_u8 Proofs.Try.underlying5 h4
  exact law_one b u0 hb c u1 hc a ha x w

end Go.V01

set_option linter.unusedSimpArgs false
set_option linter.unusedVariables false
namespace Go.V01
open Go Go.Vm

/-! ### the document's answer: changes that are read -/

theorem getText_err (b : List UInt8) (a m : Int) (h : (getText b a m).2.2 ≠ 0) : (getText b a m).2.1 = 0 := by
  unfold getText at h ⊢
  split
  · rfl
  · rename_i h0
    rw [if_neg h0] at h
    split
    · rfl
    · rename_i h1
      rw [if_neg h1] at h
      split
      · rfl
      · rename_i h2
        rw [if_neg h2] at h
        exact absurd rfl h

def ChIs (x : List CV × Nat × Nat) (v : VV) (_ : Heap) : Prop := ∃ e : List CV, (∃ u w t, e = [u, w, t]) ∧ v = .tup [.agg (e.map .cv), vi .i64 x.2.1, vi .i64 x.2.2] ∧ (x.2.2 = 0 → e = x.1)

theorem change_f42 (b : List UInt8) (v : VV) (hv : SlV 1 (eB b) v) (a : Int) (hb : b.length ≤ 1000000000) :
    ∃ w h', call F 42 [v, vi .i64 a] [] = some (.ret w, h') ∧ ChIs (getCh b a) w h' := by
  refine call_E (fn := f42) rfl ?_
  simp only [f42]
  generalize hs0 : ([v, vi .i64 a] ++ List.replicate _ VV.undef : List VV) = s
  have hs : s.length = 67 := by rw [← hs0]; rfl
  have h0 : s.getD 0 .undef = v := by rw [← hs0]; rfl
  have h1 : s.getD 1 .undef = vi .i64 a := by rw [← hs0]; rfl
  clear hs0
  simp only [go_sem, Nat.reduceLT, Nat.reduceEqDiff, reduceCtorEq, Int.reduceLT, Int.reduceEq, hs, h0, h1, List.nil_append, List.length_nil]
  refine XO_callP (by simp only [List.map, go_sem, Nat.reduceLT, Nat.reduceEqDiff, reduceCtorEq, Int.reduceLT, Int.reduceEq, hs, h0, h1]; exact hv.clos (clos_cv (clos_cv clos_nil))) (rtext_f37 b v hv a 30 [] hb) clos_tup3 ?_
  have hbd := getText_bound b a 30
  unfold getCh
  generalize getText b a 30 = x at hbd ⊢
  obtain ⟨k, j, e⟩ := x
  simp only [go_sem, Nat.reduceLT, Nat.reduceEqDiff, reduceCtorEq, Int.reduceLT, Int.reduceEq, hs] at hbd ⊢
  rw [X_eq f42_0.eq_1]
  by_cases c1 : (e : Int) = 0
  · have c1' : e = 0 := by omega
    subst c1'
    obtain ⟨hj, _⟩ := hbd rfl
    by_cases c2 : (j : Int) = (b.length : Int)
    · have hg : b[j]? = none := List.getElem?_eq_none (by omega)
      simp only [go_sem, Nat.reduceLT, Nat.reduceEqDiff, reduceCtorEq, Int.reduceLT, Int.reduceEq, hs, h0, eq_true c1, hv.ln, eB_len, eq_true c2, hg]
      rw [X_eq f42_1.eq_1]
      simp only [go_sem, Nat.reduceLT, Nat.reduceEqDiff, reduceCtorEq, Int.reduceLT, Int.reduceEq, hs]
      rw [X_eq f42_2.eq_1]
      simp only [go_sem, Nat.reduceLT, Nat.reduceEqDiff, reduceCtorEq, Int.reduceLT, Int.reduceEq, hs]
      refine RQ_c2 (id := 0) (by simp only [go_sem, Nat.reduceLT, Nat.reduceEqDiff, reduceCtorEq, Int.reduceLT, Int.reduceEq, hs]) rfl rfl (by simp only [go_sem, Nat.reduceLT, Nat.reduceEqDiff, reduceCtorEq, Int.reduceLT, Int.reduceEq, hs]) (by simp only [go_sem, Nat.reduceLT, Nat.reduceEqDiff, reduceCtorEq, Int.reduceLT, Int.reduceEq, hs]) ?_
      simp only [go_sem, Nat.reduceLT, Nat.reduceEqDiff, reduceCtorEq, Int.reduceLT, Int.reduceEq, hs]
      exact ⟨ch0, ⟨_, _, _, rfl⟩, rfl, fun h => by simp at h⟩
    · obtain ⟨c, hg⟩ : ∃ c, b[j]? = some c := ⟨_, List.getElem?_eq_getElem (show j < b.length by omega)⟩
      have hia : ∀ h : Heap, iaO h 1 v (vi .i64 (j : Int)) = some (.rptr (byteCell c), h) := fun h => hv.ia (by omega) (by exact eB_get hg)
      have e5 : IntKind.i64.wrap ((j : Int) + 1) = ((j + 1 : Nat) : Int) := by rw [IntWalk.i64_in _ (by omega)]; omega
      simp only [go_sem, Nat.reduceLT, Nat.reduceEqDiff, reduceCtorEq, Int.reduceLT, Int.reduceEq, hs, h0, eq_true c1, hv.ln, eB_len, c2, hg]
      rw [X_eq f42_1.eq_1]
      by_cases c4 : (1 : Int) < (c.toNat : Int)
      · have c4' : 1 < c.toNat := by omega
        have c3' : ¬ c.toNat = 1 := by omega
        simp only [go_sem, Nat.reduceLT, Nat.reduceEqDiff, reduceCtorEq, Int.reduceLT, Int.reduceEq, hs, h0, eq_true c1, hia, byteCell, c4, c4', c3']
        rw [X_eq f42_2.eq_1]
        simp only [go_sem, Nat.reduceLT, Nat.reduceEqDiff, reduceCtorEq, Int.reduceLT, Int.reduceEq, hs]
        refine RQ_c2 (id := 0) (by simp only [go_sem, Nat.reduceLT, Nat.reduceEqDiff, reduceCtorEq, Int.reduceLT, Int.reduceEq, hs]) rfl rfl (by simp only [go_sem, Nat.reduceLT, Nat.reduceEqDiff, reduceCtorEq, Int.reduceLT, Int.reduceEq, hs]) (by simp only [go_sem, Nat.reduceLT, Nat.reduceEqDiff, reduceCtorEq, Int.reduceLT, Int.reduceEq, hs]) ?_
        simp only [go_sem, Nat.reduceLT, Nat.reduceEqDiff, reduceCtorEq, Int.reduceLT, Int.reduceEq, hs]
        exact ⟨ch0, ⟨_, _, _, rfl⟩, rfl, fun h => by simp at h⟩
      · have c4' : ¬ 1 < c.toNat := by omega
        by_cases c3 : (c.toNat : Int) = 1
        · have c3' : c.toNat = 1 := by omega
          simp only [go_sem, Nat.reduceLT, Nat.reduceEqDiff, reduceCtorEq, Int.reduceLT, Int.reduceEq, hs, h0, eq_true c1, hia, byteCell, c4]
          rw [X_eq f42_2.eq_1]
          simp only [go_sem, Nat.reduceLT, Nat.reduceEqDiff, reduceCtorEq, Int.reduceLT, Int.reduceEq, hs, eq_true c1]
          rw [X_eq f42_3.eq_1]
          simp only [go_sem, Nat.reduceLT, Nat.reduceEqDiff, reduceCtorEq, Int.reduceLT, Int.reduceEq, hs, h0, hia, byteCell, eq_true c3, bd_3k, e5]
          rw [if_pos c3']
          refine RQ_c2 (id := 0) (by simp only [go_sem, Nat.reduceLT, Nat.reduceEqDiff, reduceCtorEq, Int.reduceLT, Int.reduceEq, hs]) rfl rfl (by simp only [go_sem, Nat.reduceLT, Nat.reduceEqDiff, reduceCtorEq, Int.reduceLT, Int.reduceEq, hs]) (by simp only [go_sem, Nat.reduceLT, Nat.reduceEqDiff, reduceCtorEq, Int.reduceLT, Int.reduceEq, hs]) ?_
          simp only [go_sem, Nat.reduceLT, Nat.reduceEqDiff, reduceCtorEq, Int.reduceLT, Int.reduceEq, hs]
          exact ⟨_, ⟨_, _, _, rfl⟩, rfl, fun _ => rfl⟩
        · have c3' : ¬ c.toNat = 1 := by omega
          simp only [go_sem, Nat.reduceLT, Nat.reduceEqDiff, reduceCtorEq, Int.reduceLT, Int.reduceEq, hs, h0, eq_true c1, hia, byteCell, c4]
          rw [X_eq f42_2.eq_1]
          simp only [go_sem, Nat.reduceLT, Nat.reduceEqDiff, reduceCtorEq, Int.reduceLT, Int.reduceEq, hs, eq_true c1]
          rw [X_eq f42_3.eq_1]
          simp only [go_sem, Nat.reduceLT, Nat.reduceEqDiff, reduceCtorEq, Int.reduceLT, Int.reduceEq, hs, h0, hia, byteCell, c3, e5]
          rw [if_neg c3', if_neg c4']
          refine XO_callP (by simp only [List.map, go_sem, Nat.reduceLT, Nat.reduceEqDiff, reduceCtorEq, Int.reduceLT, Int.reduceEq, hs]; exact hv.clos (clos_cv (clos_cv clos_nil))) (rtext_f37 b v hv (j + 1 : Nat) 150 [] hb) clos_tup3 ?_
          have hte := getText_err b (j + 1 : Nat) 150
          generalize getText b (j + 1 : Nat) 150 = y at hte ⊢
          obtain ⟨u, j2, e2⟩ := y
          simp only [go_sem, Nat.reduceLT, Nat.reduceEqDiff, reduceCtorEq, Int.reduceLT, Int.reduceEq, hs] at hte ⊢
          rw [X_eq f42_4.eq_1]
          by_cases c5 : (e2 : Int) = 0
          · have c5' : e2 = 0 := by omega
            subst c5'
            simp only [go_sem, Nat.reduceLT, Nat.reduceEqDiff, reduceCtorEq, Int.reduceLT, Int.reduceEq, hs, eq_true c5, bd_3v]
            refine RQ_c2 (id := 0) (by simp only [go_sem, Nat.reduceLT, Nat.reduceEqDiff, reduceCtorEq, Int.reduceLT, Int.reduceEq, hs]) rfl rfl (by simp only [go_sem, Nat.reduceLT, Nat.reduceEqDiff, reduceCtorEq, Int.reduceLT, Int.reduceEq, hs]) (by simp only [go_sem, Nat.reduceLT, Nat.reduceEqDiff, reduceCtorEq, Int.reduceLT, Int.reduceEq, hs]) ?_
            simp only [go_sem, Nat.reduceLT, Nat.reduceEqDiff, reduceCtorEq, Int.reduceLT, Int.reduceEq, hs]
            exact ⟨_, ⟨_, _, _, rfl⟩, rfl, fun _ => rfl⟩
          · have c5' : e2 ≠ 0 := by omega
            have := hte c5'
            subst this
            simp only [go_sem, Nat.reduceLT, Nat.reduceEqDiff, reduceCtorEq, Int.reduceLT, Int.reduceEq, hs, c5]
            refine RQ_c2 (id := 0) (by simp only [go_sem, Nat.reduceLT, Nat.reduceEqDiff, reduceCtorEq, Int.reduceLT, Int.reduceEq, hs]) rfl rfl (by simp only [go_sem, Nat.reduceLT, Nat.reduceEqDiff, reduceCtorEq, Int.reduceLT, Int.reduceEq, hs]) (by simp only [go_sem, Nat.reduceLT, Nat.reduceEqDiff, reduceCtorEq, Int.reduceLT, Int.reduceEq, hs]) ?_
            simp only [go_sem, Nat.reduceLT, Nat.reduceEqDiff, reduceCtorEq, Int.reduceLT, Int.reduceEq, hs]
            exact ⟨ch0, ⟨_, _, _, rfl⟩, rfl, fun h => absurd h c5'⟩
  · have c1' : ¬ e = 0 := by omega
    simp only [go_sem, Nat.reduceLT, Nat.reduceEqDiff, reduceCtorEq, Int.reduceLT, Int.reduceEq, hs, c1, c1']
    rw [X_eq f42_1.eq_1]
    simp only [go_sem, Nat.reduceLT, Nat.reduceEqDiff, reduceCtorEq, Int.reduceLT, Int.reduceEq, hs, c1]
    rw [X_eq f42_2.eq_1]
    simp only [go_sem, Nat.reduceLT, Nat.reduceEqDiff, reduceCtorEq, Int.reduceLT, Int.reduceEq, hs, c1]
    refine RQ_c2 (id := 0) (by simp only [go_sem, Nat.reduceLT, Nat.reduceEqDiff, reduceCtorEq, Int.reduceLT, Int.reduceEq, hs]) rfl rfl (by simp only [go_sem, Nat.reduceLT, Nat.reduceEqDiff, reduceCtorEq, Int.reduceLT, Int.reduceEq, hs]) (by simp only [go_sem, Nat.reduceLT, Nat.reduceEqDiff, reduceCtorEq, Int.reduceLT, Int.reduceEq, hs]) ?_
    simp only [go_sem, Nat.reduceLT, Nat.reduceEqDiff, reduceCtorEq, Int.reduceLT, Int.reduceEq, hs]
    exact ⟨ch0, ⟨_, _, _, rfl⟩, rfl, fun h => absurd h c1'⟩

theorem f38_loop (b : List UInt8) (vb_ : VV) (hv : SlV 1 (eB b) vb_) (hb : b.length ≤ 1000000000) (n : Nat) (hn : n ≤ 5000) : ∀ (m i a : Nat) (out : List (List CV)) (s : List VV) (h : Heap) (v : VV) (Q : Pst), i + m = n → out.length + m ≤ 5000 → s.length = 54 →
    s.getD 0 .undef = vb_ → s.getD 4 .undef = vi .i64 n → s.getD 5 .undef = vi .i64 a → s.getD 6 .undef = vi .i64 0 → s.getD 7 .undef = v → s.getD 8 .undef = vi .i64 i → BufG h 3 out v →
    (∀ o s' h', RL 3 54 vb_ (wholeF (getCh b) m a out) o s' h' → Q o ⟨s', h'⟩) →
    X F (.loop f38_1) ⟨s, h⟩ Q := by
  intro m
  induction m with
  | zero =>
    intro i a out s h v Q hi hol hs h0 h4 h5 h6 h7 h8 hbuf hQ
    rw [X_loop, X_eq f38_1.eq_1]
    have hlt : ¬ (i : Int) < (n : Int) := by omega
    simp only [go_sem, Nat.reduceLT, Nat.reduceEqDiff, reduceCtorEq, Int.reduceLT, Int.reduceEq, hs, h4, h6, h8, hlt]
    exact hQ _ _ _ ⟨by simp only [slot_len, hs], .inr ⟨rfl, rfl, by simp only [go_sem, Nat.reduceLT, Nat.reduceEqDiff, reduceCtorEq, Int.reduceLT, Int.reduceEq, h0], ⟨v, by simp only [go_sem, Nat.reduceLT, Nat.reduceEqDiff, reduceCtorEq, Int.reduceLT, Int.reduceEq, h7], hbuf⟩, by simp only [go_sem, Nat.reduceLT, Nat.reduceEqDiff, reduceCtorEq, Int.reduceLT, Int.reduceEq, h5, wholeF], by simp only [go_sem, Nat.reduceLT, Nat.reduceEqDiff, reduceCtorEq, Int.reduceLT, Int.reduceEq, h6]⟩⟩
  | succ m ih =>
    intro i a out s h v Q hi hol hs h0 h4 h5 h6 h7 h8 hbuf hQ
    rw [X_loop, X_eq f38_1.eq_1]
    have hlt : (i : Int) < (n : Int) := by omega
    simp only [go_sem, Nat.reduceLT, Nat.reduceEqDiff, reduceCtorEq, Int.reduceLT, Int.reduceEq, hs, h0, h4, h5, h6, h8, hlt]
    obtain ⟨w, hc, hcall, e, ⟨u1, u2, u3, rfl⟩, rfl, he⟩ := change_f42 b vb_ hv a hb
    refine XO_callP (by simp only [List.map, go_sem, Nat.reduceLT, Nat.reduceEqDiff, reduceCtorEq, Int.reduceLT, Int.reduceEq, hs, h0, h5]; exact hv.clos (clos_cv clos_nil)) hcall clos_ch ?_
    simp only [wholeF] at hQ
    simp only [go_sem, Nat.reduceLT, Nat.reduceEqDiff, reduceCtorEq, Int.reduceLT, Int.reduceEq, hs]
    rw [X_eq f38_0.eq_1]
    by_cases c1 : ((getCh b a).2.2 : Int) = 0
    · have c1' : (getCh b a).2.2 = 0 := by omega
      have e5 : IntKind.i64.wrap ((i : Int) + 1) = ((i + 1 : Nat) : Int) := by rw [IntWalk.i64_in _ (by omega)]; omega
      simp only [go_sem, Nat.reduceLT, Nat.reduceEqDiff, reduceCtorEq, Int.reduceLT, Int.reduceEq, hs, h7, eq_true c1]
      refine XO_appG (new := [[u1, u2, u3]]) (hbuf.push _) (by simp only [go_sem, Nat.reduceLT, Nat.reduceEqDiff, reduceCtorEq, Int.reduceLT, Int.reduceEq, hs]) (by simp only [go_sem, Nat.reduceLT, Nat.reduceEqDiff, reduceCtorEq, Int.reduceLT, Int.reduceEq, hs]) (by simp only [List.length_singleton]; omega) (by simp only [List.length_singleton]; omega) (fun v' h' hb' _ _ => ?_)
      simp only [go_sem, Nat.reduceLT, Nat.reduceEqDiff, reduceCtorEq, Int.reduceLT, Int.reduceEq, hs, h8, e5]
      refine ih (i + 1) (getCh b a).2.1 (out ++ [(getCh b a).1]) _ h' v' Q (by omega) (by simp only [List.length_append, List.length_singleton]; omega) (by simp only [slot_len, hs]) (by simp only [go_sem, Nat.reduceLT, Nat.reduceEqDiff, reduceCtorEq, Int.reduceLT, Int.reduceEq, h0]) (by simp only [go_sem, Nat.reduceLT, Nat.reduceEqDiff, reduceCtorEq, Int.reduceLT, Int.reduceEq, h4]) (by simp only [go_sem, Nat.reduceLT, Nat.reduceEqDiff, reduceCtorEq, Int.reduceLT, Int.reduceEq, hs]) (by simp only [go_sem, Nat.reduceLT, Nat.reduceEqDiff, reduceCtorEq, Int.reduceLT, Int.reduceEq, h6]) (by simp only [go_sem, Nat.reduceLT, Nat.reduceEqDiff, reduceCtorEq, Int.reduceLT, Int.reduceEq, hs]) (by simp only [go_sem, Nat.reduceLT, Nat.reduceEqDiff, reduceCtorEq, Int.reduceLT, Int.reduceEq, hs]) (by rw [← he c1']; exact hb') ?_
      simp only [c1', ne_eq, not_true_eq_false, if_false] at hQ
      exact hQ
    · have c1' : ¬ (getCh b a).2.2 = 0 := by omega
      simp only [go_sem, Nat.reduceLT, Nat.reduceEqDiff, reduceCtorEq, Int.reduceLT, Int.reduceEq, hs, c1]
      refine hQ _ _ _ ⟨by simp only [slot_len, hs], .inl ?_⟩
      simp only [ne_eq, c1', not_false_eq_true, if_true]
      exact ⟨trivial, trivial, by simp only [go_sem, Nat.reduceLT, Nat.reduceEqDiff, reduceCtorEq, Int.reduceLT, Int.reduceEq, hs], by simp only [go_sem, Nat.reduceLT, Nat.reduceEqDiff, reduceCtorEq, Int.reduceLT, Int.reduceEq, hs]⟩

end Go.V01

set_option linter.unusedSimpArgs false
set_option linter.unusedVariables false
namespace Go.V01
open Go Go.Vm

/-- Changes, by the document. -/
theorem rchs_f38 (b : List UInt8) (vb_ : VV) (hv : SlV 1 (eB b) vb_) (hb : b.length ≤ 1000000000) :
    ∃ v h', call F 38 [vb_] [] = some (.ret v, h') ∧ CloseTo (.tup [slV 3 (wholeB (getCh b) b).1, vi .i64 (wholeB (getCh b) b).2]) v h' := by
  refine call_E (fn := f38) rfl ?_
  simp only [f38]
  generalize hs0 : ([vb_] ++ List.replicate _ VV.undef : List VV) = s
  have hs : s.length = 54 := by rw [← hs0]; rfl
  have h0 : s.getD 0 .undef = vb_ := by rw [← hs0]; rfl
  clear hs0
  simp only [go_sem, Nat.reduceLT, Nat.reduceEqDiff, reduceCtorEq, Int.reduceLT, Int.reduceEq, hs, h0]
  obtain ⟨g1, hc1⟩ := many_f41 b vb_ hv [] hb
  refine XO_callP (by simp only [List.map, go_sem, Nat.reduceLT, Nat.reduceEqDiff, reduceCtorEq, Int.reduceLT, Int.reduceEq, hs]; exact hv.clos clos_nil) hc1 clos_tup3 ?_
  unfold wholeB manyF
  have hbd := getNum_bound b 0
  generalize getNum b 0 = x at hbd ⊢
  obtain ⟨n, a, e⟩ := x
  simp only at hbd ⊢
  -- the loop is left at once
  have bad : ∀ (e' : Nat) (a' n' : Nat) (s' : List VV) (w : VV), s'.length = 54 → e' ≠ 0 → s'.getD 0 .undef = vb_ → s'.getD 6 .undef = vi .i64 e' → s'.getD 4 .undef = vi .i64 n' → s'.getD 8 .undef = vi .i64 0 → w = .tup [slV 3 [], vi .i64 e'] →
      X F (.loop f38_1) ⟨s', []⟩ (B 0 (K F (.seq f38_2 (.seq f38_3 (.seq (.reg [⟨none, (some 53), (.mv (.t 7))⟩, ⟨none, (some 2), (.mv (.t 53))⟩, ⟨none, (some 3), (.mv (.c (.cv (.sc (.int .i64 0)))))⟩]) .ret))) (RQ [.t 2, .t 3] (CloseTo w)))) := by
    intro e' a' n' s' w hs' he h0' h6' h4' h8' hw
    have he' : ¬ (e' : Int) = 0 := by omega
    rw [X_loop, X_eq f38_1.eq_1]
    by_cases hlt : (0 : Int) < (n' : Int)
    · simp only [go_sem, Nat.reduceLT, Nat.reduceEqDiff, reduceCtorEq, Int.reduceLT, Int.reduceEq, hs', h4', h6', h8', hlt, he']
      rw [X_eq f38_2.eq_1]
      simp only [go_sem, Nat.reduceLT, Nat.reduceEqDiff, reduceCtorEq, Int.reduceLT, Int.reduceEq, hs', h6', he']
      rw [X_eq f38_3.eq_1]
      simp only [go_sem, Nat.reduceLT, Nat.reduceEqDiff, reduceCtorEq, Int.reduceLT, Int.reduceEq, hs', h6', he']
      rw [hw]; rfl
    · simp only [go_sem, Nat.reduceLT, Nat.reduceEqDiff, reduceCtorEq, Int.reduceLT, Int.reduceEq, hs', h4', h6', h8', hlt, he']
      rw [X_eq f38_2.eq_1]
      simp only [go_sem, Nat.reduceLT, Nat.reduceEqDiff, reduceCtorEq, Int.reduceLT, Int.reduceEq, hs', h6', he']
      rw [X_eq f38_3.eq_1]
      simp only [go_sem, Nat.reduceLT, Nat.reduceEqDiff, reduceCtorEq, Int.reduceLT, Int.reduceEq, hs', h6', he']
      rw [hw]; rfl
  by_cases c1 : e = 0
  · subst c1
    by_cases c2 : 5000 < n
    · simp only [go_sem, Nat.reduceLT, Nat.reduceEqDiff, reduceCtorEq, Int.reduceLT, Int.reduceEq, hs, h0, c2, and_self]
      exact bad 3 a n _ _ (by simp only [slot_len, hs]) (by decide) (by simp only [go_sem, Nat.reduceLT, Nat.reduceEqDiff, reduceCtorEq, Int.reduceLT, Int.reduceEq, h0]) (by simp only [go_sem, Nat.reduceLT, Nat.reduceEqDiff, reduceCtorEq, Int.reduceLT, Int.reduceEq, hs]) (by simp only [go_sem, Nat.reduceLT, Nat.reduceEqDiff, reduceCtorEq, Int.reduceLT, Int.reduceEq, hs]) (by simp only [go_sem, Nat.reduceLT, Nat.reduceEqDiff, reduceCtorEq, Int.reduceLT, Int.reduceEq, hs]) rfl
    · simp only [go_sem, Nat.reduceLT, Nat.reduceEqDiff, reduceCtorEq, Int.reduceLT, Int.reduceEq, hs, h0, c2, and_false]
      refine f38_loop b vb_ hv hb n (by omega) n 0 a [] _ [] nilS _ (by omega) (by simp only [List.length_nil]; omega) (by simp only [slot_len, hs]) (by simp only [go_sem, Nat.reduceLT, Nat.reduceEqDiff, reduceCtorEq, Int.reduceLT, Int.reduceEq, h0]) (by simp only [go_sem, Nat.reduceLT, Nat.reduceEqDiff, reduceCtorEq, Int.reduceLT, Int.reduceEq, hs]) (by simp only [go_sem, Nat.reduceLT, Nat.reduceEqDiff, reduceCtorEq, Int.reduceLT, Int.reduceEq, hs]) (by simp only [go_sem, Nat.reduceLT, Nat.reduceEqDiff, reduceCtorEq, Int.reduceLT, Int.reduceEq, hs]; rfl) (by simp only [go_sem, Nat.reduceLT, Nat.reduceEqDiff, reduceCtorEq, Int.reduceLT, Int.reduceEq, hs]) (by simp only [go_sem, Nat.reduceLT, Nat.reduceEqDiff, reduceCtorEq, Int.reduceLT, Int.reduceEq, hs]; rfl) (BufG.nil _ _) ?_
      intro o s' h' hR
      generalize wholeF (getCh b) n a [] = y at hR ⊢
      obtain ⟨out, j, e2⟩ := y
      obtain ⟨hs', ⟨k1, rfl, k2, k3⟩ | ⟨k1, rfl, k2, ⟨v, k3, k4⟩, k5, k6⟩⟩ := hR
      · simp only at k1 k3
        simp only [go_sem, Nat.reduceLT, Nat.reduceEqDiff, reduceCtorEq, Int.reduceLT, Int.reduceEq, hs', k2, k3, k1, ne_eq]
        rfl
      · simp only at k1 k4 k5
        subst k1
        simp only [go_sem, Nat.reduceLT, Nat.reduceEqDiff, reduceCtorEq, Int.reduceLT, Int.reduceEq, hs']
        rw [X_eq f38_2.eq_1]
        by_cases c4 : (j : Int) < (b.length : Int)
        · have c4' : j < b.length := by omega
          simp only [go_sem, Nat.reduceLT, Nat.reduceEqDiff, reduceCtorEq, Int.reduceLT, Int.reduceEq, hs', k2, k3, k5, k6, hv.ln, eB_len, c4]
          rw [X_eq f38_3.eq_1]
          simp only [go_sem, Nat.reduceLT, Nat.reduceEqDiff, reduceCtorEq, Int.reduceLT, Int.reduceEq, hs', c4']
          rfl
        · have c4' : ¬ j < b.length := by omega
          simp only [go_sem, Nat.reduceLT, Nat.reduceEqDiff, reduceCtorEq, Int.reduceLT, Int.reduceEq, hs', k2, k3, k5, k6, hv.ln, eB_len, c4]
          rw [X_eq f38_3.eq_1]
          simp only [go_sem, Nat.reduceLT, Nat.reduceEqDiff, reduceCtorEq, Int.reduceLT, Int.reduceEq, hs', k3, k6, c4']
          exact clos_slV k4
  · have c1' : e ≠ 0 := c1
    simp only [go_sem, Nat.reduceLT, Nat.reduceEqDiff, reduceCtorEq, Int.reduceLT, Int.reduceEq, hs, h0, c1, false_and]
    exact bad e a n _ _ (by simp only [slot_len, hs]) c1' (by simp only [go_sem, Nat.reduceLT, Nat.reduceEqDiff, reduceCtorEq, Int.reduceLT, Int.reduceEq, h0]) (by simp only [go_sem, Nat.reduceLT, Nat.reduceEqDiff, reduceCtorEq, Int.reduceLT, Int.reduceEq, hs]) (by simp only [go_sem, Nat.reduceLT, Nat.reduceEqDiff, reduceCtorEq, Int.reduceLT, Int.reduceEq, hs]) (by simp only [go_sem, Nat.reduceLT, Nat.reduceEqDiff, reduceCtorEq, Int.reduceLT, Int.reduceEq, hs]) rfl

theorem ChsE.get {l : List (List CV)} {k : List Ch} (h : ChsE l k) : ∀ {i : Nat}, i < k.length → ∃ e p, l[i]? = some e ∧ k[i]? = some p ∧ chE e p := by
  induction h with
  | nil => intro i hi; simp at hi
  | @cons e p l k h _ ih =>
    intro i hi
    cases i with
    | zero => exact ⟨e, p, rfl, rfl, h⟩
    | succ i =>
      obtain ⟨e', p', h1, h2, h3⟩ := ih (i := i) (by simpa using hi)
      exact ⟨e', p', by simpa using h1, by simpa using h2, h3⟩

theorem f39_loop (l m : List (List CV)) (k : List Ch) (vl vm : VV) (hl : SlV 3 l vl) (hm : SlV 3 m vm) (hR : ChsE l k) (hS : ChsE m k) (hk : k.length ≤ 1000000000) (h : Heap) : ∀ (d i : Nat) (s : List VV) (Q : Pst),
    i + d = k.length → s.length = 56 → s.getD 0 .undef = vl → s.getD 1 .undef = vm → s.getD 5 .undef = vi .i64 i →
    (∀ s', s'.length = 56 → Q (.exit 0) ⟨s', h⟩) → X F (.loop f39_1) ⟨s, h⟩ Q := by
  intro d
  induction d with
  | zero =>
    intro i s Q hi hs h0 h1 h5 hQ
    rw [X_loop, X_eq f39_1.eq_1]
    have hlt : ¬ (i : Int) < (l.length : Int) := by rw [hR.len]; omega
    simp only [go_sem, Nat.reduceLT, Nat.reduceEqDiff, reduceCtorEq, Int.reduceLT, Int.reduceEq, hs, h0, h5, hl.ln, hlt]
    exact hQ _ (by simp only [slot_len, hs])
  | succ d ih =>
    intro i s Q hi hs h0 h1 h5 hQ
    rw [X_loop, X_eq f39_1.eq_1]
    have hlt : (i : Int) < (l.length : Int) := by rw [hR.len]; omega
    obtain ⟨e, p, g1, g2, c, rfl, hc⟩ := hR.get (i := i) (by omega)
    obtain ⟨e', p', g3, g4, c', rfl, hc'⟩ := hS.get (i := i) (by omega)
    rw [g2] at g4; cases g4
    have hia : ∀ h : Heap, iaO h 3 vl (vi .i64 (i : Int)) = some (.rptr [.sc (.string ⟨p.1.toArray⟩), c, .sc (.bool p.2.2)], h) := fun h => hl.ia (by omega) (by exact g1)
    have hib : ∀ h : Heap, iaO h 3 vm (vi .i64 (i : Int)) = some (.rptr [.sc (.string ⟨p.1.toArray⟩), c', .sc (.bool p.2.2)], h) := fun h => hm.ia (by omega) (by exact g3)
    have e5 : IntKind.i64.wrap ((i : Int) + 1) = ((i + 1 : Nat) : Int) := by rw [IntWalk.i64_in _ (by omega)]; omega
    simp only [go_sem, Nat.reduceLT, Nat.reduceEqDiff, reduceCtorEq, Int.reduceLT, Int.reduceEq, hs, h0, h5, hl.ln, hlt]
    refine X_draw rfl ?_
    have hne : decide (p.1 ≠ p.1) = false := by simp
    have hne2 : decide (p.2.1 ≠ p.2.1) = false := by simp
    simp only [go_sem, Nat.reduceLT, Nat.reduceEqDiff, reduceCtorEq, Int.reduceLT, Int.reduceEq, Int.cast_ofNat_Int, Int.ofNat_zero, BEq.rfl, beq_self_eq_true, hs, h0, h1, h5, hia, hib, hc.bs, hc'.bs, e5]
    exact ih (i + 1) _ Q (by omega) (by simp only [slot_len, hs]) (by simp only [go_sem, Nat.reduceLT, Nat.reduceEqDiff, reduceCtorEq, Int.reduceLT, Int.reduceEq, h0]) (by simp only [go_sem, Nat.reduceLT, Nat.reduceEqDiff, reduceCtorEq, Int.reduceLT, Int.reduceEq, h1]) (by simp only [go_sem, Nat.reduceLT, Nat.reduceEqDiff, reduceCtorEq, Int.reduceLT, Int.reduceEq, hs]) hQ

theorem sameC_f39 (l m : List (List CV)) (k : List Ch) (vl vm : VV) (hl : SlV 3 l vl) (hm : SlV 3 m vm) (hR : ChsE l k) (hS : ChsE m k) (hk : k.length ≤ 1000000000) (h : Heap) :
    ∃ v h', call F 39 [vl, vm] h = some (.ret v, h') ∧ ValIs (vb true) v h' := by
  refine call_E (fn := f39) rfl ?_
  simp only [f39]
  generalize hs0 : ([vl, vm] ++ List.replicate _ VV.undef : List VV) = s
  have hs : s.length = 56 := by rw [← hs0]; rfl
  have h0 : s.getD 0 .undef = vl := by rw [← hs0]; rfl
  have h1 : s.getD 1 .undef = vm := by rw [← hs0]; rfl
  clear hs0
  simp only [go_sem, Nat.reduceLT, Nat.reduceEqDiff, reduceCtorEq, Int.reduceLT, Int.reduceEq, hs]
  rw [X_eq f39_0.eq_1]
  have hne : ((l.length : Int) ≠ (m.length : Int)) = False := by simp [hR.len, hS.len]
  simp only [go_sem, Nat.reduceLT, Nat.reduceEqDiff, reduceCtorEq, Int.reduceLT, Int.reduceEq, hs, h0, h1, hl.ln, hm.ln, hR.len, hS.len]
  refine f39_loop l m k vl vm hl hm hR hS hk h k.length 0 _ _ (by omega) (by simp only [slot_len, hs]) (by simp only [go_sem, Nat.reduceLT, Nat.reduceEqDiff, reduceCtorEq, Int.reduceLT, Int.reduceEq, h0]) (by simp only [go_sem, Nat.reduceLT, Nat.reduceEqDiff, reduceCtorEq, Int.reduceLT, Int.reduceEq, h1]) (by simp only [go_sem, Nat.reduceLT, Nat.reduceEqDiff, reduceCtorEq, Int.reduceLT, Int.reduceEq, hs]; rfl) ?_
  intro s' hs'
  simp only [go_sem, Nat.reduceLT, Nat.reduceEqDiff, reduceCtorEq, Int.reduceLT, Int.reduceEq, hs']
  rfl

theorem getText_le (b : List UInt8) (a m : Int) : (getText b a m).2.2 ≤ 11 := by
  have h := (getNum_bound b a).2.2
  unfold getText
  split
  · exact h
  · split
    · simp
    · split <;> simp
theorem getRow_le (b : List UInt8) (a : Int) : (getRow b a).2.2 ≤ 11 := by
  unfold getRow
  split
  · exact getText_le _ _ _
  · exact getText_le _ _ _
theorem getCh_le (b : List UInt8) (a : Int) : (getCh b a).2.2 ≤ 11 := by
  unfold getCh
  split
  · exact getText_le _ _ _
  · split
    · simp
    · split
      · simp
      · split
        · simp
        · exact getText_le _ _ _
theorem wholeF_le {get : Int → List CV × Nat × Nat} (hg : ∀ a, (get a).2.2 ≤ 11) : ∀ n a out, (wholeF get n a out).2.2 ≤ 11
  | 0, _, _ => by simp [wholeF]
  | n + 1, a, out => by
    simp only [wholeF]
    split
    · exact hg _
    · exact wholeF_le hg n _ _
theorem wholeB_le {get : Int → List CV × Nat × Nat} (hg : ∀ a, (get a).2.2 ≤ 11) (b : List UInt8) : (wholeB get b).2 ≤ 11 := by
  unfold wholeB
  simp only
  split
  · exact (getNum_bound b 0).2.2
  · split
    · simp
    · split
      · exact wholeF_le hg _ _ _
      · split <;> simp
theorem wholeB_none {get : Int → List CV × Nat × Nat} (b : List UInt8) (h : (wholeB get b).2 ≠ 0) : (wholeB get b).1 = [] := by
  unfold wholeB at h ⊢
  simp only at h ⊢
  split
  · rfl
  · rename_i h0
    rw [if_neg h0] at h
    split
    · rfl
    · rename_i h1
      rw [if_neg h1] at h
      split
      · rfl
      · rename_i h2
        rw [if_neg h2] at h
        split
        · rfl
        · rename_i h3
          rw [if_neg h3] at h
          exact absurd rfl h
theorem wholeB_rowsE (b : List UInt8) : ∃ kv, RowsE (wholeB (getRow b) b).1 kv ∧ kv.length ≤ b.length := by
  by_cases h : (wholeB (getRow b) b).2 = 0
  · obtain ⟨kv, h1, h2, _⟩ := wholeB_back h
    refine ⟨kv, by rw [h1]; exact rowCs_E kv, ?_⟩
    have := congrArg List.length h2
    unfold rowsB at this
    rw [List.length_append] at this
    have := flatL_le kv
    omega
  · exact ⟨[], by rw [wholeB_none b h]; exact .nil, by simp⟩
theorem wholeB_chsE (b : List UInt8) : ∃ kv, ChsE (wholeB (getCh b) b).1 kv ∧ kv.length ≤ b.length := by
  by_cases h : (wholeB (getCh b) b).2 = 0
  · obtain ⟨kv, h1, h2, h3⟩ := wholeB_backC h
    refine ⟨kv, by rw [h1]; exact chCs_E kv h3, ?_⟩
    have := congrArg List.length h2
    unfold chsB at this
    rw [List.length_append] at this
    have := flatC_le kv
    omega
  · exact ⟨[], by rw [wholeB_none b h]; exact .nil, by simp⟩

theorem wrap_le {n : Nat} (h : n ≤ 1000000000) : IntKind.i64.wrap (n : Int) = (n : Int) := IntWalk.i64_in _ (by omega)

theorem gets_f26 (b : List UInt8) (v : VV) (hv : SlV 1 (eB b) v) (a m : Int) (hb : b.length ≤ 1000000000) (h : Heap) : ∃ w h', call F 26 [v, vi .i64 a, vi .i64 m] h = some (.ret w, h') ∧ ValIs (vb true) w h' := by
  refine call_E (fn := f26) rfl ?_
  simp only [f26]
  generalize hs0 : ([v, vi .i64 a, vi .i64 m] ++ List.replicate _ VV.undef : List VV) = s
  have hs : s.length = 79 := by rw [← hs0]; rfl
  have h0 : s.getD 0 .undef = v := by rw [← hs0]; rfl
  have h1 : s.getD 1 .undef = vi .i64 a := by rw [← hs0]; rfl
  have h2 : s.getD 2 .undef = vi .i64 m := by rw [← hs0]; rfl
  clear hs0
  have q1 := (getNum_bound b a).2.2
  have q2 := getText_le b a m
  simp only [go_sem, Nat.reduceLT, Nat.reduceEqDiff, reduceCtorEq, Int.reduceLT, Int.reduceEq, hs, h0, h1]
  refine XO_callP (by simp only [List.map, go_sem, Nat.reduceLT, Nat.reduceEqDiff, reduceCtorEq, Int.reduceLT, Int.reduceEq, hs, h0, h1]; exact hv.clos (clos_cv clos_nil)) (num_f13 b v hv a [] hb) clos_tup3 ?_
  simp only [go_sem, Nat.reduceLT, Nat.reduceEqDiff, reduceCtorEq, Int.reduceLT, Int.reduceEq, hs, h0, h1]
  refine XO_callP (by simp only [List.map, go_sem, Nat.reduceLT, Nat.reduceEqDiff, reduceCtorEq, Int.reduceLT, Int.reduceEq, hs, h0, h1]; exact hv.clos (clos_cv clos_nil)) (rget_f36 b v hv a [] hb) clos_tup3 ?_
  simp only [go_sem, Nat.reduceLT, Nat.reduceEqDiff, reduceCtorEq, Int.reduceLT, Int.reduceEq, hs, h0, h1, h2]
  refine XO_callP (by simp only [List.map, go_sem, Nat.reduceLT, Nat.reduceEqDiff, reduceCtorEq, Int.reduceLT, Int.reduceEq, hs, h0, h1, h2]; exact hv.clos (clos_cv (clos_cv clos_nil))) (text_f15 b v hv a m [] hb) clos_tup3 ?_
  simp only [go_sem, Nat.reduceLT, Nat.reduceEqDiff, reduceCtorEq, Int.reduceLT, Int.reduceEq, hs, h0, h1, h2]
  refine XO_callP (by simp only [List.map, go_sem, Nat.reduceLT, Nat.reduceEqDiff, reduceCtorEq, Int.reduceLT, Int.reduceEq, hs, h0, h1, h2]; exact hv.clos (clos_cv (clos_cv clos_nil))) (rtext_f37 b v hv a m [] hb) clos_tup3 ?_
  simp only [go_sem, Nat.reduceLT, Nat.reduceEqDiff, reduceCtorEq, Int.reduceLT, Int.reduceEq, hs, wrap_le (show (getNum b a).2.2 ≤ 1000000000 by omega), wrap_le (show (getText b a m).2.2 ≤ 1000000000 by omega)]
  rfl

theorem reads_f27 (b : List UInt8) (v : VV) (hv : SlV 1 (eB b) v) (hb : b.length ≤ 1000000000) (h : Heap) : ∃ w h', call F 27 [v] h = some (.ret w, h') ∧ ValIs (vb true) w h' := by
  refine call_E (fn := f27) rfl ?_
  simp only [f27]
  generalize hs0 : ([v] ++ List.replicate _ VV.undef : List VV) = s
  have hs : s.length = 55 := by rw [← hs0]; rfl
  have h0 : s.getD 0 .undef = v := by rw [← hs0]; rfl
  clear hs0
  obtain ⟨w1, g1, hc1, hr1⟩ := changes_f24 b v hv hb
  obtain ⟨w2, g2, hc2, hr2⟩ := rchs_f38 b v hv hb
  obtain ⟨w3, g3, hc3, hr3⟩ := rows_f22 b v hv hb
  obtain ⟨w4, g4, hc4, hr4⟩ := rrows_f40 b v hv hb
  obtain ⟨k1, hR1, hl1⟩ := wholeB_chsE b
  obtain ⟨k2, hR2, hl2⟩ := wholeB_rowsE b
  have q1 := wholeB_le (getCh_le b) b
  have q2 := wholeB_le (getRow_le b) b
  generalize (wholeB (getCh b) b).1 = E1 at *
  generalize (wholeB (getCh b) b).2 = e1 at *
  generalize (wholeB (getRow b) b).1 = E2 at *
  generalize (wholeB (getRow b) b).2 = e2 at *
  simp only [go_sem, Nat.reduceLT, Nat.reduceEqDiff, reduceCtorEq, Int.reduceLT, Int.reduceEq, hs, h0]
  refine XO_callP (by simp only [List.map, go_sem, Nat.reduceLT, Nat.reduceEqDiff, reduceCtorEq, Int.reduceLT, Int.reduceEq, hs, h0]; exact hv.clos clos_nil) hc1 hr1 ?_
  simp only [go_sem, Nat.reduceLT, Nat.reduceEqDiff, reduceCtorEq, Int.reduceLT, Int.reduceEq, hs, h0]
  refine XO_callP (by simp only [List.map, go_sem, Nat.reduceLT, Nat.reduceEqDiff, reduceCtorEq, Int.reduceLT, Int.reduceEq, hs, h0]; exact hv.clos clos_nil) hc2 hr2 ?_
  simp only [go_sem, Nat.reduceLT, Nat.reduceEqDiff, reduceCtorEq, Int.reduceLT, Int.reduceEq, hs]
  obtain ⟨w5, g5, hc5, hr5⟩ := sameC_f39 E1 E1 k1 (slV 3 E1) (slV 3 E1) slV_SlV slV_SlV hR1 hR1 (by omega) []
  unfold ValIs at hr5
  subst hr5
  refine XO_callP (by simp only [List.map, go_sem, Nat.reduceLT, Nat.reduceEqDiff, reduceCtorEq, Int.reduceLT, Int.reduceEq, hs]; exact slV_SlV.clos (slV_SlV.clos clos_nil)) hc5 res_cv ?_
  simp only [go_sem, Nat.reduceLT, Nat.reduceEqDiff, reduceCtorEq, Int.reduceLT, Int.reduceEq, hs, h0]
  refine XO_callP (by simp only [List.map, go_sem, Nat.reduceLT, Nat.reduceEqDiff, reduceCtorEq, Int.reduceLT, Int.reduceEq, hs, h0]; exact hv.clos clos_nil) hc3 hr3 ?_
  simp only [go_sem, Nat.reduceLT, Nat.reduceEqDiff, reduceCtorEq, Int.reduceLT, Int.reduceEq, hs, h0]
  refine XO_callP (by simp only [List.map, go_sem, Nat.reduceLT, Nat.reduceEqDiff, reduceCtorEq, Int.reduceLT, Int.reduceEq, hs, h0]; exact hv.clos clos_nil) hc4 hr4 ?_
  simp only [go_sem, Nat.reduceLT, Nat.reduceEqDiff, reduceCtorEq, Int.reduceLT, Int.reduceEq, hs]
  obtain ⟨w6, g6, hc6, hr6⟩ := same_f23 E2 E2 k2 (slV 2 E2) (slV 2 E2) slV_SlV slV_SlV hR2 hR2 (by omega) []
  unfold ValIs at hr6
  subst hr6
  refine XO_callP (by simp only [List.map, go_sem, Nat.reduceLT, Nat.reduceEqDiff, reduceCtorEq, Int.reduceLT, Int.reduceEq, hs]; exact slV_SlV.clos (slV_SlV.clos clos_nil)) hc6 res_cv ?_
  simp only [go_sem, Nat.reduceLT, Nat.reduceEqDiff, reduceCtorEq, Int.reduceLT, Int.reduceEq, hs, wrap_le (show e1 ≤ 1000000000 by omega), wrap_le (show e2 ≤ 1000000000 by omega)]
  rfl

theorem law_gets (b : List UInt8) (vb_ : VV) (hvb : SlV 1 (eB b) vb_) (at_ most : Int) (c : List UInt8) (vc : VV) (hvc : SlV 1 (eB c) vc) (a : Nat) (ha : a < 65536) (x how : UInt8) :
    ∃ h', call F 8 [vb_, vi .i64 at_, vi .i64 most, vc, vi .u16 a, vi .u8 x.toNat, vi .u8 how.toNat] [] = some (.ret (vb true), h') := by
  obtain ⟨hk, hknown⟩ := known_f11
  refine call_V (fn := f8) rfl ?_
  simp only [f8]
  generalize hs0 : ([vb_, vi .i64 at_, vi .i64 most, vc, vi .u16 a, vi .u8 x.toNat, vi .u8 how.toNat] ++ List.replicate _ VV.undef : List VV) = s
  have hs : s.length = 59 := by rw [← hs0]; rfl
  have h0 : s.getD 0 .undef = vb_ := by rw [← hs0]; rfl
  have h1 : s.getD 1 .undef = vi .i64 at_ := by rw [← hs0]; rfl
  have h2 : s.getD 2 .undef = vi .i64 most := by rw [← hs0]; rfl
  have h3 : s.getD 3 .undef = vc := by rw [← hs0]; rfl
  have h4 : s.getD 4 .undef = vi .u16 a := by rw [← hs0]; rfl
  have h5 : s.getD 5 .undef = vi .u8 x.toNat := by rw [← hs0]; rfl
  have h6 : s.getD 6 .undef = vi .u8 how.toNat := by rw [← hs0]; rfl
  clear hs0
  simp only [go_sem, Nat.reduceLT, Nat.reduceEqDiff, reduceCtorEq, Int.reduceLT, Int.reduceEq, hs]
  rw [X_eq f8_0.eq_1]
  by_cases c1 : (500 : Int) < (b.length : Int)
  · simp only [go_sem, Nat.reduceLT, Nat.reduceEqDiff, reduceCtorEq, Int.reduceLT, Int.reduceEq, hs, h0, hvb.ln, eB_len, c1]
    refine XO_callP clos_nil hknown res_cv ?_
    simp only [go_sem, Nat.reduceLT, Nat.reduceEqDiff, reduceCtorEq, Int.reduceLT, Int.reduceEq, hs]
    exact rfl
  · have hb : b.length ≤ 500 := by omega
    simp only [go_sem, Nat.reduceLT, Nat.reduceEqDiff, reduceCtorEq, Int.reduceLT, Int.reduceEq, hs, h0, hvb.ln, eB_len, c1]
    refine XO_callP clos_nil hknown res_cv ?_
    obtain ⟨w1, g1, els, hc1, hr1, hR1⟩ := list_pure c vc hvc 8 (by omega)
    have hf := rowL_fits 8 c
    have hkl := rowL_len 8 c
    have hrl := rowsB_len _ hf
    obtain ⟨w2, g2, wr, hc2, hr2, hv2⟩ := rrows_f21 els (rowL 8 c) (slV 2 els) slV_SlV hR1 (by omega) (by omega)
    obtain ⟨w3, g3, wx, hc3, hr3, hv3⟩ := bend_f25 (rowsB (rowL 8 c)) wr hv2 (by omega) a ha x how
    have hXl := bend_len (rowsB (rowL 8 c)) a x how.toNat
    generalize bendL (rowsB (rowL 8 c)) a x how.toNat = X at *
    simp only [go_sem, Nat.reduceLT, Nat.reduceEqDiff, reduceCtorEq, Int.reduceLT, Int.reduceEq, hs, h3, h4, h5, h6]
    refine XO_callP (h1 := []) (by simp only [List.map, go_sem, Nat.reduceLT, Nat.reduceEqDiff, reduceCtorEq, Int.reduceLT, Int.reduceEq, hs, h3]; exact hvc.clos (clos_cv clos_nil)) hc1 hr1 ?_
    simp only [go_sem, Nat.reduceLT, Nat.reduceEqDiff, reduceCtorEq, Int.reduceLT, Int.reduceEq, hs]
    refine XO_callP (h1 := []) (by simp only [List.map, go_sem, Nat.reduceLT, Nat.reduceEqDiff, reduceCtorEq, Int.reduceLT, Int.reduceEq, hs]; exact slV_SlV.clos clos_nil) hc2 hr2 ?_
    simp only [go_sem, Nat.reduceLT, Nat.reduceEqDiff, reduceCtorEq, Int.reduceLT, Int.reduceEq, hs, h4, h5, h6]
    refine XO_callP (h1 := []) (by simp only [List.map, go_sem, Nat.reduceLT, Nat.reduceEqDiff, reduceCtorEq, Int.reduceLT, Int.reduceEq, hs]; exact hv2.clos (clos_cv (clos_cv (clos_cv clos_nil)))) hc3 hr3 ?_
    simp only [go_sem, Nat.reduceLT, Nat.reduceEqDiff, reduceCtorEq, Int.reduceLT, Int.reduceEq, hs, h0, h1, h2]
    obtain ⟨w4, g4, hc4, hr4⟩ := gets_f26 b vb_ hvb at_ most (by omega) []
    unfold ValIs at hr4
    subst hr4
    refine XO_callP (h1 := []) (by simp only [List.map, go_sem, Nat.reduceLT, Nat.reduceEqDiff, reduceCtorEq, Int.reduceLT, Int.reduceEq, hs, h0, h1, h2]; exact hvb.clos (clos_cv (clos_cv clos_nil))) hc4 res_cv ?_
    simp only [go_sem, Nat.reduceLT, Nat.reduceEqDiff, reduceCtorEq, Int.reduceLT, Int.reduceEq, hs, h4, h5]
    obtain ⟨w5, g5, hc5, hr5⟩ := gets_f26 X wx hv3 ((IntKind.i64.wrap (a : Int)).tmod 50) (IntKind.i64.wrap (x.toNat : Int)) (by omega) []
    unfold ValIs at hr5
    subst hr5
    refine XO_callP (h1 := []) (by simp only [List.map, go_sem, Nat.reduceLT, Nat.reduceEqDiff, reduceCtorEq, Int.reduceLT, Int.reduceEq, hs]; exact hv3.clos (clos_cv (clos_cv clos_nil))) hc5 res_cv ?_
    have e2 : IntKind.i64.wrap ((b.length : Int) + 2) = (b.length : Int) + 2 := IntWalk.i64_in _ (by omega)
    have hne : ¬ (b.length : Int) + 2 = 0 := by omega
    simp only [go_sem, Nat.reduceLT, Nat.reduceEqDiff, reduceCtorEq, Int.reduceLT, Int.reduceEq, hs, h0, h4, hvb.ln, eB_len, e2, hne, bin_rem, not_false_eq_true]
    obtain ⟨w6, g6, hc6, hr6⟩ := gets_f26 b vb_ hvb (IntKind.i64.wrap ((IntKind.i64.wrap (a : Int)).tmod ((b.length : Int) + 2) - 1)) 9 (by omega) []
    unfold ValIs at hr6
    subst hr6
    refine XO_callP (h1 := []) (by simp only [List.map, go_sem, Nat.reduceLT, Nat.reduceEqDiff, reduceCtorEq, Int.reduceLT, Int.reduceEq, hs, h0]; exact hvb.clos (clos_cv (clos_cv clos_nil))) hc6 res_cv ?_
    simp only [go_sem, Nat.reduceLT, Nat.reduceEqDiff, reduceCtorEq, Int.reduceLT, Int.reduceEq, hs]
    obtain ⟨w7, g7, hc7, hr7⟩ := reads_f27 X wx hv3 (by omega) []
    unfold ValIs at hr7
    subst hr7
    refine XO_callP (h1 := []) (by simp only [List.map, go_sem, Nat.reduceLT, Nat.reduceEqDiff, reduceCtorEq, Int.reduceLT, Int.reduceEq, hs]; exact hv3.clos clos_nil) hc7 res_cv ?_
    simp only [go_sem, Nat.reduceLT, Nat.reduceEqDiff, reduceCtorEq, Int.reduceLT, Int.reduceEq, hs]
    exact rfl

theorem gets_in {H : Type} {d0 d1 d2 d3 d4 d5 d6 : DataW H} {u0 u1 u2 u3 u4 u5 u6 : VV} (h0 : DV Proofs.Try.prog 23 d0 u0) (h1 : DV Proofs.Try.prog 3 d1 u1) (h2 : DV Proofs.Try.prog 3 d2 u2) (h3 : DV Proofs.Try.prog 23 d3 u3) (h4 : DV Proofs.Try.prog 25 d4 u4) (h5 : DV Proofs.Try.prog 5 d5 u5) (h6 : DV Proofs.Try.prog 5 d6 u6) :
    ∃ h', call F 8 [u0, u1, u2, u3, u4, u5, u6] [] = some (.ret (vb true), h') := by
  obtain ⟨b, hb, _⟩ := DV_bytes Proofs.Try.underlying23 Proofs.Try.underlying5 (by kernel_rfl) h0
  obtain ⟨p, rfl, _⟩ := DV_i64 Proofs.Try.underlying3 h1
  obtain ⟨m, rfl, _⟩ := DV_i64 Proofs.Try.underlying3 h2
  obtain ⟨c, hc, _⟩ := DV_bytes Proofs.Try.underlying23 Proofs.Try.underlying5 (by kernel_rfl) h3
  obtain ⟨a, rfl, ha⟩ := DV_u16 Proofs.Try.underlying25 h4
  obtain ⟨x, rfl⟩ := DV_u8 Proofs.Try.underlying5 h5
  obtain ⟨w, rfl⟩ := DV_u8 Proofs.Try.underlying5 h6
  exact law_gets b u0 hb p m c u3 hc a ha x w

end Go.V01

set_option linter.unusedSimpArgs false
set_option linter.unusedVariables false
namespace Go.V01
open Go Go.Vm
open Go.Proofs.Ytpingdgbndmcnaa

/-! ### what the bound says -/

theorem bulk_one {H : Type} (d : DataW H) : 1 ≤ Rows.uptoBulk d := by
  cases d with
  | lit l => cases l <;> simp [Rows.uptoBulk]
  | nil => simp [Rows.uptoBulk]
  | ptr d => simp [Rows.uptoBulk]
  | slice elems spare => simp [Rows.uptoBulk]
  | agg parts => simp [Rows.uptoBulk]
  | iface t d => simp [Rows.uptoBulk]
  | map entries => simp [Rows.uptoBulk]
  | held h => simp [Rows.uptoBulk]
theorem bulk_len {H : Type} (l : List (DataW H)) : l.length ≤ Rows.uptoBulkAll l := by
  induction l with
  | nil => simp [Rows.uptoBulkAll]
  | cons x r ih => have := bulk_one x; simp only [Rows.uptoBulkAll, List.length_cons]; omega
theorem bulk_part {H : Type} {d : DataW H} {l : List (DataW H)} (h : d ∈ l) : Rows.uptoBulk d ≤ Rows.uptoBulkAll l := by
  induction l with
  | nil => cases h
  | cons x r ih =>
    simp only [Rows.uptoBulkAll]
    cases List.mem_cons.1 h with
    | inl e => subst e; omega
    | inr e => have := ih e; omega

theorem DR_bytesB {H : Type} {P : Program} {t e n : Nat} {d : DataW H} {cs : List CV} (hu : P.underlying t = some (.slice e)) (he : P.underlying e = some (.int .u8)) (hc : P.cellsOf e = 1) (h : DR P (n + 2) t d cs) :
    ∃ (l : List UInt8) (c : CV), cs = [c] ∧ SlV 1 (eB l) (.cv c) ∧ l.length + 1 ≤ Rows.uptoBulk d := by
  obtain ⟨l, c, h1, h2, _, ⟨rfl, rfl⟩ | ⟨ds, rest, rfl, hl⟩⟩ := DR_bytes hu he hc h
  · exact ⟨[], c, h1, h2, by simp [Rows.uptoBulk]⟩
  · refine ⟨l, c, h1, h2, ?_⟩
    have := bulk_len ds
    simp only [Rows.uptoBulk]; omega

def sumL (kv : List (List UInt8 × List UInt8)) : Nat := (kv.map fun p => p.1.length + p.2.length + 1).sum
theorem sumL_cons {p : List UInt8 × List UInt8} {kv : List (List UInt8 × List UInt8)} : sumL (p :: kv) = p.1.length + p.2.length + 1 + sumL kv := by simp [sumL]

theorem row_of {H : Type} {d : DataW H} {el : List CV} (h : DR Proofs.Try.prog 7 41 d el) (hlen : el.length = 2) : ∃ p, rowE el p ∧ p.1.length + p.2.length + 1 ≤ Rows.uptoBulk d := by
  obtain ⟨ds, rfl, hd, hc, hf⟩ := DR_struct Proofs.Try.underlying41 h
  match ds, hd with
  | [d1, d2], _ =>
    match el, hlen with
    | [c1, c2], _ =>
      have f1 : DR Proofs.Try.prog 6 9 d1 (([c1, c2].drop 0).take (Proofs.Try.prog.cellsOf 9)) := hf 0 _ d1 rfl rfl
      have f2 : DR Proofs.Try.prog 6 23 d2 (([c1, c2].drop 1).take (Proofs.Try.prog.cellsOf 23)) := hf 1 _ d2 rfl rfl
      have k1 : Proofs.Try.prog.cellsOf 9 = 1 := by kernel_rfl
      have k2 : Proofs.Try.prog.cellsOf 23 = 1 := by kernel_rfl
      rw [k1] at f1
      rw [k2] at f2
      obtain ⟨s, rfl, e1, _⟩ := DR_string Proofs.Try.underlying9 f1
      obtain ⟨l, c, e2, hl, hb⟩ := DR_bytesB Proofs.Try.underlying23 Proofs.Try.underlying5 (by kernel_rfl) f2
      simp at e1 e2
      subst e1 e2
      refine ⟨(s.data.toList, l), ⟨_, rfl, hl⟩, ?_⟩
      simp only [Rows.uptoBulk, Rows.uptoBulkAll]; omega

theorem rows_of {H : Type} {d : DataW H} {u : VV} (h : DV Proofs.Try.prog 35 d u) : ∃ els kv, SlV 2 els u ∧ RowsE els kv ∧ sumL kv + 1 ≤ Rows.uptoBulk d := by
  obtain ⟨c, h1, rfl⟩ := DV_plain (by simp only [isStr, Proofs.Try.underlying35]) h
  have k2 : Proofs.Try.prog.cellsOf 41 = 2 := by kernel_rfl
  rcases DR_slice Proofs.Try.underlying35 h1 with ⟨rfl, e⟩ | ⟨ds, rest, els, rfl, e, h2, h3, h4⟩
  · cases e
    exact ⟨[], [], .inl ⟨rfl, rfl⟩, .nil, by simp [sumL, Rows.uptoBulk]⟩
  · cases e
    rw [k2] at h4 ⊢
    have key : ∀ (els : List (List CV)) (ds : List (DataW H)), els.length = ds.length → (∀ (i : Nat) (el : List CV) (y : DataW H), els[i]? = some el → ds[i]? = some y → el.length = 2 ∧ DR Proofs.Try.prog 7 41 y el) → ∃ kv, RowsE els kv ∧ sumL kv ≤ Rows.uptoBulkAll ds := by
      intro els
      induction els with
      | nil => intro ds _ _; exact ⟨[], .nil, by simp [sumL]⟩
      | cons el r ih =>
        intro ds hl hh
        match ds, hl with
        | y :: ys, hl =>
          obtain ⟨a1, a2⟩ := hh 0 el y rfl rfl
          obtain ⟨p, b1, b2⟩ := row_of a2 a1
          obtain ⟨kv, c1, c2⟩ := ih ys (by simpa using hl) (fun i el y h1 h2 => hh (i + 1) el y (by simpa using h1) (by simpa using h2))
          exact ⟨p :: kv, .cons b1 c1, by rw [sumL_cons]; simp only [Rows.uptoBulkAll]; omega⟩
    obtain ⟨kv, c1, c2⟩ := key els ds h2 h4
    exact ⟨els, kv, .inr ⟨false, rfl⟩, c1, by simp only [Rows.uptoBulk]; omega⟩

/-! ### how much there is -/

theorem f16_loop (l : List (List CV)) (k : List (List UInt8 × List UInt8)) (vl : VV) (hl : SlV 2 l vl) (hR : RowsE l k) (h : Heap) : ∀ (rest : List (List UInt8 × List UInt8)) (i n : Nat) (s : List VV) (Q : Pst),
    k.drop i = rest → i ≤ k.length → k.length ≤ 1048576 → n + sumL rest ≤ 3000000 → s.length = 30 → s.getD 0 .undef = vl → s.getD 3 .undef = vi .i64 n → s.getD 4 .undef = vi .i64 i →
    (∀ s', s'.length = 30 → s'.getD 3 .undef = vi .i64 ((n + (sumL rest - rest.length) : Nat) : Int) → Q (.exit 0) ⟨s', h⟩) → X F (.loop f16_0) ⟨s, h⟩ Q := by
  intro rest
  induction rest with
  | nil =>
    intro i n s Q hd hi hk hn hs h0 h3 h4 hQ
    rw [X_loop, X_eq f16_0.eq_1]
    have hlt : ¬ (i : Int) < (l.length : Int) := by
      have := congrArg List.length hd
      rw [List.length_drop, List.length_nil] at this
      rw [hR.len]; omega
    simp only [go_sem, Nat.reduceLT, Nat.reduceEqDiff, reduceCtorEq, Int.reduceLT, Int.reduceEq, hs, h0, h4, hl.ln, hlt]
    exact hQ _ (by simp only [slot_len, hs]) (by simp only [go_sem, Nat.reduceLT, Nat.reduceEqDiff, reduceCtorEq, Int.reduceLT, Int.reduceEq, h3]; simp [sumL])
  | cons p rest ih =>
    intro i n s Q hd hi hk hn hs h0 h3 h4 hQ
    rw [X_loop, X_eq f16_0.eq_1]
    have hget : k[i]? = some p := by
      have := congrArg (fun x => x[0]?) hd
      simpa using this
    have hilt : i < k.length := (List.getElem?_eq_some_iff.1 hget).1
    have hd' : k.drop (i + 1) = rest := by
      rw [← List.drop_drop, hd]; rfl
    obtain ⟨e, p', g1, g2, c, rfl, hc⟩ := hR.get (i := i) hilt
    rw [hget] at g2; cases g2
    rw [sumL_cons] at hn hQ
    have hlt : (i : Int) < (l.length : Int) := by rw [hR.len]; omega
    have hia : ∀ h : Heap, iaO h 2 vl (vi .i64 (i : Int)) = some (.rptr [.sc (.string ⟨p.1.toArray⟩), c], h) := fun h => hl.ia (by omega) (by exact g1)
    have e5 : IntKind.i64.wrap ((i : Int) + 1) = ((i + 1 : Nat) : Int) := by rw [IntWalk.i64_in _ (by omega)]; omega
    have e6 : IntKind.i64.wrap ((p.1.length : Int) + (p.2.length : Int)) = ((p.1.length + p.2.length : Nat) : Int) := by rw [IntWalk.i64_in _ (by omega)]; omega
    have e7 : IntKind.i64.wrap ((n : Int) + ((p.1.length + p.2.length : Nat) : Int)) = ((n + (p.1.length + p.2.length) : Nat) : Int) := by rw [IntWalk.i64_in _ (by omega)]; omega
    simp only [go_sem, Nat.reduceLT, Nat.reduceEqDiff, reduceCtorEq, Int.reduceLT, Int.reduceEq, hs, h0, h4, hl.ln, hlt]
    refine X_draw rfl ?_
    simp only [go_sem, Nat.reduceLT, Nat.reduceEqDiff, reduceCtorEq, Int.reduceLT, Int.reduceEq, hs, h0, h3, h4, hia, hc.ln, eB_len, e5, e6, e7]
    refine ih (i + 1) (n + (p.1.length + p.2.length)) _ Q hd' (by omega) hk (by omega) (by simp only [slot_len, hs]) (by simp only [go_sem, Nat.reduceLT, Nat.reduceEqDiff, reduceCtorEq, Int.reduceLT, Int.reduceEq, h0]) (by simp only [go_sem, Nat.reduceLT, Nat.reduceEqDiff, reduceCtorEq, Int.reduceLT, Int.reduceEq, hs]) (by simp only [go_sem, Nat.reduceLT, Nat.reduceEqDiff, reduceCtorEq, Int.reduceLT, Int.reduceEq, hs]) ?_
    intro s' a1 a2
    refine hQ s' a1 ?_
    have hsl : ∀ l : List (List UInt8 × List UInt8), l.length ≤ sumL l := by
      intro l
      induction l with
      | nil => simp [sumL]
      | cons q l ih => rw [sumL_cons, List.length_cons]; omega
    have := hsl rest
    have e : n + (p.1.length + p.2.length) + (sumL rest - rest.length) = n + (p.1.length + p.2.length + 1 + sumL rest - (p :: rest).length) := by simp only [List.length_cons]; omega
    rw [a2, e]

theorem much_f16 (l : List (List CV)) (k : List (List UInt8 × List UInt8)) (vl : VV) (hl : SlV 2 l vl) (hR : RowsE l k) (hk : sumL k ≤ 1048576) (h : Heap) : ∃ v h', call F 16 [vl] h = some (.ret v, h') ∧ ValIs (vb (decide ((1500 : Int) < (sumL k : Int)))) v h' := by
  have hsl : ∀ l : List (List UInt8 × List UInt8), l.length ≤ sumL l := by
    intro l
    induction l with
    | nil => simp [sumL]
    | cons q l ih => rw [sumL_cons, List.length_cons]; omega
  have hkl := hsl k
  refine call_E (fn := f16) rfl ?_
  simp only [f16]
  generalize hs0 : ([vl] ++ List.replicate _ VV.undef : List VV) = s
  have hs : s.length = 30 := by rw [← hs0]; rfl
  have h0 : s.getD 0 .undef = vl := by rw [← hs0]; rfl
  clear hs0
  simp only [go_sem, Nat.reduceLT, Nat.reduceEqDiff, reduceCtorEq, Int.reduceLT, Int.reduceEq, hs, h0, hl.ln]
  refine f16_loop l k vl hl hR h k 0 k.length _ _ rfl (by omega) (by omega) (by omega) (by simp only [slot_len, hs]) (by simp only [go_sem, Nat.reduceLT, Nat.reduceEqDiff, reduceCtorEq, Int.reduceLT, Int.reduceEq, h0]) (by simp only [go_sem, Nat.reduceLT, Nat.reduceEqDiff, reduceCtorEq, Int.reduceLT, Int.reduceEq, hs, hR.len]) (by simp only [go_sem, Nat.reduceLT, Nat.reduceEqDiff, reduceCtorEq, Int.reduceLT, Int.reduceEq, hs]; rfl) ?_
  intro s' hs' h3
  have e : k.length + (sumL k - k.length) = sumL k := by omega
  rw [e] at h3
  simp only [go_sem, Nat.reduceLT, Nat.reduceEqDiff, reduceCtorEq, Int.reduceLT, Int.reduceEq, hs', h3]
  rfl

theorem rowsB_sum : ∀ kv : List (List UInt8 × List UInt8), (rowsB kv).length ≤ 8 + 18 * sumL kv := by
  have key : ∀ kv : List (List UInt8 × List UInt8), ((kv.map rowB).flatten).length ≤ 18 * sumL kv := by
    intro kv
    induction kv with
    | nil => simp
    | cons p kv ih =>
      have h1 := num_len p.1.length
      have h2 := num_len p.2.length
      rw [sumL_cons]
      simp only [List.map_cons, List.flatten_cons, List.length_append, rowB, text]
      omega
  intro kv
  have h1 := num_len kv.length
  have := key kv
  unfold rowsB
  rw [List.length_append]; omega

theorem law_puts (n : Int) (t : List UInt8) (l : List (List CV)) (kv : List (List UInt8 × List UInt8)) (vl : VV) (hl : SlV 2 l vl) (hR : RowsE l kv) (hkv : sumL kv ≤ 1048576) (c : List UInt8) (vc : VV) (hvc : SlV 1 (eB c) vc) (k : UInt8) :
    ∃ h', call F 5 [vi .i64 n, txt t, vl, vc, vi .u8 k.toNat] [] = some (.ret (vb true), h') := by
  obtain ⟨hk, hknown⟩ := known_f11
  refine call_V (fn := f5) rfl ?_
  simp only [f5]
  generalize hs0 : ([vi .i64 n, txt t, vl, vc, vi .u8 k.toNat] ++ List.replicate _ VV.undef : List VV) = s
  have hs : s.length = 77 := by rw [← hs0]; rfl
  have h0 : s.getD 0 .undef = vi .i64 n := by rw [← hs0]; rfl
  have h1 : s.getD 1 .undef = txt t := by rw [← hs0]; rfl
  have h2 : s.getD 2 .undef = vl := by rw [← hs0]; rfl
  have h3 : s.getD 3 .undef = vc := by rw [← hs0]; rfl
  have h4 : s.getD 4 .undef = vi .u8 k.toNat := by rw [← hs0]; rfl
  clear hs0
  simp only [go_sem, Nat.reduceLT, Nat.reduceEqDiff, reduceCtorEq, Int.reduceLT, Int.reduceEq, hs]
  rw [X_eq f5_0.eq_1]
  by_cases c1 : (500 : Int) < (t.length : Int)
  · simp only [go_sem, Nat.reduceLT, Nat.reduceEqDiff, reduceCtorEq, Int.reduceLT, Int.reduceEq, hs, h1, c1]
    refine XO_callP clos_nil hknown res_cv ?_
    simp only [go_sem, Nat.reduceLT, Nat.reduceEqDiff, reduceCtorEq, Int.reduceLT, Int.reduceEq, hs]
    exact rfl
  · simp only [go_sem, Nat.reduceLT, Nat.reduceEqDiff, reduceCtorEq, Int.reduceLT, Int.reduceEq, hs, h1, h2, c1]
    obtain ⟨w0, g0, hc0, hr0⟩ := much_f16 l kv vl hl hR hkv []
    unfold ValIs at hr0
    subst hr0
    refine XO_callP (h1 := []) (by simp only [List.map, go_sem, Nat.reduceLT, Nat.reduceEqDiff, reduceCtorEq, Int.reduceLT, Int.reduceEq, hs, h2]; exact hl.clos clos_nil) hc0 res_cv ?_
    by_cases c2 : (1500 : Int) < (sumL kv : Int)
    · simp only [go_sem, Nat.reduceLT, Nat.reduceEqDiff, reduceCtorEq, Int.reduceLT, Int.reduceEq, hs, c2]
      refine XO_callP clos_nil hknown res_cv ?_
      simp only [go_sem, Nat.reduceLT, Nat.reduceEqDiff, reduceCtorEq, Int.reduceLT, Int.reduceEq, hs]
      exact rfl
    · simp only [go_sem, Nat.reduceLT, Nat.reduceEqDiff, reduceCtorEq, Int.reduceLT, Int.reduceEq, hs, c2]
      refine XO_callP clos_nil hknown res_cv ?_
      obtain ⟨w1, g1, els, hc1, hr1, hR1⟩ := list_pure c vc hvc 12 (by omega)
      have hf := rowL_fits 12 c
      have hkl := rowL_len 12 c
      have hrl := rowsB_len _ hf
      have hsum := rowsB_sum kv
      have hkl2 : kv.length ≤ (rowsB kv).length := by
        unfold rowsB; rw [List.length_append]; have := flatL_le kv; omega
      obtain ⟨w2, g2, hc2, hr2⟩ := num_pure n
      obtain ⟨w3, g3, hc3, hr3⟩ := rnum_pure n
      have ek : (k.toNat : Int).tmod 64 = ((k.toNat % 64 : Nat) : Int) := rfl
      have hk0 : ¬ ((k.toNat % 64 : Nat) : Int) < 0 := by omega
      obtain ⟨w4, g4, hc4, hr4⟩ := num_pure (n.fdiv (2 ^ min ((k.toNat % 64 : Nat) : Int).toNat IntKind.i64.bits))
      obtain ⟨w5, g5, hc5, hr5⟩ := rnum_pure (n.fdiv (2 ^ min ((k.toNat % 64 : Nat) : Int).toNat IntKind.i64.bits))
      have hsh : binO .shr (vi .i64 n) (vi .u8 ((k.toNat % 64 : Nat) : Int)) = some (vi .i64 (n.fdiv (2 ^ min ((k.toNat % 64 : Nat) : Int).toNat IntKind.i64.bits))) := bin_shr hk0
      generalize n.fdiv (2 ^ min ((k.toNat % 64 : Nat) : Int).toNat IntKind.i64.bits) = n2 at *
      obtain ⟨w6, g6, hc6, hr6⟩ := text_pure t (by omega)
      obtain ⟨w7, g7, hc7, hr7⟩ := rtext_pure t (by omega)
      obtain ⟨w8, g8, hc8, hb8⟩ := rows_f20 l kv vl hl hR [] (by omega) (by omega)
      obtain ⟨w9, g9, x9, hc9, hr9, hv9⟩ := rrows_f21 l kv vl hl hR (by omega) (by omega)
      obtain ⟨w10, g10, hc10, hb10⟩ := rows_f20 els (rowL 12 c) (slV 2 els) slV_SlV hR1 [] (by omega) (by omega)
      obtain ⟨w11, g11, x11, hc11, hr11, hv11⟩ := rrows_f21 els (rowL 12 c) (slV 2 els) slV_SlV hR1 (by omega) (by omega)
      simp only [go_sem, Nat.reduceLT, Nat.reduceEqDiff, reduceCtorEq, Int.reduceLT, Int.reduceEq, hs, h3]
      refine XO_callP (h1 := []) (by simp only [List.map, go_sem, Nat.reduceLT, Nat.reduceEqDiff, reduceCtorEq, Int.reduceLT, Int.reduceEq, hs, h3]; exact hvc.clos (clos_cv clos_nil)) hc1 hr1 ?_
      simp only [go_sem, Nat.reduceLT, Nat.reduceEqDiff, reduceCtorEq, Int.reduceLT, Int.reduceEq, hs]
      refine X_draw rfl ?_
      simp only [go_sem, Nat.reduceLT, Nat.reduceEqDiff, reduceCtorEq, Int.reduceLT, Int.reduceEq, hs, h0]
      refine XD_callP (by simp only [List.map, go_sem, Nat.reduceLT, Nat.reduceEqDiff, reduceCtorEq, Int.reduceLT, Int.reduceEq, hs]; exact clos_cv clos_nil) hc2 hr2 ?_
      simp only [go_sem, Nat.reduceLT, Nat.reduceEqDiff, reduceCtorEq, Int.reduceLT, Int.reduceEq, hs, h0]
      refine XD_callP (by simp only [List.map, go_sem, Nat.reduceLT, Nat.reduceEqDiff, reduceCtorEq, Int.reduceLT, Int.reduceEq, hs]; exact clos_cv clos_nil) hc3 hr3 ?_
      simp only [go_sem, Nat.reduceLT, Nat.reduceEqDiff, reduceCtorEq, Int.reduceLT, Int.reduceEq, hs, h0, h4, ek, hsh]
      refine XD_callP (by simp only [List.map, go_sem, Nat.reduceLT, Nat.reduceEqDiff, reduceCtorEq, Int.reduceLT, Int.reduceEq, hs]; exact clos_cv clos_nil) hc4 hr4 ?_
      simp only [go_sem, Nat.reduceLT, Nat.reduceEqDiff, reduceCtorEq, Int.reduceLT, Int.reduceEq, hs, h0, h4, ek, hsh]
      refine XD_callP (by simp only [List.map, go_sem, Nat.reduceLT, Nat.reduceEqDiff, reduceCtorEq, Int.reduceLT, Int.reduceEq, hs]; exact clos_cv clos_nil) hc5 hr5 ?_
      simp only [go_sem, Nat.reduceLT, Nat.reduceEqDiff, reduceCtorEq, Int.reduceLT, Int.reduceEq, hs, h1]
      refine XD_callP (by simp only [List.map, go_sem, Nat.reduceLT, Nat.reduceEqDiff, reduceCtorEq, Int.reduceLT, Int.reduceEq, hs]; exact clos_cv clos_nil) hc6 hr6 ?_
      simp only [go_sem, Nat.reduceLT, Nat.reduceEqDiff, reduceCtorEq, Int.reduceLT, Int.reduceEq, hs, h1]
      refine XD_callP (by simp only [List.map, go_sem, Nat.reduceLT, Nat.reduceEqDiff, reduceCtorEq, Int.reduceLT, Int.reduceEq, hs]; exact clos_cv clos_nil) hc7 hr7 ?_
      have bx : ∀ L : List UInt8, bsO [] (slV 1 (eB L)) = some (txt L) := fun L => slV_SlV.bs
      simp only [go_sem, Nat.reduceLT, Nat.reduceEqDiff, reduceCtorEq, Int.reduceLT, Int.reduceEq, hs, bx]
      refine X_draw rfl ?_
      simp only [go_sem, Nat.reduceLT, Nat.reduceEqDiff, reduceCtorEq, Int.reduceLT, Int.reduceEq, hs, h2]
      refine XD_callP (by simp only [List.map, go_sem, Nat.reduceLT, Nat.reduceEqDiff, reduceCtorEq, Int.reduceLT, Int.reduceEq, hs, h2]; exact hl.clos clos_nil) hc8 hb8.close ?_
      simp only [go_sem, Nat.reduceLT, Nat.reduceEqDiff, reduceCtorEq, Int.reduceLT, Int.reduceEq, hs, h2, bx]
      refine XD_callP (by simp only [List.map, go_sem, Nat.reduceLT, Nat.reduceEqDiff, reduceCtorEq, Int.reduceLT, Int.reduceEq, hs, h2]; exact hl.clos clos_nil) hc9 hr9 ?_
      simp only [go_sem, Nat.reduceLT, Nat.reduceEqDiff, reduceCtorEq, Int.reduceLT, Int.reduceEq, hs, bx, hv9.bs]
      refine XD_callP (by simp only [List.map, go_sem, Nat.reduceLT, Nat.reduceEqDiff, reduceCtorEq, Int.reduceLT, Int.reduceEq, hs]; exact slV_SlV.clos clos_nil) hc10 hb10.close ?_
      simp only [go_sem, Nat.reduceLT, Nat.reduceEqDiff, reduceCtorEq, Int.reduceLT, Int.reduceEq, hs, bx]
      refine XD_callP (by simp only [List.map, go_sem, Nat.reduceLT, Nat.reduceEqDiff, reduceCtorEq, Int.reduceLT, Int.reduceEq, hs]; exact slV_SlV.clos clos_nil) hc11 hr11 ?_
      simp only [go_sem, Nat.reduceLT, Nat.reduceEqDiff, reduceCtorEq, Int.reduceLT, Int.reduceEq, hs, bx, hv11.bs]
      exact rfl

theorem puts_in {H : Type} {d0 d1 d2 d3 d4 : DataW H} {u0 u1 u2 u3 u4 : VV} (hb : Rows.uptoBulkAll [d0, d1, d2, d3, d4] ≤ 1048576) (h0 : DV Proofs.Try.prog 3 d0 u0) (h1 : DV Proofs.Try.prog 9 d1 u1) (h2 : DV Proofs.Try.prog 35 d2 u2) (h3 : DV Proofs.Try.prog 23 d3 u3) (h4 : DV Proofs.Try.prog 5 d4 u4) :
    ∃ h', call F 5 [u0, u1, u2, u3, u4] [] = some (.ret (vb true), h') := by
  obtain ⟨n, rfl, _⟩ := DV_i64 Proofs.Try.underlying3 h0
  obtain ⟨t, rfl, _⟩ := DV_str Proofs.Try.underlying9 h1
  obtain ⟨els, kv, hl, hR, hs⟩ := rows_of h2
  obtain ⟨c, hc, _⟩ := DV_bytes Proofs.Try.underlying23 Proofs.Try.underlying5 (by kernel_rfl) h3
  obtain ⟨k, rfl⟩ := DV_u8 Proofs.Try.underlying5 h4
  have := bulk_part (d := d2) (l := [d0, d1, d2, d3, d4]) (by simp)
  exact law_puts n t els kv u2 hl hR (by omega) c u3 hc k

end Go.V01

set_option linter.unusedSimpArgs false
set_option linter.unusedVariables false
namespace Go.V01
open Go Go.Vm
open Go.Proofs.Ytpingdgbndmcnaa

/-! ### changes, by the document -/

theorem chB_le (p : Ch) : (text p.1).length + (if p.2.2 then 1 else 1 + (text p.2.1).length) = (chB p).length := by
  unfold chB
  rw [List.length_append]
  cases p.2.2 <;> simp <;> omega

theorem f28_loop (l : List (List CV)) (vl : VV) (hv : SlV 3 l vl) : ∀ (rest : List (List CV)) (kv : List Ch) (_ : ChsE rest kv) (i : Nat) (out : List UInt8) (s : List VV) (Q : Pst),
    l.drop i = rest → i ≤ l.length → l.length ≤ 900000000 → out.length + ((kv.map chB).flatten).length ≤ 900000000 → s.length = 48 →
    s.getD 0 .undef = vl → s.getD 4 .undef = vi .i64 i → SlV 1 (eB out) (s.getD 3 .undef) →
    (∀ s', s'.length = 48 → SlV 1 (eB (out ++ (kv.map chB).flatten)) (s'.getD 3 .undef) → Q (.exit 0) ⟨s', []⟩) →
    X F (.loop f28_0) ⟨s, []⟩ Q := by
  intro rest kv hR
  induction hR with
  | nil =>
    intro i out s Q hd hi hl hn hs h0 h4 h3 hQ
    rw [X_loop, X_eq f28_0.eq_1]
    have hlt : ¬ (i : Int) < (l.length : Int) := by
      have := congrArg List.length hd
      rw [List.length_drop, List.length_nil] at this
      omega
    simp only [go_sem, Nat.reduceLT, Nat.reduceEqDiff, reduceCtorEq, Int.reduceLT, Int.reduceEq, hs, h0, h4, hv.ln, hlt]
    exact hQ _ (by simp only [slot_len, hs]) (by simp only [go_sem, Nat.reduceLT, Nat.reduceEqDiff, reduceCtorEq, Int.reduceLT, Int.reduceEq, List.map_nil, List.flatten_nil, List.append_nil]; exact h3)
  | @cons e p rl rk hrow hrest ih =>
    intro i out s Q hd hi hl hn hs h0 h4 h3 hQ
    have hget : l[i]? = some e := by
      have := congrArg (fun x => x[0]?) hd
      simpa using this
    have hilt : i < l.length := (List.getElem?_eq_some_iff.1 hget).1
    have hd' : l.drop (i + 1) = rl := by
      rw [← List.drop_drop, hd]; rfl
    obtain ⟨c, rfl, hc⟩ := hrow
    have hlt : (i : Int) < (l.length : Int) := by omega
    simp only [List.map_cons, List.flatten_cons, List.length_append] at hn
    have hk0 := chB_le p
    have hk1 := text_len p.1
    have hk2 := text_len p.2.1
    have hia : ∀ h : Heap, iaO h 3 vl (vi .i64 (i : Int)) = some (.rptr [.sc (.string ⟨p.1.toArray⟩), c, .sc (.bool p.2.2)], h) := fun h => hv.ia (by omega) (by exact hget)
    have e5 : IntKind.i64.wrap ((i : Int) + 1) = ((i + 1 : Nat) : Int) := by rw [IntWalk.i64_in _ (by omega)]; omega
    generalize hw : s.getD 3 .undef = w at h3
    rw [X_loop, X_eq f28_0.eq_1]
    simp only [go_sem, Nat.reduceLT, Nat.reduceEqDiff, reduceCtorEq, Int.reduceLT, Int.reduceEq, hs, h0, h4, hv.ln, hlt, hia]
    cases hg : p.2.2 with
    | true =>
      rw [hg] at hk0
      simp only [if_true] at hk0
      simp only [go_sem, Nat.reduceLT, Nat.reduceEqDiff, reduceCtorEq, Int.reduceLT, Int.reduceEq, hs, h0, h4, hw, hia]
      obtain ⟨v1, g1, hc1, hr1⟩ := rtext_pure p.1 (by omega)
      refine XO_callP (by simp only [List.map, go_sem, Nat.reduceLT, Nat.reduceEqDiff, reduceCtorEq, Int.reduceLT, Int.reduceEq, hs]; exact clos_cv clos_nil) hc1 hr1 ?_
      simp only [go_sem, Nat.reduceLT, Nat.reduceEqDiff, reduceCtorEq, Int.reduceLT, Int.reduceEq, hs, hw]
      obtain ⟨v2, g2, hc2, hr2⟩ := join_f31 out (text p.1) w _ h3 slV_SlV (by omega)
      refine XO_callP (by simp only [List.map, go_sem, Nat.reduceLT, Nat.reduceEqDiff, reduceCtorEq, Int.reduceLT, Int.reduceEq, hs, hw]; exact h3.clos (slV_SlV.clos clos_nil)) hc2 hr2 ?_
      simp only [go_sem, Nat.reduceLT, Nat.reduceEqDiff, reduceCtorEq, Int.reduceLT, Int.reduceEq, hs]
      obtain ⟨v3, g3, hc3, hr3⟩ := join_f31 (out ++ text p.1) [1] _ (.cv (.sl 1 (eB [1]) true)) slV_SlV SlV.sl (by simp only [List.length_append, List.length_singleton]; omega)
      refine XO_callP (by simp only [List.map, go_sem, Nat.reduceLT, Nat.reduceEqDiff, reduceCtorEq, Int.reduceLT, Int.reduceEq, hs]; exact slV_SlV.clos (clos_cv clos_nil)) hc3 hr3 ?_
      simp only [go_sem, Nat.reduceLT, Nat.reduceEqDiff, reduceCtorEq, Int.reduceLT, Int.reduceEq, hs, h4, e5]
      refine ih (i + 1) (out ++ chB p) _ Q hd' (by omega) hl (by simp only [List.length_append]; omega) (by simp only [slot_len, hs]) (by simp only [go_sem, Nat.reduceLT, Nat.reduceEqDiff, reduceCtorEq, Int.reduceLT, Int.reduceEq, h0]) (by simp only [go_sem, Nat.reduceLT, Nat.reduceEqDiff, reduceCtorEq, Int.reduceLT, Int.reduceEq, hs]) (by simp only [go_sem, Nat.reduceLT, Nat.reduceEqDiff, reduceCtorEq, Int.reduceLT, Int.reduceEq, hs, chB, hg, if_true, ← List.append_assoc]; exact slV_SlV) ?_
      simp only [List.map_cons, List.flatten_cons, ← List.append_assoc] at hQ ⊢
      exact hQ
    | false =>
      rw [hg] at hk0
      simp only [Bool.false_eq_true, if_false] at hk0
      simp only [go_sem, Nat.reduceLT, Nat.reduceEqDiff, reduceCtorEq, Int.reduceLT, Int.reduceEq, hs]
      refine X_draw rfl ?_
      simp only [go_sem, Nat.reduceLT, Nat.reduceEqDiff, reduceCtorEq, Int.reduceLT, Int.reduceEq, hs, h0, h4, hw, hia]
      obtain ⟨v1, g1, hc1, hr1⟩ := rtext_pure p.1 (by omega)
      refine XD_callP (by simp only [List.map, go_sem, Nat.reduceLT, Nat.reduceEqDiff, reduceCtorEq, Int.reduceLT, Int.reduceEq, hs]; exact clos_cv clos_nil) hc1 hr1 ?_
      simp only [go_sem, Nat.reduceLT, Nat.reduceEqDiff, reduceCtorEq, Int.reduceLT, Int.reduceEq, hs, hw]
      obtain ⟨v2, g2, hc2, hr2⟩ := join_f31 out (text p.1) w _ h3 slV_SlV (by omega)
      refine XD_callP (by simp only [List.map, go_sem, Nat.reduceLT, Nat.reduceEqDiff, reduceCtorEq, Int.reduceLT, Int.reduceEq, hs, hw]; exact h3.clos (slV_SlV.clos clos_nil)) hc2 hr2 ?_
      simp only [go_sem, Nat.reduceLT, Nat.reduceEqDiff, reduceCtorEq, Int.reduceLT, Int.reduceEq, hs]
      obtain ⟨v3, g3, hc3, hr3⟩ := join_f31 (out ++ text p.1) [0] _ (.cv (.sl 1 (eB [0]) true)) slV_SlV SlV.sl (by simp only [List.length_append, List.length_singleton]; omega)
      refine XD_callP (by simp only [List.map, go_sem, Nat.reduceLT, Nat.reduceEqDiff, reduceCtorEq, Int.reduceLT, Int.reduceEq, hs]; exact slV_SlV.clos (clos_cv clos_nil)) hc3 hr3 ?_
      simp only [go_sem, Nat.reduceLT, Nat.reduceEqDiff, reduceCtorEq, Int.reduceLT, Int.reduceEq, hs, h0, h4, hia, hc.bs]
      obtain ⟨v4, g4, hc4, hr4⟩ := rtext_pure p.2.1 (by omega)
      refine XD_callP (by simp only [List.map, go_sem, Nat.reduceLT, Nat.reduceEqDiff, reduceCtorEq, Int.reduceLT, Int.reduceEq, hs]; exact clos_cv clos_nil) hc4 hr4 ?_
      simp only [go_sem, Nat.reduceLT, Nat.reduceEqDiff, reduceCtorEq, Int.reduceLT, Int.reduceEq, hs]
      obtain ⟨v6, g6, hc6, hr6⟩ := join_f31 (out ++ text p.1 ++ [0]) (text p.2.1) _ _ slV_SlV slV_SlV (by simp only [List.length_append, List.length_singleton]; omega)
      refine XD_callP (by simp only [List.map, go_sem, Nat.reduceLT, Nat.reduceEqDiff, reduceCtorEq, Int.reduceLT, Int.reduceEq, hs]; exact slV_SlV.clos (slV_SlV.clos clos_nil)) hc6 hr6 ?_
      simp only [go_sem, Nat.reduceLT, Nat.reduceEqDiff, reduceCtorEq, Int.reduceLT, Int.reduceEq, hs, h4, e5]
      refine ih (i + 1) (out ++ chB p) _ Q hd' (by omega) hl (by simp only [List.length_append]; omega) (by simp only [slot_len, hs]) (by simp only [go_sem, Nat.reduceLT, Nat.reduceEqDiff, reduceCtorEq, Int.reduceLT, Int.reduceEq, h0]) (by simp only [go_sem, Nat.reduceLT, Nat.reduceEqDiff, reduceCtorEq, Int.reduceLT, Int.reduceEq, hs]) ?_ ?_
      · have e : out ++ chB p = out ++ text p.1 ++ [0] ++ text p.2.1 := by simp [chB, hg]
        rw [e]
        simp only [go_sem, Nat.reduceLT, Nat.reduceEqDiff, reduceCtorEq, Int.reduceLT, Int.reduceEq, hs]
        exact slV_SlV
      · simp only [List.map_cons, List.flatten_cons, ← List.append_assoc] at hQ ⊢
        exact hQ

theorem rchs_f28 (l : List (List CV)) (kv : List Ch) (vl : VV) (hv : SlV 3 l vl) (hR : ChsE l kv) (hn : (chsB kv).length ≤ 900000000) (hk : kv.length ≤ 900000000) :
    ∃ v h' w, call F 28 [vl] [] = some (.ret v, h') ∧ closRes h' v = some w ∧ SlV 1 (eB (chsB kv)) w := by
  have : ∃ v h', call F 28 [vl] [] = some (.ret v, h') ∧ (fun v h' => ∃ w, closRes h' v = some w ∧ SlV 1 (eB (chsB kv)) w) v h' := by
    refine call_E (fn := f28) rfl ?_
    simp only [f28]
    generalize hs0 : ([vl] ++ List.replicate _ VV.undef : List VV) = s
    have hs : s.length = 48 := by rw [← hs0]; rfl
    have h0 : s.getD 0 .undef = vl := by rw [← hs0]; rfl
    clear hs0
    simp only [go_sem, Nat.reduceLT, Nat.reduceEqDiff, reduceCtorEq, Int.reduceLT, Int.reduceEq, hs, h0, hv.ln]
    obtain ⟨v1, g1, hc1, hr1⟩ := rnum_pure l.length
    refine XO_callP (by simp only [List.map, go_sem, Nat.reduceLT, Nat.reduceEqDiff, reduceCtorEq, Int.reduceLT, Int.reduceEq, hs]; exact clos_cv clos_nil) hc1 hr1 ?_
    simp only [go_sem, Nat.reduceLT, Nat.reduceEqDiff, reduceCtorEq, Int.reduceLT, Int.reduceEq, hs, h0]
    have hlen : ((l.length : Nat) : Int) = ((kv.length : Nat) : Int) := by rw [hR.len]
    simp only [chsB, List.length_append] at hn
    refine f28_loop l vl hv l kv hR 0 (num (clamp l.length)) _ _ rfl (by omega) (by rw [hR.len]; exact hk) (by rw [hlen]; omega) (by simp only [slot_len, hs]) (by simp only [go_sem, Nat.reduceLT, Nat.reduceEqDiff, reduceCtorEq, Int.reduceLT, Int.reduceEq, h0]) (by simp only [go_sem, Nat.reduceLT, Nat.reduceEqDiff, reduceCtorEq, Int.reduceLT, Int.reduceEq, hs]; rfl) (by simp only [go_sem, Nat.reduceLT, Nat.reduceEqDiff, reduceCtorEq, Int.reduceLT, Int.reduceEq, hs]; exact SlV.sl) ?_
    intro s' hs' h3'
    generalize hw : s'.getD 3 .undef = w at h3'
    simp only [go_sem, Nat.reduceLT, Nat.reduceEqDiff, reduceCtorEq, Int.reduceLT, Int.reduceEq, hs', hw]
    rw [hlen] at h3'
    refine ⟨w, ?_, h3'⟩
    rcases h3' with ⟨rfl, _⟩ | ⟨ex, rfl⟩ <;> rfl
  obtain ⟨v, h', e1, w, e2, e3⟩ := this
  exact ⟨v, h', w, e1, e2, e3⟩

/-! ### changes of choices -/

def chOf (p : List UInt8 × List UInt8) : Ch := if p.2.length % 4 = 0 then (p.1, [], true) else (p.1, p.2, false)
def chL (n : Nat) (c : List UInt8) : List Ch := (rowL n c).map chOf

theorem f29_loop (l : List (List CV)) (k : List (List UInt8 × List UInt8)) (vl : VV) (hl : SlV 2 l vl) (hR : RowsE l k) (hk : k.length ≤ 100) (hkv : Fits k) : ∀ (rest : List (List UInt8 × List UInt8)) (i : Nat) (els : List (List CV)) (kv : List Ch) (h : Heap) (v : VV) (s : List VV) (Q : Pst),
    k.drop i = rest → i ≤ k.length → els.length + rest.length ≤ 100 → ChsE els kv → BufG h 3 els v → s.length = 42 → s.getD 5 .undef = v → s.getD 6 .undef = vl → s.getD 7 .undef = vi .i64 i →
    (∀ s' h' v' els', s'.length = 42 → s'.getD 5 .undef = v' → BufG h' 3 els' v' → ChsE els' (kv ++ rest.map chOf) → Q (.exit 0) ⟨s', h'⟩) → X F (.loop f29_1) ⟨s, h⟩ Q := by
  intro rest
  induction rest with
  | nil =>
    intro i els kv h v s Q hd hi hel hC hb hs h5 h6 h7 hQ
    rw [X_loop, X_eq f29_1.eq_1]
    have hlt : ¬ (i : Int) < (l.length : Int) := by
      have := congrArg List.length hd
      rw [List.length_drop, List.length_nil] at this
      rw [hR.len]; omega
    simp only [go_sem, Nat.reduceLT, Nat.reduceEqDiff, reduceCtorEq, Int.reduceLT, Int.reduceEq, hs, h6, h7, hl.ln, hlt]
    exact hQ _ h v els (by simp only [slot_len, hs]) (by simp only [go_sem, Nat.reduceLT, Nat.reduceEqDiff, reduceCtorEq, Int.reduceLT, Int.reduceEq, h5]) hb (by simpa using hC)
  | cons p rest ih =>
    intro i els kv h v s Q hd hi hel hC hb hs h5 h6 h7 hQ
    rw [X_loop, X_eq f29_1.eq_1]
    have hget : k[i]? = some p := by
      have := congrArg (fun x => x[0]?) hd
      simpa using this
    have hilt : i < k.length := (List.getElem?_eq_some_iff.1 hget).1
    have hd' : k.drop (i + 1) = rest := by
      rw [← List.drop_drop, hd]; rfl
    obtain ⟨e, p', g1, g2, c, rfl, hc⟩ := hR.get (i := i) hilt
    rw [hget] at g2; cases g2
    obtain ⟨f1, f2⟩ := hkv p (List.mem_of_getElem? hget)
    have hlt : (i : Int) < (l.length : Int) := by rw [hR.len]; omega
    have hia : ∀ h : Heap, iaO h 2 vl (vi .i64 (i : Int)) = some (.rptr [.sc (.string ⟨p.1.toArray⟩), c], h) := fun h => hl.ia (by omega) (by exact g1)
    have e5 : IntKind.i64.wrap ((i : Int) + 1) = ((i + 1 : Nat) : Int) := by rw [IntWalk.i64_in _ (by omega)]; omega
    have e4 : (p.2.length : Int).tmod 4 = ((p.2.length % 4 : Nat) : Int) := rfl
    simp only [List.length_cons] at hel
    simp only [go_sem, Nat.reduceLT, Nat.reduceEqDiff, reduceCtorEq, Int.reduceLT, Int.reduceEq, hs, h6, h7, hl.ln, hlt]
    refine X_drawE ?_
    refine XE_mv ?_
    refine XE_mv ?_
    refine XE_iad (v := vl) (w := vi .i64 i) (by simp only [go_sem, Nat.reduceLT, Nat.reduceEqDiff, reduceCtorEq, Int.reduceLT, Int.reduceEq, hs, h6]) (by simp only [go_sem, Nat.reduceLT, Nat.reduceEqDiff, reduceCtorEq, Int.reduceLT, Int.reduceEq, hs, h7]) hia ?_
    refine XE_fad (v := .rptr [.sc (.string ⟨p.1.toArray⟩), c]) (by simp only [go_sem, Nat.reduceLT, Nat.reduceEqDiff, reduceCtorEq, Int.reduceLT, Int.reduceEq, hs]) rfl ?_
    refine XE_ld (v := .rptr [.sc (.string ⟨p.1.toArray⟩), c]) (r := txt p.1) (by simp only [go_sem, Nat.reduceLT, Nat.reduceEqDiff, reduceCtorEq, Int.reduceLT, Int.reduceEq, hs]) (fun h => ld_rptr) ?_
    refine XE_mv ?_
    refine XE_mv ?_
    refine XE_iad (v := vl) (w := vi .i64 i) (by simp only [go_sem, Nat.reduceLT, Nat.reduceEqDiff, reduceCtorEq, Int.reduceLT, Int.reduceEq, hs, h6]) (by simp only [go_sem, Nat.reduceLT, Nat.reduceEqDiff, reduceCtorEq, Int.reduceLT, Int.reduceEq, hs, h7]) hia ?_
    refine XE_fad (v := .rptr [.sc (.string ⟨p.1.toArray⟩), c]) (by simp only [go_sem, Nat.reduceLT, Nat.reduceEqDiff, reduceCtorEq, Int.reduceLT, Int.reduceEq, hs]) rfl ?_
    refine XE_ld (v := .rptr [c]) (r := .cv c) (by simp only [go_sem, Nat.reduceLT, Nat.reduceEqDiff, reduceCtorEq, Int.reduceLT, Int.reduceEq, hs]) (fun h => ld_rptr) ?_
    refine XE_of_XD rfl ?_
    have e3 : ∀ {a b z : VV}, stO (h ++ [.box [a, b, z] false]) 3 (.ptr h.length 0) (.agg [txt p.1, .cv c, z]) = some (.undef, h ++ [.box [txt p.1, .cv c, z] false]) := st_l_3
    rw [XD_build]
    simp only [go_sem, Nat.reduceLT, Nat.reduceEqDiff, reduceCtorEq, Int.reduceLT, Int.reduceEq, hs, h7, bd_3v, XD_alloc]
    rw [X_eq f29_0.eq_1]
    have l1 : ∀ {a b z : VV}, ldO (h ++ [.box [a, b, z] false]) false 1 (.ptr h.length 1) = some (b, h ++ [.box [a, b, z] false]) := ld_l_at rfl
    have l0 : ∀ {a b z : VV}, ldO (h ++ [.box [a, b, z] false]) false 1 (.ptr h.length 0) = some (a, h ++ [.box [a, b, z] false]) := ld_l_at rfl
    by_cases hz : ((p.2.length % 4 : Nat) : Int) = 0
    · have hz' : p.2.length % 4 = 0 := by omega
      simp only [go_sem, Nat.reduceLT, Nat.reduceEqDiff, reduceCtorEq, Int.reduceLT, Int.reduceEq, hs, l1, hc.ln, eB_len, e4, eq_true hz, l0, bd_3k, h5]
      refine XO_appG (hb.push _) (new := [[.sc (.string ⟨p.1.toArray⟩), .sc (.slice none 0 0), .sc (.bool true)]]) (by simp only [go_sem, Nat.reduceLT, Nat.reduceEqDiff, reduceCtorEq, Int.reduceLT, Int.reduceEq, hs]) (by simp only [go_sem, Nat.reduceLT, Nat.reduceEqDiff, reduceCtorEq, Int.reduceLT, Int.reduceEq, hs]) (by simp only [List.length_singleton]; omega) (by simp only [List.length_singleton]; omega) (fun v' h' hb' _ _ => ?_)
      simp only [go_sem, Nat.reduceLT, Nat.reduceEqDiff, reduceCtorEq, Int.reduceLT, Int.reduceEq, hs, h7, e5]
      refine ih (i + 1) _ (kv ++ [chOf p]) h' v' _ Q hd' (by omega) (by simp only [List.length_append, List.length_singleton]; omega) (hC.snoc (p := chOf p) ?_) hb' (by simp only [slot_len, hs]) (by simp only [go_sem, Nat.reduceLT, Nat.reduceEqDiff, reduceCtorEq, Int.reduceLT, Int.reduceEq, hs]) (by simp only [go_sem, Nat.reduceLT, Nat.reduceEqDiff, reduceCtorEq, Int.reduceLT, Int.reduceEq, h6]) (by simp only [go_sem, Nat.reduceLT, Nat.reduceEqDiff, reduceCtorEq, Int.reduceLT, Int.reduceEq, hs]) ?_
      · unfold chOf; rw [if_pos hz']; exact ⟨_, rfl, .inl ⟨rfl, rfl⟩⟩
      · intro s' h' v' els' a1 a2 a3 a4
        refine hQ s' h' v' els' a1 a2 a3 ?_
        simpa only [List.map_cons, List.append_assoc, List.singleton_append] using a4
    · have hz' : ¬ p.2.length % 4 = 0 := by omega
      simp only [go_sem, Nat.reduceLT, Nat.reduceEqDiff, reduceCtorEq, Int.reduceLT, Int.reduceEq, hs, l1, hc.ln, eB_len, e4, hz, h5]
      refine XO_appG (hb.push _) (new := [[.sc (.string ⟨p.1.toArray⟩), c, .sc (.bool false)]]) (by simp only [go_sem, Nat.reduceLT, Nat.reduceEqDiff, reduceCtorEq, Int.reduceLT, Int.reduceEq, hs]) (by simp only [go_sem, Nat.reduceLT, Nat.reduceEqDiff, reduceCtorEq, Int.reduceLT, Int.reduceEq, hs]) (by simp only [List.length_singleton]; omega) (by simp only [List.length_singleton]; omega) (fun v' h' hb' _ _ => ?_)
      simp only [go_sem, Nat.reduceLT, Nat.reduceEqDiff, reduceCtorEq, Int.reduceLT, Int.reduceEq, hs, h7, e5]
      refine ih (i + 1) _ (kv ++ [chOf p]) h' v' _ Q hd' (by omega) (by simp only [List.length_append, List.length_singleton]; omega) (hC.snoc (p := chOf p) ?_) hb' (by simp only [slot_len, hs]) (by simp only [go_sem, Nat.reduceLT, Nat.reduceEqDiff, reduceCtorEq, Int.reduceLT, Int.reduceEq, hs]) (by simp only [go_sem, Nat.reduceLT, Nat.reduceEqDiff, reduceCtorEq, Int.reduceLT, Int.reduceEq, h6]) (by simp only [go_sem, Nat.reduceLT, Nat.reduceEqDiff, reduceCtorEq, Int.reduceLT, Int.reduceEq, hs]) ?_
      · unfold chOf; rw [if_neg hz']; exact ⟨_, rfl, hc⟩
      · intro s' h' v' els' a1 a2 a3 a4
        refine hQ s' h' v' els' a1 a2 a3 ?_
        simpa only [List.map_cons, List.append_assoc, List.singleton_append] using a4

end Go.V01

set_option linter.unusedSimpArgs false
set_option linter.unusedVariables false
namespace Go.V01
open Go Go.Vm
open Go.Proofs.Ytpingdgbndmcnaa

theorem chlist_f29 (c : List UInt8) (vc : VV) (hc : SlV 1 (eB c) vc) : ∃ v h' els, call F 29 [vc, vi .i64 8] [] = some (.ret v, h') ∧ closRes h' v = some (slV 3 els) ∧ ChsE els (chL 8 c) := by
  have : ∃ v h', call F 29 [vc, vi .i64 8] [] = some (.ret v, h') ∧ (fun v h' => ∃ els, closRes h' v = some (slV 3 els) ∧ ChsE els (chL 8 c)) v h' := by
    refine call_E (fn := f29) rfl ?_
    simp only [f29]
    generalize hs0 : ([vc, vi .i64 8] ++ List.replicate _ VV.undef : List VV) = s
    have hs : s.length = 42 := by rw [← hs0]; rfl
    have h0 : s.getD 0 .undef = vc := by rw [← hs0]; rfl
    have h1 : s.getD 1 .undef = vi .i64 8 := by rw [← hs0]; rfl
    clear hs0
    simp only [go_sem, Nat.reduceLT, Nat.reduceEqDiff, reduceCtorEq, Int.reduceLT, Int.reduceEq, hs, h0, h1]
    obtain ⟨w1, g1, els, hc1, hr1, hR1⟩ := list_pure c vc hc 8 (by omega)
    have hf := rowL_fits 8 c
    have hkl := rowL_len 8 c
    refine XO_callP (h1 := []) (by simp only [List.map, go_sem, Nat.reduceLT, Nat.reduceEqDiff, reduceCtorEq, Int.reduceLT, Int.reduceEq, hs, h0, h1]; exact hc.clos (clos_cv clos_nil)) hc1 hr1 ?_
    simp only [go_sem, Nat.reduceLT, Nat.reduceEqDiff, reduceCtorEq, Int.reduceLT, Int.reduceEq, hs]
    refine f29_loop els (rowL 8 c) (slV 2 els) slV_SlV hR1 (by omega) hf (rowL 8 c) 0 [] [] [] nilS _ _ rfl (by omega) (by simp only [List.length_nil]; omega) .nil (BufG.nil _ _) (by simp only [slot_len, hs]) (by simp only [go_sem, Nat.reduceLT, Nat.reduceEqDiff, reduceCtorEq, Int.reduceLT, Int.reduceEq, hs]) (by simp only [go_sem, Nat.reduceLT, Nat.reduceEqDiff, reduceCtorEq, Int.reduceLT, Int.reduceEq, hs]) (by simp only [go_sem, Nat.reduceLT, Nat.reduceEqDiff, reduceCtorEq, Int.reduceLT, Int.reduceEq, hs]; rfl) ?_
    intro s' h' v' els' hs' h5' hb' hC'
    simp only [go_sem, Nat.reduceLT, Nat.reduceEqDiff, reduceCtorEq, Int.reduceLT, Int.reduceEq, hs', h5']
    exact ⟨els', hb'.close, by simpa [chL] using hC'⟩
  obtain ⟨v, h', e1, els, e2, e3⟩ := this
  exact ⟨v, h', els, e1, e2, e3⟩

/-! ### what the bound says -/

def sumC (kv : List Ch) : Nat := (kv.map fun p => p.1.length + p.2.1.length + 1).sum
theorem sumC_cons {p : Ch} {kv : List Ch} : sumC (p :: kv) = p.1.length + p.2.1.length + 1 + sumC kv := by simp [sumC]
theorem sumC_le : ∀ l : List Ch, l.length ≤ sumC l
  | [] => by simp [sumC]
  | q :: l => by rw [sumC_cons, List.length_cons]; have := sumC_le l; omega
theorem chsB_sum : ∀ kv : List Ch, (chsB kv).length ≤ 8 + 18 * sumC kv := by
  have key : ∀ kv : List Ch, ((kv.map chB).flatten).length ≤ 18 * sumC kv := by
    intro kv
    induction kv with
    | nil => simp
    | cons p kv ih =>
      have h0 := chB_le p
      have h1 := num_len p.1.length
      have h2 := num_len p.2.1.length
      rw [sumC_cons]
      simp only [List.map_cons, List.flatten_cons, List.length_append]
      unfold text at h0
      simp only [List.length_append] at h0
      split at h0 <;> omega
  intro kv
  have h1 := num_len kv.length
  have := key kv
  unfold chsB
  rw [List.length_append]; omega
theorem chL_sum (c : List UInt8) : sumC (chL 8 c) ≤ 2000 := by
  have key : ∀ kv : List (List UInt8 × List UInt8), Fits kv → sumC (kv.map chOf) ≤ 181 * kv.length := by
    intro kv
    induction kv with
    | nil => intro _; simp [sumC]
    | cons p kv ih =>
      intro h
      obtain ⟨h1, h2⟩ := h p (by simp)
      have := ih fun q hq => h q (by simp [hq])
      rw [List.map_cons, sumC_cons, List.length_cons]
      have e : (chOf p).1.length + (chOf p).2.1.length ≤ p.1.length + p.2.length := by
        unfold chOf
        split
        · simp
        · exact Nat.le_refl _
      omega
  have := key _ (rowL_fits 8 c)
  have := rowL_len 8 c
  unfold chL
  omega

theorem ch_of {H : Type} {d : DataW H} {el : List CV} (h : DR Proofs.Try.prog 7 55 d el) (hlen : el.length = 3) : ∃ p, chE el p ∧ p.1.length + p.2.1.length + 1 ≤ Rows.uptoBulk d := by
  obtain ⟨ds, rfl, hd, hc, hf⟩ := DR_struct Proofs.Try.underlying55 h
  match ds, hd with
  | [d1, d2, d3], _ =>
    match el, hlen with
    | [c1, c2, c3], _ =>
      have f1 : DR Proofs.Try.prog 6 9 d1 (([c1, c2, c3].drop 0).take (Proofs.Try.prog.cellsOf 9)) := hf 0 _ d1 rfl rfl
      have f2 : DR Proofs.Try.prog 6 23 d2 (([c1, c2, c3].drop 1).take (Proofs.Try.prog.cellsOf 23)) := hf 1 _ d2 rfl rfl
      have f3 : DR Proofs.Try.prog 6 4 d3 (([c1, c2, c3].drop 2).take (Proofs.Try.prog.cellsOf 4)) := hf 2 _ d3 rfl rfl
      have k1 : Proofs.Try.prog.cellsOf 9 = 1 := by kernel_rfl
      have k2 : Proofs.Try.prog.cellsOf 23 = 1 := by kernel_rfl
      have k3 : Proofs.Try.prog.cellsOf 4 = 1 := by kernel_rfl
      rw [k1] at f1
      rw [k2] at f2
      rw [k3] at f3
      obtain ⟨s, rfl, e1, _⟩ := DR_string Proofs.Try.underlying9 f1
      obtain ⟨l, c, e2, hl, hb⟩ := DR_bytesB Proofs.Try.underlying23 Proofs.Try.underlying5 (by kernel_rfl) f2
      obtain ⟨g, rfl, e3⟩ := DR_bool Proofs.Try.underlying4 f3
      simp at e1 e2 e3
      subst e1 e2 e3
      refine ⟨(s.data.toList, l, g), ⟨_, rfl, hl⟩, ?_⟩
      simp only [Rows.uptoBulk, Rows.uptoBulkAll]; omega

theorem chs_of {H : Type} {d : DataW H} {u : VV} (h : DV Proofs.Try.prog 46 d u) : ∃ els kv, SlV 3 els u ∧ ChsE els kv ∧ sumC kv + 1 ≤ Rows.uptoBulk d := by
  obtain ⟨c, h1, rfl⟩ := DV_plain (by simp only [isStr, Proofs.Try.underlying46]) h
  have k2 : Proofs.Try.prog.cellsOf 55 = 3 := by kernel_rfl
  rcases DR_slice Proofs.Try.underlying46 h1 with ⟨rfl, e⟩ | ⟨ds, rest, els, rfl, e, h2, h3, h4⟩
  · cases e
    exact ⟨[], [], .inl ⟨rfl, rfl⟩, .nil, by simp [sumC, Rows.uptoBulk]⟩
  · cases e
    rw [k2] at h4 ⊢
    have key : ∀ (els : List (List CV)) (ds : List (DataW H)), els.length = ds.length → (∀ (i : Nat) (el : List CV) (y : DataW H), els[i]? = some el → ds[i]? = some y → el.length = 3 ∧ DR Proofs.Try.prog 7 55 y el) → ∃ kv, ChsE els kv ∧ sumC kv ≤ Rows.uptoBulkAll ds := by
      intro els
      induction els with
      | nil => intro ds _ _; exact ⟨[], .nil, by simp [sumC]⟩
      | cons el r ih =>
        intro ds hl hh
        match ds, hl with
        | y :: ys, hl =>
          obtain ⟨a1, a2⟩ := hh 0 el y rfl rfl
          obtain ⟨p, b1, b2⟩ := ch_of a2 a1
          obtain ⟨kv, c1, c2⟩ := ih ys (by simpa using hl) (fun i el y h1 h2 => hh (i + 1) el y (by simpa using h1) (by simpa using h2))
          exact ⟨p :: kv, .cons b1 c1, by rw [sumC_cons]; simp only [Rows.uptoBulkAll]; omega⟩
    obtain ⟨kv, c1, c2⟩ := key els ds h2 h4
    exact ⟨els, kv, .inr ⟨false, rfl⟩, c1, by simp only [Rows.uptoBulk]; omega⟩

structure ChS (w0 w1 w2 : VV) (a : Nat) (x how : UInt8) (s : List VV) : Prop where
  hs : s.length = 80
  h0 : s.getD 0 .undef = w0
  h1 : s.getD 1 .undef = w1
  h2 : s.getD 2 .undef = w2
  h3 : s.getD 3 .undef = vi .u16 a
  h4 : s.getD 4 .undef = vi .u8 x.toNat
  h5 : s.getD 5 .undef = vi .u8 how.toNat

theorem f9_loop (l : List (List CV)) (k : List Ch) (vl : VV) (hl : SlV 3 l vl) (hR : ChsE l k) (w1 w2 : VV) (a : Nat) (x how : UInt8) (h : Heap) : ∀ (rest : List Ch) (i n : Nat) (s : List VV) (Q : Pst),
    k.drop i = rest → i ≤ k.length → k.length ≤ 1048576 → n + sumC rest ≤ 4000000 → ChS vl w1 w2 a x how s → s.getD 13 .undef = vi .i64 n → s.getD 14 .undef = vi .i64 i →
    (∀ s', ChS vl w1 w2 a x how s' → s'.getD 13 .undef = vi .i64 ((n + (sumC rest - rest.length) : Nat) : Int) → Q (.exit 0) ⟨s', h⟩) → X F (.loop f9_0) ⟨s, h⟩ Q := by
  intro rest
  induction rest with
  | nil =>
    intro i n s Q hd hi hk hn hS h13 h14 hQ
    obtain ⟨hs, h0, h1, h2, h3, h4, h5⟩ := hS
    rw [X_loop, X_eq f9_0.eq_1]
    have hlt : ¬ (i : Int) < (l.length : Int) := by
      have := congrArg List.length hd
      rw [List.length_drop, List.length_nil] at this
      rw [hR.len]; omega
    simp only [go_sem, Nat.reduceLT, Nat.reduceEqDiff, reduceCtorEq, Int.reduceLT, Int.reduceEq, hs, h0, h14, hl.ln, hlt]
    exact hQ _ ⟨by simp only [slot_len, hs], by simp only [go_sem, Nat.reduceLT, Nat.reduceEqDiff, reduceCtorEq, Int.reduceLT, Int.reduceEq, h0], by simp only [go_sem, Nat.reduceLT, Nat.reduceEqDiff, reduceCtorEq, Int.reduceLT, Int.reduceEq, h1], by simp only [go_sem, Nat.reduceLT, Nat.reduceEqDiff, reduceCtorEq, Int.reduceLT, Int.reduceEq, h2], by simp only [go_sem, Nat.reduceLT, Nat.reduceEqDiff, reduceCtorEq, Int.reduceLT, Int.reduceEq, h3], by simp only [go_sem, Nat.reduceLT, Nat.reduceEqDiff, reduceCtorEq, Int.reduceLT, Int.reduceEq, h4], by simp only [go_sem, Nat.reduceLT, Nat.reduceEqDiff, reduceCtorEq, Int.reduceLT, Int.reduceEq, h5]⟩ (by simp only [go_sem, Nat.reduceLT, Nat.reduceEqDiff, reduceCtorEq, Int.reduceLT, Int.reduceEq, h13]; simp [sumC])
  | cons p rest ih =>
    intro i n s Q hd hi hk hn hS h13 h14 hQ
    obtain ⟨hs, h0, h1, h2, h3, h4, h5⟩ := hS
    rw [X_loop, X_eq f9_0.eq_1]
    have hget : k[i]? = some p := by
      have := congrArg (fun x => x[0]?) hd
      simpa using this
    have hilt : i < k.length := (List.getElem?_eq_some_iff.1 hget).1
    have hd' : k.drop (i + 1) = rest := by
      rw [← List.drop_drop, hd]; rfl
    obtain ⟨e, p', g1, g2, c, rfl, hc⟩ := hR.get (i := i) hilt
    rw [hget] at g2; cases g2
    rw [sumC_cons] at hn hQ
    have hlt : (i : Int) < (l.length : Int) := by rw [hR.len]; omega
    have hia : ∀ h : Heap, iaO h 3 vl (vi .i64 (i : Int)) = some (.rptr [.sc (.string ⟨p.1.toArray⟩), c, .sc (.bool p.2.2)], h) := fun h => hl.ia (by omega) (by exact g1)
    have e5 : IntKind.i64.wrap ((i : Int) + 1) = ((i + 1 : Nat) : Int) := by rw [IntWalk.i64_in _ (by omega)]; omega
    have e6 : IntKind.i64.wrap ((p.1.length : Int) + (p.2.1.length : Int)) = ((p.1.length + p.2.1.length : Nat) : Int) := by rw [IntWalk.i64_in _ (by omega)]; omega
    have e7 : IntKind.i64.wrap ((n : Int) + ((p.1.length + p.2.1.length : Nat) : Int)) = ((n + (p.1.length + p.2.1.length) : Nat) : Int) := by rw [IntWalk.i64_in _ (by omega)]; omega
    have hsl := sumC_le rest
    have e : n + (p.1.length + p.2.1.length) + (sumC rest - rest.length) = n + (p.1.length + p.2.1.length + 1 + sumC rest - (p :: rest).length) := by simp only [List.length_cons]; omega
    simp only [go_sem, Nat.reduceLT, Nat.reduceEqDiff, reduceCtorEq, Int.reduceLT, Int.reduceEq, hs, h0, h14, hl.ln, hlt]
    refine X_draw rfl ?_
    simp only [go_sem, Nat.reduceLT, Nat.reduceEqDiff, reduceCtorEq, Int.reduceLT, Int.reduceEq, hs, h0, h13, h14, hia, hc.ln, eB_len, e5, e6, e7]
    refine ih (i + 1) (n + (p.1.length + p.2.1.length)) _ Q hd' (by omega) hk (by omega) ⟨by simp only [slot_len, hs], by simp only [go_sem, Nat.reduceLT, Nat.reduceEqDiff, reduceCtorEq, Int.reduceLT, Int.reduceEq, h0], by simp only [go_sem, Nat.reduceLT, Nat.reduceEqDiff, reduceCtorEq, Int.reduceLT, Int.reduceEq, h1], by simp only [go_sem, Nat.reduceLT, Nat.reduceEqDiff, reduceCtorEq, Int.reduceLT, Int.reduceEq, h2], by simp only [go_sem, Nat.reduceLT, Nat.reduceEqDiff, reduceCtorEq, Int.reduceLT, Int.reduceEq, h3], by simp only [go_sem, Nat.reduceLT, Nat.reduceEqDiff, reduceCtorEq, Int.reduceLT, Int.reduceEq, h4], by simp only [go_sem, Nat.reduceLT, Nat.reduceEqDiff, reduceCtorEq, Int.reduceLT, Int.reduceEq, h5]⟩ (by simp only [go_sem, Nat.reduceLT, Nat.reduceEqDiff, reduceCtorEq, Int.reduceLT, Int.reduceEq, hs]) (by simp only [go_sem, Nat.reduceLT, Nat.reduceEqDiff, reduceCtorEq, Int.reduceLT, Int.reduceEq, hs]) ?_
    intro s' a1 a2
    exact hQ s' a1 (by rw [a2, e])

theorem law_changes (l : List (List CV)) (kv : List Ch) (vl : VV) (hl : SlV 3 l vl) (hR : ChsE l kv) (hkv : sumC kv ≤ 1048576) (b : List UInt8) (vb_ : VV) (hvb : SlV 1 (eB b) vb_) (hb : b.length ≤ 1048576) (c : List UInt8) (vc : VV) (hvc : SlV 1 (eB c) vc) (a : Nat) (ha : a < 65536) (x how : UInt8) :
    ∃ h', call F 9 [vl, vb_, vc, vi .u16 a, vi .u8 x.toNat, vi .u8 how.toNat] [] = some (.ret (vb true), h') := by
  obtain ⟨hk, hknown⟩ := known_f11
  refine call_V (fn := f9) rfl ?_
  simp only [f9]
  generalize hs0 : ([vl, vb_, vc, vi .u16 a, vi .u8 x.toNat, vi .u8 how.toNat] ++ List.replicate _ VV.undef : List VV) = s
  have hs : s.length = 80 := by rw [← hs0]; rfl
  have h0 : s.getD 0 .undef = vl := by rw [← hs0]; rfl
  have h1 : s.getD 1 .undef = vb_ := by rw [← hs0]; rfl
  have h2 : s.getD 2 .undef = vc := by rw [← hs0]; rfl
  have h3 : s.getD 3 .undef = vi .u16 a := by rw [← hs0]; rfl
  have h4 : s.getD 4 .undef = vi .u8 x.toNat := by rw [← hs0]; rfl
  have h5 : s.getD 5 .undef = vi .u8 how.toNat := by rw [← hs0]; rfl
  clear hs0
  have hkl := sumC_le kv
  have e0 : IntKind.i64.wrap ((l.length : Int) + (b.length : Int)) = ((kv.length + b.length : Nat) : Int) := by rw [hR.len, IntWalk.i64_in _ (by omega)]; omega
  simp only [go_sem, Nat.reduceLT, Nat.reduceEqDiff, reduceCtorEq, Int.reduceLT, Int.reduceEq, hs, h0, h1, hl.ln, hvb.ln, eB_len, e0]
  refine f9_loop l kv vl hl hR vb_ vc a x how [] kv 0 (kv.length + b.length) _ _ rfl (by omega) (by omega) (by omega) ⟨by simp only [slot_len, hs], by simp only [go_sem, Nat.reduceLT, Nat.reduceEqDiff, reduceCtorEq, Int.reduceLT, Int.reduceEq, h0], by simp only [go_sem, Nat.reduceLT, Nat.reduceEqDiff, reduceCtorEq, Int.reduceLT, Int.reduceEq, h1], by simp only [go_sem, Nat.reduceLT, Nat.reduceEqDiff, reduceCtorEq, Int.reduceLT, Int.reduceEq, h2], by simp only [go_sem, Nat.reduceLT, Nat.reduceEqDiff, reduceCtorEq, Int.reduceLT, Int.reduceEq, h3], by simp only [go_sem, Nat.reduceLT, Nat.reduceEqDiff, reduceCtorEq, Int.reduceLT, Int.reduceEq, h4], by simp only [go_sem, Nat.reduceLT, Nat.reduceEqDiff, reduceCtorEq, Int.reduceLT, Int.reduceEq, h5]⟩ (by simp only [go_sem, Nat.reduceLT, Nat.reduceEqDiff, reduceCtorEq, Int.reduceLT, Int.reduceEq, hs]) (by simp only [go_sem, Nat.reduceLT, Nat.reduceEqDiff, reduceCtorEq, Int.reduceLT, Int.reduceEq, hs]; rfl) ?_
  have e9 : kv.length + b.length + (sumC kv - kv.length) = sumC kv + b.length := by omega
  rw [e9]
  clear hs h0 h1 h2 h3 h4 h5
  rintro s ⟨hs, h0, h1, h2, h3, h4, h5⟩ h13
  simp only [go_sem, Nat.reduceLT, Nat.reduceEqDiff, reduceCtorEq, Int.reduceLT, Int.reduceEq, hs]
  rw [X_eq f9_1.eq_1]
  by_cases c1 : (1500 : Int) < ((sumC kv + b.length : Nat) : Int)
  · simp only [go_sem, Nat.reduceLT, Nat.reduceEqDiff, reduceCtorEq, Int.reduceLT, Int.reduceEq, hs, h13, c1]
    refine XO_callP clos_nil hknown res_cv ?_
    simp only [go_sem, Nat.reduceLT, Nat.reduceEqDiff, reduceCtorEq, Int.reduceLT, Int.reduceEq, hs]
    exact rfl
  · simp only [go_sem, Nat.reduceLT, Nat.reduceEqDiff, reduceCtorEq, Int.reduceLT, Int.reduceEq, hs, h13, c1]
    refine XO_callP clos_nil hknown res_cv ?_
    obtain ⟨w1, g1, els, hc1, hr1, hR1⟩ := chlist_f29 c vc hvc
    have hsum1 := chL_sum c
    have hlen1 := chsB_sum (chL 8 c)
    have hle1 := sumC_le (chL 8 c)
    have hlen2 := chsB_sum kv
    obtain ⟨w2, g2, x2, hc2, hr2, hv2⟩ := rchs_f28 els (chL 8 c) (slV 3 els) slV_SlV hR1 (by omega) (by omega)
    obtain ⟨w3, g3, hc3, hb3⟩ := chs_f30 l kv vl hl hR [] (by omega) (by omega)
    obtain ⟨w4, g4, x4, hc4, hr4, hv4⟩ := rchs_f28 l kv vl hl hR (by omega) (by omega)
    obtain ⟨w5, g5, hc5, hb5⟩ := chs_f30 els (chL 8 c) (slV 3 els) slV_SlV hR1 [] (by omega) (by omega)
    obtain ⟨w6, g6, hc6, hr6⟩ := reads_f27 b vb_ hvb (by omega) []
    unfold ValIs at hr6
    subst hr6
    obtain ⟨w7, g7, x7, hc7, hr7, hv7⟩ := bend_f25 (chsB (chL 8 c)) x2 hv2 (by omega) a ha x how
    have hXl := bend_len (chsB (chL 8 c)) a x how.toNat
    generalize bendL (chsB (chL 8 c)) a x how.toNat = X at *
    obtain ⟨w8, g8, hc8, hr8⟩ := reads_f27 X x7 hv7 (by omega) []
    unfold ValIs at hr8
    subst hr8
    have bx : ∀ L : List UInt8, bsO [] (slV 1 (eB L)) = some (txt L) := fun L => slV_SlV.bs
    simp only [go_sem, Nat.reduceLT, Nat.reduceEqDiff, reduceCtorEq, Int.reduceLT, Int.reduceEq, hs, h2]
    refine XO_callP (h1 := []) (by simp only [List.map, go_sem, Nat.reduceLT, Nat.reduceEqDiff, reduceCtorEq, Int.reduceLT, Int.reduceEq, hs, h2]; exact hvc.clos (clos_cv clos_nil)) hc1 hr1 ?_
    simp only [go_sem, Nat.reduceLT, Nat.reduceEqDiff, reduceCtorEq, Int.reduceLT, Int.reduceEq, hs]
    refine XO_callP (h1 := []) (by simp only [List.map, go_sem, Nat.reduceLT, Nat.reduceEqDiff, reduceCtorEq, Int.reduceLT, Int.reduceEq, hs]; exact slV_SlV.clos clos_nil) hc2 hr2 ?_
    simp only [go_sem, Nat.reduceLT, Nat.reduceEqDiff, reduceCtorEq, Int.reduceLT, Int.reduceEq, hs]
    refine X_draw rfl ?_
    simp only [go_sem, Nat.reduceLT, Nat.reduceEqDiff, reduceCtorEq, Int.reduceLT, Int.reduceEq, hs, h0]
    refine XD_callP (by simp only [List.map, go_sem, Nat.reduceLT, Nat.reduceEqDiff, reduceCtorEq, Int.reduceLT, Int.reduceEq, hs, h0]; exact hl.clos clos_nil) hc3 hb3.close ?_
    simp only [go_sem, Nat.reduceLT, Nat.reduceEqDiff, reduceCtorEq, Int.reduceLT, Int.reduceEq, hs, h0, bx]
    refine XD_callP (by simp only [List.map, go_sem, Nat.reduceLT, Nat.reduceEqDiff, reduceCtorEq, Int.reduceLT, Int.reduceEq, hs, h0]; exact hl.clos clos_nil) hc4 hr4 ?_
    simp only [go_sem, Nat.reduceLT, Nat.reduceEqDiff, reduceCtorEq, Int.reduceLT, Int.reduceEq, hs, h2, hv4.bs]
    refine XD_callP (by simp only [List.map, go_sem, Nat.reduceLT, Nat.reduceEqDiff, reduceCtorEq, Int.reduceLT, Int.reduceEq, hs, h2]; exact hvc.clos (clos_cv clos_nil)) hc1 hr1 ?_
    simp only [go_sem, Nat.reduceLT, Nat.reduceEqDiff, reduceCtorEq, Int.reduceLT, Int.reduceEq, hs]
    refine XD_callP (by simp only [List.map, go_sem, Nat.reduceLT, Nat.reduceEqDiff, reduceCtorEq, Int.reduceLT, Int.reduceEq, hs]; exact slV_SlV.clos clos_nil) hc5 hb5.close ?_
    simp only [go_sem, Nat.reduceLT, Nat.reduceEqDiff, reduceCtorEq, Int.reduceLT, Int.reduceEq, hs, h1, bx, hv2.bs]
    refine XD_callP (by simp only [List.map, go_sem, Nat.reduceLT, Nat.reduceEqDiff, reduceCtorEq, Int.reduceLT, Int.reduceEq, hs, h1]; exact hvb.clos clos_nil) hc6 res_cv ?_
    simp only [go_sem, Nat.reduceLT, Nat.reduceEqDiff, reduceCtorEq, Int.reduceLT, Int.reduceEq, hs, h3, h4, h5]
    refine XD_callP (by simp only [List.map, go_sem, Nat.reduceLT, Nat.reduceEqDiff, reduceCtorEq, Int.reduceLT, Int.reduceEq, hs]; exact hv2.clos (clos_cv (clos_cv (clos_cv clos_nil)))) hc7 hr7 ?_
    simp only [go_sem, Nat.reduceLT, Nat.reduceEqDiff, reduceCtorEq, Int.reduceLT, Int.reduceEq, hs]
    refine XD_callP (by simp only [List.map, go_sem, Nat.reduceLT, Nat.reduceEqDiff, reduceCtorEq, Int.reduceLT, Int.reduceEq, hs]; exact hv7.clos clos_nil) hc8 res_cv ?_
    simp only [go_sem, Nat.reduceLT, Nat.reduceEqDiff, reduceCtorEq, Int.reduceLT, Int.reduceEq, hs]
    exact rfl

theorem DV_bytesB {H : Type} {P : Program} {t e : Nat} {d : DataW H} {u : VV} (hu : P.underlying t = some (.slice e)) (he : P.underlying e = some (.int .u8)) (hc : P.cellsOf e = 1) (h : DV P t d u) : ∃ l : List UInt8, SlV 1 (eB l) u ∧ l.length + 1 ≤ Rows.uptoBulk d := by
  obtain ⟨c, h1, rfl⟩ := DV_plain (by simp only [isStr, hu]) h
  obtain ⟨l, c', h2, h3, h4⟩ := DR_bytesB hu he hc h1
  cases h2
  exact ⟨l, h3, h4⟩

theorem changes_in {H : Type} {d0 d1 d2 d3 d4 d5 : DataW H} {u0 u1 u2 u3 u4 u5 : VV} (hb : Rows.uptoBulkAll [d0, d1, d2, d3, d4, d5] ≤ 1048576) (h0 : DV Proofs.Try.prog 46 d0 u0) (h1 : DV Proofs.Try.prog 23 d1 u1) (h2 : DV Proofs.Try.prog 23 d2 u2) (h3 : DV Proofs.Try.prog 25 d3 u3) (h4 : DV Proofs.Try.prog 5 d4 u4) (h5 : DV Proofs.Try.prog 5 d5 u5) :
    ∃ h', call F 9 [u0, u1, u2, u3, u4, u5] [] = some (.ret (vb true), h') := by
  obtain ⟨els, kv, hl, hR, hs⟩ := chs_of h0
  obtain ⟨b, hvb, hbl⟩ := DV_bytesB Proofs.Try.underlying23 Proofs.Try.underlying5 (by kernel_rfl) h1
  obtain ⟨c, hc, _⟩ := DV_bytes Proofs.Try.underlying23 Proofs.Try.underlying5 (by kernel_rfl) h2
  obtain ⟨a, rfl, ha⟩ := DV_u16 Proofs.Try.underlying25 h3
  obtain ⟨x, rfl⟩ := DV_u8 Proofs.Try.underlying5 h4
  obtain ⟨w, rfl⟩ := DV_u8 Proofs.Try.underlying5 h5
  have q1 := bulk_part (d := d0) (l := [d0, d1, d2, d3, d4, d5]) (by simp)
  have q2 := bulk_part (d := d1) (l := [d0, d1, d2, d3, d4, d5]) (by simp)
  exact law_changes els kv u0 hl hR (by omega) b u1 hvb (by omega) c u2 hc a ha x w

end Go.V01
