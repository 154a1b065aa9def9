/- Part of a proof: of what it says, and when, each theorem tells itself. -/
import Derived.Test.YtpingdgbndmcnaaC01k
set_option linter.unusedSimpArgs false
namespace Go.V01
open Go Go.Vm

/-! ### bytes, bent -/

def bend1 (b : List UInt8) (a : Nat) (v : UInt8) (how : Nat) : List UInt8 := if how % 3 = 0 then b.set (a % b.length) v else b
def bendL (b : List UInt8) (a : Nat) (v : UInt8) (how : Nat) : List UInt8 :=
  if how % 3 = 1 then b.take (a % (b.length + 1)) else if how % 9 = 2 then b ++ [v] else bend1 b a v how

theorem bufG_upto {h : Heap} {z : Nat} {els : List (List CV)} {v : VV} (hb : BufG h z els v) {k : IntKind} {b : Nat} (h3 : b ≤ els.length) :
    ∃ v', slO h z v none (some (vi k (b : Int))) none = some (v', h) ∧ ∃ w, closRes h v' = some w ∧ SlV z (els.take b) w := by
  rcases hb with ⟨rfl, rfl⟩ | ⟨id, g, hne, rfl, h2⟩
  · have hb : b = 0 := by simpa using h3
    subst hb
    exact ⟨nilS, by simp [slO, stepI, rhoO, lenV, bnd, intV], nilS, rfl, .inl ⟨rfl, by simp⟩⟩
  · have h4 : (b : Int) ≤ (els.length : Int) := by omega
    refine ⟨.own id g 0 b false, ?_, .cv (.sl z (els.take b) false), ?_, .inr ⟨_, rfl⟩⟩
    · simp [slO, stepI, rhoO, lenV, bnd, intV, h2, h4]
    · simp [closRes, closA, clos, h2, h3]

/-- The frame of Bend. -/
structure BendS (a : Nat) (x : UInt8) (w : Nat) (s : List VV) : Prop where
  hs : s.length = 48
  h1 : s.getD 1 .undef = vi .u16 a
  h2 : s.getD 2 .undef = vi .u8 x.toNat
  h3 : s.getD 3 .undef = vi .u8 w

structure BendM (b : List UInt8) (a : Nat) (x : UInt8) (w : Nat) (v : VV) (s : List VV) (h : Heap) : Prop where
  f : BendS a x w s
  h9 : s.getD 9 .undef = v
  hb : BufG h 1 (eB (bend1 b a x w)) v

theorem bend_0 (b : List UInt8) (hb : b.length ≤ 1000000000) (a : Nat) (ha : a < 65536) (x : UInt8) (w : Nat) (s : List VV) (h : Heap) (v : VV) (hS : BendS a x w s) (h9 : s.getD 9 .undef = v) (hb5 : BufG h 1 (eB b) v) :
    X F f25_0 ⟨s, h⟩ (NM2 (BendM b a x w v)) := by
  obtain ⟨hs, h1, h2, h3⟩ := hS
  have w3 : (w : Int).tmod 3 = ((w % 3 : Nat) : Int) := rfl
  have ea : IntKind.i64.wrap (a : Int) = (a : Int) := IntWalk.i64_in _ (by omega)
  rw [X_eq f25_0.eq_1]
  have skip : ∀ s', s'.length = 48 → s'.getD 1 .undef = vi .u16 a → s'.getD 2 .undef = vi .u8 x.toNat → s'.getD 3 .undef = vi .u8 w → s'.getD 9 .undef = v → (b = [] ∨ ¬ w % 3 = 0) →
      BendM b a x w v s' h := by
    intro s' hs h1 h2 h3 h9 hc
    refine ⟨⟨hs, h1, h2, h3⟩, h9, ?_⟩
    unfold bend1
    by_cases hw : w % 3 = 0
    · rcases hc with rfl | hc
      · rw [if_pos hw]; simpa using hb5
      · exact absurd hw hc
    · rw [if_neg hw]; exact hb5
  by_cases hp : (0 : Int) < (b.length : Int)
  · by_cases hw : ((w % 3 : Nat) : Int) = 0
    · have hp' : 0 < b.length := by omega
      have hne : ¬ (b.length : Int) = 0 := by omega
      have er : (a : Int).tmod (b.length : Int) = ((a % b.length : Nat) : Int) := rfl
      have hlt : a % b.length < b.length := Nat.mod_lt _ hp'
      have ho5 := hb5.own (eB_ne.2 (List.ne_nil_of_length_pos hp'))
      obtain ⟨p, hp1, hp2, hp3⟩ := ho5.byte (List.getElem?_eq_getElem hlt)
      obtain ⟨h6, e6, ho6⟩ := hp3 x
      simp only [go_sem, Nat.reduceLT, Nat.reduceEqDiff, reduceCtorEq, Int.reduceLT, Int.reduceEq, hs, h1, h2, h3, h9, hb5.ln, eB_len, hp, w3, eq_true hw, ea, hne, bin_rem, not_false_eq_true, er, hp1, e6]
      refine ⟨⟨by simp only [slot_len, hs], by simp only [go_sem, Nat.reduceLT, Nat.reduceEqDiff, reduceCtorEq, Int.reduceLT, Int.reduceEq, h1], by simp only [go_sem, Nat.reduceLT, Nat.reduceEqDiff, reduceCtorEq, Int.reduceLT, Int.reduceEq, h2], by simp only [go_sem, Nat.reduceLT, Nat.reduceEqDiff, reduceCtorEq, Int.reduceLT, Int.reduceEq, h3]⟩, by simp only [go_sem, Nat.reduceLT, Nat.reduceEqDiff, reduceCtorEq, Int.reduceLT, Int.reduceEq, h9], ?_⟩
      unfold bend1
      rw [if_pos (by omega)]
      refine ho6.bufG ?_
      rw [eB_ne]
      intro e0
      have := congrArg List.length e0
      rw [List.length_set, List.length_nil] at this
      omega
    · simp only [go_sem, Nat.reduceLT, Nat.reduceEqDiff, reduceCtorEq, Int.reduceLT, Int.reduceEq, hs, h1, h2, h3, h9, hb5.ln, eB_len, hp, w3, hw]
      exact skip _ (by simp only [slot_len, hs]) (by simp only [go_sem, Nat.reduceLT, Nat.reduceEqDiff, reduceCtorEq, Int.reduceLT, Int.reduceEq, h1]) (by simp only [go_sem, Nat.reduceLT, Nat.reduceEqDiff, reduceCtorEq, Int.reduceLT, Int.reduceEq, h2]) (by simp only [go_sem, Nat.reduceLT, Nat.reduceEqDiff, reduceCtorEq, Int.reduceLT, Int.reduceEq, h3]) (by simp only [go_sem, Nat.reduceLT, Nat.reduceEqDiff, reduceCtorEq, Int.reduceLT, Int.reduceEq, h9]) (.inr (by omega))
  · simp only [go_sem, Nat.reduceLT, Nat.reduceEqDiff, reduceCtorEq, Int.reduceLT, Int.reduceEq, hs, h1, h2, h3, h9, hb5.ln, eB_len, hp]
    exact skip _ (by simp only [slot_len, hs]) (by simp only [go_sem, Nat.reduceLT, Nat.reduceEqDiff, reduceCtorEq, Int.reduceLT, Int.reduceEq, h1]) (by simp only [go_sem, Nat.reduceLT, Nat.reduceEqDiff, reduceCtorEq, Int.reduceLT, Int.reduceEq, h2]) (by simp only [go_sem, Nat.reduceLT, Nat.reduceEqDiff, reduceCtorEq, Int.reduceLT, Int.reduceEq, h3]) (by simp only [go_sem, Nat.reduceLT, Nat.reduceEqDiff, reduceCtorEq, Int.reduceLT, Int.reduceEq, h9]) (.inl (List.eq_nil_of_length_eq_zero (by omega)))

theorem bend_f25 (b : List UInt8) (vb_ : VV) (hv : SlV 1 (eB b) vb_) (hb : b.length ≤ 1000000000) (a : Nat) (ha : a < 65536) (x : UInt8) (how : UInt8) :
    ∃ v h' w, call F 25 [vb_, vi .u16 a, vi .u8 x.toNat, vi .u8 how.toNat] [] = some (.ret v, h') ∧ closRes h' v = some w ∧ SlV 1 (eB (bendL b a x how.toNat)) w := by
  have : ∃ v h', call F 25 [vb_, vi .u16 a, vi .u8 x.toNat, vi .u8 how.toNat] [] = some (.ret v, h') ∧ (fun v h' => ∃ w, closRes h' v = some w ∧ SlV 1 (eB (bendL b a x how.toNat)) w) v h' := by
    refine call_E (fn := f25) rfl ?_
    simp only [f25]
    generalize hs0 : ([vb_, vi .u16 a, vi .u8 x.toNat, vi .u8 how.toNat] ++ List.replicate _ VV.undef : List VV) = s
    have hs : s.length = 48 := by rw [← hs0]; rfl
    have h0 : s.getD 0 .undef = vb_ := by rw [← hs0]; rfl
    have h1 : s.getD 1 .undef = vi .u16 a := by rw [← hs0]; rfl
    have h2 : s.getD 2 .undef = vi .u8 x.toNat := by rw [← hs0]; rfl
    have h3 : s.getD 3 .undef = vi .u8 how.toNat := by rw [← hs0]; rfl
    clear hs0
    have hhow := how.toNat_lt
    generalize how.toNat = w at *
    have w3 : (w : Int).tmod 3 = ((w % 3 : Nat) : Int) := rfl
    have w9 : (w : Int).tmod 9 = ((w % 9 : Nat) : Int) := rfl
    have ea : IntKind.i64.wrap (a : Int) = (a : Int) := IntWalk.i64_in _ (by omega)
    simp only [go_sem, Nat.reduceLT, Nat.reduceEqDiff, reduceCtorEq, Int.reduceLT, Int.reduceEq, hs, h0, h1, h2, h3]
    refine XO_appG (BufG.nil [] 1) (new := eB b) (by simp only [go_sem, Nat.reduceLT, Nat.reduceEqDiff, reduceCtorEq, Int.reduceLT, Int.reduceEq, hs]) (by simp only [go_sem, Nat.reduceLT, Nat.reduceEqDiff, reduceCtorEq, Int.reduceLT, Int.reduceEq, hs, h0]; exact hv.src) (by simp only [eB_len, List.length_nil]; omega) (by simp only [eB_len, List.length_nil]; omega) (fun v5 h5 hb5 _ _ => ?_)
    rw [List.nil_append] at hb5
    simp only [go_sem, Nat.reduceLT, Nat.reduceEqDiff, reduceCtorEq, Int.reduceLT, Int.reduceEq, hs]
    refine (bend_0 b hb a ha x w _ h5 v5 ⟨by simp only [slot_len, hs], by simp only [go_sem, Nat.reduceLT, Nat.reduceEqDiff, reduceCtorEq, Int.reduceLT, Int.reduceEq, h1], by simp only [go_sem, Nat.reduceLT, Nat.reduceEqDiff, reduceCtorEq, Int.reduceLT, Int.reduceEq, h2], by simp only [go_sem, Nat.reduceLT, Nat.reduceEqDiff, reduceCtorEq, Int.reduceLT, Int.reduceEq, h3]⟩ (by simp only [go_sem, Nat.reduceLT, Nat.reduceEqDiff, reduceCtorEq, Int.reduceLT, Int.reduceEq, hs]) hb5).mono (NM2_to ?_)
    clear hs h0 h1 h2 h3 hb5
    rintro s h5 ⟨⟨hs, h1, h2, h3⟩, h9, hb5⟩
    have hl1 : (bend1 b a x w).length = b.length := by unfold bend1; split <;> simp
    simp only [go_sem, Nat.reduceLT, Nat.reduceEqDiff, reduceCtorEq, Int.reduceLT, Int.reduceEq]
    rw [X_eq f25_1.eq_1]
    by_cases hw : ((w % 3 : Nat) : Int) = 1
    · have hw9 : ¬ ((w % 9 : Nat) : Int) = 2 := by omega
      have hw0 : ¬ w % 3 = 0 := by omega
      have hb1 : bend1 b a x w = b := by unfold bend1; rw [if_neg hw0]
      rw [hb1] at hb5
      have e1 : IntKind.i64.wrap ((b.length : Int) + 1) = ((b.length + 1 : Nat) : Int) := by rw [IntWalk.i64_in _ (by omega)]; omega
      have hne : ¬ ((b.length + 1 : Nat) : Int) = 0 := by omega
      have er : (a : Int).tmod ((b.length + 1 : Nat) : Int) = ((a % (b.length + 1) : Nat) : Int) := rfl
      have hlt : a % (b.length + 1) < b.length + 1 := Nat.mod_lt _ (by omega)
      obtain ⟨v', e2, w', e3, e4⟩ := bufG_upto hb5 (k := .i64) (b := a % (b.length + 1)) (by rw [eB_len]; omega)
      simp only [go_sem, Nat.reduceLT, Nat.reduceEqDiff, reduceCtorEq, Int.reduceLT, Int.reduceEq, hs, h1, h3, h9, w3, eq_true hw, hb5.ln, eB_len, e1, ea, hne, bin_rem, not_false_eq_true, er, e2]
      rw [X_eq f25_2.eq_1]
      simp only [go_sem, Nat.reduceLT, Nat.reduceEqDiff, reduceCtorEq, Int.reduceLT, Int.reduceEq, hs, h3, w9, hw9]
      refine ⟨w', e3, ?_⟩
      unfold bendL
      rw [if_pos (by omega), ← eB_take]; exact e4
    · simp only [go_sem, Nat.reduceLT, Nat.reduceEqDiff, reduceCtorEq, Int.reduceLT, Int.reduceEq, hs, h1, h3, h9, w3, hw]
      rw [X_eq f25_2.eq_1]
      have hw' : ¬ w % 3 = 1 := by omega
      by_cases hw9 : ((w % 9 : Nat) : Int) = 2
      · have hw9' : w % 9 = 2 := by omega
        have hb1 : bend1 b a x w = b := by unfold bend1; rw [if_neg (by omega)]
        rw [hb1] at hb5
        simp only [go_sem, Nat.reduceLT, Nat.reduceEqDiff, reduceCtorEq, Int.reduceLT, Int.reduceEq, hs, h2, h3, h9, w9, eq_true hw9]
        refine XO_appG hb5 (new := eB [x]) (by simp only [go_sem, Nat.reduceLT, Nat.reduceEqDiff, reduceCtorEq, Int.reduceLT, Int.reduceEq, hs, h9]) (by simp only [go_sem, Nat.reduceLT, Nat.reduceEqDiff, reduceCtorEq, Int.reduceLT, Int.reduceEq, hs]; rfl) (by simp only [eB_len, List.length_singleton]; omega) (by simp only [eB_len, List.length_singleton]; omega) (fun v6 h6 hb6 _ _ => ?_)
        rw [← eB_append] at hb6
        simp only [go_sem, Nat.reduceLT, Nat.reduceEqDiff, reduceCtorEq, Int.reduceLT, Int.reduceEq, hs]
        refine ⟨_, hb6.close, ?_⟩
        unfold bendL
        rw [if_neg hw', if_pos hw9']
        exact slV_SlV
      · have hw9' : ¬ w % 9 = 2 := by omega
        simp only [go_sem, Nat.reduceLT, Nat.reduceEqDiff, reduceCtorEq, Int.reduceLT, Int.reduceEq, hs, h3, h9, w9, hw9]
        refine ⟨_, hb5.close, ?_⟩
        unfold bendL
        rw [if_neg hw', if_neg hw9']
        exact slV_SlV
  obtain ⟨v, h', e1, w, e2, e3⟩ := this
  exact ⟨v, h', w, e1, e2, e3⟩

end Go.V01
