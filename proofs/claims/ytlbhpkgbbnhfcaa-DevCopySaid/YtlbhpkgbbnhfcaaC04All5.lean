/- Part of a proof: of what it says, and when, each theorem tells itself. -/
import Derived.Test.YtlbhpkgbbnhfcaaC04All4
import Derived.Test.YtlbhpkgbbnhfcaaVmAll2
set_option linter.unusedSimpArgs false
set_option linter.unusedVariables false
namespace Go.V04
open Go Go.Vm

theorem SE.set {els : List (List CV)} {l : List (List UInt8)} (h : SE els l) (n : Nat) (b : List UInt8) (ex : Bool) : SE (els.set n [.sl 1 (eB b) ex]) (l.set n b) := by
  refine ⟨by simp [h.1], fun i c hi => ?_⟩
  rw [List.getElem?_set] at hi ⊢
  rw [h.1]
  split at hi
  · rename_i e
    rw [if_pos e]
    split at hi
    · rename_i hlt
      cases hi
      exact ⟨ex, by rw [if_pos hlt]⟩
    · cases hi
  · rename_i e
    rw [if_neg e]; exact h.2 i c hi

theorem f34_loop {p : Nat} {S L : CV} {w f le : Int} {fu : Bool} {eL : List (List CV)} {l : List (Nat × List UInt8)} (hS : SlV 2 eL (.cv L)) (hE : LE eL l) (hn : l.length ≤ 1000) {n : Nat} (hat : ∀ o ∈ l, o.1 < n) {kp : List Bool} {uk : VV} (huk : SlV 1 (eBool kp) uk) :
    ∀ (rest done : List (Nat × List UInt8)) (firm : List (List UInt8)) (els : List (List CV)) (s : List VV) (g : Heap) (v : VV) (Q : Pst), l = done ++ rest → firm.length = n → SE els firm → s.length = 48 → s.getD 1 .undef = uk → s.getD 2 .undef = .ptr p 0 → s.getD 5 .undef = v → s.getD 6 .undef = vi .i64 done.length →
      g[p]? = some (.box (tC S L w f fu le) false) → BufG g 1 els v →
      (∀ s' g' els', s'.length = 48 → s'.getD 2 .undef = .ptr p 0 → s'.getD 4 .undef = s.getD 4 .undef → s'.getD 5 .undef = v → SE els' (settleF (keepF kp) done.length firm rest) → BufG g' 1 els' v → (∀ (j : Nat) (o : VO), g[j]? = some o → (∀ e g, o ≠ VO.arr 1 e g false) → g'[j]? = some o) → Q (.exit 0) ⟨s', g'⟩) → X F (.loop f34_0) ⟨s, g⟩ Q := by
  intro rest
  induction rest with
  | nil =>
    intro done firm els s g v Q hdr hfn hSE hs h1 h2 h5 h6 hp hB hQ
    rw [X_loop, X_eq f34_0.eq_1]
    obtain ⟨_, k1, _⟩ := ld6 hp
    have c : ¬ (done.length : Int) < (eL.length : Int) := by rw [hE.1, hdr]; simp
    simp only [go_sem, Nat.reduceLT, Nat.reduceEqDiff, reduceCtorEq, Int.reduceLT, Int.reduceEq, hs, h2, h6, k1, hS.ln, c]
    exact hQ _ _ els (by simp only [slot_len, hs]) (by simp only [go_sem, Nat.reduceLT, Nat.reduceEqDiff, reduceCtorEq, Int.reduceLT, Int.reduceEq, h2]) (by simp only [go_sem, Nat.reduceLT, Nat.reduceEqDiff, reduceCtorEq, Int.reduceLT, Int.reduceEq]) (by simp only [go_sem, Nat.reduceLT, Nat.reduceEqDiff, reduceCtorEq, Int.reduceLT, Int.reduceEq, h5]) hSE hB (fun _ _ h _ => h)
  | cons o rest ih =>
    intro done firm els s g v Q hdr hfn hSE hs h1 h2 h5 h6 hp hB hQ
    rw [X_loop, X_eq f34_0.eq_1]
    obtain ⟨_, k1, _⟩ := ld6 hp
    have hlen : l.length = done.length + (rest.length + 1) := by rw [hdr]; simp
    have c : (done.length : Int) < (eL.length : Int) := by rw [hE.1]; omega
    have hw : IntKind.i64.wrap ((done.length : Int) + 1) = ((done ++ [o]).length : Int) := by rw [IntWalk.i64_in _ (by omega)]; simp
    have hsu : settleF (keepF kp) done.length firm (o :: rest) = settleF (keepF kp) (done ++ [o]).length (if keepF kp done.length then firm.set o.1 o.2 else firm) rest := by
      rw [List.length_append]; rfl
    rw [hsu] at hQ
    have no : keepF kp done.length = false → ∀ s', s'.length = 48 → s'.getD 1 .undef = uk ∧ s'.getD 2 .undef = .ptr p 0 ∧ s'.getD 4 .undef = s.getD 4 .undef ∧ s'.getD 5 .undef = v ∧ s'.getD 6 .undef = vi .i64 (done ++ [o]).length → X F (.loop f34_0) ⟨s', g⟩ Q := by
      intro hkf s' hs' ⟨a1, a2, a4, a5, a6⟩
      rw [hkf, if_neg (by simp)] at hQ
      refine ih (done ++ [o]) firm els s' g v Q (by rw [hdr]; simp) hfn hSE hs' a1 a2 a5 a6 hp hB (fun s'' g'' els'' b1 b2 b3 b4 => hQ s'' g'' els'' b1 b2 (by rw [b3, a4]) b4)
    by_cases ck : done.length < kp.length
    · have ck' : (done.length : Int) < (kp.length : Int) := by omega
      have hka : ∀ g, iaO g 1 uk (vi .i64 done.length) = some (.rptr [.sc (.bool kp[done.length])], g) := fun g => huk.ia (h := g) (k := .i64) (j := (done.length : Int)) (by omega) (by show (eBool kp)[done.length]? = _; simp [eBool, ck])
      have hkf : keepF kp done.length = kp[done.length] := by unfold keepF; rw [List.getD_eq_getElem?_getD, List.getElem?_eq_getElem ck]; rfl
      cases hkb2 : kp[done.length] with
      | false =>
        rw [hkb2] at hka hkf
        simp only [go_sem, Nat.reduceLT, Nat.reduceEqDiff, reduceCtorEq, Int.reduceLT, Int.reduceEq, hs, h1, h2, h6, k1, hS.ln, c, huk.ln, eBool_len, ck', hka, hw]
        exact no hkf _ (by simp only [slot_len, hs]) ⟨by simp only [go_sem, Nat.reduceLT, Nat.reduceEqDiff, reduceCtorEq, Int.reduceLT, Int.reduceEq, h1], by simp only [go_sem, Nat.reduceLT, Nat.reduceEqDiff, reduceCtorEq, Int.reduceLT, Int.reduceEq, h2], by simp only [go_sem, Nat.reduceLT, Nat.reduceEqDiff, reduceCtorEq, Int.reduceLT, Int.reduceEq], by simp only [go_sem, Nat.reduceLT, Nat.reduceEqDiff, reduceCtorEq, Int.reduceLT, Int.reduceEq, h5], by simp only [go_sem, Nat.reduceLT, Nat.reduceEqDiff, reduceCtorEq, Int.reduceLT, Int.reduceEq, hs]⟩
      | true =>
        rw [hkb2] at hka hkf
        rw [hkf, if_pos rfl] at hQ
        obtain ⟨ex, he⟩ := hE.2 done.length o (by rw [hdr]; simp)
        have hia := hS.ia (h := g) (k := .i64) (j := (done.length : Int)) (by omega) he
        have hof : o.1 < firm.length := by rw [hfn]; exact hat o (by rw [hdr]; simp)
        rcases hB with ⟨e0, _⟩ | ⟨id, gg, hne, rfl, hA⟩
        · have := hSE.1; rw [e0] at this; simp at this; omega
        · have hoe : o.1 < els.length := by rw [hSE.1]; exact hof
          have hia2 : iaO g 1 (.own id gg 0 els.length false) (vi .i64 (o.1 : Int)) = some (.eptr id gg o.1 0, g) := by
            rw [ia_own (els := els) (fr := false) (by omega) hA (by simpa using hoe)]; simp
          obtain ⟨ex2, hel⟩ := hSE.2 o.1 firm[o.1] (List.getElem?_eq_getElem hof)
          have hst := st_e1 (h := g) (off := 0) (c := .sl 1 (eB o.2) ex) hA hel (by simp)
          rw [show ([CV.sl 1 (eB firm[o.1]) ex2].set 0 (.sl 1 (eB o.2) ex)) = [.sl 1 (eB o.2) ex] from rfl] at hst
          simp only [go_sem, Nat.reduceLT, Nat.reduceEqDiff, reduceCtorEq, Int.reduceLT, Int.reduceEq, hs, h1, h2, h6, k1, hS.ln, c, huk.ln, eBool_len, ck', hka]
          refine X_draw rfl ?_
          simp only [go_sem, Nat.reduceLT, Nat.reduceEqDiff, reduceCtorEq, Int.reduceLT, Int.reduceEq, hs, h2, h5, h6, k1, hia, hia2, hst, hw]
          have hpid : id ≠ p := by rintro rfl; rw [hp] at hA; cases hA
          refine ih (done ++ [o]) (firm.set o.1 o.2) (els.set o.1 [.sl 1 (eB o.2) ex]) _ _ _ Q (by rw [hdr]; simp) (by rw [List.length_set]; exact hfn) (hSE.set _ _ _) (by simp only [slot_len, hs]) (by simp only [go_sem, Nat.reduceLT, Nat.reduceEqDiff, reduceCtorEq, Int.reduceLT, Int.reduceEq, h1]) (by simp only [go_sem, Nat.reduceLT, Nat.reduceEqDiff, reduceCtorEq, Int.reduceLT, Int.reduceEq, h2]) (by simp only [go_sem, Nat.reduceLT, Nat.reduceEqDiff, reduceCtorEq, Int.reduceLT, Int.reduceEq, h5]) (by simp only [go_sem, Nat.reduceLT, Nat.reduceEqDiff, reduceCtorEq, Int.reduceLT, Int.reduceEq, hs]) (by rw [List.getElem?_set_ne hpid]; exact hp) ?_ (fun s'' g'' els'' b1 b2 b3 b4 b5 b6 b7 => hQ s'' g'' els'' b1 b2 (by rw [b3]; simp only [go_sem, Nat.reduceLT, Nat.reduceEqDiff, reduceCtorEq, Int.reduceLT, Int.reduceEq]) b4 b5 b6 (fun j o' hj ho' => b7 j o' (by rw [List.getElem?_set_ne (by rintro rfl; rw [hA] at hj; cases hj; exact ho' _ _ rfl)]; exact hj) ho'))
          exact .inr ⟨id, gg, by intro e; have := congrArg List.length e; simp at this; exact hne this, by rw [List.length_set], by rw [List.getElem?_set_self (lt_of_get hA)]⟩
    · have ck' : ¬ (done.length : Int) < (kp.length : Int) := by omega
      have hkf : keepF kp done.length = false := by unfold keepF; rw [List.getD_eq_getElem?_getD, List.getElem?_eq_none (by omega)]; rfl
      simp only [go_sem, Nat.reduceLT, Nat.reduceEqDiff, reduceCtorEq, Int.reduceLT, Int.reduceEq, hs, h1, h2, h6, k1, hS.ln, c, huk.ln, eBool_len, ck', hw]
      exact no hkf _ (by simp only [slot_len, hs]) ⟨by simp only [go_sem, Nat.reduceLT, Nat.reduceEqDiff, reduceCtorEq, Int.reduceLT, Int.reduceEq, h1], by simp only [go_sem, Nat.reduceLT, Nat.reduceEqDiff, reduceCtorEq, Int.reduceLT, Int.reduceEq, h2], by simp only [go_sem, Nat.reduceLT, Nat.reduceEqDiff, reduceCtorEq, Int.reduceLT, Int.reduceEq], by simp only [go_sem, Nat.reduceLT, Nat.reduceEqDiff, reduceCtorEq, Int.reduceLT, Int.reduceEq, h5], by simp only [go_sem, Nat.reduceLT, Nat.reduceEqDiff, reduceCtorEq, Int.reduceLT, Int.reduceEq, hs]⟩

theorem BufG.cell {h : Heap} {z : Nat} {els : List (List CV)} {v : VV} (hb : BufG h z els v) : isCell v = true := by
  rcases hb with ⟨_, rfl⟩ | ⟨_, _, _, rfl, _⟩ <;> rfl
abbrev nilC : CV := .sc (.slice none 0 0)

theorem rcrash_f34 {d : D} {S L : CV} {w f : Int} {fu : Bool} {le : Int} (hT : TIs d S L w f fu le) (hO : d.OK) (kp : List Bool) (uk : VV) (huk : SlV 1 (eBool kp) uk) :
    ∃ v h' S', call F 34 [.agg (tC S L w f fu le), uk] [] = some (.ret v, h') ∧ closRes h' v = some (.agg (tC S' nilC w f false 0)) ∧ TIs (d.crash kp) S' nilC w f false 0 := by
  have : ∀ h : Heap, ∃ v h', call F 34 [.agg (tC S L w f fu le), uk] h = some (.ret v, h') ∧ (fun v h' => ∃ S', closRes h' v = some (.agg (tC S' nilC w f false 0)) ∧ TIs (d.crash kp) S' nilC w f false 0) v h' := by
    intro h
    refine call_E (fn := f34) rfl ?_
    simp only [f34]
    generalize hs0 : ([.agg (tC S L w f fu le), uk] ++ List.replicate _ VV.undef : List VV) = s
    have hs : s.length = 48 := by rw [← hs0]; rfl
    have h0 : s.getD 0 .undef = .agg (tC S L w f fu le) := by rw [← hs0]; rfl
    have h1 : s.getD 1 .undef = uk := by rw [← hs0]; rfl
    clear hs0
    obtain ⟨eS, hSS, hSE⟩ := hT.s
    obtain ⟨eL, hSL, hLE⟩ := hT.l
    have hn1 := hSE.1
    have hO1 := hO.n
    have hO2 := hO.lw
    simp only [go_sem, Nat.reduceLT, Nat.reduceEqDiff, reduceCtorEq, Int.reduceLT, Int.reduceEq, hs, h0]
    rw [bx_agg (n := 6) rfl]
    simp only [go_sem, Nat.reduceLT, Nat.reduceEqDiff, reduceCtorEq, Int.reduceLT, Int.reduceEq, hs]
    generalize hg1 : h ++ [VO.box (tC S L w f fu le) false] = g1
    have q1 : (g1 ++ [VO.box [nilS, nilS, vi .i64 0, vi .i64 0, vb false, vi .i64 0] false])[h.length]? = some (.box (tC S L w f fu le) false) := by rw [← hg1]; simp
    have q2 : (g1 ++ [VO.box [nilS, nilS, vi .i64 0, vi .i64 0, vb false, vi .i64 0] false])[g1.length]? = some (.box [nilS, nilS, vi .i64 0, vi .i64 0, vb false, vi .i64 0] false) := at_last
    have hne : h.length ≠ g1.length := by rw [← hg1]; simp
    generalize hg2 : g1 ++ [VO.box [nilS, nilS, vi .i64 0, vi .i64 0, vb false, vi .i64 0] false] = g2 at q1 q2
    obtain ⟨k0, _⟩ := ld6 q1
    simp only [go_sem, Nat.reduceLT, Nat.reduceEqDiff, reduceCtorEq, Int.reduceLT, Int.reduceEq, hs, k0]
    refine XO_appG (els := []) (new := eS) (BufG.nil g2 1) (by simp only [go_sem, Nat.reduceLT, Nat.reduceEqDiff, reduceCtorEq, Int.reduceLT, Int.reduceEq, hs]) (by simp only [go_sem, Nat.reduceLT, Nat.reduceEqDiff, reduceCtorEq, Int.reduceLT, Int.reduceEq, hs]; exact hSS.src) (by simp only [List.length_nil]; omega) (by simp only [List.length_nil]; omega) (fun v3 g3 B3 _ K3 => ?_)
    rw [List.nil_append] at B3
    have r1 := K3 _ _ q1 (by intro e g h; cases h)
    have r2 := K3 _ _ q2 (by intro e g h; cases h)
    simp only [go_sem, Nat.reduceLT, Nat.reduceEqDiff, reduceCtorEq, Int.reduceLT, Int.reduceEq, hs]
    refine f34_loop hSL hLE (by omega) (n := d.firm.length) (fun o ho => (hO.l64 o ho).2) huk d.loose [] d.firm eS _ _ v3 _ rfl rfl hSE (by simp only [slot_len, hs]) (by simp only [go_sem, Nat.reduceLT, Nat.reduceEqDiff, reduceCtorEq, Int.reduceLT, Int.reduceEq, h1]) (by simp only [go_sem, Nat.reduceLT, Nat.reduceEqDiff, reduceCtorEq, Int.reduceLT, Int.reduceEq, hs]) (by simp only [go_sem, Nat.reduceLT, Nat.reduceEqDiff, reduceCtorEq, Int.reduceLT, Int.reduceEq, hs]) (by simp only [go_sem, Nat.reduceLT, Nat.reduceEqDiff, reduceCtorEq, Int.reduceLT, Int.reduceEq, hs]; rfl) r1 B3 (fun s4 g4 e4 a1 a2 a4 a5 E4 B4 K4 => ?_)
    have a4' : s4.getD 4 .undef = .ptr g1.length 0 := by rw [a4]; simp only [go_sem, Nat.reduceLT, Nat.reduceEqDiff, reduceCtorEq, Int.reduceLT, Int.reduceEq, hs]
    clear a4
    have u1 := K4 _ _ r1 (by intro e g h; cases h)
    have u2 := K4 _ _ r2 (by intro e g h; cases h)
    obtain ⟨s0, _⟩ := st6 u1 (BufG.cell B4)
    generalize hx1 : g4.set h.length (.box [v3, .cv L, vi .i64 w, vi .i64 f, vb fu, vi .i64 le] false) = x1 at s0
    have v1 : x1[h.length]? = some (.box [v3, .cv L, vi .i64 w, vi .i64 f, vb fu, vi .i64 le] false) := by rw [← hx1, List.getElem?_set_self (lt_of_get u1)]
    have v2 : x1[g1.length]? = some (.box [nilS, nilS, vi .i64 0, vi .i64 0, vb false, vi .i64 0] false) := by rw [← hx1, List.getElem?_set_ne hne]; exact u2
    have C1 : BufG x1 1 e4 v3 := by rw [← hx1]; exact B4.setBox u1 _
    obtain ⟨_, s1, _⟩ := st6 v1 (v := nilS) rfl
    generalize hx2 : x1.set h.length (.box [v3, nilS, vi .i64 w, vi .i64 f, vb fu, vi .i64 le] false) = x2 at s1
    have v1' : x2[h.length]? = some (.box [v3, nilS, vi .i64 w, vi .i64 f, vb fu, vi .i64 le] false) := by rw [← hx2, List.getElem?_set_self (lt_of_get v1)]
    have v2' : x2[g1.length]? = some (.box [nilS, nilS, vi .i64 0, vi .i64 0, vb false, vi .i64 0] false) := by rw [← hx2, List.getElem?_set_ne hne]; exact v2
    have C2 : BufG x2 1 e4 v3 := by rw [← hx2]; exact C1.setBox v1 _
    obtain ⟨_, _, _, _, s4', _⟩ := st6 v1' (v := vb false) rfl
    generalize hx3 : x2.set h.length (.box [v3, nilS, vi .i64 w, vi .i64 f, vb false, vi .i64 le] false) = x3 at s4'
    have v1'' : x3[h.length]? = some (.box [v3, nilS, vi .i64 w, vi .i64 f, vb false, vi .i64 le] false) := by rw [← hx3, List.getElem?_set_self (lt_of_get v1')]
    have v2'' : x3[g1.length]? = some (.box [nilS, nilS, vi .i64 0, vi .i64 0, vb false, vi .i64 0] false) := by rw [← hx3, List.getElem?_set_ne hne]; exact v2'
    have C3 : BufG x3 1 e4 v3 := by rw [← hx3]; exact C2.setBox v1' _
    obtain ⟨_, _, _, _, _, s5'⟩ := st6 v1'' (v := vi .i64 0) rfl
    generalize hx4 : x3.set h.length (.box [v3, nilS, vi .i64 w, vi .i64 f, vb false, vi .i64 0] false) = x4 at s5'
    have y1 : x4[h.length]? = some (.box [v3, nilS, vi .i64 w, vi .i64 f, vb false, vi .i64 0] false) := by rw [← hx4, List.getElem?_set_self (lt_of_get v1'')]
    have y2 : x4[g1.length]? = some (.box [nilS, nilS, vi .i64 0, vi .i64 0, vb false, vi .i64 0] false) := by rw [← hx4, List.getElem?_set_ne hne]; exact v2''
    have C4 : BufG x4 1 e4 v3 := by rw [← hx4]; exact C3.setBox v1'' _
    obtain ⟨_, _, _, _, _, _, l6⟩ := ld6 y1
    have e6 := sta6 y2 (a' := v3) (b' := nilS) (c' := vi .i64 w) (d' := vi .i64 f) (e' := vb false) (f' := vi .i64 0)
    simp only [go_sem, Nat.reduceLT, Nat.reduceEqDiff, reduceCtorEq, Int.reduceLT, Int.reduceEq, a1, a2, a4', a5, s0, s1, s4', s5', l6, e6]
    refine RQ_c0 (id := g1.length) (by simp only [go_sem, Nat.reduceLT, Nat.reduceEqDiff, reduceCtorEq, Int.reduceLT, Int.reduceEq, a4']) (by rw [List.getElem?_set_self (lt_of_get y2)]) rfl ?_
    obtain ⟨cS, hF, z1, z2⟩ := buf_clos (C4.setBox y2 (.box [v3, nilS, vi .i64 w, vi .i64 f, vb false, vi .i64 0] false))
    refine ⟨cS, ?_, ⟨⟨e4, by rw [z2]; exact slV_SlV, E4⟩, ⟨[], .inl ⟨rfl, rfl⟩, ⟨rfl, fun i o h => by cases h⟩⟩, hT.w, hT.f, rfl, fun e => by cases e⟩⟩
    simp only [closRes, closA, closL, z1, clA_cv]
    rfl
  obtain ⟨v, h', e1, S', e2⟩ := this []
  exact ⟨v, h', S', e1, e2⟩
end Go.V04

set_option linter.unusedSimpArgs false
set_option linter.unusedVariables false
namespace Go.V04
open Go Go.Vm

theorem settle_congr {kf kf' : Nat → Bool} : ∀ {l : List (Nat × List UInt8)} {a : Nat} {firm : List (List UInt8)}, (∀ k, a ≤ k → k < a + l.length → kf k = kf' k) → settleF kf a firm l = settleF kf' a firm l
  | [], _, _, _ => rfl
  | o :: l, a, firm, h => by
    show settleF kf (a + 1) (if kf a then firm.set o.1 o.2 else firm) l = settleF kf' (a + 1) (if kf' a then firm.set o.1 o.2 else firm) l
    rw [h a (Nat.le_refl _) (by simp)]
    exact settle_congr fun k h1 h2 => h k (by omega) (by simp; omega)

theorem buf_closA {h : Heap} {z : Nat} {els : List (List CV)} {v : VV} (b : BufG h z els v) : ∃ h1, closA h v = some (slV z els, h1) ∧ ∀ (j : Nat) (o : VO), h[j]? = some o → (∀ e g, o ≠ VO.arr z e g false) → h1[j]? = some o := by
  by_cases hn : els = []
  · rcases b with ⟨rfl, rfl⟩ | ⟨_, _, hne, _⟩
    · exact ⟨h, rfl, fun _ _ h _ => h⟩
    · exact absurd hn hne
  · refine ⟨_, by unfold slV; rw [if_neg hn]; exact BufG.res b hn, fun j o hj ho => ?_⟩
    rcases b with ⟨e, _⟩ | ⟨id, g, hne, rfl, h2⟩
    · exact absurd e hn
    · simp only
      rw [List.getElem?_set_ne (by rintro rfl; rw [h2] at hj; cases hj; exact ho _ _ rfl)]; exact hj

theorem f33_loop {p : Nat} {S L : CV} {w f le : Int} {fu : Bool} {eL : List (List CV)} (hS : SlV 2 eL (.cv L)) (hn : eL.length ≤ 1000) :
    ∀ (r k : Nat) (s : List VV) (g : Heap) (v : VV) (Q : Pst), k + r = eL.length → s.length = 40 → s.getD 3 .undef = .ptr p 0 → s.getD 5 .undef = v → s.getD 6 .undef = vi .i64 k → g[p]? = some (.box (tC S L w f fu le) false) → BufG g 1 (eBool (List.replicate k true)) v →
      (∀ s' g' v', s'.length = 40 → s'.getD 2 .undef = s.getD 2 .undef → s'.getD 3 .undef = .ptr p 0 → s'.getD 5 .undef = v' → BufG g' 1 (eBool (List.replicate eL.length true)) v' → (∀ (j : Nat) (o : VO), g[j]? = some o → (∀ e g, o ≠ VO.arr 1 e g false) → g'[j]? = some o) → Q (.exit 0) ⟨s', g'⟩) → X F (.loop f33_1) ⟨s, g⟩ Q := by
  intro r
  induction r with
  | zero =>
    intro k s g v Q hk hs h3 h5 h6 hp hB hQ
    rw [X_loop, X_eq f33_1.eq_1]
    obtain ⟨_, k1, _⟩ := ld6 hp
    have c : ¬ (k : Int) < (eL.length : Int) := by omega
    simp only [go_sem, Nat.reduceLT, Nat.reduceEqDiff, reduceCtorEq, Int.reduceLT, Int.reduceEq, hs, h3, h6, k1, hS.ln, c]
    exact hQ _ _ v (by simp only [slot_len, hs]) (by simp only [go_sem, Nat.reduceLT, Nat.reduceEqDiff, reduceCtorEq, Int.reduceLT, Int.reduceEq]) (by simp only [go_sem, Nat.reduceLT, Nat.reduceEqDiff, reduceCtorEq, Int.reduceLT, Int.reduceEq, h3]) (by simp only [go_sem, Nat.reduceLT, Nat.reduceEqDiff, reduceCtorEq, Int.reduceLT, Int.reduceEq, h5]) (by rw [← hk]; exact hB) (fun _ _ h _ => h)
  | succ r ih =>
    intro k s g v Q hk hs h3 h5 h6 hp hB hQ
    rw [X_loop, X_eq f33_1.eq_1]
    obtain ⟨_, k1, _⟩ := ld6 hp
    have c : (k : Int) < (eL.length : Int) := by omega
    have hw : IntKind.i64.wrap ((k : Int) + 1) = ((k + 1 : Nat) : Int) := by rw [IntWalk.i64_in _ (by omega)]; omega
    simp only [go_sem, Nat.reduceLT, Nat.reduceEqDiff, reduceCtorEq, Int.reduceLT, Int.reduceEq, hs, h3, h5, h6, k1, hS.ln, c]
    refine XO_appG (els := eBool (List.replicate k true)) (new := [[.sc (.bool true)]]) hB (by simp only [go_sem, Nat.reduceLT, Nat.reduceEqDiff, reduceCtorEq, Int.reduceLT, Int.reduceEq, hs]) (by simp only [go_sem, Nat.reduceLT, Nat.reduceEqDiff, reduceCtorEq, Int.reduceLT, Int.reduceEq, hs]) (by rw [eBool_len]; simp; omega) (by rw [eBool_len]; simp; omega) (fun v' g' B' _ K' => ?_)
    simp only [go_sem, Nat.reduceLT, Nat.reduceEqDiff, reduceCtorEq, Int.reduceLT, Int.reduceEq, hs, h6, hw]
    refine ih (k + 1) _ g' v' Q (by omega) (by simp only [slot_len, hs]) (by simp only [go_sem, Nat.reduceLT, Nat.reduceEqDiff, reduceCtorEq, Int.reduceLT, Int.reduceEq, h3]) (by simp only [go_sem, Nat.reduceLT, Nat.reduceEqDiff, reduceCtorEq, Int.reduceLT, Int.reduceEq, hs]) (by simp only [go_sem, Nat.reduceLT, Nat.reduceEqDiff, reduceCtorEq, Int.reduceLT, Int.reduceEq, hs]) (K' _ _ hp (by intro e g h; cases h)) ?_ (fun s'' g'' v'' b1 b2 b3 b4 b5 b6 => hQ s'' g'' v'' b1 (by rw [b2]; simp only [go_sem, Nat.reduceLT, Nat.reduceEqDiff, reduceCtorEq, Int.reduceLT, Int.reduceEq]) b3 b4 b5 (fun j o hj ho => b6 j o (K' j o hj ho) ho))
    have : eBool (List.replicate (k + 1) true) = eBool (List.replicate k true) ++ [[.sc (.bool true)]] := by rw [List.replicate_succ']; simp [eBool]
    rw [this]; exact B'

theorem rflush_f33 {d : D} {S L : CV} {w f : Int} {fu : Bool} {le : Int} (hT : TIs d S L w f fu le) (hO : d.OK) :
    ∃ v h' S' L' f' le', call F 33 [.agg (tC S L w f fu le)] [] = some (.ret v, h') ∧ closRes h' v = some (.agg (tC S' L' w f' fu le')) ∧ TIs d.flush S' L' w f' fu le' := by
  have : ∀ h : Heap, ∃ v h', call F 33 [.agg (tC S L w f fu le)] h = some (.ret v, h') ∧ (fun v h' => ∃ S' L' f' le', closRes h' v = some (.agg (tC S' L' w f' fu le')) ∧ TIs d.flush S' L' w f' fu le') v h' := by
    intro h
    refine call_E (fn := f33) rfl ?_
    simp only [f33]
    generalize hs0 : ([.agg (tC S L w f fu le)] ++ List.replicate _ VV.undef : List VV) = s
    have hs : s.length = 40 := by rw [← hs0]; rfl
    have h0 : s.getD 0 .undef = .agg (tC S L w f fu le) := by rw [← hs0]; rfl
    clear hs0
    obtain ⟨eL, hSL, hLE⟩ := hT.l
    have hn2 := hLE.1
    have hO2 := hO.lw
    simp only [go_sem, Nat.reduceLT, Nat.reduceEqDiff, reduceCtorEq, Int.reduceLT, Int.reduceEq, hs, h0]
    rw [bx_agg (n := 6) rfl]
    simp only [go_sem, Nat.reduceLT, Nat.reduceEqDiff, reduceCtorEq, Int.reduceLT, Int.reduceEq, hs]
    generalize hg1 : h ++ [VO.box (tC S L w f fu le) false] = g1
    have q1 : (g1 ++ [VO.box [nilS, nilS, vi .i64 0, vi .i64 0, vb false, vi .i64 0] false])[h.length]? = some (.box (tC S L w f fu le) false) := by rw [← hg1]; simp
    have q2 : (g1 ++ [VO.box [nilS, nilS, vi .i64 0, vi .i64 0, vb false, vi .i64 0] false])[g1.length]? = some (.box [nilS, nilS, vi .i64 0, vi .i64 0, vb false, vi .i64 0] false) := at_last
    generalize hg2 : g1 ++ [VO.box [nilS, nilS, vi .i64 0, vi .i64 0, vb false, vi .i64 0] false] = g2 at q1 q2
    have hl2 : g2.length = g1.length + 1 := by rw [← hg2]; simp
    obtain ⟨_, _, _, _, _, _, k6⟩ := ld6 q1
    simp only [go_sem, Nat.reduceLT, Nat.reduceEqDiff, reduceCtorEq, Int.reduceLT, Int.reduceEq, hs, k6]
    obtain ⟨v4, h4, n4, r4⟩ := rburn_f41 S L w f fu le
    refine XO_callP (h1 := g2) (by simp only [List.map, go_sem, Nat.reduceLT, Nat.reduceEqDiff, reduceCtorEq, Int.reduceLT, Int.reduceEq, hs]; rfl) n4 r4 ?_
    obtain ⟨hTb, hok⟩ := hT.burn
    generalize hle : (rBurn fu le).1 = le1 at *
    rw [hok]
    simp only [go_sem, Nat.reduceLT, Nat.reduceEqDiff, reduceCtorEq, Int.reduceLT, Int.reduceEq, hs]
    rw [st_l_n]
    have q6 := (Ext.push g2 (VO.box (tC S L w f fu le1) false)).get q2
    have q8 : (g2 ++ [VO.box (tC S L w f fu le1) false])[g2.length]? = some (.box (tC S L w f fu le1) false) := at_last
    generalize hg3 : g2 ++ [VO.box (tC S L w f fu le1) false] = g3 at q6 q8
    obtain ⟨_, _, _, _, _, _, m6⟩ := ld6 q8
    have e60 := sta6 q6 (a' := .cv S) (b' := .cv L) (c' := vi .i64 w) (d' := vi .i64 f) (e' := vb fu) (f' := vi .i64 le1)
    simp only [go_sem, Nat.reduceLT, Nat.reduceEqDiff, reduceCtorEq, Int.reduceLT, Int.reduceEq, hs]
    rw [X_eq f33_0.eq_1]
    cases hdk : d.dark with
    | true =>
      simp only [go_sem, Nat.reduceLT, Nat.reduceEqDiff, reduceCtorEq, Int.reduceLT, Int.reduceEq, hs, Bool.not_true, Bool.not_false, m6, e60]
      refine RQ_c0 (id := g1.length) (by simp only [go_sem, Nat.reduceLT, Nat.reduceEqDiff, reduceCtorEq, Int.reduceLT, Int.reduceEq, hs]) (by rw [List.getElem?_set_self (lt_of_get q6)]) rfl ?_
      have eb : d.burnt = d := by unfold D.burnt; rw [if_pos hdk]
      rw [eb] at hTb
      have ef : d.flush = d := by unfold D.flush; rw [if_pos hdk]
      rw [ef]
      exact ⟨S, L, f, le1, rfl, hTb⟩
    | false =>
      simp only [go_sem, Nat.reduceLT, Nat.reduceEqDiff, reduceCtorEq, Int.reduceLT, Int.reduceEq, hs, Bool.not_true, Bool.not_false]
      refine f33_loop hSL (by omega) eL.length 0 _ _ nilS _ (by omega) (by simp only [slot_len, hs]) (by simp only [go_sem, Nat.reduceLT, Nat.reduceEqDiff, reduceCtorEq, Int.reduceLT, Int.reduceEq, hs]) (by simp only [go_sem, Nat.reduceLT, Nat.reduceEqDiff, reduceCtorEq, Int.reduceLT, Int.reduceEq, hs]) (by simp only [go_sem, Nat.reduceLT, Nat.reduceEqDiff, reduceCtorEq, Int.reduceLT, Int.reduceEq, hs]; rfl) q8 (BufG.nil g3 1) (fun s5 g5 v5 a1 a2 a3 a5 B5 K5 => ?_)
      have a2' : s5.getD 2 .undef = .ptr g1.length 0 := by rw [a2]; simp only [go_sem, Nat.reduceLT, Nat.reduceEqDiff, reduceCtorEq, Int.reduceLT, Int.reduceEq, hs]
      clear a2
      have r6 := K5 _ _ q6 (by intro e g h; cases h)
      have r8 := K5 _ _ q8 (by intro e g h; cases h)
      obtain ⟨_, _, _, _, _, _, l6⟩ := ld6 r8
      obtain ⟨h6, c6, K6⟩ := buf_closA B5
      obtain ⟨v7, h7, S7, n7, r7, T7⟩ := rcrash_f34 hTb (burnt_OK hO) (List.replicate eL.length true) (slV 1 (eBool (List.replicate eL.length true))) slV_SlV
      simp only [go_sem, Nat.reduceLT, Nat.reduceEqDiff, reduceCtorEq, Int.reduceLT, Int.reduceEq, a1, a3, a5, l6]
      refine XO_callP (h1 := h6) («as» := [.agg (tC S L w f fu le1), slV 1 (eBool (List.replicate eL.length true))]) (by simp only [List.map, go_sem, Nat.reduceLT, Nat.reduceEqDiff, reduceCtorEq, Int.reduceLT, Int.reduceEq, a1, a5]; exact closAs_cons rfl (closAs_cons c6 rfl)) n7 r7 ?_
      simp only [go_sem, Nat.reduceLT, Nat.reduceEqDiff, reduceCtorEq, Int.reduceLT, Int.reduceEq, a1]
      rw [st_l_n]
      have w6 := (Ext.push h6 (VO.box (tC S7 nilC w f false 0) false)).get (K6 _ _ r6 (by intro e g h; cases h))
      have w8 := (Ext.push h6 (VO.box (tC S7 nilC w f false 0) false)).get (K6 _ _ r8 (by intro e g h; cases h))
      have w7 : (h6 ++ [VO.box (tC S7 nilC w f false 0) false])[h6.length]? = some (.box (tC S7 nilC w f false 0) false) := at_last
      have hlt8 := lt_of_get (K6 _ _ r8 (by intro e g h; cases h))
      have hlt6 := lt_of_get (K6 _ _ r6 (by intro e g h; cases h))
      generalize hx0 : h6 ++ [VO.box (tC S7 nilC w f false 0) false] = x0 at w6 w7 w8
      have n86 : h6.length ≠ g2.length := by omega
      have n66 : h6.length ≠ g1.length := by omega
      obtain ⟨_, _, _, k3, _, _, _⟩ := ld6 w7
      obtain ⟨_, _, _, s3, _, _⟩ := st6 w7 (v := vi .i64 (IntKind.i64.wrap (f + 1))) rfl
      generalize hx1 : x0.set h6.length (.box [.cv S7, nilS, vi .i64 w, vi .i64 (IntKind.i64.wrap (f + 1)), vb false, vi .i64 0] false) = x1 at s3
      have y7 : x1[h6.length]? = some (.box [.cv S7, nilS, vi .i64 w, vi .i64 (IntKind.i64.wrap (f + 1)), vb false, vi .i64 0] false) := by rw [← hx1, List.getElem?_set_self (lt_of_get w7)]
      have y8 : x1[g2.length]? = some (.box (tC S L w f fu le1) false) := by rw [← hx1, List.getElem?_set_ne n86]; exact w8
      have y6 : x1[g1.length]? = some (.box [nilS, nilS, vi .i64 0, vi .i64 0, vb false, vi .i64 0] false) := by rw [← hx1, List.getElem?_set_ne n66]; exact w6
      obtain ⟨_, _, _, _, k4, _, _⟩ := ld6 y8
      obtain ⟨_, _, _, _, s4, _⟩ := st6 y7 (v := vb fu) rfl
      generalize hx2 : x1.set h6.length (.box [.cv S7, nilS, vi .i64 w, vi .i64 (IntKind.i64.wrap (f + 1)), vb fu, vi .i64 0] false) = x2 at s4
      have z7 : x2[h6.length]? = some (.box [.cv S7, nilS, vi .i64 w, vi .i64 (IntKind.i64.wrap (f + 1)), vb fu, vi .i64 0] false) := by rw [← hx2, List.getElem?_set_self (lt_of_get y7)]
      have z8 : x2[g2.length]? = some (.box (tC S L w f fu le1) false) := by rw [← hx2, List.getElem?_set_ne n86]; exact y8
      have z6 : x2[g1.length]? = some (.box [nilS, nilS, vi .i64 0, vi .i64 0, vb false, vi .i64 0] false) := by rw [← hx2, List.getElem?_set_ne n66]; exact y6
      obtain ⟨_, _, _, _, _, k5, _⟩ := ld6 z8
      obtain ⟨_, _, _, _, _, s5'⟩ := st6 z7 (v := vi .i64 le1) rfl
      generalize hx3 : x2.set h6.length (.box [.cv S7, nilS, vi .i64 w, vi .i64 (IntKind.i64.wrap (f + 1)), vb fu, vi .i64 le1] false) = x3 at s5'
      have t7 : x3[h6.length]? = some (.box [.cv S7, nilS, vi .i64 w, vi .i64 (IntKind.i64.wrap (f + 1)), vb fu, vi .i64 le1] false) := by rw [← hx3, List.getElem?_set_self (lt_of_get z7)]
      have t6 : x3[g1.length]? = some (.box [nilS, nilS, vi .i64 0, vi .i64 0, vb false, vi .i64 0] false) := by rw [← hx3, List.getElem?_set_ne n66]; exact z6
      obtain ⟨_, _, _, _, _, _, j6⟩ := ld6 t7
      have e6 := sta6 t6 (a' := .cv S7) (b' := nilS) (c' := vi .i64 w) (d' := vi .i64 (IntKind.i64.wrap (f + 1))) (e' := vb fu) (f' := vi .i64 le1)
      simp only [go_sem, Nat.reduceLT, Nat.reduceEqDiff, reduceCtorEq, Int.reduceLT, Int.reduceEq, a1, a2', a3, k3, s3, k4, s4, k5, s5', j6, e6]
      refine RQ_c0 (id := g1.length) (by simp only [go_sem, Nat.reduceLT, Nat.reduceEqDiff, reduceCtorEq, Int.reduceLT, Int.reduceEq, a2']) (by rw [List.getElem?_set_self (lt_of_get t6)]) rfl ?_
      have ef : d.flush = { d.burnt.settle (fun _ => true) with w := d.w, f := d.f + 1 } := by unfold D.flush; rw [if_neg (by rw [hdk]; simp)]
      have hf1 : IntKind.i64.wrap (f + 1) = ((d.f + 1 : Nat) : Int) := by
        have := hO.f
        rw [hT.f, IntWalk.i64_in _ (by omega)]; omega
      rw [ef]
      have es : settleF (keepF (List.replicate eL.length true)) 0 d.burnt.firm d.burnt.loose = settleF (fun _ => true) 0 d.burnt.firm d.burnt.loose := by
        refine settle_congr fun k _ hk => ?_
        rw [burnt_loose] at hk
        unfold keepF
        rw [List.getD_eq_getElem?_getD, List.getElem?_replicate, if_pos (by omega)]; rfl
      have hs7 := T7.s
      change ∃ e, SlV 1 e (.cv S7) ∧ SE e (settleF (keepF (List.replicate eL.length true)) 0 d.burnt.firm d.burnt.loose) at hs7
      rw [es] at hs7
      exact ⟨S7, nilC, IntKind.i64.wrap (f + 1), le1, rfl, ⟨hs7, T7.l, hT.w, hf1, hTb.fu, hTb.le⟩⟩
  obtain ⟨v, h', e1, S', L', f', le', e2⟩ := this []
  exact ⟨v, h', S', L', f', le', e1, e2⟩
end Go.V04

set_option linter.unusedSimpArgs false
set_option linter.unusedVariables false
namespace Go.V04
open Go Go.Vm

theorem st_e1own {h : Heap} {id g i z : Nat} {els : List (List CV)} {e : List CV} (ho : h[id]? = some (.arr z els g false)) (he : els[i]? = some e) (hl : 0 < e.length) {id2 z2 g2 n : Nat} {els2 : List (List CV)} {ex : Bool} (ho2 : h[id2]? = some (.arr z2 els2 g2 false)) (hn : els2.length = n) (hne : id2 ≠ id) :
    stO h 1 (.eptr id g i 0) (.own id2 g2 0 n ex) = some (.undef, (h.set id2 (.arr z2 els2 g2 true)).set id (.arr z (els.set i (e.set 0 (.sl z2 els2 ex))) g false)) := by
  subst hn
  have hsp : ∀ c, splice e 0 [c] = e.set 0 c := by
    intro c
    unfold splice
    simp only [List.length_singleton]
    rw [List.set_eq_take_append_cons_drop, if_pos hl, List.append_assoc, List.singleton_append]
  have h1 : 1 ≤ e.length := hl
  have ho' : (h.set id2 (.arr z2 els2 g2 true))[id]? = some (.arr z els g false) := by rw [List.getElem?_set_ne hne]; exact ho
  simp [stO, stepI, rhoO, cellsOf, closL, clos, ho2, ho', he, h1, hsp]

theorem rspoil_f36 {d : D} {S L : CV} {w f : Int} {fu : Bool} {le : Int} (hT : TIs d S L w f fu le) (hO : d.OK) (i a : Int) (x : UInt8) :
    ∃ v h' S', call F 36 [.agg (tC S L w f fu le), vi .i64 i, vi .i64 a, vi .u8 x.toNat] [] = some (.ret v, h') ∧ closRes h' v = some (.tup [.agg (tC S' L w f fu le), vb (d.spoil i a x).2]) ∧ TIs (d.spoil i a x).1 S' L w f fu le := by
  have : ∀ h : Heap, ∃ v h', call F 36 [.agg (tC S L w f fu le), vi .i64 i, vi .i64 a, vi .u8 x.toNat] h = some (.ret v, h') ∧ (fun v h' => ∃ S', closRes h' v = some (.tup [.agg (tC S' L w f fu le), vb (d.spoil i a x).2]) ∧ TIs (d.spoil i a x).1 S' L w f fu le) v h' := by
    intro h
    refine call_E (fn := f36) rfl ?_
    simp only [f36]
    generalize hs0 : ([.agg (tC S L w f fu le), vi .i64 i, vi .i64 a, vi .u8 x.toNat] ++ List.replicate _ VV.undef : List VV) = s
    have hs : s.length = 51 := by rw [← hs0]; rfl
    have h0 : s.getD 0 .undef = .agg (tC S L w f fu le) := by rw [← hs0]; rfl
    have h1 : s.getD 1 .undef = vi .i64 i := by rw [← hs0]; rfl
    have h2 : s.getD 2 .undef = vi .i64 a := by rw [← hs0]; rfl
    have h3 : s.getD 3 .undef = vi .u8 x.toNat := by rw [← hs0]; rfl
    clear hs0
    obtain ⟨eS, hSS, hSE⟩ := hT.s
    have hn1 := hSE.1
    have hO1 := hO.n
    simp only [go_sem, Nat.reduceLT, Nat.reduceEqDiff, reduceCtorEq, Int.reduceLT, Int.reduceEq, hs, h0]
    rw [bx_agg (n := 6) rfl]
    simp only [go_sem, Nat.reduceLT, Nat.reduceEqDiff, reduceCtorEq, Int.reduceLT, Int.reduceEq, hs]
    generalize hg1 : h ++ [VO.box (tC S L w f fu le) false] = g1
    have q1 : (g1 ++ [VO.box [nilS, nilS, vi .i64 0, vi .i64 0, vb false, vi .i64 0] false])[h.length]? = some (.box (tC S L w f fu le) false) := by rw [← hg1]; simp
    have q2 : (g1 ++ [VO.box [nilS, nilS, vi .i64 0, vi .i64 0, vb false, vi .i64 0] false])[g1.length]? = some (.box [nilS, nilS, vi .i64 0, vi .i64 0, vb false, vi .i64 0] false) := at_last
    have hne : h.length ≠ g1.length := by rw [← hg1]; simp
    generalize hg2 : g1 ++ [VO.box [nilS, nilS, vi .i64 0, vi .i64 0, vb false, vi .i64 0] false] = g2 at q1 q2
    obtain ⟨k0, _, _, _, _, _, k6⟩ := ld6 q1
    have e20 := sta6 q2 (a' := .cv S) (b' := .cv L) (c' := vi .i64 w) (d' := vi .i64 f) (e' := vb fu) (f' := vi .i64 le)
    have fin : ∀ {cells : List VV} {ok : Bool} {s' : List VV} {g : Heap} {P : VV → Heap → Prop}, s'.length = 51 → cells.length = 6 → s'.getD 8 .undef = .ptr g1.length 0 → s'.getD 9 .undef = vb ok → g[g1.length]? = some (.box cells false) → P (.tup [.agg cells, vb ok]) g →
        RQ [.cell 8 true 6, .t 9] P .ret ⟨s', g⟩ := by
      intro cells e s' g P a1 a6 a2 a3 a4 a5
      refine RQ_c1 a2 a4 a6 (by omega) ?_
      rw [a3]; exact a5
    have hhas : d.has i = (decide (0 ≤ i) && decide (i < (d.firm.length : Int))) := rfl
    have no : ¬ (d.has i = true ∧ 0 ≤ a ∧ a < 64) → d.spoil i a x = (d, false) := by
      intro e
      unfold D.spoil
      rw [if_neg]
      simpa using e
    rw [X_eq f36_0.eq_1]
    by_cases c1 : i < 0
    · simp only [go_sem, Nat.reduceLT, Nat.reduceEqDiff, reduceCtorEq, Int.reduceLT, Int.reduceEq, hs, h1, c1, k6, e20]
      refine fin (ok := false) (by simp only [slot_len, hs]) rfl (by simp only [go_sem, Nat.reduceLT, Nat.reduceEqDiff, reduceCtorEq, Int.reduceLT, Int.reduceEq, hs]) (by simp only [go_sem, Nat.reduceLT, Nat.reduceEqDiff, reduceCtorEq, Int.reduceLT, Int.reduceEq, hs]) (by rw [List.getElem?_set_self (lt_of_get q2)]) ?_
      rw [no (by rw [hhas]; simp; omega)]
      exact ⟨S, rfl, hT⟩
    · by_cases c2 : (eS.length : Int) ≤ i
      · simp only [go_sem, Nat.reduceLT, Nat.reduceEqDiff, reduceCtorEq, Int.reduceLT, Int.reduceEq, hs, h1, c1, k0, hSS.ln, ge_iff_le, c2, k6, e20]
        refine fin (ok := false) (by simp only [slot_len, hs]) rfl (by simp only [go_sem, Nat.reduceLT, Nat.reduceEqDiff, reduceCtorEq, Int.reduceLT, Int.reduceEq, hs]) (by simp only [go_sem, Nat.reduceLT, Nat.reduceEqDiff, reduceCtorEq, Int.reduceLT, Int.reduceEq, hs]) (by rw [List.getElem?_set_self (lt_of_get q2)]) ?_
        rw [no (by rw [hhas]; simp; omega)]
        exact ⟨S, rfl, hT⟩
      · by_cases c3 : a < 0
        · simp only [go_sem, Nat.reduceLT, Nat.reduceEqDiff, reduceCtorEq, Int.reduceLT, Int.reduceEq, hs, h1, h2, c1, k0, hSS.ln, ge_iff_le, c2, c3, k6, e20]
          refine fin (ok := false) (by simp only [slot_len, hs]) rfl (by simp only [go_sem, Nat.reduceLT, Nat.reduceEqDiff, reduceCtorEq, Int.reduceLT, Int.reduceEq, hs]) (by simp only [go_sem, Nat.reduceLT, Nat.reduceEqDiff, reduceCtorEq, Int.reduceLT, Int.reduceEq, hs]) (by rw [List.getElem?_set_self (lt_of_get q2)]) ?_
          rw [no (by omega)]
          exact ⟨S, rfl, hT⟩
        · by_cases c4 : 63 < a
          · simp only [go_sem, Nat.reduceLT, Nat.reduceEqDiff, reduceCtorEq, Int.reduceLT, Int.reduceEq, hs, h1, h2, c1, k0, hSS.ln, ge_iff_le, gt_iff_lt, c2, c3, c4, k6, e20]
            refine fin (ok := false) (by simp only [slot_len, hs]) rfl (by simp only [go_sem, Nat.reduceLT, Nat.reduceEqDiff, reduceCtorEq, Int.reduceLT, Int.reduceEq, hs]) (by simp only [go_sem, Nat.reduceLT, Nat.reduceEqDiff, reduceCtorEq, Int.reduceLT, Int.reduceEq, hs]) (by rw [List.getElem?_set_self (lt_of_get q2)]) ?_
            rw [no (by omega)]
            exact ⟨S, rfl, hT⟩
          · obtain ⟨k, rfl⟩ : ∃ k : Nat, i = (k : Int) := ⟨i.toNat, by omega⟩
            obtain ⟨j, rfl⟩ : ∃ j : Nat, a = (j : Int) := ⟨a.toNat, by omega⟩
            have hk : k < d.firm.length := by omega
            have hk2 : k < eS.length := by omega
            have hj : j < 64 := by omega
            have hyes : d.has (k : Int) = true := by rw [hhas]; simp; omega
            obtain ⟨ex, he⟩ := hSE.2 k d.firm[k] (List.getElem?_eq_getElem hk)
            have h64 : d.firm[k].length = 64 := hO.f64 _ (List.getElem_mem hk)
            simp only [go_sem, Nat.reduceLT, Nat.reduceEqDiff, reduceCtorEq, Int.reduceLT, Int.reduceEq, hs, h1, h2, c1, k0, hSS.ln, ge_iff_le, gt_iff_lt, c2, c3, c4, k6]
            refine XO_appN (els := []) (new := eS) (NewB.nil g2 1) (by simp only [go_sem, Nat.reduceLT, Nat.reduceEqDiff, reduceCtorEq, Int.reduceLT, Int.reduceEq, hs]) (by simp only [go_sem, Nat.reduceLT, Nat.reduceEqDiff, reduceCtorEq, Int.reduceLT, Int.reduceEq, hs]; exact hSS.src) (by intro e; rw [e] at hk2; simp at hk2) (by simp only [List.length_nil]; omega) (by simp only [List.length_nil]; omega) (fun v3 g3 B3 _ => ?_)
            rw [List.nil_append] at B3
            rcases B3.v with ⟨e, _⟩ | ⟨id1, gg1, b1, _, rfl, b4⟩
            · rw [e] at hk2; simp at hk2
            have hia1 : ∀ g, g[id1]? = some (.arr 1 eS gg1 false) → iaO g 1 (.own id1 gg1 0 eS.length false) (vi .i64 (k : Int)) = some (.eptr id1 gg1 k 0, g) := by
              intro g hg
              rw [ia_own (els := eS) (fr := false) (by omega) hg (by simpa using hk2)]; simp
            have hld1 := ld_eptr (h := g3) (off := 0) (c := .sl 1 (eB d.firm[k]) ex) b4 he rfl
            simp only [go_sem, Nat.reduceLT, Nat.reduceEqDiff, reduceCtorEq, Int.reduceLT, Int.reduceEq, hs, h1, hia1 g3 b4, hld1]
            refine XO_appN (els := []) (new := eB d.firm[k]) (NewB.nil g3 1) (by simp only [go_sem, Nat.reduceLT, Nat.reduceEqDiff, reduceCtorEq, Int.reduceLT, Int.reduceEq, hs]) (by simp only [go_sem, Nat.reduceLT, Nat.reduceEqDiff, reduceCtorEq, Int.reduceLT, Int.reduceEq, hs]) (by intro e; have := congrArg List.length e; rw [eB_len, h64] at this; simp at this) (by simp only [List.length_nil, eB_len]; omega) (by simp only [List.length_nil, eB_len]; omega) (fun v4 g4 B4 _ => ?_)
            rw [List.nil_append] at B4
            rcases B4.v with ⟨e, _⟩ | ⟨id2, gg2, b5, _, rfl, b8⟩
            · have := congrArg List.length e; rw [eB_len, h64] at this; simp at this
            have b4' := B4.ext.get b4
            have hid : id2 ≠ id1 := by have := lt_of_get b4; omega
            have hia2 : iaO g4 1 (.own id2 gg2 0 (eB d.firm[k]).length false) (vi .i64 (j : Int)) = some (.eptr id2 gg2 j 0, g4) := by
              rw [ia_own (els := eB d.firm[k]) (fr := false) (by omega) b8 (by rw [eB_len, h64]; simpa using hj)]; simp
            have hke : (eB d.firm[k])[j]? = some (byteCell (d.firm[k][j]'(by omega))) := by
              rw [eB_get (List.getElem?_eq_getElem (by omega))]; rfl
            have hst := st_e1 (h := g4) (off := 0) (c := .sc (.int .u8 x.toNat)) b8 hke (by simp [byteCell])
            have eset : (eB d.firm[k]).set j ((byteCell (d.firm[k][j]'(by omega))).set 0 (.sc (.int .u8 x.toNat))) = eB (d.firm[k].set j x) := by simp [eB, List.map_set, byteCell]
            rw [eset] at hst
            generalize hg5 : g4.set id2 (.arr 1 (eB (d.firm[k].set j x)) gg2 false) = g5 at hst
            have d1 : g5[id1]? = some (.arr 1 eS gg1 false) := by rw [← hg5, List.getElem?_set_ne hid]; exact b4'
            have d2 : g5[id2]? = some (.arr 1 (eB (d.firm[k].set j x)) gg2 false) := by rw [← hg5, List.getElem?_set_self (lt_of_get b8)]
            have hst2 := st_e1own (ex := false) (n := (eB d.firm[k]).length) d1 he (by simp) d2 (by rw [eB_len, eB_len, List.length_set]) hid
            rw [show ([CV.sl 1 (eB d.firm[k]) ex].set 0 (.sl 1 (eB (d.firm[k].set j x)) false)) = [.sl 1 (eB (d.firm[k].set j x)) false] from rfl] at hst2
            generalize hg6 : (g5.set id2 (.arr 1 (eB (d.firm[k].set j x)) gg2 true)).set id1 (.arr 1 (eS.set k [.sl 1 (eB (d.firm[k].set j x)) false]) gg1 false) = g6 at hst2
            have p1 := lt_of_get q1
            have p2 := lt_of_get q2
            have l3 := B3.ext.len
            have keep : ∀ (q : Nat) (o : VO), q < g2.length → g2[q]? = some o → g6[q]? = some o := by
              intro q o hq ho
              rw [← hg6, List.getElem?_set_ne (by omega), List.getElem?_set_ne (by omega), ← hg5, List.getElem?_set_ne (by omega)]
              exact B4.ext.get (B3.ext.get ho)
            have r1 := keep _ _ p1 q1
            have r2 := keep _ _ p2 q2
            have d6 : g6[id1]? = some (.arr 1 (eS.set k [.sl 1 (eB (d.firm[k].set j x)) false]) gg1 false) := by
              rw [← hg6, List.getElem?_set_self (by rw [List.length_set]; exact lt_of_get d1)]
            have B6 : BufG g6 1 (eS.set k [.sl 1 (eB (d.firm[k].set j x)) false]) (.own id1 gg1 0 eS.length false) :=
              .inr ⟨id1, gg1, by intro e; have := congrArg List.length e; simp at this; rw [this] at hk2; simp at hk2, by rw [List.length_set], d6⟩
            obtain ⟨s0, _⟩ := st6 r1 (v := .own id1 gg1 0 eS.length false) rfl
            generalize hg7 : g6.set h.length (.box [.own id1 gg1 0 eS.length false, .cv L, vi .i64 w, vi .i64 f, vb fu, vi .i64 le] false) = g7 at s0
            have t1 : g7[h.length]? = some (.box [.own id1 gg1 0 eS.length false, .cv L, vi .i64 w, vi .i64 f, vb fu, vi .i64 le] false) := by rw [← hg7, List.getElem?_set_self (lt_of_get r1)]
            have t2 : g7[g1.length]? = some (.box [nilS, nilS, vi .i64 0, vi .i64 0, vb false, vi .i64 0] false) := by rw [← hg7, List.getElem?_set_ne hne]; exact r2
            have B7 : BufG g7 1 (eS.set k [.sl 1 (eB (d.firm[k].set j x)) false]) (.own id1 gg1 0 eS.length false) := by rw [← hg7]; exact B6.setBox r1 _
            obtain ⟨_, _, _, _, _, _, l6⟩ := ld6 t1
            have e6 := sta6 t2 (a' := .own id1 gg1 0 eS.length false) (b' := .cv L) (c' := vi .i64 w) (d' := vi .i64 f) (e' := vb fu) (f' := vi .i64 le)
            simp only [go_sem, Nat.reduceLT, Nat.reduceEqDiff, reduceCtorEq, Int.reduceLT, Int.reduceEq, hs, h1, h2, h3, hia2, hst, hia1 g5 d1, hst2, s0, l6, e6]
            refine fin (ok := true) (by simp only [slot_len, hs]) rfl (by simp only [go_sem, Nat.reduceLT, Nat.reduceEqDiff, reduceCtorEq, Int.reduceLT, Int.reduceEq, hs]) (by simp only [go_sem, Nat.reduceLT, Nat.reduceEqDiff, reduceCtorEq, Int.reduceLT, Int.reduceEq, hs]) (by rw [List.getElem?_set_self (lt_of_get t2)]) ?_
            obtain ⟨cS, hF, z1, z2⟩ := buf_clos (B7.setBox t2 (.box [.own id1 gg1 0 eS.length false, .cv L, vi .i64 w, vi .i64 f, vb fu, vi .i64 le] false))
            have eP : d.spoil (k : Int) (j : Int) x = ({ d with firm := d.firm.set k (d.firm[k].set j x) }, true) := by
              unfold D.spoil
              rw [if_pos (by rw [hyes]; simp; omega)]
              have : d.firm.getD ((k : Int).toNat) [] = d.firm[k] := by
                show d.firm.getD k [] = _
                rw [List.getD_eq_getElem?_getD, List.getElem?_eq_getElem hk]; rfl
              rw [this]; rfl
            rw [eP]
            refine ⟨cS, ?_, ⟨⟨_, by rw [z2]; exact slV_SlV, hSE.set k _ false⟩, hT.l, hT.w, hT.f, hT.fu, hT.le⟩⟩
            simp only [closRes, closAs, closA, closL, z1, clA_cv]
            rfl
  obtain ⟨v, h', e1, S', e2⟩ := this []
  exact ⟨v, h', S', e1, e2⟩
end Go.V04

set_option linter.unusedSimpArgs false
set_option linter.unusedVariables false
namespace Go.V04
open Go Go.Vm

/-! ### deeds -/
structure Deed where
  kind : UInt8
  i : Int
  b : List UInt8
  keep : List Bool
  v : UInt8

/-- A deed's cells. -/
def DeedC (e : List CV) (x : Deed) : Prop := ∃ cB cK : CV, e = [.sc (.int .u8 x.kind.toNat), .sc (.int .i64 x.i), cB, cK, .sc (.int .u8 x.v.toNat)] ∧ SlV 1 (eB x.b) (.cv cB) ∧ SlV 1 (eBool x.keep) (.cv cK) ∧ x.b.length ≤ maxLen ∧ x.keep.length ≤ maxLen
def DeedsC (els : List (List CV)) (l : List Deed) : Prop := els.length = l.length ∧ ∀ (i : Nat) (x : Deed), l[i]? = some x → ∃ e, els[i]? = some e ∧ DeedC e x

theorem f22_loop {els : List (List CV)} {l : List Deed} {u : VV} (hS : SlV 5 els u) (hE : DeedsC els l) (hn : l.length ≤ maxLen) (h : Heap) :
    ∀ (r k : Nat) (n : Int) (s : List VV) (Q : Pst), k + r = l.length → s.length = 35 → s.getD 0 .undef = u → s.getD 3 .undef = vi .i64 n → s.getD 4 .undef = vi .i64 k →
      (∀ s' n', s'.length = 35 → s'.getD 0 .undef = u → s'.getD 3 .undef = vi .i64 n' → Q (.exit 0) ⟨s', h⟩) → X F (.loop f22_0) ⟨s, h⟩ Q := by
  intro r
  have hm : maxLen = 9223372036854775807 := rfl
  induction r with
  | zero =>
    intro k n s Q hk hs h0 h3 h4 hQ
    rw [X_loop, X_eq f22_0.eq_1]
    have c : ¬ (k : Int) < (els.length : Int) := by rw [hE.1]; omega
    simp only [go_sem, Nat.reduceLT, Nat.reduceEqDiff, reduceCtorEq, Int.reduceLT, Int.reduceEq, hs, h0, h4, hS.ln, c]
    exact hQ _ n (by simp only [slot_len, hs]) (by simp only [go_sem, Nat.reduceLT, Nat.reduceEqDiff, reduceCtorEq, Int.reduceLT, Int.reduceEq, h0]) (by simp only [go_sem, Nat.reduceLT, Nat.reduceEqDiff, reduceCtorEq, Int.reduceLT, Int.reduceEq, h3])
  | succ r ih =>
    intro k n s Q hk hs h0 h3 h4 hQ
    rw [X_loop, X_eq f22_0.eq_1]
    have c : (k : Int) < (els.length : Int) := by rw [hE.1]; omega
    have hkl : k < l.length := by omega
    obtain ⟨e, he, cB, cK, rfl, hB, hK, _, _⟩ := hE.2 k l[k] (List.getElem?_eq_getElem hkl)
    have hia := hS.ia (h := h) (k := .i64) (j := (k : Int)) (by omega) he
    have hw : IntKind.i64.wrap ((k : Int) + 1) = ((k + 1 : Nat) : Int) := by rw [IntWalk.i64_in _ (by omega)]; omega
    simp only [go_sem, Nat.reduceLT, Nat.reduceEqDiff, reduceCtorEq, Int.reduceLT, Int.reduceEq, hs, h0, h4, hS.ln, c]
    refine X_draw rfl ?_
    simp only [go_sem, Nat.reduceLT, Nat.reduceEqDiff, reduceCtorEq, Int.reduceLT, Int.reduceEq, hs, h0, h3, h4, hia, hB.ln, hK.ln, hw]
    exact ih (k + 1) (IntKind.i64.wrap (n + IntKind.i64.wrap (((eB l[k].b).length : Int) + (eBool l[k].keep).length))) _ Q (by omega) (by simp only [slot_len, hs]) (by simp only [go_sem, Nat.reduceLT, Nat.reduceEqDiff, reduceCtorEq, Int.reduceLT, Int.reduceEq, h0]) (by simp only [go_sem, Nat.reduceLT, Nat.reduceEqDiff, reduceCtorEq, Int.reduceLT, Int.reduceEq, hs]) (by simp only [go_sem, Nat.reduceLT, Nat.reduceEqDiff, reduceCtorEq, Int.reduceLT, Int.reduceEq, hs]) hQ

theorem much_f22 {els : List (List CV)} {l : List Deed} {u : VV} (hS : SlV 5 els u) (hE : DeedsC els l) (hn : l.length ≤ maxLen) : ∃ h' m, call F 22 [u] [] = some (.ret (vb m), h') ∧ (m = false → l.length ≤ 60) := by
  have : ∃ v h', call F 22 [u] [] = some (.ret v, h') ∧ (fun v h' => ∃ m, v = vb m ∧ (m = false → l.length ≤ 60)) v h' := by
    refine call_E (fn := f22) rfl ?_
    simp only [f22]
    generalize hs0 : ([u] ++ List.replicate _ VV.undef : List VV) = s
    have hs : s.length = 35 := by rw [← hs0]; rfl
    have h0 : s.getD 0 .undef = u := by rw [← hs0]; rfl
    clear hs0
    simp only [go_sem, Nat.reduceLT, Nat.reduceEqDiff, reduceCtorEq, Int.reduceLT, Int.reduceEq, hs, h0, hS.ln]
    refine f22_loop hS hE hn _ l.length 0 (els.length : Int) _ _ (by omega) (by simp only [slot_len, hs]) (by simp only [go_sem, Nat.reduceLT, Nat.reduceEqDiff, reduceCtorEq, Int.reduceLT, Int.reduceEq, h0]) (by simp only [go_sem, Nat.reduceLT, Nat.reduceEqDiff, reduceCtorEq, Int.reduceLT, Int.reduceEq, hs]) (by simp only [go_sem, Nat.reduceLT, Nat.reduceEqDiff, reduceCtorEq, Int.reduceLT, Int.reduceEq, hs]; rfl) (fun s' n' a1 a0 a3 => ?_)
    by_cases c : (60 : Int) < (els.length : Int)
    · simp only [go_sem, Nat.reduceLT, Nat.reduceEqDiff, reduceCtorEq, Int.reduceLT, Int.reduceEq, a1, a0, a3, hS.ln, gt_iff_lt, c]
      exact ⟨true, rfl, fun e => by cases e⟩
    · have := hE.1
      simp only [go_sem, Nat.reduceLT, Nat.reduceEqDiff, reduceCtorEq, Int.reduceLT, Int.reduceEq, a1, a0, a3, hS.ln, gt_iff_lt, c]
      exact ⟨_, rfl, fun _ => by omega⟩
  obtain ⟨v, h', e1, m, rfl, e2⟩ := this
  exact ⟨h', m, e1, e2⟩
end Go.V04

set_option linter.unusedSimpArgs false
set_option linter.unusedVariables false
namespace Go.V04
open Go Go.Vm

section
variable {F : Nat → Option FnIR} {d : Option Nat} {x y : Opd} {c : Cl} {q : List (Op1 × Cl)} {s : List VV} {h : Heap} {Q : Pst}
def cfO (k : FloatKind) (v : VV) : Option VV := match v with
  | .cv (.sc (.int _ n)) => some (.cv (.sc (.float k (k.nearest n))))
  | _ => none
theorem st_cvF {k : FloatKind} : stepI h (evalO s) (.cvF k x) = (cfO k (evalO s x)).map (·, h) := by
  simp only [stepI]
  generalize evalO s x = v
  cases v <;> try rfl
  rename_i c
  cases c <;> try rfl
  rename_i w
  cases w <;> rfl
theorem XD_cvF {k : FloatKind} : XD F ((⟨none, d, .cvF k x⟩, c) :: q) ⟨s, h⟩ Q ↔ XWD F (cfO k (evalO s x)) h d q s Q := XWD_of rfl st_cvF
theorem cf_i {k : FloatKind} {k' : IntKind} {n : Int} : cfO k (vi k' n) = some (.cv (.sc (.float k (k.nearest n)))) := rfl
def cxO (v w : VV) : Option VV := match v, w with
  | .cv (.sc (.float k a)), .cv (.sc (.float k' b)) => if k = k' then some (.cv (.sc (.complex k a b))) else none
  | _, _ => none
theorem st_cplx : stepI h (evalO s) (.cplx x y) = (cxO (evalO s x) (evalO s y)).map (·, h) := by
  simp only [stepI]
  generalize evalO s x = v
  generalize evalO s y = v2
  cases v <;> try rfl
  rename_i c
  cases c <;> try rfl
  rename_i w
  cases w <;> try rfl
  cases v2 <;> try rfl
  rename_i c
  cases c <;> try rfl
  rename_i w
  cases w <;> try rfl
  simp only [cxO]
  split <;> rfl
theorem XD_cplx : XD F ((⟨none, d, .cplx x y⟩, c) :: q) ⟨s, h⟩ Q ↔ XWD F (cxO (evalO s x) (evalO s y)) h d q s Q := XWD_of rfl st_cplx
theorem cx_f {k : FloatKind} {a b : Nat} : cxO (.cv (.sc (.float k a))) (.cv (.sc (.float k b))) = some (.cv (.sc (.complex k a b))) := by simp [cxO]
end

/-- A region of which no operation changes the heap. -/
theorem XS_ops {F : Nat → Option FnIR} : ∀ (ops : List (Op1 × Cl)) (hs : List Heap) (ck : Cks) (st : St) (Q : Pst), XD F (ops.map fun x => (x.1, Cl.p)) st Q → (∀ h ∈ hs, h = st.h) → (∀ x ∈ ck, x.2.2 st.h) →
    ∃ st1 hs1 ck1, drawOps (call F) ops hs ck st = some (st1, hs1, ck1) ∧ (∀ h ∈ hs1, h = st.h) ∧ (∀ x ∈ ck1, x.2.2 st.h) ∧ Q .norm st1
  | [], hs, ck, st, Q, hx, hh, hc => ⟨st, hs, ck, rfl, hh, hc, hx⟩
  | (o, c) :: r, hs, ck, st, Q, hx, hh, hc => by
    simp only [List.map_cons, XD] at hx
    simp only [drawOps]
    cases hw : wantedV st.s o.g with
    | none => rw [hw] at hx; exact hx.elim
    | some b =>
      rw [hw] at hx
      cases b with
      | false =>
        cases c with
        | p => exact XS_ops r hs ck ⟨putD st.s o.d .undef, st.h⟩ Q hx hh hc
        | r lo hi => exact XS_ops r hs ck ⟨putD st.s o.d .undef, st.h⟩ Q hx hh hc
        | k =>
          refine XS_ops r (hs ++ [st.h]) ck ⟨putD st.s o.d .undef, st.h⟩ Q hx (fun h hm => ?_) hc
          rcases List.mem_append.1 hm with e | e
          · exact hh h e
          · exact List.mem_singleton.1 e
      | true =>
        obtain ⟨⟨s1, h1⟩, hst, h2, h3⟩ := hx
        have e1 : h1 = st.h := h2 rfl
        subst e1
        simp only [hst]
        cases c with
        | p => exact XS_ops r hs ck ⟨s1, st.h⟩ Q h3 hh hc
        | k =>
          refine XS_ops r (hs ++ [st.h]) ck ⟨s1, st.h⟩ Q h3 (fun h hm => ?_) hc
          rcases List.mem_append.1 hm with e | e
          · exact hh h e
          · exact List.mem_singleton.1 e
        | r lo hi =>
          refine XS_ops r hs _ ⟨s1, st.h⟩ Q h3 hh (fun x hx => ?_)
          split at hx
          · rcases List.mem_cons.mp hx with rfl | hx
            · exact trivial
            · exact hc x hx
          · rcases List.mem_cons.mp hx with rfl | hx
            · exact hst
            · exact hc x hx
theorem X_drawS {F : Nat → Option FnIR} {ops : List (Op1 × Cl)} {st : St} {Q : Pst} (hx : XD F (ops.map fun x => (x.1, Cl.p)) st Q) : X F (.draw ops) st Q := by
  obtain ⟨st1, hs1, ck1, h1, h2, h3, h4⟩ := XS_ops ops [st.h] [] st Q hx (fun h hm => List.mem_singleton.1 hm) (fun x hx => by cases hx)
  refine ⟨.norm, st1, ?_, h4⟩
  simp only [execL, execDraw, h1]
  rw [if_pos]
  intro x hx b _ _ h hb
  rw [h2 h (List.mem_of_getElem? hb)]
  exact h3 x hx

theorem eI_get {l : List Nat} {k : Nat} (h : k < l.length) : (eI l)[k]? = some [CV.sc (.int .i64 ((l[k] : Nat) : Int))] := by simp [eI, h]

/-- same, first loop: the sectors that are loose. -/
theorem f24_loop1 {l : List Nat} {v5 v6 : VV} {g : Heap} (h5 : BufG g 1 (eI l) v5) (h6 : SlV 1 (eI l) v6) (hn : l.length ≤ 1000) :
    ∀ (r k : Nat) (s : List VV) (Q : Pst), k + r = l.length → s.length = 81 → s.getD 5 .undef = v5 → s.getD 6 .undef = v6 → s.getD 7 .undef = vi .i64 k →
      (∀ s', s'.length = 81 → s'.getD 0 .undef = s.getD 0 .undef → s'.getD 3 .undef = s.getD 3 .undef → Q (.exit 0) ⟨s', g⟩) → X F (.loop f24_1) ⟨s, g⟩ Q := by
  intro r
  induction r with
  | zero =>
    intro k s Q hk hs a5 a6 a7 hQ
    rw [X_loop, X_eq f24_1.eq_1]
    have c : ¬ (k : Int) < (l.length : Int) := by omega
    simp only [go_sem, Nat.reduceLT, Nat.reduceEqDiff, reduceCtorEq, Int.reduceLT, Int.reduceEq, hs, a5, a7, h5.ln, eI_len, c]
    exact hQ _ (by simp only [slot_len, hs]) (by simp only [go_sem, Nat.reduceLT, Nat.reduceEqDiff, reduceCtorEq, Int.reduceLT, Int.reduceEq]) (by simp only [go_sem, Nat.reduceLT, Nat.reduceEqDiff, reduceCtorEq, Int.reduceLT, Int.reduceEq])
  | succ r ih =>
    intro k s Q hk hs a5 a6 a7 hQ
    rw [X_loop, X_eq f24_1.eq_1]
    have c : (k : Int) < (l.length : Int) := by omega
    have hkl : k < l.length := by omega
    have hia6 := h6.ia (h := g) (k := .i64) (j := (k : Int)) (by omega) (eI_get hkl)
    have hw : IntKind.i64.wrap ((k : Int) + 1) = ((k + 1 : Nat) : Int) := by rw [IntWalk.i64_in _ (by omega)]; omega
    rcases h5 with ⟨e, _⟩ | ⟨id, gg, hne, rfl, hA⟩
    · have hl0 : l.length = 0 := by rw [← eI_len (l := l), e]; rfl
      omega
    · have hia5 : iaO g 1 (.own id gg 0 (eI l).length false) (vi .i64 (k : Int)) = some (.eptr id gg k 0, g) := by
        rw [ia_own (els := eI l) (fr := false) (by omega) hA (by rw [eI_len]; simpa using hkl)]; simp
      have hld := ld_eptr (h := g) (off := 0) (c := .sc (.int .i64 ((l[k] : Nat) : Int))) hA (eI_get hkl) rfl
      have ln5 : lnO false (.own id gg 0 (eI l).length false) = some (vi .i64 (eI l).length) := rfl
      simp only [go_sem, Nat.reduceLT, Nat.reduceEqDiff, reduceCtorEq, Int.reduceLT, Int.reduceEq, hs, a5, a7, ln5, eI_len, c]
      refine X_draw rfl ?_
      rw [eI_len] at hia5 a5
      simp only [go_sem, Nat.reduceLT, Nat.reduceEqDiff, reduceCtorEq, Int.reduceLT, Int.reduceEq, hs, a5, a6, a7, hia5, hia6, hld, hw]
      refine ih (k + 1) _ Q (by omega) (by simp only [slot_len, hs]) (by simp only [go_sem, Nat.reduceLT, Nat.reduceEqDiff, reduceCtorEq, Int.reduceLT, Int.reduceEq, a5, eI_len]) (by simp only [go_sem, Nat.reduceLT, Nat.reduceEqDiff, reduceCtorEq, Int.reduceLT, Int.reduceEq, a6]) (by simp only [go_sem, Nat.reduceLT, Nat.reduceEqDiff, reduceCtorEq, Int.reduceLT, Int.reduceEq, hs]) (fun s' b1 b2 b3 => hQ s' b1 (by rw [b2]; simp only [go_sem, Nat.reduceLT, Nat.reduceEqDiff, reduceCtorEq, Int.reduceLT, Int.reduceEq]) (by rw [b3]; simp only [go_sem, Nat.reduceLT, Nat.reduceEqDiff, reduceCtorEq, Int.reduceLT, Int.reduceEq]))

/-- same, second loop: what is read. -/
theorem f24_loop2 {p p3 : Nat} {f l : Option Nat} {d : D} (hO : d.OK) {S L : CV} {w ff : Int} {fu : Bool} {le : Int} (hT : TIs d S L w ff fu le) :
    ∀ (r k : Nat) (s : List VV) (g : Heap) (Q : Pst), k + r = d.firm.length → s.length = 81 → s.getD 0 .undef = .ptr p 0 → s.getD 3 .undef = .ptr p3 0 → s.getD 8 .undef = vi .i64 k → DevAt g p f l d → g[p3]? = some (.box (tC S L w ff fu le) false) →
      (∀ s' g', s'.length = 81 → Ext g g' → Q (.exit 2) ⟨s', g'⟩) → X F (.loop f24_2) ⟨s, g⟩ Q := by
  obtain ⟨eS, hSS, hSE⟩ := hT.s
  obtain ⟨eL, hSL, hLE⟩ := hT.l
  have hn1 := hSE.1
  have hO1 := hO.n
  have hO2 := hO.lw
  intro r
  induction r with
  | zero =>
    intro k s g Q hk hs a0 a3 a8 hD hp hQ
    rw [X_loop, X_eq f24_2.eq_1]
    obtain ⟨k0, _⟩ := ld6 hp
    have c : ¬ (k : Int) < (eS.length : Int) := by omega
    simp only [go_sem, Nat.reduceLT, Nat.reduceEqDiff, reduceCtorEq, Int.reduceLT, Int.reduceEq, hs, a3, a8, k0, hSS.ln, c]
    exact hQ _ _ (by simp only [slot_len, hs]) (Ext.refl _)
  | succ r ih =>
    intro k s g Q hk hs a0 a3 a8 hD hp hQ
    rw [X_loop, X_eq f24_2.eq_1]
    obtain ⟨k0, _⟩ := ld6 hp
    have c : (k : Int) < (eS.length : Int) := by omega
    have hw : IntKind.i64.wrap ((k : Int) + 1) = ((k + 1 : Nat) : Int) := by rw [IntWalk.i64_in _ (by omega)]; omega
    obtain ⟨v1, g1, n1, r1⟩ := read_f15 hD hO (k : Int)
    obtain ⟨o1, w1, b1⟩ := r1.yes (by unfold D.has; simp; omega)
    subst w1
    have hp1 := r1.ext.get hp
    obtain ⟨_, _, _, _, _, _, k6⟩ := ld6 hp1
    obtain ⟨v2, h2, c2, e2, n2, r2, y2, _⟩ := rread_f37 S L w ff fu le hSS hSE hSL hLE (by omega) (k : Int)
    obtain ⟨rfl, hc2⟩ := y2 ⟨by omega, by omega⟩
    have t1 := b1.bs
    have t2 := SlV.bs (h := g1) hc2
    have ec : lastF (k : Int) (d.firm.getD (k : Int).toNat []) d.loose = d.cell (k : Int).toNat := rfl
    rw [ec] at t2
    simp only [go_sem, Nat.reduceLT, Nat.reduceEqDiff, reduceCtorEq, Int.reduceLT, Int.reduceEq, hs, a0, a3, a8, k0, hSS.ln, c]
    refine XO_callR (by simp only [List.map, go_sem, Nat.reduceLT, Nat.reduceEqDiff, reduceCtorEq, Int.reduceLT, Int.reduceEq, hs]; exact n1) ?_
    simp only [go_sem, Nat.reduceLT, Nat.reduceEqDiff, reduceCtorEq, Int.reduceLT, Int.reduceEq, hs, a0, a3, a8, k6]
    refine XO_callP (h1 := g1) (by simp only [List.map, go_sem, Nat.reduceLT, Nat.reduceEqDiff, reduceCtorEq, Int.reduceLT, Int.reduceEq, hs]; rfl) n2 r2 ?_
    simp only [go_sem, Nat.reduceLT, Nat.reduceEqDiff, reduceCtorEq, Int.reduceLT, Int.reduceEq, hs, a8, t1, t2, bin_tneq, hw]
    exact ih (k + 1) _ g1 Q (by omega) (by simp only [slot_len, hs]) (by simp only [go_sem, Nat.reduceLT, Nat.reduceEqDiff, reduceCtorEq, Int.reduceLT, Int.reduceEq, a0]) (by simp only [go_sem, Nat.reduceLT, Nat.reduceEqDiff, reduceCtorEq, Int.reduceLT, Int.reduceEq, a3]) (by simp only [go_sem, Nat.reduceLT, Nat.reduceEqDiff, reduceCtorEq, Int.reduceLT, Int.reduceEq, hs]) (hD.ext r1.ext) hp1 (fun s' g' b1 b2 => hQ s' g' b1 (r1.ext.trans b2))

theorem same_f24 {h : Heap} {p : Nat} {f l : Option Nat} {d : D} (hD : DevAt h p f l d) (hO : d.OK) {S L : CV} {w ff : Int} {fu : Bool} {le : Int} (hT : TIs d S L w ff fu le) : ∃ h', call F 24 [.ptr p 0, .agg (tC S L w ff fu le)] h = some (.ret (vb true), h') ∧ Ext h h' := by
  have : ∃ v h', call F 24 [.ptr p 0, .agg (tC S L w ff fu le)] h = some (.ret v, h') ∧ (fun v h' => v = vb true ∧ Ext h h') v h' := by
    refine call_E (fn := f24) rfl ?_
    simp only [f24]
    generalize hs0 : ([.ptr p 0, .agg (tC S L w ff fu le)] ++ List.replicate _ VV.undef : List VV) = s
    have hs : s.length = 81 := by rw [← hs0]; rfl
    have h0 : s.getD 0 .undef = .ptr p 0 := by rw [← hs0]; rfl
    have h1 : s.getD 1 .undef = .agg (tC S L w ff fu le) := by rw [← hs0]; rfl
    clear hs0
    obtain ⟨eS, hSS, hSE⟩ := hT.s
    obtain ⟨eL, hSL, hLE⟩ := hT.l
    have hn1 := hSE.1
    have hO2 := hO.lw
    simp only [go_sem, Nat.reduceLT, Nat.reduceEqDiff, reduceCtorEq, Int.reduceLT, Int.reduceEq, hs, h1]
    rw [bx_agg (n := 6) rfl]
    simp only [go_sem, Nat.reduceLT, Nat.reduceEqDiff, reduceCtorEq, Int.reduceLT, Int.reduceEq, hs, h0]
    have q1 : (h ++ [VO.box (tC S L w ff fu le) false])[h.length]? = some (.box (tC S L w ff fu le) false) := at_last
    have x1 := Ext.push h (VO.box (tC S L w ff fu le) false)
    generalize hg1 : h ++ [VO.box (tC S L w ff fu le) false] = g1 at q1 x1
    obtain ⟨v5, g2, n5, B5⟩ := loose_f18 (hD.ext x1) hO
    refine XO_callR (by simp only [List.map, go_sem, Nat.reduceLT, Nat.reduceEqDiff, reduceCtorEq, Int.reduceLT, Int.reduceEq, hs]; exact n5) ?_
    have q2 := B5.ext.get q1
    obtain ⟨k0, _, k2, k3, _, _, k6⟩ := ld6 q2
    obtain ⟨v6, h6, n6, r6⟩ := rloose_f38 S L w ff fu le hSL hLE (by omega)
    simp only [go_sem, Nat.reduceLT, Nat.reduceEqDiff, reduceCtorEq, Int.reduceLT, Int.reduceEq, hs, k6]
    refine XO_callP (h1 := g2) (by simp only [List.map, go_sem, Nat.reduceLT, Nat.reduceEqDiff, reduceCtorEq, Int.reduceLT, Int.reduceEq, hs]; rfl) n6 r6 ?_
    have hD2 := (hD.ext x1).ext B5.ext
    simp only [go_sem, Nat.reduceLT, Nat.reduceEqDiff, reduceCtorEq, Int.reduceLT, Int.reduceEq, hs]
    rw [X_eq f24_0.eq_1]
    simp only [go_sem, Nat.reduceLT, Nat.reduceEqDiff, reduceCtorEq, Int.reduceLT, Int.reduceEq, hs]
    refine X_drawS ?_
    simp only [List.map_cons, List.map_nil, go_sem, Nat.reduceLT, Nat.reduceEqDiff, reduceCtorEq, Int.reduceLT, Int.reduceEq, hs, h0]
    refine XD_callR (by simp only [List.map, go_sem, Nat.reduceLT, Nat.reduceEqDiff, reduceCtorEq, Int.reduceLT, Int.reduceEq, hs]; exact len_f17 hD2) ?_
    have lnS : lnO false (.cv S) = some (vi .i64 d.firm.length) := by rw [hSS.ln, hn1]
    have ln6 : lnO false (slV 1 (eI (d.loose.map (·.1)))) = some (vi .i64 d.loose.length) := by
      rw [SlV.ln (es := eI (d.loose.map (·.1))) slV_SlV, eI_len, List.length_map]
    have ln5 : lnO false v5 = some (vi .i64 d.loose.length) := by rw [B5.buf.ln, eI_len, List.length_map]
    have hneq : ∀ n : Int, binO .neq (vi .i64 n) (vi .i64 n) = some (vb false) := fun n => by simp [binO, binV]
    simp only [go_sem, Nat.reduceLT, Nat.reduceEqDiff, reduceCtorEq, Int.reduceLT, Int.reduceEq, hs, h0, k0, lnS, hneq, ln5, ln6]
    refine XD_callR (by simp only [List.map, go_sem, Nat.reduceLT, Nat.reduceEqDiff, reduceCtorEq, Int.reduceLT, Int.reduceEq, hs]; exact traffic_f21 hD2) ?_
    have hcx := (cpx_same (a := d.w) (b := d.f) (by have := hO.w; omega) (by have := hO.f; omega)).2
    have hcx' : binO .neq (cpx d.w d.f) (.cv (.sc (.complex .f64 (FloatKind.f64.nearest w) (FloatKind.f64.nearest ff)))) = some (vb false) := by
      rw [hT.w, hT.f]; exact hcx
    simp only [go_sem, Nat.reduceLT, Nat.reduceEqDiff, reduceCtorEq, Int.reduceLT, Int.reduceEq, hs, k2, k3, XD_cvF, XD_cplx, cf_i, cx_f, hcx']
    refine f24_loop1 (l := d.loose.map (·.1)) B5.buf slV_SlV (by rw [List.length_map]; omega) (d.loose.map (·.1)).length 0 _ _ (by omega) (by simp only [slot_len, hs]) (by simp only [go_sem, Nat.reduceLT, Nat.reduceEqDiff, reduceCtorEq, Int.reduceLT, Int.reduceEq, hs]) (by simp only [go_sem, Nat.reduceLT, Nat.reduceEqDiff, reduceCtorEq, Int.reduceLT, Int.reduceEq, hs]) (by simp only [go_sem, Nat.reduceLT, Nat.reduceEqDiff, reduceCtorEq, Int.reduceLT, Int.reduceEq, hs]; rfl) (fun s' a1 a0 a3 => ?_)
    have a0' : s'.getD 0 .undef = .ptr p 0 := by rw [a0]; simp only [go_sem, Nat.reduceLT, Nat.reduceEqDiff, reduceCtorEq, Int.reduceLT, Int.reduceEq, h0]
    have a3' : s'.getD 3 .undef = .ptr h.length 0 := by rw [a3]; simp only [go_sem, Nat.reduceLT, Nat.reduceEqDiff, reduceCtorEq, Int.reduceLT, Int.reduceEq, hs]
    clear a0 a3
    simp only [go_sem, Nat.reduceLT, Nat.reduceEqDiff, reduceCtorEq, Int.reduceLT, Int.reduceEq, a1]
    refine f24_loop2 hO hT d.firm.length 0 _ _ _ (by omega) (by simp only [slot_len, a1]) (by simp only [go_sem, Nat.reduceLT, Nat.reduceEqDiff, reduceCtorEq, Int.reduceLT, Int.reduceEq, a0']) (by simp only [go_sem, Nat.reduceLT, Nat.reduceEqDiff, reduceCtorEq, Int.reduceLT, Int.reduceEq, a3']) (by simp only [go_sem, Nat.reduceLT, Nat.reduceEqDiff, reduceCtorEq, Int.reduceLT, Int.reduceEq, a1]; rfl) hD2 q2 (fun s'' g' b1 b2 => ?_)
    simp only [go_sem, Nat.reduceLT, Nat.reduceEqDiff, reduceCtorEq, Int.reduceLT, Int.reduceEq, b1]
    exact ⟨trivial, (x1.trans B5.ext).trans b2⟩
  obtain ⟨v, h', e1, rfl, e2⟩ := this
  exact ⟨h', e1, e2⟩
end Go.V04

set_option linter.unusedSimpArgs false
set_option linter.unusedVariables false
namespace Go.V04
open Go Go.Vm

/-- A region whose first operation looks at a heap before or behind the first change. -/
theorem drawOps_app {call : CallSem} : ∀ (a b : List (Op1 × Cl)) (hs : List Heap) (ck : Cks) (st : St), drawOps call (a ++ b) hs ck st = (drawOps call a hs ck st).bind fun x => drawOps call b x.2.1 x.2.2 x.1
  | [], b, hs, ck, st => rfl
  | (o, c) :: a, b, hs, ck, st => by
    simp only [List.cons_append, drawOps]
    split
    · split
      · split <;> exact drawOps_app a b _ _ _
      · rfl
    · split <;> exact drawOps_app a b _ _ _
    · rfl

/-- Operations ahead of the first change. -/
theorem XN_ops {F : Nat → Option FnIR} : ∀ (ops : List (Op1 × Cl)) (hs : List Heap) (ck : Cks) (st : St) (Q : Pst), allEq ops = true → (ops.all fun x => !isk x.2) = true → XD F ops st Q →
    ∃ s1 ck1, drawOps (call F) ops hs ck st = some (⟨s1, st.h⟩, hs, ck1) ∧ (∀ x ∈ ck1, x ∈ ck ∨ ∀ h, x.2.2 h) ∧ Q .norm ⟨s1, st.h⟩
  | [], hs, ck, st, Q, _, _, hx => ⟨st.s, ck, rfl, fun _ h => .inl h, hx⟩
  | (o, c) :: r, hs, ck, st, Q, ha, hn, hx => by
    simp only [List.all_cons, Bool.and_eq_true, Bool.not_eq_true'] at hn
    have har : allEq r = true := by
      cases c with
      | p => exact ha
      | k => exact ha
      | r lo hi => simp only [allEq, Bool.and_eq_true] at ha; exact ha.2
    simp only [XD] at hx
    simp only [drawOps]
    cases hw : wantedV st.s o.g with
    | none => rw [hw] at hx; exact hx.elim
    | some b =>
      rw [hw] at hx
      cases b with
      | false =>
        cases c with
        | p => exact XN_ops r hs ck ⟨putD st.s o.d .undef, st.h⟩ Q har hn.2 hx
        | r lo hi => exact XN_ops r hs ck ⟨putD st.s o.d .undef, st.h⟩ Q har hn.2 hx
        | k => cases hn.1
      | true =>
        obtain ⟨⟨s1, h1⟩, hst, h2, h3⟩ := hx
        have e1 : h1 = st.h := h2 hn.1
        subst e1
        simp only [hst]
        cases c with
        | p => exact XN_ops r hs ck ⟨s1, st.h⟩ Q har hn.2 h3
        | k => cases hn.1
        | r lo hi =>
          have hlh : lo = hi := by
            simp only [allEq, Bool.and_eq_true, beq_iff_eq] at ha
            exact ha.1
          obtain ⟨s2, ck2, q1, q2, q3⟩ := XN_ops r hs (if lo = hi then (lo, hi + 1, fun _ => True) :: ck else (lo, hi + 1, fun h => Same (call F) st o h s1) :: ck) ⟨s1, st.h⟩ Q har hn.2 h3
          refine ⟨s2, ck2, q1, fun x hx => ?_, q3⟩
          rcases q2 x hx with h | h
          · rw [if_pos hlh] at h
            rcases List.mem_cons.mp h with rfl | h
            · exact .inr fun _ => trivial
            · exact .inl h
          · exact .inr h

theorem XD_ops2 {F : Nat → Option FnIR} : ∀ (ops : List (Op1 × Cl)) (hs : List Heap) (ck : Cks) (st : St) (Q : Pst), allEq ops = true → XD F ops st Q →
    ∃ st1 L ck1, drawOps (call F) ops hs ck st = some (st1, hs ++ L, ck1) ∧ (∀ x ∈ ck1, x ∈ ck ∨ ∀ h, x.2.2 h) ∧ Q .norm st1
  | [], hs, ck, st, Q, _, hx => ⟨st, [], ck, by simp [drawOps], fun _ h => .inl h, hx⟩
  | (o, c) :: r, hs, ck, st, Q, ha, hx => by
    have har : allEq r = true := by
      cases c with
      | p => exact ha
      | k => exact ha
      | r lo hi => simp only [allEq, Bool.and_eq_true] at ha; exact ha.2
    simp only [XD] at hx
    simp only [drawOps]
    cases hw : wantedV st.s o.g with
    | none => rw [hw] at hx; exact hx.elim
    | some b =>
      rw [hw] at hx
      cases b with
      | false =>
        cases c with
        | p => exact XD_ops2 r hs ck ⟨putD st.s o.d .undef, st.h⟩ Q har hx
        | r lo hi => exact XD_ops2 r hs ck ⟨putD st.s o.d .undef, st.h⟩ Q har hx
        | k =>
          obtain ⟨st1, L, ck1, q1, q2⟩ := XD_ops2 r (hs ++ [st.h]) ck ⟨putD st.s o.d .undef, st.h⟩ Q har hx
          exact ⟨st1, st.h :: L, ck1, by rw [q1]; simp, q2⟩
      | true =>
        obtain ⟨⟨s1, h1⟩, hst, h2, h3⟩ := hx
        simp only [hst]
        cases c with
        | p =>
          have e1 : h1 = st.h := h2 rfl
          subst e1
          exact XD_ops2 r hs ck ⟨s1, st.h⟩ Q har h3
        | k =>
          obtain ⟨st1, L, ck1, q1, q2⟩ := XD_ops2 r (hs ++ [h1]) ck ⟨s1, h1⟩ Q har h3
          exact ⟨st1, h1 :: L, ck1, by rw [q1]; simp, q2⟩
        | r lo hi =>
          have e1 : h1 = st.h := h2 rfl
          subst e1
          have hlh : lo = hi := by
            simp only [allEq, Bool.and_eq_true, beq_iff_eq] at ha
            exact ha.1
          obtain ⟨st1, L, ck1, q1, q2, q3⟩ := XD_ops2 r hs (if lo = hi then (lo, hi + 1, fun _ => st.h = st.h) :: ck else (lo, hi + 1, fun h => Same (call F) st o h s1) :: ck) ⟨s1, st.h⟩ Q har h3
          refine ⟨st1, L, ck1, q1, fun x hx => ?_, q3⟩
          rcases q2 x hx with h | h
          · rw [if_pos hlh] at h
            rcases List.mem_cons.mp h with rfl | h
            · exact .inr fun _ => rfl
            · exact .inl h
          · exact .inr h

theorem X_draw_first {F : Nat → Option FnIR} {o0 o1 : Op1} {a b : List (Op1 × Cl)} {s s1 : List VV} {h : Heap} {Q : Pst} (P : Heap → Prop) (Mid : List VV → Heap → Prop)
    (hw0 : wantedV s o0.g = some true) (h0 : ∀ h1, P h1 → stepO (call F) ⟨s, h1⟩ o0 = some (.norm, ⟨s1, h1⟩)) (hPh : P h) (ha : allEq a = true) (hn : (a.all fun x => !isk x.2) = true) (hb : allEq b = true)
    (hx : XD F a ⟨s1, h⟩ (NM2 Mid)) (hk : ∀ s', Mid s' h → ∃ s2 h2, wantedV s' o1.g = some true ∧ stepO (call F) ⟨s', h⟩ o1 = some (.norm, ⟨s2, h2⟩) ∧ P h2 ∧ XD F b ⟨s2, h2⟩ Q) :
    X F (.draw ((o0, .r 0 1) :: (a ++ (o1, .k) :: b))) ⟨s, h⟩ Q := by
  let c0 : Nat × Nat × (Heap → Prop) := (0, 2, fun g => Same (call F) ⟨s, h⟩ o0 g s1)
  obtain ⟨s2, ck2, q1, q2, q3⟩ := XN_ops a [h] [c0] ⟨s1, h⟩ (NM2 Mid) ha hn hx
  obtain ⟨s3, h3, k1, k2, k3, k4⟩ := hk s2 (NM2_norm.1 q3)
  obtain ⟨st4, L, ck4, r1, r2, r3⟩ := XD_ops2 b ([h] ++ [h3]) ck2 ⟨s3, h3⟩ Q hb k4
  have hd : drawOps (call F) ((o0, .r 0 1) :: (a ++ (o1, .k) :: b)) [h] [] ⟨s, h⟩ = some (st4, [h] ++ [h3] ++ L, ck4) := by
    simp only [drawOps, hw0, h0 h hPh]
    rw [if_neg (by decide), drawOps_app, q1]
    simp only [Option.bind_some, drawOps, k1, k2]
    exact r1
  refine ⟨.norm, st4, ?_, r3⟩
  simp only [execL, execDraw, hd]
  rw [if_pos]
  intro x hx i hi1 hi2 g hg
  rcases r2 x hx with h4 | h4
  · rcases q2 x h4 with h5 | h5
    · have : x = c0 := by simpa using h5
      subst this
      have hi : i = 0 ∨ i = 1 := by simp only [c0] at hi2; omega
      rcases hi with rfl | rfl
      · simp at hg; subst hg; exact h0 _ hPh
      · simp at hg; subst hg; exact h0 _ k3
    · exact h5 g
  · exact h4 g
end Go.V04

set_option linter.unusedSimpArgs false
set_option linter.unusedVariables false
namespace Go.V04
open Go Go.Vm

/-! ### deeds, as they are read -/
theorem deed_of {H : Type} {d : DataW H} {el : List CV} (h : DR Proofs.Try.prog 7 56 d el) (hlen : el.length = 5) : ∃ x, DeedC el x := by
  obtain ⟨ds, rfl, hd, hc, hf⟩ := DR_struct Proofs.Try.underlying56 h
  match ds, hd with
  | [d1, d2, d3, d4, d5], _ =>
    match el, hlen with
    | [c1, c2, c3, c4, c5], _ =>
      have f1 : DR Proofs.Try.prog 6 5 d1 (([c1, c2, c3, c4, c5].drop 0).take (Proofs.Try.prog.cellsOf 5)) := hf 0 _ d1 rfl rfl
      have f2 : DR Proofs.Try.prog 6 3 d2 (([c1, c2, c3, c4, c5].drop 1).take (Proofs.Try.prog.cellsOf 3)) := hf 1 _ d2 rfl rfl
      have f3 : DR Proofs.Try.prog 6 28 d3 (([c1, c2, c3, c4, c5].drop 2).take (Proofs.Try.prog.cellsOf 28)) := hf 2 _ d3 rfl rfl
      have f4 : DR Proofs.Try.prog 6 41 d4 (([c1, c2, c3, c4, c5].drop 3).take (Proofs.Try.prog.cellsOf 41)) := hf 3 _ d4 rfl rfl
      have f5 : DR Proofs.Try.prog 6 5 d5 (([c1, c2, c3, c4, c5].drop 4).take (Proofs.Try.prog.cellsOf 5)) := hf 4 _ d5 rfl rfl
      have k1 : Proofs.Try.prog.cellsOf 5 = 1 := by kernel_rfl
      have k2 : Proofs.Try.prog.cellsOf 3 = 1 := by kernel_rfl
      have k3 : Proofs.Try.prog.cellsOf 28 = 1 := by kernel_rfl
      have k4 : Proofs.Try.prog.cellsOf 41 = 1 := by kernel_rfl
      rw [k1] at f1 f5
      rw [k2] at f2
      rw [k3] at f3
      rw [k4] at f4
      obtain ⟨x1, _, e1, w1⟩ := DR_int Proofs.Try.underlying5 f1
      obtain ⟨x2, _, e2, w2⟩ := DR_int Proofs.Try.underlying3 f2
      obtain ⟨b, cB, e3, hb, hbl, _⟩ := DR_bytes Proofs.Try.underlying28 Proofs.Try.underlying5 (by kernel_rfl) f3
      obtain ⟨k, cK, e4, hk, hkl⟩ := DR_bools Proofs.Try.underlying41 Proofs.Try.underlying4 (by kernel_rfl) f4
      obtain ⟨x5, _, e5, w5⟩ := DR_int Proofs.Try.underlying5 f5
      obtain ⟨y1, rfl⟩ := wf_u8 w1
      obtain ⟨y5, rfl⟩ := wf_u8 w5
      simp at e1 e2 e3 e4 e5
      subst e1 e2 e3 e4 e5
      exact ⟨⟨y1, x2, b, k, y5⟩, _, _, rfl, hb, hk, hbl, hkl⟩

theorem deeds_of {H : Type} {d : DataW H} {u : VV} (h : DV Proofs.Try.prog 52 d u) : ∃ els l, SlV 5 els u ∧ DeedsC els l ∧ l.length ≤ maxLen := by
  obtain ⟨c, h1, rfl⟩ := DV_plain (by simp only [isStr, Proofs.Try.underlying52]) h
  have k2 : Proofs.Try.prog.cellsOf 56 = 5 := by kernel_rfl
  rcases DR_slice Proofs.Try.underlying52 h1 with ⟨rfl, e⟩ | ⟨ds, rest, els, rfl, e, h2, h3, h4⟩
  · cases e
    exact ⟨[], [], .inl ⟨rfl, rfl⟩, ⟨rfl, fun i x h => by cases h⟩, by simp⟩
  · cases e
    rw [k2] at h4 ⊢
    have key : ∀ (els : List (List CV)) (ds : List (DataW H)), els.length = ds.length → (∀ (i : Nat) (el : List CV) (y : DataW H), els[i]? = some el → ds[i]? = some y → el.length = 5 ∧ DR Proofs.Try.prog 7 56 y el) → ∃ l, DeedsC els l := by
      intro els
      induction els with
      | nil => intro ds _ _; exact ⟨[], rfl, fun i x h => by cases h⟩
      | cons el r ih =>
        intro ds hl hh
        match ds, hl with
        | y :: ys, hl =>
          obtain ⟨a1, a2⟩ := hh 0 el y rfl rfl
          obtain ⟨x, b1⟩ := deed_of a2 a1
          obtain ⟨l, c1, c2⟩ := ih ys (by simpa using hl) (fun i el y h1 h2 => hh (i + 1) el y (by simpa using h1) (by simpa using h2))
          refine ⟨x :: l, by simp [c1], fun i z hz => ?_⟩
          cases i with
          | zero => simp at hz; subst hz; exact ⟨el, rfl, b1⟩
          | succ i => simpa using c2 i z (by simpa using hz)
    obtain ⟨l, c1⟩ := key els ds h2 h4
    exact ⟨els, l, .inr ⟨false, rfl⟩, c1, by rw [← c1.1]; exact h3⟩
end Go.V04

set_option linter.unusedSimpArgs false
set_option linter.unusedVariables false
namespace Go.V04
open Go Go.Vm

/-- A region's first operations, of which each gives the same in any heap that P says. -/
def XDP (F : Nat → Option FnIR) (P : Heap → Prop) : List (Op1 × Cl) → List VV → (List VV → Prop) → Prop
  | [], s, Q => Q s
  | (o, _) :: r, s, Q => wantedV s o.g = some true ∧ ∃ s1, (∀ h, P h → stepO (call F) ⟨s, h⟩ o = some (.norm, ⟨s1, h⟩)) ∧ XDP F P r s1 Q

theorem XDP_of {F : Nat → Option FnIR} {P : Heap → Prop} {d : Option Nat} {i : Ins} {c : Cl} {r : List (Op1 × Cl)} {s : List VV} {v : VV} {Q : List VV → Prop} (hp : plain i = true) (hv : ∀ h, P h → stepI h (evalO s) i = some (v, h)) (hk : XDP F P r (putD s d v) Q) :
    XDP F P ((⟨none, d, i⟩, c) :: r) s Q := by
  refine ⟨rfl, _, fun h hh => ?_, hk⟩
  rw [stepO_plain hp, hv h hh]

theorem XDP_ops {F : Nat → Option FnIR} {P : Heap → Prop} : ∀ (a : List (Op1 × Cl)) (hs : List Heap) (ck : Cks) (s : List VV) (h : Heap) (Q : List VV → Prop), P h → (a.all fun x => match x.2 with | .p => true | .r _ hi => decide (hi ≤ 1) | .k => false) = true → XDP F P a s Q →
    ∃ s1 ck1, drawOps (call F) a hs ck ⟨s, h⟩ = some (⟨s1, h⟩, hs, ck1) ∧ (∀ x ∈ ck1, x ∈ ck ∨ (x.2.1 ≤ 2 ∧ ∀ g, P g → x.2.2 g)) ∧ Q s1
  | [], hs, ck, s, h, Q, _, _, hx => ⟨s, ck, rfl, fun _ h => .inl h, hx⟩
  | (o, c) :: r, hs, ck, s, h, Q, hP, ha, hx => by
    obtain ⟨hw, s1, h1, h2⟩ := hx
    simp only [List.all_cons, Bool.and_eq_true] at ha
    simp only [drawOps, hw, h1 h hP]
    cases c with
    | p => exact XDP_ops r hs ck s1 h Q hP ha.2 h2
    | k => cases ha.1
    | r lo hi =>
      have hhi : hi ≤ 1 := of_decide_eq_true ha.1
      obtain ⟨s2, ck2, q1, q2, q3⟩ := XDP_ops r hs (if lo = hi then (lo, hi + 1, fun _ => True) :: ck else (lo, hi + 1, fun g => Same (call F) ⟨s, h⟩ o g s1) :: ck) s1 h Q hP ha.2 h2
      refine ⟨s2, ck2, q1, fun x hx => ?_, q3⟩
      rcases q2 x hx with e | e
      · split at e
        · rcases List.mem_cons.mp e with rfl | e
          · exact .inr ⟨by simp; omega, fun _ _ => trivial⟩
          · exact .inl e
        · rcases List.mem_cons.mp e with rfl | e
          · exact .inr ⟨by simp; omega, fun g hg => h1 g hg⟩
          · exact .inl e
      · exact .inr e

/-- Of which the operations ahead of the first change may look behind it, too. -/
theorem X_draw_P {F : Nat → Option FnIR} {ops : List (Op1 × Cl)} {n : Nat} {o1 : Op1} {s : List VV} {h : Heap} {Q : Pst} (P : Heap → Prop) (Mid : List VV → Prop) (hn : ops[n]? = some (o1, .k)) (hP : P h)
    (ha : ((ops.take n).all fun x => match x.2 with | .p => true | .r _ hi => decide (hi ≤ 1) | .k => false) = true) (hb : allEq (ops.drop (n + 1)) = true)
    (hx : XDP F P (ops.take n) s Mid) (hk : ∀ s', Mid s' → ∃ s2 h2, wantedV s' o1.g = some true ∧ stepO (call F) ⟨s', h⟩ o1 = some (.norm, ⟨s2, h2⟩) ∧ P h2 ∧ XD F (ops.drop (n + 1)) ⟨s2, h2⟩ Q) :
    X F (.draw ops) ⟨s, h⟩ Q := by
  have hops : ops = ops.take n ++ (o1, .k) :: ops.drop (n + 1) := by
    obtain ⟨hlt, he⟩ := List.getElem?_eq_some_iff.1 hn
    rw [← he, List.getElem_cons_drop, List.take_append_drop]
  generalize ops.take n = a at *
  generalize ops.drop (n + 1) = b at *
  subst hops
  obtain ⟨s2, ck2, q1, q2, q3⟩ := XDP_ops a [h] [] s h Mid hP ha hx
  obtain ⟨s3, h3, k1, k2, k3, k4⟩ := hk s2 q3
  obtain ⟨st4, L, ck4, r1, r2, r3⟩ := XD_ops2 b ([h] ++ [h3]) ck2 ⟨s3, h3⟩ Q hb k4
  have hd : drawOps (call F) (a ++ (o1, .k) :: b) [h] [] ⟨s, h⟩ = some (st4, [h] ++ [h3] ++ L, ck4) := by
    rw [drawOps_app, q1]
    simp only [Option.bind_some, drawOps, k1, k2]
    exact r1
  refine ⟨.norm, st4, ?_, r3⟩
  simp only [execL, execDraw, hd]
  rw [if_pos]
  intro x hx i hi1 hi2 g hg
  rcases r2 x hx with h4 | h4
  · rcases q2 x h4 with h5 | ⟨h5, h6⟩
    · cases h5
    · have hi : i = 0 ∨ i = 1 := by omega
      rcases hi with rfl | rfl
      · simp at hg; subst hg; exact h6 _ hP
      · simp at hg; subst hg; exact h6 _ k3
  · exact h4 g

theorem stepO_callR {F : Nat → Option FnIR} {f : Nat} {args : List Opd} {v : VV} {s : List VV} {h h' : Heap} {d : Option Nat} (hc : call F f (args.map (evalO s)) h = some (.ret v, h')) :
    stepO (call F) ⟨s, h⟩ ⟨none, d, .call f false args⟩ = some (.norm, ⟨putD s d v, h'⟩) := by
  simp [stepO, doCall, hc]

theorem Moved.setNew {h g : Heap} {p : Nat} {f l l' : Option Nat} {d' : D} (m : Moved h g p f l l' d') (hp : p < h.length) {i : Nat} {cells : List VV} {fr : Bool} (hi : h.length ≤ i) (hb : g[i]? = some (.box cells fr)) (o : VO) : Moved h (g.set i o) p f l l' d' :=
  ⟨m.dev.setBox hb (by omega) o, ⟨by rw [List.length_set]; exact m.kept.len, fun j hj h1 h2 h3 => by rw [List.getElem?_set_ne (by omega)]; exact m.kept.same j hj h1 h2 h3⟩, m.new⟩
theorem Moved.ofExt {h g : Heap} {p : Nat} {f l : Option Nat} {d : D} (hD : DevAt h p f l d) (e : Ext h g) : Moved h g p f l l d := ⟨hD.ext e, e.kept p f l, LNew.refl _ _⟩
theorem Moved.push {h g : Heap} {p : Nat} {f l l' : Option Nat} {d' : D} (m : Moved h g p f l l' d') (o : VO) : Moved h (g ++ [o]) p f l l' d' :=
  m.trans (Moved.ofExt m.dev (Ext.push g o))

/-- What a step does. -/
structure StepP (h : Heap) (p : Nat) (f l : Option Nat) (d : D) (v : VV) (h' : Heap) : Prop where
  m : ∃ d' l' S L w ff fu le, v = .tup [.agg (tC S L w ff fu le), vb true] ∧ Moved h h' p f l l' d' ∧ d'.OK ∧ TIs d' S L w ff fu le ∧ d'.w ≤ d.w + 1 ∧ d'.f ≤ d.f + 1 ∧ d'.loose.length ≤ d.loose.length + 1

theorem write_bd (d : D) (i : Int) (b : List UInt8) : (d.write i b).1.w ≤ d.w + 1 ∧ (d.write i b).1.f ≤ d.f + 1 ∧ (d.write i b).1.loose.length ≤ d.loose.length + 1 := by
  unfold D.write
  split
  · simp
  · split
    · simp
    · split
      · simp
      · simp [burnt_f]
theorem flush_bd (d : D) : d.flush.w ≤ d.w + 1 ∧ d.flush.f ≤ d.f + 1 ∧ d.flush.loose.length ≤ d.loose.length + 1 := by
  unfold D.flush
  split
  · simp
  · simp [D.settle]
theorem spoil_bd (d : D) (i a : Int) (v : UInt8) : (d.spoil i a v).1.w ≤ d.w + 1 ∧ (d.spoil i a v).1.f ≤ d.f + 1 ∧ (d.spoil i a v).1.loose.length ≤ d.loose.length + 1 := by
  unfold D.spoil; split <;> simp
theorem fuse_bd (d : D) (n : Int) : (d.fuse n).w ≤ d.w + 1 ∧ (d.fuse n).f ≤ d.f + 1 ∧ (d.fuse n).loose.length ≤ d.loose.length + 1 := by
  unfold D.fuse; split <;> simp

theorem TIs.fuse {d : D} {S L : CV} {w f : Int} {fu : Bool} {le : Int} (h : TIs d S L w f fu le) (n : Int) (hn : n < 1000) : TIs (d.fuse n) S L w f (rFuse fu le n).1 (rFuse fu le n).2 := by
  unfold D.fuse rFuse D.dark
  rw [h.fu]
  cases hfu : d.fused with
  | false =>
    simp only [Bool.false_and, Bool.false_eq_true, if_false]
    refine ⟨h.s, h.l, h.w, h.f, rfl, fun e => ?_⟩
    simp only [decide_eq_true_eq] at e
    show max n 0 = n ∧ 0 ≤ max n 0 ∧ max n 0 < 1000000
    exact ⟨by omega, by omega, by omega⟩
  | true =>
    obtain ⟨e1, e2, e3⟩ := h.le hfu
    rw [← e1]
    by_cases c : le = 0
    · simp only [c, Bool.true_and, decide_true, if_true]
      exact ⟨h.s, h.l, h.w, h.f, hfu.symm, fun _ => ⟨by omega, by omega, by omega⟩⟩
    · simp only [c, Bool.true_and, decide_false, Bool.false_eq_true, if_false]
      refine ⟨h.s, h.l, h.w, h.f, rfl, fun e => ?_⟩
      simp only [decide_eq_true_eq] at e
      show max n 0 = n ∧ 0 ≤ max n 0 ∧ max n 0 < 1000000
      exact ⟨by omega, by omega, by omega⟩
end Go.V04

set_option linter.unusedSimpArgs false
set_option linter.unusedVariables false
namespace Go.V04
open Go Go.Vm

/-! ### a step's branches -/
def armW : IR :=
  (.seq (.reg [
  ⟨none, (some 35), (.ld true 6 (.t 4))⟩,
  ⟨none, (some 36), (.mv (.t 8))⟩,
  ⟨none, (some 37), (.fad 2 (.t 5))⟩,
  ⟨none, (some 38), (.ld false 1 (.t 37))⟩,
  ⟨none, (some 39), (.call 32 true [(.t 35), (.t 36), (.t 38)])⟩,
  ⟨none, (some 34), (.mv (.t 39))⟩,
  ⟨none, (some 40), (.ext (.t 34) 0)⟩,
  ⟨none, (some 41), (.ext (.t 34) 1)⟩,
  ⟨none, (some 9), (.alloc [(.cv (.sc (.slice none 0 0))), (.cv (.sc (.slice none 0 0))), (.cv (.sc (.int .i64 0))), (.cv (.sc (.int .i64 0))), (.cv (.sc (.bool false))), (.cv (.sc (.int .i64 0)))])⟩,
  ⟨none, none, (.st 6 (.t 9) (.t 40))⟩,
  ⟨none, (some 10), (.mv (.t 41))⟩])

  (.seq (.draw [(
  ⟨none, (some 42), (.ld true 6 (.t 9))⟩, (.r 0 1)), (
  ⟨none, (some 43), (.mv (.t 0))⟩, .p), (
  ⟨none, (some 44), (.mv (.t 8))⟩, .p), (
  ⟨none, (some 45), (.fad 2 (.t 5))⟩, .p), (
  ⟨none, (some 46), (.ld false 1 (.t 45))⟩, (.r 0 0)), (
  ⟨none, (some 47), (.call 12 false [(.t 43), (.t 44), (.t 46)])⟩, .k), (
  ⟨none, (some 48), (.cvI .i64 (.t 47))⟩, .p), (
  ⟨none, (some 49), (.mv (.t 10))⟩, .p), (
  ⟨none, (some 50), (.bin .eql (.t 48) (.t 49))⟩, .p), (
  ⟨none, none, (.st 6 (.t 6) (.t 42))⟩, .k), (
  ⟨none, (some 7), (.mv (.t 50))⟩, .p)])
  .ret))

def armF : IR :=
  (.seq (.reg [
  ⟨none, (some 54), (.mv (.t 0))⟩,
  ⟨none, (some 55), (.call 13 false [(.t 54)])⟩])

  (.seq (.reg [
  ⟨none, (some 56), (.ld true 6 (.t 4))⟩,
  ⟨none, (some 57), (.call 33 true [(.t 56)])⟩,
  ⟨none, none, (.st 6 (.t 6) (.t 57))⟩,
  ⟨none, (some 7), (.mv (.c (.cv (.sc (.bool true)))))⟩])
  .ret))

def armC : IR :=
  (.seq (.reg [
  ⟨none, (some 60), (.mv (.t 0))⟩,
  ⟨none, (some 61), (.fad 3 (.t 5))⟩,
  ⟨none, (some 62), (.ld false 1 (.t 61))⟩,
  ⟨none, (some 63), (.call 14 false [(.t 60), (.t 62)])⟩])

  (.seq (.reg [
  ⟨none, (some 64), (.ld true 6 (.t 4))⟩,
  ⟨none, (some 65), (.fad 3 (.t 5))⟩,
  ⟨none, (some 66), (.ld false 1 (.t 65))⟩,
  ⟨none, (some 67), (.call 34 true [(.t 64), (.t 66)])⟩,
  ⟨none, none, (.st 6 (.t 6) (.t 67))⟩,
  ⟨none, (some 7), (.mv (.c (.cv (.sc (.bool true)))))⟩])
  .ret))

def armU : IR :=
  (.seq (.reg [
  ⟨none, (some 70), (.mv (.t 0))⟩,
  ⟨none, (some 71), (.fad 4 (.t 5))⟩,
  ⟨none, (some 72), (.ld false 1 (.t 71))⟩,
  ⟨none, (some 73), (.bin .rem (.t 72) (.c (.cv (.sc (.int .u8 12)))))⟩,
  ⟨none, (some 74), (.cvI .i64 (.t 73))⟩,
  ⟨none, (some 75), (.bin .sub (.t 74) (.c (.cv (.sc (.int .i64 2)))))⟩,
  ⟨none, (some 76), (.call 19 false [(.t 70), (.t 75)])⟩])

  (.seq (.reg [
  ⟨none, (some 77), (.ld true 6 (.t 4))⟩,
  ⟨none, (some 78), (.fad 4 (.t 5))⟩,
  ⟨none, (some 79), (.ld false 1 (.t 78))⟩,
  ⟨none, (some 80), (.bin .rem (.t 79) (.c (.cv (.sc (.int .u8 12)))))⟩,
  ⟨none, (some 81), (.cvI .i64 (.t 80))⟩,
  ⟨none, (some 82), (.bin .sub (.t 81) (.c (.cv (.sc (.int .i64 2)))))⟩,
  ⟨none, (some 83), (.call 35 true [(.t 77), (.t 82)])⟩,
  ⟨none, none, (.st 6 (.t 6) (.t 83))⟩,
  ⟨none, (some 7), (.mv (.c (.cv (.sc (.bool true)))))⟩])
  .ret))

def armS : IR :=
  (.seq (.reg [
  ⟨none, (some 87), (.ld true 6 (.t 4))⟩,
  ⟨none, (some 88), (.mv (.t 8))⟩,
  ⟨none, (some 89), (.fad 4 (.t 5))⟩,
  ⟨none, (some 90), (.ld false 1 (.t 89))⟩,
  ⟨none, (some 91), (.bin .rem (.t 90) (.c (.cv (.sc (.int .u8 70)))))⟩,
  ⟨none, (some 92), (.cvI .i64 (.t 91))⟩,
  ⟨none, (some 93), (.bin .sub (.t 92) (.c (.cv (.sc (.int .i64 3)))))⟩,
  ⟨none, (some 94), (.fad 4 (.t 5))⟩,
  ⟨none, (some 95), (.ld false 1 (.t 94))⟩,
  ⟨none, (some 96), (.call 36 true [(.t 87), (.t 88), (.t 93), (.t 95)])⟩,
  ⟨none, (some 86), (.mv (.t 96))⟩,
  ⟨none, (some 97), (.ext (.t 86) 0)⟩,
  ⟨none, (some 98), (.ext (.t 86) 1)⟩,
  ⟨none, (some 11), (.alloc [(.cv (.sc (.slice none 0 0))), (.cv (.sc (.slice none 0 0))), (.cv (.sc (.int .i64 0))), (.cv (.sc (.int .i64 0))), (.cv (.sc (.bool false))), (.cv (.sc (.int .i64 0)))])⟩,
  ⟨none, none, (.st 6 (.t 11) (.t 97))⟩,
  ⟨none, (some 12), (.mv (.t 98))⟩])

  (.seq (.draw [(
  ⟨none, (some 99), (.ld true 6 (.t 11))⟩, (.r 0 1)), (
  ⟨none, (some 100), (.mv (.t 0))⟩, .p), (
  ⟨none, (some 101), (.mv (.t 8))⟩, .p), (
  ⟨none, (some 102), (.fad 4 (.t 5))⟩, .p), (
  ⟨none, (some 103), (.ld false 1 (.t 102))⟩, (.r 0 0)), (
  ⟨none, (some 104), (.bin .rem (.t 103) (.c (.cv (.sc (.int .u8 70)))))⟩, .p), (
  ⟨none, (some 105), (.cvI .i64 (.t 104))⟩, .p), (
  ⟨none, (some 106), (.bin .sub (.t 105) (.c (.cv (.sc (.int .i64 3)))))⟩, .p), (
  ⟨none, (some 107), (.fad 4 (.t 5))⟩, .p), (
  ⟨none, (some 108), (.ld false 1 (.t 107))⟩, (.r 0 0)), (
  ⟨none, (some 109), (.call 20 false [(.t 100), (.t 101), (.t 106), (.t 108)])⟩, .k), (
  ⟨none, (some 110), (.mv (.t 12))⟩, .p), (
  ⟨none, (some 111), (.eqb false (.t 109) (.t 110))⟩, .p), (
  ⟨none, none, (.st 6 (.t 6) (.t 99))⟩, .k), (
  ⟨none, (some 7), (.mv (.t 111))⟩, .p)])
  .ret))

def armR : IR :=
  (.seq (.reg [
  ⟨none, (some 113), (.mv (.t 0))⟩,
  ⟨none, (some 114), (.fad 1 (.t 5))⟩,
  ⟨none, (some 115), (.ld false 1 (.t 114))⟩,
  ⟨none, (some 116), (.call 15 false [(.t 113), (.t 115)])⟩,
  ⟨none, (some 112), (.mv (.t 116))⟩,
  ⟨none, (some 117), (.ext (.t 112) 0)⟩,
  ⟨none, (some 118), (.ext (.t 112) 1)⟩,
  ⟨none, (some 13), (.mv (.t 117))⟩,
  ⟨none, (some 14), (.mv (.t 118))⟩])

  (.seq (.reg [
  ⟨none, (some 120), (.ld true 6 (.t 4))⟩,
  ⟨none, (some 121), (.fad 1 (.t 5))⟩,
  ⟨none, (some 122), (.ld false 1 (.t 121))⟩,
  ⟨none, (some 123), (.call 37 true [(.t 120), (.t 122)])⟩,
  ⟨none, (some 119), (.mv (.t 123))⟩,
  ⟨none, (some 124), (.ext (.t 119) 0)⟩,
  ⟨none, (some 125), (.ext (.t 119) 1)⟩,
  ⟨none, (some 15), (.mv (.t 124))⟩,
  ⟨none, (some 16), (.mv (.t 125))⟩])

  (.seq (.reg [
  ⟨none, (some 126), (.ld true 6 (.t 4))⟩,
  ⟨none, (some 127), (.mv (.t 13))⟩,
  ⟨none, (some 128), (.cvBS (.t 127))⟩,
  ⟨none, (some 129), (.mv (.t 15))⟩,
  ⟨none, (some 130), (.cvBS (.t 129))⟩,
  ⟨none, (some 131), (.bin .eql (.t 128) (.t 130))⟩,
  ⟨none, (some 132), (.mv (.t 131))⟩,
  ⟨(some (132, true)), (some 133), (.mv (.t 14))⟩,
  ⟨(some (132, true)), (some 134), (.cvI .i64 (.t 133))⟩,
  ⟨(some (132, true)), (some 135), (.mv (.t 16))⟩,
  ⟨(some (132, true)), (some 136), (.bin .eql (.t 134) (.t 135))⟩,
  ⟨none, (some 137), (.pick (.t 132) (.t 136) (.c (.cv (.sc (.bool false)))))⟩,
  ⟨none, none, (.st 6 (.t 6) (.t 126))⟩,
  ⟨none, (some 7), (.mv (.t 137))⟩])
  .ret)))

abbrev z6 : List VV := [nilS, nilS, vi .i64 0, vi .i64 0, vb false, vi .i64 0]
/-- Where a branch begins. -/
structure ArmI (h0 g : Heap) (p : Nat) (f l : Option Nat) (d : D) (S L : CV) (w ff : Int) (fu : Bool) (le : Int) (x : Deed) (cB cK : CV) (i : Int) (s : List VV) : Prop where
  len : s.length = 138
  s0 : s.getD 0 .undef = .ptr p 0
  s4 : s.getD 4 .undef = .ptr h0.length 0
  s5 : s.getD 5 .undef = .ptr (h0.length + 1) 0
  s6 : s.getD 6 .undef = .ptr (h0.length + 2) 0
  s8 : s.getD 8 .undef = vi .i64 i
  ga : g[h0.length]? = some (.box (tC S L w ff fu le) false)
  gb : g[h0.length + 1]? = some (.box [vi .u8 x.kind.toNat, vi .i64 x.i, .cv cB, .cv cK, vi .u8 x.v.toNat] false)
  gc : g[h0.length + 2]? = some (.box z6 false)
  dev0 : DevAt h0 p f l d
  ext : Ext h0 g
  ok : d.OK
  tis : TIs d S L w ff fu le
  hB : SlV 1 (eB x.b) (.cv cB)
  hK : SlV 1 (eBool x.keep) (.cv cK)
  hBl : x.b.length ≤ maxLen
  hKl : x.keep.length ≤ maxLen
  bw : d.w < 200
  bf : d.f < 200
  bl : d.loose.length < 150
/-- Where it ends. -/
structure ArmO (h0 g' : Heap) (p : Nat) (f l : Option Nat) (d : D) (s' : List VV) : Prop where
  len : s'.length = 138
  s6 : s'.getD 6 .undef = .ptr (h0.length + 2) 0
  s7 : s'.getD 7 .undef = vb true
  m : ∃ d' l' S L w ff fu le, g'[h0.length + 2]? = some (.box (tC S L w ff fu le) false) ∧ Moved h0 g' p f l l' d' ∧ d'.OK ∧ TIs d' S L w ff fu le ∧ d'.w ≤ d.w + 1 ∧ d'.f ≤ d.f + 1 ∧ d'.loose.length ≤ d.loose.length + 1

theorem write_e (d : D) (i : Int) (b : List UInt8) : (d.write i b).2 ≤ 20 := by
  unfold D.write
  split
  · simp
  split
  · simp
  split <;> simp
theorem st_ld' {h : Heap} {s : List VV} {ag : Bool} {n : Nat} {x : Opd} : stepI h (evalO s) (.ld ag n x) = ldO h ag n (evalO s x) := rfl

section
variable {h0 g : Heap} {p : Nat} {f l : Option Nat} {d : D} {S L : CV} {w ff : Int} {fu : Bool} {le : Int} {x : Deed} {cB cK : CV} {i : Int} {s : List VV} {Q : Pst}

/-- The last: the result's box is written. -/
theorem arm_end {g1 : Heap} {d' : D} {l' : Option Nat} {S' L' : CV} {w' f' : Int} {fu' : Bool} {le' : Int} {s' : List VV} (hp : p < h0.length) (h1 : g1[h0.length + 2]? = some (.box z6 false)) (M : Moved h0 g1 p f l l' d') (ok : d'.OK) (T : TIs d' S' L' w' f' fu' le')
    (b1 : d'.w ≤ d.w + 1) (b2 : d'.f ≤ d.f + 1) (b3 : d'.loose.length ≤ d.loose.length + 1) (a1 : s'.length = 138) (a2 : s'.getD 6 .undef = .ptr (h0.length + 2) 0) (a3 : s'.getD 7 .undef = vb true) :
    ArmO h0 (g1.set (h0.length + 2) (.box (tC S' L' w' f' fu' le') false)) p f l d s' :=
  ⟨a1, a2, a3, d', l', S', L', w', f', fu', le', by rw [List.getElem?_set_self (lt_of_get h1)], M.setNew hp (by omega) h1 _, ok, T, b1, b2, b3⟩

theorem armW_x (I : ArmI h0 g p f l d S L w ff fu le x cB cK i s) (hQ : ∀ s' g', ArmO h0 g' p f l d s' → Q .ret ⟨s', g'⟩) : X F armW ⟨s, g⟩ Q := by
  unfold armW
  have hs := I.len
  have hp := I.dev0.lt.1
  obtain ⟨_, _, _, _, _, _, k6⟩ := ld6 I.ga
  obtain ⟨_, _, m2, _, _⟩ := ldp I.gb
  obtain ⟨v3, hc3, L', w', le', n3, r3, T3⟩ := rwrite_f32 I.tis I.ok (by have := I.bl; omega) i x.b (.cv cB) I.hB I.hBl
  simp only [go_sem, Nat.reduceLT, Nat.reduceEqDiff, reduceCtorEq, Int.reduceLT, Int.reduceEq, hs, I.s4, I.s8, I.s5, k6, m2]
  refine XO_callP (h1 := g) (by simp only [List.map, go_sem, Nat.reduceLT, Nat.reduceEqDiff, reduceCtorEq, Int.reduceLT, Int.reduceEq, hs]; rfl) n3 r3 ?_
  simp only [go_sem, Nat.reduceLT, Nat.reduceEqDiff, reduceCtorEq, Int.reduceLT, Int.reduceEq, hs, st_l_n]
  have D9 := (I.dev0.ext I.ext).push (VO.box (tC S L' w' ff fu le') false)
  have q1 := (Ext.push g (VO.box (tC S L' w' ff fu le') false)).get I.gb
  have q2 := (Ext.push g (VO.box (tC S L' w' ff fu le') false)).get I.gc
  have hg0 := I.ext.len
  obtain ⟨_, _, m2', _, _⟩ := ldp q1
  obtain ⟨v12, g12, n12, hv12, l', M12⟩ := write_f12 D9 I.ok (by have := I.bw; omega) (by have := I.bl; omega) i x.b (.cv cB) I.hB
  refine X_draw_P (n := 5) (o1 := ⟨none, some 47, .call 12 false [.t 43, .t 44, .t 46]⟩) (fun h1 => h1[g.length]? = some (.box (tC S L' w' ff fu le') false) ∧ h1[h0.length + 1]? = some (.box [vi .u8 x.kind.toNat, vi .i64 x.i, .cv cB, .cv cK, vi .u8 x.v.toNat] false))
    (fun s' => s'.length = 138 ∧ s'.getD 43 .undef = .ptr p 0 ∧ s'.getD 44 .undef = vi .i64 i ∧ s'.getD 46 .undef = .cv cB ∧ s'.getD 42 .undef = .agg (tC S L' w' ff fu le') ∧ s'.getD 10 .undef = vi .i64 ((d.write i x.b).2 : Nat) ∧ s'.getD 6 .undef = .ptr (h0.length + 2) 0)
    rfl ⟨at_last, q1⟩ rfl rfl ?_ ?_
  · simp only [List.take_succ_cons, List.take_zero]
    refine XDP_of (v := .agg (tC S L' w' ff fu le')) rfl (fun h1 hh => ?_) ?_
    · rw [st_ld']; simp only [go_sem, Nat.reduceLT, Nat.reduceEqDiff, reduceCtorEq, Int.reduceLT, Int.reduceEq, hs]; exact (ld6 hh.1).2.2.2.2.2.2
    refine XDP_of rfl (fun _ _ => rfl) ?_
    refine XDP_of rfl (fun _ _ => rfl) ?_
    refine XDP_of (v := .ptr (h0.length + 1) 2) rfl (fun _ _ => by rw [st_fad]; simp only [go_sem, Nat.reduceLT, Nat.reduceEqDiff, reduceCtorEq, Int.reduceLT, Int.reduceEq, hs, I.s5]) ?_
    refine XDP_of (v := .cv cB) rfl (fun h1 hh => ?_) ?_
    · rw [st_ld']; simp only [go_sem, Nat.reduceLT, Nat.reduceEqDiff, reduceCtorEq, Int.reduceLT, Int.reduceEq, hs]; exact (ldp hh.2).2.2.1
    simp only [XDP]
    simp only [go_sem, Nat.reduceLT, Nat.reduceEqDiff, reduceCtorEq, Int.reduceLT, Int.reduceEq, hs, I.s0, I.s8, I.s6, and_self, and_true, true_and]
  · rintro s' ⟨a1, a43, a44, a46, a42, a10, a6⟩
    refine ⟨_, g12, rfl, stepO_callR (by simp only [List.map, go_sem, Nat.reduceLT, Nat.reduceEqDiff, reduceCtorEq, Int.reduceLT, Int.reduceEq, a43, a44, a46]; exact n12), ⟨Kept.box D9 M12.kept at_last (by omega), Kept.box D9 M12.kept q1 (by omega)⟩, ?_⟩
    have q12 := Kept.box D9 M12.kept q2 (by omega)
    have hw : IntKind.i64.wrap ((d.write i x.b).2 : Nat) = ((d.write i x.b).2 : Nat) := by
      have := write_e d i x.b
      exact IntWalk.i64_in _ (by omega)
    simp only [List.drop_succ_cons, List.drop_zero]
    subst hv12
    simp only [go_sem, Nat.reduceLT, Nat.reduceEqDiff, reduceCtorEq, Int.reduceLT, Int.reduceEq, a1, a6, a42, a10, hw, sta6 q12]
    have := write_bd d i x.b
    exact hQ _ _ (arm_end hp q12 ((Moved.ofExt I.dev0 (I.ext.trans (Ext.push g _))).trans M12) (write_OK I.ok (by have := I.bw; omega) (by have := I.bl; omega) i x.b) T3 this.1 this.2.1 this.2.2 (by simp only [slot_len, a1]) (by simp only [go_sem, Nat.reduceLT, Nat.reduceEqDiff, reduceCtorEq, Int.reduceLT, Int.reduceEq, a6]) (by simp only [go_sem, Nat.reduceLT, Nat.reduceEqDiff, reduceCtorEq, Int.reduceLT, Int.reduceEq, a1]))

theorem armF_x (I : ArmI h0 g p f l d S L w ff fu le x cB cK i s) (hQ : ∀ s' g', ArmO h0 g' p f l d s' → Q .ret ⟨s', g'⟩) : X F armF ⟨s, g⟩ Q := by
  unfold armF
  have hs := I.len
  have hp := I.dev0.lt.1
  have hg0 := I.ext.len
  have D9 := I.dev0.ext I.ext
  obtain ⟨v, g1, n1, rfl, l', M⟩ := flush_f13 D9 I.ok (by have := I.bf; omega)
  have qa := Kept.box D9 M.kept I.ga (by omega)
  have qc := Kept.box D9 M.kept I.gc (by omega)
  obtain ⟨_, _, _, _, _, _, k6⟩ := ld6 qa
  obtain ⟨v3, hc3, S', L', f', le', n3, r3, T3⟩ := rflush_f33 I.tis I.ok
  simp only [go_sem, Nat.reduceLT, Nat.reduceEqDiff, reduceCtorEq, Int.reduceLT, Int.reduceEq, hs, I.s0]
  refine XO_callR (by simp only [List.map, go_sem, Nat.reduceLT, Nat.reduceEqDiff, reduceCtorEq, Int.reduceLT, Int.reduceEq, hs]; exact n1) ?_
  simp only [go_sem, Nat.reduceLT, Nat.reduceEqDiff, reduceCtorEq, Int.reduceLT, Int.reduceEq, hs, I.s4, k6]
  refine XO_callP (h1 := g1) (by simp only [List.map, go_sem, Nat.reduceLT, Nat.reduceEqDiff, reduceCtorEq, Int.reduceLT, Int.reduceEq, hs]; rfl) n3 r3 ?_
  simp only [go_sem, Nat.reduceLT, Nat.reduceEqDiff, reduceCtorEq, Int.reduceLT, Int.reduceEq, hs, I.s6, sta6 qc]
  have := flush_bd d
  exact hQ _ _ (arm_end hp qc ((Moved.ofExt I.dev0 I.ext).trans M) (flush_OK I.ok (by have := I.bf; omega)) T3 this.1 this.2.1 this.2.2 (by simp only [slot_len, hs]) (by simp only [go_sem, Nat.reduceLT, Nat.reduceEqDiff, reduceCtorEq, Int.reduceLT, Int.reduceEq, hs, I.s6]) (by simp only [go_sem, Nat.reduceLT, Nat.reduceEqDiff, reduceCtorEq, Int.reduceLT, Int.reduceEq, hs]))

theorem armC_x (I : ArmI h0 g p f l d S L w ff fu le x cB cK i s) (hQ : ∀ s' g', ArmO h0 g' p f l d s' → Q .ret ⟨s', g'⟩) : X F armC ⟨s, g⟩ Q := by
  unfold armC
  have hs := I.len
  have hp := I.dev0.lt.1
  have hg0 := I.ext.len
  have D9 := I.dev0.ext I.ext
  obtain ⟨v, g1, n1, rfl, l', M⟩ := crash_f14 D9 I.ok I.hK I.hKl
  have qa := Kept.box D9 M.kept I.ga (by omega)
  have qb := Kept.box D9 M.kept I.gb (by omega)
  have qc := Kept.box D9 M.kept I.gc (by omega)
  obtain ⟨_, _, _, _, _, _, k6⟩ := ld6 qa
  obtain ⟨_, _, _, m3, _⟩ := ldp I.gb
  obtain ⟨_, _, _, m3', _⟩ := ldp qb
  obtain ⟨v3, hc3, S', n3, r3, T3⟩ := rcrash_f34 I.tis I.ok x.keep (.cv cK) I.hK
  simp only [go_sem, Nat.reduceLT, Nat.reduceEqDiff, reduceCtorEq, Int.reduceLT, Int.reduceEq, hs, I.s0, I.s5, m3]
  refine XO_callR (by simp only [List.map, go_sem, Nat.reduceLT, Nat.reduceEqDiff, reduceCtorEq, Int.reduceLT, Int.reduceEq, hs]; exact n1) ?_
  simp only [go_sem, Nat.reduceLT, Nat.reduceEqDiff, reduceCtorEq, Int.reduceLT, Int.reduceEq, hs, I.s4, I.s5, k6, m3']
  refine XO_callP (h1 := g1) (by simp only [List.map, go_sem, Nat.reduceLT, Nat.reduceEqDiff, reduceCtorEq, Int.reduceLT, Int.reduceEq, hs]; rfl) n3 r3 ?_
  simp only [go_sem, Nat.reduceLT, Nat.reduceEqDiff, reduceCtorEq, Int.reduceLT, Int.reduceEq, hs, I.s6, sta6 qc]
  exact hQ _ _ (arm_end hp qc ((Moved.ofExt I.dev0 I.ext).trans M) (crash_OK I.ok _) T3 (by simp [D.crash, D.settle]) (by simp [D.crash, D.settle]) (by simp [D.crash, D.settle]) (by simp only [slot_len, hs]) (by simp only [go_sem, Nat.reduceLT, Nat.reduceEqDiff, reduceCtorEq, Int.reduceLT, Int.reduceEq, hs, I.s6]) (by simp only [go_sem, Nat.reduceLT, Nat.reduceEqDiff, reduceCtorEq, Int.reduceLT, Int.reduceEq, hs]))

theorem tmodN (a b : Nat) : (a : Int).tmod (b : Int) = ((a % b : Nat) : Int) := by
  rw [Int.tmod_eq_emod_of_nonneg (by omega)]; omega

theorem armU_x (I : ArmI h0 g p f l d S L w ff fu le x cB cK i s) (hQ : ∀ s' g', ArmO h0 g' p f l d s' → Q .ret ⟨s', g'⟩) : X F armU ⟨s, g⟩ Q := by
  unfold armU
  have hs := I.len
  have hp := I.dev0.lt.1
  have hg0 := I.ext.len
  have D9 := I.dev0.ext I.ext
  have hn : IntKind.i64.wrap (IntKind.i64.wrap ((x.v.toNat : Int).tmod 12) - 2) = ((x.v.toNat % 12 : Nat) : Int) - 2 := by
    have := tmodN x.v.toNat 12
    rw [show ((12 : Nat) : Int) = 12 from rfl] at this
    rw [this, show IntKind.i64.wrap ((x.v.toNat % 12 : Nat) : Int) = ((x.v.toNat % 12 : Nat) : Int) from IntWalk.i64_in _ (by omega), IntWalk.i64_in _ (by omega)]
  obtain ⟨v, g1, n1, rfl, l', M⟩ := fuse_f19 D9 (((x.v.toNat % 12 : Nat) : Int) - 2)
  have qa := Kept.box D9 M.kept I.ga (by omega)
  have qb := Kept.box D9 M.kept I.gb (by omega)
  have qc := Kept.box D9 M.kept I.gc (by omega)
  obtain ⟨_, _, _, _, _, _, k6⟩ := ld6 qa
  obtain ⟨_, _, _, _, m4⟩ := ldp I.gb
  obtain ⟨_, _, _, _, m4'⟩ := ldp qb
  obtain ⟨v3, hc3, n3, r3⟩ := rfuse_f35 S L w ff fu le (((x.v.toNat % 12 : Nat) : Int) - 2)
  have T3 := I.tis.fuse (((x.v.toNat % 12 : Nat) : Int) - 2) (by omega)
  simp only [go_sem, Nat.reduceLT, Nat.reduceEqDiff, reduceCtorEq, Int.reduceLT, Int.reduceEq, hs, I.s0, I.s5, m4, bin_rem (show (12 : Int) ≠ 0 by decide)]
  refine XO_callR (by simp only [List.map, go_sem, Nat.reduceLT, Nat.reduceEqDiff, reduceCtorEq, Int.reduceLT, Int.reduceEq, hs, hn]; exact n1) ?_
  simp only [go_sem, Nat.reduceLT, Nat.reduceEqDiff, reduceCtorEq, Int.reduceLT, Int.reduceEq, hs, I.s4, I.s5, k6, m4', bin_rem (show (12 : Int) ≠ 0 by decide)]
  refine XO_callP (h1 := g1) (by simp only [List.map, go_sem, Nat.reduceLT, Nat.reduceEqDiff, reduceCtorEq, Int.reduceLT, Int.reduceEq, hs, hn]; rfl) n3 r3 ?_
  simp only [go_sem, Nat.reduceLT, Nat.reduceEqDiff, reduceCtorEq, Int.reduceLT, Int.reduceEq, hs, I.s6, sta6 qc]
  have := fuse_bd d (((x.v.toNat % 12 : Nat) : Int) - 2)
  exact hQ _ _ (arm_end hp qc ((Moved.ofExt I.dev0 I.ext).trans M) (fuse_OK I.ok _) T3 this.1 this.2.1 this.2.2 (by simp only [slot_len, hs]) (by simp only [go_sem, Nat.reduceLT, Nat.reduceEqDiff, reduceCtorEq, Int.reduceLT, Int.reduceEq, hs, I.s6]) (by simp only [go_sem, Nat.reduceLT, Nat.reduceEqDiff, reduceCtorEq, Int.reduceLT, Int.reduceEq, hs]))

theorem armS_x (I : ArmI h0 g p f l d S L w ff fu le x cB cK i s) (hQ : ∀ s' g', ArmO h0 g' p f l d s' → Q .ret ⟨s', g'⟩) : X F armS ⟨s, g⟩ Q := by
  unfold armS
  have hs := I.len
  have hp := I.dev0.lt.1
  have hg0 := I.ext.len
  have hn : IntKind.i64.wrap (IntKind.i64.wrap ((x.v.toNat : Int).tmod 70) - 3) = ((x.v.toNat % 70 : Nat) : Int) - 3 := by
    have := tmodN x.v.toNat 70
    rw [show ((70 : Nat) : Int) = 70 from rfl] at this
    rw [this, show IntKind.i64.wrap ((x.v.toNat % 70 : Nat) : Int) = ((x.v.toNat % 70 : Nat) : Int) from IntWalk.i64_in _ (by omega), IntWalk.i64_in _ (by omega)]
  generalize hnn : ((x.v.toNat % 70 : Nat) : Int) - 3 = n at hn
  obtain ⟨_, _, _, _, _, _, k6⟩ := ld6 I.ga
  obtain ⟨_, _, _, _, m4⟩ := ldp I.gb
  obtain ⟨v3, hc3, S', n3, r3, T3⟩ := rspoil_f36 I.tis I.ok i n x.v
  simp only [go_sem, Nat.reduceLT, Nat.reduceEqDiff, reduceCtorEq, Int.reduceLT, Int.reduceEq, hs, I.s4, I.s8, I.s5, k6, m4, bin_rem (show (70 : Int) ≠ 0 by decide)]
  refine XO_callP (h1 := g) (by simp only [List.map, go_sem, Nat.reduceLT, Nat.reduceEqDiff, reduceCtorEq, Int.reduceLT, Int.reduceEq, hs, hn]; rfl) n3 r3 ?_
  simp only [go_sem, Nat.reduceLT, Nat.reduceEqDiff, reduceCtorEq, Int.reduceLT, Int.reduceEq, hs, st_l_n]
  have D9 := (I.dev0.ext I.ext).push (VO.box (tC S' L w ff fu le) false)
  have q1 := (Ext.push g (VO.box (tC S' L w ff fu le) false)).get I.gb
  have q2 := (Ext.push g (VO.box (tC S' L w ff fu le) false)).get I.gc
  obtain ⟨v12, g12, n12, hv12, D12, K12⟩ := spoil_f20 D9 I.ok i n x.v
  refine X_draw_P (n := 10) (o1 := ⟨none, some 109, .call 20 false [.t 100, .t 101, .t 106, .t 108]⟩) (fun h1 => h1[g.length]? = some (.box (tC S' L w ff fu le) false) ∧ h1[h0.length + 1]? = some (.box [vi .u8 x.kind.toNat, vi .i64 x.i, .cv cB, .cv cK, vi .u8 x.v.toNat] false))
    (fun s' => s'.length = 138 ∧ s'.getD 100 .undef = .ptr p 0 ∧ s'.getD 101 .undef = vi .i64 i ∧ s'.getD 106 .undef = vi .i64 n ∧ s'.getD 108 .undef = vi .u8 x.v.toNat ∧ s'.getD 99 .undef = .agg (tC S' L w ff fu le) ∧ s'.getD 12 .undef = vb (d.spoil i n x.v).2 ∧ s'.getD 6 .undef = .ptr (h0.length + 2) 0)
    rfl ⟨at_last, q1⟩ rfl rfl ?_ ?_
  · simp only [List.take_succ_cons, List.take_zero]
    refine XDP_of (v := .agg (tC S' L w ff fu le)) rfl (fun h1 hh => ?_) ?_
    · rw [st_ld']; simp only [go_sem, Nat.reduceLT, Nat.reduceEqDiff, reduceCtorEq, Int.reduceLT, Int.reduceEq, hs]; exact (ld6 hh.1).2.2.2.2.2.2
    refine XDP_of rfl (fun _ _ => rfl) ?_
    refine XDP_of rfl (fun _ _ => rfl) ?_
    refine XDP_of (v := .ptr (h0.length + 1) 4) rfl (fun _ _ => by rw [st_fad]; simp only [go_sem, Nat.reduceLT, Nat.reduceEqDiff, reduceCtorEq, Int.reduceLT, Int.reduceEq, hs, I.s5]) ?_
    refine XDP_of (v := vi .u8 x.v.toNat) rfl (fun h1 hh => ?_) ?_
    · rw [st_ld']; simp only [go_sem, Nat.reduceLT, Nat.reduceEqDiff, reduceCtorEq, Int.reduceLT, Int.reduceEq, hs]; exact (ldp hh.2).2.2.2.2
    refine XDP_of (v := vi .u8 ((x.v.toNat : Int).tmod 70)) rfl (fun _ _ => by rw [st_bin]; simp only [go_sem, Nat.reduceLT, Nat.reduceEqDiff, reduceCtorEq, Int.reduceLT, Int.reduceEq, hs, bin_rem (show (70 : Int) ≠ 0 by decide)]) ?_
    refine XDP_of (v := vi .i64 (IntKind.i64.wrap ((x.v.toNat : Int).tmod 70))) rfl (fun _ _ => by rw [st_cvI]; simp only [go_sem, Nat.reduceLT, Nat.reduceEqDiff, reduceCtorEq, Int.reduceLT, Int.reduceEq, hs]) ?_
    refine XDP_of (v := vi .i64 n) rfl (fun _ _ => by rw [st_bin]; simp only [go_sem, Nat.reduceLT, Nat.reduceEqDiff, reduceCtorEq, Int.reduceLT, Int.reduceEq, hs, hn]) ?_
    refine XDP_of (v := .ptr (h0.length + 1) 4) rfl (fun _ _ => by rw [st_fad]; simp only [go_sem, Nat.reduceLT, Nat.reduceEqDiff, reduceCtorEq, Int.reduceLT, Int.reduceEq, hs, I.s5]) ?_
    refine XDP_of (v := vi .u8 x.v.toNat) rfl (fun h1 hh => ?_) ?_
    · rw [st_ld']; simp only [go_sem, Nat.reduceLT, Nat.reduceEqDiff, reduceCtorEq, Int.reduceLT, Int.reduceEq, hs]; exact (ldp hh.2).2.2.2.2
    simp only [XDP]
    simp only [go_sem, Nat.reduceLT, Nat.reduceEqDiff, reduceCtorEq, Int.reduceLT, Int.reduceEq, hs, I.s0, I.s8, I.s6, and_self, and_true, true_and]
  · rintro s' ⟨a1, a100, a101, a106, a108, a99, a12, a6⟩
    refine ⟨_, g12, rfl, stepO_callR (by simp only [List.map, go_sem, Nat.reduceLT, Nat.reduceEqDiff, reduceCtorEq, Int.reduceLT, Int.reduceEq, a100, a101, a106, a108]; exact n12), ⟨Kept.box D9 K12 at_last (by omega), Kept.box D9 K12 q1 (by omega)⟩, ?_⟩
    have q12 := Kept.box D9 K12 q2 (by omega)
    simp only [List.drop_succ_cons, List.drop_zero]
    subst hv12
    have e1 : ((d.spoil i n x.v).2 == (d.spoil i n x.v).2) = true := by simp
    simp only [go_sem, Nat.reduceLT, Nat.reduceEqDiff, reduceCtorEq, Int.reduceLT, Int.reduceEq, a1, a6, a99, a12, sta6 q12, e1]
    have := spoil_bd d i n x.v
    exact hQ _ _ (arm_end hp q12 ((Moved.ofExt I.dev0 (I.ext.trans (Ext.push g _))).trans ⟨D12, K12, LNew.refl _ _⟩) (spoil_OK I.ok i n x.v) T3 this.1 this.2.1 this.2.2 (by simp only [slot_len, a1]) (by simp only [go_sem, Nat.reduceLT, Nat.reduceEqDiff, reduceCtorEq, Int.reduceLT, Int.reduceEq, a6]) (by simp only [go_sem, Nat.reduceLT, Nat.reduceEqDiff, reduceCtorEq, Int.reduceLT, Int.reduceEq, a1]))

theorem armR_x (I : ArmI h0 g p f l d S L w ff fu le x cB cK i s) (hQ : ∀ s' g', ArmO h0 g' p f l d s' → Q .ret ⟨s', g'⟩) : X F armR ⟨s, g⟩ Q := by
  unfold armR
  have hs := I.len
  have hp := I.dev0.lt.1
  have hg0 := I.ext.len
  have D9 := I.dev0.ext I.ext
  obtain ⟨v1, g1, n1, r1⟩ := read_f15 D9 I.ok x.i
  have qa := r1.ext.get I.ga
  have qb := r1.ext.get I.gb
  have qc := r1.ext.get I.gc
  obtain ⟨_, _, _, _, _, _, k6⟩ := ld6 qa
  obtain ⟨_, m1, _, _, _⟩ := ldp I.gb
  obtain ⟨_, m1', _, _, _⟩ := ldp qb
  obtain ⟨eS, hSS, hSE⟩ := I.tis.s
  obtain ⟨eL, hSL, hLE⟩ := I.tis.l
  obtain ⟨v2, h2, c2, e2, n2, r2, y2, z2⟩ := rread_f37 S L w ff fu le hSS hSE hSL hLE (by have := I.bl; omega) x.i
  have M := Moved.ofExt I.dev0 (I.ext.trans r1.ext)
  simp only [go_sem, Nat.reduceLT, Nat.reduceEqDiff, reduceCtorEq, Int.reduceLT, Int.reduceEq, hs, I.s0, I.s5, m1]
  refine XO_callR (by simp only [List.map, go_sem, Nat.reduceLT, Nat.reduceEqDiff, reduceCtorEq, Int.reduceLT, Int.reduceEq, hs]; exact n1) ?_
  cases hh : d.has x.i with
  | true =>
    obtain ⟨o1, w1, b1⟩ := r1.yes hh
    subst w1
    obtain ⟨rfl, hc2⟩ := y2 (by unfold D.has at hh; simpa using hh)
    have t1 := b1.bs
    have t2 := SlV.bs (h := g1) hc2
    have ec : lastF x.i (d.firm.getD x.i.toNat []) d.loose = d.cell x.i.toNat := by
      unfold D.cell
      have : ((x.i.toNat : Nat) : Int) = x.i := by have := (has_lt hh).1; omega
      rw [this]
    rw [ec] at t2
    have te : ∀ b : List UInt8, binO .eql (txt b) (txt b) = some (vb true) := fun b => by simp [binO, binV]
    simp only [go_sem, Nat.reduceLT, Nat.reduceEqDiff, reduceCtorEq, Int.reduceLT, Int.reduceEq, hs, I.s4, I.s5, k6, m1']
    refine XO_callP (h1 := g1) (by simp only [List.map, go_sem, Nat.reduceLT, Nat.reduceEqDiff, reduceCtorEq, Int.reduceLT, Int.reduceEq, hs]; rfl) n2 r2 ?_
    have e0 : IntKind.i64.wrap 0 = 0 := by decide
    simp only [go_sem, Nat.reduceLT, Nat.reduceEqDiff, reduceCtorEq, Int.reduceLT, Int.reduceEq, hs, I.s4, I.s6, k6, t1, t2, te, e0, sta6 qc]
    exact hQ _ _ (arm_end hp qc M I.ok I.tis (by omega) (by omega) (by omega) (by simp only [slot_len, hs]) (by simp only [go_sem, Nat.reduceLT, Nat.reduceEqDiff, reduceCtorEq, Int.reduceLT, Int.reduceEq, hs, I.s6]) (by simp only [go_sem, Nat.reduceLT, Nat.reduceEqDiff, reduceCtorEq, Int.reduceLT, Int.reduceEq, hs]))
  | false =>
    have w1 := r1.no hh
    subst w1
    obtain ⟨rfl, hc2⟩ := z2 (by unfold D.has at hh; simpa using hh)
    have te : ∀ b : List UInt8, binO .eql (txt b) (txt b) = some (vb true) := fun b => by simp [binO, binV]
    simp only [go_sem, Nat.reduceLT, Nat.reduceEqDiff, reduceCtorEq, Int.reduceLT, Int.reduceEq, hs, I.s4, I.s5, k6, m1']
    refine XO_callP (h1 := g1) (by simp only [List.map, go_sem, Nat.reduceLT, Nat.reduceEqDiff, reduceCtorEq, Int.reduceLT, Int.reduceEq, hs]; rfl) n2 r2 ?_
    have e0 : IntKind.i64.wrap 20 = 20 := by decide
    simp only [go_sem, Nat.reduceLT, Nat.reduceEqDiff, reduceCtorEq, Int.reduceLT, Int.reduceEq, hs, I.s4, I.s6, k6, hc2, te, e0, sta6 qc]
    exact hQ _ _ (arm_end hp qc M I.ok I.tis (by omega) (by omega) (by omega) (by simp only [slot_len, hs]) (by simp only [go_sem, Nat.reduceLT, Nat.reduceEqDiff, reduceCtorEq, Int.reduceLT, Int.reduceEq, hs, I.s6]) (by simp only [go_sem, Nat.reduceLT, Nat.reduceEqDiff, reduceCtorEq, Int.reduceLT, Int.reduceEq, hs]))
end
end Go.V04

set_option linter.unusedSimpArgs false
set_option linter.unusedVariables false
namespace Go.V04
open Go Go.Vm

def f23b : FnIR := ⟨138, [(.cell 6 true 6), (.t 7)],

  (.seq (.reg [
  ⟨none, (some 4), (.box 6 (.t 1))⟩,
  ⟨none, (some 5), (.box 5 (.t 2))⟩,
  ⟨none, (some 6), (.alloc [(.cv (.sc (.slice none 0 0))), (.cv (.sc (.slice none 0 0))), (.cv (.sc (.int .i64 0))), (.cv (.sc (.int .i64 0))), (.cv (.sc (.bool false))), (.cv (.sc (.int .i64 0)))])⟩,
  ⟨none, (some 7), (.mv (.c (.cv (.sc (.bool false)))))⟩])

  (.seq (.reg [
  ⟨none, (some 17), (.fad 1 (.t 5))⟩,
  ⟨none, (some 18), (.ld false 1 (.t 17))⟩,
  ⟨none, (some 8), (.mv (.t 18))⟩])

  (.seq f23_0

  (.seq
  (.seq (.reg [
  ⟨none, (some 27), (.fad 0 (.t 5))⟩,
  ⟨none, (some 28), (.ld false 1 (.t 27))⟩,
  ⟨none, (some 29), (.bin .rem (.t 28) (.c (.cv (.sc (.int .u8 9)))))⟩])
  (.block 0
  (.seq f23_1
  (.cond (.t 30)
  armW
  (.seq f23_2
  (.cond (.t 51)
  armF
  (.seq (.reg [
  ⟨none, (some 59), (.bin .eql (.t 29) (.c (.cv (.sc (.int .u8 5)))))⟩,
  ⟨none, (some 58), (.mv (.t 59))⟩])
  (.cond (.t 58)
  armC
  (.seq (.reg [
  ⟨none, (some 69), (.bin .eql (.t 29) (.c (.cv (.sc (.int .u8 6)))))⟩,
  ⟨none, (some 68), (.mv (.t 69))⟩])
  (.cond (.t 68)
  armU
  (.seq (.reg [
  ⟨none, (some 85), (.bin .eql (.t 29) (.c (.cv (.sc (.int .u8 7)))))⟩,
  ⟨none, (some 84), (.mv (.t 85))⟩])
  (.cond (.t 84)
  armS .skip))))))))))))

  armR))))⟩


theorem step_f23 {h : Heap} {p : Nat} {f l : Option Nat} {d : D} (hD : DevAt h p f l d) (hO : d.OK) {S L : CV} {w ff : Int} {fu : Bool} {le : Int} (hT : TIs d S L w ff fu le) (bw : d.w < 200) (bf : d.f < 200) (bl : d.loose.length < 150) {e : List CV} {x : Deed} (hx : DeedC e x) :
    ∃ v h', call F 23 [.ptr p 0, .agg (tC S L w ff fu le), .agg (e.map .cv)] h = some (.ret v, h') ∧ StepP h p f l d v h' := by
  obtain ⟨cB, cK, rfl, hB, hK, hBl, hKl⟩ := hx
  refine call_E (fn := f23b) rfl ?_
  simp only [f23b]
  generalize hs0 : ([.ptr p 0, .agg (tC S L w ff fu le), .agg ([.sc (.int .u8 x.kind.toNat), .sc (.int .i64 x.i), cB, cK, .sc (.int .u8 x.v.toNat)].map .cv)] ++ List.replicate _ VV.undef : List VV) = s
  have hs : s.length = 138 := by rw [← hs0]; rfl
  have h0 : s.getD 0 .undef = .ptr p 0 := by rw [← hs0]; rfl
  have h1 : s.getD 1 .undef = .agg (tC S L w ff fu le) := by rw [← hs0]; rfl
  have h2 : s.getD 2 .undef = .agg [vi .u8 x.kind.toNat, vi .i64 x.i, .cv cB, .cv cK, vi .u8 x.v.toNat] := by rw [← hs0]; rfl
  clear hs0
  simp only [go_sem, Nat.reduceLT, Nat.reduceEqDiff, reduceCtorEq, Int.reduceLT, Int.reduceEq, hs, h1, h2]
  rw [bx_agg (n := 6) rfl]
  simp only [go_sem, Nat.reduceLT, Nat.reduceEqDiff, reduceCtorEq, Int.reduceLT, Int.reduceEq, hs, h2]
  rw [bx_agg (n := 5) rfl]
  simp only [go_sem, Nat.reduceLT, Nat.reduceEqDiff, reduceCtorEq, Int.reduceLT, Int.reduceEq, hs]
  have x1 := ((Ext.push h (VO.box (tC S L w ff fu le) false)).trans (Ext.push _ (VO.box [vi .u8 x.kind.toNat, vi .i64 x.i, .cv cB, .cv cK, vi .u8 x.v.toNat] false))).trans (Ext.push _ (VO.box z6 false))
  have el1 : (h ++ [VO.box (tC S L w ff fu le) false]).length = h.length + 1 := by simp
  have el2 : (h ++ [VO.box (tC S L w ff fu le) false] ++ [VO.box [vi .u8 x.kind.toNat, vi .i64 x.i, .cv cB, .cv cK, vi .u8 x.v.toNat] false]).length = h.length + 2 := by simp
  rw [el1, el2]
  have ga : (h ++ [VO.box (tC S L w ff fu le) false] ++ [VO.box [vi .u8 x.kind.toNat, vi .i64 x.i, .cv cB, .cv cK, vi .u8 x.v.toNat] false] ++ [VO.box z6 false])[h.length]? = some (.box (tC S L w ff fu le) false) :=
    (Ext.push _ _).get ((Ext.push _ _).get at_last)
  have gb : (h ++ [VO.box (tC S L w ff fu le) false] ++ [VO.box [vi .u8 x.kind.toNat, vi .i64 x.i, .cv cB, .cv cK, vi .u8 x.v.toNat] false] ++ [VO.box z6 false])[h.length + 1]? = some (.box [vi .u8 x.kind.toNat, vi .i64 x.i, .cv cB, .cv cK, vi .u8 x.v.toNat] false) := by
    have := (Ext.push (h ++ [VO.box (tC S L w ff fu le) false] ++ [VO.box [vi .u8 x.kind.toNat, vi .i64 x.i, .cv cB, .cv cK, vi .u8 x.v.toNat] false]) (VO.box z6 false)).get at_last
    rw [el1] at this
    exact this
  have gc : (h ++ [VO.box (tC S L w ff fu le) false] ++ [VO.box [vi .u8 x.kind.toNat, vi .i64 x.i, .cv cB, .cv cK, vi .u8 x.v.toNat] false] ++ [VO.box z6 false])[h.length + 2]? = some (.box z6 false) := by
    rw [← el2]; exact at_last
  generalize (h ++ [VO.box (tC S L w ff fu le) false] ++ [VO.box [vi .u8 x.kind.toNat, vi .i64 x.i, .cv cB, .cv cK, vi .u8 x.v.toNat] false] ++ [VO.box z6 false]) = g at *
  obtain ⟨m0, m1, m2, m3, m4⟩ := ldp gb
  simp only [go_sem, Nat.reduceLT, Nat.reduceEqDiff, reduceCtorEq, Int.reduceLT, Int.reduceEq, hs, m1]
  have hr8 : (x.v.toNat : Int).tmod 8 = ((x.v.toNat % 8 : Nat) : Int) := tmodN _ 8
  have hr9 : IntKind.i64.wrap ((x.v.toNat : Int).tmod 9) = ((x.v.toNat % 9 : Nat) : Int) := by
    have := tmodN x.v.toNat 9
    rw [show ((9 : Nat) : Int) = 9 from rfl] at this
    rw [this]; exact IntWalk.i64_in _ (by omega)
  have hk9 : (x.kind.toNat : Int).tmod 9 = ((x.kind.toNat % 9 : Nat) : Int) := tmodN _ 9
  have cut : ∀ s1 : List VV, s1.length = 138 → s1.getD 5 .undef = .ptr (h.length + 1) 0 → s1.getD 8 .undef = vi .i64 x.i → X F f23_0 ⟨s1, g⟩ (NM2 fun s2 g2 => g2 = g ∧ s2.length = 138 ∧ s2.getD 0 .undef = s1.getD 0 .undef ∧ s2.getD 4 .undef = s1.getD 4 .undef ∧ s2.getD 5 .undef = s1.getD 5 .undef ∧ s2.getD 6 .undef = s1.getD 6 .undef ∧ ∃ i, s2.getD 8 .undef = vi .i64 i) := by
    intro s1 a1 a5 a8
    rw [X_eq f23_0.eq_1]
    by_cases c : (0 : Int) < ((x.v.toNat % 8 : Nat) : Int)
    · simp only [go_sem, Nat.reduceLT, Nat.reduceEqDiff, reduceCtorEq, Int.reduceLT, Int.reduceEq, a1, a5, m4, bin_rem (show (8 : Int) ≠ 0 by decide), bin_rem (show (9 : Int) ≠ 0 by decide), hr8, gt_iff_lt, c]
      exact ⟨trivial, trivial, trivial, trivial, trivial, trivial, _, rfl⟩
    · simp only [go_sem, Nat.reduceLT, Nat.reduceEqDiff, reduceCtorEq, Int.reduceLT, Int.reduceEq, a1, a5, m4, bin_rem (show (8 : Int) ≠ 0 by decide), hr8, gt_iff_lt, c]
      exact ⟨trivial, trivial, trivial, trivial, trivial, trivial, _, a8⟩
  refine (cut _ (by simp only [slot_len, hs]) (by simp only [go_sem, Nat.reduceLT, Nat.reduceEqDiff, reduceCtorEq, Int.reduceLT, Int.reduceEq, hs]) (by simp only [go_sem, Nat.reduceLT, Nat.reduceEqDiff, reduceCtorEq, Int.reduceLT, Int.reduceEq, hs])).mono (NM2_to ?_)
  rintro s1 g1 ⟨hg1, a1, a0, a4, a5, a6, i, a8⟩
  rw [hg1]
  clear hg1 g1
  simp only [go_sem, Nat.reduceLT, Nat.reduceEqDiff, reduceCtorEq, Int.reduceLT, Int.reduceEq, hs, h0] at a0 a4 a5 a6
  have fin : ∀ s' g', ArmO h g' p f l d s' → RQ [.cell 6 true 6, .t 7] (fun v h' => StepP h p f l d v h') .ret ⟨s', g'⟩ := by
    rintro s' g' ⟨b1, b6, b7, d', l', S', L', w', f', fu', le', c1, c2⟩
    refine RQ_c1 b6 c1 rfl (by omega) ?_
    rw [b7]
    exact ⟨d', l', S', L', w', f', fu', le', rfl, c2⟩
  have I : ∀ s2 : List VV, s2.length = 138 → s2.getD 0 .undef = .ptr p 0 → s2.getD 4 .undef = .ptr h.length 0 → s2.getD 5 .undef = .ptr (h.length + 1) 0 → s2.getD 6 .undef = .ptr (h.length + 2) 0 → s2.getD 8 .undef = vi .i64 i → ArmI h g p f l d S L w ff fu le x cB cK i s2 :=
    fun s2 b b0 b4 b5 b6 b8 => ⟨b, b0, b4, b5, b6, b8, ga, gb, gc, hD, x1, hO, hT, hB, hK, hBl, hKl, bw, bf, bl⟩
  have hlt : x.kind.toNat % 9 < 9 := Nat.mod_lt _ (by decide)
  have ne9 : (9 : Int) ≠ 0 := by decide
  have hcase : (x.kind.toNat : Int).tmod 9 = 0 ∨ (x.kind.toNat : Int).tmod 9 = 1 ∨ (x.kind.toNat : Int).tmod 9 = 2 ∨ (x.kind.toNat : Int).tmod 9 = 3 ∨ (x.kind.toNat : Int).tmod 9 = 4 ∨ (x.kind.toNat : Int).tmod 9 = 5 ∨ (x.kind.toNat : Int).tmod 9 = 6 ∨ (x.kind.toNat : Int).tmod 9 = 7 ∨ (x.kind.toNat : Int).tmod 9 = 8 := by
    rw [hk9]; omega
  clear cut hk9
  generalize hkm : (x.kind.toNat : Int).tmod 9 = km at hcase
  rcases hcase with rfl | rfl | rfl | rfl | rfl | rfl | rfl | rfl | rfl
  · simp only [go_sem, Nat.reduceLT, Nat.reduceEqDiff, reduceCtorEq, Int.reduceLT, Int.reduceEq, a1, a5, m0, bin_rem ne9, hkm]
    rw [X_eq f23_1.eq_1]
    simp only [go_sem, Nat.reduceLT, Nat.reduceEqDiff, reduceCtorEq, Int.reduceLT, Int.reduceEq, a1]
    refine armW_x (I _ ?_ ?_ ?_ ?_ ?_ ?_) (fun s' g' o => ?_)
    · simp only [slot_len, a1]
    · simp only [go_sem, Nat.reduceLT, Nat.reduceEqDiff, reduceCtorEq, Int.reduceLT, Int.reduceEq, a0]
    · simp only [go_sem, Nat.reduceLT, Nat.reduceEqDiff, reduceCtorEq, Int.reduceLT, Int.reduceEq, a4]
    · simp only [go_sem, Nat.reduceLT, Nat.reduceEqDiff, reduceCtorEq, Int.reduceLT, Int.reduceEq, a5]
    · simp only [go_sem, Nat.reduceLT, Nat.reduceEqDiff, reduceCtorEq, Int.reduceLT, Int.reduceEq, a6]
    · simp only [go_sem, Nat.reduceLT, Nat.reduceEqDiff, reduceCtorEq, Int.reduceLT, Int.reduceEq, a8]
    simp only [go_sem, Nat.reduceLT, Nat.reduceEqDiff, reduceCtorEq, Int.reduceLT, Int.reduceEq]
    exact fin s' g' o
  · simp only [go_sem, Nat.reduceLT, Nat.reduceEqDiff, reduceCtorEq, Int.reduceLT, Int.reduceEq, a1, a5, m0, bin_rem ne9, hkm]
    rw [X_eq f23_1.eq_1]
    simp only [go_sem, Nat.reduceLT, Nat.reduceEqDiff, reduceCtorEq, Int.reduceLT, Int.reduceEq, a1]
    refine armW_x (I _ ?_ ?_ ?_ ?_ ?_ ?_) (fun s' g' o => ?_)
    · simp only [slot_len, a1]
    · simp only [go_sem, Nat.reduceLT, Nat.reduceEqDiff, reduceCtorEq, Int.reduceLT, Int.reduceEq, a0]
    · simp only [go_sem, Nat.reduceLT, Nat.reduceEqDiff, reduceCtorEq, Int.reduceLT, Int.reduceEq, a4]
    · simp only [go_sem, Nat.reduceLT, Nat.reduceEqDiff, reduceCtorEq, Int.reduceLT, Int.reduceEq, a5]
    · simp only [go_sem, Nat.reduceLT, Nat.reduceEqDiff, reduceCtorEq, Int.reduceLT, Int.reduceEq, a6]
    · simp only [go_sem, Nat.reduceLT, Nat.reduceEqDiff, reduceCtorEq, Int.reduceLT, Int.reduceEq, a8]
    simp only [go_sem, Nat.reduceLT, Nat.reduceEqDiff, reduceCtorEq, Int.reduceLT, Int.reduceEq]
    exact fin s' g' o
  · simp only [go_sem, Nat.reduceLT, Nat.reduceEqDiff, reduceCtorEq, Int.reduceLT, Int.reduceEq, a1, a5, m0, bin_rem ne9, hkm]
    rw [X_eq f23_1.eq_1]
    simp only [go_sem, Nat.reduceLT, Nat.reduceEqDiff, reduceCtorEq, Int.reduceLT, Int.reduceEq, a1]
    refine armW_x (I _ ?_ ?_ ?_ ?_ ?_ ?_) (fun s' g' o => ?_)
    · simp only [slot_len, a1]
    · simp only [go_sem, Nat.reduceLT, Nat.reduceEqDiff, reduceCtorEq, Int.reduceLT, Int.reduceEq, a0]
    · simp only [go_sem, Nat.reduceLT, Nat.reduceEqDiff, reduceCtorEq, Int.reduceLT, Int.reduceEq, a4]
    · simp only [go_sem, Nat.reduceLT, Nat.reduceEqDiff, reduceCtorEq, Int.reduceLT, Int.reduceEq, a5]
    · simp only [go_sem, Nat.reduceLT, Nat.reduceEqDiff, reduceCtorEq, Int.reduceLT, Int.reduceEq, a6]
    · simp only [go_sem, Nat.reduceLT, Nat.reduceEqDiff, reduceCtorEq, Int.reduceLT, Int.reduceEq, a8]
    simp only [go_sem, Nat.reduceLT, Nat.reduceEqDiff, reduceCtorEq, Int.reduceLT, Int.reduceEq]
    exact fin s' g' o
  · simp only [go_sem, Nat.reduceLT, Nat.reduceEqDiff, reduceCtorEq, Int.reduceLT, Int.reduceEq, a1, a5, m0, bin_rem ne9, hkm]
    rw [X_eq f23_1.eq_1]
    simp only [go_sem, Nat.reduceLT, Nat.reduceEqDiff, reduceCtorEq, Int.reduceLT, Int.reduceEq, a1]
    rw [X_eq f23_2.eq_1]
    simp only [go_sem, Nat.reduceLT, Nat.reduceEqDiff, reduceCtorEq, Int.reduceLT, Int.reduceEq, a1]
    refine armF_x (I _ ?_ ?_ ?_ ?_ ?_ ?_) (fun s' g' o => ?_)
    · simp only [slot_len, a1]
    · simp only [go_sem, Nat.reduceLT, Nat.reduceEqDiff, reduceCtorEq, Int.reduceLT, Int.reduceEq, a0]
    · simp only [go_sem, Nat.reduceLT, Nat.reduceEqDiff, reduceCtorEq, Int.reduceLT, Int.reduceEq, a4]
    · simp only [go_sem, Nat.reduceLT, Nat.reduceEqDiff, reduceCtorEq, Int.reduceLT, Int.reduceEq, a5]
    · simp only [go_sem, Nat.reduceLT, Nat.reduceEqDiff, reduceCtorEq, Int.reduceLT, Int.reduceEq, a6]
    · simp only [go_sem, Nat.reduceLT, Nat.reduceEqDiff, reduceCtorEq, Int.reduceLT, Int.reduceEq, a8]
    simp only [go_sem, Nat.reduceLT, Nat.reduceEqDiff, reduceCtorEq, Int.reduceLT, Int.reduceEq]
    exact fin s' g' o
  · simp only [go_sem, Nat.reduceLT, Nat.reduceEqDiff, reduceCtorEq, Int.reduceLT, Int.reduceEq, a1, a5, m0, bin_rem ne9, hkm]
    rw [X_eq f23_1.eq_1]
    simp only [go_sem, Nat.reduceLT, Nat.reduceEqDiff, reduceCtorEq, Int.reduceLT, Int.reduceEq, a1]
    rw [X_eq f23_2.eq_1]
    simp only [go_sem, Nat.reduceLT, Nat.reduceEqDiff, reduceCtorEq, Int.reduceLT, Int.reduceEq, a1]
    refine armF_x (I _ ?_ ?_ ?_ ?_ ?_ ?_) (fun s' g' o => ?_)
    · simp only [slot_len, a1]
    · simp only [go_sem, Nat.reduceLT, Nat.reduceEqDiff, reduceCtorEq, Int.reduceLT, Int.reduceEq, a0]
    · simp only [go_sem, Nat.reduceLT, Nat.reduceEqDiff, reduceCtorEq, Int.reduceLT, Int.reduceEq, a4]
    · simp only [go_sem, Nat.reduceLT, Nat.reduceEqDiff, reduceCtorEq, Int.reduceLT, Int.reduceEq, a5]
    · simp only [go_sem, Nat.reduceLT, Nat.reduceEqDiff, reduceCtorEq, Int.reduceLT, Int.reduceEq, a6]
    · simp only [go_sem, Nat.reduceLT, Nat.reduceEqDiff, reduceCtorEq, Int.reduceLT, Int.reduceEq, a8]
    simp only [go_sem, Nat.reduceLT, Nat.reduceEqDiff, reduceCtorEq, Int.reduceLT, Int.reduceEq]
    exact fin s' g' o
  · simp only [go_sem, Nat.reduceLT, Nat.reduceEqDiff, reduceCtorEq, Int.reduceLT, Int.reduceEq, a1, a5, m0, bin_rem ne9, hkm]
    rw [X_eq f23_1.eq_1]
    simp only [go_sem, Nat.reduceLT, Nat.reduceEqDiff, reduceCtorEq, Int.reduceLT, Int.reduceEq, a1]
    rw [X_eq f23_2.eq_1]
    simp only [go_sem, Nat.reduceLT, Nat.reduceEqDiff, reduceCtorEq, Int.reduceLT, Int.reduceEq, a1]
    refine armC_x (I _ ?_ ?_ ?_ ?_ ?_ ?_) (fun s' g' o => ?_)
    · simp only [slot_len, a1]
    · simp only [go_sem, Nat.reduceLT, Nat.reduceEqDiff, reduceCtorEq, Int.reduceLT, Int.reduceEq, a0]
    · simp only [go_sem, Nat.reduceLT, Nat.reduceEqDiff, reduceCtorEq, Int.reduceLT, Int.reduceEq, a4]
    · simp only [go_sem, Nat.reduceLT, Nat.reduceEqDiff, reduceCtorEq, Int.reduceLT, Int.reduceEq, a5]
    · simp only [go_sem, Nat.reduceLT, Nat.reduceEqDiff, reduceCtorEq, Int.reduceLT, Int.reduceEq, a6]
    · simp only [go_sem, Nat.reduceLT, Nat.reduceEqDiff, reduceCtorEq, Int.reduceLT, Int.reduceEq, a8]
    simp only [go_sem, Nat.reduceLT, Nat.reduceEqDiff, reduceCtorEq, Int.reduceLT, Int.reduceEq]
    exact fin s' g' o
  · simp only [go_sem, Nat.reduceLT, Nat.reduceEqDiff, reduceCtorEq, Int.reduceLT, Int.reduceEq, a1, a5, m0, bin_rem ne9, hkm]
    rw [X_eq f23_1.eq_1]
    simp only [go_sem, Nat.reduceLT, Nat.reduceEqDiff, reduceCtorEq, Int.reduceLT, Int.reduceEq, a1]
    rw [X_eq f23_2.eq_1]
    simp only [go_sem, Nat.reduceLT, Nat.reduceEqDiff, reduceCtorEq, Int.reduceLT, Int.reduceEq, a1]
    refine armU_x (I _ ?_ ?_ ?_ ?_ ?_ ?_) (fun s' g' o => ?_)
    · simp only [slot_len, a1]
    · simp only [go_sem, Nat.reduceLT, Nat.reduceEqDiff, reduceCtorEq, Int.reduceLT, Int.reduceEq, a0]
    · simp only [go_sem, Nat.reduceLT, Nat.reduceEqDiff, reduceCtorEq, Int.reduceLT, Int.reduceEq, a4]
    · simp only [go_sem, Nat.reduceLT, Nat.reduceEqDiff, reduceCtorEq, Int.reduceLT, Int.reduceEq, a5]
    · simp only [go_sem, Nat.reduceLT, Nat.reduceEqDiff, reduceCtorEq, Int.reduceLT, Int.reduceEq, a6]
    · simp only [go_sem, Nat.reduceLT, Nat.reduceEqDiff, reduceCtorEq, Int.reduceLT, Int.reduceEq, a8]
    simp only [go_sem, Nat.reduceLT, Nat.reduceEqDiff, reduceCtorEq, Int.reduceLT, Int.reduceEq]
    exact fin s' g' o
  · simp only [go_sem, Nat.reduceLT, Nat.reduceEqDiff, reduceCtorEq, Int.reduceLT, Int.reduceEq, a1, a5, m0, bin_rem ne9, hkm]
    rw [X_eq f23_1.eq_1]
    simp only [go_sem, Nat.reduceLT, Nat.reduceEqDiff, reduceCtorEq, Int.reduceLT, Int.reduceEq, a1]
    rw [X_eq f23_2.eq_1]
    simp only [go_sem, Nat.reduceLT, Nat.reduceEqDiff, reduceCtorEq, Int.reduceLT, Int.reduceEq, a1]
    refine armS_x (I _ ?_ ?_ ?_ ?_ ?_ ?_) (fun s' g' o => ?_)
    · simp only [slot_len, a1]
    · simp only [go_sem, Nat.reduceLT, Nat.reduceEqDiff, reduceCtorEq, Int.reduceLT, Int.reduceEq, a0]
    · simp only [go_sem, Nat.reduceLT, Nat.reduceEqDiff, reduceCtorEq, Int.reduceLT, Int.reduceEq, a4]
    · simp only [go_sem, Nat.reduceLT, Nat.reduceEqDiff, reduceCtorEq, Int.reduceLT, Int.reduceEq, a5]
    · simp only [go_sem, Nat.reduceLT, Nat.reduceEqDiff, reduceCtorEq, Int.reduceLT, Int.reduceEq, a6]
    · simp only [go_sem, Nat.reduceLT, Nat.reduceEqDiff, reduceCtorEq, Int.reduceLT, Int.reduceEq, a8]
    simp only [go_sem, Nat.reduceLT, Nat.reduceEqDiff, reduceCtorEq, Int.reduceLT, Int.reduceEq]
    exact fin s' g' o
  · simp only [go_sem, Nat.reduceLT, Nat.reduceEqDiff, reduceCtorEq, Int.reduceLT, Int.reduceEq, a1, a5, m0, bin_rem ne9, hkm]
    rw [X_eq f23_1.eq_1]
    simp only [go_sem, Nat.reduceLT, Nat.reduceEqDiff, reduceCtorEq, Int.reduceLT, Int.reduceEq, a1]
    rw [X_eq f23_2.eq_1]
    simp only [go_sem, Nat.reduceLT, Nat.reduceEqDiff, reduceCtorEq, Int.reduceLT, Int.reduceEq, a1]
    refine armR_x (I _ ?_ ?_ ?_ ?_ ?_ ?_) (fun s' g' o => ?_)
    · simp only [slot_len, a1]
    · simp only [go_sem, Nat.reduceLT, Nat.reduceEqDiff, reduceCtorEq, Int.reduceLT, Int.reduceEq, a0]
    · simp only [go_sem, Nat.reduceLT, Nat.reduceEqDiff, reduceCtorEq, Int.reduceLT, Int.reduceEq, a4]
    · simp only [go_sem, Nat.reduceLT, Nat.reduceEqDiff, reduceCtorEq, Int.reduceLT, Int.reduceEq, a5]
    · simp only [go_sem, Nat.reduceLT, Nat.reduceEqDiff, reduceCtorEq, Int.reduceLT, Int.reduceEq, a6]
    · simp only [go_sem, Nat.reduceLT, Nat.reduceEqDiff, reduceCtorEq, Int.reduceLT, Int.reduceEq, a8]
    exact fin s' g' o
end Go.V04

set_option linter.unusedSimpArgs false
set_option linter.unusedVariables false
namespace Go.V04
open Go Go.Vm

theorem ld_r5 {h : Heap} {e : List CV} (he : e.length = 5) : ldO h true 5 (.rptr e) = some (.agg (e.map .cv), h) := by
  have : e.take 5 = e := List.take_of_length_le (by omega)
  simp [ldO, stepI, rhoO, ldCells, this, he]
theorem DeedC.len {e : List CV} {x : Deed} (h : DeedC e x) : e.length = 5 := by
  obtain ⟨cB, cK, rfl, _⟩ := h; rfl

/-- The document's device in a box, beside the program's. -/
structure Pair (g : Heap) (p a : Nat) (f l : Option Nat) (d : D) (k : Nat) : Prop where
  dev : DevAt g p f l d
  ok : d.OK
  t : ∃ S L w ff fu le, g[a]? = some (.box (tC S L w ff fu le) false) ∧ TIs d S L w ff fu le
  bw : d.w ≤ k
  bf : d.f ≤ k
  bl : d.loose.length ≤ k

/-- A deed's region: both devices make a step. -/
theorem pair_draw {g : Heap} {p a : Nat} {f l : Option Nat} {d : D} {k n : Nat} (hk : k ≤ 140) (P : Pair g p a f l d k) (hap : a ≠ p) {els : List (List CV)} {L : List Deed} {u : VV} (hS : SlV 5 els u) (hE : DeedsC els L) {i : Nat} (hi : i < L.length)
    {tp ta tu ti t38 t39 t40 t41 t42 t43 t44 t37 t45 t46 t9 t10 : Nat} {s : List VV} {Q : Pst} (hs : s.length = n) (hp : s.getD tp .undef = .ptr p 0) (ha : s.getD ta .undef = .ptr a 0) (hu : s.getD tu .undef = u) (hi' : s.getD ti .undef = vi .i64 i)
    (hn1 : t38 < n ∧ t39 < n ∧ t40 < n ∧ t41 < n ∧ t42 < n ∧ t43 < n ∧ t44 < n ∧ t37 < n ∧ t45 < n ∧ t46 < n ∧ t9 < n ∧ t10 < n)
    (hne : t38 < t39 ∧ t39 < t40 ∧ t40 < t41 ∧ t41 < t42 ∧ t42 < t43 ∧ t43 < t44 ∧ t44 < t45 ∧ t45 < t46 ∧ t37 < t38 ∧ tp < t37 ∧ ta < t37 ∧ tu < t37 ∧ ti < t37 ∧ t9 < t37 ∧ t10 < t37 ∧ t9 ≠ t10)
    (hQ : ∀ s' g' d' l', s'.length = n → (∀ j, j < t37 → j ≠ t9 → j ≠ t10 → s'.getD j .undef = s.getD j .undef) → s'.getD t10 .undef = vb true →
      ∀ b S L w ff fu le, s'.getD t9 .undef = .ptr b 0 → g.length ≤ b → g'[b]? = some (.box (tC S L w ff fu le) false) → Moved g g' p f l l' d' → d'.OK → TIs d' S L w ff fu le → d'.w ≤ k + 1 → d'.f ≤ k + 1 → d'.loose.length ≤ k + 1 → Q .norm ⟨s', g'⟩) :
    X F (.draw [(⟨none, some t38, .mv (.t tp)⟩, .p), (⟨none, some t39, .ld true 6 (.t ta)⟩, .r 0 1), (⟨none, some t40, .mv (.t tu)⟩, .p), (⟨none, some t41, .mv (.t ti)⟩, .p), (⟨none, some t42, .iadL 5 (.t t40) (.t t41)⟩, .r 0 1),
      (⟨none, some t43, .ld true 5 (.t t42)⟩, .r 0 1), (⟨none, some t44, .call 23 false [.t t38, .t t39, .t t43]⟩, .k), (⟨none, some t37, .mv (.t t44)⟩, .p), (⟨none, some t45, .ext (.t t37) 0⟩, .p), (⟨none, some t46, .ext (.t t37) 1⟩, .p),
      (⟨none, some t9, .alloc z6⟩, .k), (⟨none, none, .st 6 (.t t9) (.t t45)⟩, .k), (⟨none, some t10, .mv (.t t46)⟩, .p)]) ⟨s, g⟩ Q := by
  obtain ⟨S, Lc, w, ff, fu, le, ga, T⟩ := P.t
  obtain ⟨e, he, hx⟩ := hE.2 i L[i] (List.getElem?_eq_getElem hi)
  have bw := P.bw
  have bf := P.bf
  have bl := P.bl
  obtain ⟨v, g1, n1, d', l', S', L', w', f', fu', le', rfl, M, O', T', b1, b2, b3⟩ := step_f23 P.dev P.ok T (by omega) (by omega) (by omega) hx
  have q1 := Kept.box P.dev M.kept ga hap
  obtain ⟨y38, y39, y40, y41, y42, y43, y44, y37, y45, y46, y9, y10⟩ := hn1
  obtain ⟨z1, z2, z3, z4, z5, z6_, z7, z8, z9, z10, z11, z12, z13, z14, z15, z16⟩ := hne
  refine X_draw_P (n := 6) (o1 := ⟨none, some t44, .call 23 false [.t t38, .t t39, .t t43]⟩) (fun h1 => h1[a]? = some (.box (tC S Lc w ff fu le) false))
    (fun s' => s'.length = n ∧ s'.getD t38 .undef = .ptr p 0 ∧ s'.getD t39 .undef = .agg (tC S Lc w ff fu le) ∧ s'.getD t43 .undef = .agg (e.map .cv) ∧ ∀ j, j < t37 → s'.getD j .undef = s.getD j .undef)
    rfl ga rfl rfl ?_ ?_
  · simp only [List.take_succ_cons, List.take_zero]
    refine XDP_of (v := .ptr p 0) rfl (fun _ _ => by simp only [stepI, evalO_t, hp]) ?_
    refine XDP_of (v := .agg (tC S Lc w ff fu le)) rfl (fun h1 hh => ?_) ?_
    · rw [st_ld', evalO_t, putD_some, slot_ne (by omega), ha]; exact (ld6 hh).2.2.2.2.2.2
    refine XDP_of (v := u) rfl (fun _ _ => by simp only [stepI, evalO_t, putD_some]; rw [slot_ne (by omega), slot_ne (by omega), hu]) ?_
    refine XDP_of (v := vi .i64 i) rfl (fun _ _ => by simp only [stepI, evalO_t, putD_some]; rw [slot_ne (by omega), slot_ne (by omega), slot_ne (by omega), hi']) ?_
    refine XDP_of (v := .rptr e) rfl (fun h1 hh => ?_) ?_
    · show iaO h1 5 (evalO _ (.t t40)) (evalO _ (.t t41)) = _
      simp only [evalO_t, putD_some]
      rw [slot_ne (by omega), slot_eq (by simp only [slot_len]; omega), slot_eq (by simp only [slot_len]; omega)]
      exact hS.ia (k := .i64) (j := (i : Int)) (by omega) he
    refine XDP_of (v := .agg (e.map .cv)) rfl (fun h1 hh => ?_) ?_
    · rw [st_ld', evalO_t, putD_some, slot_eq (by simp only [putD_some, slot_len]; omega)]
      exact ld_r5 hx.len
    simp only [XDP, putD_some]
    refine ⟨by simp only [slot_len, hs], ?_, ?_, ?_, fun j hj => ?_⟩
    · rw [slot_ne (by omega), slot_ne (by omega), slot_ne (by omega), slot_ne (by omega), slot_ne (by omega), slot_eq (by omega)]
    · rw [slot_ne (by omega), slot_ne (by omega), slot_ne (by omega), slot_ne (by omega), slot_eq (by simp only [slot_len]; omega)]
    · rw [slot_eq (by simp only [slot_len]; omega)]
    · rw [slot_ne (by omega), slot_ne (by omega), slot_ne (by omega), slot_ne (by omega), slot_ne (by omega), slot_ne (by omega)]
  · rintro s' ⟨a1, a38, a39, a43, ao⟩
    refine ⟨_, g1, rfl, stepO_callR (by simp only [List.map, evalO_t, a38, a39, a43]; exact n1), q1, ?_⟩
    simp only [List.drop_succ_cons, List.drop_zero]
    have g9 : (g1 ++ [VO.box z6 false])[g1.length]? = some (.box z6 false) := at_last
    have hlen := M.kept.len
    simp (disch := first | omega | (simp only [slot_len]; omega)) only [go_sem, Nat.reduceLT, Nat.reduceEqDiff, reduceCtorEq, Int.reduceLT, Int.reduceEq, a1, sta6 g9, set_last']
    refine hQ _ _ d' l' (by simp only [slot_len, a1]) (fun j h1 h2 h3 => ?_) ?_ g1.length S' L' w' f' fu' le' ?_ hlen at_last (M.push _) O' T' (by omega) (by omega) (by omega)
    · simp (disch := first | omega | (simp only [slot_len]; omega)) only [slot_ne]
      exact ao j h1
    · simp (disch := first | omega | (simp only [slot_len]; omega)) only [slot_ne, slot_eq]
    · simp (disch := first | omega | (simp only [slot_len]; omega)) only [slot_ne, slot_eq]
end Go.V04

set_option linter.unusedSimpArgs false
set_option linter.unusedVariables false
namespace Go.V04
open Go Go.Vm

theorem f8_loop {p a : Nat} {f : Option Nat} (hap : a ≠ p) {els : List (List CV)} {L : List Deed} {u : VV} (hS : SlV 5 els u) (hE : DeedsC els L) (hn : L.length ≤ 60) :
    ∀ (r k : Nat) (s : List VV) (g : Heap) (l : Option Nat) (d : D) (Q : Pst), k + r = L.length → s.length = 59 → s.getD 1 .undef = u → s.getD 5 .undef = .ptr p 0 → s.getD 6 .undef = .ptr a 0 → s.getD 8 .undef = vi .i64 k → Pair g p a f l d k →
      (∀ s' g' l' d', s'.length = 59 → s'.getD 5 .undef = .ptr p 0 → s'.getD 6 .undef = .ptr a 0 → Pair g' p a f l' d' L.length → Q (.exit 0) ⟨s', g'⟩) → X F (.loop f8_2) ⟨s, g⟩ Q := by
  have hE1 := hE.1
  intro r
  induction r with
  | zero =>
    intro k s g l d Q hk hs a1 a5 a6 a8 P hQ
    rw [X_loop, X_eq f8_2.eq_1]
    have c : ¬ (k : Int) < (els.length : Int) := by omega
    simp only [go_sem, Nat.reduceLT, Nat.reduceEqDiff, reduceCtorEq, Int.reduceLT, Int.reduceEq, hs, a1, a8, hS.ln, c]
    refine hQ _ _ l d (by simp only [slot_len, hs]) (by simp only [go_sem, Nat.reduceLT, Nat.reduceEqDiff, reduceCtorEq, Int.reduceLT, Int.reduceEq, a5]) (by simp only [go_sem, Nat.reduceLT, Nat.reduceEqDiff, reduceCtorEq, Int.reduceLT, Int.reduceEq, a6]) ?_
    have : k = L.length := by omega
    rw [← this]; exact P
  | succ r ih =>
    intro k s g l d Q hk hs a1 a5 a6 a8 P hQ
    rw [X_loop, X_eq f8_2.eq_1]
    have c : (k : Int) < (els.length : Int) := by omega
    have hw : IntKind.i64.wrap ((k : Int) + 1) = ((k + 1 : Nat) : Int) := by rw [IntWalk.i64_in _ (by omega)]; omega
    simp only [go_sem, Nat.reduceLT, Nat.reduceEqDiff, reduceCtorEq, Int.reduceLT, Int.reduceEq, hs, a1, a8, hS.ln, c]
    refine pair_draw (n := 59) (by omega) P hap hS hE (by omega : k < L.length) (by simp only [slot_len, hs]) (by simp only [go_sem, Nat.reduceLT, Nat.reduceEqDiff, reduceCtorEq, Int.reduceLT, Int.reduceEq, a5]) (by simp only [go_sem, Nat.reduceLT, Nat.reduceEqDiff, reduceCtorEq, Int.reduceLT, Int.reduceEq, a6]) (by simp only [go_sem, Nat.reduceLT, Nat.reduceEqDiff, reduceCtorEq, Int.reduceLT, Int.reduceEq, a1]) (by simp only [go_sem, Nat.reduceLT, Nat.reduceEqDiff, reduceCtorEq, Int.reduceLT, Int.reduceEq, a8]) (by decide) (by decide) ?_
    intro s' g' d' l' b1 bo b10 b S' L' w' f' fu' le' b9 hb gb M O' T' w1 w2 w3
    have b1' : s'.getD 1 .undef = u := by rw [bo 1 (by decide) (by decide) (by decide)]; simp only [go_sem, Nat.reduceLT, Nat.reduceEqDiff, reduceCtorEq, Int.reduceLT, Int.reduceEq, a1]
    have b5' : s'.getD 5 .undef = .ptr p 0 := by rw [bo 5 (by decide) (by decide) (by decide)]; simp only [go_sem, Nat.reduceLT, Nat.reduceEqDiff, reduceCtorEq, Int.reduceLT, Int.reduceEq, a5]
    have b6' : s'.getD 6 .undef = .ptr a 0 := by rw [bo 6 (by decide) (by decide) (by decide)]; simp only [go_sem, Nat.reduceLT, Nat.reduceEqDiff, reduceCtorEq, Int.reduceLT, Int.reduceEq, a6]
    have b8' : s'.getD 8 .undef = vi .i64 k := by rw [bo 8 (by decide) (by decide) (by decide)]; simp only [go_sem, Nat.reduceLT, Nat.reduceEqDiff, reduceCtorEq, Int.reduceLT, Int.reduceEq, a8]
    obtain ⟨S, Lc, w, ff, fu, le, ga, T⟩ := P.t
    have ga' := Kept.box P.dev M.kept ga hap
    have hlt := lt_of_get ga
    obtain ⟨_, _, _, _, _, _, k6⟩ := ld6 gb
    have e6 := sta6 ga' (a' := .cv S') (b' := .cv L') (c' := vi .i64 w') (d' := vi .i64 f') (e' := vb fu') (f' := vi .i64 le')
    have D2 := M.dev.setBox ga' hap (.box (tC S' L' w' f' fu' le') false)
    have q2 : (g'.set a (.box (tC S' L' w' f' fu' le') false))[a]? = some (.box (tC S' L' w' f' fu' le') false) := by rw [List.getElem?_set_self (lt_of_get ga')]
    generalize g'.set a (.box (tC S' L' w' f' fu' le') false) = g2 at e6 D2 q2
    obtain ⟨h3, n3, x3⟩ := same_f24 D2 O' T'
    obtain ⟨_, _, _, _, _, _, m6⟩ := ld6 q2
    simp only [go_sem, Nat.reduceLT, Nat.reduceEqDiff, reduceCtorEq, Int.reduceLT, Int.reduceEq, b1, b9, b6', k6, e6, b10, b5', m6]
    refine XO_callR (by simp only [List.map, go_sem, Nat.reduceLT, Nat.reduceEqDiff, reduceCtorEq, Int.reduceLT, Int.reduceEq, b1]; exact n3) ?_
    simp only [go_sem, Nat.reduceLT, Nat.reduceEqDiff, reduceCtorEq, Int.reduceLT, Int.reduceEq, b1, b8', hw]
    exact ih (k + 1) _ h3 l' d' Q (by omega) (by simp only [slot_len, b1]) (by simp only [go_sem, Nat.reduceLT, Nat.reduceEqDiff, reduceCtorEq, Int.reduceLT, Int.reduceEq, b1']) (by simp only [go_sem, Nat.reduceLT, Nat.reduceEqDiff, reduceCtorEq, Int.reduceLT, Int.reduceEq, b5']) (by simp only [go_sem, Nat.reduceLT, Nat.reduceEqDiff, reduceCtorEq, Int.reduceLT, Int.reduceEq, b6']) (by simp only [go_sem, Nat.reduceLT, Nat.reduceEqDiff, reduceCtorEq, Int.reduceLT, Int.reduceEq, b1]) ⟨D2.ext x3, O', ⟨S', L', w', f', fu', le', x3.get q2, T'⟩, w1, w2, w3⟩ hQ

theorem f9_loop1 {p a : Nat} {f : Option Nat} (hap : a ≠ p) {els : List (List CV)} {L : List Deed} {u : VV} (hS : SlV 5 els u) (hE : DeedsC els L) (hn : L.length ≤ 60) :
    ∀ (r k : Nat) (s : List VV) (g : Heap) (l : Option Nat) (d : D) (Q : Pst), k + r = L.length → s.length = 88 → s.getD 1 .undef = u → s.getD 7 .undef = .ptr p 0 → s.getD 8 .undef = .ptr a 0 → s.getD 10 .undef = vi .i64 k → Pair g p a f l d k →
      (∀ s' g' l' d', s'.length = 88 → s'.getD 2 .undef = s.getD 2 .undef → s'.getD 7 .undef = .ptr p 0 → s'.getD 8 .undef = .ptr a 0 → Pair g' p a f l' d' L.length → Q (.exit 0) ⟨s', g'⟩) → X F (.loop f9_2) ⟨s, g⟩ Q := by
  have hE1 := hE.1
  intro r
  induction r with
  | zero =>
    intro k s g l d Q hk hs a1 a5 a6 a8 P hQ
    rw [X_loop, X_eq f9_2.eq_1]
    have c : ¬ (k : Int) < (els.length : Int) := by omega
    simp only [go_sem, Nat.reduceLT, Nat.reduceEqDiff, reduceCtorEq, Int.reduceLT, Int.reduceEq, hs, a1, a8, hS.ln, c]
    refine hQ _ _ l d (by simp only [slot_len, hs]) (by simp only [go_sem, Nat.reduceLT, Nat.reduceEqDiff, reduceCtorEq, Int.reduceLT, Int.reduceEq]) (by simp only [go_sem, Nat.reduceLT, Nat.reduceEqDiff, reduceCtorEq, Int.reduceLT, Int.reduceEq, a5]) (by simp only [go_sem, Nat.reduceLT, Nat.reduceEqDiff, reduceCtorEq, Int.reduceLT, Int.reduceEq, a6]) ?_
    have : k = L.length := by omega
    rw [← this]; exact P
  | succ r ih =>
    intro k s g l d Q hk hs a1 a5 a6 a8 P hQ
    rw [X_loop, X_eq f9_2.eq_1]
    have c : (k : Int) < (els.length : Int) := by omega
    have hw : IntKind.i64.wrap ((k : Int) + 1) = ((k + 1 : Nat) : Int) := by rw [IntWalk.i64_in _ (by omega)]; omega
    simp only [go_sem, Nat.reduceLT, Nat.reduceEqDiff, reduceCtorEq, Int.reduceLT, Int.reduceEq, hs, a1, a8, hS.ln, c]
    refine pair_draw (n := 88) (by omega) P hap hS hE (by omega : k < L.length) (by simp only [slot_len, hs]) (by simp only [go_sem, Nat.reduceLT, Nat.reduceEqDiff, reduceCtorEq, Int.reduceLT, Int.reduceEq, a5]) (by simp only [go_sem, Nat.reduceLT, Nat.reduceEqDiff, reduceCtorEq, Int.reduceLT, Int.reduceEq, a6]) (by simp only [go_sem, Nat.reduceLT, Nat.reduceEqDiff, reduceCtorEq, Int.reduceLT, Int.reduceEq, a1]) (by simp only [go_sem, Nat.reduceLT, Nat.reduceEqDiff, reduceCtorEq, Int.reduceLT, Int.reduceEq, a8]) (by decide) (by decide) ?_
    intro s' g' d' l' b1 bo b10 b S' L' w' f' fu' le' b9 hb gb M O' T' w1 w2 w3
    have b1' : s'.getD 1 .undef = u := by rw [bo 1 (by decide) (by decide) (by decide)]; simp only [go_sem, Nat.reduceLT, Nat.reduceEqDiff, reduceCtorEq, Int.reduceLT, Int.reduceEq, a1]
    have b2' : s'.getD 2 .undef = s.getD 2 .undef := by rw [bo 2 (by decide) (by decide) (by decide)]; simp only [go_sem, Nat.reduceLT, Nat.reduceEqDiff, reduceCtorEq, Int.reduceLT, Int.reduceEq]
    have b5' : s'.getD 7 .undef = .ptr p 0 := by rw [bo 7 (by decide) (by decide) (by decide)]; simp only [go_sem, Nat.reduceLT, Nat.reduceEqDiff, reduceCtorEq, Int.reduceLT, Int.reduceEq, a5]
    have b6' : s'.getD 8 .undef = .ptr a 0 := by rw [bo 8 (by decide) (by decide) (by decide)]; simp only [go_sem, Nat.reduceLT, Nat.reduceEqDiff, reduceCtorEq, Int.reduceLT, Int.reduceEq, a6]
    have b8' : s'.getD 10 .undef = vi .i64 k := by rw [bo 10 (by decide) (by decide) (by decide)]; simp only [go_sem, Nat.reduceLT, Nat.reduceEqDiff, reduceCtorEq, Int.reduceLT, Int.reduceEq, a8]
    obtain ⟨S, Lc, w, ff, fu, le, ga, T⟩ := P.t
    have ga' := Kept.box P.dev M.kept ga hap
    obtain ⟨_, _, _, _, _, _, k6⟩ := ld6 gb
    have e6 := sta6 ga' (a' := .cv S') (b' := .cv L') (c' := vi .i64 w') (d' := vi .i64 f') (e' := vb fu') (f' := vi .i64 le')
    have D2 := M.dev.setBox ga' hap (.box (tC S' L' w' f' fu' le') false)
    have q2 : (g'.set a (.box (tC S' L' w' f' fu' le') false))[a]? = some (.box (tC S' L' w' f' fu' le') false) := by rw [List.getElem?_set_self (lt_of_get ga')]
    generalize g'.set a (.box (tC S' L' w' f' fu' le') false) = g2 at e6 D2 q2
    simp only [go_sem, Nat.reduceLT, Nat.reduceEqDiff, reduceCtorEq, Int.reduceLT, Int.reduceEq, b1, b9, b6', k6, e6, b8', hw]
    exact ih (k + 1) _ g2 l' d' Q (by omega) (by simp only [slot_len, b1]) (by simp only [go_sem, Nat.reduceLT, Nat.reduceEqDiff, reduceCtorEq, Int.reduceLT, Int.reduceEq, b1']) (by simp only [go_sem, Nat.reduceLT, Nat.reduceEqDiff, reduceCtorEq, Int.reduceLT, Int.reduceEq, b5']) (by simp only [go_sem, Nat.reduceLT, Nat.reduceEqDiff, reduceCtorEq, Int.reduceLT, Int.reduceEq, b6']) (by simp only [go_sem, Nat.reduceLT, Nat.reduceEqDiff, reduceCtorEq, Int.reduceLT, Int.reduceEq, b1]) ⟨D2, O', ⟨S', L', w', f', fu', le', q2, T'⟩, w1, w2, w3⟩ (fun s' g' l' d' c1 c2 => hQ s' g' l' d' c1 (by rw [c2]; simp only [go_sem, Nat.reduceLT, Nat.reduceEqDiff, reduceCtorEq, Int.reduceLT, Int.reduceEq, b2']))

theorem Two.setBox {h : Heap} {p1 p2 : Nat} {f1 l1 f2 l2 : Option Nat} {d1 d2 : D} (t : Two h p1 f1 l1 d1 p2 f2 l2 d2) {i : Nat} {cells : List VV} {fr : Bool} (hi : h[i]? = some (.box cells fr)) (h1 : i ≠ p1) (h2 : i ≠ p2) (o : VO) : Two (h.set i o) p1 f1 l1 d1 p2 f2 l2 d2 :=
  ⟨t.a.setBox hi h1 o, t.b.setBox hi h2 o, t.p, t.f, t.l⟩

theorem f9_loop2 {p a pc ac : Nat} {f fc l : Option Nat} {d : D} (hac : ac ≠ pc) (hacp : ac ≠ p) (haa : a ≠ ac) (hapc : a ≠ pc) {ob : VO} {cells : List VV} (hob : ob = .box cells false) {els : List (List CV)} {L : List Deed} {u : VV} (hS : SlV 5 els u) (hE : DeedsC els L) (hn : L.length ≤ 60) (k0 : Nat) :
    ∀ (r k : Nat) (s : List VV) (g : Heap) (lc : Option Nat) (dc : D) (Q : Pst), k + r = L.length → k0 + L.length ≤ 120 → s.length = 88 → s.getD 2 .undef = u → s.getD 13 .undef = .ptr pc 0 → s.getD 14 .undef = .ptr ac 0 → s.getD 15 .undef = vi .i64 k → Pair g pc ac fc lc dc (k0 + k) → Two g pc fc lc dc p f l d → g[a]? = some ob →
      (∀ s' g' lc' dc', s'.length = 88 → s'.getD 7 .undef = s.getD 7 .undef → s'.getD 8 .undef = s.getD 8 .undef → s'.getD 13 .undef = .ptr pc 0 → s'.getD 14 .undef = .ptr ac 0 → Pair g' pc ac fc lc' dc' (k0 + L.length) → Two g' pc fc lc' dc' p f l d → g'[a]? = some ob → Q (.exit 2) ⟨s', g'⟩) → X F (.loop f9_4) ⟨s, g⟩ Q := by
  have hE1 := hE.1
  intro r
  induction r with
  | zero =>
    intro k s g lc dc Q hk hk0 hs a1 a5 a6 a8 P W hA hQ
    rw [X_loop, X_eq f9_4.eq_1]
    have c : ¬ (k : Int) < (els.length : Int) := by omega
    simp only [go_sem, Nat.reduceLT, Nat.reduceEqDiff, reduceCtorEq, Int.reduceLT, Int.reduceEq, hs, a1, a8, hS.ln, c]
    have : k = L.length := by omega
    rw [this] at P
    exact hQ _ _ lc dc (by simp only [slot_len, hs]) (by simp only [go_sem, Nat.reduceLT, Nat.reduceEqDiff, reduceCtorEq, Int.reduceLT, Int.reduceEq]) (by simp only [go_sem, Nat.reduceLT, Nat.reduceEqDiff, reduceCtorEq, Int.reduceLT, Int.reduceEq]) (by simp only [go_sem, Nat.reduceLT, Nat.reduceEqDiff, reduceCtorEq, Int.reduceLT, Int.reduceEq, a5]) (by simp only [go_sem, Nat.reduceLT, Nat.reduceEqDiff, reduceCtorEq, Int.reduceLT, Int.reduceEq, a6]) P W hA
  | succ r ih =>
    intro k s g lc dc Q hk hk0 hs a1 a5 a6 a8 P W hA hQ
    rw [X_loop, X_eq f9_4.eq_1]
    have c : (k : Int) < (els.length : Int) := by omega
    have hw : IntKind.i64.wrap ((k : Int) + 1) = ((k + 1 : Nat) : Int) := by rw [IntWalk.i64_in _ (by omega)]; omega
    simp only [go_sem, Nat.reduceLT, Nat.reduceEqDiff, reduceCtorEq, Int.reduceLT, Int.reduceEq, hs, a1, a8, hS.ln, c]
    refine pair_draw (n := 88) (by omega) P hac hS hE (by omega : k < L.length) (by simp only [slot_len, hs]) (by simp only [go_sem, Nat.reduceLT, Nat.reduceEqDiff, reduceCtorEq, Int.reduceLT, Int.reduceEq, a5]) (by simp only [go_sem, Nat.reduceLT, Nat.reduceEqDiff, reduceCtorEq, Int.reduceLT, Int.reduceEq, a6]) (by simp only [go_sem, Nat.reduceLT, Nat.reduceEqDiff, reduceCtorEq, Int.reduceLT, Int.reduceEq, a1]) (by simp only [go_sem, Nat.reduceLT, Nat.reduceEqDiff, reduceCtorEq, Int.reduceLT, Int.reduceEq, a8]) (by decide) (by decide) ?_
    intro s' g' d' l' b1 bo b10 b S' L' w' f' fu' le' b9 hb gb M O' T' w1 w2 w3
    have b1' : s'.getD 2 .undef = u := by rw [bo 2 (by decide) (by decide) (by decide)]; simp only [go_sem, Nat.reduceLT, Nat.reduceEqDiff, reduceCtorEq, Int.reduceLT, Int.reduceEq, a1]
    have b5' : s'.getD 13 .undef = .ptr pc 0 := by rw [bo 13 (by decide) (by decide) (by decide)]; simp only [go_sem, Nat.reduceLT, Nat.reduceEqDiff, reduceCtorEq, Int.reduceLT, Int.reduceEq, a5]
    have b6' : s'.getD 14 .undef = .ptr ac 0 := by rw [bo 14 (by decide) (by decide) (by decide)]; simp only [go_sem, Nat.reduceLT, Nat.reduceEqDiff, reduceCtorEq, Int.reduceLT, Int.reduceEq, a6]
    have b8' : s'.getD 15 .undef = vi .i64 k := by rw [bo 15 (by decide) (by decide) (by decide)]; simp only [go_sem, Nat.reduceLT, Nat.reduceEqDiff, reduceCtorEq, Int.reduceLT, Int.reduceEq, a8]
    have b7' : s'.getD 7 .undef = s.getD 7 .undef := by rw [bo 7 (by decide) (by decide) (by decide)]; simp only [go_sem, Nat.reduceLT, Nat.reduceEqDiff, reduceCtorEq, Int.reduceLT, Int.reduceEq]
    have b88 : s'.getD 8 .undef = s.getD 8 .undef := by rw [bo 8 (by decide) (by decide) (by decide)]; simp only [go_sem, Nat.reduceLT, Nat.reduceEqDiff, reduceCtorEq, Int.reduceLT, Int.reduceEq]
    obtain ⟨S, Lc, w, ff, fu, le, ga, T⟩ := P.t
    have ga' := Kept.box P.dev M.kept ga hac
    have hA' : g'[a]? = some ob := by subst hob; exact Kept.box P.dev M.kept hA hapc
    have W' := W.step M
    obtain ⟨_, _, _, _, _, _, k6⟩ := ld6 gb
    have e6 := sta6 ga' (a' := .cv S') (b' := .cv L') (c' := vi .i64 w') (d' := vi .i64 f') (e' := vb fu') (f' := vi .i64 le')
    have D2 := M.dev.setBox ga' hac (.box (tC S' L' w' f' fu' le') false)
    have W2 := W'.setBox ga' hac hacp (.box (tC S' L' w' f' fu' le') false)
    have q2 : (g'.set ac (.box (tC S' L' w' f' fu' le') false))[ac]? = some (.box (tC S' L' w' f' fu' le') false) := by rw [List.getElem?_set_self (lt_of_get ga')]
    have hA2 : (g'.set ac (.box (tC S' L' w' f' fu' le') false))[a]? = some ob := by rw [List.getElem?_set_ne haa.symm]; exact hA'
    generalize g'.set ac (.box (tC S' L' w' f' fu' le') false) = g2 at e6 D2 W2 q2 hA2
    simp only [go_sem, Nat.reduceLT, Nat.reduceEqDiff, reduceCtorEq, Int.reduceLT, Int.reduceEq, b1, b9, b6', k6, e6, b8', hw]
    exact ih (k + 1) _ g2 l' d' Q (by omega) hk0 (by simp only [slot_len, b1]) (by simp only [go_sem, Nat.reduceLT, Nat.reduceEqDiff, reduceCtorEq, Int.reduceLT, Int.reduceEq, b1']) (by simp only [go_sem, Nat.reduceLT, Nat.reduceEqDiff, reduceCtorEq, Int.reduceLT, Int.reduceEq, b5']) (by simp only [go_sem, Nat.reduceLT, Nat.reduceEqDiff, reduceCtorEq, Int.reduceLT, Int.reduceEq, b6']) (by simp only [go_sem, Nat.reduceLT, Nat.reduceEqDiff, reduceCtorEq, Int.reduceLT, Int.reduceEq, b1]) ⟨D2, O', ⟨S', L', w', f', fu', le', q2, T'⟩, w1, w2, w3⟩ W2 hA2
      (fun s' g' l' d' c1 c7 c8 => hQ s' g' l' d' c1 (by rw [c7]; simp only [go_sem, Nat.reduceLT, Nat.reduceEqDiff, reduceCtorEq, Int.reduceLT, Int.reduceEq, b7']) (by rw [c8]; simp only [go_sem, Nat.reduceLT, Nat.reduceEqDiff, reduceCtorEq, Int.reduceLT, Int.reduceEq, b88]))

/-! ### Clone, Copy -/
theorem mk0 {h : Heap} {z : Nat} : mkO h z 0 [] [] = some (.cv (.sl z [] true), h) := rfl

theorem app_new {h : Heap} {z by_ : Nat} {zero : List CV} {x y : Opd} {s : List VV} {new : List (List CV)} (hx : evalO s x = .cv (.sl z [] true)) (hy : srcOf h z (evalO s y) = some new) (h1 : new.length * by_ ≤ 35184372088832) (h2 : new.length ≤ 35184372088832) :
    stepI h (evalO s) (.app z by_ zero x y) = some (if new = [] then (.cv (.sl z [] true), h) else (.own h.length 0 0 new.length false, h ++ [.arr z new 0 false])) := by
  have hm : maxBytes = 35184372088832 := rfl
  by_cases hne : new = []
  · subst hne
    simp [stepI, hx, hy, lenV, hm, elsOf]
  · simp [stepI, hx, hy, lenV, hm, elsOf, hne, h1, h2]
theorem FirmV.src {h : Heap} {els : List (List CV)} {v : VV} {f : Option Nat} (hF : FirmV h els v f) : srcOf h 64 v = some els := by
  rcases hF with ⟨id, g, ex, e1, rfl, h3⟩ | ⟨e1, rfl, ex, rfl⟩
  · simp [srcOf, elsOf, h3]
  · simp [srcOf, elsOf]
theorem FirmV.en {h : Heap} {els : List (List CV)} {v : VV} {f : Option Nat} (hF : FirmV h els v f) : enO .slice false v = some (vb false) := by
  rcases hF with ⟨id, g, ex, e1, rfl, h3⟩ | ⟨e1, rfl, ex, rfl⟩ <;> rfl

theorem clone_f39 {h : Heap} {els : List (List CV)} {v : VV} {f : Option Nat} (hF : FirmV h els v f) (hl : els.length ≤ 5000) : ∃ v' h' f', call F 39 [v] h = some (.ret v', h') ∧ FirmV h' els v' f' ∧ Ext h h' ∧ (∀ i, f' = some i → h.length ≤ i) ∧ isCell v' = true := by
  have : ∃ v' h', call F 39 [v] h = some (.ret v', h') ∧ (fun v' h' => ∃ f', FirmV h' els v' f' ∧ Ext h h' ∧ (∀ i, f' = some i → h.length ≤ i) ∧ isCell v' = true) v' h' := by
    refine call_E (fn := f39) rfl ?_
    simp only [f39]
    generalize hs0 : ([v] ++ List.replicate _ VV.undef : List VV) = s
    have hs : s.length = 8 := by rw [← hs0]; rfl
    have h0 : s.getD 0 .undef = v := by rw [← hs0]; rfl
    clear hs0
    simp only [go_sem, Nat.reduceLT, Nat.reduceEqDiff, reduceCtorEq, Int.reduceLT, Int.reduceEq, hs]
    rw [X_eq f39_0.eq_1]
    simp only [go_sem, Nat.reduceLT, Nat.reduceEqDiff, reduceCtorEq, Int.reduceLT, Int.reduceEq, hs, h0, hF.en, mk0]
    refine (XO_ins rfl).mpr ?_
    rw [app_new (new := els) (by simp only [go_sem, Nat.reduceLT, Nat.reduceEqDiff, reduceCtorEq, Int.reduceLT, Int.reduceEq, hs]) (by simp only [go_sem, Nat.reduceLT, Nat.reduceEqDiff, reduceCtorEq, Int.reduceLT, Int.reduceEq, hs]; exact hF.src) (by omega) (by omega)]
    by_cases hne : els = []
    · rw [if_pos hne]
      simp only [go_sem, Nat.reduceLT, Nat.reduceEqDiff, reduceCtorEq, Int.reduceLT, Int.reduceEq, hs]
      exact ⟨none, .inr ⟨rfl, hne, true, rfl⟩, Ext.refl _, (fun i e => by cases e), rfl⟩
    · rw [if_neg hne]
      simp only [go_sem, Nat.reduceLT, Nat.reduceEqDiff, reduceCtorEq, Int.reduceLT, Int.reduceEq, hs]
      exact ⟨some h.length, .inl ⟨h.length, 0, false, rfl, rfl, at_last⟩, Ext.push _ _, fun i e => by cases e; exact Nat.le_refl _, rfl⟩
  obtain ⟨v', h', e1, f', e2⟩ := this
  exact ⟨v', h', f', e1, e2⟩
theorem clone_f40 {h : Heap} {els : List (List CV)} {v : VV} {l : Option Nat} (hL : LooseV h els v l) (hl : els.length ≤ 5000) : ∃ v' h' l', call F 40 [v] h = some (.ret v', h') ∧ LooseV h' els v' l' ∧ Ext h h' ∧ (∀ i, l' = some i → h.length ≤ i) ∧ isCell v' = true := by
  have : ∃ v' h', call F 40 [v] h = some (.ret v', h') ∧ (fun v' h' => ∃ l', LooseV h' els v' l' ∧ Ext h h' ∧ (∀ i, l' = some i → h.length ≤ i) ∧ isCell v' = true) v' h' := by
    refine call_E (fn := f40) rfl ?_
    simp only [f40]
    generalize hs0 : ([v] ++ List.replicate _ VV.undef : List VV) = s
    have hs : s.length = 8 := by rw [← hs0]; rfl
    have h0 : s.getD 0 .undef = v := by rw [← hs0]; rfl
    clear hs0
    simp only [go_sem, Nat.reduceLT, Nat.reduceEqDiff, reduceCtorEq, Int.reduceLT, Int.reduceEq, hs]
    rw [X_eq f40_0.eq_1]
    rcases hL with ⟨id, g, e1, hne, rfl, h3⟩ | ⟨e1, rfl, rfl⟩
    · simp only [go_sem, Nat.reduceLT, Nat.reduceEqDiff, reduceCtorEq, Int.reduceLT, Int.reduceEq, hs, h0, en_so, mk0]
      refine (XO_ins rfl).mpr ?_
      rw [app_new (new := els) (by simp only [go_sem, Nat.reduceLT, Nat.reduceEqDiff, reduceCtorEq, Int.reduceLT, Int.reduceEq, hs]) (by simp only [go_sem, Nat.reduceLT, Nat.reduceEqDiff, reduceCtorEq, Int.reduceLT, Int.reduceEq, hs]; simp [srcOf, elsOf, h3]) (by omega) (by omega), if_neg hne]
      simp only [go_sem, Nat.reduceLT, Nat.reduceEqDiff, reduceCtorEq, Int.reduceLT, Int.reduceEq, hs]
      exact ⟨some h.length, .inl ⟨h.length, 0, rfl, hne, rfl, at_last⟩, Ext.push _ _, fun i e => by cases e; exact Nat.le_refl _, rfl⟩
    · simp only [go_sem, Nat.reduceLT, Nat.reduceEqDiff, reduceCtorEq, Int.reduceLT, Int.reduceEq, hs, h0, en_sn]
      exact ⟨none, .inr ⟨rfl, rfl, rfl⟩, Ext.refl _, (fun i e => by cases e), rfl⟩
  obtain ⟨v', h', e1, l', e2⟩ := this
  exact ⟨v', h', l', e1, e2⟩

theorem copy_f25 {h : Heap} {p : Nat} {f l : Option Nat} {d : D} (hD : DevAt h p f l d) (hO : d.OK) : ∃ pc h' fc lc, call F 25 [.ptr p 0] h = some (.ret (.ptr pc 0), h') ∧ Two h' pc fc lc d p f l d ∧ Ext h h' ∧ h.length ≤ pc := by
  have : ∃ v h', call F 25 [.ptr p 0] h = some (.ret v, h') ∧ (fun v h' => ∃ pc fc lc, v = .ptr pc 0 ∧ Two h' pc fc lc d p f l d ∧ Ext h h' ∧ h.length ≤ pc) v h' := by
    refine call_E (fn := f25) rfl ?_
    simp only [f25]
    generalize hs0 : ([.ptr p 0] ++ List.replicate _ VV.undef : List VV) = s
    have hs : s.length = 21 := by rw [← hs0]; rfl
    have h0 : s.getD 0 .undef = .ptr p 0 := by rw [← hs0]; rfl
    clear hs0
    obtain ⟨vf, vl, a1, a2, a3⟩ := hD
    have hp := lt_of_get a1
    have c1 : isCell vf = true := by rcases a2 with ⟨_, _, _, _, rfl, _⟩ | ⟨_, _, _, rfl⟩ <;> rfl
    have c2 : isCell vl = true := by rcases a3 with ⟨_, _, _, _, rfl, _⟩ | ⟨_, _, rfl⟩ <;> rfl
    have hld : ldO h true 5 (.ptr p 0) = some (.agg [vf, vl, cpx d.w d.f, vb d.fused, vi .i64 d.left], h) := ld_box a1 rfl
    simp only [go_sem, Nat.reduceLT, Nat.reduceEqDiff, reduceCtorEq, Int.reduceLT, Int.reduceEq, hs]
    rw [X_eq f25_0.eq_1]
    simp only [go_sem, Nat.reduceLT, Nat.reduceEqDiff, reduceCtorEq, Int.reduceLT, Int.reduceEq, hs, h0, en_p, nk_p, hld]
    rw [st_agg (n := 5) (cells := [nilS, nilS, .cv (.sc (.complex .f64 0 0)), vb false, vi .i64 0]) rfl at_last rfl, set_last']
    have x1 := Ext.push h (VO.box [vf, vl, cpx d.w d.f, vb d.fused, vi .i64 d.left] false)
    have q1 : (h ++ [VO.box [vf, vl, cpx d.w d.f, vb d.fused, vi .i64 d.left] false])[h.length]? = some (.box [vf, vl, cpx d.w d.f, vb d.fused, vi .i64 d.left] false) := at_last
    generalize h ++ [VO.box [vf, vl, cpx d.w d.f, vb d.fused, vi .i64 d.left] false] = g1 at x1 q1
    have b1 := x1.get a1
    have b2 := a2.ext x1
    have b3 := a3.ext x1
    obtain ⟨l0, l1, _, _, _⟩ := ldp b1
    obtain ⟨v3, g3, fc, n3, F3, x3, m3, k3⟩ := clone_f39 b2 (by rw [fE_len]; have := hO.n; omega)
    have hlen1 := x1.len
    simp only [go_sem, Nat.reduceLT, Nat.reduceEqDiff, reduceCtorEq, Int.reduceLT, Int.reduceEq, hs]
    have b1' := x3.get b1
    obtain ⟨_, l1', _⟩ := ldp b1'
    have D3 : DevAt g3 p f l d := ⟨vf, vl, b1', b2.ext x3, b3.ext x3⟩
    obtain ⟨v4, g4, lc, n4, L4, x4, m4, k4⟩ := clone_f40 (b3.ext x3) (by rw [lE_len]; have := hO.lw; omega)
    have D4 := D3.ext x4
    have b14 := x4.get b1'
    have hF4 := F3.ext x4
    have q4 := x4.get (x3.get q1)
    refine X_drawA 10 (fun g => g[p]? = some (.box [vf, vl, cpx d.w d.f, vb d.fused, vi .i64 d.left] false)) b1 rfl rfl ?_
    simp only [List.take_succ_cons, List.take_zero]
    refine XDA_p (v := .ptr p 0) rfl (by simp only [stepI, go_sem, Nat.reduceLT, Nat.reduceEqDiff, reduceCtorEq, Int.reduceLT, Int.reduceEq, hs, h0]) ?_
    refine XDA_p (v := .ptr p 0) rfl (by rw [st_nilck]; simp only [go_sem, Nat.reduceLT, Nat.reduceEqDiff, reduceCtorEq, Int.reduceLT, Int.reduceEq, hs, nk_p]) ?_
    refine XDA_p (v := .ptr p 0) rfl (by rw [st_fad]; simp only [go_sem, Nat.reduceLT, Nat.reduceEqDiff, reduceCtorEq, Int.reduceLT, Int.reduceEq, hs]) ?_
    refine XDA_req (v := vf) rfl (by rw [st_ldq]; simp only [go_sem, Nat.reduceLT, Nat.reduceEqDiff, reduceCtorEq, Int.reduceLT, Int.reduceEq, hs, l0]) ?_
    refine XDA_callR (by simp only [List.map, go_sem, Nat.reduceLT, Nat.reduceEqDiff, reduceCtorEq, Int.reduceLT, Int.reduceEq, hs]; exact n3) b1' ?_
    refine XDA_p (v := .ptr p 0) rfl (by simp only [stepI, go_sem, Nat.reduceLT, Nat.reduceEqDiff, reduceCtorEq, Int.reduceLT, Int.reduceEq, hs, h0]) ?_
    refine XDA_p (v := .ptr p 0) rfl (by rw [st_nilck]; simp only [go_sem, Nat.reduceLT, Nat.reduceEqDiff, reduceCtorEq, Int.reduceLT, Int.reduceEq, hs, nk_p]) ?_
    refine XDA_p (v := .ptr p 1) rfl (by rw [st_fad]; simp only [go_sem, Nat.reduceLT, Nat.reduceEqDiff, reduceCtorEq, Int.reduceLT, Int.reduceEq, hs]) ?_
    refine XDA_r (v := vl) rfl b1' (fun g hg => by rw [st_ldq]; simp only [go_sem, Nat.reduceLT, Nat.reduceEqDiff, reduceCtorEq, Int.reduceLT, Int.reduceEq, hs]; exact (ldp hg).2.1) ?_
    refine XDA_callR (by simp only [List.map, go_sem, Nat.reduceLT, Nat.reduceEqDiff, reduceCtorEq, Int.reduceLT, Int.reduceEq, hs]; exact n4) b14 ?_
    simp only [XDA, List.drop_succ_cons, List.drop_zero]
    have hs0' := st_1 k3 q4 (by decide : 0 < 5)
    have q5 : (g4.set h.length (.box ([vf, vl, cpx d.w d.f, vb d.fused, vi .i64 d.left].set 0 v3) false))[h.length]? = some (.box [v3, vl, cpx d.w d.f, vb d.fused, vi .i64 d.left] false) := by rw [List.getElem?_set_self (lt_of_get q4)]; rfl
    obtain ⟨s1, _⟩ := stp q5 k4
    simp only [go_sem, Nat.reduceLT, Nat.reduceEqDiff, reduceCtorEq, Int.reduceLT, Int.reduceEq, hs, hs0', s1, List.set_set]
    have hq1 := lt_of_get q1
    have hl3 := x3.len
    have hl4 := x4.len
    have fne : ∀ i, f = some i → i < h.length := fun i e => (DevAt.lt ⟨vf, vl, a1, a2, a3⟩).2.1 i e
    have lne : ∀ i, l = some i → i < h.length := fun i e => (DevAt.lt ⟨vf, vl, a1, a2, a3⟩).2.2 i e
    refine ⟨h.length, fc, lc, rfl, ⟨⟨v3, v4, by rw [List.getElem?_set_self (lt_of_get q4)], ?_, ?_⟩, D4.setBox q4 (by omega) _, by omega, fun i e e' => ?_, fun i e e' => ?_⟩, ⟨by rw [List.length_set]; omega, fun j hj => ?_⟩, Nat.le_refl _⟩
    · rcases hF4 with ⟨id, g, ex, e1, e2, e3⟩ | e
      · have := m3 id e1
        exact .inl ⟨id, g, ex, e1, e2, by rw [List.getElem?_set_ne (by omega)]; exact e3⟩
      · exact .inr e
    · rcases L4 with ⟨id, g, e1, e2, e4, e3⟩ | e
      · have := m4 id e1
        exact .inl ⟨id, g, e1, e2, e4, by rw [List.getElem?_set_ne (by omega)]; exact e3⟩
      · exact .inr e
    · have := m3 i e; have := fne i e'; omega
    · have := m4 i e; have := lne i e'; omega
    · rw [List.getElem?_set_ne (by omega), x4.same j (by omega), x3.same j (by omega), x1.same j hj]
  obtain ⟨v, h', e1, pc, fc, lc, rfl, e2⟩ := this
  exact ⟨pc, h', fc, lc, e1, e2⟩
end Go.V04

set_option linter.unusedSimpArgs false
set_option linter.unusedVariables false
namespace Go.V04
open Go Go.Vm

def slC (z : Nat) (els : List (List CV)) : CV := if els = [] then .sc (.slice none 0 0) else .sl z els false
theorem slV_slC {z : Nat} {els : List (List CV)} : slV z els = .cv (slC z els) := by unfold slV slC; split <;> rfl
theorem sE_SE (n : Nat) : SE (sE n) (List.replicate n z64) := by
  refine ⟨by simp [sE], fun i b hb => ?_⟩
  have hi : i < n := by
    have := (List.getElem?_eq_some_iff.1 hb).1
    simpa using this
  rw [List.getElem?_replicate, if_pos hi] at hb
  cases hb
  exact ⟨true, by simp [sE, hi]⟩
theorem newT (n : Nat) : TIs (newD n) (slC 1 (sE n)) nilC 0 0 false 0 :=
  ⟨⟨sE n, by rw [← slV_slC]; exact slV_SlV, sE_SE n⟩, ⟨[], .inl ⟨rfl, rfl⟩, rfl, fun i o h => by cases h⟩, rfl, rfl, rfl, fun e => by cases e⟩
theorem refnew_T (n : Nat) (hn : n ≤ 4096) : ∃ v h', call F 16 [vi .i64 n] [] = some (.ret v, h') ∧ closRes h' v = some (.tup [.agg (tC (slC 1 (sE n)) nilC 0 0 false 0), vb true]) := by
  obtain ⟨v, h', e1, e2⟩ := refnew_yes n hn
  refine ⟨v, h', e1, ?_⟩
  rw [e2]
  unfold tV
  rw [slV_slC]
theorem r9 (n : UInt8) : IntKind.i64.wrap ((n.toNat : Int).tmod 9) = ((n.toNat % 9 : Nat) : Int) := by
  have := tmodN n.toNat 9
  rw [show ((9 : Nat) : Int) = 9 from rfl] at this
  rw [this]; exact IntWalk.i64_in _ (by omega)

theorem devdoes_f8 (n : UInt8) {els : List (List CV)} {L : List Deed} {u : VV} (hS : SlV 5 els u) (hE : DeedsC els L) (hm : L.length ≤ maxLen) : ∃ h', call F 8 [vi .u8 n.toNat, u] [] = some (.ret (vb true), h') := by
  have : ∃ v h', call F 8 [vi .u8 n.toNat, u] [] = some (.ret v, h') ∧ (fun v h' => v = vb true) v h' := by
    refine call_E (fn := f8) rfl ?_
    simp only [f8]
    generalize hs0 : ([vi .u8 n.toNat, u] ++ List.replicate _ VV.undef : List VV) = s
    have hs : s.length = 59 := by rw [← hs0]; rfl
    have h0 : s.getD 0 .undef = vi .u8 n.toNat := by rw [← hs0]; rfl
    have h1 : s.getD 1 .undef = u := by rw [← hs0]; rfl
    clear hs0
    obtain ⟨h22, m, n22, hmm⟩ := much_f22 hS hE hm
    obtain ⟨h10, n10⟩ := known_f10
    simp only [go_sem, Nat.reduceLT, Nat.reduceEqDiff, reduceCtorEq, Int.reduceLT, Int.reduceEq, hs]
    rw [X_eq f8_0.eq_1]
    simp only [go_sem, Nat.reduceLT, Nat.reduceEqDiff, reduceCtorEq, Int.reduceLT, Int.reduceEq, hs, h1]
    refine XO_callP (h1 := []) (by simp only [List.map, go_sem, Nat.reduceLT, Nat.reduceEqDiff, reduceCtorEq, Int.reduceLT, Int.reduceEq, hs]; exact hS.clos rfl) n22 rfl ?_
    cases m with
    | true =>
      simp only [go_sem, Nat.reduceLT, Nat.reduceEqDiff, reduceCtorEq, Int.reduceLT, Int.reduceEq, hs]
      refine XO_callP (h1 := []) (by simp only [List.map]; rfl) n10 rfl ?_
      simp only [go_sem, Nat.reduceLT, Nat.reduceEqDiff, reduceCtorEq, Int.reduceLT, Int.reduceEq, hs]
    | false =>
      have hL := hmm rfl
      simp only [go_sem, Nat.reduceLT, Nat.reduceEqDiff, reduceCtorEq, Int.reduceLT, Int.reduceEq, hs]
      refine XO_callP (h1 := []) (by simp only [List.map]; rfl) n10 rfl ?_
      have ne9 : (9 : Int) ≠ 0 := by decide
      simp only [go_sem, Nat.reduceLT, Nat.reduceEqDiff, reduceCtorEq, Int.reduceLT, Int.reduceEq, hs, h0, bin_rem ne9]
      obtain ⟨g1, n11, D1, l1, k1⟩ := new_f11 (n.toNat % 9) (by omega) []
      refine XO_callR (by simp only [List.map, go_sem, Nat.reduceLT, Nat.reduceEqDiff, reduceCtorEq, Int.reduceLT, Int.reduceEq, hs, r9]; exact n11) ?_
      obtain ⟨v16, h16, n16, r16⟩ := refnew_T (n.toNat % 9) (by omega)
      simp only [go_sem, Nat.reduceLT, Nat.reduceEqDiff, reduceCtorEq, Int.reduceLT, Int.reduceEq, hs, h0, bin_rem ne9]
      refine XO_callP (h1 := g1) (by simp only [List.map, go_sem, Nat.reduceLT, Nat.reduceEqDiff, reduceCtorEq, Int.reduceLT, Int.reduceEq, hs, r9]; rfl) n16 r16 ?_
      simp only [go_sem, Nat.reduceLT, Nat.reduceEqDiff, reduceCtorEq, Int.reduceLT, Int.reduceEq, hs, st_l_n]
      rw [X_eq f8_1.eq_1]
      have D2 := D1.push (.box (tC (slC 1 (sE (n.toNat % 9))) nilC 0 0 false 0) false)
      have P : Pair (g1 ++ [.box (tC (slC 1 (sE (n.toNat % 9))) nilC 0 0 false 0) false]) (([] : Heap).length + 1) g1.length (some ([] : Heap).length) none (newD (n.toNat % 9)) 0 :=
        ⟨D2, new_OK (by omega), ⟨_, _, _, _, _, _, at_last, newT _⟩, by simp [newD], by simp [newD], by simp [newD]⟩
      have hlt := D1.lt.1
      simp only [go_sem, Nat.reduceLT, Nat.reduceEqDiff, reduceCtorEq, Int.reduceLT, Int.reduceEq, hs, en_p]
      refine f8_loop (by omega) hS hE hL L.length 0 _ _ _ _ _ (by omega) (by simp only [slot_len, hs]) (by simp only [go_sem, Nat.reduceLT, Nat.reduceEqDiff, reduceCtorEq, Int.reduceLT, Int.reduceEq, h1]) (by simp only [go_sem, Nat.reduceLT, Nat.reduceEqDiff, reduceCtorEq, Int.reduceLT, Int.reduceEq, hs]) (by simp only [go_sem, Nat.reduceLT, Nat.reduceEqDiff, reduceCtorEq, Int.reduceLT, Int.reduceEq, hs]) (by simp only [go_sem, Nat.reduceLT, Nat.reduceEqDiff, reduceCtorEq, Int.reduceLT, Int.reduceEq, hs]; rfl) P (fun s' g' l' d' a1 a5 a6 P' => ?_)
      obtain ⟨S, Lc, w, ff, fu, le, ga, T⟩ := P'.t
      obtain ⟨_, _, _, _, _, _, k6⟩ := ld6 ga
      obtain ⟨h3, n3, x3⟩ := same_f24 P'.dev P'.ok T
      simp only [go_sem, Nat.reduceLT, Nat.reduceEqDiff, reduceCtorEq, Int.reduceLT, Int.reduceEq, a1, a5, a6, k6]
      refine XO_callR (by simp only [List.map, go_sem, Nat.reduceLT, Nat.reduceEqDiff, reduceCtorEq, Int.reduceLT, Int.reduceEq, a1]; exact n3) ?_
      simp only [go_sem, Nat.reduceLT, Nat.reduceEqDiff, reduceCtorEq, Int.reduceLT, Int.reduceEq, a1]
  obtain ⟨v, h', e1, rfl⟩ := this
  exact ⟨h', e1⟩

theorem devdoes_in {H : Type} {d0 d1 : DataW H} {u0 u1 : VV} (h0 : DV Proofs.Try.prog 5 d0 u0) (h1 : DV Proofs.Try.prog 52 d1 u1) : ∃ h', call F 8 [u0, u1] [] = some (.ret (vb true), h') := by
  obtain ⟨n, rfl⟩ := DV_u8 (by kernel_rfl) h0
  obtain ⟨els, l, hS, hE, hl⟩ := deeds_of h1
  exact devdoes_f8 n hS hE hl

theorem devcopy_f9 (n : UInt8) {els els2 : List (List CV)} {L L2 : List Deed} {u u2 : VV} (hS : SlV 5 els u) (hE : DeedsC els L) (hm : L.length ≤ maxLen) (hS2 : SlV 5 els2 u2) (hE2 : DeedsC els2 L2) (hm2 : L2.length ≤ maxLen) : ∃ h', call F 9 [vi .u8 n.toNat, u, u2] [] = some (.ret (vb true), h') := by
  have : ∃ v h', call F 9 [vi .u8 n.toNat, u, u2] [] = some (.ret v, h') ∧ (fun v h' => v = vb true) v h' := by
    refine call_E (fn := f9) rfl ?_
    simp only [f9]
    generalize hs0 : ([vi .u8 n.toNat, u, u2] ++ List.replicate _ VV.undef : List VV) = s
    have hs : s.length = 88 := by rw [← hs0]; rfl
    have h0 : s.getD 0 .undef = vi .u8 n.toNat := by rw [← hs0]; rfl
    have h1 : s.getD 1 .undef = u := by rw [← hs0]; rfl
    have h2 : s.getD 2 .undef = u2 := by rw [← hs0]; rfl
    clear hs0
    obtain ⟨h22, m, n22, hmm⟩ := much_f22 hS hE hm
    obtain ⟨h22', m2, n22', hmm2⟩ := much_f22 hS2 hE2 hm2
    obtain ⟨h10, n10⟩ := known_f10
    simp only [go_sem, Nat.reduceLT, Nat.reduceEqDiff, reduceCtorEq, Int.reduceLT, Int.reduceEq, hs]
    rw [X_eq f9_0.eq_1]
    simp only [go_sem, Nat.reduceLT, Nat.reduceEqDiff, reduceCtorEq, Int.reduceLT, Int.reduceEq, hs, h1]
    refine XO_callP (h1 := []) (by simp only [List.map, go_sem, Nat.reduceLT, Nat.reduceEqDiff, reduceCtorEq, Int.reduceLT, Int.reduceEq, hs]; exact hS.clos rfl) n22 rfl ?_
    cases m with
    | true =>
      simp only [go_sem, Nat.reduceLT, Nat.reduceEqDiff, reduceCtorEq, Int.reduceLT, Int.reduceEq, hs]
      refine XO_callP (h1 := []) (by simp only [List.map]; rfl) n10 rfl ?_
      simp only [go_sem, Nat.reduceLT, Nat.reduceEqDiff, reduceCtorEq, Int.reduceLT, Int.reduceEq, hs]
    | false =>
      have hL := hmm rfl
      simp only [go_sem, Nat.reduceLT, Nat.reduceEqDiff, reduceCtorEq, Int.reduceLT, Int.reduceEq, hs, h2]
      refine XO_callP (h1 := []) (by simp only [List.map, go_sem, Nat.reduceLT, Nat.reduceEqDiff, reduceCtorEq, Int.reduceLT, Int.reduceEq, hs]; exact hS2.clos rfl) n22' rfl ?_
      cases m2 with
      | true =>
        simp only [go_sem, Nat.reduceLT, Nat.reduceEqDiff, reduceCtorEq, Int.reduceLT, Int.reduceEq, hs]
        refine XO_callP (h1 := []) (by simp only [List.map]; rfl) n10 rfl ?_
        simp only [go_sem, Nat.reduceLT, Nat.reduceEqDiff, reduceCtorEq, Int.reduceLT, Int.reduceEq, hs]
      | false =>
      have hL2 := hmm2 rfl
      have ne9 : (9 : Int) ≠ 0 := by decide
      simp only [go_sem, Nat.reduceLT, Nat.reduceEqDiff, reduceCtorEq, Int.reduceLT, Int.reduceEq, hs, h0, bin_rem ne9]
      obtain ⟨g1, n11, D1, l1, k1⟩ := new_f11 (n.toNat % 9) (by omega) []
      refine XO_callR (by simp only [List.map, go_sem, Nat.reduceLT, Nat.reduceEqDiff, reduceCtorEq, Int.reduceLT, Int.reduceEq, hs, r9]; exact n11) ?_
      obtain ⟨v16, h16, n16, r16⟩ := refnew_T (n.toNat % 9) (by omega)
      simp only [go_sem, Nat.reduceLT, Nat.reduceEqDiff, reduceCtorEq, Int.reduceLT, Int.reduceEq, hs, h0, bin_rem ne9]
      refine XO_callP (h1 := g1) (by simp only [List.map, go_sem, Nat.reduceLT, Nat.reduceEqDiff, reduceCtorEq, Int.reduceLT, Int.reduceEq, hs, r9]; rfl) n16 r16 ?_
      simp only [go_sem, Nat.reduceLT, Nat.reduceEqDiff, reduceCtorEq, Int.reduceLT, Int.reduceEq, hs, st_l_n]
      rw [X_eq f9_1.eq_1]
      have D2 := D1.push (.box (tC (slC 1 (sE (n.toNat % 9))) nilC 0 0 false 0) false)
      have P : Pair (g1 ++ [.box (tC (slC 1 (sE (n.toNat % 9))) nilC 0 0 false 0) false]) (([] : Heap).length + 1) g1.length (some ([] : Heap).length) none (newD (n.toNat % 9)) 0 :=
        ⟨D2, new_OK (by omega), ⟨_, _, _, _, _, _, at_last, newT _⟩, by simp [newD], by simp [newD], by simp [newD]⟩
      have hlt := D1.lt.1
      simp only [go_sem, Nat.reduceLT, Nat.reduceEqDiff, reduceCtorEq, Int.reduceLT, Int.reduceEq, hs, en_p]
      refine f9_loop1 (by omega) hS hE hL L.length 0 _ _ _ _ _ (by omega) (by simp only [slot_len, hs]) (by simp only [go_sem, Nat.reduceLT, Nat.reduceEqDiff, reduceCtorEq, Int.reduceLT, Int.reduceEq, h1]) (by simp only [go_sem, Nat.reduceLT, Nat.reduceEqDiff, reduceCtorEq, Int.reduceLT, Int.reduceEq, hs]) (by simp only [go_sem, Nat.reduceLT, Nat.reduceEqDiff, reduceCtorEq, Int.reduceLT, Int.reduceEq, hs]) (by simp only [go_sem, Nat.reduceLT, Nat.reduceEqDiff, reduceCtorEq, Int.reduceLT, Int.reduceEq, hs]; rfl) P (fun s' g' l' d' a1 a2 a7 a8 P' => ?_)
      have a2' : s'.getD 2 .undef = u2 := by rw [a2]; simp only [go_sem, Nat.reduceLT, Nat.reduceEqDiff, reduceCtorEq, Int.reduceLT, Int.reduceEq, h2]
      obtain ⟨S, Lc, w, ff, fu, le, ga, T⟩ := P'.t
      obtain ⟨pc, g3, fc, lc, n25, W, x3, hpc⟩ := copy_f25 P'.dev P'.ok
      simp only [go_sem, Nat.reduceLT, Nat.reduceEqDiff, reduceCtorEq, Int.reduceLT, Int.reduceEq, a1, a7, a8]
      refine XO_callR (by simp only [List.map, go_sem, Nat.reduceLT, Nat.reduceEqDiff, reduceCtorEq, Int.reduceLT, Int.reduceEq, a1]; exact n25) ?_
      have ga3 := x3.get ga
      obtain ⟨_, _, _, _, _, _, k6⟩ := ld6 ga3
      simp only [go_sem, Nat.reduceLT, Nat.reduceEqDiff, reduceCtorEq, Int.reduceLT, Int.reduceEq, a1, a7, a8]
      rw [X_eq f9_3.eq_1]
      simp only [go_sem, Nat.reduceLT, Nat.reduceEqDiff, reduceCtorEq, Int.reduceLT, Int.reduceEq, a1, a8, en_p, k6, st_l_n]
      have W4 := W.ext (Ext.push g3 (.box (tC S Lc w ff fu le) false))
      have ga4 := (Ext.push g3 (.box (tC S Lc w ff fu le) false)).get ga3
      have hl3 := lt_of_get ga
      have hl3' := lt_of_get ga3
      have hp3 := W.b.lt.1
      have hc3 := W.a.lt.1
      have bw := P'.bw
      have bf := P'.bf
      have bl := P'.bl
      have Pc : Pair (g3 ++ [.box (tC S Lc w ff fu le) false]) pc g3.length fc lc d' (L.length + 0) := ⟨W4.a, P'.ok, ⟨_, _, _, _, _, _, at_last, T⟩, bw, bf, bl⟩
      refine f9_loop2 (by omega) (by omega) (by omega) (by omega) rfl hS2 hE2 hL2 L.length L2.length 0 _ _ _ _ _ (by omega) (by omega) (by simp only [slot_len, a1]) (by simp only [go_sem, Nat.reduceLT, Nat.reduceEqDiff, reduceCtorEq, Int.reduceLT, Int.reduceEq, a2']) (by simp only [go_sem, Nat.reduceLT, Nat.reduceEqDiff, reduceCtorEq, Int.reduceLT, Int.reduceEq, a1]) (by simp only [go_sem, Nat.reduceLT, Nat.reduceEqDiff, reduceCtorEq, Int.reduceLT, Int.reduceEq, a1]) (by simp only [go_sem, Nat.reduceLT, Nat.reduceEqDiff, reduceCtorEq, Int.reduceLT, Int.reduceEq, a1]; rfl) Pc W4 ga4
        (fun s5 g5 lc5 dc5 c1 c7 c8 c13 c14 Pc5 W5 ga5 => ?_)
      have c7' : s5.getD 7 .undef = .ptr (([] : Heap).length + 1) 0 := by rw [c7]; simp only [go_sem, Nat.reduceLT, Nat.reduceEqDiff, reduceCtorEq, Int.reduceLT, Int.reduceEq, a7]
      have c8' : s5.getD 8 .undef = .ptr g1.length 0 := by rw [c8]; simp only [go_sem, Nat.reduceLT, Nat.reduceEqDiff, reduceCtorEq, Int.reduceLT, Int.reduceEq, a8]
      clear c7 c8
      obtain ⟨_, _, _, _, _, _, m6⟩ := ld6 ga5
      obtain ⟨h6, n6, x6⟩ := same_f24 W5.b P'.ok T
      have W6 := W5.ext x6
      obtain ⟨S5, L5, w5, ff5, fu5, le5, gc5, T5⟩ := Pc5.t
      have gc6 := x6.get gc5
      obtain ⟨_, _, _, _, _, _, q6⟩ := ld6 gc6
      obtain ⟨h7, n7, x7⟩ := same_f24 W6.a Pc5.ok T5
      simp only [go_sem, Nat.reduceLT, Nat.reduceEqDiff, reduceCtorEq, Int.reduceLT, Int.reduceEq, c1]
      refine XO_callP (h1 := g5) (by simp only [List.map]; rfl) n10 rfl ?_
      simp only [go_sem, Nat.reduceLT, Nat.reduceEqDiff, reduceCtorEq, Int.reduceLT, Int.reduceEq, c1, c7', c8', m6]
      refine XO_callR (by simp only [List.map, go_sem, Nat.reduceLT, Nat.reduceEqDiff, reduceCtorEq, Int.reduceLT, Int.reduceEq, c1]; exact n6) ?_
      simp only [go_sem, Nat.reduceLT, Nat.reduceEqDiff, reduceCtorEq, Int.reduceLT, Int.reduceEq, c1, c13, c14, q6]
      refine XO_callR (by simp only [List.map, go_sem, Nat.reduceLT, Nat.reduceEqDiff, reduceCtorEq, Int.reduceLT, Int.reduceEq, c1]; exact n7) ?_
      simp only [go_sem, Nat.reduceLT, Nat.reduceEqDiff, reduceCtorEq, Int.reduceLT, Int.reduceEq, c1]
  obtain ⟨v, h', e1, rfl⟩ := this
  exact ⟨h', e1⟩

theorem devcopy_in {H : Type} {d0 d1 d2 : DataW H} {u0 u1 u2 : VV} (h0 : DV Proofs.Try.prog 5 d0 u0) (h1 : DV Proofs.Try.prog 52 d1 u1) (h2 : DV Proofs.Try.prog 52 d2 u2) : ∃ h', call F 9 [u0, u1, u2] [] = some (.ret (vb true), h') := by
  obtain ⟨n, rfl⟩ := DV_u8 (by kernel_rfl) h0
  obtain ⟨els, l, hS, hE, hl⟩ := deeds_of h1
  obtain ⟨els2, l2, hS2, hE2, hl2⟩ := deeds_of h2
  exact devcopy_f9 n hS hE hl hS2 hE2 hl2
end Go.V04
