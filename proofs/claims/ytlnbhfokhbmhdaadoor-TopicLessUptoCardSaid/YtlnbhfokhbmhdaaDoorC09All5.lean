/- Part of a proof: of what it says, and when, each theorem tells itself. -/
import Derived.Test.YtlnbhfokhbmhdaaDoorC09fn
import Derived.Test.YtlnbhfokhbmhdaaDoorC09Ir
import Derived.Test.YtlnbhfokhbmhdaaDoorVmAll2
/-
  Chapter 09: texts in parts (plain).
-/
set_option linter.unusedSimpArgs false
set_option linter.unusedVariables false
namespace Go.V09
open Go Go.Lib

/-- A text, parted at a sign. -/
def splitS (c : UInt8) : List UInt8 → List (List UInt8)
  | [] => [[]]
  | b :: r => if b = c then [] :: splitS c r else match splitS c r with
    | [] => [[b]]
    | h :: t => (b :: h) :: t
theorem splitS_ne {c : UInt8} : ∀ l, splitS c l ≠ []
  | [] => by simp [splitS]
  | b :: r => by
    unfold splitS
    split
    · simp
    · split <;> simp
theorem splitS_miss {c : UInt8} : ∀ {l : List UInt8}, c ∉ l → splitS c l = [l]
  | [], _ => rfl
  | b :: r, h => by
    simp only [List.mem_cons, not_or] at h
    have hb : ¬ b = c := fun e => h.1 e.symm
    simp only [splitS, if_neg hb, splitS_miss h.2]
theorem splitS_hit {c : UInt8} {r : List UInt8} : ∀ {a : List UInt8}, c ∉ a → splitS c (a ++ c :: r) = a :: splitS c r
  | [], _ => by simp [splitS]
  | b :: a, h => by
    simp only [List.mem_cons, not_or] at h
    have hb : ¬ b = c := fun e => h.1 e.symm
    simp only [List.cons_append, splitS, if_neg hb, splitS_hit h.2]
theorem ix_cases (c : UInt8) : ∀ l : List UInt8, (indexByte l c = -1 ∧ c ∉ l) ∨ ∃ a r, l = a ++ c :: r ∧ c ∉ a ∧ indexByte l c = (a.length : Int)
  | [] => .inl ⟨rfl, by simp⟩
  | b :: l => by
    by_cases hb : b = c
    · subst hb
      exact .inr ⟨[], l, rfl, by simp, by simp [indexByte]⟩
    · have hbb : (b == c) = false := by simpa using hb
      rcases ix_cases c l with ⟨h1, h2⟩ | ⟨a, r, rfl, h2, h3⟩
      · refine .inl ⟨?_, ?_⟩
        · simp only [indexByte, hbb, Bool.false_eq_true, if_false, h1]; rfl
        · simp only [List.mem_cons, not_or]; exact ⟨fun e => hb e.symm, h2⟩
      · refine .inr ⟨b :: a, r, rfl, ?_, ?_⟩
        · simp only [List.mem_cons, not_or]; exact ⟨fun e => hb e.symm, h2⟩
        · have : ((a.length : Int) == -1) = false := by
            rw [beq_eq_false_iff_ne]; omega
          simp only [indexByte, hbb, Bool.false_eq_true, if_false, h3, this, List.length_cons]
          omega
theorem count_split {c : UInt8} : ∀ l : List UInt8, (splitS c l).length = countByte l c + 1
  | [] => rfl
  | b :: l => by
    have ih := count_split (c := c) l
    unfold countByte at ih ⊢
    by_cases hb : b = c
    · subst hb
      simp [splitS, ih]
    · have : (b :: l).count c = l.count c := List.count_cons_of_ne hb
      rw [this]
      simp only [splitS, if_neg hb]
      cases hs : splitS c l with
      | nil => exact absurd hs (splitS_ne l)
      | cons h t => rw [hs] at ih; simpa using ih
theorem count_le {c : UInt8} (l : List UInt8) : countByte l c ≤ l.length := List.count_le_length
theorem split_len {c : UInt8} : ∀ {l p : List UInt8}, p ∈ splitS c l → p.length ≤ l.length := by
  intro l
  induction l with
  | nil => intro p h; simp [splitS] at h; simp [h]
  | cons b l ih =>
    intro p h
    unfold splitS at h
    split at h
    · rcases List.mem_cons.1 h with rfl | h
      · simp
      · have := ih h; simp; omega
    · split at h
      · rename_i hs; exact absurd hs (splitS_ne l)
      · rename_i x t hs
        rcases List.mem_cons.1 h with rfl | h
        · have := ih (p := x) (by rw [hs]; simp); simp; omega
        · have := ih (p := p) (by rw [hs]; simp [h]); simp; omega

theorem splitS_one {c : UInt8} {l : List UInt8} (h : (splitS c l).length = 1) : splitS c l = [l] ∧ c ∉ l := by
  rcases ix_cases c l with ⟨_, h2⟩ | ⟨a, r, rfl, h2, _⟩
  · exact ⟨splitS_miss h2, h2⟩
  · rw [splitS_hit h2, List.length_cons] at h
    have := List.length_pos_iff.2 (splitS_ne (c := c) r)
    omega
theorem splitS_two {c : UInt8} {l : List UInt8} {k : Nat} (h : (splitS c l).length = k + 2) : ∃ a r, l = a ++ c :: r ∧ c ∉ a ∧ indexByte l c = (a.length : Int) ∧ splitS c l = a :: splitS c r ∧ (splitS c r).length = k + 1 := by
  rcases ix_cases c l with ⟨_, h2⟩ | ⟨a, r, rfl, h2, h3⟩
  · rw [splitS_miss h2] at h; simp at h
  · rw [splitS_hit h2, List.length_cons] at h
    exact ⟨a, r, rfl, h2, h3, splitS_hit h2, by omega⟩
end Go.V09

/-
  Chapter 09: where a sign is; a text parted.
-/
set_option linter.unusedSimpArgs false
set_option linter.unusedVariables false
namespace Go.V09
open Go Go.Vm Go.Lib

theorem yb_none (id : Nat) : F (YB + id) = none := by
  cases h : F (YB + id) with
  | none => rfl
  | some fn => have := tlt h; omega

theorem call23 (l : List UInt8) (h : Heap) : call F 23 [txt l] h = some (.ret (vb (wordB l)), h) :=
  call_pf (k := 1) (φ := φ23) rfl (by decide) rfl rfl rfl rfl h
theorem call52 (l : List UInt8) (c : UInt8) (h : Heap) : call F 52 [txt l, vi .u8 c.toNat] h = some (.ret (vi .i64 (indexByte l c)), h) := by
  refine call_pf (k := 2) (φ := φ52) rfl (by decide) rfl rfl ?_ rfl h
  simp [φ52]
theorem call45 (l : List UInt8) (c : UInt8) (h : Heap) : call F 45 [txt l, txt [c]] h = some (.ret (vi .i64 (countByte l c : Nat)), h) :=
  call_pf (k := 2) (φ := φ45) rfl (by decide) rfl rfl rfl rfl h

theorem index_f49 (l : List UInt8) (c : UInt8) : call F 49 [txt l, txt [c]] [] = some (.ret (vi .i64 (indexByte l c)), []) := by
  have : Ret F 49 [txt l, txt [c]] [] (Is (vi .i64 (indexByte l c)) []) := by
    refine call_E (fn := f49) rfl ?_
    simp only [f49]
    generalize hs0 : ([txt l, txt [c]] ++ List.replicate _ VV.undef : List VV) = s
    have hs : s.length = 143 := by rw [← hs0]; rfl
    have h0 : s.getD 0 .undef = txt l := by rw [← hs0]; rfl
    have h1 : s.getD 1 .undef = txt [c] := by rw [← hs0]; rfl
    clear hs0
    have e1 : ((([c] : List UInt8).length : Nat) : Int) = 1 := rfl
    have l1 : lnO true (txt [c]) = some (vi .i64 1) := rfl
    simp only [go_sem, Nat.reduceLT, Nat.reduceEqDiff, reduceCtorEq, Int.reduceLT, Int.reduceEq, hs, h1, h0, l1]
    by_cases e : [c] = l
    · have hi : indexByte l c = 0 := by rw [← e]; simp [indexByte]
      simp only [go_sem, Nat.reduceLT, Nat.reduceEqDiff, reduceCtorEq, Int.reduceLT, Int.reduceEq, hs, e, hi]
      exact Is.refl _ _
    · simp only [go_sem, Nat.reduceLT, Nat.reduceEqDiff, reduceCtorEq, Int.reduceLT, Int.reduceEq, hs, e, h0, h1]
      refine XO_callP (by simp only [List.map, go_sem, Nat.reduceLT, Nat.reduceEqDiff, reduceCtorEq, Int.reduceLT, Int.reduceEq, hs]; rfl) (call52 l c []) rfl ?_
      simp only [go_sem, Nat.reduceLT, Nat.reduceEqDiff, reduceCtorEq, Int.reduceLT, Int.reduceEq, hs]
      exact Is.refl _ _
  obtain ⟨v, h', e, rfl, rfl⟩ := this
  exact e
theorem index_f43 (l : List UInt8) (c : UInt8) : call F 43 [txt l, txt [c]] [] = some (.ret (vi .i64 (indexByte l c)), []) := by
  have : Ret F 43 [txt l, txt [c]] [] (Is (vi .i64 (indexByte l c)) []) := by
    refine call_E (fn := f43) rfl ?_
    simp only [f43]
    generalize hs0 : ([txt l, txt [c]] ++ List.replicate _ VV.undef : List VV) = s
    have hs : s.length = 8 := by rw [← hs0]; rfl
    have h0 : s.getD 0 .undef = txt l := by rw [← hs0]; rfl
    have h1 : s.getD 1 .undef = txt [c] := by rw [← hs0]; rfl
    clear hs0
    simp only [go_sem, Nat.reduceLT, Nat.reduceEqDiff, reduceCtorEq, Int.reduceLT, Int.reduceEq, hs, h1, h0]
    refine XO_callP (by simp only [List.map, go_sem, Nat.reduceLT, Nat.reduceEqDiff, reduceCtorEq, Int.reduceLT, Int.reduceEq, hs]; rfl) (index_f49 l c) rfl ?_
    simp only [go_sem, Nat.reduceLT, Nat.reduceEqDiff, reduceCtorEq, Int.reduceLT, Int.reduceEq, hs]
    exact Is.refl _ _
  obtain ⟨v, h', e, rfl, rfl⟩ := this
  exact e
end Go.V09

/-
  Chapter 09: strings.Split at a sign.
-/
set_option linter.unusedSimpArgs false
set_option linter.unusedVariables false
namespace Go.V09
open Go Go.Vm Go.Lib

/-- A text's cell; texts, as they lie. -/
abbrev cT (p : List UInt8) : CV := .sc (.string ⟨p.toArray⟩)
def eT (l : List (List UInt8)) : List (List CV) := l.map fun p => [cT p]
theorem eT_len {l : List (List UInt8)} : (eT l).length = l.length := by simp [eT]
theorem eT_app {l m : List (List UInt8)} : eT (l ++ m) = eT l ++ eT m := by simp [eT]
theorem eT_get {l : List (List UInt8)} {i : Nat} {p : List UInt8} (h : l[i]? = some p) : (eT l)[i]? = some [cT p] := by simp [eT, h]
theorem set_mid {α : Type} {a b : List α} {x y : α} : (a ++ x :: b).set a.length y = a ++ y :: b := by
  rw [List.set_append_right _ _ (Nat.le_refl _), Nat.sub_self]; rfl

theorem f35_loop {c : UInt8} {l : List UInt8} (hl : l.length ≤ 1000000000) : ∀ (k : Nat) (r : List UInt8) (done : List (List UInt8)) (s : List VV) (Q : Pst), splitS c l = done ++ splitS c r → (splitS c r).length = k + 1 → r.length ≤ 1000000000 → s.length = 66 → s.getD 0 .undef = txt r → s.getD 1 .undef = txt [c] → s.getD 2 .undef = vi .i64 0 →
    s.getD 3 .undef = vi .i64 ((done.length + k : Nat) : Int) → s.getD 9 .undef = .own 0 0 0 (done.length + (k + 1)) true → s.getD 10 .undef = vi .i64 done.length →
    (∀ s' r' done', s'.length = 66 → splitS c l = done' ++ [r'] → s'.getD 0 .undef = txt r' → s'.getD 9 .undef = .own 0 0 0 (done'.length + 1) true → s'.getD 10 .undef = vi .i64 done'.length → Q (.exit 0) ⟨s', [.arr 1 (eT done' ++ [[cT []]]) 0 false]⟩) →
    X F (.loop f35_4) ⟨s, [.arr 1 (eT done ++ List.replicate (k + 1) [cT []]) 0 false]⟩ Q := by
  intro k
  induction k with
  | zero =>
    intro r done s Q hsp hk hr hs e0 e1 e2 e3 e9 e10 hQ
    obtain ⟨h1, _⟩ := splitS_one hk
    rw [h1] at hsp
    have c1 : ¬ ((done.length : Nat) : Int) < ((done.length + 0 : Nat) : Int) := by omega
    rw [X_loop, X_eq f35_4.eq_1]
    simp only [go_sem, Nat.reduceLT, Nat.reduceEqDiff, reduceCtorEq, Int.reduceLT, Int.reduceEq, hs, e10, e3, c1]
    exact hQ _ r done (by simp only [slot_len, hs]) hsp (by simp only [go_sem, Nat.reduceLT, Nat.reduceEqDiff, reduceCtorEq, Int.reduceLT, Int.reduceEq, e0]) (by simp only [go_sem, Nat.reduceLT, Nat.reduceEqDiff, reduceCtorEq, Int.reduceLT, Int.reduceEq, e9]) (by simp only [go_sem, Nat.reduceLT, Nat.reduceEqDiff, reduceCtorEq, Int.reduceLT, Int.reduceEq, e10])
  | succ k ih =>
    intro r done s Q hsp hk hr hs e0 e1 e2 e3 e9 e10 hQ
    obtain ⟨a, r', rfl, h2, h3, h4, h5⟩ := splitS_two hk
    have hlen : (splitS c l).length ≤ l.length + 1 := by rw [count_split]; have := count_le (c := c) l; omega
    rw [hsp, List.length_append, hk] at hlen
    have c1 : ((done.length : Nat) : Int) < ((done.length + (k + 1) : Nat) : Int) := by omega
    have hrl : (a ++ c :: r').length = a.length + (r'.length + 1) := by simp
    have c2 : ¬ ((a.length : Nat) : Int) < 0 := by omega
    have w1 : IntKind.i64.wrap ((a.length : Int) + 0) = ((a.length : Nat) : Int) := by rw [IntWalk.i64_in _ (by omega)]; omega
    have w2 : IntKind.i64.wrap ((a.length : Int) + 1) = ((a.length + 1 : Nat) : Int) := by rw [IntWalk.i64_in _ (by omega)]; omega
    have w3 : IntKind.i64.wrap ((done.length : Int) + 1) = ((done.length + 1 : Nat) : Int) := by rw [IntWalk.i64_in _ (by omega)]; omega
    have s1 : ssO (txt (a ++ c :: r')) none (some (vi .i64 (a.length : Int))) = some (txt a) := by
      rw [ss_hi (by omega), List.take_left]
    have s2 : ssO (txt (a ++ c :: r')) (some (vi .i64 ((a.length + 1 : Nat) : Int))) none = some (txt r') := by
      rw [ss_lo (by omega), List.drop_append]
      simp
    have l1 : lnO true (txt [c]) = some (vi .i64 1) := rfl
    have ha : iaO [VO.arr 1 (eT done ++ List.replicate (k + 1 + 1) [cT []]) 0 false] 1 (.own 0 0 0 (done.length + (k + 1 + 1)) true) (vi .i64 (done.length : Int)) = some (.eptr 0 0 done.length 0, [VO.arr 1 (eT done ++ List.replicate (k + 1 + 1) [cT []]) 0 false]) := by
      rw [ia_own (els := eT done ++ List.replicate (k + 1 + 1) [cT []]) (fr := false) (by omega) rfl (by simp)]
      simp
    have hset : (eT done ++ List.replicate (k + 1 + 1) [cT []]).set done.length [cT a] = eT (done ++ [a]) ++ List.replicate (k + 1) [cT []] := by
      rw [List.replicate_succ, eT_app, ← eT_len (l := done), set_mid]
      simp [eT]
    have hst : stO [VO.arr 1 (eT done ++ List.replicate (k + 1 + 1) [cT []]) 0 false] 1 (.eptr 0 0 done.length 0) (txt a) = some (.undef, [VO.arr 1 (eT (done ++ [a]) ++ List.replicate (k + 1) [cT []]) 0 false]) := by
      have he : (eT done ++ List.replicate (k + 1 + 1) [cT []])[done.length]? = some [cT []] := by
        rw [List.getElem?_append_right (by rw [eT_len]; exact Nat.le_refl _), eT_len, Nat.sub_self]; rfl
      rw [st_e1 (h := [VO.arr 1 (eT done ++ List.replicate (k + 1 + 1) [cT []]) 0 false]) rfl he (by simp), ← hset]
      rfl
    rw [X_loop, X_eq f35_4.eq_1]
    simp only [go_sem, Nat.reduceLT, Nat.reduceEqDiff, reduceCtorEq, Int.reduceLT, Int.reduceEq, hs, e10, e3, c1, e0, e1]
    refine XO_callP (by simp only [List.map, go_sem, Nat.reduceLT, Nat.reduceEqDiff, reduceCtorEq, Int.reduceLT, Int.reduceEq, hs]; rfl) (index_f43 (a ++ c :: r') c) rfl ?_
    simp only [go_sem, Nat.reduceLT, Nat.reduceEqDiff, reduceCtorEq, Int.reduceLT, Int.reduceEq, hs]
    rw [X_eq f35_3.eq_1]
    simp only [go_sem, Nat.reduceLT, Nat.reduceEqDiff, reduceCtorEq, Int.reduceLT, Int.reduceEq, hs, h3, c2, e9, e10, e0, e2, w1, s1, ha, hst, e1, l1, w2, s2, w3, Option.map_none, Option.map_some]
    refine ih r' (done ++ [a]) _ Q (by rw [hsp, h4, List.append_assoc]; rfl) h5 (by omega) (by simp only [slot_len, hs]) (by simp only [go_sem, Nat.reduceLT, Nat.reduceEqDiff, reduceCtorEq, Int.reduceLT, Int.reduceEq, hs]) (by simp only [go_sem, Nat.reduceLT, Nat.reduceEqDiff, reduceCtorEq, Int.reduceLT, Int.reduceEq, hs, e1]) (by simp only [go_sem, Nat.reduceLT, Nat.reduceEqDiff, reduceCtorEq, Int.reduceLT, Int.reduceEq, hs, e2]) ?_ ?_ ?_ hQ
    · simp only [go_sem, Nat.reduceLT, Nat.reduceEqDiff, reduceCtorEq, Int.reduceLT, Int.reduceEq, hs, e3, List.length_append, List.length_singleton]
      rw [show done.length + (k + 1) = done.length + 1 + k by omega]
    · simp only [go_sem, Nat.reduceLT, Nat.reduceEqDiff, reduceCtorEq, Int.reduceLT, Int.reduceEq, hs, e9, List.length_append, List.length_singleton]
      rw [show done.length + (k + 1 + 1) = done.length + 1 + (k + 1) by omega]
    · simp only [go_sem, Nat.reduceLT, Nat.reduceEqDiff, reduceCtorEq, Int.reduceLT, Int.reduceEq, hs, List.length_append, List.length_singleton]

theorem split_f35 {l : List UInt8} {c : UInt8} (hl : l.length ≤ 1000000000) : Ret F 35 [txt l, txt [c], vi .i64 0, vi .i64 (-1)] [] fun v g => ∃ ex, closRes g v = some (.cv (.sl 1 (eT (splitS c l)) ex)) := by
  refine call_E (fn := f35) rfl ?_
  simp only [f35]
  generalize hs0 : ([txt l, txt [c], vi .i64 0, vi .i64 (-1)] ++ List.replicate _ VV.undef : List VV) = s
  have hs : s.length = 66 := by rw [← hs0]; rfl
  have h0 : s.getD 0 .undef = txt l := by rw [← hs0]; rfl
  have h1 : s.getD 1 .undef = txt [c] := by rw [← hs0]; rfl
  have h2 : s.getD 2 .undef = vi .i64 0 := by rw [← hs0]; rfl
  have h3 : s.getD 3 .undef = vi .i64 (-1) := by rw [← hs0]; rfl
  clear hs0
  have hc := count_split (c := c) l
  have hcl := count_le (c := c) l
  have ec : ¬ ([c] : List UInt8) = [] := by simp
  have w1 : IntKind.i64.wrap ((countByte l c : Int) + 1) = ((countByte l c + 1 : Nat) : Int) := by rw [IntWalk.i64_in _ (by omega)]; omega
  have w2 : IntKind.i64.wrap ((l.length : Int) + 1) = ((l.length + 1 : Nat) : Int) := by rw [IntWalk.i64_in _ (by omega)]; omega
  have hm : min (((countByte l c + 1 : Nat) : Int)) ((l.length + 1 : Nat) : Int) = ((countByte l c + 1 : Nat) : Int) := by omega
  have w3 : IntKind.i64.wrap (((countByte l c + 1 : Nat) : Int) - 1) = ((countByte l c : Nat) : Int) := by rw [IntWalk.i64_in _ (by omega)]; omega
  simp only [go_sem, Nat.reduceLT, Nat.reduceEqDiff, reduceCtorEq, Int.reduceLT, Int.reduceEq, hs]
  rw [X_eq f35_0.eq_1]
  simp only [go_sem, Nat.reduceLT, Nat.reduceEqDiff, reduceCtorEq, Int.reduceLT, Int.reduceEq, hs, h3]
  rw [X_eq f35_1.eq_1]
  simp only [go_sem, Nat.reduceLT, Nat.reduceEqDiff, reduceCtorEq, Int.reduceLT, Int.reduceEq, hs, h1, ec]
  rw [X_eq f35_2.eq_1]
  simp only [go_sem, Nat.reduceLT, Nat.reduceEqDiff, reduceCtorEq, Int.reduceLT, Int.reduceEq, hs, h3, h0, h1]
  refine XO_callP (by simp only [List.map, go_sem, Nat.reduceLT, Nat.reduceEqDiff, reduceCtorEq, Int.reduceLT, Int.reduceEq, hs]; rfl) (call45 l c []) rfl ?_
  simp only [go_sem, Nat.reduceLT, Nat.reduceEqDiff, reduceCtorEq, Int.reduceLT, Int.reduceEq, hs, w1, h0, w2, hm]
  refine XO_mks (k := .i64) (k' := .i64) (a := countByte l c + 1) (by simp only [go_sem, Nat.reduceLT, Nat.reduceEqDiff, reduceCtorEq, Int.reduceLT, Int.reduceEq, hs]) (by simp only [go_sem, Nat.reduceLT, Nat.reduceEqDiff, reduceCtorEq, Int.reduceLT, Int.reduceEq, hs]) (by omega) (by omega) ?_
  simp only [go_sem, Nat.reduceLT, Nat.reduceEqDiff, reduceCtorEq, Int.reduceLT, Int.reduceEq, hs, w3, List.length_nil, List.nil_append]
  refine f35_loop hl (countByte l c) l [] _ _ rfl hc hl (by simp only [slot_len, hs]) (by simp only [go_sem, Nat.reduceLT, Nat.reduceEqDiff, reduceCtorEq, Int.reduceLT, Int.reduceEq, hs, h0]) (by simp only [go_sem, Nat.reduceLT, Nat.reduceEqDiff, reduceCtorEq, Int.reduceLT, Int.reduceEq, hs, h1]) (by simp only [go_sem, Nat.reduceLT, Nat.reduceEqDiff, reduceCtorEq, Int.reduceLT, Int.reduceEq, hs, h2]) (by simp only [go_sem, Nat.reduceLT, Nat.reduceEqDiff, reduceCtorEq, Int.reduceLT, Int.reduceEq, hs, List.length_nil, Nat.zero_add]) (by simp only [go_sem, Nat.reduceLT, Nat.reduceEqDiff, reduceCtorEq, Int.reduceLT, Int.reduceEq, hs, List.length_nil, Nat.zero_add]) (by simp only [go_sem, Nat.reduceLT, Nat.reduceEqDiff, reduceCtorEq, Int.reduceLT, Int.reduceEq, hs]; rfl) (fun s' r' done' a0 a1 a2 a3 a4 => ?_)
  have hdl : done'.length ≤ l.length := by
    have := congrArg List.length a1
    rw [hc, List.length_append, List.length_singleton] at this; omega
  have w4 : IntKind.i64.wrap ((done'.length : Int) + 1) = ((done'.length + 1 : Nat) : Int) := by rw [IntWalk.i64_in _ (by omega)]; omega
  have ha : iaO [VO.arr 1 (eT done' ++ [[cT []]]) 0 false] 1 (.own 0 0 0 (done'.length + 1) true) (vi .i64 (done'.length : Int)) = some (.eptr 0 0 done'.length 0, [VO.arr 1 (eT done' ++ [[cT []]]) 0 false]) := by
    rw [ia_own (els := eT done' ++ [[cT []]]) (fr := false) (by omega) rfl (by simp)]
    simp
  have hst : stO [VO.arr 1 (eT done' ++ [[cT []]]) 0 false] 1 (.eptr 0 0 done'.length 0) (txt r') = some (.undef, [VO.arr 1 (eT (splitS c l)) 0 false]) := by
    have he : (eT done' ++ [[cT []]])[done'.length]? = some [cT []] := by
      rw [List.getElem?_append_right (by rw [eT_len]; exact Nat.le_refl _), eT_len, Nat.sub_self]; rfl
    have hset : (eT done' ++ [[cT []]]).set done'.length [cT r'] = eT (splitS c l) := by
      rw [a1, eT_app, ← eT_len (l := done'), set_mid]; rfl
    rw [st_e1 (h := [VO.arr 1 (eT done' ++ [[cT []]]) 0 false]) rfl he (by simp), ← hset]
    rfl
  have hsl : ∃ ex, slO [VO.arr 1 (eT (splitS c l)) 0 false] 1 (.own 0 0 0 (done'.length + 1) true) none (some (vi .i64 ((done'.length + 1 : Nat) : Int))) none = some (.own 0 0 0 (done'.length + 1) ex, [VO.arr 1 (eT (splitS c l)) 0 false]) := by
    refine ⟨true && (done'.length + 1 == done'.length + 1), ?_⟩
    have hx : (0 : Int) ≤ ((done'.length + 1 : Nat) : Int) ∧ ((done'.length + 1 : Nat) : Int) ≤ ((done'.length + 1 : Nat) : Int) := by omega
    simp only [slO, stepI, rhoO, lenV, bnd, intV, Option.map_some, Option.map_none, hx, and_self, if_true]
    simp
  obtain ⟨ex, hsl⟩ := hsl
  have hfin : closRes [VO.arr 1 (eT (splitS c l)) 0 false] (.own 0 0 0 (done'.length + 1) ex) = some (.cv (.sl 1 (eT (splitS c l)) ex)) := by
    have hle : (eT (splitS c l)).length = done'.length + 1 := by rw [eT_len, a1, List.length_append]; rfl
    rw [← hle]
    simp [closRes, closA, Go.Vm.clos]
  simp only [go_sem, Nat.reduceLT, Nat.reduceEqDiff, reduceCtorEq, Int.reduceLT, Int.reduceEq, a0, a2, a3, a4, ha, hst, w4, Option.map_none, Option.map_some, hsl]
  exact ⟨ex, hfin⟩

theorem split_f24 {l : List UInt8} {c : UInt8} (hl : l.length ≤ 1000000000) : ∃ v h' ex, call F 24 [txt l, txt [c]] [] = some (.ret v, h') ∧ closRes h' v = some (.cv (.sl 1 (eT (splitS c l)) ex)) := by
  obtain ⟨v1, g1, n1, ex1, r1⟩ := split_f35 (c := c) hl
  have : Ret F 24 [txt l, txt [c]] [] (Is (.cv (.sl 1 (eT (splitS c l)) ex1)) []) := by
    refine call_E (fn := f24) rfl ?_
    simp only [f24]
    generalize hs0 : ([txt l, txt [c]] ++ List.replicate _ VV.undef : List VV) = s
    have hs : s.length = 8 := by rw [← hs0]; rfl
    have h0 : s.getD 0 .undef = txt l := by rw [← hs0]; rfl
    have h1 : s.getD 1 .undef = txt [c] := by rw [← hs0]; rfl
    clear hs0
    simp only [go_sem, Nat.reduceLT, Nat.reduceEqDiff, reduceCtorEq, Int.reduceLT, Int.reduceEq, hs, h0, h1]
    refine XO_callP (by simp only [List.map, go_sem, Nat.reduceLT, Nat.reduceEqDiff, reduceCtorEq, Int.reduceLT, Int.reduceEq, hs]; rfl) n1 r1 ?_
    simp only [go_sem, Nat.reduceLT, Nat.reduceEqDiff, reduceCtorEq, Int.reduceLT, Int.reduceEq, hs]
    exact Is.refl _ _
  obtain ⟨v, h', e, rfl, rfl⟩ := this
  exact ⟨_, _, ex1, e, rfl⟩
end Go.V09

/-
  Chapter 09: strings.Cut, TrimSuffix; a range over strings.SplitSeq.
-/
set_option linter.unusedSimpArgs false
set_option linter.unusedVariables false
namespace Go.V09
open Go Go.Vm Go.Lib

theorem f47_miss {l : List UInt8} {c : UInt8} (h : c ∉ l) (hi : indexByte l c = -1) : call F 47 [txt l, txt [c]] [] = some (.ret (.tup [txt l, txt [], vb false]), []) := by
  have : Ret F 47 [txt l, txt [c]] [] (Is (.tup [txt l, txt [], vb false]) []) := by
    refine call_E (fn := f47) rfl ?_
    simp only [f47]
    generalize hs0 : ([txt l, txt [c]] ++ List.replicate _ VV.undef : List VV) = s
    have hs : s.length = 23 := by rw [← hs0]; rfl
    have h0 : s.getD 0 .undef = txt l := by rw [← hs0]; rfl
    have h1 : s.getD 1 .undef = txt [c] := by rw [← hs0]; rfl
    clear hs0
    have c1 : ¬ (0 : Int) ≤ -1 := by decide
    simp only [go_sem, Nat.reduceLT, Nat.reduceEqDiff, reduceCtorEq, Int.reduceLT, Int.reduceEq, hs, h0, h1]
    refine XO_callP (by simp only [List.map, go_sem, Nat.reduceLT, Nat.reduceEqDiff, reduceCtorEq, Int.reduceLT, Int.reduceEq, hs]; rfl) (index_f49 l c) rfl ?_
    simp only [go_sem, Nat.reduceLT, Nat.reduceEqDiff, reduceCtorEq, Int.reduceLT, Int.reduceEq, hs, hi, h0, ge_iff_le, c1]
    exact Is.refl _ _
  obtain ⟨v, h', e, rfl, rfl⟩ := this
  exact e
theorem f47_hit {a r : List UInt8} {c : UInt8} (h : c ∉ a) (hl : (a ++ c :: r).length ≤ 1000000000) (hi : indexByte (a ++ c :: r) c = (a.length : Int)) : call F 47 [txt (a ++ c :: r), txt [c]] [] = some (.ret (.tup [txt a, txt r, vb true]), []) := by
  have hrl : (a ++ c :: r).length = a.length + (r.length + 1) := by simp
  have s1 : ssO (txt (a ++ c :: r)) none (some (vi .i64 (a.length : Int))) = some (txt a) := by
    rw [ss_hi (by omega), List.take_left]
  have w2 : IntKind.i64.wrap ((a.length : Int) + 1) = ((a.length + 1 : Nat) : Int) := by rw [IntWalk.i64_in _ (by omega)]; omega
  have s2 : ssO (txt (a ++ c :: r)) (some (vi .i64 ((a.length + 1 : Nat) : Int))) none = some (txt r) := by
    rw [ss_lo (by omega), List.drop_append]
    simp
  have l1 : lnO true (txt [c]) = some (vi .i64 1) := rfl
  generalize hw : a ++ c :: r = w at *
  have : Ret F 47 [txt w, txt [c]] [] (Is (.tup [txt a, txt r, vb true]) []) := by
    refine call_E (fn := f47) rfl ?_
    simp only [f47]
    generalize hs0 : ([txt w, txt [c]] ++ List.replicate _ VV.undef : List VV) = s
    have hs : s.length = 23 := by rw [← hs0]; rfl
    have h0 : s.getD 0 .undef = txt w := by rw [← hs0]; rfl
    have h1 : s.getD 1 .undef = txt [c] := by rw [← hs0]; rfl
    clear hs0
    have c1 : (0 : Int) ≤ (a.length : Int) := by omega
    simp only [go_sem, Nat.reduceLT, Nat.reduceEqDiff, reduceCtorEq, Int.reduceLT, Int.reduceEq, hs, h0, h1]
    refine XO_callP (by simp only [List.map, go_sem, Nat.reduceLT, Nat.reduceEqDiff, reduceCtorEq, Int.reduceLT, Int.reduceEq, hs]; rfl) (index_f49 w c) rfl ?_
    simp only [go_sem, Nat.reduceLT, Nat.reduceEqDiff, reduceCtorEq, Int.reduceLT, Int.reduceEq, hs, hi, h0, ge_iff_le, c1]
    refine X_draw rfl ?_
    simp only [go_sem, Nat.reduceLT, Nat.reduceEqDiff, reduceCtorEq, Int.reduceLT, Int.reduceEq, hs, h0, h1, s1, l1, w2, s2, Option.map_none, Option.map_some]
    exact Is.refl _ _
  obtain ⟨v, h', e, rfl, rfl⟩ := this
  exact e
theorem f37_of {l : List UInt8} {c : UInt8} {x y : List UInt8} {b : Bool} (h : call F 47 [txt l, txt [c]] [] = some (.ret (.tup [txt x, txt y, vb b]), [])) : call F 37 [txt l, txt [c]] [] = some (.ret (.tup [txt x, txt y, vb b]), []) := by
  have : Ret F 37 [txt l, txt [c]] [] (Is (.tup [txt x, txt y, vb b]) []) := by
    refine call_E (fn := f37) rfl ?_
    simp only [f37]
    generalize hs0 : ([txt l, txt [c]] ++ List.replicate _ VV.undef : List VV) = s
    have hs : s.length = 13 := by rw [← hs0]; rfl
    have h0 : s.getD 0 .undef = txt l := by rw [← hs0]; rfl
    have h1 : s.getD 1 .undef = txt [c] := by rw [← hs0]; rfl
    clear hs0
    simp only [go_sem, Nat.reduceLT, Nat.reduceEqDiff, reduceCtorEq, Int.reduceLT, Int.reduceEq, hs, h0, h1]
    refine XO_callP (by simp only [List.map, go_sem, Nat.reduceLT, Nat.reduceEqDiff, reduceCtorEq, Int.reduceLT, Int.reduceEq, hs]; rfl) h rfl ?_
    simp only [go_sem, Nat.reduceLT, Nat.reduceEqDiff, reduceCtorEq, Int.reduceLT, Int.reduceEq, hs]
    exact Is.refl _ _
  obtain ⟨v, h', e, rfl, rfl⟩ := this
  exact e

/-- Does a text end so? -/
def endsW (l t : List UInt8) : Bool := decide (t.length ≤ l.length) && decide (l.drop (l.length - t.length) = t)
def trimW (l t : List UInt8) : List UInt8 := if endsW l t then l.take (l.length - t.length) else l
theorem ends_f46 {l t : List UInt8} (hl : l.length ≤ 1000000000) : call F 46 [txt l, txt t] [] = some (.ret (vb (endsW l t)), []) := by
  have : Ret F 46 [txt l, txt t] [] (Is (vb (endsW l t)) []) := by
    refine call_E (fn := f46) rfl ?_
    simp only [f46]
    generalize hs0 : ([txt l, txt t] ++ List.replicate _ VV.undef : List VV) = s
    have hs : s.length = 21 := by rw [← hs0]; rfl
    have h0 : s.getD 0 .undef = txt l := by rw [← hs0]; rfl
    have h1 : s.getD 1 .undef = txt t := by rw [← hs0]; rfl
    clear hs0
    unfold endsW
    by_cases c1 : t.length ≤ l.length
    · have c2 : (t.length : Int) ≤ (l.length : Int) := by omega
      have w1 : IntKind.i64.wrap ((l.length : Int) - (t.length : Int)) = ((l.length - t.length : Nat) : Int) := by rw [IntWalk.i64_in _ (by omega)]; omega
      have s1 : ssO (txt l) (some (vi .i64 ((l.length - t.length : Nat) : Int))) none = some (txt (l.drop (l.length - t.length))) := ss_lo (by omega)
      simp only [go_sem, Nat.reduceLT, Nat.reduceEqDiff, reduceCtorEq, Int.reduceLT, Int.reduceEq, hs, h0, h1, ge_iff_le, c2, w1, s1, Option.map_none, Option.map_some]
      simp only [c1, decide_true, Bool.true_and]
      exact Is.refl _ _
    · have c2 : ¬ (t.length : Int) ≤ (l.length : Int) := by omega
      simp only [go_sem, Nat.reduceLT, Nat.reduceEqDiff, reduceCtorEq, Int.reduceLT, Int.reduceEq, hs, h0, h1, ge_iff_le, c2]
      simp only [c1, decide_false, Bool.false_and]
      exact Is.refl _ _
  obtain ⟨v, h', e, rfl, rfl⟩ := this
  exact e
theorem trim_f36 {l t : List UInt8} (hl : l.length ≤ 1000000000) : call F 36 [txt l, txt t] [] = some (.ret (txt (trimW l t)), []) := by
  have : Ret F 36 [txt l, txt t] [] (Is (txt (trimW l t)) []) := by
    refine call_E (fn := f36) rfl ?_
    simp only [f36]
    generalize hs0 : ([txt l, txt t] ++ List.replicate _ VV.undef : List VV) = s
    have hs : s.length = 16 := by rw [← hs0]; rfl
    have h0 : s.getD 0 .undef = txt l := by rw [← hs0]; rfl
    have h1 : s.getD 1 .undef = txt t := by rw [← hs0]; rfl
    clear hs0
    simp only [go_sem, Nat.reduceLT, Nat.reduceEqDiff, reduceCtorEq, Int.reduceLT, Int.reduceEq, hs, h0, h1]
    rw [X_eq f36_0.eq_1]
    simp only [go_sem, Nat.reduceLT, Nat.reduceEqDiff, reduceCtorEq, Int.reduceLT, Int.reduceEq, hs, h0, h1]
    refine XO_callP (by simp only [List.map, go_sem, Nat.reduceLT, Nat.reduceEqDiff, reduceCtorEq, Int.reduceLT, Int.reduceEq, hs]; rfl) (ends_f46 hl) rfl ?_
    unfold trimW
    cases he : endsW l t with
    | true =>
      have c1 : t.length ≤ l.length := by
        unfold endsW at he
        simp only [Bool.and_eq_true, decide_eq_true_eq] at he
        exact he.1
      have w1 : IntKind.i64.wrap ((l.length : Int) - (t.length : Int)) = ((l.length - t.length : Nat) : Int) := by rw [IntWalk.i64_in _ (by omega)]; omega
      have s1 : ssO (txt l) none (some (vi .i64 ((l.length - t.length : Nat) : Int))) = some (txt (l.take (l.length - t.length))) := ss_hi (by omega)
      simp only [go_sem, Nat.reduceLT, Nat.reduceEqDiff, reduceCtorEq, Int.reduceLT, Int.reduceEq, hs, h0, h1, w1, s1, Option.map_none, Option.map_some]
      exact Is.refl _ _
    | false =>
      simp only [go_sem, Nat.reduceLT, Nat.reduceEqDiff, reduceCtorEq, Int.reduceLT, Int.reduceEq, hs, h0, Bool.false_eq_true]
      exact Is.refl _ _
  obtain ⟨v, h', e, rfl, rfl⟩ := this
  exact e
theorem trim_f25 {l t : List UInt8} (hl : l.length ≤ 1000000000) : call F 25 [txt l, txt t] [] = some (.ret (txt (trimW l t)), []) := by
  have : Ret F 25 [txt l, txt t] [] (Is (txt (trimW l t)) []) := by
    refine call_E (fn := f25) rfl ?_
    simp only [f25]
    generalize hs0 : ([txt l, txt t] ++ List.replicate _ VV.undef : List VV) = s
    have hs : s.length = 8 := by rw [← hs0]; rfl
    have h0 : s.getD 0 .undef = txt l := by rw [← hs0]; rfl
    have h1 : s.getD 1 .undef = txt t := by rw [← hs0]; rfl
    clear hs0
    simp only [go_sem, Nat.reduceLT, Nat.reduceEqDiff, reduceCtorEq, Int.reduceLT, Int.reduceEq, hs, h0, h1]
    refine XO_callP (by simp only [List.map, go_sem, Nat.reduceLT, Nat.reduceEqDiff, reduceCtorEq, Int.reduceLT, Int.reduceEq, hs]; rfl) (trim_f36 hl) rfl ?_
    simp only [go_sem, Nat.reduceLT, Nat.reduceEqDiff, reduceCtorEq, Int.reduceLT, Int.reduceEq, hs]
    exact Is.refl _ _
  obtain ⟨v, h', e, rfl, rfl⟩ := this
  exact e
end Go.V09

/-
  Chapter 09: a range over strings.SplitSeq.
-/
set_option linter.unusedSimpArgs false
set_option linter.unusedVariables false
namespace Go.V09
open Go Go.Vm Go.Lib

section
variable {c : UInt8} {l : List UInt8} {k : Nat} {L : VO} {I : List (List UInt8) → List VO → Prop} {E : List VO → VO → Prop}

/-- The heap of a range over a text's parts. -/
abbrev hp (c : UInt8) (pre : List VO) (x : VV) (L : VO) : Heap := pre ++ [.box [x] false, .box [txt [c]] false, .box [vi .i64 0] false, L]
theorem hp0 {c : UInt8} {pre : List VO} {x : VV} {L : VO} (h : pre.length = k) : (hp c pre x L)[k]? = some (.box [x] false) := by
  subst h; rw [List.getElem?_append_right (Nat.le_refl _), Nat.sub_self]; rfl
theorem hp1 {c : UInt8} {pre : List VO} {x : VV} {L : VO} (h : pre.length = k) : (hp c pre x L)[k + 1]? = some (.box [txt [c]] false) := by
  subst h; rw [List.getElem?_append_right (by omega), Nat.add_sub_cancel_left]; rfl
theorem hp2 {c : UInt8} {pre : List VO} {x : VV} {L : VO} (h : pre.length = k) : (hp c pre x L)[k + 2]? = some (.box [vi .i64 0] false) := by
  subst h; rw [List.getElem?_append_right (by omega), Nat.add_sub_cancel_left]; rfl
theorem hp3 {c : UInt8} {pre : List VO} {x : VV} {L : VO} (h : pre.length = k) : (hp c pre x L)[k + 3]? = some L := by
  subst h; rw [List.getElem?_append_right (by omega), Nat.add_sub_cancel_left]; rfl
theorem hpset {c : UInt8} {pre : List VO} {x y : VV} {L : VO} (h : pre.length = k) : (hp c pre x L).set k (.box [y] false) = hp c pre y L := by
  subst h; exact set_mid
theorem hpset3 {c : UInt8} {pre : List VO} {x : VV} {L L' : VO} (h : pre.length = k) : (hp c pre x L).set (k + 3) L' = hp c pre x L' := by
  subst h
  unfold hp
  rw [List.set_append_right _ _ (by omega), Nat.add_sub_cancel_left]; rfl
/-- What the round of a part must do. -/
def Step (c : UInt8) (l : List UInt8) (k : Nat) (L : VO) (I : List (List UInt8) → List VO → Prop) (E : List VO → VO → Prop) : Prop :=
  ∀ (done : List (List UInt8)) (p : List UInt8) (rest : List (List UInt8)) (pre : List VO) (x : VV), splitS c l = done ++ p :: rest → I done pre → pre.length = k →
    (∃ pre', call F (YB + (k + 3)) [txt p] (hp c pre x L) = some (.ret (vb true), hp c pre' x L) ∧ pre'.length = k ∧ I (done ++ [p]) pre') ∨
    (∃ pre' L', call F (YB + (k + 3)) [txt p] (hp c pre x L) = some (.ret (vb false), hp c pre' x L') ∧ pre'.length = k ∧ E pre' L')

/-- How it ends. -/
def Ended (c : UInt8) (l : List UInt8) (k : Nat) (L : VO) (I : List (List UInt8) → List VO → Prop) (E : List VO → VO → Prop) (g : Heap) : Prop :=
  (∃ pre x, g = hp c pre x L ∧ pre.length = k ∧ I (splitS c l) pre) ∨ (∃ pre x L', g = hp c pre x L' ∧ pre.length = k ∧ E pre L')

theorem f41_loop (hst : Step c l k L I E) : ∀ (m : Nat) (r : List UInt8) (done : List (List UInt8)) (pre : List VO) (s : List VV) (Q : Pst), splitS c l = done ++ splitS c r → (splitS c r).length = m + 1 → r.length ≤ 1000000000 → I done pre → pre.length = k → s.length = 52 →
    s.getD 0 .undef = .yield (k + 3) → s.getD 1 .undef = .ptr (k + 1) 0 → s.getD 2 .undef = .ptr k 0 → s.getD 3 .undef = .ptr (k + 2) 0 →
    (∀ s' r' done' pre', s'.length = 52 → s'.getD 0 .undef = .yield (k + 3) → s'.getD 2 .undef = .ptr k 0 → splitS c l = done' ++ [r'] → I done' pre' → pre'.length = k → Q (.exit 2) ⟨s', hp c pre' (txt r') L⟩) →
    (∀ s' g, Ended c l k L I E g → Q .ret ⟨s', g⟩) → X F (.loop f41_4) ⟨s, hp c pre (txt r) L⟩ Q := by
  intro m
  induction m with
  | zero =>
    intro r done pre s Q hsp hk hr hI hpl hs e0 e1 e2 e3 hQ hR
    obtain ⟨h1, h2⟩ := splitS_one hk
    rw [h1] at hsp
    have hi : indexByte r c = -1 := by
      rcases ix_cases c r with ⟨h, _⟩ | ⟨a, r', rfl, _, _⟩
      · exact h
      · exact absurd h2 (by simp)
    rw [X_loop, X_eq f41_4.eq_1]
    simp only [go_sem, Nat.reduceLT, Nat.reduceEqDiff, reduceCtorEq, Int.reduceLT, Int.reduceEq, hs, e2, e1, ld_p0 (hp0 hpl), ld_p0 (hp1 hpl)]
    refine XO_callP (by simp only [List.map, go_sem, Nat.reduceLT, Nat.reduceEqDiff, reduceCtorEq, Int.reduceLT, Int.reduceEq, hs]; rfl) (index_f43 r c) rfl ?_
    simp only [go_sem, Nat.reduceLT, Nat.reduceEqDiff, reduceCtorEq, Int.reduceLT, Int.reduceEq, hs, hi]
    rw [X_eq f41_2.eq_1]
    simp only [go_sem, Nat.reduceLT, Nat.reduceEqDiff, reduceCtorEq, Int.reduceLT, Int.reduceEq, hs]
    exact hQ _ r done pre (by simp only [slot_len, hs]) (by simp only [go_sem, Nat.reduceLT, Nat.reduceEqDiff, reduceCtorEq, Int.reduceLT, Int.reduceEq, e0]) (by simp only [go_sem, Nat.reduceLT, Nat.reduceEqDiff, reduceCtorEq, Int.reduceLT, Int.reduceEq, e2]) hsp hI hpl
  | succ m ih =>
    intro r done pre s Q hsp hk hr hI hpl hs e0 e1 e2 e3 hQ hR
    obtain ⟨a, r', rfl, h2, h3, h4, h5⟩ := splitS_two hk
    have hrl : (a ++ c :: r').length = a.length + (r'.length + 1) := by simp
    have c2 : ¬ ((a.length : Nat) : Int) < 0 := by omega
    have w1 : IntKind.i64.wrap ((a.length : Int) + 0) = ((a.length : Nat) : Int) := by rw [IntWalk.i64_in _ (by omega)]; omega
    have w2 : IntKind.i64.wrap ((a.length : Int) + 1) = ((a.length + 1 : Nat) : Int) := by rw [IntWalk.i64_in _ (by omega)]; omega
    have s1 : ssO (txt (a ++ c :: r')) none (some (vi .i64 (a.length : Int))) = some (txt a) := by
      rw [ss_hi (by omega), List.take_left]
    have s2 : ssO (txt (a ++ c :: r')) (some (vi .i64 ((a.length + 1 : Nat) : Int))) none = some (txt r') := by
      rw [ss_lo (by omega), List.drop_append]
      simp
    have l1 : lnO true (txt [c]) = some (vi .i64 1) := rfl
    generalize hw : a ++ c :: r' = w at *
    rw [h4] at hsp
    rw [X_loop, X_eq f41_4.eq_1]
    simp only [go_sem, Nat.reduceLT, Nat.reduceEqDiff, reduceCtorEq, Int.reduceLT, Int.reduceEq, hs, e2, e1, ld_p0 (hp0 hpl), ld_p0 (hp1 hpl)]
    refine XO_callP (by simp only [List.map, go_sem, Nat.reduceLT, Nat.reduceEqDiff, reduceCtorEq, Int.reduceLT, Int.reduceEq, hs]; rfl) (index_f43 w c) rfl ?_
    simp only [go_sem, Nat.reduceLT, Nat.reduceEqDiff, reduceCtorEq, Int.reduceLT, Int.reduceEq, hs, h3]
    rw [X_eq f41_2.eq_1]
    simp only [go_sem, Nat.reduceLT, Nat.reduceEqDiff, reduceCtorEq, Int.reduceLT, Int.reduceEq, hs, c2, e2, e3, ld_p0 (hp0 hpl), ld_p0 (hp2 hpl), w1, s1, Option.map_none, Option.map_some]
    rw [X_eq f41_3.eq_1]
    simp only [go_sem, Nat.reduceLT, Nat.reduceEqDiff, reduceCtorEq, Int.reduceLT, Int.reduceEq, hs, e0]
    rcases hst done a (splitS c r') pre (txt w) hsp hI hpl with ⟨pre', n1, p1, p2⟩ | ⟨pre', L', n1, p1, p2⟩
    · refine XO_yield (id := k + 3) (by simp only [go_sem, Nat.reduceLT, Nat.reduceEqDiff, reduceCtorEq, Int.reduceLT, Int.reduceEq, hs, e0]) (by simp only [List.map, go_sem, Nat.reduceLT, Nat.reduceEqDiff, reduceCtorEq, Int.reduceLT, Int.reduceEq, hs]; exact n1) ?_
      have st := st_1 (v := txt r') rfl (hp0 (c := c) (x := txt w) (L := L) p1) (show 0 < 1 by decide)
      simp only [List.set_cons_zero, hpset p1] at st
      simp only [go_sem, Nat.reduceLT, Nat.reduceEqDiff, reduceCtorEq, Int.reduceLT, Int.reduceEq, hs, e2, e1, ld_p0 (hp0 p1), ld_p0 (hp1 p1), l1, w2, s2, Option.map_none, Option.map_some, st]
      exact ih r' (done ++ [a]) pre' _ Q (by rw [hsp, List.append_assoc]; rfl) h5 (by omega) p2 p1 (by simp only [slot_len, hs]) (by simp only [go_sem, Nat.reduceLT, Nat.reduceEqDiff, reduceCtorEq, Int.reduceLT, Int.reduceEq, e0]) (by simp only [go_sem, Nat.reduceLT, Nat.reduceEqDiff, reduceCtorEq, Int.reduceLT, Int.reduceEq, e1]) (by simp only [go_sem, Nat.reduceLT, Nat.reduceEqDiff, reduceCtorEq, Int.reduceLT, Int.reduceEq, e2]) (by simp only [go_sem, Nat.reduceLT, Nat.reduceEqDiff, reduceCtorEq, Int.reduceLT, Int.reduceEq, e3]) hQ hR
    · refine XO_yield (id := k + 3) (by simp only [go_sem, Nat.reduceLT, Nat.reduceEqDiff, reduceCtorEq, Int.reduceLT, Int.reduceEq, hs, e0]) (by simp only [List.map, go_sem, Nat.reduceLT, Nat.reduceEqDiff, reduceCtorEq, Int.reduceLT, Int.reduceEq, hs]; exact n1) ?_
      simp only [go_sem, Nat.reduceLT, Nat.reduceEqDiff, reduceCtorEq, Int.reduceLT, Int.reduceEq, hs]
      exact hR _ _ (.inr ⟨pre', _, L', rfl, p1, p2⟩)

theorem iter_f41 (hst : Step c l k L I E) (hl : l.length ≤ 1000000000) {pre : List VO} (hI : I [] pre) (hpl : pre.length = k) : Ret F 41 [.yield (k + 3), .ptr (k + 1) 0, .ptr k 0, .ptr (k + 2) 0] (hp c pre (txt l) L) fun v g => Ended c l k L I E g := by
  refine call_E (fn := f41) rfl ?_
  simp only [f41]
  generalize hs0 : ([.yield (k + 3), .ptr (k + 1) 0, .ptr k 0, .ptr (k + 2) 0] ++ List.replicate _ VV.undef : List VV) = s
  have hs : s.length = 52 := by rw [← hs0]; rfl
  have h0 : s.getD 0 .undef = .yield (k + 3) := by rw [← hs0]; rfl
  have h1 : s.getD 1 .undef = .ptr (k + 1) 0 := by rw [← hs0]; rfl
  have h2 : s.getD 2 .undef = .ptr k 0 := by rw [← hs0]; rfl
  have h3 : s.getD 3 .undef = .ptr (k + 2) 0 := by rw [← hs0]; rfl
  clear hs0
  have l1 : lnO true (txt [c]) = some (vi .i64 1) := rfl
  simp only [go_sem, Nat.reduceLT, Nat.reduceEqDiff, reduceCtorEq, Int.reduceLT, Int.reduceEq, hs]
  rw [X_eq f41_1.eq_1]
  simp only [go_sem, Nat.reduceLT, Nat.reduceEqDiff, reduceCtorEq, Int.reduceLT, Int.reduceEq, hs, h1, ld_p0 (hp1 hpl), l1]
  refine f41_loop hst (countByte l c) l [] pre _ _ rfl (count_split l) hl hI hpl (by simp only [slot_len, hs]) (by simp only [go_sem, Nat.reduceLT, Nat.reduceEqDiff, reduceCtorEq, Int.reduceLT, Int.reduceEq, h0]) (by simp only [go_sem, Nat.reduceLT, Nat.reduceEqDiff, reduceCtorEq, Int.reduceLT, Int.reduceEq, h1]) (by simp only [go_sem, Nat.reduceLT, Nat.reduceEqDiff, reduceCtorEq, Int.reduceLT, Int.reduceEq, h2]) (by simp only [go_sem, Nat.reduceLT, Nat.reduceEqDiff, reduceCtorEq, Int.reduceLT, Int.reduceEq, h3]) (fun s' r' done' pre' a0 a1 a2 a3 a4 a5 => ?_) (fun s' g hE => ?_)
  · simp only [go_sem, Nat.reduceLT, Nat.reduceEqDiff, reduceCtorEq, Int.reduceLT, Int.reduceEq, a0, a1, a2, ld_p0 (hp0 a5)]
    rcases hst done' r' [] pre' (txt r') a3 a4 a5 with ⟨pre'', n1, p1, p2⟩ | ⟨pre'', L', n1, p1, p2⟩
    · refine XO_yield (id := k + 3) (by simp only [go_sem, Nat.reduceLT, Nat.reduceEqDiff, reduceCtorEq, Int.reduceLT, Int.reduceEq, a0, a1]) (by simp only [List.map, go_sem, Nat.reduceLT, Nat.reduceEqDiff, reduceCtorEq, Int.reduceLT, Int.reduceEq, a0]; exact n1) ?_
      simp only [go_sem, Nat.reduceLT, Nat.reduceEqDiff, reduceCtorEq, Int.reduceLT, Int.reduceEq, a0]
      refine .inl ⟨pre'', _, rfl, p1, ?_⟩
      rw [a3]; exact p2
    · refine XO_yield (id := k + 3) (by simp only [go_sem, Nat.reduceLT, Nat.reduceEqDiff, reduceCtorEq, Int.reduceLT, Int.reduceEq, a0, a1]) (by simp only [List.map, go_sem, Nat.reduceLT, Nat.reduceEqDiff, reduceCtorEq, Int.reduceLT, Int.reduceEq, a0]; exact n1) ?_
      simp only [go_sem, Nat.reduceLT, Nat.reduceEqDiff, reduceCtorEq, Int.reduceLT, Int.reduceEq, a0]
      exact .inr ⟨pre'', _, L', rfl, p1, p2⟩
  · simp only [go_sem, Nat.reduceLT, Nat.reduceEqDiff, reduceCtorEq, Int.reduceLT, Int.reduceEq]
    exact hE
end
end Go.V09

/-
  Chapter 09: topic.Right.
-/
set_option linter.unusedSimpArgs false
set_option linter.unusedVariables false
namespace Go.V09
open Go Go.Vm Go.Lib

section
variable {c : UInt8} {l : List UInt8} {k : Nat} {pre : List VO}
theorem seq_f34 (hpl : pre.length = k) : call F 34 [txt l, txt [c], vi .i64 0] pre = some (.ret (.func 41 [.ptr (k + 1) 0, .ptr k 0, .ptr (k + 2) 0]), pre ++ [.box [txt l] false, .box [txt [c]] false, .box [vi .i64 0] false]) := by
  have : Ret F 34 [txt l, txt [c], vi .i64 0] pre (Is (.func 41 [.ptr (k + 1) 0, .ptr k 0, .ptr (k + 2) 0]) (pre ++ [.box [txt l] false, .box [txt [c]] false, .box [vi .i64 0] false])) := by
    refine call_E (fn := f34) rfl ?_
    simp only [f34]
    generalize hs0 : ([txt l, txt [c], vi .i64 0] ++ List.replicate _ VV.undef : List VV) = s
    have hs : s.length = 8 := by rw [← hs0]; rfl
    have h0 : s.getD 0 .undef = txt l := by rw [← hs0]; rfl
    have h1 : s.getD 1 .undef = txt [c] := by rw [← hs0]; rfl
    have h2 : s.getD 2 .undef = vi .i64 0 := by rw [← hs0]; rfl
    clear hs0
    subst hpl
    simp only [go_sem, Nat.reduceLT, Nat.reduceEqDiff, reduceCtorEq, Int.reduceLT, Int.reduceEq, hs, h0]
    rw [bx_1 rfl]
    simp only [go_sem, Nat.reduceLT, Nat.reduceEqDiff, reduceCtorEq, Int.reduceLT, Int.reduceEq, hs, h1]
    rw [bx_1 rfl]
    simp only [go_sem, Nat.reduceLT, Nat.reduceEqDiff, reduceCtorEq, Int.reduceLT, Int.reduceEq, hs, h2]
    rw [bx_1 rfl]
    simp only [go_sem, Nat.reduceLT, Nat.reduceEqDiff, reduceCtorEq, Int.reduceLT, Int.reduceEq, hs, List.length_append, List.length_singleton, List.append_assoc, List.singleton_append, List.cons_append, List.nil_append]
    simp only [List.map, go_sem, Nat.reduceLT, Nat.reduceEqDiff, reduceCtorEq, Int.reduceLT, Int.reduceEq, hs, List.length_cons, List.length_nil, Nat.zero_add, Nat.reduceAdd]
    exact Is.refl _ _
  obtain ⟨v, h', e, rfl, rfl⟩ := this
  exact e
theorem seq_f22 (hpl : pre.length = k) : call F 22 [txt l, txt [c]] pre = some (.ret (.func 41 [.ptr (k + 1) 0, .ptr k 0, .ptr (k + 2) 0]), pre ++ [.box [txt l] false, .box [txt [c]] false, .box [vi .i64 0] false]) := by
  have : Ret F 22 [txt l, txt [c]] pre (Is (.func 41 [.ptr (k + 1) 0, .ptr k 0, .ptr (k + 2) 0]) (pre ++ [.box [txt l] false, .box [txt [c]] false, .box [vi .i64 0] false])) := by
    refine call_E (fn := f22) rfl ?_
    simp only [f22]
    generalize hs0 : ([txt l, txt [c]] ++ List.replicate _ VV.undef : List VV) = s
    have hs : s.length = 8 := by rw [← hs0]; rfl
    have h0 : s.getD 0 .undef = txt l := by rw [← hs0]; rfl
    have h1 : s.getD 1 .undef = txt [c] := by rw [← hs0]; rfl
    clear hs0
    simp only [go_sem, Nat.reduceLT, Nat.reduceEqDiff, reduceCtorEq, Int.reduceLT, Int.reduceEq, hs, h0, h1]
    refine XO_callR (by simp only [List.map, go_sem, Nat.reduceLT, Nat.reduceEqDiff, reduceCtorEq, Int.reduceLT, Int.reduceEq, hs]; exact seq_f34 hpl) ?_
    simp only [go_sem, Nat.reduceLT, Nat.reduceEqDiff, reduceCtorEq, Int.reduceLT, Int.reduceEq, hs]
    exact Is.refl _ _
  obtain ⟨v, h', e, rfl, rfl⟩ := this
  exact e

/-- A range over a text's parts. -/
theorem range_split {x : Opd} {ps : List Nat} {asg body : IR} {s : List VV} {Q : Pst} {I : List (List UInt8) → List VO → Prop} {EP : List VO → Jmp → Prop} (hx : evalO s x = .func 41 [.ptr (k + 1) 0, .ptr k 0, .ptr (k + 2) 0])
    (hst : Step c l k (.loop ps asg body s .ready none) I (fun pre' L' => ∃ j, L' = .loop ps asg body s .done (some j) ∧ EP pre' j)) (hl : l.length ≤ 1000000000) (hI : I [] pre) (hpl : pre.length = k)
    (h1 : ∀ pre' y, pre'.length = k → I (splitS c l) pre' → Q .norm ⟨s, hp c pre' y (.loop ps asg body s .exhausted none)⟩)
    (h2 : ∀ pre' y j, pre'.length = k → EP pre' j → Q (outOf (some j)) ⟨s, hp c pre' y (.loop ps asg body s .exhausted (some j))⟩) :
    X F (.rangeF x ps asg body) ⟨s, pre ++ [.box [txt l] false, .box [txt [c]] false, .box [vi .i64 0] false]⟩ Q := by
  have hlen : (pre ++ [VO.box [txt l] false, .box [txt [c]] false, .box [vi .i64 0] false]).length = k + 3 := by rw [List.length_append, hpl]; rfl
  obtain ⟨v, g, n1, hE⟩ := iter_f41 hst hl hI hpl
  have e1 : (pre ++ [VO.box [txt l] false, .box [txt [c]] false, .box [vi .i64 0] false]) ++ [.loop ps asg body s .ready none] = hp c pre (txt l) (.loop ps asg body s .ready none) := by
    rw [List.append_assoc]; rfl
  rcases hE with ⟨pre', y, rfl, p1, p2⟩ | ⟨pre', y, L', rfl, p1, j, rfl, p2⟩
  · refine X_rangeF (f := 41) (t := .ready) (p := none) hx (by rw [hlen, e1]; exact n1) (by rw [hlen]; exact hp3 p1) (by intro e; cases e) ?_
    rw [hlen, hpset3 p1]
    exact h1 pre' y p1 p2
  · refine X_rangeF (f := 41) (t := .done) (p := some j) hx (by rw [hlen, e1]; exact n1) (by rw [hlen]; exact hp3 p1) (by intro e; cases e) ?_
    rw [hlen, hpset3 p1]
    exact h2 pre' y j p1 p2
end

/-- May a topic be? -/
def rightB (l : List UInt8) : Bool := (splitS 47 l).all wordB && decide (l.length ≤ 30)

theorem right_step {l : List UInt8} {s : List VV} (hs : s.length = 13) (e2 : s.getD 2 .undef = .ptr 0 0) : Step 47 l 1 (.loop [6] f12_0 f12_1 s .ready none) (fun done pre => (∀ p ∈ done, wordB p = true) ∧ pre = [.box [vb false] false])
    (fun pre' L' => ∃ j, L' = .loop [6] f12_0 f12_1 s .done (some j) ∧ (j = .ret ∧ (∃ p ∈ splitS 47 l, wordB p = false) ∧ pre' = [.box [vb false] false])) := by
  rintro done p rest pre x hsp ⟨hd, rfl⟩ hpl
  have key := round_X (F := F) (id := 1 + 3) (yb_none _) (ps := [6]) (asg := f12_0) (body := f12_1) (s0 := s) (a := [txt p]) (h := hp 47 [.box [vb false] false] x (.loop [6] f12_0 f12_1 s .ready none)) (t0 := .ready) (p0 := none)
    (P := fun v h' => (wordB p = true ∧ v = vb true ∧ h' = hp 47 [.box [vb false] false] x (.loop [6] f12_0 f12_1 s .ready none)) ∨ (wordB p = false ∧ v = vb false ∧ h' = hp 47 [.box [vb false] false] x (.loop [6] f12_0 f12_1 s .done (some .ret)))) (hp3 (k := 1) rfl) rfl ?_
  · obtain ⟨v, h', e1, ⟨hw, rfl, rfl⟩ | ⟨hw, rfl, rfl⟩⟩ := key
    · exact .inl ⟨_, e1, rfl, fun q hq => (List.mem_append.1 hq).elim (hd q) (fun h => by rw [List.mem_singleton.1 h]; exact hw), rfl⟩
    · exact .inr ⟨_, _, e1, rfl, _, rfl, rfl, ⟨p, by rw [hsp]; simp, hw⟩, rfl⟩
  have hset : setAll s [6] [txt p] = s.set 6 (txt p) := rfl
  rw [hset, X_eq f12_0.eq_1]
  simp only [go_sem, Nat.reduceLT, Nat.reduceEqDiff, reduceCtorEq, Int.reduceLT, Int.reduceEq, hs]
  refine ⟨rfl, none, hp3 (k := 1) rfl, ?_⟩
  dsimp only
  rw [hpset3 (k := 1) rfl, X_eq f12_1.eq_1]
  simp only [go_sem, Nat.reduceLT, Nat.reduceEqDiff, reduceCtorEq, Int.reduceLT, Int.reduceEq, hs]
  refine XO_callP (by simp only [List.map, go_sem, Nat.reduceLT, Nat.reduceEqDiff, reduceCtorEq, Int.reduceLT, Int.reduceEq, hs]; rfl) (call23 p []) rfl ?_
  cases hw : wordB p with
  | true =>
    simp only [go_sem, Nat.reduceLT, Nat.reduceEqDiff, reduceCtorEq, Int.reduceLT, Int.reduceEq, hs]
    exact ⟨none, .busy, none, rfl, hp3 (k := 1) rfl, .inl ⟨trivial, rfl, by rw [hpset3 (k := 1) rfl]; rfl⟩⟩
  | false =>
    have st := st_1 (h := hp 47 [.box [vb false] false] x (.loop [6] f12_0 f12_1 s .busy none)) (id := 0) (off := 0) (cells := [vb false]) (v := vb false) rfl rfl (by decide)
    simp only [go_sem, Nat.reduceLT, Nat.reduceEqDiff, reduceCtorEq, Int.reduceLT, Int.reduceEq, hs, e2, st]
    exact ⟨some .ret, .busy, none, rfl, rfl, .inr ⟨trivial, rfl, rfl⟩⟩

theorem right_f12 {l : List UInt8} (hl : l.length ≤ 1000000000) : RetP F 12 [txt l] (fun v => v = vb (rightB l)) := by
  have : Ret F 12 [txt l] [] fun v g => v = vb (rightB l) := by
    refine call_E (fn := f12) rfl ?_
    simp only [f12]
    generalize hs0 : ([txt l] ++ List.replicate _ VV.undef : List VV) = s
    have hs : s.length = 13 := by rw [← hs0]; rfl
    have h0 : s.getD 0 .undef = txt l := by rw [← hs0]; rfl
    clear hs0
    simp only [go_sem, Nat.reduceLT, Nat.reduceEqDiff, reduceCtorEq, Int.reduceLT, Int.reduceEq, hs, h0, List.nil_append, List.length_nil]
    refine XO_callR (by simp only [List.map, go_sem, Nat.reduceLT, Nat.reduceEqDiff, reduceCtorEq, Int.reduceLT, Int.reduceEq, hs]; exact seq_f22 (k := 1) rfl) ?_
    simp only [go_sem, Nat.reduceLT, Nat.reduceEqDiff, reduceCtorEq, Int.reduceLT, Int.reduceEq, hs]
    generalize hs1 : ((s.set 2 (VV.ptr 0 0)).set 4 (txt l)).set 5 (VV.func 41 [VV.ptr (1 + 1) 0, VV.ptr 1 0, VV.ptr (1 + 2) 0]) = s1
    have a0 : s1.length = 13 := by rw [← hs1]; simp only [slot_len, hs]
    have a1 : s1.getD 0 .undef = txt l := by rw [← hs1]; simp only [go_sem, Nat.reduceLT, Nat.reduceEqDiff, reduceCtorEq, Int.reduceLT, Int.reduceEq, h0]
    have a2 : s1.getD 2 .undef = .ptr 0 0 := by rw [← hs1]; simp only [go_sem, Nat.reduceLT, Nat.reduceEqDiff, reduceCtorEq, Int.reduceLT, Int.reduceEq, hs]
    have a5 : s1.getD 5 .undef = .func 41 [.ptr (1 + 1) 0, .ptr 1 0, .ptr (1 + 2) 0] := by rw [← hs1]; simp only [go_sem, Nat.reduceLT, Nat.reduceEqDiff, reduceCtorEq, Int.reduceLT, Int.reduceEq, hs]
    refine range_split (k := 1) a5 (right_step a0 a2) hl ⟨fun p hp => by simp at hp, rfl⟩ rfl ?_ ?_
    · rintro pre' y hpl ⟨hall, rfl⟩
      have hr : rightB l = decide (l.length ≤ 30) := by
        unfold rightB
        rw [List.all_eq_true.2 hall, Bool.true_and]
      have st := st_1 (h := hp 47 [.box [vb false] false] y (.loop [6] f12_0 f12_1 s1 .exhausted none)) (id := 0) (off := 0) (cells := [vb false]) (v := vb (decide ((l.length : Int) ≤ 30))) rfl rfl (by decide)
      simp only [go_sem, Nat.reduceLT, Nat.reduceEqDiff, reduceCtorEq, Int.reduceLT, Int.reduceEq, a0, a1, a2, st]
      have e : decide ((l.length : Int) ≤ 30) = decide (l.length ≤ 30) := by
        congr 1; apply propext; omega
      refine ⟨trivial, [vb (decide ((l.length : Int) ≤ 30))], ?_, by rw [hr, ← e]; rfl⟩
      simp only [resAll, resOf, go_sem, Nat.reduceLT, Nat.reduceEqDiff, reduceCtorEq, Int.reduceLT, Int.reduceEq, a0, a2]; rfl
    · rintro pre' y j hpl ⟨rfl, ⟨p, hp1, hp2⟩, rfl⟩
      have hr : rightB l = false := by
        unfold rightB
        have : (splitS 47 l).all wordB = false := by
          rw [← Bool.not_eq_true, List.all_eq_true]
          intro h; rw [h p hp1] at hp2; cases hp2
        rw [this]; rfl
      simp only [go_sem, Nat.reduceLT, Nat.reduceEqDiff, reduceCtorEq, Int.reduceLT, Int.reduceEq, outOf]
      refine ⟨trivial, [vb false], ?_, by rw [hr]; rfl⟩
      simp only [resAll, resOf, go_sem, Nat.reduceLT, Nat.reduceEqDiff, reduceCtorEq, Int.reduceLT, Int.reduceEq, a0, a2]; rfl
  obtain ⟨v, g, e, rfl⟩ := this
  exact ⟨_, _, e, _, rfl, rfl⟩
end Go.V09

/-
  Chapter 09: topic.Pattern.
-/
set_option linter.unusedSimpArgs false
set_option linter.unusedVariables false
namespace Go.V09
open Go Go.Vm Go.Lib

/-- A part of a pattern's front. -/
def partB (w : List UInt8) : Bool := decide (w = [43]) || wordB w
/-- May a pattern be? -/
def patB (l : List UInt8) : Bool := if l = [35] then true else (splitS 47 (trimW l [47, 35])).all partB && decide (l.length ≤ 30)

theorem pat_step {l : List UInt8} {s : List VV} (hs : s.length = 22) (e2 : s.getD 2 .undef = .ptr 0 0) : Step 47 l 1 (.loop [11] f14_1 f14_2 s .ready none) (fun done pre => (∀ p ∈ done, partB p = true) ∧ pre = [.box [vb false] false])
    (fun pre' L' => ∃ j, L' = .loop [11] f14_1 f14_2 s .done (some j) ∧ (j = .ret ∧ (∃ p ∈ splitS 47 l, partB p = false) ∧ pre' = [.box [vb false] false])) := by
  rintro done p rest pre x hsp ⟨hd, rfl⟩ hpl
  have key := round_X (F := F) (id := 1 + 3) (yb_none _) (ps := [11]) (asg := f14_1) (body := f14_2) (s0 := s) (a := [txt p]) (h := hp 47 [.box [vb false] false] x (.loop [11] f14_1 f14_2 s .ready none)) (t0 := .ready) (p0 := none)
    (P := fun v h' => (partB p = true ∧ v = vb true ∧ h' = hp 47 [.box [vb false] false] x (.loop [11] f14_1 f14_2 s .ready none)) ∨ (partB p = false ∧ v = vb false ∧ h' = hp 47 [.box [vb false] false] x (.loop [11] f14_1 f14_2 s .done (some .ret)))) (hp3 (k := 1) rfl) rfl ?_
  · obtain ⟨v, h', e1, ⟨hw, rfl, rfl⟩ | ⟨hw, rfl, rfl⟩⟩ := key
    · exact .inl ⟨_, e1, rfl, fun q hq => (List.mem_append.1 hq).elim (hd q) (fun h => by rw [List.mem_singleton.1 h]; exact hw), rfl⟩
    · exact .inr ⟨_, _, e1, rfl, _, rfl, rfl, ⟨p, by rw [hsp]; simp, hw⟩, rfl⟩
  have hset : setAll s [11] [txt p] = s.set 11 (txt p) := rfl
  rw [hset, X_eq f14_1.eq_1]
  simp only [go_sem, Nat.reduceLT, Nat.reduceEqDiff, reduceCtorEq, Int.reduceLT, Int.reduceEq, hs]
  refine ⟨rfl, none, hp3 (k := 1) rfl, ?_⟩
  dsimp only
  rw [hpset3 (k := 1) rfl, X_eq f14_2.eq_1]
  unfold partB
  by_cases hq : p = [43]
  · simp only [go_sem, Nat.reduceLT, Nat.reduceEqDiff, reduceCtorEq, Int.reduceLT, Int.reduceEq, hs, hq]
    exact ⟨none, .busy, none, rfl, hp3 (k := 1) rfl, .inl ⟨rfl, rfl, by rw [hpset3 (k := 1) rfl]; rfl⟩⟩
  · simp only [go_sem, Nat.reduceLT, Nat.reduceEqDiff, reduceCtorEq, Int.reduceLT, Int.reduceEq, hs, hq]
    refine XO_callP (by simp only [List.map, go_sem, Nat.reduceLT, Nat.reduceEqDiff, reduceCtorEq, Int.reduceLT, Int.reduceEq, hs]; rfl) (call23 p []) rfl ?_
    cases hw : wordB p with
    | true =>
      simp only [go_sem, Nat.reduceLT, Nat.reduceEqDiff, reduceCtorEq, Int.reduceLT, Int.reduceEq, hs]
      exact ⟨none, .busy, none, rfl, hp3 (k := 1) rfl, .inl ⟨rfl, rfl, by rw [hpset3 (k := 1) rfl]; rfl⟩⟩
    | false =>
      have st := st_1 (h := hp 47 [.box [vb false] false] x (.loop [11] f14_1 f14_2 s .busy none)) (id := 0) (off := 0) (cells := [vb false]) (v := vb false) rfl rfl (by decide)
      simp only [go_sem, Nat.reduceLT, Nat.reduceEqDiff, reduceCtorEq, Int.reduceLT, Int.reduceEq, hs, e2, st]
      exact ⟨some .ret, .busy, none, rfl, rfl, .inr ⟨rfl, rfl, rfl⟩⟩

theorem pat_f14 {l : List UInt8} (hl : l.length ≤ 1000000000) : RetP F 14 [txt l] (fun v => v = vb (patB l)) := by
  have : Ret F 14 [txt l] [] fun v g => v = vb (patB l) := by
    refine call_E (fn := f14) rfl ?_
    simp only [f14]
    generalize hs0 : ([txt l] ++ List.replicate _ VV.undef : List VV) = s
    have hs : s.length = 22 := by rw [← hs0]; rfl
    have h0 : s.getD 0 .undef = txt l := by rw [← hs0]; rfl
    clear hs0
    simp only [go_sem, Nat.reduceLT, Nat.reduceEqDiff, reduceCtorEq, Int.reduceLT, Int.reduceEq, hs, h0, List.nil_append, List.length_nil]
    rw [X_eq f14_0.eq_1]
    by_cases hr : l = [35]
    · have st := st_1 (h := [.box [vb false] false]) (id := 0) (off := 0) (cells := [vb false]) (v := vb true) rfl rfl (by decide)
      simp only [go_sem, Nat.reduceLT, Nat.reduceEqDiff, reduceCtorEq, Int.reduceLT, Int.reduceEq, hs, h0, hr, st]
      refine ⟨trivial, [vb true], ?_, by unfold patB; simp; rfl⟩
      simp only [resAll, resOf, go_sem, Nat.reduceLT, Nat.reduceEqDiff, reduceCtorEq, Int.reduceLT, Int.reduceEq, hs]; rfl
    simp only [go_sem, Nat.reduceLT, Nat.reduceEqDiff, reduceCtorEq, Int.reduceLT, Int.reduceEq, hs, h0, hr]
    refine XO_callP (by simp only [List.map, go_sem, Nat.reduceLT, Nat.reduceEqDiff, reduceCtorEq, Int.reduceLT, Int.reduceEq, hs]; rfl) (trim_f25 hl) rfl ?_
    simp only [go_sem, Nat.reduceLT, Nat.reduceEqDiff, reduceCtorEq, Int.reduceLT, Int.reduceEq, hs]
    refine XO_callR (by simp only [List.map, go_sem, Nat.reduceLT, Nat.reduceEqDiff, reduceCtorEq, Int.reduceLT, Int.reduceEq, hs]; exact seq_f22 (k := 1) rfl) ?_
    simp only [go_sem, Nat.reduceLT, Nat.reduceEqDiff, reduceCtorEq, Int.reduceLT, Int.reduceEq, hs]
    have htl : (trimW l [47, 35]).length ≤ 1000000000 := by
      unfold trimW; split
      · rw [List.length_take]; omega
      · exact hl
    generalize htw : trimW l [47, 35] = w at *
    generalize hs1 : List.set _ 10 (VV.func 41 [VV.ptr (1 + 1) 0, VV.ptr 1 0, VV.ptr (1 + 2) 0]) = s1
    have a0 : s1.length = 22 := by rw [← hs1]; simp only [slot_len, hs]
    have a1 : s1.getD 0 .undef = txt l := by rw [← hs1]; simp only [go_sem, Nat.reduceLT, Nat.reduceEqDiff, reduceCtorEq, Int.reduceLT, Int.reduceEq, h0]
    have a2 : s1.getD 2 .undef = .ptr 0 0 := by rw [← hs1]; simp only [go_sem, Nat.reduceLT, Nat.reduceEqDiff, reduceCtorEq, Int.reduceLT, Int.reduceEq, hs]
    have a5 : s1.getD 10 .undef = .func 41 [.ptr (1 + 1) 0, .ptr 1 0, .ptr (1 + 2) 0] := by rw [← hs1]; simp only [go_sem, Nat.reduceLT, Nat.reduceEqDiff, reduceCtorEq, Int.reduceLT, Int.reduceEq, hs]
    refine range_split (k := 1) a5 (pat_step a0 a2) htl ⟨fun p hp => by simp at hp, rfl⟩ rfl ?_ ?_
    · rintro pre' y hpl ⟨hall, rfl⟩
      have hr : patB l = decide (l.length ≤ 30) := by
        unfold patB
        rw [if_neg hr, htw, List.all_eq_true.2 hall, Bool.true_and]
      have st := st_1 (h := hp 47 [.box [vb false] false] y (.loop [11] f14_1 f14_2 s1 .exhausted none)) (id := 0) (off := 0) (cells := [vb false]) (v := vb (decide ((l.length : Int) ≤ 30))) rfl rfl (by decide)
      simp only [go_sem, Nat.reduceLT, Nat.reduceEqDiff, reduceCtorEq, Int.reduceLT, Int.reduceEq, a0, a1, a2, st]
      have e : decide ((l.length : Int) ≤ 30) = decide (l.length ≤ 30) := by
        congr 1; apply propext; omega
      refine ⟨trivial, [vb (decide ((l.length : Int) ≤ 30))], ?_, by rw [hr, ← e]; rfl⟩
      simp only [resAll, resOf, go_sem, Nat.reduceLT, Nat.reduceEqDiff, reduceCtorEq, Int.reduceLT, Int.reduceEq, a0, a2]; rfl
    · rintro pre' y j hpl ⟨rfl, ⟨p, hp1, hp2⟩, rfl⟩
      have hr : patB l = false := by
        unfold patB
        have : (splitS 47 w).all partB = false := by
          rw [← Bool.not_eq_true, List.all_eq_true]
          intro h; rw [h p hp1] at hp2; cases hp2
        rw [if_neg hr, htw, this]; rfl
      simp only [go_sem, Nat.reduceLT, Nat.reduceEqDiff, reduceCtorEq, Int.reduceLT, Int.reduceEq, outOf]
      refine ⟨trivial, [vb false], ?_, by rw [hr]; rfl⟩
      simp only [resAll, resOf, go_sem, Nat.reduceLT, Nat.reduceEqDiff, reduceCtorEq, Int.reduceLT, Int.reduceEq, a0, a2]; rfl
  obtain ⟨v, g, e, rfl⟩ := this
  exact ⟨_, _, e, _, rfl, rfl⟩
end Go.V09

/-
  Chapter 09: topic.Match.
-/
set_option linter.unusedSimpArgs false
set_option linter.unusedVariables false
namespace Go.V09
open Go Go.Vm Go.Lib

/-- Have a pattern's parts a topic's? -/
def matchL : List (List UInt8) → List (List UInt8) → Bool
  | [], t => t.isEmpty
  | _ :: _, [] => false
  | w :: ws, t :: ts => if w = [35] then true else if w ≠ [43] ∧ w ≠ t then false else matchL ws ts
def matchB (p t : List UInt8) : Bool := patB p && rightB t && matchL (splitS 47 p) (splitS 47 t)

theorem match_step {l : List UInt8} {T : List (List UInt8)} {s : List VV} (hs : s.length = 42) (e4 : s.getD 4 .undef = .ptr 0 0) (e5 : s.getD 5 .undef = .ptr 1 0) : Step 47 l 2 (.loop [19] f13_1 f13_2 s .ready none)
    (fun done pre => ∃ left lv, pre = [.box [vb false] false, .box [lv] false] ∧ SlV 1 (eT left) lv ∧ ∀ rest, splitS 47 l = done ++ rest → matchL (splitS 47 l) T = matchL rest left)
    (fun pre' L' => ∃ j, L' = .loop [19] f13_1 f13_2 s .done (some j) ∧ (j = .ret ∧ ∃ lv, pre' = [.box [vb (matchL (splitS 47 l) T)] false, .box [lv] false])) := by
  rintro done p rest pre x hsp ⟨left, lv, rfl, hlv, hI⟩ hpl
  have hI' := hI _ hsp
  have key := round_X (F := F) (id := 2 + 3) (yb_none _) (ps := [19]) (asg := f13_1) (body := f13_2) (s0 := s) (a := [txt p]) (h := hp 47 [.box [vb false] false, .box [lv] false] x (.loop [19] f13_1 f13_2 s .ready none)) (t0 := .ready) (p0 := none)
    (P := fun v h' => (v = vb true ∧ ∃ a left', left = a :: left' ∧ matchL (p :: rest) left = matchL rest left' ∧ ∃ lv', SlV 1 (eT left') lv' ∧ h' = hp 47 [.box [vb false] false, .box [lv'] false] x (.loop [19] f13_1 f13_2 s .ready none)) ∨
      (v = vb false ∧ h' = hp 47 [.box [vb (matchL (p :: rest) left)] false, .box [lv] false] x (.loop [19] f13_1 f13_2 s .done (some .ret)))) (hp3 (k := 2) rfl) rfl ?_
  · obtain ⟨v, h', e1, ⟨rfl, a, left', rfl, h1, lv', h2, rfl⟩ | ⟨rfl, rfl⟩⟩ := key
    · refine .inl ⟨_, e1, rfl, left', lv', rfl, h2, fun rest' hr => ?_⟩
      have : rest' = rest := by
        rw [hsp, List.append_assoc] at hr
        have := List.append_cancel_left hr
        simpa using this.symm
      rw [this, hI', h1]
    · exact .inr ⟨_, _, e1, rfl, _, rfl, rfl, lv, by rw [hI']⟩
  have hset : setAll s [19] [txt p] = s.set 19 (txt p) := rfl
  rw [hset, X_eq f13_1.eq_1]
  simp only [go_sem, Nat.reduceLT, Nat.reduceEqDiff, reduceCtorEq, Int.reduceLT, Int.reduceEq, hs]
  refine ⟨rfl, none, hp3 (k := 2) rfl, ?_⟩
  dsimp only
  rw [hpset3 (k := 2) rfl, X_eq f13_2.eq_1]
  have l5 : ∀ (b : Bool) (L : VO), ldO (hp 47 [.box [vb b] false, .box [lv] false] x L) false 1 (.ptr 1 0) = some (lv, hp 47 [.box [vb b] false, .box [lv] false] x L) := fun b L => ld_p0 (id := 1) rfl
  have st4 : ∀ (b : Bool) (L : VO), stO (hp 47 [.box [vb false] false, .box [lv] false] x L) 1 (.ptr 0 0) (vb b) = some (.undef, hp 47 [.box [vb b] false, .box [lv] false] x L) := fun b L => st_1 (id := 0) (off := 0) (cells := [vb false]) rfl rfl (by decide)
  cases left with
  | nil =>
    have hln : lnO false lv = some (vi .i64 0) := hlv.ln
    simp only [go_sem, Nat.reduceLT, Nat.reduceEqDiff, reduceCtorEq, Int.reduceLT, Int.reduceEq, hs, e5, l5, hln, e4, st4]
    exact ⟨some .ret, .busy, none, rfl, rfl, .inr ⟨rfl, rfl⟩⟩
  | cons t ts =>
    have hln : lnO false lv = some (vi .i64 ((ts.length + 1 : Nat) : Int)) := by rw [hlv.ln, eT_len]; rfl
    have c1 : ¬ ((ts.length + 1 : Nat) : Int) = 0 := by omega
    have hm : matchL (p :: rest) (t :: ts) = if p = [35] then true else if p ≠ [43] ∧ p ≠ t then false else matchL rest ts := rfl
    have ia0 : ∀ L : VO, iaO (hp 47 [.box [vb false] false, .box [lv] false] x L) 1 lv (vi .i64 0) = some (.rptr [cT t], hp 47 [.box [vb false] false, .box [lv] false] x L) := fun L => hlv.ia (Int.le_refl _) rfl
    obtain ⟨lv', w1, w2⟩ := hlv.from_ (h := hp 47 [.box [vb false] false, .box [lv] false] x (.loop [19] f13_1 f13_2 s .busy none)) (k := .i64) (a := 1) (by omega) (by rw [eT_len, List.length_cons]; omega)
    have w1' : SlV 1 (eT ts) lv' := w1
    have hc' : isCell lv' = true := by rcases w1' with ⟨rfl, _⟩ | ⟨ex, rfl⟩ <;> rfl
    have st5 : stO (hp 47 [.box [vb false] false, .box [lv] false] x (.loop [19] f13_1 f13_2 s .busy none)) 1 (.ptr 1 0) lv' = some (.undef, hp 47 [.box [vb false] false, .box [lv'] false] x (.loop [19] f13_1 f13_2 s .busy none)) := st_1 (id := 1) (off := 0) (cells := [lv]) hc' rfl (by simp)
    by_cases q1 : p = [35]
    · rw [hm, if_pos q1]
      simp only [go_sem, Nat.reduceLT, Nat.reduceEqDiff, reduceCtorEq, Int.reduceLT, Int.reduceEq, hs, e5, l5, hln, c1, q1, e4, st4]
      exact ⟨some .ret, .busy, none, rfl, rfl, .inr ⟨rfl, rfl⟩⟩
    · rw [if_neg q1] at hm
      by_cases q2 : p = [43]
      · have q2' : ¬ (p ≠ [43] ∧ p ≠ t) := fun h => h.1 q2
        rw [if_neg q2'] at hm
        have q1' : ¬ ([43] : List UInt8) = [35] := by decide
        simp only [go_sem, Nat.reduceLT, Nat.reduceEqDiff, reduceCtorEq, Int.reduceLT, Int.reduceEq, hs, e5, l5, hln, c1, q2, q1', e4, w2, st5, Option.map_none, Option.map_some]
        rw [q2] at hm
        exact ⟨none, .busy, none, rfl, hp3 (k := 2) rfl, .inl ⟨rfl, t, ts, rfl, hm, lv', w1', by rw [hpset3 (k := 2) rfl]; rfl⟩⟩
      · by_cases q3 : p = t
        · have q2' : ¬ (p ≠ [43] ∧ p ≠ t) := fun h => h.2 q3
          rw [if_neg q2'] at hm
          simp only [go_sem, Nat.reduceLT, Nat.reduceEqDiff, reduceCtorEq, Int.reduceLT, Int.reduceEq, hs, e5, l5, hln, c1, q1, q2, ia0]
          simp only [go_sem, Nat.reduceLT, Nat.reduceEqDiff, reduceCtorEq, Int.reduceLT, Int.reduceEq, hs, e5, l5, q3, w2, st5, Option.map_none, Option.map_some, decide_true, Bool.not_true]
          rw [q3] at hm
          exact ⟨none, .busy, none, rfl, hp3 (k := 2) rfl, .inl ⟨rfl, t, ts, rfl, hm, lv', w1', by rw [hpset3 (k := 2) rfl]; rfl⟩⟩
        · rw [if_pos ⟨q2, q3⟩] at hm
          rw [hm]
          simp only [go_sem, Nat.reduceLT, Nat.reduceEqDiff, reduceCtorEq, Int.reduceLT, Int.reduceEq, hs, e5, l5, hln, c1, q1, q2, q3, ia0, e4, st4]
          exact ⟨some .ret, .busy, none, rfl, rfl, .inr ⟨rfl, rfl⟩⟩

theorem match_f13 {p t : List UInt8} (hp' : p.length ≤ 1000000000) (ht : t.length ≤ 1000000000) : RetP F 13 [txt p, txt t] (fun v => v = vb (matchB p t)) := by
  have : Ret F 13 [txt p, txt t] [] fun v g => v = vb (matchB p t) := by
    refine call_E (fn := f13) rfl ?_
    simp only [f13]
    generalize hs0 : ([txt p, txt t] ++ List.replicate _ VV.undef : List VV) = s
    have hs : s.length = 42 := by rw [← hs0]; rfl
    have h0 : s.getD 0 .undef = txt p := by rw [← hs0]; rfl
    have h1 : s.getD 1 .undef = txt t := by rw [← hs0]; rfl
    clear hs0
    obtain ⟨v1, g1, n1, _, r1, rfl⟩ := pat_f14 hp'
    obtain ⟨v2, g2, n2, _, r2, rfl⟩ := right_f12 ht
    simp only [go_sem, Nat.reduceLT, Nat.reduceEqDiff, reduceCtorEq, Int.reduceLT, Int.reduceEq, hs, h0, List.nil_append, List.length_nil]
    rw [X_eq f13_0.eq_1]
    simp only [go_sem, Nat.reduceLT, Nat.reduceEqDiff, reduceCtorEq, Int.reduceLT, Int.reduceEq, hs, h0]
    refine XO_callP (by simp only [List.map, go_sem, Nat.reduceLT, Nat.reduceEqDiff, reduceCtorEq, Int.reduceLT, Int.reduceEq, hs]; rfl) n1 r1 ?_
    have bad : matchB p t = false → RQ [ResV.cell 4 false 1] (fun v g => v = vb (matchB p t)) .ret ⟨((((s.set 4 (.ptr 0 0)))) : List VV), [.box [vb false] false]⟩ := fun h => by
      refine ⟨trivial, [vb false], ?_, by rw [h]; rfl⟩
      simp only [resAll, resOf, go_sem, Nat.reduceLT, Nat.reduceEqDiff, reduceCtorEq, Int.reduceLT, Int.reduceEq, hs]; rfl
    have stf : stO [.box [vb false] false] 1 (.ptr 0 0) (vb false) = some (.undef, [.box [vb false] false]) := st_1 (id := 0) (off := 0) (cells := [vb false]) rfl rfl (by decide)
    cases hP : patB p with
    | false =>
      simp only [go_sem, Nat.reduceLT, Nat.reduceEqDiff, reduceCtorEq, Int.reduceLT, Int.reduceEq, hs, stf]
      refine ⟨trivial, [vb false], ?_, by unfold matchB; rw [hP]; rfl⟩
      simp only [resAll, resOf, go_sem, Nat.reduceLT, Nat.reduceEqDiff, reduceCtorEq, Int.reduceLT, Int.reduceEq, hs]; rfl
    | true =>
      simp only [go_sem, Nat.reduceLT, Nat.reduceEqDiff, reduceCtorEq, Int.reduceLT, Int.reduceEq, hs, h1]
      refine XO_callP (by simp only [List.map, go_sem, Nat.reduceLT, Nat.reduceEqDiff, reduceCtorEq, Int.reduceLT, Int.reduceEq, hs]; rfl) n2 r2 ?_
      cases hR : rightB t with
      | false =>
        simp only [go_sem, Nat.reduceLT, Nat.reduceEqDiff, reduceCtorEq, Int.reduceLT, Int.reduceEq, hs, stf]
        refine ⟨trivial, [vb false], ?_, by unfold matchB; rw [hP, hR]; rfl⟩
        simp only [resAll, resOf, go_sem, Nat.reduceLT, Nat.reduceEqDiff, reduceCtorEq, Int.reduceLT, Int.reduceEq, hs]; rfl
      | true =>
        obtain ⟨v3, g3, ex, n3, r3⟩ := split_f24 (c := 47) ht
        simp only [go_sem, Nat.reduceLT, Nat.reduceEqDiff, reduceCtorEq, Int.reduceLT, Int.reduceEq, hs, h1]
        refine XO_callP (by simp only [List.map, go_sem, Nat.reduceLT, Nat.reduceEqDiff, reduceCtorEq, Int.reduceLT, Int.reduceEq, hs]; rfl) n3 r3 ?_
        have hm : matchB p t = matchL (splitS 47 p) (splitS 47 t) := by unfold matchB; rw [hP, hR]; rfl
        have st5 : stO ([.box [vb false] false] ++ [VO.box [nilS] false]) 1 (.ptr 1 0) (.cv (.sl 1 (eT (splitS 47 t)) ex)) = some (.undef, [.box [vb false] false, .box [.cv (.sl 1 (eT (splitS 47 t)) ex)] false]) := st_1 (id := 1) (off := 0) (cells := [nilS]) rfl rfl (by decide)
        simp only [go_sem, Nat.reduceLT, Nat.reduceEqDiff, reduceCtorEq, Int.reduceLT, Int.reduceEq, hs, List.length_singleton, st5, h0]
        refine XO_callR (by simp only [List.map, go_sem, Nat.reduceLT, Nat.reduceEqDiff, reduceCtorEq, Int.reduceLT, Int.reduceEq, hs]; exact seq_f22 (k := 2) rfl) ?_
        simp only [go_sem, Nat.reduceLT, Nat.reduceEqDiff, reduceCtorEq, Int.reduceLT, Int.reduceEq, hs]
        generalize hs1 : List.set _ 18 (VV.func 41 [VV.ptr (2 + 1) 0, VV.ptr 2 0, VV.ptr (2 + 2) 0]) = s1
        have a0 : s1.length = 42 := by rw [← hs1]; simp only [slot_len, hs]
        have a4 : s1.getD 4 .undef = .ptr 0 0 := by rw [← hs1]; simp only [go_sem, Nat.reduceLT, Nat.reduceEqDiff, reduceCtorEq, Int.reduceLT, Int.reduceEq, hs]
        have a5 : s1.getD 5 .undef = .ptr 1 0 := by rw [← hs1]; simp only [go_sem, Nat.reduceLT, Nat.reduceEqDiff, reduceCtorEq, Int.reduceLT, Int.reduceEq, hs]
        have a18 : s1.getD 18 .undef = .func 41 [.ptr (2 + 1) 0, .ptr 2 0, .ptr (2 + 2) 0] := by rw [← hs1]; simp only [go_sem, Nat.reduceLT, Nat.reduceEqDiff, reduceCtorEq, Int.reduceLT, Int.reduceEq, hs]
        refine range_split (k := 2) a18 (match_step (T := splitS 47 t) a0 a4 a5) hp' ⟨splitS 47 t, _, rfl, .inr ⟨ex, rfl⟩, fun rest hr => by rw [hr]; rfl⟩ rfl ?_ ?_
        · rintro pre' y hpl ⟨left, lv, rfl, hlv, hI⟩
          have hI2 := hI [] (by simp)
          have l5 : ∀ (L : VO), ldO (hp 47 [.box [vb false] false, .box [lv] false] y L) false 1 (.ptr 1 0) = some (lv, hp 47 [.box [vb false] false, .box [lv] false] y L) := fun L => ld_p0 (id := 1) rfl
          have st4 : ∀ (b : Bool) (L : VO), stO (hp 47 [.box [vb false] false, .box [lv] false] y L) 1 (.ptr 0 0) (vb b) = some (.undef, hp 47 [.box [vb b] false, .box [lv] false] y L) := fun b L => st_1 (id := 0) (off := 0) (cells := [vb false]) rfl rfl (by decide)
          have e : decide (((left.length : Nat) : Int) = 0) = left.isEmpty := by
            cases left with
            | nil => rfl
            | cons _ _ => simp; omega
          have hln : lnO false lv = some (vi .i64 left.length) := by rw [hlv.ln, eT_len]
          simp only [go_sem, Nat.reduceLT, Nat.reduceEqDiff, reduceCtorEq, Int.reduceLT, Int.reduceEq, a0, a4, a5, l5, hln, st4]
          refine ⟨trivial, [vb (decide (((left.length : Nat) : Int) = 0))], ?_, by rw [hm, hI2, e]; rfl⟩
          simp only [resAll, resOf, go_sem, Nat.reduceLT, Nat.reduceEqDiff, reduceCtorEq, Int.reduceLT, Int.reduceEq, a0, a4]; rfl
        · rintro pre' y j hpl ⟨rfl, lv, rfl⟩
          simp only [go_sem, Nat.reduceLT, Nat.reduceEqDiff, reduceCtorEq, Int.reduceLT, Int.reduceEq, outOf]
          refine ⟨trivial, [vb (matchL (splitS 47 p) (splitS 47 t))], ?_, by rw [hm]; rfl⟩
          simp only [resAll, resOf, go_sem, Nat.reduceLT, Nat.reduceEqDiff, reduceCtorEq, Int.reduceLT, Int.reduceEq, a0, a4]; rfl
  obtain ⟨v, g, e, rfl⟩ := this
  exact ⟨_, _, e, _, rfl, rfl⟩
end Go.V09

/-
  Chapter 09: topic.pairs, Attrs.
-/
set_option linter.unusedSimpArgs false
set_option linter.unusedVariables false
namespace Go.V09
open Go Go.Vm Go.Lib

def leqB (a b : List UInt8) : Bool := Op.bytesLess a b || a == b
/-- Do pairs rise, from a name on? -/
def pairsL : List UInt8 → List (List UInt8) → Bool
  | _, [] => true
  | last, p :: r => match splitS 61 p with
    | [a, b] => if wordB a && wordB b && !leqB a last then pairsL a r else false
    | _ => false
/-- The pairs of a text; may they be? -/
def pairsR (l : List UInt8) : List (List UInt8) × Bool := if l = [] then ([], true) else if pairsL [] (splitS 44 l) then (splitS 44 l, decide (l.length ≤ 30)) else ([], false)

theorem word_sign {c : UInt8} {r : List UInt8} (h : c ∈ r) (hc : isW c = false) : wordB r = false := by
  unfold wordB
  have : r.all isW = false := by
    rw [← Bool.not_eq_true, List.all_eq_true]
    intro h2; rw [h2 c h] at hc; cases hc
  rw [this]; rfl
theorem splitS_in {c : UInt8} {r : List UInt8} (h : c ∈ r) : ∃ x y z, splitS c r = x :: y :: z := by
  rcases ix_cases c r with ⟨_, h2⟩ | ⟨a, r', rfl, h2, _⟩
  · exact absurd h h2
  · rw [splitS_hit h2]
    cases hs : splitS c r' with
    | nil => exact absurd hs (splitS_ne r')
    | cons y z => exact ⟨a, y, z, rfl⟩
theorem pairs_miss {last p : List UInt8} {r : List (List UInt8)} (h : (61 : UInt8) ∉ p) : pairsL last (p :: r) = false := by
  simp only [pairsL, splitS_miss h]
theorem pairs_hit {last a b : List UInt8} {r : List (List UInt8)} (h : (61 : UInt8) ∉ a) : pairsL last ((a ++ 61 :: b) :: r) = if wordB a && wordB b && !leqB a last then pairsL a r else false := by
  simp only [pairsL, splitS_hit h]
  by_cases hb : (61 : UInt8) ∈ b
  · obtain ⟨x, y, z, e⟩ := splitS_in hb
    rw [e, word_sign hb (by decide)]
    simp
  · rw [splitS_miss hb]

theorem f26_loop {L : List (List UInt8)} {u : VV} (hu : SlV 1 (eT L) u) (hL : ∀ p ∈ L, p.length ≤ 1000000000) (hLl : L.length ≤ 1000000001) : ∀ (m i : Nat) (last : List UInt8) (s : List VV) (Q : Pst), i + m = L.length → s.length = 50 → s.getD 15 .undef = u → s.getD 16 .undef = vi .i64 L.length → s.getD 17 .undef = vi .i64 i → s.getD 5 .undef = txt last →
    (∀ s', s'.length = 50 → s'.getD 0 .undef = s.getD 0 .undef → s'.getD 4 .undef = s.getD 4 .undef → pairsL last (L.drop i) = true → Q (.exit 0) ⟨s', []⟩) →
    (∀ s', s'.length = 50 → s'.getD 2 .undef = nilS → s'.getD 3 .undef = vb false → pairsL last (L.drop i) = false → Q .ret ⟨s', []⟩) → X F (.loop f26_3) ⟨s, []⟩ Q := by
  intro m
  induction m with
  | zero =>
    intro i last s Q hi hs e15 e16 e17 e5 hY hN
    have c1 : ¬ ((i : Nat) : Int) < (L.length : Int) := by omega
    have hd : L.drop i = [] := List.drop_eq_nil_of_le (by omega)
    rw [hd] at hY
    rw [X_loop, X_eq f26_3.eq_1]
    simp only [go_sem, Nat.reduceLT, Nat.reduceEqDiff, reduceCtorEq, Int.reduceLT, Int.reduceEq, hs, e17, e16]
    rw [X_eq f26_1.eq_1]
    simp only [go_sem, Nat.reduceLT, Nat.reduceEqDiff, reduceCtorEq, Int.reduceLT, Int.reduceEq, hs, c1]
    exact hY _ (by simp only [slot_len, hs]) (by simp only [go_sem, Nat.reduceLT, Nat.reduceEqDiff, reduceCtorEq, Int.reduceLT, Int.reduceEq]) (by simp only [go_sem, Nat.reduceLT, Nat.reduceEqDiff, reduceCtorEq, Int.reduceLT, Int.reduceEq]) rfl
  | succ m ih =>
    intro i last s Q hi hs e15 e16 e17 e5 hY hN
    have c1 : ((i : Nat) : Int) < (L.length : Int) := by omega
    have hil : i < L.length := by omega
    have hd : L.drop i = L[i] :: L.drop (i + 1) := List.drop_eq_getElem_cons hil
    have hpL : L[i].length ≤ 1000000000 := hL _ (List.getElem_mem hil)
    have hwr : IntKind.i64.wrap ((i : Int) + 1) = ((i + 1 : Nat) : Int) := by rw [IntWalk.i64_in _ (by omega)]; omega
    have hia : iaO [] 1 u (vi .i64 (i : Int)) = some (.rptr [cT L[i]], []) := hu.ia (by omega) (eT_get (List.getElem?_eq_getElem hil))
    generalize hp : L[i] = p at *
    rw [hd] at hY hN
    rw [X_loop, X_eq f26_3.eq_1]
    simp only [go_sem, Nat.reduceLT, Nat.reduceEqDiff, reduceCtorEq, Int.reduceLT, Int.reduceEq, hs, e17, e16]
    rw [X_eq f26_1.eq_1]
    simp only [go_sem, Nat.reduceLT, Nat.reduceEqDiff, reduceCtorEq, Int.reduceLT, Int.reduceEq, hs, c1, e15, e17, hia]
    rcases ix_cases 61 p with ⟨h1, h2⟩ | ⟨a, b, rfl, h2, h3⟩
    · refine XO_callP (by simp only [List.map, go_sem, Nat.reduceLT, Nat.reduceEqDiff, reduceCtorEq, Int.reduceLT, Int.reduceEq, hs]; rfl) (f37_of (f47_miss h2 h1)) rfl ?_
      simp only [go_sem, Nat.reduceLT, Nat.reduceEqDiff, reduceCtorEq, Int.reduceLT, Int.reduceEq, hs]
      rw [X_eq f26_2.eq_1]
      simp only [go_sem, Nat.reduceLT, Nat.reduceEqDiff, reduceCtorEq, Int.reduceLT, Int.reduceEq, hs]
      exact hN _ (by simp only [slot_len, hs]) (by simp only [go_sem, Nat.reduceLT, Nat.reduceEqDiff, reduceCtorEq, Int.reduceLT, Int.reduceEq, hs]) (by simp only [go_sem, Nat.reduceLT, Nat.reduceEqDiff, reduceCtorEq, Int.reduceLT, Int.reduceEq, hs]) (pairs_miss h2)
    · rw [pairs_hit h2] at hY hN
      refine XO_callP (by simp only [List.map, go_sem, Nat.reduceLT, Nat.reduceEqDiff, reduceCtorEq, Int.reduceLT, Int.reduceEq, hs]; rfl) (f37_of (f47_hit h2 hpL h3)) rfl ?_
      simp only [go_sem, Nat.reduceLT, Nat.reduceEqDiff, reduceCtorEq, Int.reduceLT, Int.reduceEq, hs]
      rw [X_eq f26_2.eq_1]
      simp only [go_sem, Nat.reduceLT, Nat.reduceEqDiff, reduceCtorEq, Int.reduceLT, Int.reduceEq, hs]
      refine XO_callP (by simp only [List.map, go_sem, Nat.reduceLT, Nat.reduceEqDiff, reduceCtorEq, Int.reduceLT, Int.reduceEq, hs]; rfl) (call23 a []) rfl ?_
      cases ha : wordB a with
      | false =>
        simp only [go_sem, Nat.reduceLT, Nat.reduceEqDiff, reduceCtorEq, Int.reduceLT, Int.reduceEq, hs]
        exact hN _ (by simp only [slot_len, hs]) (by simp only [go_sem, Nat.reduceLT, Nat.reduceEqDiff, reduceCtorEq, Int.reduceLT, Int.reduceEq, hs]) (by simp only [go_sem, Nat.reduceLT, Nat.reduceEqDiff, reduceCtorEq, Int.reduceLT, Int.reduceEq, hs]) (by rw [ha]; rfl)
      | true =>
        simp only [go_sem, Nat.reduceLT, Nat.reduceEqDiff, reduceCtorEq, Int.reduceLT, Int.reduceEq, hs]
        refine XO_callP (by simp only [List.map, go_sem, Nat.reduceLT, Nat.reduceEqDiff, reduceCtorEq, Int.reduceLT, Int.reduceEq, hs]; rfl) (call23 b []) rfl ?_
        cases hb : wordB b with
        | false =>
          simp only [go_sem, Nat.reduceLT, Nat.reduceEqDiff, reduceCtorEq, Int.reduceLT, Int.reduceEq, hs]
          exact hN _ (by simp only [slot_len, hs]) (by simp only [go_sem, Nat.reduceLT, Nat.reduceEqDiff, reduceCtorEq, Int.reduceLT, Int.reduceEq, hs]) (by simp only [go_sem, Nat.reduceLT, Nat.reduceEqDiff, reduceCtorEq, Int.reduceLT, Int.reduceEq, hs]) (by rw [ha, hb]; rfl)
        | true =>
          simp only [ha, hb, Bool.true_and] at hY hN
          cases hle : leqB a last with
          | true =>
            have hle' : (Op.bytesLess a last || a == last) = true := hle
            simp only [go_sem, Nat.reduceLT, Nat.reduceEqDiff, reduceCtorEq, Int.reduceLT, Int.reduceEq, hs, e5, hle']
            exact hN _ (by simp only [slot_len, hs]) (by simp only [go_sem, Nat.reduceLT, Nat.reduceEqDiff, reduceCtorEq, Int.reduceLT, Int.reduceEq, hs]) (by simp only [go_sem, Nat.reduceLT, Nat.reduceEqDiff, reduceCtorEq, Int.reduceLT, Int.reduceEq, hs]) (by rw [hle]; rfl)
          | false =>
            have hle' : (Op.bytesLess a last || a == last) = false := hle
            simp only [go_sem, Nat.reduceLT, Nat.reduceEqDiff, reduceCtorEq, Int.reduceLT, Int.reduceEq, hs, e5, hle', e17, hwr]
            simp only [hle, Bool.not_false, if_true] at hY hN
            refine ih (i + 1) a _ Q (by omega) (by simp only [slot_len, hs]) (by simp only [go_sem, Nat.reduceLT, Nat.reduceEqDiff, reduceCtorEq, Int.reduceLT, Int.reduceEq, e15]) (by simp only [go_sem, Nat.reduceLT, Nat.reduceEqDiff, reduceCtorEq, Int.reduceLT, Int.reduceEq, e16]) (by simp only [go_sem, Nat.reduceLT, Nat.reduceEqDiff, reduceCtorEq, Int.reduceLT, Int.reduceEq, hs]) (by simp only [go_sem, Nat.reduceLT, Nat.reduceEqDiff, reduceCtorEq, Int.reduceLT, Int.reduceEq, hs]) (fun s' b0 b1 b2 b3 => hY s' b0 (by rw [b1]; simp only [go_sem, Nat.reduceLT, Nat.reduceEqDiff, reduceCtorEq, Int.reduceLT, Int.reduceEq]) (by rw [b2]; simp only [go_sem, Nat.reduceLT, Nat.reduceEqDiff, reduceCtorEq, Int.reduceLT, Int.reduceEq]) b3) hN

theorem pairs_f26 {l : List UInt8} (hl : l.length ≤ 1000000000) : RetP F 26 [txt l] (fun v => ∃ x, v = .tup [x, vb (pairsR l).2] ∧ SlV 1 (eT (pairsR l).1) x ∧ ∃ c, x = .cv c) := by
  have : Ret F 26 [txt l] [] fun v g => ∃ x, v = .tup [x, vb (pairsR l).2] ∧ SlV 1 (eT (pairsR l).1) x ∧ ∃ c, x = .cv c := by
    refine call_E (fn := f26) rfl ?_
    simp only [f26]
    generalize hs0 : ([txt l] ++ List.replicate _ VV.undef : List VV) = s
    have hs : s.length = 50 := by rw [← hs0]; rfl
    have h0 : s.getD 0 .undef = txt l := by rw [← hs0]; rfl
    clear hs0
    simp only [go_sem, Nat.reduceLT, Nat.reduceEqDiff, reduceCtorEq, Int.reduceLT, Int.reduceEq, hs]
    rw [X_eq f26_0.eq_1]
    by_cases hn : l = []
    · simp only [go_sem, Nat.reduceLT, Nat.reduceEqDiff, reduceCtorEq, Int.reduceLT, Int.reduceEq, hs, h0, hn]
      exact ⟨nilS, rfl, .inl ⟨rfl, rfl⟩, _, rfl⟩
    have hp : pairsR l = if pairsL [] (splitS 44 l) then (splitS 44 l, decide (l.length ≤ 30)) else ([], false) := if_neg hn
    obtain ⟨v3, g3, ex, n3, r3⟩ := split_f24 (c := 44) hl
    have hsl : (splitS 44 l).length ≤ 1000000001 := by rw [count_split]; have := count_le (c := 44) l; omega
    have hln : lnO false (.cv (.sl 1 (eT (splitS 44 l)) ex)) = some (vi .i64 (splitS 44 l).length) := by
      have := (SlV.sl (z := 1) (es := eT (splitS 44 l)) (ex := ex)).ln
      rw [this, eT_len]
    simp only [go_sem, Nat.reduceLT, Nat.reduceEqDiff, reduceCtorEq, Int.reduceLT, Int.reduceEq, hs, h0, hn]
    refine XO_callP (by simp only [List.map, go_sem, Nat.reduceLT, Nat.reduceEqDiff, reduceCtorEq, Int.reduceLT, Int.reduceEq, hs]; rfl) n3 r3 ?_
    simp only [go_sem, Nat.reduceLT, Nat.reduceEqDiff, reduceCtorEq, Int.reduceLT, Int.reduceEq, hs, eT_len]
    refine f26_loop (L := splitS 44 l) (u := .cv (.sl 1 (eT (splitS 44 l)) ex)) .sl (fun p hp => Nat.le_trans (split_len hp) hl) hsl (splitS 44 l).length 0 [] _ _ (by omega) (by simp only [slot_len, hs]) (by simp only [go_sem, Nat.reduceLT, Nat.reduceEqDiff, reduceCtorEq, Int.reduceLT, Int.reduceEq, hs]) (by simp only [go_sem, Nat.reduceLT, Nat.reduceEqDiff, reduceCtorEq, Int.reduceLT, Int.reduceEq, hs]) (by simp only [go_sem, Nat.reduceLT, Nat.reduceEqDiff, reduceCtorEq, Int.reduceLT, Int.reduceEq, hs]; rfl) (by simp only [go_sem, Nat.reduceLT, Nat.reduceEqDiff, reduceCtorEq, Int.reduceLT, Int.reduceEq, hs]) (fun s' b0 b1 b2 b3 => ?_) (fun s' b0 b1 b2 b3 => ?_)
    · have b1' : s'.getD 0 .undef = txt l := by rw [b1]; simp only [go_sem, Nat.reduceLT, Nat.reduceEqDiff, reduceCtorEq, Int.reduceLT, Int.reduceEq, h0]
      have b2' : s'.getD 4 .undef = .cv (.sl 1 (eT (splitS 44 l)) ex) := by rw [b2]; simp only [go_sem, Nat.reduceLT, Nat.reduceEqDiff, reduceCtorEq, Int.reduceLT, Int.reduceEq, hs]
      have e : decide ((l.length : Int) ≤ 30) = decide (l.length ≤ 30) := by congr 1; apply propext; omega
      rw [List.drop_zero] at b3
      simp only [go_sem, Nat.reduceLT, Nat.reduceEqDiff, reduceCtorEq, Int.reduceLT, Int.reduceEq, b0, b1', b2', e]
      rw [hp, b3]
      exact ⟨_, rfl, .sl, _, rfl⟩
    · rw [List.drop_zero] at b3
      simp only [go_sem, Nat.reduceLT, Nat.reduceEqDiff, reduceCtorEq, Int.reduceLT, Int.reduceEq, b0, b1, b2]
      rw [hp, b3]
      exact ⟨_, rfl, .inl ⟨rfl, rfl⟩, _, rfl⟩
  obtain ⟨v, g, e, x, rfl, hx, c, rfl⟩ := this
  exact ⟨_, _, e, _, rfl, _, rfl, hx, _, rfl⟩

theorem attrs_f15 {l : List UInt8} (hl : l.length ≤ 1000000000) : RetP F 15 [txt l] (fun v => v = vb (pairsR l).2) := by
  have : Ret F 15 [txt l] [] fun v g => v = vb (pairsR l).2 := by
    refine call_E (fn := f15) rfl ?_
    simp only [f15]
    generalize hs0 : ([txt l] ++ List.replicate _ VV.undef : List VV) = s
    have hs : s.length = 11 := by rw [← hs0]; rfl
    have h0 : s.getD 0 .undef = txt l := by rw [← hs0]; rfl
    clear hs0
    obtain ⟨v, g, n, w, r, x, rfl, hx, c, rfl⟩ := pairs_f26 hl
    simp only [go_sem, Nat.reduceLT, Nat.reduceEqDiff, reduceCtorEq, Int.reduceLT, Int.reduceEq, hs, h0]
    refine XO_callP (by simp only [List.map, go_sem, Nat.reduceLT, Nat.reduceEqDiff, reduceCtorEq, Int.reduceLT, Int.reduceEq, hs]; rfl) n r ?_
    simp only [go_sem, Nat.reduceLT, Nat.reduceEqDiff, reduceCtorEq, Int.reduceLT, Int.reduceEq, hs]
  obtain ⟨v, g, e, rfl⟩ := this
  exact ⟨_, _, e, _, rfl, rfl⟩
end Go.V09

/-
  Chapter 09: topic.Wanted.
-/
set_option linter.unusedSimpArgs false
set_option linter.unusedVariables false
namespace Go.V09
open Go Go.Vm Go.Lib

/-- Is it among them? -/
def hasB (L : List (List UInt8)) (p : List UInt8) : Bool := L.any fun q => decide (p = q)
def wantedB (w a : List UInt8) : Bool := (pairsR w).2 && (pairsR a).2 && (pairsR w).1.all (hasB (pairsR a).1)

theorem f39_loop {L : List (List UInt8)} {u : VV} (hu : SlV 1 (eT L) u) (hLl : L.length ≤ 1000000001) (p : List UInt8) : ∀ (m i : Nat) (s : List VV) (Q : Pst), i + m = L.length → s.length = 19 → s.getD 0 .undef = u → s.getD 1 .undef = txt p → s.getD 7 .undef = vi .i64 L.length → s.getD 8 .undef = vi .i64 i →
    (∀ s', s'.length = 19 → hasB (L.drop i) p = false → Q (.exit 0) ⟨s', []⟩) → (∀ s' (j : Nat), s'.length = 19 → s'.getD 4 .undef = vi .i64 j → hasB (L.drop i) p = true → Q .ret ⟨s', []⟩) → X F (.loop f39_1) ⟨s, []⟩ Q := by
  intro m
  induction m with
  | zero =>
    intro i s Q hi hs e0 e1 e7 e8 hN hY
    have c1 : ¬ ((i : Nat) : Int) < (L.length : Int) := by omega
    have hd : L.drop i = [] := List.drop_eq_nil_of_le (by omega)
    rw [hd] at hN
    rw [X_loop, X_eq f39_1.eq_1]
    simp only [go_sem, Nat.reduceLT, Nat.reduceEqDiff, reduceCtorEq, Int.reduceLT, Int.reduceEq, hs, e8, e7]
    rw [X_eq f39_0.eq_1]
    simp only [go_sem, Nat.reduceLT, Nat.reduceEqDiff, reduceCtorEq, Int.reduceLT, Int.reduceEq, hs, c1]
    exact hN _ (by simp only [slot_len, hs]) rfl
  | succ m ih =>
    intro i s Q hi hs e0 e1 e7 e8 hN hY
    have c1 : ((i : Nat) : Int) < (L.length : Int) := by omega
    have hil : i < L.length := by omega
    have hd : L.drop i = L[i] :: L.drop (i + 1) := List.drop_eq_getElem_cons hil
    have hwr : IntKind.i64.wrap ((i : Int) + 1) = ((i + 1 : Nat) : Int) := by rw [IntWalk.i64_in _ (by omega)]; omega
    have hia : iaO [] 1 u (vi .i64 (i : Int)) = some (.rptr [cT L[i]], []) := hu.ia (by omega) (eT_get (List.getElem?_eq_getElem hil))
    generalize hp : L[i] = q at *
    rw [hd] at hN hY
    rw [X_loop, X_eq f39_1.eq_1]
    simp only [go_sem, Nat.reduceLT, Nat.reduceEqDiff, reduceCtorEq, Int.reduceLT, Int.reduceEq, hs, e8, e7]
    rw [X_eq f39_0.eq_1]
    by_cases hq : p = q
    · simp only [go_sem, Nat.reduceLT, Nat.reduceEqDiff, reduceCtorEq, Int.reduceLT, Int.reduceEq, hs, c1, e8, e1, e0, hia, hq]
      exact hY _ i (by simp only [slot_len, hs]) (by simp only [go_sem, Nat.reduceLT, Nat.reduceEqDiff, reduceCtorEq, Int.reduceLT, Int.reduceEq, hs]) (by simp [hasB, hq])
    · have hh : hasB (q :: L.drop (i + 1)) p = hasB (L.drop (i + 1)) p := by simp [hasB, hq]
      rw [hh] at hN hY
      simp only [go_sem, Nat.reduceLT, Nat.reduceEqDiff, reduceCtorEq, Int.reduceLT, Int.reduceEq, hs, c1, e8, e1, e0, hia, hq, hwr]
      exact ih (i + 1) _ Q (by omega) (by simp only [slot_len, hs]) (by simp only [go_sem, Nat.reduceLT, Nat.reduceEqDiff, reduceCtorEq, Int.reduceLT, Int.reduceEq, e0]) (by simp only [go_sem, Nat.reduceLT, Nat.reduceEqDiff, reduceCtorEq, Int.reduceLT, Int.reduceEq, e1]) (by simp only [go_sem, Nat.reduceLT, Nat.reduceEqDiff, reduceCtorEq, Int.reduceLT, Int.reduceEq, e7]) (by simp only [go_sem, Nat.reduceLT, Nat.reduceEqDiff, reduceCtorEq, Int.reduceLT, Int.reduceEq, hs]) hN hY

theorem has_f30 {L : List (List UInt8)} {u : VV} (hu : SlV 1 (eT L) u) (hLl : L.length ≤ 1000000001) (p : List UInt8) : RetP F 30 [u, txt p] (fun v => v = vb (hasB L p)) := by
  have h39 : RetP F 39 [u, txt p] (fun v => ∃ j : Int, v = vi .i64 j ∧ decide (0 ≤ j) = hasB L p) := by
    have : Ret F 39 [u, txt p] [] fun v g => ∃ j : Int, v = vi .i64 j ∧ decide (0 ≤ j) = hasB L p := by
      refine call_E (fn := f39) rfl ?_
      simp only [f39]
      generalize hs0 : ([u, txt p] ++ List.replicate _ VV.undef : List VV) = s
      have hs : s.length = 19 := by rw [← hs0]; rfl
      have h0 : s.getD 0 .undef = u := by rw [← hs0]; rfl
      have h1 : s.getD 1 .undef = txt p := by rw [← hs0]; rfl
      clear hs0
      have hln := hu.ln
      rw [eT_len] at hln
      simp only [go_sem, Nat.reduceLT, Nat.reduceEqDiff, reduceCtorEq, Int.reduceLT, Int.reduceEq, hs, h0, hln]
      refine f39_loop hu hLl p L.length 0 _ _ (by omega) (by simp only [slot_len, hs]) (by simp only [go_sem, Nat.reduceLT, Nat.reduceEqDiff, reduceCtorEq, Int.reduceLT, Int.reduceEq, h0]) (by simp only [go_sem, Nat.reduceLT, Nat.reduceEqDiff, reduceCtorEq, Int.reduceLT, Int.reduceEq, h1]) (by simp only [go_sem, Nat.reduceLT, Nat.reduceEqDiff, reduceCtorEq, Int.reduceLT, Int.reduceEq, hs]) (by simp only [go_sem, Nat.reduceLT, Nat.reduceEqDiff, reduceCtorEq, Int.reduceLT, Int.reduceEq, hs]; rfl) (fun s' b0 b1 => ?_) (fun s' j b0 b1 b2 => ?_)
      · simp only [go_sem, Nat.reduceLT, Nat.reduceEqDiff, reduceCtorEq, Int.reduceLT, Int.reduceEq, b0]
        rw [List.drop_zero] at b1
        exact ⟨-1, rfl, by rw [b1]; rfl⟩
      · simp only [go_sem, Nat.reduceLT, Nat.reduceEqDiff, reduceCtorEq, Int.reduceLT, Int.reduceEq, b0, b1]
        rw [List.drop_zero] at b2
        exact ⟨j, rfl, by rw [b2]; simp⟩
    obtain ⟨v, g, e, j, rfl, hj⟩ := this
    exact ⟨_, _, e, _, rfl, j, rfl, hj⟩
  have : Ret F 30 [u, txt p] [] fun v g => v = vb (hasB L p) := by
    refine call_E (fn := f30) rfl ?_
    simp only [f30]
    generalize hs0 : ([u, txt p] ++ List.replicate _ VV.undef : List VV) = s
    have hs : s.length = 9 := by rw [← hs0]; rfl
    have h0 : s.getD 0 .undef = u := by rw [← hs0]; rfl
    have h1 : s.getD 1 .undef = txt p := by rw [← hs0]; rfl
    clear hs0
    obtain ⟨v, g, n, _, r, j, rfl, hj⟩ := h39
    simp only [go_sem, Nat.reduceLT, Nat.reduceEqDiff, reduceCtorEq, Int.reduceLT, Int.reduceEq, hs, h0, h1]
    refine XO_callP (by simp only [List.map, go_sem, Nat.reduceLT, Nat.reduceEqDiff, reduceCtorEq, Int.reduceLT, Int.reduceEq, hs]; exact hu.clos rfl) n r ?_
    simp only [go_sem, Nat.reduceLT, Nat.reduceEqDiff, reduceCtorEq, Int.reduceLT, Int.reduceEq, hs, ge_iff_le, hj]
  obtain ⟨v, g, e, rfl⟩ := this
  exact ⟨_, _, e, _, rfl, rfl⟩

/-- What is lacking. -/
theorem lacks_f29 {L : List (List UInt8)} {u : VV} (hu : SlV 1 (eT L) u) (hLl : L.length ≤ 1000000001) (p : List UInt8) : call F 29 [txt p, .ptr 0 0] [.box [u] false] = some (.ret (vb (!hasB L p)), [.box [u] false]) := by
  have : Ret F 29 [txt p, .ptr 0 0] [.box [u] false] (Is (vb (!hasB L p)) [.box [u] false]) := by
    refine call_E (fn := f29) rfl ?_
    simp only [f29]
    generalize hs0 : ([txt p, .ptr 0 0] ++ List.replicate _ VV.undef : List VV) = s
    have hs : s.length = 8 := by rw [← hs0]; rfl
    have h0 : s.getD 0 .undef = txt p := by rw [← hs0]; rfl
    have h1 : s.getD 1 .undef = .ptr 0 0 := by rw [← hs0]; rfl
    clear hs0
    obtain ⟨v, g, n, _, r, rfl⟩ := has_f30 hu hLl p
    have l1 : ldO [.box [u] false] false 1 (.ptr 0 0) = some (u, [.box [u] false]) := ld_p0 rfl
    simp only [go_sem, Nat.reduceLT, Nat.reduceEqDiff, reduceCtorEq, Int.reduceLT, Int.reduceEq, hs, h0, h1, l1]
    refine XO_callP (by simp only [List.map, go_sem, Nat.reduceLT, Nat.reduceEqDiff, reduceCtorEq, Int.reduceLT, Int.reduceEq, hs]; exact hu.clos rfl) n r ?_
    simp only [go_sem, Nat.reduceLT, Nat.reduceEqDiff, reduceCtorEq, Int.reduceLT, Int.reduceEq, hs]
    exact Is.refl _ _
  obtain ⟨v, h', e, rfl, rfl⟩ := this
  exact e

theorem f40_loop {W L : List (List UInt8)} {u w : VV} (hu : SlV 1 (eT L) u) (hLl : L.length ≤ 1000000001) (hw : SlV 1 (eT W) w) (hWl : W.length ≤ 1000000001) : ∀ (m i : Nat) (s : List VV) (Q : Pst), i + m = W.length → s.length = 19 → s.getD 0 .undef = w → s.getD 1 .undef = .func 29 [.ptr 0 0] → s.getD 7 .undef = vi .i64 W.length → s.getD 8 .undef = vi .i64 i →
    (∀ s', s'.length = 19 → (W.drop i).all (hasB L) = true → Q (.exit 0) ⟨s', [.box [u] false]⟩) → (∀ s' (j : Nat), s'.length = 19 → s'.getD 4 .undef = vi .i64 j → (W.drop i).all (hasB L) = false → Q .ret ⟨s', [.box [u] false]⟩) → X F (.loop f40_1) ⟨s, [.box [u] false]⟩ Q := by
  intro m
  induction m with
  | zero =>
    intro i s Q hi hs e0 e1 e7 e8 hY hN
    have c1 : ¬ ((i : Nat) : Int) < (W.length : Int) := by omega
    have hd : W.drop i = [] := List.drop_eq_nil_of_le (by omega)
    rw [hd] at hY
    rw [X_loop, X_eq f40_1.eq_1]
    simp only [go_sem, Nat.reduceLT, Nat.reduceEqDiff, reduceCtorEq, Int.reduceLT, Int.reduceEq, hs, e8, e7]
    rw [X_eq f40_0.eq_1]
    simp only [go_sem, Nat.reduceLT, Nat.reduceEqDiff, reduceCtorEq, Int.reduceLT, Int.reduceEq, hs, c1]
    exact hY _ (by simp only [slot_len, hs]) rfl
  | succ m ih =>
    intro i s Q hi hs e0 e1 e7 e8 hY hN
    have c1 : ((i : Nat) : Int) < (W.length : Int) := by omega
    have hil : i < W.length := by omega
    have hd : W.drop i = W[i] :: W.drop (i + 1) := List.drop_eq_getElem_cons hil
    have hwr : IntKind.i64.wrap ((i : Int) + 1) = ((i + 1 : Nat) : Int) := by rw [IntWalk.i64_in _ (by omega)]; omega
    have hia : iaO [.box [u] false] 1 w (vi .i64 (i : Int)) = some (.rptr [cT W[i]], [.box [u] false]) := hw.ia (by omega) (eT_get (List.getElem?_eq_getElem hil))
    generalize hp : W[i] = q at *
    rw [hd] at hN hY
    rw [X_loop, X_eq f40_1.eq_1]
    simp only [go_sem, Nat.reduceLT, Nat.reduceEqDiff, reduceCtorEq, Int.reduceLT, Int.reduceEq, hs, e8, e7]
    rw [X_eq f40_0.eq_1]
    simp only [go_sem, Nat.reduceLT, Nat.reduceEqDiff, reduceCtorEq, Int.reduceLT, Int.reduceEq, hs, c1, e8, e1, e0, hia]
    refine XO_callvR (f := 29) (caps := [.ptr 0 0]) (by simp only [go_sem, Nat.reduceLT, Nat.reduceEqDiff, reduceCtorEq, Int.reduceLT, Int.reduceEq, hs]) (by simp only [List.map, go_sem, Nat.reduceLT, Nat.reduceEqDiff, reduceCtorEq, Int.reduceLT, Int.reduceEq, hs]; exact lacks_f29 hu hLl q) ?_
    cases hh : hasB L q with
    | true =>
      simp only [List.all_cons, hh, Bool.true_and] at hY hN
      simp only [go_sem, Nat.reduceLT, Nat.reduceEqDiff, reduceCtorEq, Int.reduceLT, Int.reduceEq, hs, e8, hwr]
      exact ih (i + 1) _ Q (by omega) (by simp only [slot_len, hs]) (by simp only [go_sem, Nat.reduceLT, Nat.reduceEqDiff, reduceCtorEq, Int.reduceLT, Int.reduceEq, e0]) (by simp only [go_sem, Nat.reduceLT, Nat.reduceEqDiff, reduceCtorEq, Int.reduceLT, Int.reduceEq, e1]) (by simp only [go_sem, Nat.reduceLT, Nat.reduceEqDiff, reduceCtorEq, Int.reduceLT, Int.reduceEq, e7]) (by simp only [go_sem, Nat.reduceLT, Nat.reduceEqDiff, reduceCtorEq, Int.reduceLT, Int.reduceEq, hs]) hY hN
    | false =>
      simp only [go_sem, Nat.reduceLT, Nat.reduceEqDiff, reduceCtorEq, Int.reduceLT, Int.reduceEq, hs]
      exact hN _ i (by simp only [slot_len, hs]) (by simp only [go_sem, Nat.reduceLT, Nat.reduceEqDiff, reduceCtorEq, Int.reduceLT, Int.reduceEq, hs]) (by simp [hh])

theorem hasf_f31 {W L : List (List UInt8)} {u w : VV} (hu : SlV 1 (eT L) u) (hLl : L.length ≤ 1000000001) (hw : SlV 1 (eT W) w) (hWl : W.length ≤ 1000000001) : call F 31 [w, .func 29 [.ptr 0 0]] [.box [u] false] = some (.ret (vb (!W.all (hasB L))), [.box [u] false]) := by
  have h40 : Ret F 40 [w, .func 29 [.ptr 0 0]] [.box [u] false] fun v g => ∃ j : Int, v = vi .i64 j ∧ decide (0 ≤ j) = (!W.all (hasB L)) ∧ g = [.box [u] false] := by
    refine call_E (fn := f40) rfl ?_
    simp only [f40]
    generalize hs0 : ([w, .func 29 [.ptr 0 0]] ++ List.replicate _ VV.undef : List VV) = s
    have hs : s.length = 19 := by rw [← hs0]; rfl
    have h0 : s.getD 0 .undef = w := by rw [← hs0]; rfl
    have h1 : s.getD 1 .undef = .func 29 [.ptr 0 0] := by rw [← hs0]; rfl
    clear hs0
    have hln := hw.ln
    rw [eT_len] at hln
    simp only [go_sem, Nat.reduceLT, Nat.reduceEqDiff, reduceCtorEq, Int.reduceLT, Int.reduceEq, hs, h0, hln]
    refine f40_loop hu hLl hw hWl W.length 0 _ _ (by omega) (by simp only [slot_len, hs]) (by simp only [go_sem, Nat.reduceLT, Nat.reduceEqDiff, reduceCtorEq, Int.reduceLT, Int.reduceEq, h0]) (by simp only [go_sem, Nat.reduceLT, Nat.reduceEqDiff, reduceCtorEq, Int.reduceLT, Int.reduceEq, h1]) (by simp only [go_sem, Nat.reduceLT, Nat.reduceEqDiff, reduceCtorEq, Int.reduceLT, Int.reduceEq, hs]) (by simp only [go_sem, Nat.reduceLT, Nat.reduceEqDiff, reduceCtorEq, Int.reduceLT, Int.reduceEq, hs]; rfl) (fun s' b0 b1 => ?_) (fun s' j b0 b1 b2 => ?_)
    · simp only [go_sem, Nat.reduceLT, Nat.reduceEqDiff, reduceCtorEq, Int.reduceLT, Int.reduceEq, b0]
      rw [List.drop_zero] at b1
      exact ⟨-1, rfl, by rw [b1]; rfl, trivial⟩
    · simp only [go_sem, Nat.reduceLT, Nat.reduceEqDiff, reduceCtorEq, Int.reduceLT, Int.reduceEq, b0, b1]
      rw [List.drop_zero] at b2
      exact ⟨j, rfl, by rw [b2]; simp, trivial⟩
  have : Ret F 31 [w, .func 29 [.ptr 0 0]] [.box [u] false] (Is (vb (!W.all (hasB L))) [.box [u] false]) := by
    refine call_E (fn := f31) rfl ?_
    simp only [f31]
    generalize hs0 : ([w, .func 29 [.ptr 0 0]] ++ List.replicate _ VV.undef : List VV) = s
    have hs : s.length = 9 := by rw [← hs0]; rfl
    have h0 : s.getD 0 .undef = w := by rw [← hs0]; rfl
    have h1 : s.getD 1 .undef = .func 29 [.ptr 0 0] := by rw [← hs0]; rfl
    clear hs0
    obtain ⟨v, g, n, j, rfl, hj, rfl⟩ := h40
    simp only [go_sem, Nat.reduceLT, Nat.reduceEqDiff, reduceCtorEq, Int.reduceLT, Int.reduceEq, hs, h0, h1]
    refine XO_callR (by simp only [List.map, go_sem, Nat.reduceLT, Nat.reduceEqDiff, reduceCtorEq, Int.reduceLT, Int.reduceEq, hs]; exact n) ?_
    simp only [go_sem, Nat.reduceLT, Nat.reduceEqDiff, reduceCtorEq, Int.reduceLT, Int.reduceEq, hs, ge_iff_le, hj]
    exact Is.refl _ _
  obtain ⟨v, h', e, rfl, rfl⟩ := this
  exact e

theorem pairsR_len {l : List UInt8} (hl : l.length ≤ 1000000000) : (pairsR l).1.length ≤ 1000000001 := by
  have := count_le (c := 44) l
  have h2 := count_split (c := 44) l
  unfold pairsR
  split
  · simp
  · split
    · simp only; omega
    · simp

theorem wanted_f18 {w a : List UInt8} (hw : w.length ≤ 1000000000) (ha : a.length ≤ 1000000000) : RetP F 18 [txt w, txt a] (fun v => v = vb (wantedB w a)) := by
  have : Ret F 18 [txt w, txt a] [] fun v g => v = vb (wantedB w a) := by
    refine call_E (fn := f18) rfl ?_
    simp only [f18]
    generalize hs0 : ([txt w, txt a] ++ List.replicate _ VV.undef : List VV) = s
    have hs : s.length = 31 := by rw [← hs0]; rfl
    have h0 : s.getD 0 .undef = txt w := by rw [← hs0]; rfl
    have h1 : s.getD 1 .undef = txt a := by rw [← hs0]; rfl
    clear hs0
    obtain ⟨v1, g1, n1, w1, r1, x1, rfl, hx1, c1, rfl⟩ := pairs_f26 hw
    obtain ⟨v2, g2, n2, w2, r2, x2, rfl, hx2, c2, rfl⟩ := pairs_f26 ha
    simp only [go_sem, Nat.reduceLT, Nat.reduceEqDiff, reduceCtorEq, Int.reduceLT, Int.reduceEq, hs, h0]
    refine XO_callP (by simp only [List.map, go_sem, Nat.reduceLT, Nat.reduceEqDiff, reduceCtorEq, Int.reduceLT, Int.reduceEq, hs]; rfl) n1 r1 ?_
    simp only [go_sem, Nat.reduceLT, Nat.reduceEqDiff, reduceCtorEq, Int.reduceLT, Int.reduceEq, hs, h1]
    refine XO_callP (by simp only [List.map, go_sem, Nat.reduceLT, Nat.reduceEqDiff, reduceCtorEq, Int.reduceLT, Int.reduceEq, hs]; rfl) n2 r2 ?_
    have st : stO [VO.box [nilS] false] 1 (.ptr 0 0) (.cv c2) = some (.undef, [.box [.cv c2] false]) := st_1 (id := 0) (off := 0) (cells := [nilS]) rfl rfl (by simp)
    unfold wantedB
    cases hone : (pairsR w).2 with
    | false =>
      simp only [go_sem, Nat.reduceLT, Nat.reduceEqDiff, reduceCtorEq, Int.reduceLT, Int.reduceEq, hs, List.length_nil, List.nil_append, st]
      rfl
    | true =>
      cases htwo : (pairsR a).2 with
      | false =>
        simp only [go_sem, Nat.reduceLT, Nat.reduceEqDiff, reduceCtorEq, Int.reduceLT, Int.reduceEq, hs, List.length_nil, List.nil_append, st]
        rfl
      | true =>
        simp only [go_sem, Nat.reduceLT, Nat.reduceEqDiff, reduceCtorEq, Int.reduceLT, Int.reduceEq, hs, List.length_nil, List.nil_append, st, List.map]
        refine XO_callR (by simp only [List.map, go_sem, Nat.reduceLT, Nat.reduceEqDiff, reduceCtorEq, Int.reduceLT, Int.reduceEq, hs]; exact hasf_f31 hx2 (pairsR_len ha) hx1 (pairsR_len hw)) ?_
        simp only [go_sem, Nat.reduceLT, Nat.reduceEqDiff, reduceCtorEq, Int.reduceLT, Int.reduceEq, hs, Bool.not_not, Bool.true_and]
  obtain ⟨v, g, e, rfl⟩ := this
  exact ⟨_, _, e, _, rfl, rfl⟩
end Go.V09

/-
  Chapter 09: the document's split, word, Right.
-/
set_option linter.unusedSimpArgs false
set_option linter.unusedVariables false
namespace Go.V09
open Go Go.Vm Go.Lib

end Go.V09

/-
  Chapter 09: the document's Pattern, Match.
-/
set_option linter.unusedSimpArgs false
set_option linter.unusedVariables false
namespace Go.V09
open Go Go.Vm Go.Lib

end Go.V09

/-
  Chapter 09: the document's pairs, Attrs, Wanted.
-/
set_option linter.unusedSimpArgs false
set_option linter.unusedVariables false
namespace Go.V09
open Go Go.Vm Go.Lib

end Go.V09

/-
  Chapter 09: the plain laws.
-/
set_option linter.unusedSimpArgs false
set_option linter.unusedVariables false
namespace Go.V09
open Go Go.Vm Go.Lib

theorem splitS_app {c : UInt8} {y : List UInt8} : ∀ x : List UInt8, splitS c (x ++ c :: y) = splitS c x ++ splitS c y
  | [] => by simp [splitS]
  | b :: x => by
    have ih := splitS_app (c := c) (y := y) x
    by_cases hb : b = c
    · subst hb; simp [splitS, ih]
    · simp only [List.cons_append, splitS, if_neg hb, ih]
      cases hs : splitS c x with
      | nil => exact absurd hs (splitS_ne x)
      | cons h t => rfl
/-! ### a topic and itself -/
section
variable {t : List UInt8} (h : rightB t = true) (hm : rightB (t ++ [47, 97]) = true)
end
end Go.V09

/-
  Chapter 09: known, matches, wants; names and pairs of choices.
-/
set_option linter.unusedSimpArgs false
set_option linter.unusedVariables false
namespace Go.V09
open Go Go.Vm Go.Lib

theorem known_f9 : RetP F 9 [] (fun v => v = vb true) := by
  have : Ret F 9 [] [] fun v g => v = vb true := by
    obtain ⟨v1, g1, n1, _, r1, rfl⟩ := match_f13 (p := [97, 47, 43]) (t := [97, 47, 98]) (by simp) (by simp)
    obtain ⟨v2, g2, n2, _, r2, rfl⟩ := match_f13 (p := [97, 47, 35]) (t := [97]) (by simp) (by simp)
    obtain ⟨v3, g3, n3, _, r3, rfl⟩ := wanted_f18 (w := []) (a := [97, 61, 49]) (by simp) (by simp)
    obtain ⟨v4, g4, n4, _, r4, rfl⟩ := wanted_f18 (w := [97, 61, 49]) (a := []) (by simp) (by simp)
    obtain ⟨v5, g5, n5, _, r5, rfl⟩ := right_f12 (l := []) (by simp)
    obtain ⟨v6, g6, n6, _, r6, rfl⟩ := pat_f14 (l := [35]) (by simp)
    have e1 : matchB [97, 47, 43] [97, 47, 98] = true := by decide +kernel
    have e2 : matchB [97, 47, 35] [97] = false := by decide +kernel
    have e3 : wantedB [] [97, 61, 49] = true := by decide +kernel
    have e4 : wantedB [97, 61, 49] [] = false := by decide +kernel
    have e5 : rightB [] = false := by decide +kernel
    have e6 : patB [35] = true := by decide +kernel
    rw [e1] at r1; rw [e2] at r2; rw [e3] at r3; rw [e4] at r4; rw [e5] at r5; rw [e6] at r6
    refine call_E (fn := f9) rfl ?_
    simp only [f9]
    generalize hs0 : ([] ++ List.replicate _ VV.undef : List VV) = s
    have hs : s.length = 20 := by rw [← hs0]; rfl
    clear hs0
    simp only [go_sem, Nat.reduceLT, Nat.reduceEqDiff, reduceCtorEq, Int.reduceLT, Int.reduceEq, hs]
    refine XO_callP (by simp only [List.map, go_sem, Nat.reduceLT, Nat.reduceEqDiff, reduceCtorEq, Int.reduceLT, Int.reduceEq, hs]; rfl) n1 r1 ?_
    simp only [go_sem, Nat.reduceLT, Nat.reduceEqDiff, reduceCtorEq, Int.reduceLT, Int.reduceEq, hs]
    refine XO_callP (by simp only [List.map, go_sem, Nat.reduceLT, Nat.reduceEqDiff, reduceCtorEq, Int.reduceLT, Int.reduceEq, hs]; rfl) n2 r2 ?_
    simp only [go_sem, Nat.reduceLT, Nat.reduceEqDiff, reduceCtorEq, Int.reduceLT, Int.reduceEq, hs]
    refine XO_callP (by simp only [List.map, go_sem, Nat.reduceLT, Nat.reduceEqDiff, reduceCtorEq, Int.reduceLT, Int.reduceEq, hs]; rfl) n3 r3 ?_
    simp only [go_sem, Nat.reduceLT, Nat.reduceEqDiff, reduceCtorEq, Int.reduceLT, Int.reduceEq, hs]
    refine XO_callP (by simp only [List.map, go_sem, Nat.reduceLT, Nat.reduceEqDiff, reduceCtorEq, Int.reduceLT, Int.reduceEq, hs]; rfl) n4 r4 ?_
    simp only [go_sem, Nat.reduceLT, Nat.reduceEqDiff, reduceCtorEq, Int.reduceLT, Int.reduceEq, hs]
    refine XO_callP (by simp only [List.map, go_sem, Nat.reduceLT, Nat.reduceEqDiff, reduceCtorEq, Int.reduceLT, Int.reduceEq, hs]; rfl) n5 r5 ?_
    simp only [go_sem, Nat.reduceLT, Nat.reduceEqDiff, reduceCtorEq, Int.reduceLT, Int.reduceEq, hs]
    refine XO_callP (by simp only [List.map, go_sem, Nat.reduceLT, Nat.reduceEqDiff, reduceCtorEq, Int.reduceLT, Int.reduceEq, hs]; rfl) n6 r6 ?_
    simp only [go_sem, Nat.reduceLT, Nat.reduceEqDiff, reduceCtorEq, Int.reduceLT, Int.reduceEq, hs]
  obtain ⟨v, g, e, rfl⟩ := this
  exact ⟨_, _, e, _, rfl, rfl⟩

end Go.V09

/-
  Chapter 09: names of choices.
-/
set_option linter.unusedSimpArgs false
set_option linter.unusedVariables false
namespace Go.V09
open Go Go.Vm Go.Lib

/-- One of some texts. -/
theorem lit_at {L : List (List UInt8)} {j : Nat} (hj : j < L.length) {ex : Bool} {k : IntKind} : ∃ w, L[j]? = some w ∧ ∀ h : Heap, iaO h 1 (.cv (.sl 1 (eT L) ex)) (vi k (j : Int)) = some (.rptr [cT w], h) :=
  ⟨L[j], List.getElem?_eq_getElem hj, fun h => ia_sl (by omega) (eT_get (List.getElem?_eq_getElem hj))⟩
theorem lit_len {L : List (List UInt8)} {w : List UInt8} {n j : Nat} (h : L[j]? = some w) (hL : ∀ x ∈ L, x.length ≤ n) : w.length ≤ n := hL w (List.mem_of_getElem? h)

section
variable {x : UInt8}
theorem u8_quo : IntKind.u8.wrap ((x.toNat : Int).tdiv 8) = ((x.toNat / 8 : Nat) : Int) := by
  have h : (x.toNat : Int).tdiv 8 = ((x.toNat / 8 : Nat) : Int) := rfl
  have := x.toNat_lt
  rw [h, IntKind.wrap_u8]
  omega
theorem u8_rem4 : ((x.toNat / 8 : Nat) : Int).tmod 4 = ((x.toNat / 8 % 4 : Nat) : Int) := rfl
end

end Go.V09

/-
  Chapter 09: pairs of choices.
-/
set_option linter.unusedSimpArgs false
set_option linter.unusedVariables false
namespace Go.V09
open Go Go.Vm Go.Lib

abbrev prL : List (List UInt8) := [[49], [50], [120], [121]]
def prWd (x : UInt8) : List UInt8 := prL.getD (x.toNat / 8 % 4) []
def prNext (last x : UInt8) : UInt8 := last + UInt8.ofNat (x.toNat % 3 + 1)
def prLast (last x : UInt8) : UInt8 := if 245 < x.toNat then prNext last x - 3 else prNext last x
/-- One pair more. -/
def prStep (st : List UInt8 × UInt8) (x : UInt8) : List UInt8 × UInt8 := ((if st.1 = [] then [] else st.1 ++ [44]) ++ [prLast st.2 x] ++ [61] ++ prWd x, prLast st.2 x)
def prT (c : List UInt8) : List UInt8 × UInt8 := (c.take 5).foldl prStep ([], 97)

theorem prWd_len (x : UInt8) : (prWd x).length ≤ 1 := by
  have h : x.toNat / 8 % 4 < 4 := by omega
  unfold prWd
  match hj : x.toNat / 8 % 4, h with
  | 0, _ => decide
  | 1, _ => decide
  | 2, _ => decide
  | 3, _ => decide
theorem prStep_ne {st : List UInt8 × UInt8} {x : UInt8} : (prStep st x).1 ≠ [] := by simp [prStep]
theorem prStep_len {st : List UInt8 × UInt8} {x : UInt8} : (prStep st x).1.length ≤ st.1.length + 4 := by
  have := prWd_len x
  unfold prStep
  split <;> simp <;> omega
theorem u8_3 {x : UInt8} : (x.toNat : Int).tmod 3 = ((x.toNat % 3 : Nat) : Int) := rfl
theorem u8_31 {x : UInt8} : IntKind.u8.wrap (((x.toNat % 3 : Nat) : Int) + 1) = ((x.toNat % 3 + 1 : Nat) : Int) := by rw [IntKind.wrap_u8]; omega
theorem u8_next {last x : UInt8} : IntKind.u8.wrap ((last.toNat : Int) + ((x.toNat % 3 + 1 : Nat) : Int)) = ((prNext last x).toNat : Int) := by
  unfold prNext
  rw [IntKind.wrap_u8, UInt8.toNat_add, UInt8.toNat_ofNat']
  omega
theorem u8_sub3 {y : UInt8} : IntKind.u8.wrap ((y.toNat : Int) - 3) = ((y - 3).toNat : Int) := by
  have := y.toNat_lt
  have h3 : (3 : UInt8).toNat = 3 := rfl
  rw [IntKind.wrap_u8, UInt8.toNat_sub, h3]
  omega

theorem f17_loop {c : List UInt8} {u : VV} (hu : SlV 1 (eB c) u) : ∀ (m i : Nat) (st : List UInt8 × UInt8) (s : List VV) (Q : Pst), i + m = min c.length 5 → st.1.length ≤ 4 * i → (st.1 = [] ↔ i = 0) → (((c.drop i).take m).foldl prStep st).1 = (prT c).1 → s.length = 52 → s.getD 0 .undef = u → s.getD 3 .undef = txt st.1 → s.getD 4 .undef = vi .u8 st.2.toNat → s.getD 5 .undef = vi .i64 i →
    (∀ s', s'.length = 52 → s'.getD 3 .undef = txt (prT c).1 → Q (.exit 0) ⟨s', []⟩) → X F (.loop f17_2) ⟨s, []⟩ Q := by
  have hln := hu.ln
  rw [eB_len] at hln
  intro m
  induction m with
  | zero =>
    intro i st s Q hi ht hz hf hs e0 e3 e4 e5 hQ
    have hf' : st.1 = (prT c).1 := hf
    rw [X_loop, X_eq f17_2.eq_1]
    by_cases c1 : ((i : Nat) : Int) < (c.length : Int)
    · have c2 : ¬ ((i : Nat) : Int) < 5 := by omega
      simp only [go_sem, Nat.reduceLT, Nat.reduceEqDiff, reduceCtorEq, Int.reduceLT, Int.reduceEq, hs, e5, e0, hln, c1, c2]
      exact hQ _ (by simp only [slot_len, hs]) (by simp only [go_sem, Nat.reduceLT, Nat.reduceEqDiff, reduceCtorEq, Int.reduceLT, Int.reduceEq, e3, hf'])
    · simp only [go_sem, Nat.reduceLT, Nat.reduceEqDiff, reduceCtorEq, Int.reduceLT, Int.reduceEq, hs, e5, e0, hln, c1]
      exact hQ _ (by simp only [slot_len, hs]) (by simp only [go_sem, Nat.reduceLT, Nat.reduceEqDiff, reduceCtorEq, Int.reduceLT, Int.reduceEq, e3, hf'])
  | succ m ih =>
    intro i st s Q hi ht hz hf hs e0 e3 e4 e5 hQ
    have c1 : ((i : Nat) : Int) < (c.length : Int) := by omega
    have c2 : ((i : Nat) : Int) < 5 := by omega
    have hil : i < c.length := by omega
    have hia : iaO [] 1 u (vi .i64 (i : Int)) = some (.rptr [.sc (.int .u8 c[i].toNat)], []) := hu.ia (by omega) (eB_get (List.getElem?_eq_getElem hil))
    have w1 : IntKind.i64.wrap ((i : Int) + 1) = ((i + 1 : Nat) : Int) := by rw [IntWalk.i64_in _ (by omega)]; omega
    have hd : c.drop i = c[i] :: c.drop (i + 1) := List.drop_eq_getElem_cons hil
    rw [hd, List.take_succ_cons, List.foldl_cons] at hf
    generalize c[i] = x at *
    have m4 : ∀ h : Heap, mkO h 1 4 [.cv (.sc (.string ⟨#[]⟩)), .cv (.sc (.string ⟨#[]⟩)), .cv (.sc (.string ⟨#[]⟩)), .cv (.sc (.string ⟨#[]⟩))] [(0, 1, txt [49]), (1, 1, txt [50]), (2, 1, txt [120]), (3, 1, txt [121])] = some (.cv (.sl 1 (eT prL) true), h) := fun h => mk_4
    obtain ⟨w, hw, hlw⟩ := lit_at (L := prL) (j := x.toNat / 8 % 4) (show x.toNat / 8 % 4 < 4 by omega) (ex := true) (k := .u8)
    have hwd : prWd x = w := by unfold prWd; rw [List.getD_eq_getElem?_getD, hw]; rfl
    rw [X_loop, X_eq f17_2.eq_1]
    simp only [go_sem, Nat.reduceLT, Nat.reduceEqDiff, reduceCtorEq, Int.reduceLT, Int.reduceEq, hs, e5, e0, hln, c1, c2]
    refine mid2 (fun s2 g => g = [] ∧ s2.length = 52 ∧ s2.getD 0 .undef = u ∧ s2.getD 4 .undef = vi .u8 st.2.toNat ∧ s2.getD 5 .undef = vi .i64 i ∧ s2.getD 3 .undef = txt (if st.1 = [] then [] else st.1 ++ [44])) ?_ ?_
    · rw [X_eq f17_0.eq_1]
      by_cases c3 : i = 0
      · have c4 : ¬ (0 : Int) < (i : Int) := by omega
        simp only [go_sem, Nat.reduceLT, Nat.reduceEqDiff, reduceCtorEq, Int.reduceLT, Int.reduceEq, hs, e5, e0, e4, gt_iff_lt, c4, true_and]
        rw [e3, if_pos (hz.2 c3), hz.2 c3]
      · have c4 : (0 : Int) < (i : Int) := by omega
        have ha : binO .add (txt st.1) (txt [44]) = some (txt (st.1 ++ [44])) := bin_sadd (by simp; omega)
        simp only [go_sem, Nat.reduceLT, Nat.reduceEqDiff, reduceCtorEq, Int.reduceLT, Int.reduceEq, hs, e5, e0, e4, e3, gt_iff_lt, c4, ha, true_and]
        rw [if_neg (fun h => c3 (hz.1 h))]
    have htl : (if st.1 = [] then [] else st.1 ++ [44] : List UInt8).length ≤ 30 := by split <;> simp <;> omega
    have hst : (prStep st x).1 = (if st.1 = [] then [] else st.1 ++ [44]) ++ [prLast st.2 x] ++ [61] ++ w := by unfold prStep; rw [hwd]
    generalize (if st.1 = [] then [] else st.1 ++ [44] : List UInt8) = t at htl hst
    rintro s2 _ ⟨rfl, hs2, d0, d4, d5, d3⟩
    simp only [go_sem, Nat.reduceLT, Nat.reduceEqDiff, reduceCtorEq, Int.reduceLT, Int.reduceEq, hs2, d0, d4, d5, hia, u8_3, u8_31, u8_next]
    refine mid2 (fun s3 g => g = [] ∧ s3.length = 52 ∧ s3.getD 0 .undef = u ∧ s3.getD 4 .undef = vi .u8 (prLast st.2 x).toNat ∧ s3.getD 5 .undef = vi .i64 i ∧ s3.getD 3 .undef = txt t) ?_ ?_
    · rw [X_eq f17_1.eq_1]
      by_cases c3 : 245 < x.toNat
      · have c4 : (245 : Int) < (x.toNat : Int) := by omega
        have hl : prLast st.2 x = prNext st.2 x - 3 := if_pos c3
        simp only [go_sem, Nat.reduceLT, Nat.reduceEqDiff, reduceCtorEq, Int.reduceLT, Int.reduceEq, hs2, d0, d5, d3, hia, gt_iff_lt, c4, u8_sub3, hl, true_and]
      · have c4 : ¬ (245 : Int) < (x.toNat : Int) := by omega
        have hl : prLast st.2 x = prNext st.2 x := if_neg c3
        simp only [go_sem, Nat.reduceLT, Nat.reduceEqDiff, reduceCtorEq, Int.reduceLT, Int.reduceEq, hs2, d0, d5, d3, hia, gt_iff_lt, c4, hl, true_and]
    rintro s3 _ ⟨rfl, hs3, g0, g4, g5, g3⟩
    have hbs : ∀ h : Heap, bsO h (.cv (.sl 1 [[.sc (.int .u8 ((prLast st.2 x).toNat : Int))]] true)) = some (txt [prLast st.2 x]) := fun h => bs_sl (l := [prLast st.2 x])
    have a1 : binO .add (txt t) (txt [prLast st.2 x]) = some (txt (t ++ [prLast st.2 x])) := bin_sadd (by simp; omega)
    have a2 : binO .add (txt (t ++ [prLast st.2 x])) (txt [61]) = some (txt (t ++ [prLast st.2 x] ++ [61])) := bin_sadd (by simp; omega)
    have hwl : w.length ≤ 1 := lit_len hw (by decide)
    have a3 : binO .add (txt (t ++ [prLast st.2 x] ++ [61])) (txt w) = some (txt (t ++ [prLast st.2 x] ++ [61] ++ w)) := bin_sadd (by simp; omega)
    refine X_draw rfl ?_
    simp only [go_sem, Nat.reduceLT, Nat.reduceEqDiff, reduceCtorEq, Int.reduceLT, Int.reduceEq, hs3, g0, g3, g4, g5, hbs, a1, a2, m4, hia, u8_quo, u8_rem4, hlw, a3, w1]
    rw [← hst]
    have hl2 : (prStep st x).1.length ≤ 4 * (i + 1) := by have := prStep_len (st := st) (x := x); omega
    exact ih (i + 1) (prStep st x) _ Q (by omega) hl2 ⟨fun h => absurd h prStep_ne, fun h => by omega⟩ hf (by simp only [slot_len, hs3]) (by simp only [go_sem, Nat.reduceLT, Nat.reduceEqDiff, reduceCtorEq, Int.reduceLT, Int.reduceEq, g0]) (by simp only [go_sem, Nat.reduceLT, Nat.reduceEqDiff, reduceCtorEq, Int.reduceLT, Int.reduceEq, hs3]) (by simp only [go_sem, Nat.reduceLT, Nat.reduceEqDiff, reduceCtorEq, Int.reduceLT, Int.reduceEq, g4]; rfl) (by simp only [go_sem, Nat.reduceLT, Nat.reduceEqDiff, reduceCtorEq, Int.reduceLT, Int.reduceEq, hs3]) hQ

theorem prT_len (c : List UInt8) : (prT c).1.length ≤ 20 := by
  have key : ∀ (l : List UInt8) (st : List UInt8 × UInt8), (l.foldl prStep st).1.length ≤ st.1.length + 4 * l.length := by
    intro l
    induction l with
    | nil => intro st; simp
    | cons x l ih =>
      intro st
      have h1 := ih (prStep st x)
      have h2 := prStep_len (st := st) (x := x)
      simp only [List.foldl_cons, List.length_cons]; omega
  have := key (c.take 5) ([], 97)
  have h2 : (c.take 5).length ≤ 5 := by rw [List.length_take]; omega
  unfold prT
  simp only [List.length_nil] at this
  omega

theorem pairs_f17 {c : List UInt8} {u : VV} (hu : SlV 1 (eB c) u) : RetP F 17 [u] (fun v => v = txt (prT c).1) := by
  have : Ret F 17 [u] [] fun v g => v = txt (prT c).1 := by
    refine call_E (fn := f17) rfl ?_
    simp only [f17]
    generalize hs0 : ([u] ++ List.replicate _ VV.undef : List VV) = s
    have hs : s.length = 52 := by rw [← hs0]; rfl
    have h0 : s.getD 0 .undef = u := by rw [← hs0]; rfl
    clear hs0
    simp only [go_sem, Nat.reduceLT, Nat.reduceEqDiff, reduceCtorEq, Int.reduceLT, Int.reduceEq, hs]
    refine f17_loop hu (min c.length 5) 0 ([], 97) _ _ (by omega) (by simp) (by simp) ?_ (by simp only [slot_len, hs]) (by simp only [go_sem, Nat.reduceLT, Nat.reduceEqDiff, reduceCtorEq, Int.reduceLT, Int.reduceEq, h0]) (by simp only [go_sem, Nat.reduceLT, Nat.reduceEqDiff, reduceCtorEq, Int.reduceLT, Int.reduceEq, hs]) (by simp only [go_sem, Nat.reduceLT, Nat.reduceEqDiff, reduceCtorEq, Int.reduceLT, Int.reduceEq, hs]; rfl) (by simp only [go_sem, Nat.reduceLT, Nat.reduceEqDiff, reduceCtorEq, Int.reduceLT, Int.reduceEq, hs]; rfl) (fun s' b0 b1 => ?_)
    · unfold prT
      rw [List.drop_zero]
      congr 2
      by_cases h : c.length ≤ 5
      · rw [List.take_of_length_le (by omega), List.take_of_length_le h]
      · rw [show min c.length 5 = 5 by omega]
    · simp only [go_sem, Nat.reduceLT, Nat.reduceEqDiff, reduceCtorEq, Int.reduceLT, Int.reduceEq, b0, b1]
  obtain ⟨v, g, e, rfl⟩ := this
  exact ⟨_, _, e, _, rfl, rfl⟩
end Go.V09

/-
  Chapter 09: the laws TopicMatches, TopicWants.
-/
set_option linter.unusedSimpArgs false
set_option linter.unusedVariables false
namespace Go.V09
open Go Go.Vm Go.Lib

end Go.V09

/-
  Chapter 09: the laws TopicOwn, TopicLess.
-/
set_option linter.unusedSimpArgs false
set_option linter.unusedVariables false
namespace Go.V09
open Go Go.Vm Go.Lib

/-! ### less is wanted -/
theorem has_self (L : List (List UInt8)) : L.all (hasB L) = true := by
  rw [List.all_eq_true]
  intro p hp
  unfold hasB
  rw [List.any_eq_true]
  exact ⟨p, hp, by simp⟩
theorem has_more (A B : List (List UInt8)) : A.all (hasB (A ++ B)) = true := by
  rw [List.all_eq_true]
  intro p hp
  unfold hasB
  rw [List.any_eq_true]
  exact ⟨p, List.mem_append_left _ hp, by simp⟩
theorem pairsL_left : ∀ {A B : List (List UInt8)} {last : List UInt8}, pairsL last (A ++ B) = true → pairsL last A = true
  | [], _, _, _ => rfl
  | p :: A, B, last, h => by
    simp only [List.cons_append, pairsL] at h ⊢
    split at h
    · rename_i a b heq
      by_cases hc : (wordB a && wordB b && !leqB a last) = true
      · rw [if_pos hc] at h ⊢; exact pairsL_left h
      · rw [if_neg hc] at h; cases h
    · cases h
theorem wanted_nil (a : List UInt8) : wantedB [] a = (pairsR a).2 := by
  unfold wantedB
  have : pairsR [] = ([], true) := rfl
  rw [this]; simp
theorem wanted_self {p : List UInt8} (h : (pairsR p).2 = true) : wantedB p p = true := by
  unfold wantedB; rw [h, has_self]; rfl
theorem wanted_bad {w p : List UInt8} (h : (pairsR p).2 = false) : wantedB w p = false := by
  unfold wantedB; rw [h, Bool.and_false, Bool.false_and]
theorem wanted_less {q r : List UInt8} (hq : q ≠ []) (h : (pairsR (q ++ 44 :: r)).2 = true) : wantedB q (q ++ 44 :: r) = true := by
  have hne : q ++ 44 :: r ≠ [] := by simp
  have e : pairsR (q ++ 44 :: r) = if pairsL [] (splitS 44 (q ++ 44 :: r)) then (splitS 44 (q ++ 44 :: r), decide ((q ++ 44 :: r).length ≤ 30)) else ([], false) := if_neg hne
  have e2 : pairsR q = if pairsL [] (splitS 44 q) then (splitS 44 q, decide (q.length ≤ 30)) else ([], false) := if_neg hq
  rw [splitS_app] at e
  by_cases hp : pairsL [] (splitS 44 q ++ splitS 44 r) = true
  · rw [if_pos hp] at e
    rw [if_pos (pairsL_left hp)] at e2
    rw [e] at h
    have hl : (q ++ 44 :: r).length ≤ 30 := by simpa using h
    have hl2 : q.length ≤ 30 := by rw [List.length_append] at hl; omega
    unfold wantedB
    rw [e, e2, decide_eq_true hl, decide_eq_true hl2, has_more]; rfl
  · rw [if_neg hp] at e
    rw [e] at h; cases h

/-- All but the last pair. -/
theorem prT_less {c : List UInt8} (hc : c.length ≤ 5) (h : (pairsR (prT c).1).2 = true) : wantedB (prT (c.take (c.length - 1))).1 (prT c).1 = true := by
  rcases List.eq_nil_or_concat c with rfl | ⟨d, x, rfl⟩
  · exact wanted_self h
  · have e1 : (d.concat x).take ((d.concat x).length - 1) = d := by simp
    rw [e1]
    have hdl : d.length ≤ 4 := by simp at hc; omega
    have e2 : prT (d.concat x) = prStep (prT d) x := by
      unfold prT
      rw [List.take_of_length_le hc, List.take_of_length_le (by omega), List.concat_eq_append, List.foldl_append]; rfl
    rw [e2] at h ⊢
    by_cases hd : (prT d).1 = []
    · rw [hd, wanted_nil]; exact h
    · have e3 : (prStep (prT d) x).1 = (prT d).1 ++ 44 :: ([prLast (prT d).2 x] ++ [61] ++ prWd x) := by
        simp only [prStep, if_neg hd, List.append_assoc]; rfl
      rw [e3] at h ⊢
      exact wanted_less hd h

theorem less_f7 {c a : List UInt8} {u : VV} (hu : SlV 1 (eB c) u) (hcl : c.length ≤ 9223372036854775807) (ha : a.length ≤ 1000000000) : Ret F 7 [u, txt a] [] fun v g => v = vb true := by
  obtain ⟨vk, gk, nk, _, rk, rfl⟩ := known_f9
  obtain ⟨v1, g1, n1, _, r1, rfl⟩ := pairs_f17 hu
  have htb := prT_len c
  generalize hp : (prT c).1 = p at *
  have hpb : p.length ≤ 1000000000 := by omega
  obtain ⟨v2, g2, n2, _, r2, rfl⟩ := attrs_f15 hpb
  obtain ⟨v3, g3, n3, _, r3, rfl⟩ := wanted_f18 hpb hpb
  obtain ⟨v4, g4, n4, _, r4, rfl⟩ := wanted_f18 (w := []) (by simp) hpb
  obtain ⟨v5, g5, n5, _, r5, rfl⟩ := wanted_f18 (w := []) (by simp) ha
  obtain ⟨v6, g6, n6, _, r6, rfl⟩ := attrs_f15 ha
  rw [wanted_nil] at r5 r4
  refine call_E (fn := f7) rfl ?_
  simp only [f7]
  generalize hs0 : ([u, txt a] ++ List.replicate _ VV.undef : List VV) = s
  have hs : s.length = 58 := by rw [← hs0]; rfl
  have h0 : s.getD 0 .undef = u := by rw [← hs0]; rfl
  have h1 : s.getD 1 .undef = txt a := by rw [← hs0]; rfl
  clear hs0
  simp only [go_sem, Nat.reduceLT, Nat.reduceEqDiff, reduceCtorEq, Int.reduceLT, Int.reduceEq, hs, h0]
  refine XO_callP (by simp only [List.map, go_sem, Nat.reduceLT, Nat.reduceEqDiff, reduceCtorEq, Int.reduceLT, Int.reduceEq, hs]; exact hu.clos rfl) n1 r1 ?_
  simp only [go_sem, Nat.reduceLT, Nat.reduceEqDiff, reduceCtorEq, Int.reduceLT, Int.reduceEq, hs]
  rw [X_eq f7_0.eq_1]
  simp only [go_sem, Nat.reduceLT, Nat.reduceEqDiff, reduceCtorEq, Int.reduceLT, Int.reduceEq, hs]
  refine XO_callP (by simp only [List.map, go_sem, Nat.reduceLT, Nat.reduceEqDiff, reduceCtorEq, Int.reduceLT, Int.reduceEq, hs]; rfl) n2 r2 ?_
  cases hr : (pairsR p).2 with
  | false =>
    rw [wanted_bad hr] at r3
    rw [hr] at r4
    simp only [go_sem, Nat.reduceLT, Nat.reduceEqDiff, reduceCtorEq, Int.reduceLT, Int.reduceEq, hs]
    refine XO_callP (by simp only [List.map, go_sem, Nat.reduceLT, Nat.reduceEqDiff, reduceCtorEq, Int.reduceLT, Int.reduceEq, hs]; rfl) nk rk ?_
    simp only [go_sem, Nat.reduceLT, Nat.reduceEqDiff, reduceCtorEq, Int.reduceLT, Int.reduceEq, hs]
    refine XO_callP (by simp only [List.map, go_sem, Nat.reduceLT, Nat.reduceEqDiff, reduceCtorEq, Int.reduceLT, Int.reduceEq, hs]; rfl) n3 r3 ?_
    simp only [go_sem, Nat.reduceLT, Nat.reduceEqDiff, reduceCtorEq, Int.reduceLT, Int.reduceEq, hs]
    refine XO_callP (by simp only [List.map, go_sem, Nat.reduceLT, Nat.reduceEqDiff, reduceCtorEq, Int.reduceLT, Int.reduceEq, hs]; rfl) n4 r4 ?_
    simp only [go_sem, Nat.reduceLT, Nat.reduceEqDiff, reduceCtorEq, Int.reduceLT, Int.reduceEq, hs]
  | true =>
    rw [wanted_self hr] at r3
    rw [hr] at r4
    have hln := hu.ln
    rw [eB_len] at hln
    have w1 : IntKind.i64.wrap ((c.length : Int) - 1) = (c.length : Int) - 1 := IntWalk.i64_in _ (by omega)
    have hmx : max ((c.length : Int) - 1) 0 = ((c.length - 1 : Nat) : Int) := by omega
    obtain ⟨w, hw, hsl⟩ := hu.upto (h := []) (k := .i64) (b := ((c.length - 1 : Nat) : Int)) (by omega) (by rw [eB_len]; omega)
    rw [Int.toNat_natCast] at hw
    have hw2 : SlV 1 (eB (c.take (c.length - 1))) w := by
      have : eB (c.take (c.length - 1)) = (eB c).take (c.length - 1) := by simp [eB, List.map_take]
      rw [this]; exact hw
    obtain ⟨v7, g7, n7, _, r7, rfl⟩ := pairs_f17 hw2
    have hqb : (prT (c.take (c.length - 1))).1.length ≤ 1000000000 := by have := prT_len (c.take (c.length - 1)); omega
    obtain ⟨v8, g8, n8, _, r8, rfl⟩ := wanted_f18 hqb hpb
    simp only [go_sem, Nat.reduceLT, Nat.reduceEqDiff, reduceCtorEq, Int.reduceLT, Int.reduceEq, hs, h0, hln, w1, hmx, hsl, Option.map_none, Option.map_some]
    refine XO_callP (by simp only [List.map, go_sem, Nat.reduceLT, Nat.reduceEqDiff, reduceCtorEq, Int.reduceLT, Int.reduceEq, hs]; exact hw2.clos rfl) n7 r7 ?_
    simp only [go_sem, Nat.reduceLT, Nat.reduceEqDiff, reduceCtorEq, Int.reduceLT, Int.reduceEq, hs]
    refine XO_callP (by simp only [List.map, go_sem, Nat.reduceLT, Nat.reduceEqDiff, reduceCtorEq, Int.reduceLT, Int.reduceEq, hs]; rfl) nk rk ?_
    simp only [go_sem, Nat.reduceLT, Nat.reduceEqDiff, reduceCtorEq, Int.reduceLT, Int.reduceEq, hs]
    refine XO_callP (by simp only [List.map, go_sem, Nat.reduceLT, Nat.reduceEqDiff, reduceCtorEq, Int.reduceLT, Int.reduceEq, hs]; rfl) n3 r3 ?_
    simp only [go_sem, Nat.reduceLT, Nat.reduceEqDiff, reduceCtorEq, Int.reduceLT, Int.reduceEq, hs]
    refine XO_callP (by simp only [List.map, go_sem, Nat.reduceLT, Nat.reduceEqDiff, reduceCtorEq, Int.reduceLT, Int.reduceEq, hs]; rfl) n4 r4 ?_
    by_cases c5 : (5 : Int) < (c.length : Int)
    · simp only [go_sem, Nat.reduceLT, Nat.reduceEqDiff, reduceCtorEq, Int.reduceLT, Int.reduceEq, hs, h0, hln, gt_iff_lt, c5, h1]
      refine XO_callP (by simp only [List.map, go_sem, Nat.reduceLT, Nat.reduceEqDiff, reduceCtorEq, Int.reduceLT, Int.reduceEq, hs]; rfl) n5 r5 ?_
      simp only [go_sem, Nat.reduceLT, Nat.reduceEqDiff, reduceCtorEq, Int.reduceLT, Int.reduceEq, hs, h1]
      refine XO_callP (by simp only [List.map, go_sem, Nat.reduceLT, Nat.reduceEqDiff, reduceCtorEq, Int.reduceLT, Int.reduceEq, hs]; rfl) n6 r6 ?_
      simp only [go_sem, Nat.reduceLT, Nat.reduceEqDiff, reduceCtorEq, Int.reduceLT, Int.reduceEq, hs, beq_self_eq_true]
    · have hless := prT_less (c := c) (by omega) (by rw [hp]; exact hr)
      rw [hp] at hless
      rw [hless] at r8
      simp only [go_sem, Nat.reduceLT, Nat.reduceEqDiff, reduceCtorEq, Int.reduceLT, Int.reduceEq, hs, h0, hln, gt_iff_lt, c5]
      refine XO_callP (by simp only [List.map, go_sem, Nat.reduceLT, Nat.reduceEqDiff, reduceCtorEq, Int.reduceLT, Int.reduceEq, hs]; rfl) n8 r8 ?_
      simp only [go_sem, Nat.reduceLT, Nat.reduceEqDiff, reduceCtorEq, Int.reduceLT, Int.reduceEq, hs, h1]
      refine XO_callP (by simp only [List.map, go_sem, Nat.reduceLT, Nat.reduceEqDiff, reduceCtorEq, Int.reduceLT, Int.reduceEq, hs]; rfl) n5 r5 ?_
      simp only [go_sem, Nat.reduceLT, Nat.reduceEqDiff, reduceCtorEq, Int.reduceLT, Int.reduceEq, hs, h1]
      refine XO_callP (by simp only [List.map, go_sem, Nat.reduceLT, Nat.reduceEqDiff, reduceCtorEq, Int.reduceLT, Int.reduceEq, hs]; rfl) n6 r6 ?_
      simp only [go_sem, Nat.reduceLT, Nat.reduceEqDiff, reduceCtorEq, Int.reduceLT, Int.reduceEq, hs, beq_self_eq_true]
end Go.V09

/-
  Chapter 09: the laws TopicParts, TopicLong.
-/
set_option linter.unusedSimpArgs false
set_option linter.unusedVariables false
namespace Go.V09
open Go Go.Vm Go.Lib

/-! ### TopicLong -/
/-! ### TopicParts -/
end Go.V09
