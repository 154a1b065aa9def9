/- Part of a proof: of what it says, and when, each theorem tells itself. -/
import Derived.Test.YtpingdgbndmcnaaC01r
set_option linter.unusedSimpArgs false
set_option linter.unusedVariables false
namespace Go.V01
open Go Go.Vm

/-! ### what was put is got -/

def flatB (kv : List (List UInt8 × List UInt8)) : List UInt8 := (kv.map rowB).flatten
theorem flatB_cons {p : List UInt8 × List UInt8} {kv : List (List UInt8 × List UInt8)} : flatB (p :: kv) = rowB p ++ flatB kv := rfl
def rowCs (kv : List (List UInt8 × List UInt8)) : List (List CV) := kv.map fun p => rowC p.1 p.2
theorem rowCs_E : ∀ kv, RowsE (rowCs kv) kv
  | [] => .nil
  | p :: kv => .cons ⟨_, rfl, SlV.sl⟩ (rowCs_E kv)

theorem getRow_rowB (a r : List UInt8) (p : List UInt8 × List UInt8) (h1 : p.1.length ≤ 30) (h2 : p.2.length ≤ 150) : getRow (a ++ rowB p ++ r) a.length = (rowC p.1 p.2, a.length + (rowB p).length, 0) := by
  have e1 : getText (a ++ rowB p ++ r) a.length 30 = (p.1, a.length + (text p.1).length, 0) := by
    have := getText_text a (text p.2 ++ r) p.1 30 (by omega)
    rw [if_neg (by omega)] at this
    rw [← this]
    unfold rowB
    simp only [List.append_assoc]
  have e2 : getText (a ++ rowB p ++ r) ((a.length + (text p.1).length : Nat) : Int) 150 = (p.2, a.length + (text p.1).length + (text p.2).length, 0) := by
    have := getText_text (a ++ text p.1) r p.2 150 (by omega)
    rw [if_neg (by omega)] at this
    rw [List.length_append] at this
    rw [← this]
    unfold rowB
    simp only [List.append_assoc]
  unfold getRow
  rw [e1]
  simp only [ne_eq, not_true_eq_false, if_false]
  rw [e2]
  simp only [rowB, List.length_append, Nat.add_assoc]

/-- Rows that may be. -/
def Fits (kv : List (List UInt8 × List UInt8)) : Prop := ∀ p ∈ kv, p.1.length ≤ 30 ∧ p.2.length ≤ 150

theorem wholeF_rows : ∀ (kv : List (List UInt8 × List UInt8)) (a r : List UInt8) (out : List (List CV)), Fits kv →
    wholeF (getRow (a ++ flatB kv ++ r)) kv.length a.length out = (out ++ rowCs kv, a.length + (flatB kv).length, 0)
  | [], a, r, out, _ => by simp [wholeF, rowCs, flatB]
  | p :: kv, a, r, out, h => by
    obtain ⟨h1, h2⟩ := h p (by simp)
    have e1 : getRow (a ++ flatB (p :: kv) ++ r) a.length = (rowC p.1 p.2, a.length + (rowB p).length, 0) := by
      have := getRow_rowB a (flatB kv ++ r) p h1 h2
      rw [← this, flatB_cons]
      simp only [List.append_assoc]
    have e2 := wholeF_rows kv (a ++ rowB p) r (out ++ [rowC p.1 p.2]) (fun q hq => h q (by simp [hq]))
    rw [List.length_append] at e2
    simp only [List.length_cons, wholeF]
    rw [e1]
    simp only [ne_eq, not_true_eq_false, if_false]
    have e3 : a ++ flatB (p :: kv) ++ r = a ++ rowB p ++ flatB kv ++ r := by rw [flatB_cons]; simp only [List.append_assoc]
    rw [e3, e2]
    simp only [rowCs, List.map_cons, flatB_cons, List.length_append, List.append_assoc, List.singleton_append, Nat.add_assoc]

theorem wholeB_rows (kv : List (List UInt8 × List UInt8)) (hf : Fits kv) (hk : kv.length ≤ 5000) : wholeB (getRow (rowsB kv)) (rowsB kv) = (rowCs kv, 0) := by
  have hc : clamp (kv.length : Int) = kv.length := clamp_of _ (by omega)
  have e0 : rowsB kv = num kv.length ++ flatB kv ++ [] := by unfold rowsB; rw [hc]; simp [flatB]
  have e1 : getNum (rowsB kv) 0 = (kv.length, (num kv.length).length, 0) := by
    rw [e0]
    have := getNum_num [] (flatB kv ++ []) kv.length (by omega)
    simpa using this
  have e2 := wholeF_rows kv (num kv.length) [] [] hf
  rw [← e0] at e2
  unfold wholeB
  rw [e1]
  simp only [ne_eq, not_true_eq_false, if_false]
  rw [if_neg (by omega), e2]
  have e4 : ¬ (num kv.length).length + (flatB kv).length < (rowsB kv).length := by rw [e0]; simp
  simp only [List.nil_append, not_true_eq_false, if_false, e4]

theorem rowL_fits : ∀ n c, Fits (rowL n c)
  | 0, _ => by intro p hp; simp [rowL] at hp
  | n + 1, [] => by intro p hp; simp [rowL] at hp
  | n + 1, [_] => by intro p hp; simp [rowL] at hp
  | n + 1, x :: y :: r => by
    intro p hp
    simp only [rowL, List.mem_cons] at hp
    rcases hp with rfl | hp
    · have := rowV_len x y
      exact ⟨by simp [rowK], by simp only; omega⟩
    · exact rowL_fits n r p hp

theorem rowB_len (p : List UInt8 × List UInt8) (h : p.1.length ≤ 30 ∧ p.2.length ≤ 150) : (rowB p).length ≤ 200 := by
  unfold rowB text
  have h1 := num_len p.1.length
  have h2 := num_len p.2.length
  simp only [List.length_append]; omega
theorem flatB_len : ∀ kv, Fits kv → (flatB kv).length ≤ 200 * kv.length
  | [], _ => by simp [flatB]
  | p :: kv, h => by
    have h1 := rowB_len p (h p (by simp))
    have h2 := flatB_len kv (fun q hq => h q (by simp [hq]))
    rw [flatB_cons, List.length_append, List.length_cons]; omega
theorem rowsB_len (kv : List (List UInt8 × List UInt8)) (h : Fits kv) : (rowsB kv).length ≤ 8 + 200 * kv.length := by
  have h1 := flatB_len kv h
  have h2 := num_len kv.length
  unfold rowsB
  unfold flatB at h1
  rw [List.length_append]; omega

/-! ### slices that may be written no more -/

def BufF (h : Heap) (z : Nat) (els : List (List CV)) (v : VV) : Prop := (els = [] ∧ v = nilS) ∨ (∃ id g fr, els ≠ [] ∧ v = .own id g 0 els.length false ∧ h[id]? = some (.arr z els g fr))
theorem bufF_of {h : Heap} {z : Nat} {els : List (List CV)} {v : VV} (hb : BufG h z els v) : BufF h z els v := by
  rcases hb with hb | ⟨id, g, h1, h2, h3⟩
  · exact .inl hb
  · exact .inr ⟨id, g, false, h1, h2, h3⟩
theorem BufF.clos {h : Heap} {z : Nat} {els : List (List CV)} {v : VV} (hb : BufF h z els v) : ∃ h1, closA h v = some (slV z els, h1) ∧ BufF h1 z els v := by
  rcases hb with ⟨rfl, rfl⟩ | ⟨id, g, fr, h1, rfl, h3⟩
  · exact ⟨h, rfl, .inl ⟨rfl, rfl⟩⟩
  · have hid : id < h.length := (List.getElem?_eq_some_iff.1 h3).1
    refine ⟨h.set id (.arr z els g true), ?_, .inr ⟨id, g, true, h1, rfl, by rw [List.getElem?_set_self hid]⟩⟩
    simp [closA, Vm.clos, h3, slV, h1]
theorem BufF.ln {h : Heap} {z : Nat} {els : List (List CV)} {v : VV} (hb : BufF h z els v) : lnO false v = some (vi .i64 els.length) := by
  rcases hb with ⟨rfl, rfl⟩ | ⟨id, g, fr, h1, rfl, h3⟩ <;> rfl

theorem RowsE.set {l : List (List CV)} {k : List (List UInt8 × List UInt8)} (h : RowsE l k) : ∀ {i : Nat} {e : List CV} {p : List UInt8 × List UInt8}, k[i]? = some p → rowE e p → RowsE (l.set i e) k := by
  induction h with
  | nil => intro i e p hp; simp at hp
  | @cons e' p' l k h ht ih =>
    intro i e p hp he
    cases i with
    | zero => simp at hp; subst hp; exact .cons he ht
    | succ i => exact .cons h (ih (by simpa using hp) he)

theorem f6_loop (k : List (List UInt8 × List UInt8)) (hf : Fits k) (hk : k.length ≤ 100) : ∀ (d i : Nat) (els : List (List CV)) (h : Heap) (v : VV) (s : List VV) (Q : Pst),
    i + d = k.length → RowsE els k → BufG h 2 els v → s.length = 132 → s.getD 19 .undef = v → s.getD 20 .undef = vi .i64 i →
    (∀ s' h' els', s'.length = 132 → (∀ j, j < 20 → s'.getD j .undef = s.getD j .undef) → RowsE els' k → BufG h' 2 els' v → Q (.exit 0) ⟨s', h'⟩) → X F (.loop f6_1) ⟨s, h⟩ Q := by
  intro d
  induction d with
  | zero =>
    intro i els h v s Q hi hR hb hs h19 h20 hQ
    rw [X_loop, X_eq f6_1.eq_1]
    have hlt : ¬ (i : Int) < (els.length : Int) := by rw [hR.len]; omega
    simp only [go_sem, Nat.reduceLT, Nat.reduceEqDiff, reduceCtorEq, Int.reduceLT, Int.reduceEq, hs, h19, h20, hb.ln, hlt]
    refine hQ _ h els (by simp only [slot_len, hs]) (fun j hj => ?_) hR hb
    have : ∀ m, 20 ≤ m → m ≠ j := by omega
    simp only [slot_ne (this 68 (by decide)), slot_ne (this 69 (by decide)), slot_ne (this 70 (by decide)), slot_ne (this 71 (by decide))]
  | succ d ih =>
    intro i els h v s Q hi hR hb hs h19 h20 hQ
    rw [X_loop, X_eq f6_1.eq_1]
    have hlt : (i : Int) < (els.length : Int) := by rw [hR.len]; omega
    obtain ⟨e, p, g1, g2, c, rfl, hc⟩ := hR.get (i := i) (by omega)
    obtain ⟨f1, f2⟩ := hf p (List.mem_of_getElem? g2)
    have hne : els ≠ [] := by rintro rfl; simp at g1
    have ho := hb.own hne
    obtain ⟨q, q1, q2, q3⟩ := ho.at_ (i := i) (by omega)
    obtain ⟨q', r1, r2⟩ := q2 _ c 1 g1 rfl
    obtain ⟨q'', r3, r4⟩ := q3 _ 1 g1 (by simp)
    have hm : (min (p.2.length : Int) 150) = ((p.2.length : Nat) : Int) := by omega
    obtain ⟨v', hv', sl⟩ := hc.upto (h := h) (k := .i64) (b := ((p.2.length : Nat) : Int)) (by omega) (by rw [eB_len]; omega)
    rw [eB_take, show ((p.2.length : Nat) : Int).toNat = p.2.length from rfl, List.take_length] at hv'
    obtain ⟨c', rfl⟩ : ∃ c', v' = .cv c' := by
      rcases hv' with ⟨rfl, _⟩ | ⟨ex, rfl⟩ <;> exact ⟨_, rfl⟩
    have hq : q' = q'' := by rw [r1] at r3; cases r3; rfl
    subst hq
    obtain ⟨h', st, ho'⟩ := r4 c'
    have e5 : IntKind.i64.wrap ((i : Int) + 1) = ((i + 1 : Nat) : Int) := by rw [IntWalk.i64_in _ (by omega)]; omega
    simp only [go_sem, Nat.reduceLT, Nat.reduceEqDiff, reduceCtorEq, Int.reduceLT, Int.reduceEq, hs, h19, h20, hb.ln, hlt]
    refine X_draw rfl ?_
    simp only [go_sem, Nat.reduceLT, Nat.reduceEqDiff, reduceCtorEq, Int.reduceLT, Int.reduceEq, hs, h19, h20, q1, r1, r2, r3, hc.ln, eB_len, hm, sl, st, e5]
    have hR' : RowsE (els.set i ([CV.sc (.string ⟨p.1.toArray⟩), c].set 1 c')) k := hR.set g2 ⟨c', rfl, hv'⟩
    refine ih (i + 1) _ h' v _ Q (by omega) hR' (ho'.bufG ?_) (by simp only [slot_len, hs]) (by simp only [go_sem, Nat.reduceLT, Nat.reduceEqDiff, reduceCtorEq, Int.reduceLT, Int.reduceEq, h19]) (by simp only [go_sem, Nat.reduceLT, Nat.reduceEqDiff, reduceCtorEq, Int.reduceLT, Int.reduceEq, hs]) ?_
    · intro e0
      have := congrArg List.length e0
      rw [List.length_set, List.length_nil] at this
      exact hne (List.eq_nil_of_length_eq_zero this)
    · intro s' h' els' a1 a2 a3 a4
      refine hQ s' h' els' a1 (fun j hj => ?_) a3 a4
      rw [a2 j hj]
      have : ∀ m, 20 ≤ m → m ≠ j := by omega
      repeat rw [slot_ne (this _ (by decide))]

theorem law_back (n : Int) (l ahead : List UInt8) (va : VV) (hva : SlV 1 (eB ahead) va) (c : List UInt8) (vc : VV) (hvc : SlV 1 (eB c) vc) :
    ∃ h', call F 6 [vi .i64 n, txt l, va, vc] [] = some (.ret (vb true), h') := by
  obtain ⟨hk, hknown⟩ := known_f11
  refine call_V (fn := f6) rfl ?_
  simp only [f6]
  generalize hs0 : ([vi .i64 n, txt l, va, vc] ++ List.replicate _ VV.undef : List VV) = s
  have hs : s.length = 132 := by rw [← hs0]; rfl
  have h0 : s.getD 0 .undef = vi .i64 n := by rw [← hs0]; rfl
  have h1 : s.getD 1 .undef = txt l := by rw [← hs0]; rfl
  have h2 : s.getD 2 .undef = va := by rw [← hs0]; rfl
  have h3 : s.getD 3 .undef = vc := by rw [← hs0]; rfl
  clear hs0
  simp only [go_sem, Nat.reduceLT, Nat.reduceEqDiff, reduceCtorEq, Int.reduceLT, Int.reduceEq, hs]
  rw [X_eq f6_0.eq_1]
  by_cases c1 : (300 : Int) < (l.length : Int)
  · simp only [go_sem, Nat.reduceLT, Nat.reduceEqDiff, reduceCtorEq, Int.reduceLT, Int.reduceEq, hs, h1, eq_true c1]
    refine XO_callP clos_nil hknown res_cv ?_
    simp only [go_sem, Nat.reduceLT, Nat.reduceEqDiff, reduceCtorEq, Int.reduceLT, Int.reduceEq, hs]
    exact rfl
  · by_cases c2 : (300 : Int) < (ahead.length : Int)
    · simp only [go_sem, Nat.reduceLT, Nat.reduceEqDiff, reduceCtorEq, Int.reduceLT, Int.reduceEq, hs, h1, h2, c1, hva.ln, eB_len, eq_true c2]
      refine XO_callP clos_nil hknown res_cv ?_
      simp only [go_sem, Nat.reduceLT, Nat.reduceEqDiff, reduceCtorEq, Int.reduceLT, Int.reduceEq, hs]
      exact rfl
    · have hl : l.length ≤ 300 := by omega
      have ha : ahead.length ≤ 300 := by omega
      have ec : max 0 (min n 9007199254740992) = ((clamp n : Nat) : Int) := by unfold clamp; omega
      have hn := num_len n
      have hT : (text l).length ≤ 400 := by
        unfold text
        have := num_len l.length
        simp only [List.length_append]; omega
      simp only [go_sem, Nat.reduceLT, Nat.reduceEqDiff, reduceCtorEq, Int.reduceLT, Int.reduceEq, hs, h0, h1, h2, c1, hva.ln, eB_len, c2, ec]
      refine XO_appG (BufG.nil [] 1) (new := eB ahead) (by simp only [go_sem, Nat.reduceLT, Nat.reduceEqDiff, reduceCtorEq, Int.reduceLT, Int.reduceEq, hs]) (by simp only [go_sem, Nat.reduceLT, Nat.reduceEqDiff, reduceCtorEq, Int.reduceLT, Int.reduceEq, hs]; exact hva.src) (by simp only [eB_len, List.length_nil]; omega) (by simp only [eB_len, List.length_nil]; omega) (fun v5 g5 hb5 _ _ => ?_)
      rw [List.nil_append] at hb5
      obtain ⟨w1, x1, hc1, hr1⟩ := num_pure n
      obtain ⟨w2, x2, hc2, hr2⟩ := text_pure l (by omega)
      simp only [go_sem, Nat.reduceLT, Nat.reduceEqDiff, reduceCtorEq, Int.reduceLT, Int.reduceEq, hs, h0, h1]
      refine XO_callP (by simp only [List.map, go_sem, Nat.reduceLT, Nat.reduceEqDiff, reduceCtorEq, Int.reduceLT, Int.reduceEq, hs]; exact clos_cv clos_nil) hc1 hr1 ?_
      simp only [go_sem, Nat.reduceLT, Nat.reduceEqDiff, reduceCtorEq, Int.reduceLT, Int.reduceEq, hs, h1]
      refine XO_callP (by simp only [List.map, go_sem, Nat.reduceLT, Nat.reduceEqDiff, reduceCtorEq, Int.reduceLT, Int.reduceEq, hs]; exact clos_cv clos_nil) hc2 hr2 ?_
      simp only [go_sem, Nat.reduceLT, Nat.reduceEqDiff, reduceCtorEq, Int.reduceLT, Int.reduceEq, hs]
      refine XO_appG hb5 (new := eB (num (clamp n))) (by simp only [go_sem, Nat.reduceLT, Nat.reduceEqDiff, reduceCtorEq, Int.reduceLT, Int.reduceEq, hs]) (by simp only [go_sem, Nat.reduceLT, Nat.reduceEqDiff, reduceCtorEq, Int.reduceLT, Int.reduceEq, hs]) (by simp only [eB_len]; omega) (by simp only [eB_len]; omega) (fun v6 g6 hb6 _ _ => ?_)
      rw [← eB_append] at hb6
      simp only [go_sem, Nat.reduceLT, Nat.reduceEqDiff, reduceCtorEq, Int.reduceLT, Int.reduceEq, hs]
      refine XO_appG hb6 (new := eB (text l)) (by simp only [go_sem, Nat.reduceLT, Nat.reduceEqDiff, reduceCtorEq, Int.reduceLT, Int.reduceEq, hs]) (by simp only [go_sem, Nat.reduceLT, Nat.reduceEqDiff, reduceCtorEq, Int.reduceLT, Int.reduceEq, hs]) (by simp only [eB_len, List.length_append]; omega) (by simp only [eB_len, List.length_append]; omega) (fun v7 g7 hb7 _ _ => ?_)
      rw [← eB_append] at hb7
      simp only [go_sem, Nat.reduceLT, Nat.reduceEqDiff, reduceCtorEq, Int.reduceLT, Int.reduceEq, hs, h1, h2, hva.ln, eB_len]
      obtain ⟨g8, e8, hb8⟩ := (bufF_of hb7).clos
      obtain ⟨g9, e9, hb9⟩ := hb8.clos
      have q1 := getNum_num ahead (text l) (clamp n) (clamp_le n)
      refine XO_callP (by simp only [List.map, go_sem, Nat.reduceLT, Nat.reduceEqDiff, reduceCtorEq, Int.reduceLT, Int.reduceEq, hs]; exact closAs_cons e8 (clos_cv clos_nil)) (num_f13 _ _ slV_SlV ahead.length [] (by simp only [List.length_append]; omega)) rfl ?_
      rw [q1]
      simp only [go_sem, Nat.reduceLT, Nat.reduceEqDiff, reduceCtorEq, Int.reduceLT, Int.reduceEq, hs, h1]
      have q2 := getText_text (ahead ++ num (clamp n)) [] l l.length (by omega)
      rw [if_neg (by omega), List.append_nil, List.length_append] at q2
      refine XO_callP (by simp only [List.map, go_sem, Nat.reduceLT, Nat.reduceEqDiff, reduceCtorEq, Int.reduceLT, Int.reduceEq, hs]; exact closAs_cons e9 (clos_cv (clos_cv clos_nil))) (text_f15 _ _ slV_SlV ((ahead.length + (num (clamp n)).length : Nat) : Int) l.length [] (by simp only [List.length_append]; omega)) rfl ?_
      rw [q2]
      simp only [go_sem, Nat.reduceLT, Nat.reduceEqDiff, reduceCtorEq, Int.reduceLT, Int.reduceEq, hs, h3]
      obtain ⟨w3, g10, hc3, els, hb3, hR3⟩ := list_f17 c vc hvc 10 (by omega) g9
      refine XO_callR (v := w3) (h' := g10) (by simp only [List.map, go_sem, Nat.reduceLT, Nat.reduceEqDiff, reduceCtorEq, Int.reduceLT, Int.reduceEq, hs]; exact hc3) ?_
      have hf := rowL_fits 10 c
      have hk10 := rowL_len 10 c
      simp only [go_sem, Nat.reduceLT, Nat.reduceEqDiff, reduceCtorEq, Int.reduceLT, Int.reduceEq, hs]
      refine f6_loop (rowL 10 c) hf (by omega) (rowL 10 c).length 0 els g10 w3 _ _ (by omega) hR3 hb3 (by simp only [slot_len, hs]) (by simp only [go_sem, Nat.reduceLT, Nat.reduceEqDiff, reduceCtorEq, Int.reduceLT, Int.reduceEq, hs]) (by simp only [go_sem, Nat.reduceLT, Nat.reduceEqDiff, reduceCtorEq, Int.reduceLT, Int.reduceEq, hs]; rfl) ?_
      intro s' g11 els' hs' hj hR' hb'
      have k1 : s'.getD 1 .undef = txt l := by rw [hj 1 (by decide)]; simp only [go_sem, Nat.reduceLT, Nat.reduceEqDiff, reduceCtorEq, Int.reduceLT, Int.reduceEq, h1]
      have k9 : s'.getD 9 .undef = vi .i64 (clamp n) := by rw [hj 9 (by decide)]; simp only [go_sem, Nat.reduceLT, Nat.reduceEqDiff, reduceCtorEq, Int.reduceLT, Int.reduceEq, hs]
      have k10 : s'.getD 10 .undef = v7 := by rw [hj 10 (by decide)]; simp only [go_sem, Nat.reduceLT, Nat.reduceEqDiff, reduceCtorEq, Int.reduceLT, Int.reduceEq, hs]
      have k13 : s'.getD 13 .undef = vi .i64 (clamp n) := by rw [hj 13 (by decide)]; simp only [go_sem, Nat.reduceLT, Nat.reduceEqDiff, reduceCtorEq, Int.reduceLT, Int.reduceEq, hs]
      have k15 : s'.getD 15 .undef = vi .u16 0 := by rw [hj 15 (by decide)]; simp only [go_sem, Nat.reduceLT, Nat.reduceEqDiff, reduceCtorEq, Int.reduceLT, Int.reduceEq, hs]; rfl
      have k16 : s'.getD 16 .undef = txt l := by rw [hj 16 (by decide)]; simp only [go_sem, Nat.reduceLT, Nat.reduceEqDiff, reduceCtorEq, Int.reduceLT, Int.reduceEq, hs]
      have k17 : s'.getD 17 .undef = vi .i64 ((ahead.length + (num (clamp n)).length + (text l).length : Nat) : Int) := by rw [hj 17 (by decide)]; simp only [go_sem, Nat.reduceLT, Nat.reduceEqDiff, reduceCtorEq, Int.reduceLT, Int.reduceEq, hs]
      have k18 : s'.getD 18 .undef = vi .u16 0 := by rw [hj 18 (by decide)]; simp only [go_sem, Nat.reduceLT, Nat.reduceEqDiff, reduceCtorEq, Int.reduceLT, Int.reduceEq, hs]; rfl
      have k19 : s'.getD 19 .undef = w3 := by rw [hj 19 (by decide)]; simp only [go_sem, Nat.reduceLT, Nat.reduceEqDiff, reduceCtorEq, Int.reduceLT, Int.reduceEq, hs]
      clear hj hs h0 h1 h2 h3
      obtain ⟨g12, e12, hb12⟩ := (bufF_of hb').clos
      obtain ⟨g13, e13, hb13⟩ := hb12.clos
      obtain ⟨w4, g14, hc4, hb4⟩ := rows_f20 els' (rowL 10 c) (slV 2 els') slV_SlV hR' [] (by have := rowsB_len _ hf; omega) (by omega)
      simp only [go_sem, Nat.reduceLT, Nat.reduceEqDiff, reduceCtorEq, Int.reduceLT, Int.reduceEq, hs', k19]
      refine XO_callP (by simp only [List.map, go_sem, Nat.reduceLT, Nat.reduceEqDiff, reduceCtorEq, Int.reduceLT, Int.reduceEq, hs']; exact closAs_cons e12 clos_nil) hc4 hb4.close ?_
      simp only [go_sem, Nat.reduceLT, Nat.reduceEqDiff, reduceCtorEq, Int.reduceLT, Int.reduceEq, hs']
      obtain ⟨w5, g15, hc5, hr5⟩ := rows_f22 (rowsB (rowL 10 c)) _ slV_SlV (by have := rowsB_len _ hf; omega)
      rw [wholeB_rows _ hf (by omega)] at hr5
      refine XO_callP (h1 := g12) (by simp only [List.map, go_sem, Nat.reduceLT, Nat.reduceEqDiff, reduceCtorEq, Int.reduceLT, Int.reduceEq, hs']; exact slV_SlV.clos clos_nil) hc5 hr5 ?_
      simp only [go_sem, Nat.reduceLT, Nat.reduceEqDiff, reduceCtorEq, Int.reduceLT, Int.reduceEq, hs', k19]
      obtain ⟨w6, g16, hc6, hr6⟩ := same_f23 els' (rowCs (rowL 10 c)) (rowL 10 c) (slV 2 els') (slV 2 (rowCs (rowL 10 c))) slV_SlV slV_SlV hR' (rowCs_E _) (by omega) []
      unfold ValIs at hr6
      subst hr6
      refine XO_callP (by simp only [List.map, go_sem, Nat.reduceLT, Nat.reduceEqDiff, reduceCtorEq, Int.reduceLT, Int.reduceEq, hs', k19]; exact closAs_cons e13 (slV_SlV.clos clos_nil)) hc6 res_cv ?_
      simp only [go_sem, Nat.reduceLT, Nat.reduceEqDiff, reduceCtorEq, Int.reduceLT, Int.reduceEq, hs']
      refine XO_callP clos_nil hknown res_cv ?_
      have el : lnO false v7 = some (vi .i64 ((ahead.length + (num (clamp n)).length + (text l).length : Nat) : Int)) := by
        rw [hb7.ln, eB_len]; simp only [List.length_append]
      have z0 : ((0 : Nat) : Int) = 0 := rfl
      simp only [go_sem, Nat.reduceLT, Nat.reduceEqDiff, reduceCtorEq, Int.reduceLT, Int.reduceEq, hs', k1, k9, k10, k13, k15, k16, k17, k18, el, z0]
      exact rfl

theorem back_in {H : Type} {d0 d1 d2 d3 : DataW H} {u0 u1 u2 u3 : VV} (h0 : DV Proofs.Try.prog 3 d0 u0) (h1 : DV Proofs.Try.prog 9 d1 u1) (h2 : DV Proofs.Try.prog 23 d2 u2) (h3 : DV Proofs.Try.prog 23 d3 u3) : ∃ h', call F 6 [u0, u1, u2, u3] [] = some (.ret (vb true), h') := by
  obtain ⟨n, rfl, _⟩ := DV_i64 Proofs.Try.underlying3 h0
  obtain ⟨l, rfl, _⟩ := DV_str Proofs.Try.underlying9 h1
  obtain ⟨a, ha, _⟩ := DV_bytes Proofs.Try.underlying23 Proofs.Try.underlying5 (by kernel_rfl) h2
  obtain ⟨c, hc, _⟩ := DV_bytes Proofs.Try.underlying23 Proofs.Try.underlying5 (by kernel_rfl) h3
  exact law_back n l a u2 ha c u3 hc

end Go.V01
