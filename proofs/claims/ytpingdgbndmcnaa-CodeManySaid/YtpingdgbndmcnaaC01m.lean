/- Part of a proof: of what it says, and when, each theorem tells itself. -/
import Derived.Test.YtpingdgbndmcnaaC01l
set_option linter.unusedSimpArgs false
namespace Go.V01
open Go Go.Vm

/-! ### the document's answer: what is put -/

theorem f18_loop : ∀ (k n : Nat) (out : List UInt8) (s : List VV) (h : Heap) (v : VV) (Q : Pst), n < 128 ^ (k + 1) → n < 9223372036854775808 → out.length + k ≤ 100 → s.length = 24 →
    s.getD 0 .undef = vi .i64 n → s.getD 3 .undef = v → BufG h 1 (eB out) v →
    (∀ (n' : Nat) (out' : List UInt8) s' h' v', s'.length = 24 → s'.getD 0 .undef = vi .i64 n' → n' ≤ 127 → s'.getD 3 .undef = v' → BufG h' 1 (eB out') v' → out' ++ [u8 n'] = out ++ numF k n → Q (.exit 0) ⟨s', h'⟩) →
    X F (.loop f18_0) ⟨s, h⟩ Q := by
  intro k
  induction k with
  | zero =>
    intro n out s h v Q hn hn2 hlen hs h1 h2 hb hQ
    have hlt : ¬ (127 : Int) < (n : Int) := by omega
    rw [X_loop, X_eq f18_0.eq_1]
    simp only [go_sem, Nat.reduceLT, Nat.reduceEqDiff, reduceCtorEq, Int.reduceLT, Int.reduceEq, hs, h1, hlt]
    exact hQ n out _ h v (by simp only [slot_len, hs]) (by simp only [go_sem, Nat.reduceLT, Nat.reduceEqDiff, reduceCtorEq, Int.reduceLT, Int.reduceEq, h1]) (by omega) (by simp only [go_sem, Nat.reduceLT, Nat.reduceEqDiff, reduceCtorEq, Int.reduceLT, Int.reduceEq, h2]) hb rfl
  | succ k ih =>
    intro n out s h v Q hn hn2 hlen hs h1 h2 hb hQ
    rw [X_loop, X_eq f18_0.eq_1]
    by_cases hlt : (127 : Int) < (n : Int)
    · have e0 : (n : Int).tmod 128 = ((n % 128 : Nat) : Int) := rfl
      have e1 : IntKind.u8.wrap (IntKind.i64.wrap (128 + ((n % 128 : Nat) : Int))) = ((128 + n % 128 : Nat) : Int) := by
        rw [IntWalk.i64_in _ (by omega), IntKind.wrap_u8]; omega
      have e2 : IntKind.i64.wrap ((n : Int).tdiv 128) = ((n / 128 : Nat) : Int) := by
        rw [Int.tdiv_eq_ediv_of_nonneg (by omega), IntWalk.i64_in _ (by omega)]; omega
      simp only [go_sem, Nat.reduceLT, Nat.reduceEqDiff, reduceCtorEq, Int.reduceLT, Int.reduceEq, hs, h1, h2, hlt, e0, e1, e2]
      refine XO_appG hb (new := eB [u8 (128 + n % 128)]) (by simp only [go_sem, Nat.reduceLT, Nat.reduceEqDiff, reduceCtorEq, Int.reduceLT, Int.reduceEq, hs]) ?_ (by simp only [eB_len, List.length_singleton]; omega) (by simp only [eB_len, List.length_singleton]; omega) (fun v' h' hb' _ _ => ?_)
      · simp only [go_sem, Nat.reduceLT, Nat.reduceEqDiff, reduceCtorEq, Int.reduceLT, Int.reduceEq, hs]
        rw [eB_u8 _ (by omega)]
      · simp only [go_sem, Nat.reduceLT, Nat.reduceEqDiff, reduceCtorEq, Int.reduceLT, Int.reduceEq, hs, h1, e2]
        rw [← eB_append] at hb'
        refine ih (n / 128) (out ++ [u8 (128 + n % 128)]) _ h' v' Q ?_ (by omega) (by simp; omega) (by simp only [slot_len, hs]) (by simp only [go_sem, Nat.reduceLT, Nat.reduceEqDiff, reduceCtorEq, Int.reduceLT, Int.reduceEq, hs]) (by simp only [go_sem, Nat.reduceLT, Nat.reduceEqDiff, reduceCtorEq, Int.reduceLT, Int.reduceEq, hs]) hb' ?_
        · rw [Nat.pow_succ] at hn
          omega
        · intro n' out' s' h'' v'' a1 a2 a3 a4 a5 a6
          refine hQ n' out' s' h'' v'' a1 a2 a3 a4 a5 ?_
          rw [a6]
          have : 127 < n := by omega
          simp [numF, this]
    · simp only [go_sem, Nat.reduceLT, Nat.reduceEqDiff, reduceCtorEq, Int.reduceLT, Int.reduceEq, hs, h1, hlt]
      refine hQ n out _ h v (by simp only [slot_len, hs]) (by simp only [go_sem, Nat.reduceLT, Nat.reduceEqDiff, reduceCtorEq, Int.reduceLT, Int.reduceEq, h1]) (by omega) (by simp only [go_sem, Nat.reduceLT, Nat.reduceEqDiff, reduceCtorEq, Int.reduceLT, Int.reduceEq, h2]) hb ?_
      have : ¬ 127 < n := by omega
      simp only [numF, if_neg this]

theorem rnum_pure (n : Int) : ∃ v h', call F 18 [vi .i64 n] [] = some (.ret v, h') ∧ closRes h' v = some (.cv (.sl 1 (eB (num (clamp n))) false)) := by
  refine call_E (P := fun v h' => closRes h' v = some (.cv (.sl 1 (eB (num (clamp n))) false))) (fn := f18) rfl ?_
  simp only [f18]
  generalize hs0 : ([vi .i64 n] ++ List.replicate _ VV.undef : List VV) = s
  have hs : s.length = 24 := by rw [← hs0]; rfl
  have h0 : s.getD 0 .undef = vi .i64 n := by rw [← hs0]; rfl
  clear hs0
  have ec : max 0 (min n 9007199254740992) = ((clamp n : Nat) : Int) := by unfold clamp; omega
  have hc := clamp_le n
  simp only [go_sem, Nat.reduceLT, Nat.reduceEqDiff, reduceCtorEq, Int.reduceLT, Int.reduceEq, hs, h0, ec]
  refine f18_loop 8 (clamp n) [] _ [] nilS _ (by rw [pow9]; omega) (by omega) (by decide) (by simp only [slot_len, hs]) (by simp only [go_sem, Nat.reduceLT, Nat.reduceEqDiff, reduceCtorEq, Int.reduceLT, Int.reduceEq, hs]) (by simp only [go_sem, Nat.reduceLT, Nat.reduceEqDiff, reduceCtorEq, Int.reduceLT, Int.reduceEq, hs]) (BufG.nil _ _) ?_
  intro n' out' s' h' v' a1 a2 a3 a4 a5 a6
  rw [List.nil_append] at a6
  have hl : (out' ++ [u8 n']).length ≤ 20 := by rw [a6]; have := numF_le 8 (clamp n); omega
  rw [List.length_append, List.length_singleton] at hl
  have e1 : IntKind.u8.wrap (n' : Int) = n' := IntWalk.u8_in _ (by omega)
  simp only [go_sem, Nat.reduceLT, Nat.reduceEqDiff, reduceCtorEq, Int.reduceLT, Int.reduceEq, a1, a2, a4, e1]
  refine XO_appG (new := eB [u8 n']) a5 (by simp only [go_sem, Nat.reduceLT, Nat.reduceEqDiff, reduceCtorEq, Int.reduceLT, Int.reduceEq, a1]) ?_ (by simp only [eB_len, List.length_singleton]; omega) (by simp only [eB_len, List.length_singleton]; omega) (fun v' h' hb' _ _ => ?_)
  · simp only [go_sem, Nat.reduceLT, Nat.reduceEqDiff, reduceCtorEq, Int.reduceLT, Int.reduceEq, a1]
    rw [eB_u8 _ (by omega)]
  · simp only [go_sem, Nat.reduceLT, Nat.reduceEqDiff, reduceCtorEq, Int.reduceLT, Int.reduceEq, a1]
    rw [← eB_append, a6] at hb'
    have := hb'.close
    unfold CloseTo slV at this
    rw [if_neg (eB_ne.2 (numF_ne 8 _))] at this
    exact this

theorem join_f31 (a b : List UInt8) (va vb_ : VV) (ha : SlV 1 (eB a) va) (hb : SlV 1 (eB b) vb_) (hl : a.length + b.length ≤ 1000000000) :
    ∃ v h', call F 31 [va, vb_] [] = some (.ret v, h') ∧ closRes h' v = some (slV 1 (eB (a ++ b))) := by
  refine call_E (P := fun v h' => closRes h' v = some (slV 1 (eB (a ++ b)))) (fn := f31) rfl ?_
  simp only [f31]
  generalize hs0 : ([va, vb_] ++ List.replicate _ VV.undef : List VV) = s
  have hs : s.length = 13 := by rw [← hs0]; rfl
  have h0 : s.getD 0 .undef = va := by rw [← hs0]; rfl
  have h1 : s.getD 1 .undef = vb_ := by rw [← hs0]; rfl
  clear hs0
  simp only [go_sem, Nat.reduceLT, Nat.reduceEqDiff, reduceCtorEq, Int.reduceLT, Int.reduceEq, hs, h0]
  refine XO_appG (BufG.nil [] 1) (new := eB a) (by simp only [go_sem, Nat.reduceLT, Nat.reduceEqDiff, reduceCtorEq, Int.reduceLT, Int.reduceEq, hs]) (by simp only [go_sem, Nat.reduceLT, Nat.reduceEqDiff, reduceCtorEq, Int.reduceLT, Int.reduceEq, hs, h0]; exact ha.src) (by simp only [eB_len, List.length_nil]; omega) (by simp only [eB_len, List.length_nil]; omega) (fun v5 h5 hb5 _ _ => ?_)
  rw [List.nil_append] at hb5
  simp only [go_sem, Nat.reduceLT, Nat.reduceEqDiff, reduceCtorEq, Int.reduceLT, Int.reduceEq, hs, h1]
  refine XO_appG hb5 (new := eB b) (by simp only [go_sem, Nat.reduceLT, Nat.reduceEqDiff, reduceCtorEq, Int.reduceLT, Int.reduceEq, hs]) (by simp only [go_sem, Nat.reduceLT, Nat.reduceEqDiff, reduceCtorEq, Int.reduceLT, Int.reduceEq, hs, h1]; exact hb.src) (by simp only [eB_len]; omega) (by simp only [eB_len]; omega) (fun v6 h6 hb6 _ _ => ?_)
  rw [← eB_append] at hb6
  simp only [go_sem, Nat.reduceLT, Nat.reduceEqDiff, reduceCtorEq, Int.reduceLT, Int.reduceEq, hs]
  exact hb6.close

theorem SlV.of_slV {z : Nat} {l : List (List CV)} : SlV z l (slV z l) := slV_SlV

theorem rtext_pure (l : List UInt8) (hl : l.length ≤ 900000000) : ∃ v h', call F 19 [txt l] [] = some (.ret v, h') ∧ closRes h' v = some (slV 1 (eB (text l))) := by
  refine call_E (P := fun v h' => closRes h' v = some (slV 1 (eB (text l)))) (fn := f19) rfl ?_
  simp only [f19]
  generalize hs0 : ([txt l] ++ List.replicate _ VV.undef : List VV) = s
  have hs : s.length = 9 := by rw [← hs0]; rfl
  have h0 : s.getD 0 .undef = txt l := by rw [← hs0]; rfl
  clear hs0
  simp only [go_sem, Nat.reduceLT, Nat.reduceEqDiff, reduceCtorEq, Int.reduceLT, Int.reduceEq, hs, h0]
  obtain ⟨v1, g1, hc1, hr1⟩ := rnum_pure l.length
  have hn := num_len l.length
  refine XO_callP (by simp only [List.map, go_sem, Nat.reduceLT, Nat.reduceEqDiff, reduceCtorEq, Int.reduceLT, Int.reduceEq, hs]; exact clos_cv clos_nil) hc1 hr1 ?_
  simp only [go_sem, Nat.reduceLT, Nat.reduceEqDiff, reduceCtorEq, Int.reduceLT, Int.reduceEq, hs, h0]
  obtain ⟨v2, g2, hc2, hr2⟩ := join_f31 (num (clamp l.length)) l (.cv (.sl 1 (eB (num (clamp l.length))) false)) (.cv (.sl 1 (eB l) false)) SlV.sl SlV.sl (by omega)
  refine XO_callP (by simp only [List.map, go_sem, Nat.reduceLT, Nat.reduceEqDiff, reduceCtorEq, Int.reduceLT, Int.reduceEq, hs]; exact clos_cv (clos_cv clos_nil)) hc2 hr2 ?_
  simp only [go_sem, Nat.reduceLT, Nat.reduceEqDiff, reduceCtorEq, Int.reduceLT, Int.reduceEq, hs]
  have : ∀ (h : Heap) (els : List (List CV)), closRes h (slV 1 els) = some (slV 1 els) := by
    intro h els
    unfold slV
    split <;> rfl
  exact this _ _

theorem res_slV (h : Heap) (z : Nat) (els : List (List CV)) : closRes h (slV z els) = some (slV z els) := by
  unfold slV
  split <;> rfl

/-- Rows by the document. -/
theorem f21_loop (l : List (List CV)) (vl : VV) (hv : SlV 2 l vl) : ∀ (rest : List (List CV)) (kv : List (List UInt8 × List UInt8)) (_ : RowsE rest kv) (i : Nat) (out : List UInt8) (s : List VV) (Q : Pst),
    l.drop i = rest → i ≤ l.length → l.length ≤ 900000000 → out.length + ((kv.map rowB).flatten).length ≤ 900000000 → s.length = 31 →
    s.getD 0 .undef = vl → s.getD 4 .undef = vi .i64 i → SlV 1 (eB out) (s.getD 3 .undef) →
    (∀ s', s'.length = 31 → SlV 1 (eB (out ++ (kv.map rowB).flatten)) (s'.getD 3 .undef) → Q (.exit 0) ⟨s', []⟩) →
    X F (.loop f21_0) ⟨s, []⟩ Q := by
  intro rest kv hR
  induction hR with
  | nil =>
    intro i out s Q hd hi hl hn hs h0 h4 h3 hQ
    rw [X_loop, X_eq f21_0.eq_1]
    have hlt : ¬ (i : Int) < (l.length : Int) := by
      have := congrArg List.length hd
      rw [List.length_drop, List.length_nil] at this
      omega
    simp only [go_sem, Nat.reduceLT, Nat.reduceEqDiff, reduceCtorEq, Int.reduceLT, Int.reduceEq, hs, h0, h4, hv.ln, hlt]
    exact hQ _ (by simp only [slot_len, hs]) (by simp only [go_sem, Nat.reduceLT, Nat.reduceEqDiff, reduceCtorEq, Int.reduceLT, Int.reduceEq, List.map_nil, List.flatten_nil, List.append_nil]; exact h3)
  | @cons e p rl rk hrow hrest ih =>
    intro i out s Q hd hi hl hn hs h0 h4 h3 hQ
    have hget : l[i]? = some e := by
      have := congrArg (fun x => x[0]?) hd
      simpa using this
    have hilt : i < l.length := (List.getElem?_eq_some_iff.1 hget).1
    have hd' : l.drop (i + 1) = rl := by
      rw [← List.drop_drop, hd]; rfl
    obtain ⟨c, rfl, hc⟩ := hrow
    have hlt : (i : Int) < (l.length : Int) := by omega
    simp only [List.map_cons, List.flatten_cons, List.length_append, rowB] at hn
    have hk1 := text_len p.1
    have hk2 := text_len p.2
    have hia : ∀ h : Heap, iaO h 2 vl (vi .i64 (i : Int)) = some (.rptr [.sc (.string ⟨p.1.toArray⟩), c], h) := fun h => hv.ia (by omega) (by exact hget)
    have e5 : IntKind.i64.wrap ((i : Int) + 1) = ((i + 1 : Nat) : Int) := by rw [IntWalk.i64_in _ (by omega)]; omega
    rw [X_loop, X_eq f21_0.eq_1]
    simp only [go_sem, Nat.reduceLT, Nat.reduceEqDiff, reduceCtorEq, Int.reduceLT, Int.reduceEq, hs, h0, h4, hv.ln, hlt]
    refine X_draw rfl ?_
    generalize hw : s.getD 3 .undef = w at h3
    simp only [go_sem, Nat.reduceLT, Nat.reduceEqDiff, reduceCtorEq, Int.reduceLT, Int.reduceEq, hs, h0, h4, hw, hia]
    obtain ⟨v1, g1, hc1, hr1⟩ := rtext_pure p.1 (by omega)
    refine XD_callP (by simp only [List.map, go_sem, Nat.reduceLT, Nat.reduceEqDiff, reduceCtorEq, Int.reduceLT, Int.reduceEq, hs]; exact clos_cv clos_nil) hc1 hr1 ?_
    simp only [go_sem, Nat.reduceLT, Nat.reduceEqDiff, reduceCtorEq, Int.reduceLT, Int.reduceEq, hs, h0, h4, hw, hia]
    obtain ⟨v2, g2, hc2, hr2⟩ := join_f31 out (text p.1) w _ h3 slV_SlV (by omega)
    refine XD_callP (by simp only [List.map, go_sem, Nat.reduceLT, Nat.reduceEqDiff, reduceCtorEq, Int.reduceLT, Int.reduceEq, hs, hw]; exact h3.clos (slV_SlV.clos clos_nil)) hc2 hr2 ?_
    simp only [go_sem, Nat.reduceLT, Nat.reduceEqDiff, reduceCtorEq, Int.reduceLT, Int.reduceEq, hs, h0, h4, hia, hc.bs]
    obtain ⟨v3, g3, hc3, hr3⟩ := rtext_pure p.2 (by omega)
    refine XD_callP (by simp only [List.map, go_sem, Nat.reduceLT, Nat.reduceEqDiff, reduceCtorEq, Int.reduceLT, Int.reduceEq, hs]; exact clos_cv clos_nil) hc3 hr3 ?_
    simp only [go_sem, Nat.reduceLT, Nat.reduceEqDiff, reduceCtorEq, Int.reduceLT, Int.reduceEq, hs]
    obtain ⟨v4, g4, hc4, hr4⟩ := join_f31 (out ++ text p.1) (text p.2) _ _ slV_SlV slV_SlV (by rw [List.length_append]; omega)
    refine XD_callP (by simp only [List.map, go_sem, Nat.reduceLT, Nat.reduceEqDiff, reduceCtorEq, Int.reduceLT, Int.reduceEq, hs]; exact slV_SlV.clos (slV_SlV.clos clos_nil)) hc4 hr4 ?_
    simp only [go_sem, Nat.reduceLT, Nat.reduceEqDiff, reduceCtorEq, Int.reduceLT, Int.reduceEq, hs, h4, e5]
    refine ih (i + 1) (out ++ rowB p) _ Q hd' (by omega) hl (by simp only [rowB, List.length_append]; omega) (by simp only [slot_len, hs]) (by simp only [go_sem, Nat.reduceLT, Nat.reduceEqDiff, reduceCtorEq, Int.reduceLT, Int.reduceEq, h0]) (by simp only [go_sem, Nat.reduceLT, Nat.reduceEqDiff, reduceCtorEq, Int.reduceLT, Int.reduceEq, hs]) (by simp only [go_sem, Nat.reduceLT, Nat.reduceEqDiff, reduceCtorEq, Int.reduceLT, Int.reduceEq, hs, rowB, ← List.append_assoc]; exact slV_SlV) ?_
    simp only [List.map_cons, List.flatten_cons, ← List.append_assoc] at hQ ⊢
    exact hQ

theorem rrows_f21 (l : List (List CV)) (kv : List (List UInt8 × List UInt8)) (vl : VV) (hv : SlV 2 l vl) (hR : RowsE l kv) (hn : (rowsB kv).length ≤ 900000000) (hk : kv.length ≤ 900000000) :
    ∃ v h' w, call F 21 [vl] [] = some (.ret v, h') ∧ closRes h' v = some w ∧ SlV 1 (eB (rowsB kv)) w := by
  have : ∃ v h', call F 21 [vl] [] = some (.ret v, h') ∧ (fun v h' => ∃ w, closRes h' v = some w ∧ SlV 1 (eB (rowsB kv)) w) v h' := by
    refine call_E (fn := f21) rfl ?_
    simp only [f21]
    generalize hs0 : ([vl] ++ List.replicate _ VV.undef : List VV) = s
    have hs : s.length = 31 := by rw [← hs0]; rfl
    have h0 : s.getD 0 .undef = vl := by rw [← hs0]; rfl
    clear hs0
    simp only [go_sem, Nat.reduceLT, Nat.reduceEqDiff, reduceCtorEq, Int.reduceLT, Int.reduceEq, hs, h0, hv.ln]
    obtain ⟨v1, g1, hc1, hr1⟩ := rnum_pure l.length
    refine XO_callP (by simp only [List.map, go_sem, Nat.reduceLT, Nat.reduceEqDiff, reduceCtorEq, Int.reduceLT, Int.reduceEq, hs]; exact clos_cv clos_nil) hc1 hr1 ?_
    simp only [go_sem, Nat.reduceLT, Nat.reduceEqDiff, reduceCtorEq, Int.reduceLT, Int.reduceEq, hs, h0]
    have hlen : ((l.length : Nat) : Int) = ((kv.length : Nat) : Int) := by rw [hR.len]
    simp only [rowsB, List.length_append] at hn
    refine f21_loop l vl hv l kv hR 0 (num (clamp l.length)) _ _ rfl (by omega) (by rw [hR.len]; exact hk) (by rw [hlen]; omega) (by simp only [slot_len, hs]) (by simp only [go_sem, Nat.reduceLT, Nat.reduceEqDiff, reduceCtorEq, Int.reduceLT, Int.reduceEq, h0]) (by simp only [go_sem, Nat.reduceLT, Nat.reduceEqDiff, reduceCtorEq, Int.reduceLT, Int.reduceEq, hs]; rfl) (by simp only [go_sem, Nat.reduceLT, Nat.reduceEqDiff, reduceCtorEq, Int.reduceLT, Int.reduceEq, hs]; exact SlV.sl) ?_
    intro s' hs' h3'
    generalize hw : s'.getD 3 .undef = w at h3'
    simp only [go_sem, Nat.reduceLT, Nat.reduceEqDiff, reduceCtorEq, Int.reduceLT, Int.reduceEq, hs', hw]
    rw [hlen] at h3'
    refine ⟨w, ?_, h3'⟩
    rcases h3' with ⟨rfl, _⟩ | ⟨ex, rfl⟩ <;> rfl
  obtain ⟨v, h', e1, w, e2, e3⟩ := this
  exact ⟨v, h', w, e1, e2, e3⟩

end Go.V01
