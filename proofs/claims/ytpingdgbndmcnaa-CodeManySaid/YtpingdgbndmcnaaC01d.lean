/- Part of a proof: of what it says, and when, each theorem tells itself. -/
import Derived.Test.YtpingdgbndmcnaaC01c
set_option linter.unusedSimpArgs false
namespace Go.V01
open Go Go.Vm

/-- An element that is a row. -/
def rowE (e : List CV) (p : List UInt8 × List UInt8) : Prop := ∃ c, e = [.sc (.string ⟨p.1.toArray⟩), c] ∧ SlV 1 (eB p.2) (.cv c)
inductive RowsE : List (List CV) → List (List UInt8 × List UInt8) → Prop
  | nil : RowsE [] []
  | cons {e : List CV} {p : List UInt8 × List UInt8} {l : List (List CV)} {k : List (List UInt8 × List UInt8)} (h : rowE e p) (t : RowsE l k) : RowsE (e :: l) (p :: k)
theorem RowsE.len {l : List (List CV)} {k : List (List UInt8 × List UInt8)} (h : RowsE l k) : l.length = k.length := by
  induction h with
  | nil => rfl
  | cons _ _ ih => simp [ih]

def rowB (p : List UInt8 × List UInt8) : List UInt8 := text p.1 ++ text p.2
def rowsB (kv : List (List UInt8 × List UInt8)) : List UInt8 := num (clamp kv.length) ++ (kv.map rowB).flatten

theorem numF_ne (k n : Nat) : numF k n ≠ [] := by
  cases k with
  | zero => simp [numF]
  | succ k => simp only [numF]; split <;> simp
theorem text_ne (l : List UInt8) : eB (text l) ≠ [] := by
  unfold text num
  simp [eB, numF_ne]
theorem text_len (l : List UInt8) : l.length ≤ (text l).length := by simp [text]

theorem text_pure (l : List UInt8) (hl : l.length ≤ 1000000000) : ∃ v h', call F 14 [txt l] [] = some (.ret v, h') ∧ closRes h' v = some (.cv (.sl 1 (eB (text l)) false)) := by
  obtain ⟨v, h', h1, h2⟩ := text_f14 l [] hl
  exact ⟨v, h', h1, h2.res (text_ne l)⟩
theorem num_pure (n : Int) : ∃ v h', call F 12 [vi .i64 n] [] = some (.ret v, h') ∧ closRes h' v = some (.cv (.sl 1 (eB (num (clamp n))) false)) := by
  obtain ⟨v, h', h1, h2⟩ := num_f12 n []
  refine ⟨v, h', h1, h2.res ?_⟩
  unfold num
  simp [eB, numF_ne]

theorem f20_loop (l : List (List CV)) (vl : VV) (hv : SlV 2 l vl) : ∀ (rest : List (List CV)) (kv : List (List UInt8 × List UInt8)) (_ : RowsE rest kv) (i : Nat) (out : List UInt8) (s : List VV) (h : Heap) (v : VV) (Q : Pst),
    l.drop i = rest → i ≤ l.length → l.length ≤ 1000000000 → out.length + ((kv.map rowB).flatten).length ≤ 1000000000 → s.length = 28 →
    s.getD 9 .undef = vl → s.getD 10 .undef = vi .i64 l.length → s.getD 11 .undef = vi .i64 i → s.getD 3 .undef = v → BufG h 1 (eB out) v →
    (∀ s' h' v', s'.length = 28 → s'.getD 3 .undef = v' → BufG h' 1 (eB (out ++ (kv.map rowB).flatten)) v' → Q (.exit 0) ⟨s', h'⟩) →
    X F (.loop f20_0) ⟨s, h⟩ Q := by
  intro rest kv hR
  induction hR with
  | nil =>
    intro i out s h v Q hd hi hl hn hs h9 h10 h11 h3 hb hQ
    rw [X_loop, X_eq f20_0.eq_1]
    have hlt : ¬ (i : Int) < (l.length : Int) := by
      have := congrArg List.length hd
      rw [List.length_drop, List.length_nil] at this
      omega
    simp only [go_sem, Nat.reduceLT, Nat.reduceEqDiff, reduceCtorEq, Int.reduceLT, Int.reduceEq, hs, h10, h11, hlt]
    exact hQ _ _ v (by simp only [slot_len, hs]) (by simp only [go_sem, Nat.reduceLT, Nat.reduceEqDiff, reduceCtorEq, Int.reduceLT, Int.reduceEq, h3]) (by simpa using hb)
  | @cons e p rl rk hrow hrest ih =>
    intro i out s h v Q hd hi hl hn hs h9 h10 h11 h3 hb hQ
    have hget : l[i]? = some e := by
      have := congrArg (fun x => x[0]?) hd
      simpa using this
    have hilt : i < l.length := (List.getElem?_eq_some_iff.1 hget).1
    have hd' : l.drop (i + 1) = rl := by
      rw [← List.drop_drop, hd]; rfl
    obtain ⟨c, rfl, hc⟩ := hrow
    have hlt : (i : Int) < (l.length : Int) := by omega
    simp only [List.map_cons, List.flatten_cons, List.length_append, rowB] at hn
    have hk1 := text_len p.1
    have hk2 := text_len p.2
    rw [X_loop, X_eq f20_0.eq_1]
    simp only [go_sem, Nat.reduceLT, Nat.reduceEqDiff, reduceCtorEq, Int.reduceLT, Int.reduceEq, hs, h9, h10, h11, h3, hlt]
    rw [hv.ia (e := [.sc (.string ⟨p.1.toArray⟩), c]) (by omega) (by rw [show ((i : Nat) : Int).toNat = i from rfl]; exact hget)]
    simp only [go_sem, Nat.reduceLT, Nat.reduceEqDiff, reduceCtorEq, Int.reduceLT, Int.reduceEq, hs, h9, h10, h11, h3]
    rw [ld_l_at (v := .cv (.sc (.string ⟨p.1.toArray⟩))) rfl]
    simp only [go_sem, Nat.reduceLT, Nat.reduceEqDiff, reduceCtorEq, Int.reduceLT, Int.reduceEq, hs, h9, h10, h11, h3]
    obtain ⟨v1, hc1, hcall1, hres1⟩ := text_pure p.1 (by omega)
    refine XO_callP (by simp only [List.map, go_sem, Nat.reduceLT, Nat.reduceEqDiff, reduceCtorEq, Int.reduceLT, Int.reduceEq, hs]; exact clos_cv clos_nil) hcall1 hres1 ?_
    simp only [go_sem, Nat.reduceLT, Nat.reduceEqDiff, reduceCtorEq, Int.reduceLT, Int.reduceEq, hs, h9, h10, h11, h3]
    refine XO_appG (new := eB (text p.1)) (hb.push _) (by simp only [go_sem, Nat.reduceLT, Nat.reduceEqDiff, reduceCtorEq, Int.reduceLT, Int.reduceEq, hs]) (by simp only [go_sem, Nat.reduceLT, Nat.reduceEqDiff, reduceCtorEq, Int.reduceLT, Int.reduceEq, hs]) (by simp only [eB_len]; omega) (by simp only [eB_len]; omega) (fun v' h' hb' _ hfr => ?_)
    have hbox := hfr h.length _ at_last (fun e g => by simp)
    simp only [go_sem, Nat.reduceLT, Nat.reduceEqDiff, reduceCtorEq, Int.reduceLT, Int.reduceEq, hs, h9, h10, h11, h3]
    rw [ld_ptr (c := .cv c) hbox rfl]
    simp only [go_sem, Nat.reduceLT, Nat.reduceEqDiff, reduceCtorEq, Int.reduceLT, Int.reduceEq, hs, h9, h10, h11, h3, hc.bs]
    obtain ⟨v2, hc2, hcall2, hres2⟩ := text_pure p.2 (by omega)
    refine XO_callP (by simp only [List.map, go_sem, Nat.reduceLT, Nat.reduceEqDiff, reduceCtorEq, Int.reduceLT, Int.reduceEq, hs]; exact clos_cv clos_nil) hcall2 hres2 ?_
    simp only [go_sem, Nat.reduceLT, Nat.reduceEqDiff, reduceCtorEq, Int.reduceLT, Int.reduceEq, hs, h9, h10, h11, h3]
    rw [← eB_append] at hb'
    refine XO_appG (new := eB (text p.2)) hb' (by simp only [go_sem, Nat.reduceLT, Nat.reduceEqDiff, reduceCtorEq, Int.reduceLT, Int.reduceEq, hs]) (by simp only [go_sem, Nat.reduceLT, Nat.reduceEqDiff, reduceCtorEq, Int.reduceLT, Int.reduceEq, hs]) (by simp only [eB_len, List.length_append]; omega) (by simp only [eB_len, List.length_append]; omega) (fun v3 h3' hb3 _ _ => ?_)
    rw [← eB_append, List.append_assoc] at hb3
    have e5 : IntKind.i64.wrap ((i : Int) + 1) = ((i + 1 : Nat) : Int) := by rw [IntWalk.i64_in _ (by omega)]; omega
    simp only [go_sem, Nat.reduceLT, Nat.reduceEqDiff, reduceCtorEq, Int.reduceLT, Int.reduceEq, hs, h11, e5]
    refine ih (i + 1) (out ++ rowB p) _ h3' v3 Q hd' (by omega) hl (by simp only [rowB, List.length_append]; omega) (by simp only [slot_len, hs]) (by simp only [go_sem, Nat.reduceLT, Nat.reduceEqDiff, reduceCtorEq, Int.reduceLT, Int.reduceEq, h9]) (by simp only [go_sem, Nat.reduceLT, Nat.reduceEqDiff, reduceCtorEq, Int.reduceLT, Int.reduceEq, h10]) (by simp only [go_sem, Nat.reduceLT, Nat.reduceEqDiff, reduceCtorEq, Int.reduceLT, Int.reduceEq, hs]) (by simp only [go_sem, Nat.reduceLT, Nat.reduceEqDiff, reduceCtorEq, Int.reduceLT, Int.reduceEq, hs]) hb3 ?_
    simp only [List.map_cons, List.flatten_cons, ← List.append_assoc] at hQ
    exact hQ

/-- Rows' bytes. -/
theorem rows_f20 (l : List (List CV)) (kv : List (List UInt8 × List UInt8)) (vl : VV) (hv : SlV 2 l vl) (hR : RowsE l kv) (h : Heap) (hn : (rowsB kv).length ≤ 1000000000) (hk : kv.length ≤ 1000000000) :
    ∃ v h', call F 20 [vl] h = some (.ret v, h') ∧ BufG h' 1 (eB (rowsB kv)) v := by
  have : ∃ v h', call F 20 [vl] h = some (.ret v, h') ∧ (fun v h' => BufG h' 1 (eB (rowsB kv)) v) v h' := by
    refine call_E (fn := f20) rfl ?_
    simp only [f20]
    generalize hs0 : ([vl] ++ List.replicate _ VV.undef : List VV) = s
    have hs : s.length = 28 := by rw [← hs0]; rfl
    have h0 : s.getD 0 .undef = vl := by rw [← hs0]; rfl
    clear hs0
    simp only [go_sem, Nat.reduceLT, Nat.reduceEqDiff, reduceCtorEq, Int.reduceLT, Int.reduceEq, hs, h0, hv.ln]
    obtain ⟨v1, h1, hcall1, hb1⟩ := num_f12 l.length h
    refine XO_callR (by simp only [List.map, go_sem, Nat.reduceLT, Nat.reduceEqDiff, reduceCtorEq, Int.reduceLT, Int.reduceEq, hs]; exact hcall1) ?_
    simp only [go_sem, Nat.reduceLT, Nat.reduceEqDiff, reduceCtorEq, Int.reduceLT, Int.reduceEq, hs, h0, hv.ln]
    have hne : eB (num (clamp l.length)) ≠ [] := by unfold num; simp [eB, numF_ne]
    have hlen : ((l.length : Nat) : Int) = ((kv.length : Nat) : Int) := by rw [hR.len]
    simp only [rowsB, List.length_append] at hn
    refine f20_loop l vl hv l kv hR 0 (num (clamp l.length)) _ h1 v1 _ rfl (by omega) (by rw [hR.len]; exact hk) (by rw [hlen]; omega) (by simp only [slot_len, hs]) (by simp only [go_sem, Nat.reduceLT, Nat.reduceEqDiff, reduceCtorEq, Int.reduceLT, Int.reduceEq, hs]) (by simp only [go_sem, Nat.reduceLT, Nat.reduceEqDiff, reduceCtorEq, Int.reduceLT, Int.reduceEq, hs]) (by simp only [go_sem, Nat.reduceLT, Nat.reduceEqDiff, reduceCtorEq, Int.reduceLT, Int.reduceEq, hs]; rfl) (by simp only [go_sem, Nat.reduceLT, Nat.reduceEqDiff, reduceCtorEq, Int.reduceLT, Int.reduceEq, hs]) (hb1.toG hne) ?_
    intro s' h' v' hs' h3' hb'
    simp only [go_sem, Nat.reduceLT, Nat.reduceEqDiff, reduceCtorEq, Int.reduceLT, Int.reduceEq, hs', h3']
    rw [hlen] at hb'
    exact hb'
  exact this

end Go.V01
