/- Part of a proof: of what it says, and when, each theorem tells itself. -/
import Derived.Test.YtjjmkcmolmjpeaaC07All4
import Derived.Test.YtjjmkcmolmjpeaaVmAll2

set_option linter.unusedSimpArgs false
set_option linter.unusedVariables false
namespace Go.V07
open Go Go.Vm

/-! ### changes -/

abbrev Ch := List UInt8 × List UInt8 × Bool
def chB (p : Ch) : List UInt8 := text p.1 ++ (if p.2.2 then [1] else 0 :: text p.2.1)
def chsB (l : List Ch) : List UInt8 := num (clamp l.length) ++ (l.map chB).flatten
def chE (e : List CV) (p : Ch) : Prop := ∃ c, e = [.sc (.string ⟨p.1.toArray⟩), c, .sc (.bool p.2.2)] ∧ SlV 1 (eB p.2.1) (.cv c)
inductive ChsE : List (List CV) → List Ch → Prop
  | nil : ChsE [] []
  | cons {e : List CV} {p : Ch} {l : List (List CV)} {k : List Ch} (h : chE e p) (t : ChsE l k) : ChsE (e :: l) (p :: k)
theorem ChsE.len {l : List (List CV)} {k : List Ch} (h : ChsE l k) : l.length = k.length := by
  induction h with
  | nil => rfl
  | cons _ _ ih => simp [ih]
theorem ChsE.snoc {l : List (List CV)} {k : List Ch} (h : ChsE l k) {e : List CV} {p : Ch} (hp : chE e p) : ChsE (l ++ [e]) (k ++ [p]) := by
  induction h with
  | nil => exact .cons hp .nil
  | cons h _ ih => exact .cons h ih
theorem ChsE.append {l : List (List CV)} {k : List Ch} (h : ChsE l k) {l' : List (List CV)} {k' : List Ch} (h' : ChsE l' k') : ChsE (l ++ l') (k ++ k') := by
  induction h with
  | nil => exact h'
  | cons h _ ih => exact .cons h ih

theorem hn_of {a b c d : Nat} (h : a + (b + c) ≤ d) : a + b + c ≤ d := by omega

theorem f46_loop (l : List (List CV)) (vl : VV) (hv : SlV 3 l vl) : ∀ (rest : List (List CV)) (kv : List Ch) (_ : ChsE rest kv) (i : Nat) (out : List UInt8) (s : List VV) (h : Heap) (v : VV) (Q : Pst),
    l.drop i = rest → i ≤ l.length → l.length ≤ 1000000000 → out.length + ((kv.map chB).flatten).length ≤ 1000000000 → s.length = 36 →
    s.getD 9 .undef = vl → s.getD 10 .undef = vi .i64 l.length → s.getD 11 .undef = vi .i64 i → s.getD 3 .undef = v → BufG h 1 (eB out) v →
    (∀ s' h' v', s'.length = 36 → s'.getD 3 .undef = v' → BufG h' 1 (eB (out ++ (kv.map chB).flatten)) v' → Q (.exit 0) ⟨s', h'⟩) →
    X F (.loop f46_2) ⟨s, h⟩ Q := by
  intro rest kv hR
  induction hR with
  | nil =>
    intro i out s h v Q hd hi hl hn hs h9 h10 h11 h3 hb hQ
    rw [X_loop, X_eq f46_2.eq_1]
    have hlt : ¬ (i : Int) < (l.length : Int) := by
      have := congrArg List.length hd
      rw [List.length_drop, List.length_nil] at this
      omega
    simp only [go_sem, Nat.reduceLT, Nat.reduceEqDiff, reduceCtorEq, Int.reduceLT, Int.reduceEq, hs, h10, h11, hlt]
    rw [X_eq f46_0.eq_1]
    simp only [go_sem, Nat.reduceLT, Nat.reduceEqDiff, reduceCtorEq, Int.reduceLT, Int.reduceEq, hs, hlt]
    exact hQ _ _ v (by simp only [slot_len, hs]) (by simp only [go_sem, Nat.reduceLT, Nat.reduceEqDiff, reduceCtorEq, Int.reduceLT, Int.reduceEq, h3]) (by simpa using hb)
  | @cons e p rl rk hrow hrest ih =>
    intro i out s h v Q hd hi hl hn hs h9 h10 h11 h3 hb hQ
    have hget : l[i]? = some e := by
      have := congrArg (fun x => x[0]?) hd
      simpa using this
    have hilt : i < l.length := (List.getElem?_eq_some_iff.1 hget).1
    have hd' : l.drop (i + 1) = rl := by
      rw [← List.drop_drop, hd]; rfl
    obtain ⟨c, rfl, hc⟩ := hrow
    have hlt : (i : Int) < (l.length : Int) := by omega
    simp only [List.map_cons, List.flatten_cons, List.length_append, chB] at hn
    have hk1 := text_len p.1
    have hk2 := text_len p.2.1
    have e5 : IntKind.i64.wrap ((i : Int) + 1) = ((i + 1 : Nat) : Int) := by rw [IntWalk.i64_in _ (by omega)]; omega
    rw [X_loop, X_eq f46_2.eq_1]
    simp only [go_sem, Nat.reduceLT, Nat.reduceEqDiff, reduceCtorEq, Int.reduceLT, Int.reduceEq, hs, h9, h10, h11, h3, hlt]
    rw [X_eq f46_0.eq_1]
    simp only [go_sem, Nat.reduceLT, Nat.reduceEqDiff, reduceCtorEq, Int.reduceLT, Int.reduceEq, hs, h9, h10, h11, h3]
    rw [hv.ia (e := [.sc (.string ⟨p.1.toArray⟩), c, .sc (.bool p.2.2)]) (by omega) (by exact hget)]
    simp only [go_sem, Nat.reduceLT, Nat.reduceEqDiff, reduceCtorEq, Int.reduceLT, Int.reduceEq, hs, h9, h10, h11, h3]
    rw [ld_l_at (v := .cv (.sc (.string ⟨p.1.toArray⟩))) rfl]
    simp only [go_sem, Nat.reduceLT, Nat.reduceEqDiff, reduceCtorEq, Int.reduceLT, Int.reduceEq, hs, h9, h10, h11, h3]
    obtain ⟨v1, hc1, hcall1, hres1⟩ := text_pure p.1 (by omega)
    refine XO_callP (by simp only [List.map, go_sem, Nat.reduceLT, Nat.reduceEqDiff, reduceCtorEq, Int.reduceLT, Int.reduceEq, hs]; exact clos_cv clos_nil) hcall1 hres1 ?_
    simp only [go_sem, Nat.reduceLT, Nat.reduceEqDiff, reduceCtorEq, Int.reduceLT, Int.reduceEq, hs, h9, h10, h11, h3]
    refine XO_appG (new := eB (text p.1)) (hb.push _) (by simp only [go_sem, Nat.reduceLT, Nat.reduceEqDiff, reduceCtorEq, Int.reduceLT, Int.reduceEq, hs]) (by simp only [go_sem, Nat.reduceLT, Nat.reduceEqDiff, reduceCtorEq, Int.reduceLT, Int.reduceEq, hs]) (by simp only [eB_len]; omega) (by simp only [eB_len]; omega) (fun v' h' hb' _ hfr => ?_)
    have hbox := hfr h.length _ at_last (fun e g => by simp)
    rw [← eB_append] at hb'
    have l2 : ldO h' false 1 (.ptr h.length 2) = some (vb p.2.2, h') := ld_ptr (c := vb p.2.2) hbox rfl
    have l1 : ldO h' false 1 (.ptr h.length 1) = some (.cv c, h') := ld_ptr (c := .cv c) hbox rfl
    simp only [go_sem, Nat.reduceLT, Nat.reduceEqDiff, reduceCtorEq, Int.reduceLT, Int.reduceEq, hs]
    rw [X_eq f46_1.eq_1]
    cases hg : p.2.2 with
    | true =>
      rw [hg] at l2 hn
      simp only [go_sem, Nat.reduceLT, Nat.reduceEqDiff, reduceCtorEq, Int.reduceLT, Int.reduceEq, hs, l2]
      refine XO_appG hb' (new := eB [1]) (by simp only [go_sem, Nat.reduceLT, Nat.reduceEqDiff, reduceCtorEq, Int.reduceLT, Int.reduceEq, hs]) (by simp only [go_sem, Nat.reduceLT, Nat.reduceEqDiff, reduceCtorEq, Int.reduceLT, Int.reduceEq, hs]; rfl) (by simp only [eB_len, List.length_append]; simp at hn ⊢; omega) (by simp only [eB_len, List.length_append]; simp at hn ⊢; omega) (fun v2 h2 hb2 _ _ => ?_)
      rw [← eB_append, List.append_assoc] at hb2
      simp only [go_sem, Nat.reduceLT, Nat.reduceEqDiff, reduceCtorEq, Int.reduceLT, Int.reduceEq, hs, h11, e5]
      refine ih (i + 1) (out ++ chB p) _ h2 v2 Q hd' (by omega) hl (by simp only [chB, List.length_append, hg]; exact hn_of hn) (by simp only [slot_len, hs]) (by simp only [go_sem, Nat.reduceLT, Nat.reduceEqDiff, reduceCtorEq, Int.reduceLT, Int.reduceEq, h9]) (by simp only [go_sem, Nat.reduceLT, Nat.reduceEqDiff, reduceCtorEq, Int.reduceLT, Int.reduceEq, h10]) (by simp only [go_sem, Nat.reduceLT, Nat.reduceEqDiff, reduceCtorEq, Int.reduceLT, Int.reduceEq, hs]) (by simp only [go_sem, Nat.reduceLT, Nat.reduceEqDiff, reduceCtorEq, Int.reduceLT, Int.reduceEq, hs]) (by simpa only [chB, hg, if_true] using hb2) ?_
      simp only [List.map_cons, List.flatten_cons, ← List.append_assoc] at hQ
      exact hQ
    | false =>
      rw [hg] at l2 hn
      simp only [go_sem, Nat.reduceLT, Nat.reduceEqDiff, reduceCtorEq, Int.reduceLT, Int.reduceEq, hs, l2]
      refine XO_appG hb' (new := eB [0]) (by simp only [go_sem, Nat.reduceLT, Nat.reduceEqDiff, reduceCtorEq, Int.reduceLT, Int.reduceEq, hs]) (by simp only [go_sem, Nat.reduceLT, Nat.reduceEqDiff, reduceCtorEq, Int.reduceLT, Int.reduceEq, hs]; rfl) (by simp only [eB_len, List.length_append]; simp at hn ⊢; omega) (by simp only [eB_len, List.length_append]; simp at hn ⊢; omega) (fun v2 h2 hb2 _ hfr2 => ?_)
      have hbox2 := hfr2 h.length _ hbox (fun e g => by simp)
      have l3 : ldO h2 false 1 (.ptr h.length 1) = some (.cv c, h2) := ld_ptr (c := .cv c) hbox2 rfl
      rw [← eB_append, List.append_assoc] at hb2
      simp only [go_sem, Nat.reduceLT, Nat.reduceEqDiff, reduceCtorEq, Int.reduceLT, Int.reduceEq, hs, l3, hc.bs]
      obtain ⟨v2, hc2, hcall2, hres2⟩ := text_pure p.2.1 (by simp at hn; omega)
      refine XO_callP (by simp only [List.map, go_sem, Nat.reduceLT, Nat.reduceEqDiff, reduceCtorEq, Int.reduceLT, Int.reduceEq, hs]; exact clos_cv clos_nil) hcall2 hres2 ?_
      simp only [go_sem, Nat.reduceLT, Nat.reduceEqDiff, reduceCtorEq, Int.reduceLT, Int.reduceEq, hs]
      refine XO_appG (new := eB (text p.2.1)) hb2 (by simp only [go_sem, Nat.reduceLT, Nat.reduceEqDiff, reduceCtorEq, Int.reduceLT, Int.reduceEq, hs]) (by simp only [go_sem, Nat.reduceLT, Nat.reduceEqDiff, reduceCtorEq, Int.reduceLT, Int.reduceEq, hs]) (by simp only [eB_len, List.length_append]; simp at hn ⊢; omega) (by simp only [eB_len, List.length_append]; simp at hn ⊢; omega) (fun v3 h3' hb3 _ _ => ?_)
      rw [← eB_append, List.append_assoc, List.append_assoc] at hb3
      simp only [go_sem, Nat.reduceLT, Nat.reduceEqDiff, reduceCtorEq, Int.reduceLT, Int.reduceEq, hs, h11, e5]
      refine ih (i + 1) (out ++ chB p) _ h3' v3 Q hd' (by omega) hl (by simp only [chB, List.length_append, hg]; exact hn_of hn) (by simp only [slot_len, hs]) (by simp only [go_sem, Nat.reduceLT, Nat.reduceEqDiff, reduceCtorEq, Int.reduceLT, Int.reduceEq, h9]) (by simp only [go_sem, Nat.reduceLT, Nat.reduceEqDiff, reduceCtorEq, Int.reduceLT, Int.reduceEq, h10]) (by simp only [go_sem, Nat.reduceLT, Nat.reduceEqDiff, reduceCtorEq, Int.reduceLT, Int.reduceEq, hs]) (by simp only [go_sem, Nat.reduceLT, Nat.reduceEqDiff, reduceCtorEq, Int.reduceLT, Int.reduceEq, hs]) (by simpa only [chB, hg, if_false, List.singleton_append, Bool.false_eq_true] using hb3) ?_
      simp only [List.map_cons, List.flatten_cons, ← List.append_assoc] at hQ
      exact hQ

/-- Changes' bytes. -/
theorem chs_f46 (l : List (List CV)) (kv : List Ch) (vl : VV) (hv : SlV 3 l vl) (hR : ChsE l kv) (h : Heap) (hn : (chsB kv).length ≤ 1000000000) (hk : kv.length ≤ 1000000000) :
    ∃ v h', call F 46 [vl] h = some (.ret v, h') ∧ BufG h' 1 (eB (chsB kv)) v := by
  have : ∃ v h', call F 46 [vl] h = some (.ret v, h') ∧ (fun v h' => BufG h' 1 (eB (chsB kv)) v) v h' := by
    refine call_E (fn := f46) rfl ?_
    simp only [f46]
    generalize hs0 : ([vl] ++ List.replicate _ VV.undef : List VV) = s
    have hs : s.length = 36 := by rw [← hs0]; rfl
    have h0 : s.getD 0 .undef = vl := by rw [← hs0]; rfl
    clear hs0
    simp only [go_sem, Nat.reduceLT, Nat.reduceEqDiff, reduceCtorEq, Int.reduceLT, Int.reduceEq, hs, h0, hv.ln]
    obtain ⟨v1, h1, hcall1, hb1⟩ := num_f57 l.length h
    refine XO_callR (by simp only [List.map, go_sem, Nat.reduceLT, Nat.reduceEqDiff, reduceCtorEq, Int.reduceLT, Int.reduceEq, hs]; exact hcall1) ?_
    simp only [go_sem, Nat.reduceLT, Nat.reduceEqDiff, reduceCtorEq, Int.reduceLT, Int.reduceEq, hs, h0, hv.ln]
    have hne : eB (num (clamp l.length)) ≠ [] := eB_ne.2 (num_ne _)
    have hlen : ((l.length : Nat) : Int) = ((kv.length : Nat) : Int) := by rw [hR.len]
    simp only [chsB, List.length_append] at hn
    refine f46_loop l vl hv l kv hR 0 (num (clamp l.length)) _ h1 v1 _ rfl (by omega) (by rw [hR.len]; exact hk) (by rw [hlen]; omega) (by simp only [slot_len, hs]) (by simp only [go_sem, Nat.reduceLT, Nat.reduceEqDiff, reduceCtorEq, Int.reduceLT, Int.reduceEq, hs]) (by simp only [go_sem, Nat.reduceLT, Nat.reduceEqDiff, reduceCtorEq, Int.reduceLT, Int.reduceEq, hs]) (by simp only [go_sem, Nat.reduceLT, Nat.reduceEqDiff, reduceCtorEq, Int.reduceLT, Int.reduceEq, hs]; rfl) (by simp only [go_sem, Nat.reduceLT, Nat.reduceEqDiff, reduceCtorEq, Int.reduceLT, Int.reduceEq, hs]) (hb1.toG hne) ?_
    intro s' h' v' hs' h3' hb'
    simp only [go_sem, Nat.reduceLT, Nat.reduceEqDiff, reduceCtorEq, Int.reduceLT, Int.reduceEq, hs', h3']
    rw [hlen] at hb'
    exact hb'
  exact this

/-! ### the way back -/

def chCs (p : Ch) : List CV := if p.2.2 then chC p.1 (.sc (.slice none 0 0)) true else chC p.1 (.sl 1 (eB p.2.1) false) false
def chsCs (l : List Ch) : List (List CV) := l.map chCs
/-- Changes that may be read. -/
def ChFits (l : List Ch) : Prop := ∀ p ∈ l, p.1.length ≤ 30 ∧ p.2.1.length ≤ 150 ∧ (p.2.2 = true → p.2.1 = [])
def flatC (l : List Ch) : List UInt8 := (l.map chB).flatten
theorem flatC_cons {p : Ch} {l : List Ch} : flatC (p :: l) = chB p ++ flatC l := rfl

end Go.V07


set_option linter.unusedSimpArgs false
set_option linter.unusedVariables false
namespace Go.V07
open Go Go.Vm

end Go.V07


set_option linter.unusedSimpArgs false
set_option linter.unusedVariables false
namespace Go.V07
open Go Go.Vm

/-! ### the document's answer: changes that are read -/

end Go.V07


set_option linter.unusedSimpArgs false
set_option linter.unusedVariables false
namespace Go.V07
open Go Go.Vm

theorem ChsE.get {l : List (List CV)} {k : List Ch} (h : ChsE l k) : ∀ {i : Nat}, i < k.length → ∃ e p, l[i]? = some e ∧ k[i]? = some p ∧ chE e p := by
  induction h with
  | nil => intro i hi; simp at hi
  | @cons e p l k h _ ih =>
    intro i hi
    cases i with
    | zero => exact ⟨e, p, rfl, rfl, h⟩
    | succ i =>
      obtain ⟨e', p', h1, h2, h3⟩ := ih (i := i) (by simpa using hi)
      exact ⟨e', p', by simpa using h1, by simpa using h2, h3⟩

theorem f20_loop (l m : List (List CV)) (k : List Ch) (vl vm : VV) (hl : SlV 3 l vl) (hm : SlV 3 m vm) (hR : ChsE l k) (hS : ChsE m k) (hk : k.length ≤ 1000000000) (h : Heap) : ∀ (d i : Nat) (s : List VV) (Q : Pst),
    i + d = k.length → s.length = 56 → s.getD 0 .undef = vl → s.getD 1 .undef = vm → s.getD 5 .undef = vi .i64 i →
    (∀ s', s'.length = 56 → Q (.exit 0) ⟨s', h⟩) → X F (.loop f20_1) ⟨s, h⟩ Q := by
  intro d
  induction d with
  | zero =>
    intro i s Q hi hs h0 h1 h5 hQ
    rw [X_loop, X_eq f20_1.eq_1]
    have hlt : ¬ (i : Int) < (l.length : Int) := by rw [hR.len]; omega
    simp only [go_sem, Nat.reduceLT, Nat.reduceEqDiff, reduceCtorEq, Int.reduceLT, Int.reduceEq, hs, h0, h5, hl.ln, hlt]
    exact hQ _ (by simp only [slot_len, hs])
  | succ d ih =>
    intro i s Q hi hs h0 h1 h5 hQ
    rw [X_loop, X_eq f20_1.eq_1]
    have hlt : (i : Int) < (l.length : Int) := by rw [hR.len]; omega
    obtain ⟨e, p, g1, g2, c, rfl, hc⟩ := hR.get (i := i) (by omega)
    obtain ⟨e', p', g3, g4, c', rfl, hc'⟩ := hS.get (i := i) (by omega)
    rw [g2] at g4; cases g4
    have hia : ∀ h : Heap, iaO h 3 vl (vi .i64 (i : Int)) = some (.rptr [.sc (.string ⟨p.1.toArray⟩), c, .sc (.bool p.2.2)], h) := fun h => hl.ia (by omega) (by exact g1)
    have hib : ∀ h : Heap, iaO h 3 vm (vi .i64 (i : Int)) = some (.rptr [.sc (.string ⟨p.1.toArray⟩), c', .sc (.bool p.2.2)], h) := fun h => hm.ia (by omega) (by exact g3)
    have e5 : IntKind.i64.wrap ((i : Int) + 1) = ((i + 1 : Nat) : Int) := by rw [IntWalk.i64_in _ (by omega)]; omega
    simp only [go_sem, Nat.reduceLT, Nat.reduceEqDiff, reduceCtorEq, Int.reduceLT, Int.reduceEq, hs, h0, h5, hl.ln, hlt]
    refine X_draw rfl ?_
    have hne : decide (p.1 ≠ p.1) = false := by simp
    have hne2 : decide (p.2.1 ≠ p.2.1) = false := by simp
    simp only [go_sem, Nat.reduceLT, Nat.reduceEqDiff, reduceCtorEq, Int.reduceLT, Int.reduceEq, Int.cast_ofNat_Int, Int.ofNat_zero, BEq.rfl, beq_self_eq_true, hs, h0, h1, h5, hia, hib, hc.bs, hc'.bs, e5]
    exact ih (i + 1) _ Q (by omega) (by simp only [slot_len, hs]) (by simp only [go_sem, Nat.reduceLT, Nat.reduceEqDiff, reduceCtorEq, Int.reduceLT, Int.reduceEq, h0]) (by simp only [go_sem, Nat.reduceLT, Nat.reduceEqDiff, reduceCtorEq, Int.reduceLT, Int.reduceEq, h1]) (by simp only [go_sem, Nat.reduceLT, Nat.reduceEqDiff, reduceCtorEq, Int.reduceLT, Int.reduceEq, hs]) hQ

theorem sameC_f20 (l m : List (List CV)) (k : List Ch) (vl vm : VV) (hl : SlV 3 l vl) (hm : SlV 3 m vm) (hR : ChsE l k) (hS : ChsE m k) (hk : k.length ≤ 1000000000) (h : Heap) :
    ∃ v h', call F 20 [vl, vm] h = some (.ret v, h') ∧ ValIs (vb true) v h' := by
  refine call_E (fn := f20) rfl ?_
  simp only [f20]
  generalize hs0 : ([vl, vm] ++ List.replicate _ VV.undef : List VV) = s
  have hs : s.length = 56 := by rw [← hs0]; rfl
  have h0 : s.getD 0 .undef = vl := by rw [← hs0]; rfl
  have h1 : s.getD 1 .undef = vm := by rw [← hs0]; rfl
  clear hs0
  simp only [go_sem, Nat.reduceLT, Nat.reduceEqDiff, reduceCtorEq, Int.reduceLT, Int.reduceEq, hs]
  rw [X_eq f20_0.eq_1]
  have hne : ((l.length : Int) ≠ (m.length : Int)) = False := by simp [hR.len, hS.len]
  simp only [go_sem, Nat.reduceLT, Nat.reduceEqDiff, reduceCtorEq, Int.reduceLT, Int.reduceEq, hs, h0, h1, hl.ln, hm.ln, hR.len, hS.len]
  refine f20_loop l m k vl vm hl hm hR hS hk h k.length 0 _ _ (by omega) (by simp only [slot_len, hs]) (by simp only [go_sem, Nat.reduceLT, Nat.reduceEqDiff, reduceCtorEq, Int.reduceLT, Int.reduceEq, h0]) (by simp only [go_sem, Nat.reduceLT, Nat.reduceEqDiff, reduceCtorEq, Int.reduceLT, Int.reduceEq, h1]) (by simp only [go_sem, Nat.reduceLT, Nat.reduceEqDiff, reduceCtorEq, Int.reduceLT, Int.reduceEq, hs]; rfl) ?_
  intro s' hs'
  simp only [go_sem, Nat.reduceLT, Nat.reduceEqDiff, reduceCtorEq, Int.reduceLT, Int.reduceEq, hs']
  rfl

end Go.V07


set_option linter.unusedSimpArgs false
set_option linter.unusedVariables false
namespace Go.V07
open Go Go.Vm


/-! ### what the bound says -/

/-! ### how much there is -/

end Go.V07


set_option linter.unusedSimpArgs false
set_option linter.unusedVariables false
namespace Go.V07
open Go Go.Vm


/-! ### changes, by the document -/

/-! ### changes of choices -/

def chOf (p : List UInt8 × List UInt8) : Ch := if p.2.length % 4 = 0 then (p.1, [], true) else (p.1, p.2, false)
def chL (n : Nat) (c : List UInt8) : List Ch := (rowL n c).map chOf

theorem f13_loop (l : List (List CV)) (k : List (List UInt8 × List UInt8)) (vl : VV) (hl : SlV 2 l vl) (hR : RowsE l k) (hk : k.length ≤ 100) (hkv : Fits k) : ∀ (rest : List (List UInt8 × List UInt8)) (i : Nat) (els : List (List CV)) (kv : List Ch) (h : Heap) (v : VV) (s : List VV) (Q : Pst),
    k.drop i = rest → i ≤ k.length → els.length + rest.length ≤ 100 → ChsE els kv → BufG h 3 els v → s.length = 42 → s.getD 5 .undef = v → s.getD 6 .undef = vl → s.getD 7 .undef = vi .i64 i →
    (∀ s' h' v' els', s'.length = 42 → s'.getD 5 .undef = v' → BufG h' 3 els' v' → ChsE els' (kv ++ rest.map chOf) → Q (.exit 0) ⟨s', h'⟩) → X F (.loop f13_1) ⟨s, h⟩ Q := by
  intro rest
  induction rest with
  | nil =>
    intro i els kv h v s Q hd hi hel hC hb hs h5 h6 h7 hQ
    rw [X_loop, X_eq f13_1.eq_1]
    have hlt : ¬ (i : Int) < (l.length : Int) := by
      have := congrArg List.length hd
      rw [List.length_drop, List.length_nil] at this
      rw [hR.len]; omega
    simp only [go_sem, Nat.reduceLT, Nat.reduceEqDiff, reduceCtorEq, Int.reduceLT, Int.reduceEq, hs, h6, h7, hl.ln, hlt]
    exact hQ _ h v els (by simp only [slot_len, hs]) (by simp only [go_sem, Nat.reduceLT, Nat.reduceEqDiff, reduceCtorEq, Int.reduceLT, Int.reduceEq, h5]) hb (by simpa using hC)
  | cons p rest ih =>
    intro i els kv h v s Q hd hi hel hC hb hs h5 h6 h7 hQ
    rw [X_loop, X_eq f13_1.eq_1]
    have hget : k[i]? = some p := by
      have := congrArg (fun x => x[0]?) hd
      simpa using this
    have hilt : i < k.length := (List.getElem?_eq_some_iff.1 hget).1
    have hd' : k.drop (i + 1) = rest := by
      rw [← List.drop_drop, hd]; rfl
    obtain ⟨e, p', g1, g2, c, rfl, hc⟩ := hR.get (i := i) hilt
    rw [hget] at g2; cases g2
    obtain ⟨f1, f2⟩ := hkv p (List.mem_of_getElem? hget)
    have hlt : (i : Int) < (l.length : Int) := by rw [hR.len]; omega
    have hia : ∀ h : Heap, iaO h 2 vl (vi .i64 (i : Int)) = some (.rptr [.sc (.string ⟨p.1.toArray⟩), c], h) := fun h => hl.ia (by omega) (by exact g1)
    have e5 : IntKind.i64.wrap ((i : Int) + 1) = ((i + 1 : Nat) : Int) := by rw [IntWalk.i64_in _ (by omega)]; omega
    have e4 : (p.2.length : Int).tmod 4 = ((p.2.length % 4 : Nat) : Int) := rfl
    simp only [List.length_cons] at hel
    simp only [go_sem, Nat.reduceLT, Nat.reduceEqDiff, reduceCtorEq, Int.reduceLT, Int.reduceEq, hs, h6, h7, hl.ln, hlt]
    refine X_drawE ?_
    refine XE_mv ?_
    refine XE_mv ?_
    refine XE_iad (v := vl) (w := vi .i64 i) (by simp only [go_sem, Nat.reduceLT, Nat.reduceEqDiff, reduceCtorEq, Int.reduceLT, Int.reduceEq, hs, h6]) (by simp only [go_sem, Nat.reduceLT, Nat.reduceEqDiff, reduceCtorEq, Int.reduceLT, Int.reduceEq, hs, h7]) hia ?_
    refine XE_fad (v := .rptr [.sc (.string ⟨p.1.toArray⟩), c]) (by simp only [go_sem, Nat.reduceLT, Nat.reduceEqDiff, reduceCtorEq, Int.reduceLT, Int.reduceEq, hs]) rfl ?_
    refine XE_ld (v := .rptr [.sc (.string ⟨p.1.toArray⟩), c]) (r := txt p.1) (by simp only [go_sem, Nat.reduceLT, Nat.reduceEqDiff, reduceCtorEq, Int.reduceLT, Int.reduceEq, hs]) (fun h => ld_rptr) ?_
    refine XE_mv ?_
    refine XE_mv ?_
    refine XE_iad (v := vl) (w := vi .i64 i) (by simp only [go_sem, Nat.reduceLT, Nat.reduceEqDiff, reduceCtorEq, Int.reduceLT, Int.reduceEq, hs, h6]) (by simp only [go_sem, Nat.reduceLT, Nat.reduceEqDiff, reduceCtorEq, Int.reduceLT, Int.reduceEq, hs, h7]) hia ?_
    refine XE_fad (v := .rptr [.sc (.string ⟨p.1.toArray⟩), c]) (by simp only [go_sem, Nat.reduceLT, Nat.reduceEqDiff, reduceCtorEq, Int.reduceLT, Int.reduceEq, hs]) rfl ?_
    refine XE_ld (v := .rptr [c]) (r := .cv c) (by simp only [go_sem, Nat.reduceLT, Nat.reduceEqDiff, reduceCtorEq, Int.reduceLT, Int.reduceEq, hs]) (fun h => ld_rptr) ?_
    refine XE_of_XD rfl ?_
    have e3 : ∀ {a b z : VV}, stO (h ++ [.box [a, b, z] false]) 3 (.ptr h.length 0) (.agg [txt p.1, .cv c, z]) = some (.undef, h ++ [.box [txt p.1, .cv c, z] false]) := st_l_3
    rw [XD_build]
    simp only [go_sem, Nat.reduceLT, Nat.reduceEqDiff, reduceCtorEq, Int.reduceLT, Int.reduceEq, hs, h7, bd_3v, XD_alloc]
    rw [X_eq f13_0.eq_1]
    have l1 : ∀ {a b z : VV}, ldO (h ++ [.box [a, b, z] false]) false 1 (.ptr h.length 1) = some (b, h ++ [.box [a, b, z] false]) := ld_l_at rfl
    have l0 : ∀ {a b z : VV}, ldO (h ++ [.box [a, b, z] false]) false 1 (.ptr h.length 0) = some (a, h ++ [.box [a, b, z] false]) := ld_l_at rfl
    by_cases hz : ((p.2.length % 4 : Nat) : Int) = 0
    · have hz' : p.2.length % 4 = 0 := by omega
      simp only [go_sem, Nat.reduceLT, Nat.reduceEqDiff, reduceCtorEq, Int.reduceLT, Int.reduceEq, hs, l1, hc.ln, eB_len, e4, eq_true hz, l0, bd_3k, h5]
      refine XO_appG (hb.push _) (new := [[.sc (.string ⟨p.1.toArray⟩), .sc (.slice none 0 0), .sc (.bool true)]]) (by simp only [go_sem, Nat.reduceLT, Nat.reduceEqDiff, reduceCtorEq, Int.reduceLT, Int.reduceEq, hs]) (by simp only [go_sem, Nat.reduceLT, Nat.reduceEqDiff, reduceCtorEq, Int.reduceLT, Int.reduceEq, hs]) (by simp only [List.length_singleton]; omega) (by simp only [List.length_singleton]; omega) (fun v' h' hb' _ _ => ?_)
      simp only [go_sem, Nat.reduceLT, Nat.reduceEqDiff, reduceCtorEq, Int.reduceLT, Int.reduceEq, hs, h7, e5]
      refine ih (i + 1) _ (kv ++ [chOf p]) h' v' _ Q hd' (by omega) (by simp only [List.length_append, List.length_singleton]; omega) (hC.snoc (p := chOf p) ?_) hb' (by simp only [slot_len, hs]) (by simp only [go_sem, Nat.reduceLT, Nat.reduceEqDiff, reduceCtorEq, Int.reduceLT, Int.reduceEq, hs]) (by simp only [go_sem, Nat.reduceLT, Nat.reduceEqDiff, reduceCtorEq, Int.reduceLT, Int.reduceEq, h6]) (by simp only [go_sem, Nat.reduceLT, Nat.reduceEqDiff, reduceCtorEq, Int.reduceLT, Int.reduceEq, hs]) ?_
      · unfold chOf; rw [if_pos hz']; exact ⟨_, rfl, .inl ⟨rfl, rfl⟩⟩
      · intro s' h' v' els' a1 a2 a3 a4
        refine hQ s' h' v' els' a1 a2 a3 ?_
        simpa only [List.map_cons, List.append_assoc, List.singleton_append] using a4
    · have hz' : ¬ p.2.length % 4 = 0 := by omega
      simp only [go_sem, Nat.reduceLT, Nat.reduceEqDiff, reduceCtorEq, Int.reduceLT, Int.reduceEq, hs, l1, hc.ln, eB_len, e4, hz, h5]
      refine XO_appG (hb.push _) (new := [[.sc (.string ⟨p.1.toArray⟩), c, .sc (.bool false)]]) (by simp only [go_sem, Nat.reduceLT, Nat.reduceEqDiff, reduceCtorEq, Int.reduceLT, Int.reduceEq, hs]) (by simp only [go_sem, Nat.reduceLT, Nat.reduceEqDiff, reduceCtorEq, Int.reduceLT, Int.reduceEq, hs]) (by simp only [List.length_singleton]; omega) (by simp only [List.length_singleton]; omega) (fun v' h' hb' _ _ => ?_)
      simp only [go_sem, Nat.reduceLT, Nat.reduceEqDiff, reduceCtorEq, Int.reduceLT, Int.reduceEq, hs, h7, e5]
      refine ih (i + 1) _ (kv ++ [chOf p]) h' v' _ Q hd' (by omega) (by simp only [List.length_append, List.length_singleton]; omega) (hC.snoc (p := chOf p) ?_) hb' (by simp only [slot_len, hs]) (by simp only [go_sem, Nat.reduceLT, Nat.reduceEqDiff, reduceCtorEq, Int.reduceLT, Int.reduceEq, hs]) (by simp only [go_sem, Nat.reduceLT, Nat.reduceEqDiff, reduceCtorEq, Int.reduceLT, Int.reduceEq, h6]) (by simp only [go_sem, Nat.reduceLT, Nat.reduceEqDiff, reduceCtorEq, Int.reduceLT, Int.reduceEq, hs]) ?_
      · unfold chOf; rw [if_neg hz']; exact ⟨_, rfl, hc⟩
      · intro s' h' v' els' a1 a2 a3 a4
        refine hQ s' h' v' els' a1 a2 a3 ?_
        simpa only [List.map_cons, List.append_assoc, List.singleton_append] using a4

end Go.V07


set_option linter.unusedSimpArgs false
set_option linter.unusedVariables false
namespace Go.V07
open Go Go.Vm


/-! ### what the bound says -/

def sumC (kv : List Ch) : Nat := (kv.map fun p => p.1.length + p.2.1.length + 1).sum
theorem sumC_cons {p : Ch} {kv : List Ch} : sumC (p :: kv) = p.1.length + p.2.1.length + 1 + sumC kv := by simp [sumC]
theorem sumC_le : ∀ l : List Ch, l.length ≤ sumC l
  | [] => by simp [sumC]
  | q :: l => by rw [sumC_cons, List.length_cons]; have := sumC_le l; omega
end Go.V07

set_option linter.unusedSimpArgs false
set_option linter.unusedVariables false
namespace Go.V07
open Go Go.Vm

/-! ### a word of 32 bits -/
def wd (n : Nat) : List UInt8 := [u8 (n / 16777216 % 256), u8 (n / 65536 % 256), u8 (n / 256 % 256), u8 (n % 256)]
theorem wd_len {n : Nat} : (wd n).length = 4 := rfl
theorem wd_take {n i : Nat} (h : i < 4) : (wd n).take (i + 1) = (wd n).take i ++ [u8 (n / 2 ^ (24 - 8 * i) % 256)] := by
  match i, h with
  | 0, _ => rfl
  | 1, _ => rfl
  | 2, _ => rfl
  | 3, _ => simp [wd]
theorem shr_wd {n i : Nat} (h : i < 4) : IntKind.u8.wrap ((n : Int).fdiv (2 ^ min ((24 - 8 * (i : Int)).toNat) 64)) = ((u8 (n / 2 ^ (24 - 8 * i) % 256)).toNat : Int) := by
  rw [u8_toNat _ (by omega)]
  have e : min ((24 - 8 * (i : Int)).toNat) 64 = 24 - 8 * i := by omega
  rw [e, Int.fdiv_eq_ediv_of_nonneg _ (by apply Int.pow_nonneg; decide), IntKind.wrap_u8]
  have e2 : ((2 : Int) ^ (24 - 8 * i)) = ((2 ^ (24 - 8 * i) : Nat) : Int) := by simp
  rw [e2]
  omega

theorem f59_loop {p off len n : Nat} {ex : Bool} {b : List UInt8} (hl : off + 4 ≤ b.length) (hlen : 4 ≤ len) : ∀ (r i : Nat) (s : List VV) (h : Heap) (Q : Pst), i + r = 4 → h[p]? = some (bBox (splice b off ((wd n).take i))) → s.length = 18 → s.getD 0 .undef = .ob p off len 1 ex → s.getD 1 .undef = vi .i64 n → s.getD 5 .undef = vi .i64 i →
    (∀ s' h', s'.length = 18 → (∀ o, h'.set p o = h.set p o) → h'[p]? = some (bBox (splice b off (wd n))) → Q (.exit 0) ⟨s', h'⟩) → X F (.loop f59_1) ⟨s, h⟩ Q := by
  intro r
  induction r with
  | zero =>
    intro i s h Q hi hb hs e0 e1 e5 hQ
    have c : ¬ ((i : Nat) : Int) < 4 := by omega
    rw [X_loop, X_eq f59_1.eq_1]
    simp only [go_sem, Nat.reduceLT, Nat.reduceEqDiff, reduceCtorEq, Int.reduceLT, Int.reduceEq, hs, e5]
    rw [X_eq f59_0.eq_1]
    simp only [go_sem, Nat.reduceLT, Nat.reduceEqDiff, reduceCtorEq, Int.reduceLT, Int.reduceEq, hs, c]
    have : (wd n).take i = wd n := List.take_of_length_le (by rw [wd_len]; omega)
    rw [this] at hb
    exact hQ _ _ (by simp only [slot_len, hs]) (fun _ => rfl) hb
  | succ r ih =>
    intro i s h Q hi hb hs e0 e1 e5 hQ
    have c : ((i : Nat) : Int) < 4 := by omega
    have hi4 : i < 4 := by omega
    have w1 : IntKind.i64.wrap (8 * (i : Int)) = 8 * (i : Int) := IntWalk.i64_in _ (by omega)
    have w2 : IntKind.i64.wrap (24 - 8 * (i : Int)) = 24 - 8 * (i : Int) := IntWalk.i64_in _ (by omega)
    have w3 : ¬ (24 - 8 * (i : Int)) < 0 := by omega
    have w4 : IntKind.i64.wrap ((i : Int) + 1) = ((i + 1 : Nat) : Int) := by rw [IntWalk.i64_in _ (by omega)]; omega
    have hlk : ((wd n).take i).length = i := by rw [List.length_take, wd_len]; omega
    have hsl : (splice b off ((wd n).take i)).length = b.length := splice_len (by omega)
    have ia : iaO h 1 (.ob p off len 1 ex) (vi .i64 (i : Int)) = some (.ptr p (off + i), h) := by
      have : i < len := by omega
      simp [iaO, stepI, rhoO, intV, this]
    have st := st_bB (x := u8 (n / 2 ^ (24 - 8 * i) % 256)) hb (j := off + i) (by omega)
    rw [splice_step (by omega) hlk, ← wd_take hi4] at st
    rw [X_loop, X_eq f59_1.eq_1]
    simp only [go_sem, Nat.reduceLT, Nat.reduceEqDiff, reduceCtorEq, Int.reduceLT, Int.reduceEq, hs, e5]
    rw [X_eq f59_0.eq_1]
    simp only [go_sem, Nat.reduceLT, Nat.reduceEqDiff, reduceCtorEq, Int.reduceLT, Int.reduceEq, hs, c, e0, e1, w1, w2, bin_shr w3, shr_wd hi4, ia, st, e5, w4]
    refine ih (i + 1) _ _ Q (by omega) (List.getElem?_set_self (lt_at hb)) (by simp only [slot_len, hs]) (by simp only [go_sem, Nat.reduceLT, Nat.reduceEqDiff, reduceCtorEq, Int.reduceLT, Int.reduceEq, e0]) (by simp only [go_sem, Nat.reduceLT, Nat.reduceEqDiff, reduceCtorEq, Int.reduceLT, Int.reduceEq, e1]) (by simp only [go_sem, Nat.reduceLT, Nat.reduceEqDiff, reduceCtorEq, Int.reduceLT, Int.reduceEq, hs]) (fun s' h' a1 a2 a3 => hQ s' h' a1 (fun o => ?_) a3)
    rw [a2 o, List.set_set]

theorem word_f59 {h : Heap} {p off len n : Nat} {ex : Bool} {b : List UInt8} (hb : h[p]? = some (bBox b)) (hl : off + 4 ≤ b.length) (hlen : 4 ≤ len) : ∃ v, call F 59 [.ob p off len 1 ex, vi .i64 n] h = some (.ret v, h.set p (bBox (splice b off (wd n)))) := by
  have : Ret F 59 [.ob p off len 1 ex, vi .i64 n] h fun v g => g = h.set p (bBox (splice b off (wd n))) := by
    refine call_E (fn := f59) rfl ?_
    simp only [f59]
    generalize hs0 : ([.ob p off len 1 ex, vi .i64 n] ++ List.replicate _ VV.undef : List VV) = s
    have hs : s.length = 18 := by rw [← hs0]; rfl
    have h0 : s.getD 0 .undef = .ob p off len 1 ex := by rw [← hs0]; rfl
    have h1 : s.getD 1 .undef = vi .i64 n := by rw [← hs0]; rfl
    clear hs0
    simp only [go_sem, Nat.reduceLT, Nat.reduceEqDiff, reduceCtorEq, Int.reduceLT, Int.reduceEq, hs]
    refine f59_loop (n := n) (ex := ex) hl hlen 4 0 _ _ _ (by omega) (by rw [List.take_zero, splice_none]; exact hb) (by simp only [slot_len, hs]) (by simp only [go_sem, Nat.reduceLT, Nat.reduceEqDiff, reduceCtorEq, Int.reduceLT, Int.reduceEq, h0]) (by simp only [go_sem, Nat.reduceLT, Nat.reduceEqDiff, reduceCtorEq, Int.reduceLT, Int.reduceEq, h1]) (by simp only [go_sem, Nat.reduceLT, Nat.reduceEqDiff, reduceCtorEq, Int.reduceLT, Int.reduceEq, hs]; rfl) (fun s' h' a1 a2 a3 => ?_)
    simp only [go_sem, Nat.reduceLT, Nat.reduceEqDiff, reduceCtorEq, Int.reduceLT, Int.reduceEq, a1]
    rw [← a2]; exact (set_at_same a3).symm
  obtain ⟨v, g, e1, rfl⟩ := this
  exact ⟨v, e1⟩
end Go.V07

set_option linter.unusedSimpArgs false
set_option linter.unusedVariables false
namespace Go.V07
open Go Go.Vm

/-! ### a piece's sector -/
def partR (epoch n i of_ : Nat) (p : List UInt8) : List UInt8 := wd epoch ++ wd n ++ [u8 i, u8 of_, u8 p.length] ++ p ++ List.replicate (49 - p.length) 0
def partB (epoch n i of_ : Nat) (p : List UInt8) : List UInt8 := sealB (partR epoch n i of_ p)
theorem partR_len {epoch n i of_ : Nat} {p : List UInt8} (h : p.length ≤ 49) : (partR epoch n i of_ p).length = 60 := by
  unfold partR wd; simp; omega
theorem sealB_len (b : List UInt8) : (sealB b).length = b.length + 4 := by unfold sealB; rw [List.length_append]; rfl
theorem partB_len {epoch n i of_ : Nat} {p : List UInt8} (h : p.length ≤ 49) : (partB epoch n i of_ p).length = 64 := by
  unfold partB; rw [sealB_len, partR_len h]
theorem part_splice {epoch n i of_ : Nat} {p : List UInt8} (h : p.length ≤ 49) :
    splice ((((splice (splice (List.replicate 60 0) 0 (wd epoch)) 4 (wd n)).set 8 (u8 i)).set 9 (u8 of_)).set 10 (u8 p.length)) 11 p = partR epoch n i of_ p := by
  have e1 : splice (List.replicate 60 (0 : UInt8)) 0 (wd epoch) = wd epoch ++ List.replicate 56 0 := by simp [splice, wd]
  have e2 : splice (wd epoch ++ List.replicate 56 0) 4 (wd n) = wd epoch ++ wd n ++ List.replicate 52 0 := by simp [splice, wd]
  have e3 : (((wd epoch ++ wd n ++ List.replicate 52 0).set 8 (u8 i)).set 9 (u8 of_)).set 10 (u8 p.length) = wd epoch ++ wd n ++ [u8 i, u8 of_, u8 p.length] ++ List.replicate 49 0 := by
    simp [wd, List.replicate_succ]
  rw [e1, e2, e3]
  have hl : (wd epoch ++ wd n ++ [u8 i, u8 of_, u8 p.length]).length = 11 := by simp [wd]
  unfold splice partR
  have t : (wd epoch ++ wd n ++ [u8 i, u8 of_, u8 p.length] ++ List.replicate 49 0).take 11 = wd epoch ++ wd n ++ [u8 i, u8 of_, u8 p.length] := by
    rw [List.take_append_of_le_length (by omega), List.take_of_length_le (by omega)]
  have d : (wd epoch ++ wd n ++ [u8 i, u8 of_, u8 p.length] ++ List.replicate 49 (0 : UInt8)).drop (11 + p.length) = List.replicate (49 - p.length) 0 := by
    rw [List.drop_append, List.drop_of_length_le (by omega), hl, Nat.add_sub_cancel_left, List.nil_append, List.drop_replicate]
  rw [t, d]

theorem part_f47 {epoch n i of_ : Nat} {p : List UInt8} {u : VV} (hu : SlV 1 (eB p) u) (hp : p.length ≤ 49) :
    RetP F 47 [vi .i64 epoch, vi .i64 n, vi .i64 i, vi .i64 of_, u] (SlV 1 (eB (partB epoch n i of_ p))) := by
  have : Ret F 47 [vi .i64 epoch, vi .i64 n, vi .i64 i, vi .i64 of_, u] [] fun v g => ∃ w, closRes g v = some w ∧ SlV 1 (eB (partB epoch n i of_ p)) w := by
    refine call_E (fn := f47) rfl ?_
    simp only [f47]
    generalize hs0 : ([vi .i64 epoch, vi .i64 n, vi .i64 i, vi .i64 of_, u] ++ List.replicate _ VV.undef : List VV) = s
    have hs : s.length = 33 := by rw [← hs0]; rfl
    have h0 : s.getD 0 .undef = vi .i64 epoch := by rw [← hs0]; rfl
    have h1 : s.getD 1 .undef = vi .i64 n := by rw [← hs0]; rfl
    have h2 : s.getD 2 .undef = vi .i64 i := by rw [← hs0]; rfl
    have h3 : s.getD 3 .undef = vi .i64 of_ := by rw [← hs0]; rfl
    have h4 : s.getD 4 .undef = u := by rw [← hs0]; rfl
    clear hs0
    have wu : ∀ m : Nat, IntKind.u8.wrap (m : Int) = ((u8 m).toNat : Int) := fun m => by
      rw [wrap_u8_nat]; unfold u8; rw [UInt8.toNat_ofNat']
    have hbox : ([VO.box (List.replicate 60 (VV.cv (.sc (.int .u8 0)))) false] : Heap)[0]? = some (bBox (List.replicate 60 0)) := by
      rw [bC_replicate]; rfl
    simp only [go_sem, Nat.reduceLT, Nat.reduceEqDiff, reduceCtorEq, Int.reduceLT, Int.reduceEq, hs, List.nil_append, List.length_nil]
    generalize [VO.box (List.replicate 60 (VV.cv (.sc (.int .u8 0)))) false] = g0 at hbox
    have sa : ∀ {g : Heap} {b : List UInt8}, g[0]? = some (bBox b) → b.length = 60 → saO g 60 1 (.ptr 0 0) none none = some (.ob 0 0 60 1 true, g) := fun hb hl => sa_box hb (by simp [bC_len]; omega)
    have sf : ∀ {g : Heap} {b : List UInt8} (a : Nat), g[0]? = some (bBox b) → b.length = 60 → a ≤ 60 → saO g 60 1 (.ptr 0 0) (some (vi .i64 a)) none = some (.ob 0 a (60 - a) 1 true, g) := fun a hb hl ha => sa_from hb (by simp [bC_len]; omega) ha
    have l0 : (List.replicate 60 (0 : UInt8)).length = 60 := by simp
    unfold partB
    rw [← part_splice hp]
    generalize List.replicate 60 (0 : UInt8) = c0 at hbox l0 ⊢
    have wl : ∀ m, (wd m).length = 4 := fun _ => rfl
    obtain ⟨v1, n1⟩ := word_f59 (n := epoch) (off := 0) (len := 60) (ex := true) hbox (by omega) (by omega)
    have b1 := List.getElem?_set_self (a := bBox (splice c0 0 (wd epoch))) (lt_at hbox)
    have l1 : (splice c0 0 (wd epoch)).length = 60 := by rw [splice_len (by rw [wl]; omega), l0]
    simp only [sa hbox l0, go_sem, Nat.reduceLT, Nat.reduceEqDiff, reduceCtorEq, Int.reduceLT, Int.reduceEq, hs, h0]
    refine XO_callR (by simp only [List.map, go_sem, Nat.reduceLT, Nat.reduceEqDiff, reduceCtorEq, Int.reduceLT, Int.reduceEq, hs]; exact n1) ?_
    generalize g0.set 0 (bBox (splice c0 0 (wd epoch))) = g1 at b1
    generalize splice c0 0 (wd epoch) = c1 at b1 l1 ⊢
    have s4 : saO g1 60 1 (.ptr 0 0) (some (vi .i64 4)) none = some (.ob 0 4 56 1 true, g1) := sf 4 b1 l1 (by omega)
    obtain ⟨v2, n2⟩ := word_f59 (n := n) (off := 4) (len := 56) (ex := true) b1 (by omega) (by omega)
    have b2 := List.getElem?_set_self (a := bBox (splice c1 4 (wd n))) (lt_at b1)
    have l2 : (splice c1 4 (wd n)).length = 60 := by rw [splice_len (by rw [wl]; omega), l1]
    simp only [go_sem, Nat.reduceLT, Nat.reduceEqDiff, reduceCtorEq, Int.reduceLT, Int.reduceEq, hs, s4, h1]
    refine XO_callR (by simp only [List.map, go_sem, Nat.reduceLT, Nat.reduceEqDiff, reduceCtorEq, Int.reduceLT, Int.reduceEq, hs]; exact n2) ?_
    generalize g1.set 0 (bBox (splice c1 4 (wd n))) = g2 at b2
    generalize splice c1 4 (wd n) = c2 at b2 l2 ⊢
    have i8 : iaAO 60 1 (.ptr 0 0) (vi .i64 8) = some (.ptr 0 8) := rfl
    have i9 : iaAO 60 1 (.ptr 0 0) (vi .i64 9) = some (.ptr 0 9) := rfl
    have i10 : iaAO 60 1 (.ptr 0 0) (vi .i64 10) = some (.ptr 0 10) := rfl
    have t3 := st_bB (x := u8 i) b2 (j := 8) (by omega)
    have b3 := List.getElem?_set_self (a := bBox (c2.set 8 (u8 i))) (lt_at b2)
    have l3 : (c2.set 8 (u8 i)).length = 60 := by rw [List.length_set, l2]
    generalize g2.set 0 (bBox (c2.set 8 (u8 i))) = g3 at t3 b3
    generalize c2.set 8 (u8 i) = c3 at b3 l3 ⊢
    have t4 := st_bB (x := u8 of_) b3 (j := 9) (by omega)
    have b4 := List.getElem?_set_self (a := bBox (c3.set 9 (u8 of_))) (lt_at b3)
    have l4 : (c3.set 9 (u8 of_)).length = 60 := by rw [List.length_set, l3]
    generalize g3.set 0 (bBox (c3.set 9 (u8 of_))) = g4 at t4 b4
    generalize c3.set 9 (u8 of_) = c4 at b4 l4 ⊢
    have t5 := st_bB (x := u8 p.length) b4 (j := 10) (by omega)
    have b5 := List.getElem?_set_self (a := bBox (c4.set 10 (u8 p.length))) (lt_at b4)
    have l5 : (c4.set 10 (u8 p.length)).length = 60 := by rw [List.length_set, l4]
    generalize g4.set 0 (bBox (c4.set 10 (u8 p.length))) = g5 at t5 b5
    generalize c4.set 10 (u8 p.length) = c5 at b5 l5 ⊢
    have s11 : saO g5 60 1 (.ptr 0 0) (some (vi .i64 11)) none = some (.ob 0 11 49 1 true, g5) := sf 11 b5 l5 (by omega)
    have t6 := cp_bB (off := 11) (len := 49) (ex := true) (w := u) b5 (by omega) hu.src (by omega)
    have b6 := List.getElem?_set_self (a := bBox (splice c5 11 p)) (lt_at b5)
    have l6 : (splice c5 11 p).length = 60 := by rw [splice_len (by omega), l5]
    generalize g5.set 0 (bBox (splice c5 11 p)) = g6 at t6 b6
    generalize splice c5 11 p = c6 at b6 l6 ⊢
    have cl := clos_ob (ex := true) (off := 0) (len := 60) b6 (by omega)
    rw [List.drop_zero, List.take_of_length_le (by omega)] at cl
    obtain ⟨v7, h7, n7, w7, r7, S7⟩ := seal_pure (b := c6) (u := .cv (.sl 1 (eB c6) true)) (.inr ⟨true, rfl⟩) (by omega)
    simp only [go_sem, Nat.reduceLT, Nat.reduceEqDiff, reduceCtorEq, Int.reduceLT, Int.reduceEq, hs, h2, h3, h4, wu, hu.ln, eB_len, i8, i9, i10, t3, t4, t5, s11, t6, sa b6 l6]
    refine XO_callP (by simp only [List.map, go_sem, Nat.reduceLT, Nat.reduceEqDiff, reduceCtorEq, Int.reduceLT, Int.reduceEq, hs]; exact closAs_cons cl rfl) n7 r7 ?_
    simp only [go_sem, Nat.reduceLT, Nat.reduceEqDiff, reduceCtorEq, Int.reduceLT, Int.reduceEq, hs]
    refine ⟨w7, ?_, S7⟩
    rcases S7 with ⟨rfl, _⟩ | ⟨ex, rfl⟩ <;> rfl
  obtain ⟨v, g, n1, w, e1, e2⟩ := this
  exact ⟨v, g, n1, w, e1, e2⟩
end Go.V07

set_option linter.unusedSimpArgs false
set_option linter.unusedVariables false
namespace Go.V07
open Go Go.Vm

def numOK (n : Int) : Bool := decide (0 ≤ n) && decide (n ≤ 1073741824)
theorem number_f42 (n : Int) : ∃ h', call F 42 [vi .i64 n] [] = some (.ret (vb (numOK n)), h') := by
  have : Ret F 42 [vi .i64 n] [] fun v h' => v = vb (numOK n) := by
    refine call_E (fn := f42) rfl ?_
    simp only [f42]
    generalize hs0 : ([vi .i64 n] ++ List.replicate _ VV.undef : List VV) = s
    have hs : s.length = 9 := by rw [← hs0]; rfl
    have h0 : s.getD 0 .undef = vi .i64 n := by rw [← hs0]; rfl
    clear hs0
    unfold numOK
    by_cases c : 0 ≤ n
    · simp only [go_sem, Nat.reduceLT, Nat.reduceEqDiff, reduceCtorEq, Int.reduceLT, Int.reduceEq, hs, h0, ge_iff_le, c, Bool.true_and]
    · simp only [go_sem, Nat.reduceLT, Nat.reduceEqDiff, reduceCtorEq, Int.reduceLT, Int.reduceEq, hs, h0, ge_iff_le, c, Bool.false_and]
  obtain ⟨v, h', n1, rfl⟩ := this
  exact ⟨h', n1⟩
end Go.V07

set_option linter.unusedSimpArgs false
set_option linter.unusedVariables false
namespace Go.V07
open Go Go.Vm

/-! ### pieces of so many -/
def pcsF (k : Nat) : Nat → List UInt8 → List (List UInt8)
  | 0, _ => []
  | m + 1, l => if l = [] then [] else l.take k :: pcsF k m (l.drop k)
def pcs (k : Nat) (l : List UInt8) : List (List UInt8) := pcsF k l.length l
theorem sl_mx {h : Heap} {z : Nat} {es : List (List CV)} {v : VV} (hv : SlV z es v) {k1 k2 k3 : IntKind} {a b : Nat} (hab : a ≤ b) (hb : b ≤ es.length) :
    ∃ v', SlV z ((es.drop a).take (b - a)) v' ∧ slO h z v (some (vi k1 a)) (some (vi k2 b)) (some (vi k3 b)) = some (v', h) := by
  rcases hv with ⟨rfl, rfl⟩ | ⟨ex, rfl⟩
  · simp at hb
    have ha : a = 0 := by omega
    subst hb ha
    exact ⟨nilS, .inl ⟨rfl, by simp⟩, by simp [slO, stepI, rhoO, lenV, bnd, intV]⟩
  · refine ⟨.cv (.sl z ((es.drop a).take (b - a)) true), .inr ⟨_, rfl⟩, ?_⟩
    have h1 : (a : Int) ≤ (b : Int) := by omega
    have h2 : (b : Int) ≤ (es.length : Int) := by omega
    simp [slO, stepI, rhoO, lenV, bnd, intV, h1, h2]

theorem round_col {N : Nat} {s0 : List VV} (hs0 : s0.length = 13) (k2 : s0.getD 2 .undef = .ptr (N + 2) 0) {g : Heap} {va : VV} {els : List (List CV)} (hA : g[N + 2]? = some (.box [va] false)) (hB : BufG g 1 els va) {p0 : Option Jmp} (hp : g[N + 3]? = some (.loop [7] f55_0 f55_1 s0 .ready p0))
    {c : CV} (hl : els.length ≤ 1000000000) :
    ∃ h' va', call F (YB + (N + 3)) [.cv c] g = some (.ret (vb true), h') ∧ h'[N + 3]? = some (.loop [7] f55_0 f55_1 s0 .ready none) ∧ h'[N + 2]? = some (.box [va'] false) ∧ BufG h' 1 (els ++ [[c]]) va' ∧ (∀ (j : Nat), j ≠ N + 2 → ∀ (cells : List VV) (fr : Bool), g[j]? = some (.box cells fr) → h'[j]? = some (.box cells fr)) := by
  have key := round_X (F := F) (id := N + 3) (by cases h : F (YB + (N + 3)) with
    | none => rfl
    | some fn => have := tlt h; omega) (ps := [7]) (asg := f55_0) (body := f55_1) (s0 := s0) (a := [.cv c]) (h := g) (P := fun v h' => v = vb true ∧ ∃ va', h'[N + 3]? = some (.loop [7] f55_0 f55_1 s0 .ready none) ∧ h'[N + 2]? = some (.box [va'] false) ∧ BufG h' 1 (els ++ [[c]]) va' ∧ (∀ (j : Nat), j ≠ N + 2 → ∀ (cells : List VV) (fr : Bool), g[j]? = some (.box cells fr) → h'[j]? = some (.box cells fr))) hp rfl ?_
  · obtain ⟨v, h', e1, rfl, va', e2⟩ := key
    exact ⟨h', va', e1, e2⟩
  have hset : setAll s0 [7] [.cv c] = s0.set 7 (.cv c) := rfl
  rw [hset, X_eq f55_0.eq_1]
  simp only [go_sem, Nat.reduceLT, Nat.reduceEqDiff, reduceCtorEq, Int.reduceLT, Int.reduceEq, hs0]
  refine ⟨rfl, p0, hp, ?_⟩
  dsimp only
  have hp1 : (g.set (N + 3) (.loop [7] f55_0 f55_1 s0 .busy p0))[N + 3]? = some (.loop [7] f55_0 f55_1 s0 .busy p0) := List.getElem?_set_self (lt_at hp)
  have hA1 : (g.set (N + 3) (.loop [7] f55_0 f55_1 s0 .busy p0))[N + 2]? = some (.box [va] false) := by rw [List.getElem?_set_ne (by omega)]; exact hA
  have hB1 := hB.setLoop hp (.loop [7] f55_0 f55_1 s0 .busy p0)
  have kp : ∀ (j : Nat) (cells : List VV) (fr : Bool), g[j]? = some (.box cells fr) → (g.set (N + 3) (.loop [7] f55_0 f55_1 s0 .busy p0))[j]? = some (.box cells fr) := fun j cells fr hj => by
    rw [List.getElem?_set_ne (by rintro rfl; rw [hp] at hj; cases hj)]; exact hj
  generalize g.set (N + 3) (.loop [7] f55_0 f55_1 s0 .busy p0) = g1 at hp1 hA1 hB1 kp
  have m1 : ∀ h : Heap, mkO h 1 1 [.cv (.sc (.slice none 0 0))] [(0, 1, .cv c)] = some (.cv (.sl 1 [[c]] true), h) := fun _ => rfl
  rw [X_eq f55_1.eq_1]
  simp only [go_sem, Nat.reduceLT, Nat.reduceEqDiff, reduceCtorEq, Int.reduceLT, Int.reduceEq, hs0, k2, ld_p0 hA1, m1]
  refine XO_appBG hB1 (new := [[c]]) (by simp only [go_sem, Nat.reduceLT, Nat.reduceEqDiff, reduceCtorEq, Int.reduceLT, Int.reduceEq, hs0]) (by simp only [go_sem, Nat.reduceLT, Nat.reduceEqDiff, reduceCtorEq, Int.reduceLT, Int.reduceEq, hs0]) (by simp only [List.length_singleton]; omega) (by simp only [List.length_singleton]; omega) (fun va' g2 B2 kg => ?_)
  have hA2 := kg.box hA1
  have hp2 := kg.loop hp1
  have st2 := st_1 (v := va') B2.vf_cell hA2 (show 0 < 1 by decide)
  simp only [List.set_cons_zero] at st2
  simp only [go_sem, Nat.reduceLT, Nat.reduceEqDiff, reduceCtorEq, Int.reduceLT, Int.reduceEq, hs0, k2, st2]
  refine ⟨none, .busy, p0, rfl, by rw [List.getElem?_set_ne (by omega)]; exact hp2, rfl, va', List.getElem?_set_self (by rw [List.length_set]; exact lt_at hp2), ?_, ?_, ?_⟩
  · rw [List.getElem?_set_ne (by omega)]; exact List.getElem?_set_self (lt_at hA2)
  · refine BufG.setLoop (ps := [7]) (a := f55_0) (b := f55_1) (s := s0) (t := .busy) (p := p0) (B2.setBox hA2 _) (by rw [List.getElem?_set_ne (by omega)]; exact hp2) _
  · intro j hj cells fr ho
    have h1 := kg.box (kp j cells fr ho)
    have : j ≠ N + 3 := by rintro rfl; rw [hp] at ho; cases ho
    rw [List.getElem?_set_ne (fun e => this e.symm), List.getElem?_set_ne (fun e => hj e.symm)]; exact h1

theorem f56_loop {N k : Nat} (hk : 0 < k) (hk2 : k ≤ 1000000) {s0 : List VV} (hs0 : s0.length = 13) (k2 : s0.getD 2 .undef = .ptr (N + 2) 0) {b : List UInt8} {u : VV} (hu : SlV 1 (eB b) u) (hbl : b.length ≤ 1000000000) :
    ∀ (m i : Nat) (els : List (List CV)) (va : VV) (ps : List (List UInt8)) (s : List VV) (g : Heap) (Q : Pst), i + m = b.length → els.length ≤ i → g[N]? = some (.box [u] false) → g[N + 1]? = some (.box [vi .i64 k] false) → g[N + 2]? = some (.box [va] false) → BufG g 1 els va → PgE els ps →
      g[N + 3]? = some (.loop [7] f55_0 f55_1 s0 .ready none) → s.length = 31 → s.getD 0 .undef = .yield (N + 3) → s.getD 1 .undef = .ptr N 0 → s.getD 2 .undef = .ptr (N + 1) 0 → s.getD 4 .undef = vi .i64 i →
      (∀ s' g' els' va', s'.length = 31 → g'[N + 2]? = some (.box [va'] false) → BufG g' 1 els' va' → PgE els' (ps ++ pcsF k m (b.drop i)) → g'[N + 3]? = some (.loop [7] f55_0 f55_1 s0 .ready none) → Q (.exit 0) ⟨s', g'⟩) → X F (.loop f56_0) ⟨s, g⟩ Q := by
  intro m
  induction m using Nat.strongRecOn with
  | _ m ih =>
    intro i els va ps s g Q hi hel hN hN1 hA hB hP hp hs e0 e1 e2 e4 hQ
    by_cases hm : m = 0
    · subst hm
      have c : ¬ ((i : Nat) : Int) < (b.length : Int) := by omega
      rw [X_loop, X_eq f56_0.eq_1]
      simp only [go_sem, Nat.reduceLT, Nat.reduceEqDiff, reduceCtorEq, Int.reduceLT, Int.reduceEq, hs, e4, e1, ld_p0 hN, hu.ln, eB_len, c]
      exact hQ _ g els va (by simp only [slot_len, hs]) hA hB (by simpa [pcsF] using hP) hp
    · have c : ((i : Nat) : Int) < (b.length : Int) := by omega
      obtain ⟨m', rfl⟩ : ∃ m', m = m' + 1 := ⟨m - 1, by omega⟩
      obtain ⟨w1, w1a, w1b⟩ := hu.from_ (h := g) (k := .i64) (a := (i : Int)) (by omega) (by rw [eB_len]; omega)
      rw [Int.toNat_natCast, eB_drop] at w1a
      have hln := w1a.ln
      rw [eB_len, List.length_drop] at hln
      have hmn : min (k : Int) ((b.length - i : Nat) : Int) = ((min k (b.length - i) : Nat) : Int) := by omega
      have hend : IntKind.i64.wrap ((i : Int) + ((min k (b.length - i) : Nat) : Int)) = ((i + min k (b.length - i) : Nat) : Int) := by rw [IntWalk.i64_in _ (by omega)]; omega
      have hnx : IntKind.i64.wrap ((i : Int) + (k : Int)) = ((i + k : Nat) : Int) := by rw [IntWalk.i64_in _ (by omega)]; omega
      obtain ⟨w2, w2a, w2b⟩ := sl_mx (h := g) hu (k1 := .i64) (k2 := .i64) (k3 := .i64) (a := i) (b := i + min k (b.length - i)) (by omega) (by rw [eB_len]; omega)
      rw [eB_part, Nat.add_sub_cancel_left] at w2a
      have htk : (b.drop i).take (min k (b.length - i)) = (b.drop i).take k := by
        rw [List.take_eq_take_iff, List.length_drop]; omega
      rw [htk] at w2a
      obtain ⟨c2, rfl⟩ : ∃ c2, w2 = .cv c2 := by rcases w2a with ⟨rfl, _⟩ | ⟨ex, rfl⟩ <;> exact ⟨_, rfl⟩
      obtain ⟨g2, va2, n2, hp2, hA2, hB2, kp2⟩ := round_col hs0 k2 hA hB hp (c := c2) (by omega)
      have hne : b.drop i ≠ [] := by
        intro e
        have := congrArg List.length e
        rw [List.length_drop, List.length_nil] at this; omega
      have hpc : pcsF k (m' + 1) (b.drop i) = (b.drop i).take k :: pcsF k m' ((b.drop i).drop k) := by
        rw [pcsF, if_neg hne]
      rw [hpc] at hQ
      rw [X_loop, X_eq f56_0.eq_1]
      simp only [go_sem, Nat.reduceLT, Nat.reduceEqDiff, reduceCtorEq, Int.reduceLT, Int.reduceEq, hs, e4, e1, ld_p0 hN, hu.ln, eB_len, c]
      refine X_draw rfl ?_
      simp only [go_sem, Nat.reduceLT, Nat.reduceEqDiff, reduceCtorEq, Int.reduceLT, Int.reduceEq, hs, e4, e1, e2, ld_p0 hN, ld_p0 hN1, w1b, hln, hmn]
      simp only [go_sem, Nat.reduceLT, Nat.reduceEqDiff, reduceCtorEq, Int.reduceLT, Int.reduceEq, hs, e4, e1, e0, ld_p0 hN, hend, w2b]
      refine XO_yield (id := N + 3) (by simp only [go_sem, Nat.reduceLT, Nat.reduceEqDiff, reduceCtorEq, Int.reduceLT, Int.reduceEq, hs]) (by simp only [List.map, go_sem, Nat.reduceLT, Nat.reduceEqDiff, reduceCtorEq, Int.reduceLT, Int.reduceEq, hs]; exact n2) ?_
      have hN2 := kp2 N (by omega) _ _ hN
      have hN12 := kp2 (N + 1) (by omega) _ _ hN1
      simp only [go_sem, Nat.reduceLT, Nat.reduceEqDiff, reduceCtorEq, Int.reduceLT, Int.reduceEq, hs, e4, e2, ld_p0 hN12, hnx]
      by_cases hlast : b.length ≤ i + k
      · -- the last one
        have hdk : (b.drop i).drop k = [] := by rw [List.drop_drop]; exact List.drop_eq_nil_of_le (by omega)
        have hnil : ∀ n, pcsF k n ([] : List UInt8) = [] := fun n => by cases n <;> simp [pcsF]
        have c9 : ¬ ((i + k : Nat) : Int) < (b.length : Int) := by omega
        rw [hdk, hnil] at hQ
        rw [X_loop, X_eq f56_0.eq_1]
        simp only [go_sem, Nat.reduceLT, Nat.reduceEqDiff, reduceCtorEq, Int.reduceLT, Int.reduceEq, hs, e1, ld_p0 hN2, hu.ln, eB_len, c9]
        exact hQ _ g2 _ va2 (by simp only [slot_len, hs]) hA2 hB2 (hP.snoc w2a) hp2
      · refine ih (m' + 1 - k) (by omega) (i + k) _ va2 (ps ++ [(b.drop i).take k]) _ _ Q (by omega) (by simp; omega) hN2 hN12 hA2 hB2 (hP.snoc w2a) hp2 (by simp only [slot_len, hs]) (by simp only [go_sem, Nat.reduceLT, Nat.reduceEqDiff, reduceCtorEq, Int.reduceLT, Int.reduceEq, e0]) (by simp only [go_sem, Nat.reduceLT, Nat.reduceEqDiff, reduceCtorEq, Int.reduceLT, Int.reduceEq, e1]) (by simp only [go_sem, Nat.reduceLT, Nat.reduceEqDiff, reduceCtorEq, Int.reduceLT, Int.reduceEq, e2]) (by simp only [go_sem, Nat.reduceLT, Nat.reduceEqDiff, reduceCtorEq, Int.reduceLT, Int.reduceEq, hs]) (fun s' g' els' va' a1 a2 a3 a4 a5 => hQ s' g' els' va' a1 a2 a3 ?_ a5)
        rw [List.append_assoc] at a4
        have : pcsF k m' ((b.drop i).drop k) = pcsF k (m' + 1 - k) (b.drop (i + k)) := by
          rw [List.drop_drop]
          have key : ∀ (n1 n2 : Nat) (l : List UInt8), l.length ≤ n1 → l.length ≤ n2 → pcsF k n1 l = pcsF k n2 l := by
            intro n1
            induction n1 with
            | zero =>
              intro n2 l h1 h2
              have : l = [] := List.eq_nil_of_length_eq_zero (by omega)
              subst this
              cases n2 <;> simp [pcsF]
            | succ n1 ih1 =>
              intro n2 l h1 h2
              by_cases hl : l = []
              · subst hl; cases n2 <;> simp [pcsF]
              · cases n2 with
                | zero => exact absurd (List.eq_nil_of_length_eq_zero (by omega)) hl
                | succ n2 =>
                  have : 0 < l.length := List.length_pos_iff.2 hl
                  rw [pcsF, if_neg hl, pcsF, if_neg hl, ih1 n2 _ (by rw [List.length_drop]; omega) (by rw [List.length_drop]; omega)]
          refine key _ _ _ (by rw [List.length_drop]; omega) (by rw [List.length_drop]; omega)
        rw [this]
        exact a4
/-- Pieces, collected. -/
theorem collect_f44 {b : List UInt8} {u : VV} (hu : SlV 1 (eB b) u) (hbl : b.length ≤ 1000000000) {h : Heap} {k N : Nat} (hk : 0 < k) (hk2 : k ≤ 1000000) (hN : h.length = N + 2) (hN1 : h[N]? = some (.box [u] false)) (hN2 : h[N + 1]? = some (.box [vi .i64 k] false)) :
    Ret F 44 [.func 56 [.ptr N 0, .ptr (N + 1) 0]] h fun v g => ∃ els, BufG g 1 els v ∧ PgE els (pcs k b) := by
  have n55 : Ret F 55 [nilS, .func 56 [.ptr N 0, .ptr (N + 1) 0]] h fun v g => ∃ els, BufG g 1 els v ∧ PgE els (pcs k b) := by
    refine call_E (fn := f55) rfl ?_
    simp only [f55]
    generalize hs0 : ([nilS, .func 56 [.ptr N 0, .ptr (N + 1) 0]] ++ List.replicate _ VV.undef : List VV) = s
    have hs : s.length = 13 := by rw [← hs0]; rfl
    have h0 : s.getD 0 .undef = nilS := by rw [← hs0]; rfl
    have h1 : s.getD 1 .undef = .func 56 [.ptr N 0, .ptr (N + 1) 0] := by rw [← hs0]; rfl
    clear hs0
    simp only [go_sem, Nat.reduceLT, Nat.reduceEqDiff, reduceCtorEq, Int.reduceLT, Int.reduceEq, hs, h0]
    rw [bx_1 rfl]
    simp only [go_sem, Nat.reduceLT, Nat.reduceEqDiff, reduceCtorEq, Int.reduceLT, Int.reduceEq, hs, h1, hN]
    generalize hs1 : ((s.set 2 (VV.ptr (N + 2) 0)).set 4 nilS).set 6 (.func 56 [.ptr N 0, .ptr (N + 1) 0]) = s1
    have a0 : s1.length = 13 := by rw [← hs1]; simp only [slot_len, hs]
    have a2 : s1.getD 2 .undef = .ptr (N + 2) 0 := by rw [← hs1]; simp only [go_sem, Nat.reduceLT, Nat.reduceEqDiff, reduceCtorEq, Int.reduceLT, Int.reduceEq, hs]
    have a6 : s1.getD 6 .undef = .func 56 [.ptr N 0, .ptr (N + 1) 0] := by rw [← hs1]; simp only [go_sem, Nat.reduceLT, Nat.reduceEqDiff, reduceCtorEq, Int.reduceLT, Int.reduceEq, hs]
    have gl : (h ++ [VO.box [nilS] false]).length = N + 3 := by rw [List.length_append, hN]; rfl
    have g0 : (h ++ [VO.box [nilS] false])[N]? = some (.box [u] false) := by rw [List.getElem?_append_left (by omega)]; exact hN1
    have g1 : (h ++ [VO.box [nilS] false])[N + 1]? = some (.box [vi .i64 k] false) := by rw [List.getElem?_append_left (by omega)]; exact hN2
    have g2 : (h ++ [VO.box [nilS] false])[N + 2]? = some (.box [nilS] false) := by rw [← hN]; exact at_last
    generalize h ++ [VO.box [nilS] false] = g at gl g0 g1 g2
    have p2 : ∀ (j : Nat) (o : VO), g[j]? = some o → (g ++ [.loop [7] f55_0 f55_1 s1 .ready none])[j]? = some o := fun j o ho => by rw [List.getElem?_append_left (lt_at ho)]; exact ho
    have hloop : (g ++ [.loop [7] f55_0 f55_1 s1 .ready none])[N + 3]? = some (.loop [7] f55_0 f55_1 s1 .ready none) := by rw [← gl]; exact at_last
    have iter : Ret F 56 [.yield (N + 3), .ptr N 0, .ptr (N + 1) 0] (g ++ [.loop [7] f55_0 f55_1 s1 .ready none]) fun v g' => ∃ els' va', g'[N + 2]? = some (.box [va'] false) ∧ BufG g' 1 els' va' ∧ PgE els' (pcs k b) ∧ g'[N + 3]? = some (.loop [7] f55_0 f55_1 s1 .ready none) := by
      refine call_E (fn := f56) rfl ?_
      simp only [f56]
      generalize hs0 : ([.yield (N + 3), .ptr N 0, .ptr (N + 1) 0] ++ List.replicate _ VV.undef : List VV) = s
      have hs : s.length = 31 := by rw [← hs0]; rfl
      have h0 : s.getD 0 .undef = .yield (N + 3) := by rw [← hs0]; rfl
      have h1 : s.getD 1 .undef = .ptr N 0 := by rw [← hs0]; rfl
      have h2 : s.getD 2 .undef = .ptr (N + 1) 0 := by rw [← hs0]; rfl
      clear hs0
      simp only [go_sem, Nat.reduceLT, Nat.reduceEqDiff, reduceCtorEq, Int.reduceLT, Int.reduceEq, hs]
      refine f56_loop hk hk2 a0 a2 hu hbl b.length 0 [] nilS [] _ _ _ (by omega) (by simp) (p2 _ _ g0) (p2 _ _ g1) (p2 _ _ g2) (BufG.nil _ _) .nil hloop (by simp only [slot_len, hs]) (by simp only [go_sem, Nat.reduceLT, Nat.reduceEqDiff, reduceCtorEq, Int.reduceLT, Int.reduceEq, h0]) (by simp only [go_sem, Nat.reduceLT, Nat.reduceEqDiff, reduceCtorEq, Int.reduceLT, Int.reduceEq, h1]) (by simp only [go_sem, Nat.reduceLT, Nat.reduceEqDiff, reduceCtorEq, Int.reduceLT, Int.reduceEq, h2]) (by simp only [go_sem, Nat.reduceLT, Nat.reduceEqDiff, reduceCtorEq, Int.reduceLT, Int.reduceEq, hs]; rfl) (fun s' g' els' va' b0 b1 b2 b3 b4 => ?_)
      simp only [go_sem, Nat.reduceLT, Nat.reduceEqDiff, reduceCtorEq, Int.reduceLT, Int.reduceEq, b0]
      exact ⟨els', va', b1, b2, by simpa [pcs] using b3, b4⟩
    obtain ⟨v56, g3, n56, els', va', c1, c2, c3, c4⟩ := iter
    refine X_rangeF (f := 56) (caps := [.ptr N 0, .ptr (N + 1) 0]) (t := .ready) (p := none) a6 (by rw [gl]; exact n56) (by rw [gl]; exact c4) (by intro e; cases e) ?_
    rw [gl]
    have d1 : (g3.set (N + 3) (.loop [7] f55_0 f55_1 s1 .exhausted none))[N + 2]? = some (.box [va'] false) := by rw [List.getElem?_set_ne (by omega)]; exact c1
    have d2 := c2.setLoop c4 (.loop [7] f55_0 f55_1 s1 .exhausted none)
    generalize g3.set (N + 3) (.loop [7] f55_0 f55_1 s1 .exhausted none) = g4 at d1 d2
    simp only [go_sem, Nat.reduceLT, Nat.reduceEqDiff, reduceCtorEq, Int.reduceLT, Int.reduceEq, outOf, a0, a2, ld_p0 d1]
    exact ⟨els', d2, c3⟩
  obtain ⟨v, g, n1, P⟩ := n55
  have : Ret F 44 [.func 56 [.ptr N 0, .ptr (N + 1) 0]] h fun v g => ∃ els, BufG g 1 els v ∧ PgE els (pcs k b) := by
    refine call_E (fn := f44) rfl ?_
    simp only [f44]
    generalize hs0 : ([.func 56 [.ptr N 0, .ptr (N + 1) 0]] ++ List.replicate _ VV.undef : List VV) = s
    have hs : s.length = 5 := by rw [← hs0]; rfl
    have h0 : s.getD 0 .undef = .func 56 [.ptr N 0, .ptr (N + 1) 0] := by rw [← hs0]; rfl
    clear hs0
    simp only [go_sem, Nat.reduceLT, Nat.reduceEqDiff, reduceCtorEq, Int.reduceLT, Int.reduceEq, hs, h0]
    refine XO_callR (by simp only [List.map, go_sem, Nat.reduceLT, Nat.reduceEqDiff, reduceCtorEq, Int.reduceLT, Int.reduceEq, hs]; exact n1) ?_
    simp only [go_sem, Nat.reduceLT, Nat.reduceEqDiff, reduceCtorEq, Int.reduceLT, Int.reduceEq, hs]
    exact P
  exact this
end Go.V07

set_option linter.unusedSimpArgs false
set_option linter.unusedVariables false
namespace Go.V07
open Go Go.Vm

theorem pcsF_enough (k : Nat) (hk : 0 < k) : ∀ (n1 n2 : Nat) (l : List UInt8), l.length ≤ n1 → l.length ≤ n2 → pcsF k n1 l = pcsF k n2 l := by
  intro n1
  induction n1 with
  | zero =>
    intro n2 l h1 h2
    have : l = [] := List.eq_nil_of_length_eq_zero (by omega)
    subst this
    cases n2 <;> simp [pcsF]
  | succ n1 ih1 =>
    intro n2 l h1 h2
    by_cases hl : l = []
    · subst hl; cases n2 <;> simp [pcsF]
    · cases n2 with
      | zero => exact absurd (List.eq_nil_of_length_eq_zero (by omega)) hl
      | succ n2 =>
        have : 0 < l.length := List.length_pos_iff.2 hl
        rw [pcsF, if_neg hl, pcsF, if_neg hl, ih1 n2 _ (by rw [List.length_drop]; omega) (by rw [List.length_drop]; omega)]
theorem pcs_cons {k : Nat} (hk : 0 < k) {l : List UInt8} (hl : l ≠ []) : pcs k l = l.take k :: pcs k (l.drop k) := by
  unfold pcs
  have h0 : 0 < l.length := List.length_pos_iff.2 hl
  obtain ⟨m, hm⟩ : ∃ m, l.length = m + 1 := ⟨l.length - 1, by omega⟩
  rw [hm, pcsF, if_neg hl, pcsF_enough k hk m (l.drop k).length _ (by rw [List.length_drop]; omega) (Nat.le_refl _)]
theorem pcs_part {k : Nat} {l : List UInt8} : ∀ p ∈ pcs k l, p.length ≤ k := by
  unfold pcs
  have key : ∀ (m : Nat) (l : List UInt8), ∀ p ∈ pcsF k m l, p.length ≤ k := by
    intro m
    induction m with
    | zero => intro l p hp; simp [pcsF] at hp
    | succ m ih =>
      intro l p hp
      unfold pcsF at hp
      split at hp
      · simp at hp
      · rcases List.mem_cons.1 hp with rfl | hp
        · rw [List.length_take]; omega
        · exact ih _ _ hp
  exact key _ _

def partsL (epoch n of_ : Nat) : Nat → List (List UInt8) → List (List UInt8)
  | _, [] => []
  | i, p :: r => partB epoch n i of_ p :: partsL epoch n of_ (i + 1) r
def partsF (epoch n : Int) (l : List Ch) : Option (List (List UInt8)) :=
  if numOK epoch = true ∧ numOK n = true ∧ (pcs 49 (chsB l)).length ≤ 200 then some (partsL epoch.toNat n.toNat (pcs 49 (chsB l)).length 0 (pcs 49 (chsB l))) else none
def PartsP (r : Option (List (List UInt8))) (w : VV) : Prop := match r with
  | none => w = .tup [nilS, vb false]
  | some p => ∃ x els, w = .tup [x, vb true] ∧ SlV 1 els x ∧ PgE els p
theorem numOK_nat {n : Int} (h : numOK n = true) : n = ((n.toNat : Nat) : Int) ∧ n.toNat ≤ 1073741824 := by
  unfold numOK at h
  simp only [Bool.and_eq_true, decide_eq_true_eq] at h
  omega

theorem f24_loop {epoch n : Nat} {ps : List (List UInt8)} {elsP : List (List CV)} {u : VV} {h0 : Heap} (hps : PgE elsP ps) (hu : VF h0 1 elsP u) (hp49 : ∀ p ∈ ps, p.length ≤ 49) (hl : ps.length ≤ 200) :
    ∀ (m i : Nat) (els : List (List CV)) (v : VV) (acc : List (List UInt8)) (s : List VV) (h : Heap) (Q : Pst), i + m = ps.length → els.length ≤ i → NB h0 h 1 els v → PgE els acc →
      s.length = 48 → s.getD 0 .undef = vi .i64 epoch → s.getD 1 .undef = vi .i64 n → s.getD 8 .undef = u → s.getD 9 .undef = v → s.getD 29 .undef = u → s.getD 30 .undef = vi .i64 ps.length → s.getD 31 .undef = vi .i64 i →
      (∀ s' h' els' v', s'.length = 48 → s'.getD 9 .undef = v' → NB h0 h' 1 els' v' → PgE els' (acc ++ partsL epoch n ps.length i (ps.drop i)) → Q (.exit 0) ⟨s', h'⟩) → X F (.loop f24_2) ⟨s, h⟩ Q := by
  intro m
  have hpl := hps.len
  induction m with
  | zero =>
    intro i els v acc s h Q hi hel hB hP hs e0 e1 e8 e9 e29 e30 e31 hQ
    have c : ¬ ((i : Nat) : Int) < (ps.length : Int) := by omega
    have hd : ps.drop i = [] := List.drop_eq_nil_of_le (by omega)
    rw [hd] at hQ
    rw [X_loop, X_eq f24_2.eq_1]
    simp only [go_sem, Nat.reduceLT, Nat.reduceEqDiff, reduceCtorEq, Int.reduceLT, Int.reduceEq, hs, e31, e30]
    rw [X_eq f24_1.eq_1]
    simp only [go_sem, Nat.reduceLT, Nat.reduceEqDiff, reduceCtorEq, Int.reduceLT, Int.reduceEq, hs, c]
    exact hQ _ _ els v (by simp only [slot_len, hs]) (by simp only [go_sem, Nat.reduceLT, Nat.reduceEqDiff, reduceCtorEq, Int.reduceLT, Int.reduceEq, e9]) hB (by simpa [partsL] using hP)
  | succ m ih =>
    intro i els v acc s h Q hi hel hB hP hs e0 e1 e8 e9 e29 e30 e31 hQ
    have c : ((i : Nat) : Int) < (ps.length : Int) := by omega
    obtain ⟨cp, b, he, hb, hc⟩ := hps.get (i := i) (by omega)
    have hd : ps.drop i = b :: ps.drop (i + 1) := by
      obtain ⟨la, rfl⟩ := List.getElem?_eq_some_iff.1 hb
      rw [List.drop_eq_getElem_cons la]
    rw [hd, partsL] at hQ
    obtain ⟨q, q1, _, _, q3⟩ := (hu.ext hB.ext).cell (k := .i64) he
    have q4 := q3 _ _ rfl
    have hwr : IntKind.i64.wrap ((i : Int) + 1) = ((i + 1 : Nat) : Int) := by rw [IntWalk.i64_in _ (by omega)]; omega
    obtain ⟨v47, h47, n47, w47, r47, S47⟩ := part_f47 (epoch := epoch) (n := n) (i := i) (of_ := ps.length) hc (hp49 b (List.mem_of_getElem? hb))
    obtain ⟨c47, rfl⟩ : ∃ c2, w47 = .cv c2 := by rcases S47 with ⟨rfl, _⟩ | ⟨ex, rfl⟩ <;> exact ⟨_, rfl⟩
    have m1 : ∀ h : Heap, mkO h 1 1 [.cv (.sc (.slice none 0 0))] [(0, 1, .cv c47)] = some (.cv (.sl 1 [[c47]] true), h) := fun _ => rfl
    have hln := (hu.ext hB.ext).ln
    rw [hpl] at hln
    rw [X_loop, X_eq f24_2.eq_1]
    simp only [go_sem, Nat.reduceLT, Nat.reduceEqDiff, reduceCtorEq, Int.reduceLT, Int.reduceEq, hs, e31, e30]
    rw [X_eq f24_1.eq_1]
    simp only [go_sem, Nat.reduceLT, Nat.reduceEqDiff, reduceCtorEq, Int.reduceLT, Int.reduceEq, hs, c, e29, e31, q1, q4, e0, e1, e8, e9, hln]
    refine XO_callP (h1 := h) (by simp only [List.map, go_sem, Nat.reduceLT, Nat.reduceEqDiff, reduceCtorEq, Int.reduceLT, Int.reduceEq, hs]; exact clos_cv (clos_cv (clos_cv (clos_cv (hc.clos rfl))))) n47 r47 ?_
    simp only [go_sem, Nat.reduceLT, Nat.reduceEqDiff, reduceCtorEq, Int.reduceLT, Int.reduceEq, hs, m1]
    refine XO_appNB hB (new := [[c47]]) (by simp only [go_sem, Nat.reduceLT, Nat.reduceEqDiff, reduceCtorEq, Int.reduceLT, Int.reduceEq, hs]) (by simp only [go_sem, Nat.reduceLT, Nat.reduceEqDiff, reduceCtorEq, Int.reduceLT, Int.reduceEq, hs]) (by simp only [List.length_singleton]; omega) (by simp only [List.length_singleton]; omega) (fun v' h' hB' _ _ _ => ?_)
    simp only [go_sem, Nat.reduceLT, Nat.reduceEqDiff, reduceCtorEq, Int.reduceLT, Int.reduceEq, hs, e31, hwr]
    refine ih (i + 1) _ v' (acc ++ [partB epoch n i ps.length b]) _ _ Q (by omega) (by simp; omega) hB' (hP.snoc S47) (by simp only [slot_len, hs]) (by simp only [go_sem, Nat.reduceLT, Nat.reduceEqDiff, reduceCtorEq, Int.reduceLT, Int.reduceEq, e0]) (by simp only [go_sem, Nat.reduceLT, Nat.reduceEqDiff, reduceCtorEq, Int.reduceLT, Int.reduceEq, e1]) (by simp only [go_sem, Nat.reduceLT, Nat.reduceEqDiff, reduceCtorEq, Int.reduceLT, Int.reduceEq, e8]) (by simp only [go_sem, Nat.reduceLT, Nat.reduceEqDiff, reduceCtorEq, Int.reduceLT, Int.reduceEq, hs]) (by simp only [go_sem, Nat.reduceLT, Nat.reduceEqDiff, reduceCtorEq, Int.reduceLT, Int.reduceEq, e29]) (by simp only [go_sem, Nat.reduceLT, Nat.reduceEqDiff, reduceCtorEq, Int.reduceLT, Int.reduceEq, e30]) (by simp only [go_sem, Nat.reduceLT, Nat.reduceEqDiff, reduceCtorEq, Int.reduceLT, Int.reduceEq, hs]) (fun s' h2 els' v2 a1 a2 a3 a4 => hQ s' h2 els' v2 a1 a2 a3 ?_)
    rw [List.append_assoc] at a4
    exact a4

theorem parts_f24 {epoch n : Int} {els : List (List CV)} {l : List Ch} {u : VV} (hS : SlV 3 els u) (hC : ChsE els l) (hl : (chsB l).length ≤ 1000000) (hk : l.length ≤ 1000000) : RetP F 24 [vi .i64 epoch, vi .i64 n, u] (PartsP (partsF epoch n l)) := by
  have : Ret F 24 [vi .i64 epoch, vi .i64 n, u] [] fun v g => ∃ w, closRes g v = some w ∧ PartsP (partsF epoch n l) w := by
    refine call_E (fn := f24) rfl ?_
    simp only [f24]
    generalize hs0 : ([vi .i64 epoch, vi .i64 n, u] ++ List.replicate _ VV.undef : List VV) = s
    have hs : s.length = 48 := by rw [← hs0]; rfl
    have h0 : s.getD 0 .undef = vi .i64 epoch := by rw [← hs0]; rfl
    have h1 : s.getD 1 .undef = vi .i64 n := by rw [← hs0]; rfl
    have h2 : s.getD 2 .undef = u := by rw [← hs0]; rfl
    clear hs0
    obtain ⟨v46, h46, n46, B46⟩ := chs_f46 els l u hS hC [] (by omega) (by omega)
    obtain ⟨w46, r46, S46⟩ : ∃ w, closRes h46 v46 = some w ∧ SlV 1 (eB (chsB l)) w := by
      have := B46.close
      exact ⟨_, this, slV_SlV⟩
    obtain ⟨h42a, n42a⟩ := number_f42 epoch
    obtain ⟨h42b, n42b⟩ := number_f42 n
    have n45 : call F 45 [w46, vi .i64 49] [] = some (.ret (.func 56 [.ptr 0 0, .ptr 1 0]), [VO.box [w46] false, .box [vi .i64 49] false]) := by
      have : Ret F 45 [w46, vi .i64 49] [] fun v g => v = .func 56 [.ptr 0 0, .ptr 1 0] ∧ g = [VO.box [w46] false, .box [vi .i64 49] false] := by
        refine call_E (fn := f45) rfl ?_
        simp only [f45]
        generalize hs0 : ([w46, vi .i64 49] ++ List.replicate _ VV.undef : List VV) = s
        have hs : s.length = 9 := by rw [← hs0]; rfl
        have h0 : s.getD 0 .undef = w46 := by rw [← hs0]; rfl
        have h1 : s.getD 1 .undef = vi .i64 49 := by rw [← hs0]; rfl
        clear hs0
        have cw : isCell w46 = true := by rcases S46 with ⟨rfl, _⟩ | ⟨ex, rfl⟩ <;> rfl
        simp only [go_sem, Nat.reduceLT, Nat.reduceEqDiff, reduceCtorEq, Int.reduceLT, Int.reduceEq, hs, h0]
        rw [bx_1 cw]
        simp only [go_sem, Nat.reduceLT, Nat.reduceEqDiff, reduceCtorEq, Int.reduceLT, Int.reduceEq, hs, h1]
        rw [bx_1 rfl]
        have l1 : ldO ([VO.box [w46] false, VO.box [vi .i64 49] false] : Heap) false 1 (.ptr 1 0) = some (vi .i64 49, [VO.box [w46] false, VO.box [vi .i64 49] false]) := ld_p0 rfl
        simp only [go_sem, Nat.reduceLT, Nat.reduceEqDiff, reduceCtorEq, Int.reduceLT, Int.reduceEq, hs, List.nil_append, List.cons_append, List.length_nil, List.length_cons, Nat.zero_add, Nat.reduceAdd]
        rw [X_eq f45_0.eq_1]
        simp only [go_sem, Nat.reduceLT, Nat.reduceEqDiff, reduceCtorEq, Int.reduceLT, Int.reduceEq, hs, l1, show ¬ (49 : Int) < 1 by decide, List.map]
        exact ⟨trivial, trivial⟩
      obtain ⟨v, h', e1, rfl, rfl⟩ := this
      exact e1
    obtain ⟨v44, h44, n44, elsP, B44, P44⟩ := collect_f44 S46 (by omega) (h := [VO.box [w46] false, .box [vi .i64 49] false]) (k := 49) (N := 0) (by omega) (by omega) rfl rfl rfl
    have hpl := P44.len
    have hln := B44.vf.ln
    rw [hpl] at hln
    simp only [go_sem, Nat.reduceLT, Nat.reduceEqDiff, reduceCtorEq, Int.reduceLT, Int.reduceEq, hs, h2]
    refine XO_callP (h1 := []) (by simp only [List.map, go_sem, Nat.reduceLT, Nat.reduceEqDiff, reduceCtorEq, Int.reduceLT, Int.reduceEq, hs]; exact hS.clos rfl) n46 r46 ?_
    simp only [go_sem, Nat.reduceLT, Nat.reduceEqDiff, reduceCtorEq, Int.reduceLT, Int.reduceEq, hs]
    refine XO_callR (by simp only [List.map, go_sem, Nat.reduceLT, Nat.reduceEqDiff, reduceCtorEq, Int.reduceLT, Int.reduceEq, hs]; exact n45) ?_
    simp only [go_sem, Nat.reduceLT, Nat.reduceEqDiff, reduceCtorEq, Int.reduceLT, Int.reduceEq, hs]
    refine XO_callR (by simp only [List.map, go_sem, Nat.reduceLT, Nat.reduceEqDiff, reduceCtorEq, Int.reduceLT, Int.reduceEq, hs]; exact n44) ?_
    simp only [go_sem, Nat.reduceLT, Nat.reduceEqDiff, reduceCtorEq, Int.reduceLT, Int.reduceEq, hs]
    rw [X_eq f24_0.eq_1]
    simp only [go_sem, Nat.reduceLT, Nat.reduceEqDiff, reduceCtorEq, Int.reduceLT, Int.reduceEq, hs, h0]
    refine XO_callP (h1 := h44) (by simp only [List.map, go_sem, Nat.reduceLT, Nat.reduceEqDiff, reduceCtorEq, Int.reduceLT, Int.reduceEq, hs]; rfl) n42a rfl ?_
    have bad : ∀ g, partsF epoch n l = none → ∃ w, closRes g (.tup [nilS, vb false]) = some w ∧ PartsP (partsF epoch n l) w := fun g e => ⟨_, rfl, by rw [e]; rfl⟩
    by_cases c1 : numOK epoch = true
    · simp only [go_sem, Nat.reduceLT, Nat.reduceEqDiff, reduceCtorEq, Int.reduceLT, Int.reduceEq, hs, c1, h1]
      refine XO_callP (h1 := h44) (by simp only [List.map, go_sem, Nat.reduceLT, Nat.reduceEqDiff, reduceCtorEq, Int.reduceLT, Int.reduceEq, hs]; rfl) n42b rfl ?_
      by_cases c2 : numOK n = true
      · obtain ⟨e1, e2⟩ := numOK_nat c1
        obtain ⟨e3, e4⟩ := numOK_nat c2
        by_cases c3 : (200 : Int) < ((pcs 49 (chsB l)).length : Int)
        · simp only [go_sem, Nat.reduceLT, Nat.reduceEqDiff, reduceCtorEq, Int.reduceLT, Int.reduceEq, hs, c2, hln, gt_iff_lt, c3]
          exact bad _ (by unfold partsF; rw [if_neg (by omega)])
        · simp only [go_sem, Nat.reduceLT, Nat.reduceEqDiff, reduceCtorEq, Int.reduceLT, Int.reduceEq, hs, c2, hln, gt_iff_lt, c3]
          refine f24_loop (h0 := h44) P44 B44.vf (fun p hp => pcs_part p hp) (by omega) (pcs 49 (chsB l)).length 0 [] nilS [] _ _ _ (by omega) (by simp) (NB.nil _ _) .nil (by simp only [slot_len, hs]) (by simp only [go_sem, Nat.reduceLT, Nat.reduceEqDiff, reduceCtorEq, Int.reduceLT, Int.reduceEq, h0]; exact congrArg _ e1) (by simp only [go_sem, Nat.reduceLT, Nat.reduceEqDiff, reduceCtorEq, Int.reduceLT, Int.reduceEq, h1]; exact congrArg _ e3) (by simp only [go_sem, Nat.reduceLT, Nat.reduceEqDiff, reduceCtorEq, Int.reduceLT, Int.reduceEq, hs]) (by simp only [go_sem, Nat.reduceLT, Nat.reduceEqDiff, reduceCtorEq, Int.reduceLT, Int.reduceEq, hs]) (by simp only [go_sem, Nat.reduceLT, Nat.reduceEqDiff, reduceCtorEq, Int.reduceLT, Int.reduceEq, hs]) (by simp only [go_sem, Nat.reduceLT, Nat.reduceEqDiff, reduceCtorEq, Int.reduceLT, Int.reduceEq, hs]) (by simp only [go_sem, Nat.reduceLT, Nat.reduceEqDiff, reduceCtorEq, Int.reduceLT, Int.reduceEq, hs]; rfl) (fun s' h' els' v' a1 a2 a3 a4 => ?_)
          obtain ⟨w, r1, r2⟩ : ∃ w, closRes h' (.tup [v', vb true]) = some (.tup [w, vb true]) ∧ SlV 1 els' w := by
            obtain ⟨w, g, d1, d2⟩ := a3.clos
            exact ⟨w, by simp only [closRes, closAs_cons d1 (clos_cv clos_nil), Option.map], d2⟩
          simp only [go_sem, Nat.reduceLT, Nat.reduceEqDiff, reduceCtorEq, Int.reduceLT, Int.reduceEq, a1, a2]
          refine ⟨_, r1, ?_⟩
          have : partsF epoch n l = some (partsL epoch.toNat n.toNat (pcs 49 (chsB l)).length 0 (pcs 49 (chsB l))) := by
            unfold partsF; rw [if_pos ⟨c1, c2, by omega⟩]
          rw [this]
          exact ⟨w, els', rfl, r2, by simpa using a4⟩
      · have c2' : numOK n = false := by simpa using c2
        simp only [go_sem, Nat.reduceLT, Nat.reduceEqDiff, reduceCtorEq, Int.reduceLT, Int.reduceEq, hs, c2']
        exact bad _ (by unfold partsF; rw [if_neg (by simp [c2'])])
    · have c1' : numOK epoch = false := by simpa using c1
      simp only [go_sem, Nat.reduceLT, Nat.reduceEqDiff, reduceCtorEq, Int.reduceLT, Int.reduceEq, hs, c1']
      exact bad _ (by unfold partsF; rw [if_neg (by simp [c1'])])
  obtain ⟨v, g, n1, w, e1, e2⟩ := this
  exact ⟨v, g, n1, w, e1, e2⟩
end Go.V07

set_option linter.unusedSimpArgs false
set_option linter.unusedVariables false
namespace Go.V07
open Go Go.Vm

end Go.V07

set_option linter.unusedSimpArgs false
set_option linter.unusedVariables false
namespace Go.V07
open Go Go.Vm

/-! ### a frame -/
def kOf (b : List UInt8) : Nat := (b.getD 10 0).toNat
def ofOf (b : List UInt8) : Nat := (b.getD 9 0).toNat
def bodyOf (b : List UInt8) : List UInt8 := (b.drop 11).take (kOf b)
def stepOK (epoch n i of_ : Nat) (b : List UInt8) : Prop :=
  b.length = 64 ∧ 1 ≤ kOf b ∧ kOf b ≤ 49 ∧ 1 ≤ of_ ∧ of_ ≤ 200 ∧ (of_ ≤ i + 1 ∨ kOf b = 49) ∧ partB epoch n i of_ (bodyOf b) = b
instance {epoch n i of_ : Nat} {b : List UInt8} : Decidable (stepOK epoch n i of_ b) := by unfold stepOK; infer_instance
def frL (epoch n of_ : Nat) : Nat → Nat → List (List UInt8) → List UInt8 → Option (List UInt8)
  | 0, _, _, acc => some acc
  | m + 1, i, ss, acc => match ss with
    | [] => none
    | b :: r => if stepOK epoch n i of_ b then (if i + 1 < of_ then frL epoch n of_ m (i + 1) r (acc ++ bodyOf b) else some (acc ++ bodyOf b)) else none
theorem body_len {b : List UInt8} (h : b.length = 64) (h2 : kOf b ≤ 49) : (bodyOf b).length = kOf b := by
  unfold bodyOf; rw [List.length_take, List.length_drop]; omega

/-- The code behind the loop. -/
def f43_t : IR :=
  (.seq
  (.seq (.reg [
  ⟨none, (some 89), (.mv (.t 8))⟩,
  ⟨none, (some 90), (.call 54 true [(.t 89)])⟩,
  ⟨none, (some 88), (.mv (.t 90))⟩,
  ⟨none, (some 91), (.ext (.t 88) 0)⟩,
  ⟨none, (some 92), (.ext (.t 88) 1)⟩,
  ⟨none, (some 9), (.mv (.t 91))⟩,
  ⟨none, (some 10), (.mv (.t 92))⟩])

  (.seq (.reg [
  ⟨none, (some 93), (.mv (.t 10))⟩,
  ⟨none, (some 94), (.bin .eql (.t 93) (.c (.cv (.sc (.int .u16 0)))))⟩])
  (.cond (.t 94)
  (.seq (.reg [
  ⟨none, (some 95), (.mv (.t 9))⟩,
  ⟨none, (some 96), (.mv (.t 12))⟩,
  ⟨none, (some 6), (.mv (.t 95))⟩,
  ⟨none, (some 7), (.mv (.t 96))⟩])
  .ret) .skip)))

  (.seq (.label 0)

  (.seq (.reg [
  ⟨none, (some 6), (.mv (.c (.cv (.sc (.slice none 0 0)))))⟩,
  ⟨none, (some 7), (.mv (.c (.cv (.sc (.int .i64 0)))))⟩])
  .ret)))
theorem get_u8 {b : List UInt8} {i : Nat} (h : i < b.length) : b[i]? = some (b.getD i 0) := by
  rw [List.getD_eq_getElem?_getD, List.getElem?_eq_getElem h]; rfl

section
variable {epoch n : Nat} {ss : List (List UInt8)} {elsS : List (List CV)} {u : VV} {h0 : Heap}
theorem f43_loop (hP : PgE elsS ss) (hu : VF h0 1 elsS u) {of_ : Nat} (hof : ∀ b, ss[0]? = some b → of_ = ofOf b) :
    ∀ (m i : Nat) (acc : List UInt8) (va : VV) (s : List VV) (h : Heap) (Q : Pst), m + i = 200 → (i = 0 ∨ (i < of_ ∧ of_ ≤ 200)) → i ≤ ss.length → acc.length ≤ 49 * i → NB h0 h 1 (eB acc) va →
      s.length = 97 → s.getD 0 .undef = vi .i64 epoch → s.getD 1 .undef = vi .i64 n → s.getD 2 .undef = u → s.getD 8 .undef = va → s.getD 11 .undef = vi .i64 i → (i = 0 ∧ s.getD 12 .undef = vi .i64 1 ∨ s.getD 12 .undef = vi .i64 of_) →
      (frL epoch n of_ m i (ss.drop i) acc = none → ∀ s' h', s'.length = 97 → s'.getD 6 .undef = nilS → s'.getD 7 .undef = vi .i64 0 → HExt h0 h' → Q .ret ⟨s', h'⟩) →
      (∀ all, frL epoch n of_ m i (ss.drop i) acc = some all → ∀ s' h' va', s'.length = 97 → s'.getD 8 .undef = va' → s'.getD 12 .undef = vi .i64 of_ → NB h0 h' 1 (eB all) va' → all.length ≤ 10000 → X F f43_t ⟨s', h'⟩ (S F f43_4 Q)) → XF F f43_4 1 ⟨s, h⟩ (S F f43_4 Q) := by
  intro m
  have hpl := hP.len
  induction m with
  | zero => intro i acc va s h Q hm hio; omega
  | succ m ih =>
    intro i acc va s h Q hm hio hile hac hB hs e0 e1 e2 e8 e11 e12 hN hY
    have bad : frL epoch n of_ (m + 1) i (ss.drop i) acc = none → ∀ s' h', s'.length = 97 → HExt h0 h' → S F f43_4 Q (.goto 0) ⟨s', h'⟩ := by
      intro hno s' h' hs' hx
      rw [S_goto rfl, XF_eq f43_4.eq_1, XF_seq2 rfl, XF_seq2 rfl, XF_seq2 rfl, XF_seq2 rfl, XF_seq2 rfl, XF_seq2 rfl, XF_seq2 rfl, XF_seq2 rfl, XF_seq2 rfl, XF_seq1 rfl, XF_label]
      simp only [go_sem, Nat.reduceLT, Nat.reduceEqDiff, reduceCtorEq, Int.reduceLT, Int.reduceEq, hs']
      exact hN hno _ h' (by simp only [slot_len, hs']) (by simp only [go_sem, Nat.reduceLT, Nat.reduceEqDiff, reduceCtorEq, Int.reduceLT, Int.reduceEq, hs']) (by simp only [go_sem, Nat.reduceLT, Nat.reduceEqDiff, reduceCtorEq, Int.reduceLT, Int.reduceEq, hs']) hx
    rw [XF_eq f43_4.eq_1, XF_seq2 rfl, XF_seq2 rfl, XF_seq2 rfl, XF_seq2 rfl, XF_seq1 rfl, XF_label]
    show X F (.seq f43_0 (.seq _ (.seq _ f43_t))) ⟨s, h⟩ _
    rw [X_seq, X_eq f43_0.eq_1]
    have hv := hu.ext hB.ext
    by_cases d0 : i = ss.length
    · have d0' : (i : Int) = (elsS.length : Int) := by omega
      simp only [go_sem, Nat.reduceLT, Nat.reduceEqDiff, reduceCtorEq, Int.reduceLT, Int.reduceEq, hs, e11, e2, hv.ln, d0']
      exact bad (by rw [d0, List.drop_length]; rfl) _ _ (by simp only [slot_len, hs]) hB.ext
    have d0' : ¬ (i : Int) = (elsS.length : Int) := by omega
    obtain ⟨cb, b, he, hb, hc⟩ := hP.get (i := i) (by omega)
    have hd : ss.drop i = b :: ss.drop (i + 1) := by
      obtain ⟨la, e⟩ := List.getElem?_eq_some_iff.1 hb
      rw [List.drop_eq_getElem_cons la, e]
    have hno : ¬ stepOK epoch n i of_ b → frL epoch n of_ (m + 1) i (ss.drop i) acc = none := fun hn => by rw [hd]; simp only [frL]; rw [if_neg hn]
    obtain ⟨q, q1, _, _, q3⟩ := hv.cell (k := .i64) he
    have q4 := q3 _ _ rfl
    by_cases d1 : b.length = 64
    · have d1' : ¬ ((b.length : Nat) : Int) ≠ 64 := by omega
      have i10 : ∀ g : Heap, iaO g 1 (.cv cb) (vi .i64 10) = some (.rptr (byteCell (b.getD 10 0)), g) := fun g => hc.ia (by omega) (by show (eB b)[10]? = _; exact eB_get (get_u8 (by omega)))
      have i9 : ∀ g : Heap, iaO g 1 (.cv cb) (vi .i64 9) = some (.rptr (byteCell (b.getD 9 0)), g) := fun g => hc.ia (by omega) (by show (eB b)[9]? = _; exact eB_get (get_u8 (by omega)))
      have k10 : ∀ g : Heap, ldO g false 1 (.rptr (byteCell (b.getD 10 0))) = some (vi .u8 (kOf b), g) := fun g => ld_rptr
      have k9 : ∀ g : Heap, ldO g false 1 (.rptr (byteCell (b.getD 9 0))) = some (vi .u8 (ofOf b), g) := fun g => ld_rptr
      have hk256 : kOf b < 256 := (b.getD 10 0).toNat_lt
      have ho256 : ofOf b < 256 := (b.getD 9 0).toNat_lt
      have wk : IntKind.i64.wrap (kOf b : Int) = (kOf b : Int) := IntWalk.i64_in _ (by omega)
      have wo : IntKind.i64.wrap (ofOf b : Int) = (ofOf b : Int) := IntWalk.i64_in _ (by omega)
      simp only [go_sem, Nat.reduceLT, Nat.reduceEqDiff, reduceCtorEq, Int.reduceLT, Int.reduceEq, hs, e11, e2, hv.ln, d0', q1, q4, hc.ln, eB_len, d1', i10, k10, wk]
      refine mid (P := fun st => st.h = h ∧ st.s.length = 97 ∧ st.s.getD 0 .undef = vi .i64 epoch ∧ st.s.getD 1 .undef = vi .i64 n ∧ st.s.getD 2 .undef = u ∧ st.s.getD 8 .undef = va ∧ st.s.getD 11 .undef = vi .i64 i ∧ st.s.getD 12 .undef = vi .i64 of_ ∧ st.s.getD 13 .undef = .cv cb ∧ st.s.getD 14 .undef = vi .i64 (kOf b)) ?_ ?_
      · rw [X_eq f43_1.eq_1]
        by_cases d2 : i = 0
        · have d2' : ((i : Nat) : Int) = 0 := by omega
          have e : of_ = ofOf b := hof b (by rw [← d2]; exact hb)
          simp only [go_sem, Nat.reduceLT, Nat.reduceEqDiff, reduceCtorEq, Int.reduceLT, Int.reduceEq, hs, e11, d2', i9, k9, wo, e, e0, e1, e2, e8, and_self]
        · have d2' : ¬ ((i : Nat) : Int) = 0 := by omega
          have e : s.getD 12 .undef = vi .i64 of_ := by
            rcases e12 with ⟨e, _⟩ | e
            · exact absurd e d2
            · exact e
          simp only [go_sem, Nat.reduceLT, Nat.reduceEqDiff, reduceCtorEq, Int.reduceLT, Int.reduceEq, hs, e11, d2', e0, e1, e2, e8, e, and_self]
      · rintro ⟨s1, h1⟩ ⟨rfl, hs1, f0, f1, f2, f8, f11, f12, f13, f14⟩
        dsimp only at hs1 f0 f1 f2 f8 f11 f12 f13 f14
        rw [X_seq]
        have hof256 : of_ < 256 := by
          rcases hio with h | h
          · have := hof b (by rw [← h]; exact hb); omega
          · omega
        have wof : IntKind.i64.wrap ((of_ : Int) - 1) = (of_ : Int) - 1 := IntWalk.i64_in _ (by omega)
        by_cases g1 : (kOf b : Int) < 1
        · rw [X_eq f43_2.eq_1]
          simp only [go_sem, Nat.reduceLT, Nat.reduceEqDiff, reduceCtorEq, Int.reduceLT, Int.reduceEq, hs1, f14, g1]
          exact bad (hno (fun hh => by have := hh.2.1; omega)) _ _ (by simp only [slot_len, hs1]) hB.ext
        by_cases g2 : (49 : Int) < (kOf b : Int)
        · rw [X_eq f43_2.eq_1]
          simp only [go_sem, Nat.reduceLT, Nat.reduceEqDiff, reduceCtorEq, Int.reduceLT, Int.reduceEq, hs1, f14, g1, gt_iff_lt, g2]
          exact bad (hno (fun hh => by have := hh.2.2.1; omega)) _ _ (by simp only [slot_len, hs1]) hB.ext
        by_cases g3 : (of_ : Int) < 1
        · rw [X_eq f43_2.eq_1]
          simp only [go_sem, Nat.reduceLT, Nat.reduceEqDiff, reduceCtorEq, Int.reduceLT, Int.reduceEq, hs1, f14, f12, g1, gt_iff_lt, g2, g3]
          exact bad (hno (fun hh => by have := hh.2.2.2.1; omega)) _ _ (by simp only [slot_len, hs1]) hB.ext
        by_cases g4 : (200 : Int) < (of_ : Int)
        · rw [X_eq f43_2.eq_1]
          simp only [go_sem, Nat.reduceLT, Nat.reduceEqDiff, reduceCtorEq, Int.reduceLT, Int.reduceEq, hs1, f14, f12, g1, gt_iff_lt, g2, g3, g4]
          exact bad (hno (fun hh => by have := hh.2.2.2.2.1; omega)) _ _ (by simp only [slot_len, hs1]) hB.ext
        have w11 : IntKind.i64.wrap (11 + (kOf b : Int)) = ((11 + kOf b : Nat) : Int) := by rw [IntWalk.i64_in _ (by omega)]; omega
        have hbl := body_len d1 (by omega)
        have wi1 : IntKind.i64.wrap ((i : Int) + 1) = ((i + 1 : Nat) : Int) := by rw [IntWalk.i64_in _ (by omega)]; omega
        obtain ⟨wp, sp, psl⟩ : ∃ v', SlV 1 (eB (bodyOf b)) v' ∧ ∀ g : Heap, slO g 1 (.cv cb) (some (vi .i64 11)) (some (vi .i64 ((11 + kOf b : Nat) : Int))) none = some (v', g) := by
          rcases hc with ⟨e, e'⟩ | ⟨ex, e'⟩
          · exfalso
            have := congrArg List.length e'
            rw [eB_len, List.length_nil] at this; omega
          · cases e'
            refine ⟨.cv (.sl 1 (eB (bodyOf b)) (ex && (11 + kOf b == (eB b).length))), .inr ⟨_, rfl⟩, fun g => ?_⟩
            have e1 : (11 : Int) ≤ ((11 + kOf b : Nat) : Int) := by omega
            have e2 : ((11 + kOf b : Nat) : Int) ≤ ((eB b).length : Int) := by rw [eB_len]; omega
            have e3 : ((11 + kOf b : Nat) : Int).toNat = 11 + kOf b := by omega
            have e4 : (0 : Int) ≤ ((11 + kOf b : Nat) : Int) := by omega
            have e5 : (11 : Int) ≤ max ((11 + kOf b : Nat) : Int) 0 := by omega
            simp only [slO, stepI, rhoO, lenV, bnd, intV, Option.map_some, Option.map_none]
            rw [if_pos ⟨e4, e2⟩, e3]
            simp only
            rw [if_pos ⟨by decide, e1⟩]
            simp [eB_part, bodyOf]
        obtain ⟨v47, h47, n47, w47, r47, S47⟩ := part_f47 (epoch := epoch) (n := n) (i := i) (of_ := of_) sp (by rw [hbl]; omega)
        have neq := equal_f40 S47 hc
        by_cases hor : of_ ≤ i + 1 ∨ kOf b = 49
        · refine mid (P := fun st => st.h = h1 ∧ st.s.length = 97 ∧ st.s.getD 0 .undef = vi .i64 epoch ∧ st.s.getD 1 .undef = vi .i64 n ∧ st.s.getD 2 .undef = u ∧ st.s.getD 8 .undef = va ∧ st.s.getD 11 .undef = vi .i64 i ∧ st.s.getD 12 .undef = vi .i64 of_ ∧ st.s.getD 13 .undef = .cv cb ∧ st.s.getD 14 .undef = vi .i64 (kOf b)) ?_ ?_
          · rw [X_eq f43_2.eq_1]
            by_cases g5 : (i : Int) < (of_ : Int) - 1
            · have g6 : ¬ (kOf b : Int) < 49 := by omega
              simp only [go_sem, Nat.reduceLT, Nat.reduceEqDiff, reduceCtorEq, Int.reduceLT, Int.reduceEq, hs1, f14, f12, f11, g1, gt_iff_lt, g2, g3, g4, wof, g5, g6, f0, f1, f2, f8, f13, and_self]
            · simp only [go_sem, Nat.reduceLT, Nat.reduceEqDiff, reduceCtorEq, Int.reduceLT, Int.reduceEq, hs1, f14, f12, f11, g1, gt_iff_lt, g2, g3, g4, wof, g5, f0, f1, f2, f8, f13, and_self]
          rintro ⟨s2, h1'⟩ ⟨e, hs2, p0, p1, p2, p8, p11, p12, p13, p14⟩
          dsimp only at e hs2 p0 p1 p2 p8 p11 p12 p13 p14
          subst e
          simp only [go_sem, Nat.reduceLT, Nat.reduceEqDiff, reduceCtorEq, Int.reduceLT, Int.reduceEq, hs2]
          rw [X_eq f43_3.eq_1]
          simp only [go_sem, Nat.reduceLT, Nat.reduceEqDiff, reduceCtorEq, Int.reduceLT, Int.reduceEq, hs2, p0, p1, p11, p12, p13, p14, w11, psl]
          refine XO_callP (h1 := h1') (by simp only [List.map, go_sem, Nat.reduceLT, Nat.reduceEqDiff, reduceCtorEq, Int.reduceLT, Int.reduceEq, hs2]; exact clos_cv (clos_cv (clos_cv (clos_cv (sp.clos rfl))))) n47 r47 ?_
          simp only [go_sem, Nat.reduceLT, Nat.reduceEqDiff, reduceCtorEq, Int.reduceLT, Int.reduceEq, hs2, p13]
          refine XO_callP (h1 := h1') (by simp only [List.map, go_sem, Nat.reduceLT, Nat.reduceEqDiff, reduceCtorEq, Int.reduceLT, Int.reduceEq, hs2]; exact S47.clos (hc.clos rfl)) neq rfl ?_
          by_cases g5 : partB epoch n i of_ (bodyOf b) = b
          · have hok : stepOK epoch n i of_ b := ⟨d1, by omega, by omega, by omega, by omega, hor, g5⟩
            simp only [go_sem, Nat.reduceLT, Nat.reduceEqDiff, reduceCtorEq, Int.reduceLT, Int.reduceEq, hs2, g5, decide_true, p8, p13, p14, w11, psl]
            refine XO_appNB hB (new := eB (bodyOf b)) (by simp only [go_sem, Nat.reduceLT, Nat.reduceEqDiff, reduceCtorEq, Int.reduceLT, Int.reduceEq, hs2]) (by simp only [go_sem, Nat.reduceLT, Nat.reduceEqDiff, reduceCtorEq, Int.reduceLT, Int.reduceEq, hs2]; exact sp.src) (by rw [eB_len, eB_len]; omega) (by rw [eB_len, eB_len]; omega) (fun v' h' hB' _ _ _ => ?_)
            rw [← eB_append] at hB'
            have hfr : frL epoch n of_ (m + 1) i (ss.drop i) acc = if i + 1 < of_ then frL epoch n of_ m (i + 1) (ss.drop (i + 1)) (acc ++ bodyOf b) else some (acc ++ bodyOf b) := by
              rw [hd]; simp only [frL]; rw [if_pos hok]
            rw [hfr] at hN hY
            simp only [go_sem, Nat.reduceLT, Nat.reduceEqDiff, reduceCtorEq, Int.reduceLT, Int.reduceEq, hs2, p11, p12, wi1]
            by_cases g6 : i + 1 < of_
            · have g6' : ((i + 1 : Nat) : Int) < (of_ : Int) := by omega
              rw [if_pos g6] at hN hY
              simp only [go_sem, Nat.reduceLT, Nat.reduceEqDiff, reduceCtorEq, Int.reduceLT, Int.reduceEq, hs2, g6']
              rw [S_goto rfl]
              exact ih (i + 1) (acc ++ bodyOf b) v' _ _ Q (by omega) (.inr ⟨g6, by omega⟩) (by omega) (by rw [List.length_append]; omega) hB' (by simp only [slot_len, hs2]) (by simp only [go_sem, Nat.reduceLT, Nat.reduceEqDiff, reduceCtorEq, Int.reduceLT, Int.reduceEq, p0]) (by simp only [go_sem, Nat.reduceLT, Nat.reduceEqDiff, reduceCtorEq, Int.reduceLT, Int.reduceEq, p1]) (by simp only [go_sem, Nat.reduceLT, Nat.reduceEqDiff, reduceCtorEq, Int.reduceLT, Int.reduceEq, p2]) (by simp only [go_sem, Nat.reduceLT, Nat.reduceEqDiff, reduceCtorEq, Int.reduceLT, Int.reduceEq, hs2]) (by simp only [go_sem, Nat.reduceLT, Nat.reduceEqDiff, reduceCtorEq, Int.reduceLT, Int.reduceEq, hs2]) (.inr (by simp only [go_sem, Nat.reduceLT, Nat.reduceEqDiff, reduceCtorEq, Int.reduceLT, Int.reduceEq, p12])) hN hY
            · have g6' : ¬ ((i + 1 : Nat) : Int) < (of_ : Int) := by omega
              rw [if_neg g6] at hN hY
              simp only [go_sem, Nat.reduceLT, Nat.reduceEqDiff, reduceCtorEq, Int.reduceLT, Int.reduceEq, hs2, g6']
              exact hY _ rfl _ _ v' (by simp only [slot_len, hs2]) (by simp only [go_sem, Nat.reduceLT, Nat.reduceEqDiff, reduceCtorEq, Int.reduceLT, Int.reduceEq, hs2]) (by simp only [go_sem, Nat.reduceLT, Nat.reduceEqDiff, reduceCtorEq, Int.reduceLT, Int.reduceEq, p12]) hB' (by rw [List.length_append]; omega)
          · simp only [go_sem, Nat.reduceLT, Nat.reduceEqDiff, reduceCtorEq, Int.reduceLT, Int.reduceEq, hs2, g5, decide_false]
            exact bad (hno (fun hh => g5 hh.2.2.2.2.2.2)) _ _ (by simp only [slot_len, hs2]) hB.ext
        · have g5 : (i : Int) < (of_ : Int) - 1 := by omega
          have g6 : (kOf b : Int) < 49 := by omega
          rw [X_eq f43_2.eq_1]
          simp only [go_sem, Nat.reduceLT, Nat.reduceEqDiff, reduceCtorEq, Int.reduceLT, Int.reduceEq, hs1, f14, f12, f11, g1, gt_iff_lt, g2, g3, g4, wof, g5, g6]
          exact bad (hno (fun hh => hor hh.2.2.2.2.2.1)) _ _ (by simp only [slot_len, hs1]) hB.ext
    · have d1' : ((b.length : Nat) : Int) ≠ 64 := by omega
      simp only [go_sem, Nat.reduceLT, Nat.reduceEqDiff, reduceCtorEq, Int.reduceLT, Int.reduceEq, hs, e11, e2, hv.ln, d0', q1, q4, hc.ln, eB_len, d1']
      exact bad (hno (fun hh => d1 hh.1)) _ _ (by simp only [slot_len, hs]) hB.ext
end
end Go.V07

set_option linter.unusedSimpArgs false
set_option linter.unusedVariables false
namespace Go.V07
open Go Go.Vm

def ofS (ss : List (List UInt8)) : Nat := match ss with
  | [] => 0
  | b :: _ => ofOf b
def frameB (epoch n : Nat) (ss : List (List UInt8)) : Option (List UInt8) := frL epoch n (ofS ss) 200 0 ss []
def frameF (epoch n : Nat) (ss : List (List UInt8)) : List (List CV) × Nat := match frameB epoch n ss with
  | none => ([], 0)
  | some all => if (wholeB (getCh all) all).2 = 0 then ((wholeB (getCh all) all).1, ofS ss) else ([], 0)

/-- What a frame's reading tells. -/
def FrameP (r : List (List CV) × Nat) (w : VV) : Prop := ∃ x, w = .tup [x, vi .i64 (r.2 : Nat)] ∧ SlV 3 r.1 x

section
variable {epoch n : Nat} {ss : List (List UInt8)} {elsS : List (List CV)} {u : VV} {h : Heap}
theorem frame_f43 (hP : PgE elsS ss) (hu : VF h 1 elsS u) : Ret F 43 [vi .i64 epoch, vi .i64 n, u] h fun v g => HExt h g ∧ FrameP (frameF epoch n ss) v := by
  refine call_E (fn := f43) rfl ?_
  simp only [f43]
  generalize hs0 : ([vi .i64 epoch, vi .i64 n, u] ++ List.replicate _ VV.undef : List VV) = s
  have hs : s.length = 97 := by rw [← hs0]; rfl
  have h0 : s.getD 0 .undef = vi .i64 epoch := by rw [← hs0]; rfl
  have h1 : s.getD 1 .undef = vi .i64 n := by rw [← hs0]; rfl
  have h2 : s.getD 2 .undef = u := by rw [← hs0]; rfl
  clear hs0
  have hof : ∀ b, ss[0]? = some b → ofS ss = ofOf b := by
    intro b hb
    cases ss with
    | nil => cases hb
    | cons c r => cases hb; rfl
  have key : ∀ (s : List VV), s.length = 97 → s.getD 0 .undef = vi .i64 epoch → s.getD 1 .undef = vi .i64 n → s.getD 2 .undef = u → s.getD 8 .undef = nilS → s.getD 11 .undef = vi .i64 0 → s.getD 12 .undef = vi .i64 1 →
      XF F f43_4 1 ⟨s, h⟩ (S F f43_4 (RQ [.t 6, .t 7] fun v g => HExt h g ∧ FrameP (frameF epoch n ss) v)) := by
    intro s hs e0 e1 e2 e8 e11 e12
    refine f43_loop (of_ := ofS ss) hP hu hof 200 0 [] nilS s h _ rfl (.inl rfl) (by omega) (by simp) (NB.nil _ _) hs e0 e1 e2 e8 e11 (.inl ⟨rfl, e12⟩) ?_ ?_
    · intro hno s' h' hs' e6 e7 hx
      rw [List.drop_zero] at hno
      have hf : frameF epoch n ss = ([], 0) := by unfold frameF frameB; rw [hno]
      simp only [go_sem, Nat.reduceLT, Nat.reduceEqDiff, reduceCtorEq, Int.reduceLT, Int.reduceEq, hs', e6, e7]
      exact ⟨hx, nilS, by rw [hf]; rfl, by rw [hf]; exact .inl ⟨rfl, rfl⟩⟩
    · intro all hso s' h' va' hs' e8' e12' hB hlen
      rw [List.drop_zero] at hso
      obtain ⟨w, h1, c1, c2, c3, _⟩ := hB.bsrc.cl
      obtain ⟨v54, h54, n54, r54⟩ := changes_f54 all w c2 (by omega)
      have r54' : closRes h54 v54 = some (.tup [slV 3 (wholeB (getCh all) all).1, vi .u16 (wholeB (getCh all) all).2]) := r54
      unfold f43_t
      simp only [go_sem, Nat.reduceLT, Nat.reduceEqDiff, reduceCtorEq, Int.reduceLT, Int.reduceEq, hs', e8']
      refine XO_callP (h1 := h1) (by simp only [List.map, go_sem, Nat.reduceLT, Nat.reduceEqDiff, reduceCtorEq, Int.reduceLT, Int.reduceEq, hs', e8']; exact c1) n54 r54' ?_
      by_cases d : (wholeB (getCh all) all).2 = 0
      · have d' : (((wholeB (getCh all) all).2 : Nat) : Int) = 0 := by omega
        have hf : frameF epoch n ss = ((wholeB (getCh all) all).1, ofS ss) := by unfold frameF frameB; rw [hso]; simp only; rw [if_pos d]
        simp only [go_sem, Nat.reduceLT, Nat.reduceEqDiff, reduceCtorEq, Int.reduceLT, Int.reduceEq, hs', d', e12']
        exact ⟨c3, _, by rw [hf], by rw [hf]; exact slV_SlV⟩
      · have d' : ¬ (((wholeB (getCh all) all).2 : Nat) : Int) = 0 := by omega
        have hf : frameF epoch n ss = ([], 0) := by unfold frameF frameB; rw [hso]; simp only; rw [if_neg d]
        simp only [go_sem, Nat.reduceLT, Nat.reduceEqDiff, reduceCtorEq, Int.reduceLT, Int.reduceEq, hs', d']
        exact ⟨c3, nilS, by rw [hf]; rfl, by rw [hf]; exact .inl ⟨rfl, rfl⟩⟩
  simp only [go_sem, Nat.reduceLT, Nat.reduceEqDiff, reduceCtorEq, Int.reduceLT, Int.reduceEq, hs]
  have k := key ((((((((s.set 6 nilS).set 7 (vi .i64 0)).set 8 nilS).set 9 nilS).set 10 (vi .u16 0)).set 11 (vi .i64 0)).set 12 (vi .i64 1))) (by simp only [slot_len, hs]) (by simp only [go_sem, Nat.reduceLT, Nat.reduceEqDiff, reduceCtorEq, Int.reduceLT, Int.reduceEq, h0]) (by simp only [go_sem, Nat.reduceLT, Nat.reduceEqDiff, reduceCtorEq, Int.reduceLT, Int.reduceEq, h1]) (by simp only [go_sem, Nat.reduceLT, Nat.reduceEqDiff, reduceCtorEq, Int.reduceLT, Int.reduceEq, h2]) (by simp only [go_sem, Nat.reduceLT, Nat.reduceEqDiff, reduceCtorEq, Int.reduceLT, Int.reduceEq, hs]) (by simp only [go_sem, Nat.reduceLT, Nat.reduceEqDiff, reduceCtorEq, Int.reduceLT, Int.reduceEq, hs]) (by simp only [go_sem, Nat.reduceLT, Nat.reduceEqDiff, reduceCtorEq, Int.reduceLT, Int.reduceEq, hs])
  rw [XF_eq f43_4.eq_1, XF_seq2 rfl, XF_seq2 rfl, XF_seq2 rfl, XF_seq2 rfl, XF_seq1 rfl, XF_label] at k
  rw [X_eq f43_4.eq_1]
  simp only [go_sem, Nat.reduceLT, Nat.reduceEqDiff, reduceCtorEq, Int.reduceLT, Int.reduceEq, hs] at k ⊢
  exact k
end

theorem frL_len {epoch n of_ : Nat} : ∀ (m i : Nat) (ss : List (List UInt8)) (acc all : List UInt8), i < of_ → of_ ≤ m + i → frL epoch n of_ m i ss acc = some all → of_ - i ≤ ss.length
  | 0, i, ss, acc, all, h1, h2, h => by omega
  | m + 1, i, [], acc, all, h1, h2, h => by simp [frL] at h
  | m + 1, i, b :: r, acc, all, h1, h2, h => by
    simp only [frL] at h
    split at h
    · split at h
      · rename_i g
        have := frL_len m (i + 1) r _ all g (by omega) h
        rw [List.length_cons]; omega
      · rw [List.length_cons]; omega
    · cases h
theorem frL_first {epoch n of_ m i : Nat} {b : List UInt8} {r : List (List UInt8)} {acc all : List UInt8} (h : frL epoch n of_ (m + 1) i (b :: r) acc = some all) : stepOK epoch n i of_ b := by
  simp only [frL] at h
  split at h
  · rename_i g; exact g
  · cases h
theorem frL_nil {epoch n of_ m i : Nat} {acc : List UInt8} : frL epoch n of_ (m + 1) i [] acc = none := rfl
theorem frameF_len {epoch n : Nat} {ss : List (List UInt8)} : (frameF epoch n ss).2 ≤ ss.length := by
  unfold frameF
  split
  · simp
  · rename_i all ha
    split
    · unfold frameB at ha
      cases ss with
      | nil => rw [show (200 : Nat) = 199 + 1 from rfl, frL_nil] at ha; cases ha
      | cons b r =>
        have ho : 1 ≤ ofS (b :: r) ∧ ofS (b :: r) ≤ 200 := by
          have g := frL_first (m := 199) ha
          exact ⟨g.2.2.2.1, g.2.2.2.2.1⟩
        have := frL_len 200 0 (b :: r) [] all (by omega) (by omega) ha
        simpa using this
    · simp

/-! ### all frames -/
inductive FrE : List (List CV) → List (List (List CV)) → Prop
  | nil : FrE [] []
  | cons {c : CV} {b : List (List CV)} {l : List (List CV)} {k : List (List (List CV))} (h : SlV 3 b (.cv c)) (t : FrE l k) : FrE ([c] :: l) (b :: k)
theorem FrE.len {l : List (List CV)} {k : List (List (List CV))} (h : FrE l k) : l.length = k.length := by
  induction h with
  | nil => rfl
  | cons _ _ ih => simp [ih]
theorem FrE.app {l m : List (List CV)} {k j : List (List (List CV))} (h : FrE l k) (h2 : FrE m j) : FrE (l ++ m) (k ++ j) := by
  induction h with
  | nil => exact h2
  | cons h _ ih => exact .cons h ih
theorem FrE.get {l : List (List CV)} {k : List (List (List CV))} (h : FrE l k) {i : Nat} (hi : i < k.length) : ∃ c b, l[i]? = some [c] ∧ k[i]? = some b ∧ SlV 3 b (.cv c) := by
  induction h generalizing i with
  | nil => simp at hi
  | cons h t ih =>
    cases i with
    | zero => exact ⟨_, _, rfl, rfl, h⟩
    | succ i => obtain ⟨c, b, h1, h2, h3⟩ := ih (i := i) (by simpa using hi); exact ⟨c, b, by simpa using h1, by simpa using h2, h3⟩

def rdA (epoch : Nat) : Nat → Nat → List (List UInt8) → List (List (List CV)) × Nat
  | 0, _, _ => ([], 0)
  | m + 1, n, ss => if (frameF epoch n ss).2 = 0 then ([], 0) else ((frameF epoch n ss).1 :: (rdA epoch m (n + 1) (ss.drop (frameF epoch n ss).2)).1, (frameF epoch n ss).2 + (rdA epoch m (n + 1) (ss.drop (frameF epoch n ss).2)).2)
def readF (epoch : Int) (ss : List (List UInt8)) : List (List (List CV)) × Nat := if numOK epoch = true then rdA epoch.toNat (ss.length + 1) 0 ss else ([], 0)
/-- What Read tells. -/
def ReadP (r : List (List (List CV)) × Nat) (w : VV) : Prop := ∃ x els, w = .tup [x, vi .i64 (r.2 : Nat)] ∧ SlV 1 els x ∧ FrE els r.1

theorem drop_pg {els : List (List CV)} {k : List (List UInt8)} (h : PgE els k) (n : Nat) : PgE (els.drop n) (k.drop n) := by
  induction h generalizing n with
  | nil => simp; exact .nil
  | cons h t ih =>
    cases n with
    | zero => exact .cons h t
    | succ n => exact ih n

section
variable {epoch : Int} {ss : List (List UInt8)} {elsS : List (List CV)} {u : VV} {h0 : Heap}
theorem f23_loop (hP : PgE elsS ss) (hu : VF h0 1 elsS u) (hl : ss.length ≤ 1000000000) (he : numOK epoch = true) :
    ∀ (m n at_ : Nat) (acc : List (List (List CV))) (els : List (List CV)) (va : VV) (s : List VV) (h : Heap) (Q : Pst), ss.length - at_ < m → n ≤ at_ → at_ ≤ ss.length → acc.length = n → NB h0 h 1 els va → FrE els acc →
      s.length = 33 → s.getD 0 .undef = vi .i64 epoch → s.getD 1 .undef = u → s.getD 6 .undef = va → s.getD 7 .undef = vi .i64 at_ →
      (∀ s' h' els' va', s'.length = 33 → s'.getD 6 .undef = va' → s'.getD 7 .undef = vi .i64 ((at_ + (rdA epoch.toNat m n (ss.drop at_)).2 : Nat) : Int) → NB h0 h' 1 els' va' → FrE els' (acc ++ (rdA epoch.toNat m n (ss.drop at_)).1) → Q (.exit 0) ⟨s', h'⟩) → X F (.loop f23_1) ⟨s, h⟩ Q := by
  intro m
  have hpl := hP.len
  obtain ⟨ee, ee2⟩ := numOK_nat he
  induction m with
  | zero => intro n at_ acc els va s h Q hm; omega
  | succ m ih =>
    intro n at_ acc els va s h Q hm hn hat hac hB hF hs e0 e1 e6 e7 hQ
    obtain ⟨h42, n42⟩ := number_f42 epoch
    rw [he] at n42
    have hfl := hF.len
    obtain ⟨w, w1, w2⟩ := (hu.ext hB.ext).from_ (k := .i64) (n := at_) (by omega)
    obtain ⟨v43, h43, n43, x43, cw, rfl, P43⟩ := frame_f43 (epoch := epoch.toNat) (n := n) (drop_pg hP at_) w2
    have hfle := frameF_len (epoch := epoch.toNat) (n := n) (ss := ss.drop at_)
    rw [List.length_drop] at hfle
    have e0' : s.getD 0 .undef = vi .i64 ((epoch.toNat : Nat) : Int) := by rw [e0]; exact congrArg _ ee
    have hB43 := hB.then x43
    rw [X_loop, X_eq f23_1.eq_1]
    simp only [go_sem, Nat.reduceLT, Nat.reduceEqDiff, reduceCtorEq, Int.reduceLT, Int.reduceEq, hs, e0]
    refine XO_callP (h1 := h) (by simp only [List.map, go_sem, Nat.reduceLT, Nat.reduceEqDiff, reduceCtorEq, Int.reduceLT, Int.reduceEq, hs]; rfl) n42 rfl ?_
    simp only [go_sem, Nat.reduceLT, Nat.reduceEqDiff, reduceCtorEq, Int.reduceLT, Int.reduceEq, hs, e0', e1, e6, e7, hB.ln, hfl, hac, w1]
    refine XO_callR (by simp only [List.map, go_sem, Nat.reduceLT, Nat.reduceEqDiff, reduceCtorEq, Int.reduceLT, Int.reduceEq, hs]; exact n43) ?_
    simp only [go_sem, Nat.reduceLT, Nat.reduceEqDiff, reduceCtorEq, Int.reduceLT, Int.reduceEq, hs]
    rw [X_eq f23_0.eq_1]
    have hr : rdA epoch.toNat (m + 1) n (ss.drop at_) = if (frameF epoch.toNat n (ss.drop at_)).2 = 0 then ([], 0) else ((frameF epoch.toNat n (ss.drop at_)).1 :: (rdA epoch.toNat m (n + 1) ((ss.drop at_).drop (frameF epoch.toNat n (ss.drop at_)).2)).1, (frameF epoch.toNat n (ss.drop at_)).2 + (rdA epoch.toNat m (n + 1) ((ss.drop at_).drop (frameF epoch.toNat n (ss.drop at_)).2)).2) := rfl
    rw [hr] at hQ
    generalize frameF epoch.toNat n (ss.drop at_) = fr at *
    by_cases d : fr.2 = 0
    · have d' : ((fr.2 : Nat) : Int) = 0 := by omega
      rw [if_pos d] at hQ
      simp only [go_sem, Nat.reduceLT, Nat.reduceEqDiff, reduceCtorEq, Int.reduceLT, Int.reduceEq, hs, d']
      refine hQ _ _ els va (by simp only [slot_len, hs]) (by simp only [go_sem, Nat.reduceLT, Nat.reduceEqDiff, reduceCtorEq, Int.reduceLT, Int.reduceEq, e6]) (by simp only [go_sem, Nat.reduceLT, Nat.reduceEqDiff, reduceCtorEq, Int.reduceLT, Int.reduceEq, e7]; rfl) hB43 (by simpa using hF)
    · have d' : ¬ ((fr.2 : Nat) : Int) = 0 := by omega
      rw [if_neg d] at hQ
      obtain ⟨cx, rfl⟩ : ∃ c2, cw = .cv c2 := by rcases P43 with ⟨rfl, _⟩ | ⟨ex, rfl⟩ <;> exact ⟨_, rfl⟩
      have m1 : ∀ h : Heap, mkO h 1 1 [.cv (.sc (.slice none 0 0))] [(0, 1, .cv cx)] = some (.cv (.sl 1 [[cx]] true), h) := fun _ => rfl
      have hwr : IntKind.i64.wrap ((at_ : Int) + (fr.2 : Int)) = ((at_ + fr.2 : Nat) : Int) := by rw [IntWalk.i64_in _ (by omega)]; omega
      simp only [go_sem, Nat.reduceLT, Nat.reduceEqDiff, reduceCtorEq, Int.reduceLT, Int.reduceEq, hs, d', e6, m1]
      refine XO_appNB hB43 (new := [[cx]]) (by simp only [go_sem, Nat.reduceLT, Nat.reduceEqDiff, reduceCtorEq, Int.reduceLT, Int.reduceEq, hs, e6]) (by simp only [go_sem, Nat.reduceLT, Nat.reduceEqDiff, reduceCtorEq, Int.reduceLT, Int.reduceEq, hs]) (by simp only [List.length_singleton]; omega) (by simp only [List.length_singleton]; omega) (fun v' h' hB' _ _ _ => ?_)
      simp only [go_sem, Nat.reduceLT, Nat.reduceEqDiff, reduceCtorEq, Int.reduceLT, Int.reduceEq, hs, e7, hwr]
      refine ih (n + 1) (at_ + fr.2) (acc ++ [fr.1]) _ v' _ _ Q (by omega) (by omega) (by omega) (by simp; omega) hB' (hF.app (.cons P43 .nil)) (by simp only [slot_len, hs]) (by simp only [go_sem, Nat.reduceLT, Nat.reduceEqDiff, reduceCtorEq, Int.reduceLT, Int.reduceEq, e0]) (by simp only [go_sem, Nat.reduceLT, Nat.reduceEqDiff, reduceCtorEq, Int.reduceLT, Int.reduceEq, e1]) (by simp only [go_sem, Nat.reduceLT, Nat.reduceEqDiff, reduceCtorEq, Int.reduceLT, Int.reduceEq, hs]) (by simp only [go_sem, Nat.reduceLT, Nat.reduceEqDiff, reduceCtorEq, Int.reduceLT, Int.reduceEq, hs]) (fun s' h2 els' va' a1 a2 a3 a4 a5 => hQ s' h2 els' va' a1 a2 ?_ a4 ?_)
      · rw [a3, List.drop_drop, Nat.add_assoc]
      · rw [List.append_assoc] at a5
        rw [List.drop_drop]; exact a5

theorem read_f23 (hP : PgE elsS ss) (hu : VF h0 1 elsS u) (hl : ss.length ≤ 1000000000) (epoch : Int) : Ret F 23 [vi .i64 epoch, u] h0 fun v g => ∃ va els, v = .tup [va, vi .i64 ((readF epoch ss).2 : Nat)] ∧ NB h0 g 1 els va ∧ FrE els (readF epoch ss).1 := by
  refine call_E (fn := f23) rfl ?_
  simp only [f23]
  generalize hs0 : ([vi .i64 epoch, u] ++ List.replicate _ VV.undef : List VV) = s
  have hs : s.length = 33 := by rw [← hs0]; rfl
  have h0 : s.getD 0 .undef = vi .i64 epoch := by rw [← hs0]; rfl
  have h1 : s.getD 1 .undef = u := by rw [← hs0]; rfl
  clear hs0
  simp only [go_sem, Nat.reduceLT, Nat.reduceEqDiff, reduceCtorEq, Int.reduceLT, Int.reduceEq, hs]
  by_cases he : numOK epoch = true
  · have hr : readF epoch ss = rdA epoch.toNat (ss.length + 1) 0 ss := by unfold readF; rw [if_pos he]
    rw [hr]
    refine f23_loop hP hu hl he (ss.length + 1) 0 0 [] [] nilS _ _ _ (by omega) (by omega) (by omega) rfl (NB.nil _ _) .nil (by simp only [slot_len, hs]) (by simp only [go_sem, Nat.reduceLT, Nat.reduceEqDiff, reduceCtorEq, Int.reduceLT, Int.reduceEq, h0]) (by simp only [go_sem, Nat.reduceLT, Nat.reduceEqDiff, reduceCtorEq, Int.reduceLT, Int.reduceEq, h1]) (by simp only [go_sem, Nat.reduceLT, Nat.reduceEqDiff, reduceCtorEq, Int.reduceLT, Int.reduceEq, hs]) (by simp only [go_sem, Nat.reduceLT, Nat.reduceEqDiff, reduceCtorEq, Int.reduceLT, Int.reduceEq, hs]; rfl) (fun s' h' els' va' a1 a2 a3 a4 a5 => ?_)
    rw [List.drop_zero] at a3 a5
    rw [Nat.zero_add] at a3
    simp only [go_sem, Nat.reduceLT, Nat.reduceEqDiff, reduceCtorEq, Int.reduceLT, Int.reduceEq, a1, a2, a3]
    exact ⟨va', els', rfl, a4, by simpa using a5⟩
  · have he' : numOK epoch = false := by simpa using he
    have hr : readF epoch ss = ([], 0) := by unfold readF; rw [if_neg he]
    obtain ⟨h42, n42⟩ := number_f42 epoch
    rw [he'] at n42
    rw [hr]
    rw [X_loop, X_eq f23_1.eq_1]
    simp only [go_sem, Nat.reduceLT, Nat.reduceEqDiff, reduceCtorEq, Int.reduceLT, Int.reduceEq, hs, h0]
    refine XO_callP (by simp only [List.map, go_sem, Nat.reduceLT, Nat.reduceEqDiff, reduceCtorEq, Int.reduceLT, Int.reduceEq, hs]; rfl) n42 rfl ?_
    simp only [go_sem, Nat.reduceLT, Nat.reduceEqDiff, reduceCtorEq, Int.reduceLT, Int.reduceEq, hs]
    exact ⟨nilS, [], rfl, NB.nil _ _, .nil⟩
theorem read_pure (hP : PgE elsS ss) (hu : SlV 1 elsS u) (hl : ss.length ≤ 1000000000) (epoch : Int) : RetP F 23 [vi .i64 epoch, u] (ReadP (readF epoch ss)) := by
  obtain ⟨v, g, n1, va, els, rfl, B, E⟩ := read_f23 (h0 := []) hP hu.vf hl epoch
  obtain ⟨w, g1, c1, c2⟩ := B.clos
  exact ⟨_, g, n1, .tup [w, vi .i64 ((readF epoch ss).2 : Nat)], by simp only [closRes, closAs_cons c1 (clos_cv clos_nil), Option.map], w, els, rfl, c2, E⟩
end
end Go.V07

set_option linter.unusedSimpArgs false
set_option linter.unusedVariables false
namespace Go.V07
open Go Go.Vm

theorem partB_of {epoch n i of_ : Nat} {p : List UInt8} : ofOf (partB epoch n i of_ p) = of_ % 256 := by
  simp [ofOf, partB, partR, sealB, wd, u8]
end Go.V07

set_option linter.unusedSimpArgs false
set_option linter.unusedVariables false
namespace Go.V07
open Go Go.Vm

section
variable {epoch n : Nat} {ss : List (List UInt8)} {elsS : List (List CV)} {u : VV}
end
end Go.V07

set_option linter.unusedSimpArgs false
set_option linter.unusedVariables false
namespace Go.V07
open Go Go.Vm

section
variable {epoch : Int} {ss : List (List UInt8)} {elsS : List (List CV)} {u : VV}
end
end Go.V07

set_option linter.unusedSimpArgs false
set_option linter.unusedVariables false
namespace Go.V07
open Go Go.Vm

/-! ### copies -/
theorem cloneB_f36 {b : List UInt8} {u : VV} (hu : SlV 1 (eB b) u) (hb : b.length ≤ 1000000000) : RetP F 36 [u] (SlV 1 (eB b)) := by
  have : Ret F 36 [u] [] fun v g => ∃ w, closRes g v = some w ∧ SlV 1 (eB b) w := by
    refine call_E (fn := f36) rfl ?_
    simp only [f36]
    generalize hs0 : ([u] ++ List.replicate _ VV.undef : List VV) = s
    have hs : s.length = 8 := by rw [← hs0]; rfl
    have h0 : s.getD 0 .undef = u := by rw [← hs0]; rfl
    clear hs0
    simp only [go_sem, Nat.reduceLT, Nat.reduceEqDiff, reduceCtorEq, Int.reduceLT, Int.reduceEq, hs]
    rw [X_eq f36_0.eq_1]
    rcases hu with ⟨rfl, e⟩ | ⟨ex, rfl⟩
    · simp only [go_sem, Nat.reduceLT, Nat.reduceEqDiff, reduceCtorEq, Int.reduceLT, Int.reduceEq, hs, h0]
      exact ⟨nilS, rfl, .inl ⟨rfl, e⟩⟩
    · have m0 : mkO ([] : Heap) 1 0 [] [] = some (.cv (.sl 1 [] true), []) := rfl
      simp only [go_sem, Nat.reduceLT, Nat.reduceEqDiff, reduceCtorEq, Int.reduceLT, Int.reduceEq, hs, h0, m0]
      refine XO_appPB (h0 := []) (els := []) (new := eB b) ⟨HExt.refl _, .inr (.inl ⟨rfl, rfl⟩)⟩ (by simp only [go_sem, Nat.reduceLT, Nat.reduceEqDiff, reduceCtorEq, Int.reduceLT, Int.reduceEq, hs]) (by simp only [go_sem, Nat.reduceLT, Nat.reduceEqDiff, reduceCtorEq, Int.reduceLT, Int.reduceEq, hs]) (by rw [eB_len, List.length_nil]; omega) (by rw [eB_len, List.length_nil]; omega) (fun v' h' B _ _ => ?_)
      simp only [go_sem, Nat.reduceLT, Nat.reduceEqDiff, reduceCtorEq, Int.reduceLT, Int.reduceEq, hs]
      obtain ⟨w, h1, c1, c2, _⟩ := B.vf.clos
      refine ⟨w, ?_, by simpa using c2⟩
      have hc := B.cellv
      cases v' with
      | tup l => simp [isCell] at hc
      | _ => simp only [closRes, c1, Option.map]
  obtain ⟨v, g, n1, w, e1, e2⟩ := this
  exact ⟨v, g, n1, w, e1, e2⟩

theorem cloneR_f30 {h : Heap} {els : List (List CV)} {u : VV} (hu : VF h 2 els u) (hb : els.length ≤ 1000000000) : Ret F 30 [u] h fun v g => PB h g 2 els v := by
  refine call_E (fn := f30) rfl ?_
  simp only [f30]
  generalize hs0 : ([u] ++ List.replicate _ VV.undef : List VV) = s
  have hs : s.length = 8 := by rw [← hs0]; rfl
  have h0 : s.getD 0 .undef = u := by rw [← hs0]; rfl
  clear hs0
  simp only [go_sem, Nat.reduceLT, Nat.reduceEqDiff, reduceCtorEq, Int.reduceLT, Int.reduceEq, hs]
  rw [X_eq f30_0.eq_1]
  have m0 : ∀ h : Heap, mkO h 2 0 [] [] = some (.cv (.sl 2 [] true), h) := fun _ => rfl
  have hu' := hu
  rcases hu with (⟨rfl, rfl⟩ | ⟨ex, rfl⟩) | ⟨id, g, off, ex, fr, full, rfl, a2, a3, a4⟩
  · simp only [go_sem, Nat.reduceLT, Nat.reduceEqDiff, reduceCtorEq, Int.reduceLT, Int.reduceEq, hs, h0]
    exact (NB.nil _ _).pb
  all_goals
    have hsrc := hu'.src
    simp only [go_sem, Nat.reduceLT, Nat.reduceEqDiff, reduceCtorEq, Int.reduceLT, Int.reduceEq, hs, h0, m0]
    refine XO_appPB (h0 := h) (els := []) (new := els) ⟨HExt.refl _, .inr (.inl ⟨rfl, rfl⟩)⟩ (by simp only [go_sem, Nat.reduceLT, Nat.reduceEqDiff, reduceCtorEq, Int.reduceLT, Int.reduceEq, hs]) (by simp only [go_sem, Nat.reduceLT, Nat.reduceEqDiff, reduceCtorEq, Int.reduceLT, Int.reduceEq, hs, h0]; first | done | exact hsrc) (by rw [List.length_nil]; omega) (by rw [List.length_nil]; omega) (fun v' h' B _ _ => ?_)
    simp only [go_sem, Nat.reduceLT, Nat.reduceEqDiff, reduceCtorEq, Int.reduceLT, Int.reduceEq, hs]
    simpa using B

/-! ### what is looked for among rows -/
/-- Where the first is; -1: there is none. -/
def idxF (p : KV → Bool) : Nat → List KV → Int
  | _, [] => -1
  | i, r :: l => if p r then (i : Int) else idxF p (i + 1) l

/-- A value that says of a row whether it is one, in heaps of which something is told. -/
structure Tells (B : Heap → Prop) (f : Nat) (caps : List VV) (p : KV → Bool) : Prop where
  lt : f < YB
  ext : ∀ h g : Heap, HExt h g → B h → B g
  set : ∀ (h : Heap) (id z : Nat) (els : List (List CV)) (g : Nat) (fr : Bool) (o : VO), h[id]? = some (.arr z els g fr) → B h → B (h.set id o)
  call : ∀ (h : Heap) (k l : List UInt8) (c : CV), B h → SlV 1 (eB l) (.cv c) → Ret F f ([.agg [txt k, .cv c]] ++ caps) h fun v g => v = vb (p (k, l)) ∧ HExt h g

theorem f33_loop {els : List (List CV)} {l : List KV} {u : VV} {h0 : Heap} {f : Nat} {caps : List VV} {p : KV → Bool} {B : Heap → Prop} (hu : VF h0 2 els u) (hR : RowsE els l) (hl : l.length ≤ 1000000000) (ht : Tells B f caps p) (hB : B h0) :
    ∀ (m i : Nat) (s : List VV) (h : Heap) (Q : Pst), i + m = l.length → HExt h0 h → s.length = 19 → s.getD 0 .undef = u → s.getD 1 .undef = .func f caps → s.getD 7 .undef = vi .i64 l.length → s.getD 8 .undef = vi .i64 i →
      (∀ s' h', s'.length = 19 → HExt h0 h' → idxF p i (l.drop i) = -1 → Q (.exit 0) ⟨s', h'⟩) → (∀ s' h', s'.length = 19 → HExt h0 h' → s'.getD 4 .undef = vi .i64 (idxF p i (l.drop i)) → Q .ret ⟨s', h'⟩) → X F (.loop f33_1) ⟨s, h⟩ Q := by
  intro m
  have hpl := hR.len
  induction m with
  | zero =>
    intro i s h Q hi hx hs e0 e1 e7 e8 hN hY
    have c : ¬ ((i : Nat) : Int) < (l.length : Int) := by omega
    have hd : l.drop i = [] := List.drop_eq_nil_of_le (by omega)
    rw [hd] at hN
    rw [X_loop, X_eq f33_1.eq_1]
    simp only [go_sem, Nat.reduceLT, Nat.reduceEqDiff, reduceCtorEq, Int.reduceLT, Int.reduceEq, hs, e8, e7]
    rw [X_eq f33_0.eq_1]
    simp only [go_sem, Nat.reduceLT, Nat.reduceEqDiff, reduceCtorEq, Int.reduceLT, Int.reduceEq, hs, c]
    exact hN _ _ (by simp only [slot_len, hs]) hx rfl
  | succ m ih =>
    intro i s h Q hi hx hs e0 e1 e7 e8 hN hY
    have c : ((i : Nat) : Int) < (l.length : Int) := by omega
    obtain ⟨e, r, he, hr, cc, rfl, hc⟩ := hR.get (i := i) (by omega)
    have hd : l.drop i = r :: l.drop (i + 1) := by
      obtain ⟨la, e⟩ := List.getElem?_eq_some_iff.1 hr
      rw [List.drop_eq_getElem_cons la, e]
    rw [hd, idxF] at hN hY
    obtain ⟨q, q1, q2, _, _⟩ := (hu.ext hx).cell (k := .i64) he
    have q2' := q2 2 rfl
    have hwr : IntKind.i64.wrap ((i : Int) + 1) = ((i + 1 : Nat) : Int) := by rw [IntWalk.i64_in _ (by omega)]; omega
    obtain ⟨v, g, n1, rfl, x1⟩ := ht.call h r.1 r.2 cc (ht.ext _ _ hx hB) hc
    rw [X_loop, X_eq f33_1.eq_1]
    simp only [go_sem, Nat.reduceLT, Nat.reduceEqDiff, reduceCtorEq, Int.reduceLT, Int.reduceEq, hs, e8, e7]
    rw [X_eq f33_0.eq_1]
    simp only [go_sem, Nat.reduceLT, Nat.reduceEqDiff, reduceCtorEq, Int.reduceLT, Int.reduceEq, hs, c, e8, e1, e0, q1, q2', List.map]
    refine XO_callvR (f := f) (caps := caps) (by simp only [go_sem, Nat.reduceLT, Nat.reduceEqDiff, reduceCtorEq, Int.reduceLT, Int.reduceEq, hs]) (by simp only [List.map, go_sem, Nat.reduceLT, Nat.reduceEqDiff, reduceCtorEq, Int.reduceLT, Int.reduceEq, hs]; exact n1) ?_ ht.lt
    cases hp : p r with
    | true =>
      rw [if_pos hp] at hY
      simp only [go_sem, Nat.reduceLT, Nat.reduceEqDiff, reduceCtorEq, Int.reduceLT, Int.reduceEq, hs, show p (r.1, r.2) = true from hp]
      exact hY _ _ (by simp only [slot_len, hs]) (hx.trans x1) (by simp only [go_sem, Nat.reduceLT, Nat.reduceEqDiff, reduceCtorEq, Int.reduceLT, Int.reduceEq, hs])
    | false =>
      rw [if_neg (by rw [hp]; decide)] at hN hY
      simp only [go_sem, Nat.reduceLT, Nat.reduceEqDiff, reduceCtorEq, Int.reduceLT, Int.reduceEq, hs, show p (r.1, r.2) = false from hp, e8, hwr]
      exact ih (i + 1) _ _ Q (by omega) (hx.trans x1) (by simp only [slot_len, hs]) (by simp only [go_sem, Nat.reduceLT, Nat.reduceEqDiff, reduceCtorEq, Int.reduceLT, Int.reduceEq, e0]) (by simp only [go_sem, Nat.reduceLT, Nat.reduceEqDiff, reduceCtorEq, Int.reduceLT, Int.reduceEq, e1]) (by simp only [go_sem, Nat.reduceLT, Nat.reduceEqDiff, reduceCtorEq, Int.reduceLT, Int.reduceEq, e7]) (by simp only [go_sem, Nat.reduceLT, Nat.reduceEqDiff, reduceCtorEq, Int.reduceLT, Int.reduceEq, hs]) hN hY

theorem index_f33 {els : List (List CV)} {l : List KV} {u : VV} {h : Heap} {f : Nat} {caps : List VV} {p : KV → Bool} {B : Heap → Prop} (hu : VF h 2 els u) (hR : RowsE els l) (hl : l.length ≤ 1000000000) (ht : Tells B f caps p) (hB : B h) :
    Ret F 33 [u, .func f caps] h fun v g => v = vi .i64 (idxF p 0 l) ∧ HExt h g := by
  refine call_E (fn := f33) rfl ?_
  simp only [f33]
  generalize hs0 : ([u, .func f caps] ++ List.replicate _ VV.undef : List VV) = s
  have hs : s.length = 19 := by rw [← hs0]; rfl
  have h0 : s.getD 0 .undef = u := by rw [← hs0]; rfl
  have h1 : s.getD 1 .undef = .func f caps := by rw [← hs0]; rfl
  clear hs0
  have hpl := hR.len
  have hln := hu.ln
  rw [hpl] at hln
  simp only [go_sem, Nat.reduceLT, Nat.reduceEqDiff, reduceCtorEq, Int.reduceLT, Int.reduceEq, hs, h0, hln]
  refine f33_loop hu hR hl ht hB l.length 0 _ _ _ (by omega) (HExt.refl _) (by simp only [slot_len, hs]) (by simp only [go_sem, Nat.reduceLT, Nat.reduceEqDiff, reduceCtorEq, Int.reduceLT, Int.reduceEq, h0]) (by simp only [go_sem, Nat.reduceLT, Nat.reduceEqDiff, reduceCtorEq, Int.reduceLT, Int.reduceEq, h1]) (by simp only [go_sem, Nat.reduceLT, Nat.reduceEqDiff, reduceCtorEq, Int.reduceLT, Int.reduceEq, hs]) (by simp only [go_sem, Nat.reduceLT, Nat.reduceEqDiff, reduceCtorEq, Int.reduceLT, Int.reduceEq, hs]; rfl) (fun s' h' a1 a2 a3 => ?_) (fun s' h' a1 a2 a3 => ?_)
  · rw [List.drop_zero] at a3
    simp only [go_sem, Nat.reduceLT, Nat.reduceEqDiff, reduceCtorEq, Int.reduceLT, Int.reduceEq, a1, a3]
    exact ⟨trivial, a2⟩
  · rw [List.drop_zero] at a3
    simp only [go_sem, Nat.reduceLT, Nat.reduceEqDiff, reduceCtorEq, Int.reduceLT, Int.reduceEq, a1, a3]
    exact ⟨trivial, a2⟩
/-- The row's box, as it is. -/
def BoxAt (p : Nat) (key : List UInt8) (h : Heap) : Prop := ∃ c1 c2, h[p]? = some (.box [txt key, .cv c1, .cv c2] false)
theorem BoxAt.ext {p : Nat} {key : List UInt8} (h g : Heap) (e : HExt h g) (b : BoxAt p key h) : BoxAt p key g := by
  obtain ⟨c1, c2, b⟩ := b; exact ⟨c1, c2, e.get b⟩
theorem BoxAt.set {p : Nat} {key : List UInt8} (h : Heap) (id z : Nat) (els : List (List CV)) (g : Nat) (fr : Bool) (o : VO) (ho : h[id]? = some (.arr z els g fr)) (b : BoxAt p key h) : BoxAt p key (h.set id o) := by
  obtain ⟨c1, c2, b⟩ := b
  exact ⟨c1, c2, by rw [List.getElem?_set_ne (by rintro rfl; rw [ho] at b; cases b)]; exact b⟩
/-- A row of this key; of a greater one. -/
theorem tells_f32 {p : Nat} {key : List UInt8} : Tells (BoxAt p key) 32 [.ptr p 0] (fun r => decide (r.1 = key)) := by
  refine ⟨by decide, BoxAt.ext, BoxAt.set, fun h' k l c hx hc => ?_⟩
  obtain ⟨c1, c2, hp'⟩ := hx
  show Ret F 32 [.agg [txt k, .cv c], .ptr p 0] h' _
  refine call_E (fn := f32) rfl ?_
  simp only [f32]
  generalize hs0 : ([.agg [txt k, .cv c], .ptr p 0] ++ List.replicate _ VV.undef : List VV) = s
  have hs : s.length = 9 := by rw [← hs0]; rfl
  have h0 : s.getD 0 .undef = .agg [txt k, .cv c] := by rw [← hs0]; rfl
  have h1 : s.getD 1 .undef = .ptr p 0 := by rw [← hs0]; rfl
  clear hs0
  have x1 := HExt.push h' (.box [txt k, .cv c] false)
  have e1 : (h' ++ [VO.box [txt k, .cv c] false])[h'.length]? = some (.box [txt k, .cv c] false) := at_last
  have l1 : ldO (h' ++ [VO.box [txt k, .cv c] false]) false 1 (.ptr h'.length 0) = some (txt k, h' ++ [VO.box [txt k, .cv c] false]) := ld_ptr e1 rfl
  have l2 : ldO (h' ++ [VO.box [txt k, .cv c] false]) false 1 (.ptr p 0) = some (txt key, h' ++ [VO.box [txt k, .cv c] false]) := ld_ptr (x1.get hp') rfl
  simp only [go_sem, Nat.reduceLT, Nat.reduceEqDiff, reduceCtorEq, Int.reduceLT, Int.reduceEq, hs, h0, h1]
  rw [bx_agg (show [txt k, .cv c].length = 2 from rfl)]
  simp only [go_sem, Nat.reduceLT, Nat.reduceEqDiff, reduceCtorEq, Int.reduceLT, Int.reduceEq, hs, l1, l2, bo_eql, h1]
  exact ⟨trivial, x1⟩
theorem tells_f34 {p : Nat} {key : List UInt8} : Tells (BoxAt p key) 34 [.ptr p 0] (fun r => Op.bytesLess key r.1) := by
  refine ⟨by decide, BoxAt.ext, BoxAt.set, fun h' k l c hx hc => ?_⟩
  obtain ⟨c1, c2, hp'⟩ := hx
  show Ret F 34 [.agg [txt k, .cv c], .ptr p 0] h' _
  refine call_E (fn := f34) rfl ?_
  simp only [f34]
  generalize hs0 : ([.agg [txt k, .cv c], .ptr p 0] ++ List.replicate _ VV.undef : List VV) = s
  have hs : s.length = 9 := by rw [← hs0]; rfl
  have h0 : s.getD 0 .undef = .agg [txt k, .cv c] := by rw [← hs0]; rfl
  have h1 : s.getD 1 .undef = .ptr p 0 := by rw [← hs0]; rfl
  clear hs0
  have x1 := HExt.push h' (.box [txt k, .cv c] false)
  have e1 : (h' ++ [VO.box [txt k, .cv c] false])[h'.length]? = some (.box [txt k, .cv c] false) := at_last
  have l1 : ldO (h' ++ [VO.box [txt k, .cv c] false]) false 1 (.ptr h'.length 0) = some (txt k, h' ++ [VO.box [txt k, .cv c] false]) := ld_ptr e1 rfl
  have l2 : ldO (h' ++ [VO.box [txt k, .cv c] false]) false 1 (.ptr p 0) = some (txt key, h' ++ [VO.box [txt k, .cv c] false]) := ld_ptr (x1.get hp') rfl
  simp only [go_sem, Nat.reduceLT, Nat.reduceEqDiff, reduceCtorEq, Int.reduceLT, Int.reduceEq, hs, h0, h1]
  rw [bx_agg (show [txt k, .cv c].length = 2 from rfl)]
  simp only [go_sem, Nat.reduceLT, Nat.reduceEqDiff, reduceCtorEq, Int.reduceLT, Int.reduceEq, hs, l1, l2, bo_gtr, h1]
  exact ⟨trivial, x1⟩
end Go.V07

set_option linter.unusedSimpArgs false
set_option linter.unusedVariables false
namespace Go.V07
open Go Go.Vm

theorem idxF_spec (p : KV → Bool) : ∀ (l : List KV) (i : Nat), (idxF p i l = -1 ∧ ∀ r ∈ l, p r = false) ∨ ∃ k r, idxF p i l = ((i + k : Nat) : Int) ∧ l[k]? = some r ∧ p r = true ∧ ∀ r ∈ l.take k, p r = false
  | [], i => .inl ⟨rfl, fun r h => by simp at h⟩
  | r :: l, i => by
    unfold idxF
    cases hp : p r with
    | true => exact .inr ⟨0, r, by simp, rfl, hp, fun _ h => by simp at h⟩
    | false =>
      rw [if_neg (by decide)]
      rcases idxF_spec p l (i + 1) with ⟨e, h⟩ | ⟨k, q, e, h1, h2, h3⟩
      · refine .inl ⟨e, fun q hq => ?_⟩
        rcases List.mem_cons.1 hq with rfl | hq
        · exact hp
        · exact h q hq
      · refine .inr ⟨k + 1, q, by rw [e]; omega, by simpa using h1, h2, fun q hq => ?_⟩
        rw [List.take_succ_cons] at hq
        rcases List.mem_cons.1 hq with rfl | hq
        · exact hp
        · exact h3 q hq
theorem filter_none {p : KV → Bool} {l : List KV} (h : ∀ r ∈ l, p r = false) : l.filter (fun r => !p r) = l := by
  rw [List.filter_eq_self]
  intro r hr; rw [h r hr]; rfl

theorem XO_clrO {F : Nat → Option FnIR} {z id g off len : Nat} {zero : List CV} {x : Opd} {s : List VV} {h : Heap} {d : Option Nat} {r : List Op1} {Q : Pst} {ex : Bool} {full : List (List CV)} (hx : evalO s x = .own id g off len ex) (ho : h[id]? = some (.arr z full g false)) (hl : off + len ≤ full.length)
    (hk : XO F r ⟨putD s d .undef, h.set id (.arr z (splice full off (List.replicate len zero)) g false)⟩ Q) : XO F (⟨none, d, .clr z zero x⟩ :: r) ⟨s, h⟩ Q := by
  have e : stepI h (evalO s) (.clr z zero x) = some (.undef, h.set id (.arr z (splice full off (List.replicate len zero)) g false)) := by
    simp [stepI, hx, ho, hl]
  rw [XO_ins rfl, e, XV_some]
  exact hk
theorem rowE_len {e : List CV} {r : KV} (h : rowE e r) : e.length = 2 := by
  obtain ⟨c, rfl, _⟩ := h; rfl

section
variable {els : List (List CV)} {l : List KV} {h0 : Heap} {f : Nat} {caps : List VV} {p : KV → Bool} {B : Heap → Prop}
theorem f31_loop (hR : RowsE els l) (hl : l.length ≤ 1000000000) (ht : Tells B f caps p) {id g : Nat} (hid : h0.length ≤ id) :
    ∀ (m i j : Nat) (full elsK : List (List CV)) (s : List VV) (h : Heap) (Q : Pst), j + m = l.length → i ≤ j → HExt h0 h → B h → h[id]? = some (.arr 2 full g false) → l.length ≤ full.length → full.take i = elsK → elsK.length = i → RowsE elsK ((l.take j).filter (fun r => !p r)) → (∀ t, j ≤ t → t < l.length → full[t]? = els[t]?) → (∀ t, t < l.length → ∃ e, full[t]? = some e ∧ e.length = 2) →
      s.length = 42 → s.getD 0 .undef = .own id g 0 l.length false → s.getD 1 .undef = .func f caps → s.getD 5 .undef = vi .i64 i → s.getD 6 .undef = vi .i64 j →
      (∀ s' h' i' full' elsK', s'.length = 42 → HExt h0 h' → B h' → i' ≤ l.length → h'[id]? = some (.arr 2 full' g false) → l.length ≤ full'.length → full'.take i' = elsK' → elsK'.length = i' → RowsE elsK' (l.filter (fun r => !p r)) → s'.getD 0 .undef = .own id g 0 l.length false → s'.getD 5 .undef = vi .i64 i' → Q (.exit 0) ⟨s', h'⟩) → X F (.loop f31_1) ⟨s, h⟩ Q := by
  intro m
  have hpl := hR.len
  induction m with
  | zero =>
    intro i j full elsK s h Q hj hij hx hB ha hfl htk hkl hRK hfr hlen hs e0 e1 e5 e6 hQ
    have c : ¬ ((j : Nat) : Int) < (l.length : Int) := by omega
    have hd : l.take j = l := List.take_of_length_le (by omega)
    rw [hd] at hRK
    rw [X_loop, X_eq f31_1.eq_1]
    simp only [go_sem, Nat.reduceLT, Nat.reduceEqDiff, reduceCtorEq, Int.reduceLT, Int.reduceEq, hs, e6, e0, c]
    exact hQ _ h i full elsK (by simp only [slot_len, hs]) hx hB (by omega) ha hfl htk hkl hRK (by simp only [go_sem, Nat.reduceLT, Nat.reduceEqDiff, reduceCtorEq, Int.reduceLT, Int.reduceEq, e0]) (by simp only [go_sem, Nat.reduceLT, Nat.reduceEqDiff, reduceCtorEq, Int.reduceLT, Int.reduceEq, e5])
  | succ m ih =>
    intro i j full elsK s h Q hj hij hx hB ha hfl htk hkl hRK hfr hlen hs e0 e1 e5 e6 hQ
    have c : ((j : Nat) : Int) < (l.length : Int) := by omega
    obtain ⟨e, r, he, hr, cc, rfl, hc⟩ := hR.get (i := j) (by omega)
    have htake : l.take (j + 1) = l.take j ++ [r] := by
      obtain ⟨la, e⟩ := List.getElem?_eq_some_iff.1 hr
      rw [List.take_succ_eq_append_getElem la, e]
    have hfj : full[j]? = some [.sc (.string ⟨r.1.toArray⟩), cc] := by rw [hfr j (Nat.le_refl _) (by omega)]; exact he
    have ia : iaO h 2 (.own id g 0 l.length false) (vi .i64 (j : Int)) = some (.eptr id g (0 + j) 0, h) := ia_own (by omega) ha (by simpa using by omega)
    rw [Nat.zero_add] at ia
    have la : ldO h true 2 (.eptr id g j 0) = some (.agg [txt r.1, .cv cc], h) := ld_ecells ha hfj rfl
    have hwj : IntKind.i64.wrap ((j : Int) + 1) = ((j + 1 : Nat) : Int) := by rw [IntWalk.i64_in _ (by omega)]; omega
    have hwi : IntKind.i64.wrap ((i : Int) + 1) = ((i + 1 : Nat) : Int) := by rw [IntWalk.i64_in _ (by omega)]; omega
    have stb : ∀ a b : VV, stO (h ++ [.box [a, b] false]) 2 (.ptr h.length 0) (.agg [txt r.1, .cv cc]) = some (.undef, h ++ [.box [txt r.1, .cv cc] false]) := fun a b => st_l_2
    have x1 := HExt.push h (.box [txt r.1, .cv cc] false)
    have b1 : (h ++ [VO.box [txt r.1, .cv cc] false])[h.length]? = some (.box [txt r.1, .cv cc] false) := at_last
    have lb := ld_bxN (n := 2) b1 rfl
    obtain ⟨v, g1, n1, rfl, x2⟩ := ht.call _ r.1 r.2 cc (ht.ext _ _ x1 hB) hc
    have hB1 := ht.ext _ _ (x1.trans x2) hB
    have ha1 := (x1.trans x2).get ha
    have b2 := x2.get b1
    have lb2 := ld_bxN (n := 2) b2 rfl
    have hx1 := (hx.trans x1).trans x2
    rw [X_loop, X_eq f31_1.eq_1]
    simp only [go_sem, Nat.reduceLT, Nat.reduceEqDiff, reduceCtorEq, Int.reduceLT, Int.reduceEq, hs, e6, e0, c, ia, la, stb, lb, e1, List.map]
    refine XO_callvR (f := f) (caps := caps) (by simp only [go_sem, Nat.reduceLT, Nat.reduceEqDiff, reduceCtorEq, Int.reduceLT, Int.reduceEq, hs]) (by simp only [List.map, go_sem, Nat.reduceLT, Nat.reduceEqDiff, reduceCtorEq, Int.reduceLT, Int.reduceEq, hs]; exact n1) ?_ ht.lt
    cases hp : p r with
    | true =>
      simp only [go_sem, Nat.reduceLT, Nat.reduceEqDiff, reduceCtorEq, Int.reduceLT, Int.reduceEq, hs, show p (r.1, r.2) = true from hp, e6, hwj]
      refine ih i (j + 1) full elsK _ _ Q (by omega) (by omega) hx1 hB1 ha1 hfl htk hkl (by rw [htake, List.filter_append]; simpa [hp] using hRK) (fun t h1 h2 => hfr t (by omega) h2) hlen (by simp only [slot_len, hs]) (by simp only [go_sem, Nat.reduceLT, Nat.reduceEqDiff, reduceCtorEq, Int.reduceLT, Int.reduceEq, e0]) (by simp only [go_sem, Nat.reduceLT, Nat.reduceEqDiff, reduceCtorEq, Int.reduceLT, Int.reduceEq, e1]) (by simp only [go_sem, Nat.reduceLT, Nat.reduceEqDiff, reduceCtorEq, Int.reduceLT, Int.reduceEq, e5]) (by simp only [go_sem, Nat.reduceLT, Nat.reduceEqDiff, reduceCtorEq, Int.reduceLT, Int.reduceEq, hs]) hQ
    | false =>
      have ia2 : iaO g1 2 (.own id g 0 l.length false) (vi .i64 (i : Int)) = some (.eptr id g (0 + i) 0, g1) := ia_own (by omega) ha1 (by simpa using by omega)
      rw [Nat.zero_add] at ia2
      obtain ⟨ei, hei, heil⟩ := hlen i (by omega)
      have st2 : stO g1 2 (.eptr id g i 0) (.agg [txt r.1, .cv cc]) = some (.undef, g1.set id (.arr 2 (full.set i [.sc (.string ⟨r.1.toArray⟩), cc]) g false)) := st_ecells (cs := [.sc (.string ⟨r.1.toArray⟩), cc]) rfl ha1 hei heil
      simp only [go_sem, Nat.reduceLT, Nat.reduceEqDiff, reduceCtorEq, Int.reduceLT, Int.reduceEq, hs, show p (r.1, r.2) = false from hp, e6, e5, e0, hwj, lb2, ia2, st2, hwi]
      refine ih (i + 1) (j + 1) (full.set i [.sc (.string ⟨r.1.toArray⟩), cc]) (elsK ++ [[.sc (.string ⟨r.1.toArray⟩), cc]]) _ _ Q (by omega) (by omega) (hx1.set hid _) (ht.set _ _ _ _ _ _ _ ha1 hB1) (List.getElem?_set_self (lt_at ha1)) (by rw [List.length_set]; exact hfl) ?_ (by simp; omega) ?_ ?_ ?_ (by simp only [slot_len, hs]) (by simp only [go_sem, Nat.reduceLT, Nat.reduceEqDiff, reduceCtorEq, Int.reduceLT, Int.reduceEq, e0]) (by simp only [go_sem, Nat.reduceLT, Nat.reduceEqDiff, reduceCtorEq, Int.reduceLT, Int.reduceEq, e1]) (by simp only [go_sem, Nat.reduceLT, Nat.reduceEqDiff, reduceCtorEq, Int.reduceLT, Int.reduceEq, hs]) (by simp only [go_sem, Nat.reduceLT, Nat.reduceEqDiff, reduceCtorEq, Int.reduceLT, Int.reduceEq, hs]) hQ
      · have hil : i < full.length := by omega
        rw [List.take_succ_eq_append_getElem (by rw [List.length_set]; omega), List.getElem_set_self, List.take_set_of_le (Nat.le_refl _), htk]
      · rw [htake, List.filter_append]
        simp only [List.filter_cons, hp, Bool.not_false, if_true, List.filter_nil]
        exact hRK.snoc ⟨cc, rfl, hc⟩
      · intro t h1 h2
        rw [List.getElem?_set_ne (by omega)]
        exact hfr t (by omega) h2
      · intro t ht2
        by_cases hti : i = t
        · subst hti
          exact ⟨_, List.getElem?_set_self (by omega), rfl⟩
        · rw [List.getElem?_set_ne hti]; exact hlen t ht2

/-- Rows less those that a function tells. -/
theorem delete_f31 {h : Heap} {v : VV} (hv : PB h0 h 2 els v) (hR : RowsE els l) (hl : l.length ≤ 1000000000) (ht : Tells B f caps p) (hB : B h) :
    Ret F 31 [v, .func f caps] h fun v' g => B g ∧ ∃ els', PB h0 g 2 els' v' ∧ RowsE els' (l.filter (fun r => !p r)) := by
  have hpl := hR.len
  obtain ⟨v33, g1, n33, rfl, x1⟩ := index_f33 hv.vf hR hl ht hB
  have hv1 := hv.then x1
  have hB1 := ht.ext _ _ x1 hB
  refine call_E (fn := f31) rfl ?_
  simp only [f31]
  generalize hs0 : ([v, .func f caps] ++ List.replicate _ VV.undef : List VV) = s
  have hs : s.length = 42 := by rw [← hs0]; rfl
  have h0 : s.getD 0 .undef = v := by rw [← hs0]; rfl
  have h1 : s.getD 1 .undef = .func f caps := by rw [← hs0]; rfl
  clear hs0
  simp only [go_sem, Nat.reduceLT, Nat.reduceEqDiff, reduceCtorEq, Int.reduceLT, Int.reduceEq, hs, h0, h1]
  refine XO_callR (by simp only [List.map, go_sem, Nat.reduceLT, Nat.reduceEqDiff, reduceCtorEq, Int.reduceLT, Int.reduceEq, hs]; exact n33) ?_
  simp only [go_sem, Nat.reduceLT, Nat.reduceEqDiff, reduceCtorEq, Int.reduceLT, Int.reduceEq, hs]
  rw [X_eq f31_0.eq_1]
  rcases idxF_spec p l 0 with ⟨e, hno⟩ | ⟨k, r, e, hk1, hk2, hk3⟩
  · have e' : idxF p 0 l = -1 := e
    simp only [go_sem, Nat.reduceLT, Nat.reduceEqDiff, reduceCtorEq, Int.reduceLT, Int.reduceEq, hs, e', h0]
    exact ⟨hB1, els, hv1, by rw [filter_none hno]; exact hR⟩
  · have hkl := (List.getElem?_eq_some_iff.1 hk1).1
    rw [Nat.zero_add] at e
    have c1 : ¬ idxF p 0 l = -1 := by omega
    have hwk : IntKind.i64.wrap ((k : Int) + 1) = ((k + 1 : Nat) : Int) := by rw [IntWalk.i64_in _ (by omega)]; omega
    rcases hv1.v with ⟨e0, _⟩ | ⟨e0, _⟩ | ⟨id, g, full, hid, rfl, a2, a3, a4⟩
    · rw [e0] at hpl; simp at hpl; omega
    · rw [e0] at hpl; simp at hpl; omega
    simp only [go_sem, Nat.reduceLT, Nat.reduceEqDiff, reduceCtorEq, Int.reduceLT, Int.reduceEq, hs, c1, e, hwk]
    have hfr : ∀ t, t < l.length → full[t]? = els[t]? := fun t ht => by
      rw [a4, List.getElem?_take, if_pos (by omega)]
    refine f31_loop hR hl ht hid (l.length - (k + 1)) k (k + 1) full (els.take k) _ _ _ (by omega) (by omega) hv1.ext hB1 a2 (by omega) (by rw [a4, List.take_take, Nat.min_eq_left (by omega)]) (by rw [List.length_take]; omega) ?_ (fun t _ h2 => hfr t h2) (fun t h2 => ?_) (by simp only [slot_len, hs]) (by simp only [go_sem, Nat.reduceLT, Nat.reduceEqDiff, reduceCtorEq, Int.reduceLT, Int.reduceEq, h0, hpl]) (by simp only [go_sem, Nat.reduceLT, Nat.reduceEqDiff, reduceCtorEq, Int.reduceLT, Int.reduceEq, h1]) (by simp only [go_sem, Nat.reduceLT, Nat.reduceEqDiff, reduceCtorEq, Int.reduceLT, Int.reduceEq, hs]) (by simp only [go_sem, Nat.reduceLT, Nat.reduceEqDiff, reduceCtorEq, Int.reduceLT, Int.reduceEq, hs]) (fun s' h' i' full' elsK' b0 b1 b2 b3 b4 b5 b6 b7 b8 b9 b10 => ?_)
    · rw [List.take_succ_eq_append_getElem hkl, List.filter_append, filter_none hk3]
      have : l[k] = r := (List.getElem?_eq_some_iff.1 hk1).2
      rw [this]
      simp only [List.filter_cons, hk2, Bool.not_true, Bool.false_eq_true, if_false, List.filter_nil, List.append_nil]
      exact take_rows hR k
    · obtain ⟨e1, r1, he1, _, hr1⟩ := hR.get h2
      exact ⟨e1, by rw [hfr t h2]; exact he1, rowE_len hr1⟩
    · have sl1 : slO h' 2 (.own id g 0 l.length false) (some (vi .i64 (i' : Int))) none none = some (.own id g (0 + i') (l.length - i') false, h') := by
        have : (i' : Int) ≤ (l.length : Int) := by omega
        simp [slO, stepI, rhoO, lenV, bnd, intV, this, b4]
      simp only [go_sem, Nat.reduceLT, Nat.reduceEqDiff, reduceCtorEq, Int.reduceLT, Int.reduceEq, b0, b9, b10, sl1]
      refine XO_clrO (full := full') (off := 0 + i') (len := l.length - i') (ex := false) (by simp only [go_sem, Nat.reduceLT, Nat.reduceEqDiff, reduceCtorEq, Int.reduceLT, Int.reduceEq, b0]) b4 (by omega) ?_
      have b4' := List.getElem?_set_self (a := VO.arr 2 (splice full' (0 + i') (List.replicate (l.length - i') [CV.sc (.string ⟨#[]⟩), .sc (.slice none 0 0)])) g false) (lt_at b4)
      have hspl : (splice full' (0 + i') (List.replicate (l.length - i') [CV.sc (.string ⟨#[]⟩), .sc (.slice none 0 0)])).length = full'.length := splice_len (by simp; omega)
      have htk : (splice full' (0 + i') (List.replicate (l.length - i') [CV.sc (.string ⟨#[]⟩), .sc (.slice none 0 0)])).take i' = elsK' := by
        unfold splice
        rw [Nat.zero_add, List.append_assoc, List.take_append_of_le_length (by rw [List.length_take]; omega), List.take_take, Nat.min_self, b6]
      have bB := ht.set _ _ _ _ _ _ (VO.arr 2 (splice full' (0 + i') (List.replicate (l.length - i') [CV.sc (.string ⟨#[]⟩), .sc (.slice none 0 0)])) g false) b4 b2
      have bX := b1.set hid (VO.arr 2 (splice full' (0 + i') (List.replicate (l.length - i') [CV.sc (.string ⟨#[]⟩), .sc (.slice none 0 0)])) g false)
      generalize h'.set id (VO.arr 2 (splice full' (0 + i') (List.replicate (l.length - i') [CV.sc (.string ⟨#[]⟩), .sc (.slice none 0 0)])) g false) = h2 at b4' bB bX
      have sl2 : slO h2 2 (.own id g 0 l.length false) none (some (vi .i64 (i' : Int))) none = some (.own id g 0 i' false, h2) := by
        have : (i' : Int) ≤ (l.length : Int) := by omega
        simp [slO, stepI, rhoO, lenV, bnd, intV, this, b4']
      simp only [go_sem, Nat.reduceLT, Nat.reduceEqDiff, reduceCtorEq, Int.reduceLT, Int.reduceEq, b0, b9, b10, sl2]
      exact ⟨bB, elsK', ⟨bX, .inr (.inr ⟨id, g, _, hid, by rw [b7], b4', by omega, by rw [b7, htk]⟩)⟩, b8⟩
end
end Go.V07

set_option linter.unusedSimpArgs false
set_option linter.unusedVariables false
namespace Go.V07
open Go Go.Vm

/-- A row laid anywhere. -/
theorem insert_any {h0 h : Heap} {els : List (List CV)} {v : VV} {e : List CV} {i : Nat} (hv : PB h0 h 2 els v) (hi : i ≤ els.length) (hl : els.length ≤ 100000000) :
    Ret F 35 [v, vi .i64 i, .cv (.sl 2 [e] true)] h fun v' g => PB h0 g 2 (els.take i ++ e :: els.drop i) v' := by
  have hm : maxBytes = 35184372088832 := rfl
  have go : ∀ v' h1, stepI h (evalO [v, vi .i64 i, .cv (.sl 2 [e] true)]) (.ins 2 40 (.t 0) (.t 1) (.t 2)) = some (v', h1) → PB h0 h1 2 (els.take i ++ e :: els.drop i) v' → Ret F 35 [v, vi .i64 i, .cv (.sl 2 [e] true)] h fun v' g => PB h0 g 2 (els.take i ++ e :: els.drop i) v' := by
    intro v' h1 hs hP
    refine call_E (fn := f35x) rfl ?_
    show X F (.reg [⟨none, some 2, .ins 2 40 (.t 0) (.t 1) (.t 2)⟩]) ⟨[v, vi .i64 i, .cv (.sl 2 [e] true)], h⟩ (RQ [.t 2] _)
    rw [X_reg, XO_ins rfl, hs, XV_some, XO_nil]
    exact ⟨trivial, [v'], rfl, hP⟩
  rcases hv.v with ⟨rfl, rfl⟩ | ⟨rfl, rfl⟩ | ⟨id, g, full, a1, rfl, a2, a3, a4⟩
  · obtain rfl : i = 0 := by simpa using hi
    refine go (.own h.length 0 0 1 false) (h ++ [.arr 2 [e] 0 false]) (by simp [stepI, evalO, nilS]) ⟨hv.ext.then _, .inr (.inr ⟨h.length, 0, [e], hv.ext.len, by simp, by simp, by simp, by simp⟩)⟩
  · obtain rfl : i = 0 := by simpa using hi
    refine go (.own h.length 0 0 1 false) (h ++ [.arr 2 [e] 0 false]) (by simp [stepI, evalO]) ⟨hv.ext.then _, .inr (.inr ⟨h.length, 0, [e], hv.ext.len, by simp, by simp, by simp, by simp⟩)⟩
  · have hid := lt_at a2
    have hnl : (els.take i ++ e :: els.drop i).length = els.length + 1 := by rw [List.length_append, List.length_cons, List.length_take, List.length_drop]; omega
    refine go (.own id (g + 1) 0 (els.length + 1) false) (h.set id (.arr 2 (els.take i ++ e :: els.drop i) (g + 1) false)) ?_ ⟨hv.ext.set a1 _, .inr (.inr ⟨id, g + 1, els.take i ++ e :: els.drop i, a1, by rw [hnl], by rw [List.getElem?_set_self hid], Nat.le_refl _, by rw [List.take_length]⟩)⟩
    have c1 : (els.length + 1) * 40 ≤ 35184372088832 := by omega
    have c2 : els.length + 1 ≤ 35184372088832 := by omega
    have c3 : (i : Int) ≤ (els.length : Int) := by omega
    have e0 : evalO [VV.own id g 0 els.length false, vi .i64 i, .cv (.sl 2 [e] true)] (.t 0) = .own id g 0 els.length false := rfl
    have e1 : evalO [VV.own id g 0 els.length false, vi .i64 i, .cv (.sl 2 [e] true)] (.t 1) = .cv (.sc (.int .i64 (i : Int))) := rfl
    have e2 : evalO [VV.own id g 0 els.length false, vi .i64 i, .cv (.sl 2 [e] true)] (.t 2) = .cv (.sl 2 [e] true) := rfl
    simp only [stepI, e0, e1, e2, a2, if_true, hm, a3, c1, c2, c3, and_self, Int.natCast_nonneg, Int.toNat_natCast, ← a4]

/-! ### rows behind changes -/
def posA (l : List KV) (key : List UInt8) : Nat := if idxF (fun r => Op.bytesLess key r.1) 0 l < 0 then l.length else (idxF (fun r => Op.bytesLess key r.1) 0 l).toNat
def lessK (l : List KV) (key : List UInt8) : List KV := l.filter (fun r => !decide (r.1 = key))
def stepA (l : List KV) (x : Ch) : List KV := if x.2.2 = true then lessK l x.1 else (lessK l x.1).take (posA (lessK l x.1) x.1) ++ (x.1, x.2.1) :: (lessK l x.1).drop (posA (lessK l x.1) x.1)
def applyF (l : List KV) (c : List Ch) : List KV := c.foldl stepA l
theorem posA_le (l : List KV) (key : List UInt8) : posA l key ≤ l.length := by
  unfold posA
  rcases idxF_spec (fun r => Op.bytesLess key r.1) l 0 with ⟨e, _⟩ | ⟨k, r, e, h1, _, _⟩
  · rw [e]; simp
  · have := (List.getElem?_eq_some_iff.1 h1).1
    rw [e, Nat.zero_add]
    rw [if_neg (by omega)]; omega
theorem lessK_len (l : List KV) (key : List UInt8) : (lessK l key).length ≤ l.length := List.length_filter_le _ _
theorem stepA_len (l : List KV) (x : Ch) : (stepA l x).length ≤ l.length + 1 := by
  have h1 := lessK_len l x.1
  have h2 := posA_le (lessK l x.1) x.1
  unfold stepA
  split
  · omega
  · rw [List.length_append, List.length_cons, List.length_take, List.length_drop]; omega

theorem take_E {els : List (List CV)} {kv : List KV} (hR : RowsE els kv) (n : Nat) : RowsE (els.take n) (kv.take n) := take_rows hR n
theorem drop_E {els : List (List CV)} {kv : List KV} (hR : RowsE els kv) (n : Nat) : RowsE (els.drop n) (kv.drop n) := by
  induction hR generalizing n with
  | nil => simp; exact .nil
  | cons h t ih =>
    cases n with
    | zero => exact .cons h t
    | succ n => exact ih n
theorem app_E {l m : List (List CV)} {k j : List KV} (h : RowsE l k) (h2 : RowsE m j) : RowsE (l ++ m) (k ++ j) := by
  induction h with
  | nil => exact h2
  | cons h _ ih => exact .cons h ih

/-- What is known of rows that are laid somewhere: anywhere ('G'), or at the end. -/
def InsC (G : Prop) : Prop := ∀ (h0 h : Heap) (els : List (List CV)) (v : VV) (e : List CV) (i : Nat), PB h0 h 2 els v → i ≤ els.length → e.length = 2 → els.length ≤ 1000000 → (∀ x ∈ els, x.length = 2) → (G ∨ i = els.length) →
  Ret F 35 [v, vi .i64 i, .cv (.sl 2 [e] true)] h fun v' g => PB h0 g 2 (els.take i ++ e :: els.drop i) v'
theorem insC {G : Prop} : InsC G := by
  intro h0 h els v e i hv hi he hl _ _
  exact insert_any hv hi (by omega)
theorem insC_end : InsC False := insC

section
variable {G : Prop} {cs : List Ch} {elsC : List (List CV)} {uc : VV} {h0 : Heap}
theorem f18_loop (hI : InsC G) (hC : ChsE elsC cs) (huc : SlV 3 elsC uc) (hcl : cs.length ≤ 100000) (hval : ∀ x ∈ cs, x.2.1.length ≤ 1000000000) :
    ∀ (m i : Nat) (l : List KV) (els : List (List CV)) (v : VV) (s : List VV) (h : Heap) (Q : Pst), i + m = cs.length → l.length ≤ 100000 + i → PB h0 h 2 els v → RowsE els l →
      (G ∨ ∀ c1 x c2, cs.drop i = c1 ++ x :: c2 → x.2.2 = false → posA (lessK (applyF l c1) x.1) x.1 = (lessK (applyF l c1) x.1).length) →
      s.length = 41 → s.getD 5 .undef = v → s.getD 11 .undef = uc → s.getD 12 .undef = vi .i64 cs.length → s.getD 13 .undef = vi .i64 i →
      (∀ s' h' els' v', s'.length = 41 → s'.getD 5 .undef = v' → PB h0 h' 2 els' v' → RowsE els' (applyF l (cs.drop i)) → Q (.exit 0) ⟨s', h'⟩) → X F (.loop f18_3) ⟨s, h⟩ Q := by
  intro m
  have hpl := hC.len
  induction m with
  | zero =>
    intro i l els v s h Q hi hll hP hR hG hs e5 e11 e12 e13 hQ
    have c : ¬ ((i : Nat) : Int) < (cs.length : Int) := by omega
    have hd : cs.drop i = [] := List.drop_eq_nil_of_le (by omega)
    rw [hd] at hQ
    rw [X_loop, X_eq f18_3.eq_1]
    simp only [go_sem, Nat.reduceLT, Nat.reduceEqDiff, reduceCtorEq, Int.reduceLT, Int.reduceEq, hs, e13, e12]
    rw [X_eq f18_0.eq_1]
    simp only [go_sem, Nat.reduceLT, Nat.reduceEqDiff, reduceCtorEq, Int.reduceLT, Int.reduceEq, hs, c]
    exact hQ _ _ els v (by simp only [slot_len, hs]) (by simp only [go_sem, Nat.reduceLT, Nat.reduceEqDiff, reduceCtorEq, Int.reduceLT, Int.reduceEq, e5]) hP hR
  | succ m ih =>
    intro i l els v s h Q hi hll hP hR hG hs e5 e11 e12 e13 hQ
    have c : ((i : Nat) : Int) < (cs.length : Int) := by omega
    obtain ⟨e, x, he, hx, cc, rfl, hcx⟩ := hC.get (i := i) (by omega)
    have hd : cs.drop i = x :: cs.drop (i + 1) := by
      obtain ⟨la, e⟩ := List.getElem?_eq_some_iff.1 hx
      rw [List.drop_eq_getElem_cons la, e]
    rw [hd] at hQ hG
    have hap : applyF l (x :: cs.drop (i + 1)) = applyF (stepA l x) (cs.drop (i + 1)) := rfl
    rw [hap] at hQ
    have ia : iaO h 3 uc (vi .i64 (i : Int)) = some (.rptr [.sc (.string ⟨x.1.toArray⟩), cc, .sc (.bool x.2.2)], h) := huc.ia (by omega) (by rw [Int.toNat_natCast]; exact he)
    have la : ldO h true 3 (.rptr [.sc (.string ⟨x.1.toArray⟩), cc, .sc (.bool x.2.2)]) = some (.agg [txt x.1, .cv cc, .cv (.sc (.bool x.2.2))], h) := ld_r_3
    have stb : ∀ a b c : VV, stO (h ++ [.box [a, b, c] false]) 3 (.ptr h.length 0) (.agg [txt x.1, .cv cc, .cv (.sc (.bool x.2.2))]) = some (.undef, h ++ [.box [txt x.1, .cv cc, .cv (.sc (.bool x.2.2))] false]) := fun a b c => st_l_3
    have x1 := HExt.push h (.box [txt x.1, .cv cc, .cv (.sc (.bool x.2.2))] false)
    have b1 : (h ++ [VO.box [txt x.1, .cv cc, .cv (.sc (.bool x.2.2))] false])[h.length]? = some (.box [txt x.1, .cv cc, .cv (.sc (.bool x.2.2))] false) := at_last
    have hw13 : IntKind.i64.wrap ((i : Int) + 1) = ((i + 1 : Nat) : Int) := by rw [IntWalk.i64_in _ (by omega)]; omega
    have hll' := hR.len
    obtain ⟨v1, g1, n1, B1, els1, P1, R1⟩ := delete_f31 (B := fun g => g[h.length]? = some (.box [txt x.1, .cv cc, .cv (.sc (.bool x.2.2))] false)) (p := fun r => decide (r.1 = x.1)) (f := 32) (caps := [.ptr h.length 0]) (hP.then x1) hR (by omega)
      ⟨(by decide), fun _ _ e b => e.get b, fun hh id z els g fr o ho b => by rw [List.getElem?_set_ne (by rintro rfl; rw [ho] at b; cases b)]; exact b, fun hh k l c b hc => tells_f32.call hh k l c ⟨_, _, b⟩ hc⟩ b1
    have l20 : ldO g1 false 1 (.ptr h.length 2) = some (.cv (.sc (.bool x.2.2)), g1) := ld_ptr B1 rfl
    have hlk : l.filter (fun r => !decide (r.1 = x.1)) = lessK l x.1 := rfl
    rw [hlk] at R1
    have hlen1 := lessK_len l x.1
    rw [X_loop, X_eq f18_3.eq_1]
    simp only [go_sem, Nat.reduceLT, Nat.reduceEqDiff, reduceCtorEq, Int.reduceLT, Int.reduceEq, hs, e13, e12]
    rw [X_eq f18_0.eq_1]
    simp only [go_sem, Nat.reduceLT, Nat.reduceEqDiff, reduceCtorEq, Int.reduceLT, Int.reduceEq, hs, c, e11, e13, ia, la, stb, e5, List.map]
    refine XO_callR (by simp only [List.map, go_sem, Nat.reduceLT, Nat.reduceEqDiff, reduceCtorEq, Int.reduceLT, Int.reduceEq, hs]; exact n1) ?_
    simp only [go_sem, Nat.reduceLT, Nat.reduceEqDiff, reduceCtorEq, Int.reduceLT, Int.reduceEq, hs]
    rw [X_eq f18_1.eq_1]
    cases hg : x.2.2 with
    | true =>
      have hst : stepA l x = lessK l x.1 := by unfold stepA; rw [if_pos hg]
      rw [hst] at hQ
      rw [hg] at l20
      simp only [go_sem, Nat.reduceLT, Nat.reduceEqDiff, reduceCtorEq, Int.reduceLT, Int.reduceEq, hs, l20, e13, hw13]
      refine ih (i + 1) (lessK l x.1) els1 v1 _ _ Q (by omega) (by omega) P1 R1 ?_ (by simp only [slot_len, hs]) (by simp only [go_sem, Nat.reduceLT, Nat.reduceEqDiff, reduceCtorEq, Int.reduceLT, Int.reduceEq, hs]) (by simp only [go_sem, Nat.reduceLT, Nat.reduceEqDiff, reduceCtorEq, Int.reduceLT, Int.reduceEq, e11]) (by simp only [go_sem, Nat.reduceLT, Nat.reduceEqDiff, reduceCtorEq, Int.reduceLT, Int.reduceEq, e12]) (by simp only [go_sem, Nat.reduceLT, Nat.reduceEqDiff, reduceCtorEq, Int.reduceLT, Int.reduceEq, hs]) hQ
      rcases hG with hG | hG
      · exact .inl hG
      · refine .inr fun c1 y c2 e1 e2 => ?_
        have := hG (x :: c1) y c2 (by rw [e1]; rfl) e2
        rwa [show applyF l (x :: c1) = applyF (lessK l x.1) c1 by show applyF (stepA l x) c1 = _; rw [hst]] at this
    | false =>
      have hst : stepA l x = (lessK l x.1).take (posA (lessK l x.1) x.1) ++ (x.1, x.2.1) :: (lessK l x.1).drop (posA (lessK l x.1) x.1) := by unfold stepA; rw [if_neg (by rw [hg]; decide)]
      rw [hg] at l20 B1
      obtain ⟨v33, g2, n33, rfl, x2⟩ := index_f33 (B := BoxAt h.length x.1) P1.vf R1 (by omega) tells_f34 ⟨_, _, B1⟩
      have P2 := P1.then x2
      have B2 := x2.get B1
      have hl1 := R1.len
      simp only [go_sem, Nat.reduceLT, Nat.reduceEqDiff, reduceCtorEq, Int.reduceLT, Int.reduceEq, hs, l20]
      refine XO_callR (by simp only [List.map, go_sem, Nat.reduceLT, Nat.reduceEqDiff, reduceCtorEq, Int.reduceLT, Int.reduceEq, hs]; exact n33) ?_
      simp only [go_sem, Nat.reduceLT, Nat.reduceEqDiff, reduceCtorEq, Int.reduceLT, Int.reduceEq, hs]
      -- the place
      refine mid (P := fun st => st.h = g2 ∧ st.s.length = 41 ∧ st.s.getD 5 .undef = v1 ∧ st.s.getD 7 .undef = .ptr h.length 0 ∧ st.s.getD 8 .undef = vi .i64 (posA (lessK l x.1) x.1 : Nat) ∧ st.s.getD 11 .undef = uc ∧ st.s.getD 12 .undef = vi .i64 cs.length ∧ st.s.getD 13 .undef = vi .i64 i) ?_ ?_
      · rw [X_eq f18_2.eq_1]
        by_cases d : idxF (fun r => Op.bytesLess x.1 r.1) 0 (lessK l x.1) < 0
        · have hp : posA (lessK l x.1) x.1 = els1.length := by unfold posA; rw [if_pos d, hl1]
          simp only [go_sem, Nat.reduceLT, Nat.reduceEqDiff, reduceCtorEq, Int.reduceLT, Int.reduceEq, hs, d, P2.vf.ln, hp, e11, e12, e13, and_self]
        · have hp : idxF (fun r => Op.bytesLess x.1 r.1) 0 (lessK l x.1) = ((posA (lessK l x.1) x.1 : Nat) : Int) := by unfold posA; rw [if_neg d]; omega
          have d' : ¬ ((posA (lessK l x.1) x.1 : Nat) : Int) < 0 := by omega
          rw [hp]
          simp only [go_sem, Nat.reduceLT, Nat.reduceEqDiff, reduceCtorEq, Int.reduceLT, Int.reduceEq, hs, d', e11, e12, e13, and_self]
      · rintro ⟨s1, g2'⟩ ⟨e, hs1, f5, f7, f8, f11, f12, f13⟩
        dsimp only at e hs1 f5 f7 f8 f11 f12 f13
        subst e
        have lk : ldO g2' false 1 (.ptr h.length 0) = some (txt x.1, g2') := ld_ptr B2 rfl
        have lv : ldO g2' false 1 (.ptr h.length 1) = some (.cv cc, g2') := ld_ptr B2 rfl
        obtain ⟨v36, h36, n36, w36, r36, S36⟩ := cloneB_f36 hcx (hval x (List.mem_of_getElem? hx))
        obtain ⟨c36, rfl⟩ : ∃ c2, w36 = .cv c2 := by rcases S36 with ⟨rfl, _⟩ | ⟨ex, rfl⟩ <;> exact ⟨_, rfl⟩
        have bd : ∀ c : CV, bdO [.cv (.sc (.string ⟨#[]⟩)), .cv (.sc (.slice none 0 0))] [(0, 1, txt x.1), (1, 1, .cv c)] = some (.agg [txt x.1, .cv c]) := fun c => rfl
        have mk : mkO g2' 2 1 [.cv (.sc (.string ⟨#[]⟩)), .cv (.sc (.slice none 0 0))] [(0, 2, .agg [txt x.1, .cv c36])] = some (.cv (.sl 2 [[.sc (.string ⟨x.1.toArray⟩), c36]] true), g2') := mk_agg2
        have hpl := posA_le (lessK l x.1) x.1
        have hGi : G ∨ posA (lessK l x.1) x.1 = els1.length := by
          rcases hG with hG | hG
          · exact .inl hG
          · exact .inr (by rw [hl1]; exact hG [] x _ rfl hg)
        obtain ⟨v35, g5, n35, P5⟩ := hI h0 g2' els1 v1 [.sc (.string ⟨x.1.toArray⟩), c36] (posA (lessK l x.1) x.1) P2 (by omega) rfl (by omega) (fun y hy => by
          obtain ⟨k, hk⟩ := List.mem_iff_getElem?.1 hy
          obtain ⟨e1, r1, he1, _, hr1⟩ := R1.get (i := k) (by have := (List.getElem?_eq_some_iff.1 hk).1; omega)
          rw [hk] at he1; cases he1; exact rowE_len hr1) hGi
        refine X_draw rfl ?_
        simp only [go_sem, Nat.reduceLT, Nat.reduceEqDiff, reduceCtorEq, Int.reduceLT, Int.reduceEq, hs1, f5, f7, f8, lk, lv]
        refine XD_callP (by simp only [List.map, go_sem, Nat.reduceLT, Nat.reduceEqDiff, reduceCtorEq, Int.reduceLT, Int.reduceEq, hs1]; exact hcx.clos rfl) n36 r36 ?_
        simp only [go_sem, Nat.reduceLT, Nat.reduceEqDiff, reduceCtorEq, Int.reduceLT, Int.reduceEq, hs1, bd, mk]
        refine XD_callRk (by simp only [List.map, go_sem, Nat.reduceLT, Nat.reduceEqDiff, reduceCtorEq, Int.reduceLT, Int.reduceEq, hs1]; exact n35) ?_
        simp only [go_sem, Nat.reduceLT, Nat.reduceEqDiff, reduceCtorEq, Int.reduceLT, Int.reduceEq, hs1, f13, hw13]
        rw [hst] at hQ
        refine ih (i + 1) ((lessK l x.1).take (posA (lessK l x.1) x.1) ++ (x.1, x.2.1) :: (lessK l x.1).drop (posA (lessK l x.1) x.1)) _ v35 _ _ Q (by omega) ?_ P5 (app_E (take_E R1 _) (.cons ⟨c36, rfl, S36⟩ (drop_E R1 _))) ?_ (by simp only [slot_len, hs1]) (by simp only [go_sem, Nat.reduceLT, Nat.reduceEqDiff, reduceCtorEq, Int.reduceLT, Int.reduceEq, hs1]) (by simp only [go_sem, Nat.reduceLT, Nat.reduceEqDiff, reduceCtorEq, Int.reduceLT, Int.reduceEq, f11]) (by simp only [go_sem, Nat.reduceLT, Nat.reduceEqDiff, reduceCtorEq, Int.reduceLT, Int.reduceEq, f12]) (by simp only [go_sem, Nat.reduceLT, Nat.reduceEqDiff, reduceCtorEq, Int.reduceLT, Int.reduceEq, hs1]) hQ
        · have := stepA_len l x
          rw [hst] at this; omega
        · rcases hG with hG | hG
          · exact .inl hG
          · refine .inr fun c1 y c2 e1 e2 => ?_
            have := hG (x :: c1) y c2 (by rw [e1]; rfl) e2
            rwa [show applyF l (x :: c1) = applyF ((lessK l x.1).take (posA (lessK l x.1) x.1) ++ (x.1, x.2.1) :: (lessK l x.1).drop (posA (lessK l x.1) x.1)) c1 by show applyF (stepA l x) c1 = _; rw [hst]] at this

theorem apply_f18 (hI : InsC G) {els : List (List CV)} {l : List KV} {u : VV} (hu : SlV 2 els u) (hR : RowsE els l) (hl : l.length ≤ 100000) (hC : ChsE elsC cs) (huc : SlV 3 elsC uc) (hcl : cs.length ≤ 100000) (hval : ∀ x ∈ cs, x.2.1.length ≤ 1000000000)
    (hG : G ∨ ∀ c1 x c2, cs = c1 ++ x :: c2 → x.2.2 = false → posA (lessK (applyF l c1) x.1) x.1 = (lessK (applyF l c1) x.1).length) :
    RetP F 18 [u, uc] fun w => ∃ els', SlV 2 els' w ∧ RowsE els' (applyF l cs) := by
  have : Ret F 18 [u, uc] [] fun v g => ∃ els', PB [] g 2 els' v ∧ RowsE els' (applyF l cs) := by
    have hll := hR.len
    obtain ⟨v30, g30, n30, P30⟩ := cloneR_f30 (h := []) hu.vf (by omega)
    refine call_E (fn := f18) rfl ?_
    simp only [f18]
    generalize hs0 : ([u, uc] ++ List.replicate _ VV.undef : List VV) = s
    have hs : s.length = 41 := by rw [← hs0]; rfl
    have h0 : s.getD 0 .undef = u := by rw [← hs0]; rfl
    have h1 : s.getD 1 .undef = uc := by rw [← hs0]; rfl
    clear hs0
    have hpl := hC.len
    simp only [go_sem, Nat.reduceLT, Nat.reduceEqDiff, reduceCtorEq, Int.reduceLT, Int.reduceEq, hs, h0]
    refine XO_callR (by simp only [List.map, go_sem, Nat.reduceLT, Nat.reduceEqDiff, reduceCtorEq, Int.reduceLT, Int.reduceEq, hs]; exact n30) ?_
    simp only [go_sem, Nat.reduceLT, Nat.reduceEqDiff, reduceCtorEq, Int.reduceLT, Int.reduceEq, hs, h1, huc.ln, hpl]
    refine f18_loop hI hC huc hcl hval cs.length 0 l els v30 _ _ _ (by omega) (by omega) P30 hR (by rw [List.drop_zero]; exact hG) (by simp only [slot_len, hs]) (by simp only [go_sem, Nat.reduceLT, Nat.reduceEqDiff, reduceCtorEq, Int.reduceLT, Int.reduceEq, hs]) (by simp only [go_sem, Nat.reduceLT, Nat.reduceEqDiff, reduceCtorEq, Int.reduceLT, Int.reduceEq, hs]) (by simp only [go_sem, Nat.reduceLT, Nat.reduceEqDiff, reduceCtorEq, Int.reduceLT, Int.reduceEq, hs]) (by simp only [go_sem, Nat.reduceLT, Nat.reduceEqDiff, reduceCtorEq, Int.reduceLT, Int.reduceEq, hs]; rfl) (fun s' h' els' v' a1 a2 a3 a4 => ?_)
    rw [List.drop_zero] at a4
    simp only [go_sem, Nat.reduceLT, Nat.reduceEqDiff, reduceCtorEq, Int.reduceLT, Int.reduceEq, a1, a2]
    exact ⟨els', a3, a4⟩
  obtain ⟨v, g, n1, els', P, R⟩ := this
  obtain ⟨w, g1, c1, c2, _⟩ := P.vf.clos
  refine ⟨v, g, n1, w, ?_, els', c2, R⟩
  have hc := P.cellv
  cases v with
  | tup l => simp [isCell] at hc
  | _ => simp only [closRes, c1, Option.map]
end
end Go.V07


set_option linter.unusedSimpArgs false
set_option linter.unusedVariables false
namespace Go.V07
open Go Go.Vm

/-! ### rows that rise -/
def Srt (l : List KV) : Prop := l.Pairwise fun p q => Op.bytesLess p.1 q.1 = true

theorem layS_srt1 (r : KV) : ∀ l : List KV, Srt l → Srt (layS r l true).1 ∧ ∀ q ∈ (layS r l true).1, q ∈ l
  | [], _ => by simp [layS, Srt]
  | p :: t, h => by
    rw [Srt, List.pairwise_cons] at h
    obtain ⟨h1, h2⟩ := layS_srt1 r t h.2
    rw [layS]
    split
    · exact ⟨h1, fun q hq => List.mem_cons_of_mem _ (h2 q hq)⟩
    · rw [if_neg (by simp)]
      refine ⟨?_, ?_⟩
      · rw [Srt, List.pairwise_cons]; exact ⟨fun q hq => h.1 q (h2 q hq), h1⟩
      · intro q hq
        rcases List.mem_cons.1 hq with rfl | hq
        · exact List.mem_cons_self
        · exact List.mem_cons_of_mem _ (h2 q hq)
theorem layS_srt (r : KV) : ∀ l : List KV, Srt l → Srt (layS r l false).1 ∧ ((layS r l false).2 = true → ∀ q ∈ (layS r l false).1, q ∈ l ∨ q = r) ∧ ((layS r l false).2 = false → ∀ q ∈ (layS r l false).1, q ∈ l ∧ Op.bytesLess q.1 r.1 = true)
  | [], _ => by simp [layS, Srt]
  | p :: t, h => by
    rw [Srt, List.pairwise_cons] at h
    obtain ⟨h1, h2, h3⟩ := layS_srt r t h.2
    rw [layS]
    split
    · refine ⟨h1, fun hb q hq => ?_, fun hb q hq => ⟨List.mem_cons_of_mem _ (h3 hb q hq).1, (h3 hb q hq).2⟩⟩
      rcases h2 hb q hq with h | h
      · exact .inl (List.mem_cons_of_mem _ h)
      · exact .inr h
    · rename_i hne
      split
      · rename_i hgt
        obtain ⟨g1, g2⟩ := layS_srt1 r t h.2
        have hr : ∀ q ∈ p :: (layS r t true).1, Op.bytesLess r.1 q.1 = true := by
          intro q hq
          rcases List.mem_cons.1 hq with rfl | hq
          · exact hgt.2
          · exact bl_trans hgt.2 (h.1 q (g2 q hq))
        refine ⟨?_, ?_, ?_⟩
        · rw [Srt, List.pairwise_cons]
          refine ⟨hr, ?_⟩
          rw [List.pairwise_cons]
          exact ⟨fun q hq => h.1 q (g2 q hq), g1⟩
        · intro _ q hq
          rcases List.mem_cons.1 hq with rfl | hq
          · exact .inr rfl
          · rcases List.mem_cons.1 hq with rfl | hq
            · exact .inl List.mem_cons_self
            · exact .inl (List.mem_cons_of_mem _ (g2 q hq))
        · intro hb
          exfalso
          have : ∀ t : List KV, (layS r t true).2 = true := by
            intro t
            induction t with
            | nil => rfl
            | cons p t ih =>
              rw [layS]
              split
              · exact ih
              · rw [if_neg (by simp)]; exact ih
          rw [this t] at hb
          cases hb
      · rename_i hle
        have hpr : Op.bytesLess p.1 r.1 = true := by
          rcases bl_total p.1 r.1 with h | h | h
          · exact h
          · exact absurd h hne
          · exact absurd ⟨rfl, h⟩ hle
        refine ⟨?_, ?_, ?_⟩
        · rw [Srt, List.pairwise_cons]
          refine ⟨fun q hq => ?_, h1⟩
          cases hb : (layS r t false).2 with
          | true =>
            rcases h2 hb q hq with h' | rfl
            · exact h.1 q h'
            · exact hpr
          | false => exact h.1 q (h3 hb q hq).1
        · intro hb q hq
          rcases List.mem_cons.1 hq with rfl | hq
          · exact .inl List.mem_cons_self
          · rcases h2 hb q hq with h' | h'
            · exact .inl (List.mem_cons_of_mem _ h')
            · exact .inr h'
        · intro hb q hq
          rcases List.mem_cons.1 hq with rfl | hq
          · exact ⟨List.mem_cons_self, hpr⟩
          · exact ⟨List.mem_cons_of_mem _ (h3 hb q hq).1, (h3 hb q hq).2⟩
theorem layF_srt {l : List KV} (r : KV) (h : Srt l) : Srt (layF l r) := by
  obtain ⟨h1, h2, h3⟩ := layS_srt r l h
  unfold layF
  cases hb : (layS r l false).2 with
  | true => rw [if_pos rfl]; exact h1
  | false =>
    rw [if_neg (by simp), Srt, List.pairwise_append]
    refine ⟨h1, by simp, fun a ha b hb' => ?_⟩
    rw [List.mem_singleton] at hb'
    subst hb'
    exact (h3 hb a ha).2
theorem fold_srt : ∀ (L acc : List KV), Srt acc → Srt (L.foldl layF acc)
  | [], _, h => h
  | p :: L, acc, h => fold_srt L _ (layF_srt p h)
theorem risL_srt (n : Nat) (c : List UInt8) : Srt (risL n c) := fold_srt _ _ List.Pairwise.nil

theorem srt_at {l : List KV} (h : Srt l) {i j : Nat} {p q : KV} (hij : i < j) (hp : l[i]? = some p) (hq : l[j]? = some q) : Op.bytesLess p.1 q.1 = true := by
  obtain ⟨hi, rfl⟩ := List.getElem?_eq_some_iff.1 hp
  obtain ⟨hj, rfl⟩ := List.getElem?_eq_some_iff.1 hq
  exact (List.pairwise_iff_getElem.1 h) i j hi hj hij
theorem RowsE.put {els : List (List CV)} {kv : List KV} (hR : RowsE els kv) (i : Nat) {e : List CV} {p : KV} (h : rowE e p) : RowsE (els.set i e) (kv.set i p) := by
  induction hR generalizing i with
  | nil => simp; exact .nil
  | cons h1 t ih =>
    cases i with
    | zero => exact .cons h t
    | succ i => exact .cons h1 (ih i)
end Go.V07

set_option linter.unusedSimpArgs false
set_option linter.unusedVariables false
namespace Go.V07
open Go Go.Vm

/-! ### changes made: what is there then -/
theorem mem_stepA (l : List KV) (x : Ch) (r : KV) : r ∈ stepA l x ↔ if x.1 = r.1 then (x.2.2 = false ∧ r = (x.1, x.2.1)) else r ∈ l := by
  have hless : ∀ r : KV, r ∈ lessK l x.1 ↔ r ∈ l ∧ r.1 ≠ x.1 := fun r => by simp [lessK]
  unfold stepA
  by_cases hg : x.2.2 = true
  · rw [if_pos hg, hless]
    by_cases hk : x.1 = r.1
    · simp [hk, hg]
    · rw [if_neg hk]; exact ⟨fun h => h.1, fun h => ⟨h, fun e => hk e.symm⟩⟩
  · have hg' : x.2.2 = false := by simpa using hg
    rw [if_neg hg, List.mem_append, List.mem_cons]
    have hm : (r ∈ (lessK l x.1).take (posA (lessK l x.1) x.1) ∨ r = (x.1, x.2.1) ∨ r ∈ (lessK l x.1).drop (posA (lessK l x.1) x.1)) ↔ r = (x.1, x.2.1) ∨ r ∈ lessK l x.1 := by
      conv => rhs; rw [← List.take_append_drop (posA (lessK l x.1) x.1) (lessK l x.1), List.mem_append]
      constructor
      · rintro (h | h | h)
        · exact .inr (.inl h)
        · exact .inl h
        · exact .inr (.inr h)
      · rintro (h | h | h)
        · exact .inr (.inl h)
        · exact .inl h
        · exact .inr (.inr h)
    rw [hm, hless]
    by_cases hk : x.1 = r.1
    · rw [if_pos hk]
      constructor
      · rintro (h | h)
        · exact ⟨hg', h⟩
        · exact absurd hk.symm h.2
      · exact fun h => .inl h.2
    · rw [if_neg hk]
      constructor
      · rintro (h | h)
        · rw [h] at hk; exact absurd rfl hk
        · exact h.1
      · exact fun h => .inr ⟨h, fun e => hk e.symm⟩

theorem lessK_srt {l : List KV} (h : Srt l) (k : List UInt8) : Srt (lessK l k) := List.Pairwise.filter _ h

theorem stepA_srt {l : List KV} (h : Srt l) (x : Ch) : Srt (stepA l x) := by
  have h1 := lessK_srt h x.1
  have hne : ∀ r ∈ lessK l x.1, r.1 ≠ x.1 := fun r hr => by simp [lessK] at hr; exact hr.2
  unfold stepA
  split
  · exact h1
  · generalize lessK l x.1 = L at h1 hne
    have hp := posA_le L x.1
    -- what lies ahead is less, what lies behind is greater
    have ahead : ∀ r ∈ L.take (posA L x.1), Op.bytesLess r.1 x.1 = true := by
      intro r hr
      have hnl : Op.bytesLess x.1 r.1 = false := by
        unfold posA at hr
        rcases idxF_spec (fun r => Op.bytesLess x.1 r.1) L 0 with ⟨e, hall⟩ | ⟨k, q, e, hq, hpq, hall⟩
        · exact hall r (List.mem_of_mem_take hr)
        · rw [e, Nat.zero_add, if_neg (by omega), Int.toNat_natCast] at hr
          exact hall r hr
      rcases bl_total r.1 x.1 with h | h | h
      · exact h
      · exact absurd h (hne r (List.mem_of_mem_take hr))
      · rw [h] at hnl; cases hnl
    have behind : ∀ r ∈ L.drop (posA L x.1), Op.bytesLess x.1 r.1 = true := by
      intro r hr
      unfold posA at hr
      rcases idxF_spec (fun r => Op.bytesLess x.1 r.1) L 0 with ⟨e, hall⟩ | ⟨k, q, e, hq, hpq, hall⟩
      · rw [e, if_pos (by decide), List.drop_length] at hr; cases hr
      · rw [e, Nat.zero_add, if_neg (by omega), Int.toNat_natCast] at hr
        obtain ⟨j, hj⟩ := List.getElem?_of_mem hr
        rw [List.getElem?_drop] at hj
        by_cases h0 : j = 0
        · subst h0; rw [Nat.add_zero, hq] at hj; cases hj; exact hpq
        · exact bl_trans hpq (srt_at h1 (i := k) (j := k + j) (by omega) hq hj)
    unfold Srt
    rw [List.pairwise_append, List.pairwise_cons]
    refine ⟨List.Pairwise.sublist (List.take_sublist _ _) h1, ⟨behind, List.Pairwise.sublist (List.drop_sublist _ _) h1⟩, fun a ha b hb => ?_⟩
    rcases List.mem_cons.1 hb with rfl | hb
    · exact ahead a ha
    · exact bl_trans (ahead a ha) (behind b hb)

/-- Rising rows are told by what is among them. -/
theorem srt_ext : ∀ {l m : List KV}, Srt l → Srt m → (∀ r, r ∈ l ↔ r ∈ m) → l = m
  | [], [], _, _, _ => rfl
  | [], q :: m, _, _, h => by have := (h q).2 (by simp); cases this
  | p :: l, [], _, _, h => by have := (h p).1 (by simp); cases this
  | p :: l, q :: m, hl, hm, h => by
    obtain ⟨a1, a2⟩ := List.pairwise_cons.1 hl
    obtain ⟨b1, b2⟩ := List.pairwise_cons.1 hm
    have hpq : p = q := by
      rcases List.mem_cons.1 ((h p).1 (by simp)) with e | e
      · exact e
      · rcases List.mem_cons.1 ((h q).2 (by simp)) with e' | e'
        · exact e'.symm
        · have x1 := b1 p e
          have x2 := a1 q e'
          rw [bl_asymm x1] at x2; cases x2
    subst hpq
    congr 1
    refine srt_ext a2 b2 fun r => ⟨fun hr => ?_, fun hr => ?_⟩
    · rcases List.mem_cons.1 ((h r).1 (List.mem_cons_of_mem _ hr)) with e | e
      · subst e; have := a1 r hr; rw [bl_irrefl] at this; cases this
      · exact e
    · rcases List.mem_cons.1 ((h r).2 (List.mem_cons_of_mem _ hr)) with e | e
      · subst e; have := b1 r hr; rw [bl_irrefl] at this; cases this
      · exact e

theorem applyF_len : ∀ (c : List Ch) (l : List KV), (applyF l c).length ≤ l.length + c.length
  | [], l => Nat.le_refl _
  | x :: c, l => by
    have h1 := applyF_len c (stepA l x)
    have h2 := stepA_len l x
    show (applyF (stepA l x) c).length ≤ _
    rw [List.length_cons]; omega
end Go.V07

set_option linter.unusedSimpArgs false
set_option linter.unusedVariables false
namespace Go.V07
open Go Go.Vm

/-! ### the document's Apply -/
section
variable {l : List KV} {els : List (List CV)} {u : VV} {r : KV} {cr : CV}
theorem f38_loop {h0 : Heap} {p0 : Nat} (hV : ∀ g, HExt h0 g → VF g 2 els u) (hB0 : h0[p0]? = some (.box [txt r.1, .cv cr] false)) (hR : RowsE els l) (hn : l.length ≤ 1000000) (hcr : SlV 1 (eB r.2) (.cv cr)) : ∀ (m i : Nat) (acc : List KV) (elsA : List (List CV)) (va : VV) (b : Bool) (s : List VV) (h : Heap) (Q : Pst), i + m = l.length → acc.length ≤ 2 * i → NB h0 h 2 elsA va → RowsE elsA acc →
    s.length = 52 → s.getD 0 .undef = u → s.getD 3 .undef = .ptr p0 0 → s.getD 5 .undef = va → s.getD 6 .undef = vb b → s.getD 7 .undef = vi .i64 i →
    (∀ s' h' va' elsA', s'.length = 52 → s'.getD 3 .undef = .ptr p0 0 → s'.getD 5 .undef = va' → s'.getD 6 .undef = vb (layS r (l.drop i) b).2 → NB h0 h' 2 elsA' va' → RowsE elsA' (acc ++ (layS r (l.drop i) b).1) → Q (.exit 0) ⟨s', h'⟩) → X F (.loop f38_2) ⟨s, h⟩ Q := by
  intro m
  have hl := hR.len
  induction m with
  | zero =>
    intro i acc elsA va b s h Q hi hac hA hRA hs e0 e3 e5 e6 e7 hQ
    have c : ¬ ((i : Nat) : Int) < (els.length : Int) := by omega
    have hS := hV h hA.ext
    rw [X_loop, X_eq f38_2.eq_1]
    simp only [go_sem, Nat.reduceLT, Nat.reduceEqDiff, reduceCtorEq, Int.reduceLT, Int.reduceEq, hs, e7, e0, hS.ln, c]
    have hd : l.drop i = [] := List.drop_eq_nil_of_le (by omega)
    rw [hd] at hQ
    refine hQ _ _ va elsA (by simp only [slot_len, hs]) (by simp only [go_sem, Nat.reduceLT, Nat.reduceEqDiff, reduceCtorEq, Int.reduceLT, Int.reduceEq, e3]) (by simp only [go_sem, Nat.reduceLT, Nat.reduceEqDiff, reduceCtorEq, Int.reduceLT, Int.reduceEq, e5]) (by simp only [go_sem, Nat.reduceLT, Nat.reduceEqDiff, reduceCtorEq, Int.reduceLT, Int.reduceEq, e6]; rfl) hA ?_
    simpa [layS] using hRA
  | succ m ih =>
    intro i acc elsA va b s h Q hi hac hA hRA hs e0 e3 e5 e6 e7 hQ
    have c : ((i : Nat) : Int) < (els.length : Int) := by omega
    obtain ⟨e, p, he, hp, c', rfl, hc'⟩ := hR.get (i := i) (by omega)
    have hAl := hRA.len
    have hd : l.drop i = p :: l.drop (i + 1) := by
      obtain ⟨la, rfl⟩ := List.getElem?_eq_some_iff.1 hp
      rw [List.drop_eq_getElem_cons la]
    have hS := hV h hA.ext
    obtain ⟨q, ia, la2, q3, _⟩ := (hV h hA.ext).cell (k := .i64) he
    obtain ⟨q', fdr, la⟩ := q3 0 _ rfl
    have hwr : IntKind.i64.wrap ((i : Int) + 1) = ((i + 1 : Nat) : Int) := by rw [IntWalk.i64_in _ (by omega)]; omega
    have hb : h[p0]? = some (.box [txt r.1, .cv cr] false) := hA.ext.get hB0
    have fd0 : fdO 0 (.ptr p0 0) = some (.ptr p0 0) := rfl
    have lb : ldO h false 1 (.ptr p0 0) = some (txt r.1, h) := ld_ptr hb rfl
    rw [hd] at hQ
    rw [X_loop, X_eq f38_2.eq_1]
    simp only [go_sem, Nat.reduceLT, Nat.reduceEqDiff, reduceCtorEq, Int.reduceLT, Int.reduceEq, hs, e7, e0, hS.ln, c]
    rw [X_eq f38_0.eq_1]
    simp only [go_sem, Nat.reduceLT, Nat.reduceEqDiff, reduceCtorEq, Int.reduceLT, Int.reduceEq, hs]
    refine X_draw rfl ?_
    simp only [go_sem, Nat.reduceLT, Nat.reduceEqDiff, reduceCtorEq, Int.reduceLT, Int.reduceEq, hs, e0, e7, ia, fdr, la, e3, fd0, lb, bo_eql]
    by_cases d : p.1 = r.1
    · simp only [go_sem, Nat.reduceLT, Nat.reduceEqDiff, reduceCtorEq, Int.reduceLT, Int.reduceEq, hs, d, e7, hwr]
      refine ih (i + 1) acc elsA va b _ _ Q (by omega) (by omega) hA hRA (by simp only [slot_len, hs]) (by simp only [go_sem, Nat.reduceLT, Nat.reduceEqDiff, reduceCtorEq, Int.reduceLT, Int.reduceEq, e0]) (by simp only [go_sem, Nat.reduceLT, Nat.reduceEqDiff, reduceCtorEq, Int.reduceLT, Int.reduceEq, e3]) (by simp only [go_sem, Nat.reduceLT, Nat.reduceEqDiff, reduceCtorEq, Int.reduceLT, Int.reduceEq, e5]) (by simp only [go_sem, Nat.reduceLT, Nat.reduceEqDiff, reduceCtorEq, Int.reduceLT, Int.reduceEq, e6]) (by simp only [go_sem, Nat.reduceLT, Nat.reduceEqDiff, reduceCtorEq, Int.reduceLT, Int.reduceEq, hs]) ?_
      simp only [layS, if_pos d] at hQ
      exact hQ
    · simp only [layS, if_neg d] at hQ
      simp only [go_sem, Nat.reduceLT, Nat.reduceEqDiff, reduceCtorEq, Int.reduceLT, Int.reduceEq, hs, d]
      refine mid (P := fun st => ∃ acc' elsB vb' b', st.s.length = 52 ∧ st.s.getD 0 .undef = u ∧ st.s.getD 3 .undef = .ptr p0 0 ∧ st.s.getD 5 .undef = vb' ∧ st.s.getD 6 .undef = vb b' ∧ st.s.getD 7 .undef = vi .i64 i ∧ NB h0 st.h 2 elsB vb' ∧ RowsE elsB acc' ∧ acc'.length ≤ 2 * i + 1 ∧
          (if b = false ∧ Op.bytesLess r.1 p.1 = true then (r :: p :: (layS r (l.drop (i + 1)) true).1, (layS r (l.drop (i + 1)) true).2) else (p :: (layS r (l.drop (i + 1)) b).1, (layS r (l.drop (i + 1)) b).2)).2 = (layS r (l.drop (i + 1)) b').2 ∧
          acc ++ (if b = false ∧ Op.bytesLess r.1 p.1 = true then (r :: p :: (layS r (l.drop (i + 1)) true).1, (layS r (l.drop (i + 1)) true).2) else (p :: (layS r (l.drop (i + 1)) b).1, (layS r (l.drop (i + 1)) b).2)).1 = acc' ++ (p :: (layS r (l.drop (i + 1)) b').1)) ?_ ?_
      · rw [X_eq f38_1.eq_1]
        simp only [go_sem, Nat.reduceLT, Nat.reduceEqDiff, reduceCtorEq, Int.reduceLT, Int.reduceEq, hs]
        refine X_draw rfl ?_
        cases b with
        | true =>
          simp only [go_sem, Nat.reduceLT, Nat.reduceEqDiff, reduceCtorEq, Int.reduceLT, Int.reduceEq, hs, e6]
          rw [if_neg (by simp)]
          exact ⟨trivial, acc, elsA, va, true, by simp only [slot_len, hs], by simp only [go_sem, Nat.reduceLT, Nat.reduceEqDiff, reduceCtorEq, Int.reduceLT, Int.reduceEq, e0], by simp only [go_sem, Nat.reduceLT, Nat.reduceEqDiff, reduceCtorEq, Int.reduceLT, Int.reduceEq, e3], by simp only [go_sem, Nat.reduceLT, Nat.reduceEqDiff, reduceCtorEq, Int.reduceLT, Int.reduceEq, e5], by simp only [go_sem, Nat.reduceLT, Nat.reduceEqDiff, reduceCtorEq, Int.reduceLT, Int.reduceEq, e6], by simp only [go_sem, Nat.reduceLT, Nat.reduceEqDiff, reduceCtorEq, Int.reduceLT, Int.reduceEq, e7], hA, hRA, by omega, rfl, rfl⟩
        | false =>
          simp only [go_sem, Nat.reduceLT, Nat.reduceEqDiff, reduceCtorEq, Int.reduceLT, Int.reduceEq, hs, e6, e0, e7, ia, fdr, la, e3, fd0, lb, bo_gtr]
          cases d2 : Op.bytesLess r.1 p.1 with
          | false =>
            simp only [go_sem, Nat.reduceLT, Nat.reduceEqDiff, reduceCtorEq, Int.reduceLT, Int.reduceEq, hs]
            rw [if_neg (by simp)]
            exact ⟨trivial, acc, elsA, va, false, by simp only [slot_len, hs], by simp only [go_sem, Nat.reduceLT, Nat.reduceEqDiff, reduceCtorEq, Int.reduceLT, Int.reduceEq, e0], by simp only [go_sem, Nat.reduceLT, Nat.reduceEqDiff, reduceCtorEq, Int.reduceLT, Int.reduceEq, e3], by simp only [go_sem, Nat.reduceLT, Nat.reduceEqDiff, reduceCtorEq, Int.reduceLT, Int.reduceEq, e5], by simp only [go_sem, Nat.reduceLT, Nat.reduceEqDiff, reduceCtorEq, Int.reduceLT, Int.reduceEq, e6], by simp only [go_sem, Nat.reduceLT, Nat.reduceEqDiff, reduceCtorEq, Int.reduceLT, Int.reduceEq, e7], hA, hRA, by omega, rfl, rfl⟩
          | true =>
            have lb2 : ldO h true 2 (.ptr p0 0) = some (.agg [txt r.1, .cv cr], h) := ld_bxN hb rfl
            simp only [go_sem, Nat.reduceLT, Nat.reduceEqDiff, reduceCtorEq, Int.reduceLT, Int.reduceEq, hs, e5, e3, lb2, mk_row]
            refine XO_appNB hA (by simp only [go_sem, Nat.reduceLT, Nat.reduceEqDiff, reduceCtorEq, Int.reduceLT, Int.reduceEq, hs, e5]) (by simp only [go_sem, Nat.reduceLT, Nat.reduceEqDiff, reduceCtorEq, Int.reduceLT, Int.reduceEq, hs, src_sl]; rfl) (by simp only [List.length_singleton]; omega) (by simp only [List.length_singleton]; omega) (fun va' h4 hA4 _ _ _ => ?_)
            simp only [go_sem, Nat.reduceLT, Nat.reduceEqDiff, reduceCtorEq, Int.reduceLT, Int.reduceEq, hs]
            rw [if_pos (by simp)]
            refine ⟨trivial, acc ++ [r], _, va', true, by simp only [slot_len, hs], by simp only [go_sem, Nat.reduceLT, Nat.reduceEqDiff, reduceCtorEq, Int.reduceLT, Int.reduceEq, e0], by simp only [go_sem, Nat.reduceLT, Nat.reduceEqDiff, reduceCtorEq, Int.reduceLT, Int.reduceEq, e3], by simp only [go_sem, Nat.reduceLT, Nat.reduceEqDiff, reduceCtorEq, Int.reduceLT, Int.reduceEq, hs], by simp only [go_sem, Nat.reduceLT, Nat.reduceEqDiff, reduceCtorEq, Int.reduceLT, Int.reduceEq, hs], by simp only [go_sem, Nat.reduceLT, Nat.reduceEqDiff, reduceCtorEq, Int.reduceLT, Int.reduceEq, e7], hA4, hRA.snoc ⟨_, rfl, hcr⟩, by rw [List.length_append, List.length_singleton]; omega, rfl, by rw [List.append_assoc]; rfl⟩
      rintro ⟨s2, g⟩ ⟨acc', elsB, vb', b', hs, e0, e3, e5, e6, e7, hB, hRB, hlen, E2, E1⟩
      simp only at hs e0 e3 e5 e6 e7 hB
      obtain ⟨qb, ib, lb2, _, _⟩ := (hV g hB.ext).cell (k := .i64) he
      have lb2' : ldO g true 2 qb = some (.agg [txt p.1, .cv c'], g) := lb2 2 rfl
      rw [E2, E1] at hQ
      have hBl := hRB.len
      simp only [go_sem, Nat.reduceLT, Nat.reduceEqDiff, reduceCtorEq, Int.reduceLT, Int.reduceEq, hs, e5, e0, e7, ib, lb2', mk_row]
      refine XO_appNB hB (by simp only [go_sem, Nat.reduceLT, Nat.reduceEqDiff, reduceCtorEq, Int.reduceLT, Int.reduceEq, hs, e5]) (by simp only [go_sem, Nat.reduceLT, Nat.reduceEqDiff, reduceCtorEq, Int.reduceLT, Int.reduceEq, hs, src_sl]; rfl) (by simp only [List.length_singleton]; omega) (by simp only [List.length_singleton]; omega) (fun va' h4 hA4 _ _ _ => ?_)
      simp only [go_sem, Nat.reduceLT, Nat.reduceEqDiff, reduceCtorEq, Int.reduceLT, Int.reduceEq, hs, e7, hwr]
      refine ih (i + 1) (acc' ++ [p]) _ va' b' _ _ Q (by omega) (by rw [List.length_append, List.length_singleton]; omega) hA4 (hRB.snoc ⟨_, rfl, hc'⟩) (by simp only [slot_len, hs]) (by simp only [go_sem, Nat.reduceLT, Nat.reduceEqDiff, reduceCtorEq, Int.reduceLT, Int.reduceEq, e0]) (by simp only [go_sem, Nat.reduceLT, Nat.reduceEqDiff, reduceCtorEq, Int.reduceLT, Int.reduceEq, e3]) (by simp only [go_sem, Nat.reduceLT, Nat.reduceEqDiff, reduceCtorEq, Int.reduceLT, Int.reduceEq, hs]) (by simp only [go_sem, Nat.reduceLT, Nat.reduceEqDiff, reduceCtorEq, Int.reduceLT, Int.reduceEq, e6]) (by simp only [go_sem, Nat.reduceLT, Nat.reduceEqDiff, reduceCtorEq, Int.reduceLT, Int.reduceEq, hs]) ?_
      intro s' h' va' elsA' a1 a2 a3 a4 a6 a7
      exact hQ s' h' va' elsA' a1 a2 a3 a4 a6 (by rw [List.append_assoc] at a7; exact a7)

theorem put_f38 {h : Heap} (hV : VF h 2 els u) (hR : RowsE els l) (hn : l.length ≤ 1000000) (hcr : SlV 1 (eB r.2) (.cv cr)) : Ret F 38 [u, .agg [txt r.1, .cv cr]] h fun v g => ∃ hh elsA, HExt h hh ∧ NB hh g 2 elsA v ∧ RowsE elsA (layF l r) := by
  refine call_E (fn := f38) rfl ?_
  simp only [f38]
  generalize hs0 : ([u, .agg [txt r.1, .cv cr]] ++ List.replicate _ VV.undef : List VV) = s
  have hs : s.length = 52 := by rw [← hs0]; rfl
  have h0 : s.getD 0 .undef = u := by rw [← hs0]; rfl
  have h1 : s.getD 1 .undef = .agg [txt r.1, .cv cr] := by rw [← hs0]; rfl
  clear hs0
  have bx : bxO h 2 (.agg [txt r.1, .cv cr]) = some (.ptr h.length 0, h ++ [.box [txt r.1, .cv cr] false]) := bx_agg rfl
  have x0 := HExt.push h (VO.box [txt r.1, .cv cr] false)
  have hB0 : (h ++ [VO.box [txt r.1, .cv cr] false])[h.length]? = some (.box [txt r.1, .cv cr] false) := at_last
  simp only [go_sem, Nat.reduceLT, Nat.reduceEqDiff, reduceCtorEq, Int.reduceLT, Int.reduceEq, hs, h1, bx]
  refine f38_loop (h0 := h ++ [VO.box [txt r.1, .cv cr] false]) (p0 := h.length) (fun g hg => hV.ext (x0.trans hg)) hB0 hR hn hcr l.length 0 [] [] nilS false _ _ _ (by omega) (by simp) (NB.nil _ _) .nil (by simp only [slot_len, hs]) (by simp only [go_sem, Nat.reduceLT, Nat.reduceEqDiff, reduceCtorEq, Int.reduceLT, Int.reduceEq, h0]) (by simp only [go_sem, Nat.reduceLT, Nat.reduceEqDiff, reduceCtorEq, Int.reduceLT, Int.reduceEq, hs]) (by simp only [go_sem, Nat.reduceLT, Nat.reduceEqDiff, reduceCtorEq, Int.reduceLT, Int.reduceEq, hs]) (by simp only [go_sem, Nat.reduceLT, Nat.reduceEqDiff, reduceCtorEq, Int.reduceLT, Int.reduceEq, hs]) (by simp only [go_sem, Nat.reduceLT, Nat.reduceEqDiff, reduceCtorEq, Int.reduceLT, Int.reduceEq, hs]; rfl) (fun s' h' va' elsA' a1 a2 a3 a4 a6 a7 => ?_)
  rw [List.drop_zero, List.nil_append] at a7
  rw [List.drop_zero] at a4
  have hAl := a7.len
  have hln := layS_len r l false
  have a5 := a6.ext.get hB0
  simp only [go_sem, Nat.reduceLT, Nat.reduceEqDiff, reduceCtorEq, Int.reduceLT, Int.reduceEq, a1]
  rw [X_eq f38_3.eq_1]
  cases d : (layS r l false).2 with
  | true =>
    rw [d] at a4
    simp only [go_sem, Nat.reduceLT, Nat.reduceEqDiff, reduceCtorEq, Int.reduceLT, Int.reduceEq, a1, a4, a3]
    exact ⟨_, elsA', x0, a6, by unfold layF; rw [if_pos d]; exact a7⟩
  | false =>
    rw [d] at a4
    have lb2 : ldO h' true 2 (.ptr h.length 0) = some (.agg [txt r.1, .cv cr], h') := ld_bxN a5 rfl
    simp only [go_sem, Nat.reduceLT, Nat.reduceEqDiff, reduceCtorEq, Int.reduceLT, Int.reduceEq, a1, a4, a3, a2, lb2, mk_row]
    refine XO_appNB a6 (by simp only [go_sem, Nat.reduceLT, Nat.reduceEqDiff, reduceCtorEq, Int.reduceLT, Int.reduceEq, a1, a3]) (by simp only [go_sem, Nat.reduceLT, Nat.reduceEqDiff, reduceCtorEq, Int.reduceLT, Int.reduceEq, a1, src_sl]; rfl) (by simp only [List.length_singleton]; omega) (by simp only [List.length_singleton]; omega) (fun va' h4 hA4 _ _ _ => ?_)
    simp only [go_sem, Nat.reduceLT, Nat.reduceEqDiff, reduceCtorEq, Int.reduceLT, Int.reduceEq, a1]
    exact ⟨_, _, x0, hA4, by unfold layF; rw [if_neg (by rw [d]; simp)]; exact a7.snoc ⟨_, rfl, hcr⟩⟩
end

theorem put_pure {l : List KV} {els : List (List CV)} {u : VV} {r : KV} {cr : CV} (hu : SlV 2 els u) (hR : RowsE els l) (hn : l.length ≤ 1000000) (hcr : SlV 1 (eB r.2) (.cv cr)) : RetP F 38 [u, .agg [txt r.1, .cv cr]] fun w => ∃ els', SlV 2 els' w ∧ RowsE els' (layF l r) := by
  obtain ⟨v, g, n1, hh, elsA, _, B, R⟩ := put_f38 (h := []) hu.vf hR hn hcr
  obtain ⟨w, c1, c2⟩ := B.res
  exact ⟨v, g, n1, w, c1, elsA, c2, R⟩

theorem f37_loop {h0 : Heap} {l : List KV} {els : List (List CV)} {u : VV} {key : List UInt8} (hu : SlV 2 els u) (hR : RowsE els l) (hn : l.length ≤ 1000000) :
    ∀ (m i : Nat) (acc : List KV) (elsA : List (List CV)) (va : VV) (s : List VV) (h : Heap) (Q : Pst), i + m = l.length → acc.length ≤ i → NB h0 h 2 elsA va → RowsE elsA acc → s.length = 28 → s.getD 0 .undef = u → s.getD 1 .undef = txt key → s.getD 5 .undef = va → s.getD 6 .undef = vi .i64 i →
      (∀ s' h' elsA' va', s'.length = 28 → s'.getD 5 .undef = va' → NB h0 h' 2 elsA' va' → RowsE elsA' (acc ++ lessK (l.drop i) key) → Q (.exit 0) ⟨s', h'⟩) → X F (.loop f37_0) ⟨s, h⟩ Q := by
  intro m
  have hpl := hR.len
  induction m with
  | zero =>
    intro i acc elsA va s h Q hi ha hN hA hs e0 e1 e5 e6 hQ
    have c : ¬ ((i : Nat) : Int) < (els.length : Int) := by omega
    rw [X_loop, X_eq f37_0.eq_1]
    simp only [go_sem, Nat.reduceLT, Nat.reduceEqDiff, reduceCtorEq, Int.reduceLT, Int.reduceEq, hs, e0, e6, hu.ln, c]
    exact hQ _ _ elsA va (by simp only [slot_len, hs]) (by simp only [go_sem, Nat.reduceLT, Nat.reduceEqDiff, reduceCtorEq, Int.reduceLT, Int.reduceEq, e5]) hN (by rw [List.drop_eq_nil_of_le (by omega)]; simpa [lessK] using hA)
  | succ m ih =>
    intro i acc elsA va s h Q hi ha hN hA hs e0 e1 e5 e6 hQ
    have c : ((i : Nat) : Int) < (els.length : Int) := by omega
    obtain ⟨e, x, he, hx, cc, rfl, hcx⟩ := hR.get (i := i) (by omega)
    have hd : l.drop i = x :: l.drop (i + 1) := by
      obtain ⟨la, e⟩ := List.getElem?_eq_some_iff.1 hx
      rw [List.drop_eq_getElem_cons la, e]
    rw [hd] at hQ
    have hal := hA.len
    have ia : ∀ g : Heap, iaO g 2 u (vi .i64 (i : Int)) = some (.rptr [.sc (.string ⟨x.1.toArray⟩), cc], g) := fun g => hu.ia (by omega) (by rw [Int.toNat_natCast]; exact he)
    have l2 : ∀ g : Heap, ldO g true 2 (.rptr [.sc (.string ⟨x.1.toArray⟩), cc]) = some (.agg [txt x.1, .cv cc], g) := fun g => ld_r_2
    have w6 : IntKind.i64.wrap ((i : Int) + 1) = ((i + 1 : Nat) : Int) := by rw [IntWalk.i64_in _ (by omega)]; omega
    rw [X_loop, X_eq f37_0.eq_1]
    by_cases d : x.1 = key
    · have hl : lessK (x :: l.drop (i + 1)) key = lessK (l.drop (i + 1)) key := by simp [lessK, d]
      rw [hl] at hQ
      have dn : decide (x.1 ≠ key) = false := by simp [d]
      simp only [go_sem, Nat.reduceLT, Nat.reduceEqDiff, reduceCtorEq, Int.reduceLT, Int.reduceEq, hs, e0, e1, e5, e6, hu.ln, c, ia, dn, d, w6]
      exact ih (i + 1) acc elsA va _ _ Q (by omega) (by omega) hN hA (by simp only [slot_len, hs]) (by simp only [go_sem, Nat.reduceLT, Nat.reduceEqDiff, reduceCtorEq, Int.reduceLT, Int.reduceEq, e0]) (by simp only [go_sem, Nat.reduceLT, Nat.reduceEqDiff, reduceCtorEq, Int.reduceLT, Int.reduceEq, e1, d]) (by simp only [go_sem, Nat.reduceLT, Nat.reduceEqDiff, reduceCtorEq, Int.reduceLT, Int.reduceEq, e5]) (by simp only [go_sem, Nat.reduceLT, Nat.reduceEqDiff, reduceCtorEq, Int.reduceLT, Int.reduceEq, hs]) hQ
    · have hl : lessK (x :: l.drop (i + 1)) key = x :: lessK (l.drop (i + 1)) key := by simp [lessK, d]
      rw [hl] at hQ
      have dn : decide (x.1 ≠ key) = true := by simp [d]
      simp only [go_sem, Nat.reduceLT, Nat.reduceEqDiff, reduceCtorEq, Int.reduceLT, Int.reduceEq, hs, e0, e1, e5, e6, hu.ln, c, ia, dn, d, l2, mk_row]
      refine XO_appNB hN (new := [[.sc (.string ⟨x.1.toArray⟩), cc]]) (by simp only [go_sem, Nat.reduceLT, Nat.reduceEqDiff, reduceCtorEq, Int.reduceLT, Int.reduceEq, hs, e5]) (by simp only [go_sem, Nat.reduceLT, Nat.reduceEqDiff, reduceCtorEq, Int.reduceLT, Int.reduceEq, hs, src_sl]) (by simp only [List.length_singleton]; omega) (by simp only [List.length_singleton]; omega) (fun v1 g1 B1 _ _ _ => ?_)
      simp only [go_sem, Nat.reduceLT, Nat.reduceEqDiff, reduceCtorEq, Int.reduceLT, Int.reduceEq, hs, e6, w6]
      refine ih (i + 1) (acc ++ [x]) _ v1 _ _ Q (by omega) (by rw [List.length_append, List.length_singleton]; omega) B1 (hA.snoc ⟨_, rfl, hcx⟩) (by simp only [slot_len, hs]) (by simp only [go_sem, Nat.reduceLT, Nat.reduceEqDiff, reduceCtorEq, Int.reduceLT, Int.reduceEq, e0]) (by simp only [go_sem, Nat.reduceLT, Nat.reduceEqDiff, reduceCtorEq, Int.reduceLT, Int.reduceEq, e1]) (by simp only [go_sem, Nat.reduceLT, Nat.reduceEqDiff, reduceCtorEq, Int.reduceLT, Int.reduceEq, hs]) (by simp only [go_sem, Nat.reduceLT, Nat.reduceEqDiff, reduceCtorEq, Int.reduceLT, Int.reduceEq, hs]) (fun s' h' elsA' va' a1 a2 a3 a4 => hQ s' h' elsA' va' a1 a2 a3 (by rw [List.append_assoc] at a4; exact a4))

theorem without_f37 {l : List KV} {els : List (List CV)} {u : VV} {key : List UInt8} (hu : SlV 2 els u) (hR : RowsE els l) (hn : l.length ≤ 1000000) : RetP F 37 [u, txt key] fun w => ∃ els', SlV 2 els' w ∧ RowsE els' (lessK l key) := by
  have : Ret F 37 [u, txt key] [] fun v g => ∃ els', NB [] g 2 els' v ∧ RowsE els' (lessK l key) := by
    refine call_E (fn := f37) rfl ?_
    simp only [f37]
    generalize hs0 : ([u, txt key] ++ List.replicate _ VV.undef : List VV) = s
    have hs : s.length = 28 := by rw [← hs0]; rfl
    have h0 : s.getD 0 .undef = u := by rw [← hs0]; rfl
    have h1 : s.getD 1 .undef = txt key := by rw [← hs0]; rfl
    clear hs0
    simp only [go_sem, Nat.reduceLT, Nat.reduceEqDiff, reduceCtorEq, Int.reduceLT, Int.reduceEq, hs]
    refine f37_loop (h0 := []) (key := key) hu hR hn l.length 0 [] [] nilS _ _ _ (by omega) (by simp) (NB.nil _ _) .nil (by simp only [slot_len, hs]) (by simp only [go_sem, Nat.reduceLT, Nat.reduceEqDiff, reduceCtorEq, Int.reduceLT, Int.reduceEq, h0]) (by simp only [go_sem, Nat.reduceLT, Nat.reduceEqDiff, reduceCtorEq, Int.reduceLT, Int.reduceEq, h1]) (by simp only [go_sem, Nat.reduceLT, Nat.reduceEqDiff, reduceCtorEq, Int.reduceLT, Int.reduceEq, hs]) (by simp only [go_sem, Nat.reduceLT, Nat.reduceEqDiff, reduceCtorEq, Int.reduceLT, Int.reduceEq, hs]; rfl) (fun s' h' elsA' va' a1 a2 a3 a4 => ?_)
    rw [List.drop_zero, List.nil_append] at a4
    simp only [go_sem, Nat.reduceLT, Nat.reduceEqDiff, reduceCtorEq, Int.reduceLT, Int.reduceEq, a1, a2]
    exact ⟨elsA', a3, a4⟩
  obtain ⟨v, g, n1, els', B, R⟩ := this
  obtain ⟨w, c1, c2⟩ := B.res
  exact ⟨v, g, n1, w, c1, els', c2, R⟩
end Go.V07

set_option linter.unusedSimpArgs false
set_option linter.unusedVariables false
namespace Go.V07
open Go Go.Vm

theorem XD_appBG {h : Heap} {z by_ : Nat} {zero : List CV} {els new : List (List CV)} {v : VV} {x y : Opd} {s : List VV} {d : Option Nat} {q : List (Op1 × Cl)} {Q : Pst} (b : BufG h z els v) (hx : evalO s x = v) (hy : srcOf h z (evalO s y) = some new) (h1 : (els.length + new.length) * by_ ≤ 35184372088832) (h2 : els.length + new.length ≤ 35184372088832)
    (hk : ∀ v' h', BufG h' z (els ++ new) v' → KG z h h' → XD F q ⟨putD s d v', h'⟩ Q) : XD F ((⟨none, d, .app z by_ zero x y⟩, .k) :: q) ⟨s, h⟩ Q := by
  obtain ⟨v', h', e1, e2, e3⟩ := app_BG (zero := zero) b hx hy h1 h2
  rw [XD_ins rfl, e1, XVD_k]
  exact hk v' h' e2 e3
theorem en_r {neg : Bool} {l : List CV} : enO .ptr neg (.rptr l) = some (vb neg) := by cases neg <;> rfl

/-! ### what has become of rows -/
def delta : Option KV → Option KV → List Ch
  | some x, none => [(x.1, [], true)]
  | none, some y => [(y.1, y.2, false)]
  | some x, some y => if x.2 = y.2 then [] else [(y.1, y.2, false)]
  | none, none => []
def PV (r : Option KV) (v : VV) : Prop := match r with
  | none => v = .cv (.sc (.pointer none))
  | some r => ∃ c, v = .rptr [.sc (.string ⟨r.1.toArray⟩), c] ∧ SlV 1 (eB r.2) (.cv c) ∧ r.2.length ≤ 1000000000

theorem round_diff {s0 : List VV} (hs0 : s0.length = 53) (k5 : s0.getD 5 .undef = .ptr 0 0) {g : Heap} {vo : VV} {els : List (List CV)} {acc : List Ch} (hO : g[0]? = some (.box [vo] false)) (hB : BufG g 3 els vo) (hC : ChsE els acc) {p0 : Option Jmp} (hp : g[3]? = some (.loop [11, 12] f21_0 f21_1 s0 .ready p0))
    {x y : Option KV} {vx vy : VV} (hx : PV x vx) (hy : PV y vy) (hne : x ≠ none ∨ y ≠ none) (hl : els.length ≤ 1000000000) :
    ∃ h' vo' els', call F (YB + 3) [vx, vy] g = some (.ret (vb true), h') ∧ h'[3]? = some (.loop [11, 12] f21_0 f21_1 s0 .ready none) ∧ h'[0]? = some (.box [vo'] false) ∧ BufG h' 3 els' vo' ∧ ChsE els' (acc ++ delta x y) ∧ (∀ j, j ≠ 0 → ∀ (cells : List VV) (fr : Bool), g[j]? = some (.box cells fr) → h'[j]? = some (.box cells fr)) := by
  have key := round_X (F := F) (id := 3) (by cases h : F (YB + 3) with
    | none => rfl
    | some fn => have := tlt h; omega) (ps := [11, 12]) (asg := f21_0) (body := f21_1) (s0 := s0) (a := [vx, vy]) (h := g) (P := fun v h' => v = vb true ∧ ∃ vo' els', h'[3]? = some (.loop [11, 12] f21_0 f21_1 s0 .ready none) ∧ h'[0]? = some (.box [vo'] false) ∧ BufG h' 3 els' vo' ∧ ChsE els' (acc ++ delta x y) ∧ (∀ j, j ≠ 0 → ∀ (cells : List VV) (fr : Bool), g[j]? = some (.box cells fr) → h'[j]? = some (.box cells fr))) hp rfl ?_
  · obtain ⟨v, h', e1, rfl, vo', els', e2⟩ := key
    exact ⟨h', vo', els', e1, e2⟩
  have hset : setAll s0 [11, 12] [vx, vy] = (s0.set 11 vx).set 12 vy := rfl
  rw [hset, X_eq f21_0.eq_1]
  simp only [go_sem, Nat.reduceLT, Nat.reduceEqDiff, reduceCtorEq, Int.reduceLT, Int.reduceEq, hs0]
  refine ⟨rfl, p0, hp, ?_⟩
  dsimp only
  have hp1 : (g.set 3 (.loop [11, 12] f21_0 f21_1 s0 .busy p0))[3]? = some (.loop [11, 12] f21_0 f21_1 s0 .busy p0) := List.getElem?_set_self (lt_at hp)
  have hO1 : (g.set 3 (.loop [11, 12] f21_0 f21_1 s0 .busy p0))[0]? = some (.box [vo] false) := by rw [List.getElem?_set_ne (by omega)]; exact hO
  have hB1 := hB.setLoop hp (.loop [11, 12] f21_0 f21_1 s0 .busy p0)
  have kp : ∀ (j : Nat) (cells : List VV) (fr : Bool), g[j]? = some (.box cells fr) → (g.set 3 (.loop [11, 12] f21_0 f21_1 s0 .busy p0))[j]? = some (.box cells fr) := fun j cells fr hj => by
    rw [List.getElem?_set_ne (by rintro rfl; rw [hp] at hj; cases hj)]; exact hj
  generalize g.set 3 (.loop [11, 12] f21_0 f21_1 s0 .busy p0) = g1 at hp1 hO1 hB1 kp
  have n3 : ∀ (j : Nat) (cells : List VV) (fr : Bool), g[j]? = some (.box cells fr) → j ≠ 3 := by rintro j cells fr ho rfl; rw [hp] at ho; cases ho
  have fin : ∀ (g2 : Heap) (vo' : VV) (els' : List (List CV)), BufG g2 3 els' vo' → ChsE els' (acc ++ delta x y) → KG 3 g1 g2 → ∃ g3, stO g2 1 (.ptr 0 0) vo' = some (.undef, g3) ∧ ∀ s' : List VV, RB 3 [11, 12] f21_0 f21_1 s0 (fun v h' => v = vb true ∧ ∃ vo' els', h'[3]? = some (.loop [11, 12] f21_0 f21_1 s0 .ready none) ∧ h'[0]? = some (.box [vo'] false) ∧ BufG h' 3 els' vo' ∧ ChsE els' (acc ++ delta x y) ∧ (∀ j, j ≠ 0 → ∀ (cells : List VV) (fr : Bool), g[j]? = some (.box cells fr) → h'[j]? = some (.box cells fr))) .norm ⟨s', g3⟩ := by
    intro g2 vo' els' B2 C2 kg
    have hO2 := kg.box hO1
    have hp2 := kg.loop hp1
    have st2 := st_1 (v := vo') B2.vf_cell hO2 (show 0 < 1 by decide)
    simp only [List.set_cons_zero] at st2
    refine ⟨_, st2, fun s' => ?_⟩
    refine ⟨none, .busy, p0, rfl, by rw [List.getElem?_set_ne (by omega)]; exact hp2, rfl, vo', els', List.getElem?_set_self (by rw [List.length_set]; exact lt_at hp2), ?_, ?_, C2, ?_⟩
    · rw [List.getElem?_set_ne (by omega)]; exact List.getElem?_set_self (lt_at hO2)
    · exact BufG.setLoop (ps := [11, 12]) (a := f21_0) (b := f21_1) (s := s0) (t := .busy) (p := p0) (B2.setBox hO2 _) (by rw [List.getElem?_set_ne (by omega)]; exact hp2) _
    · intro j hj cells fr ho
      have h1 := kg.box (kp j cells fr ho)
      have := n3 j cells fr ho
      rw [List.getElem?_set_ne (fun e => this e.symm), List.getElem?_set_ne (fun e => hj e.symm)]; exact h1
  have bdG : ∀ t : CV, bdO [.cv (.sc (.string ⟨#[]⟩)), .cv (.sc (.slice none 0 0)), .cv (.sc (.bool false))] [(0, 1, .cv t), (2, 1, .cv (.sc (.bool true)))] = some (.agg [.cv t, nilS, .cv (.sc (.bool true))]) := fun t => rfl
  have bdV : ∀ t c : CV, bdO [.cv (.sc (.string ⟨#[]⟩)), .cv (.sc (.slice none 0 0)), .cv (.sc (.bool false))] [(0, 1, .cv t), (1, 1, .cv c)] = some (.agg [.cv t, .cv c, .cv (.sc (.bool false))]) := fun t c => rfl
  have mk3 : ∀ (h : Heap) (a b c : CV), mkO h 3 1 [.cv (.sc (.string ⟨#[]⟩)), .cv (.sc (.slice none 0 0)), .cv (.sc (.bool false))] [(0, 3, .agg [.cv a, .cv b, .cv c])] = some (.cv (.sl 3 [[a, b, c]] true), h) := fun h a b c => rfl
  rw [X_eq f21_1.eq_1]
  -- a value of y's own
  have putY : ∀ (r : KV) (c : CV) (s1 : List VV), vy = .rptr [.sc (.string ⟨r.1.toArray⟩), c] → SlV 1 (eB r.2) (.cv c) → r.2.length ≤ 1000000000 → delta x y = [(r.1, r.2, false)] → s1.length = 53 → s1.getD 5 .undef = .ptr 0 0 → s1.getD 7 .undef = vy →
      X F (.draw [(⟨none, (some 39), (.ld false 1 (.t 5))⟩, (.r 0 0)), (⟨none, (some 40), (.mv (.t 7))⟩, .p), (⟨none, (some 41), (.nilck (.t 40))⟩, .p), (⟨none, (some 42), (.fad 0 (.t 41))⟩, .p), (⟨none, (some 43), (.ld false 1 (.t 42))⟩, (.r 0 0)), (⟨none, (some 44), (.mv (.t 7))⟩, .p), (⟨none, (some 45), (.nilck (.t 44))⟩, .p), (⟨none, (some 46), (.fad 1 (.t 45))⟩, .p), (⟨none, (some 47), (.ld false 1 (.t 46))⟩, (.r 0 0)), (⟨none, (some 48), (.call 36 true [(.t 47)])⟩, (.r 0 0)),
        (⟨none, (some 49), (.build [(.cv (.sc (.string ⟨#[]⟩))), (.cv (.sc (.slice none 0 0))), (.cv (.sc (.bool false)))] [(0, (1, (.t 43))), (1, (1, (.t 48)))])⟩, .p), (⟨none, (some 50), (.mksl 3 1 [(.cv (.sc (.string ⟨#[]⟩))), (.cv (.sc (.slice none 0 0))), (.cv (.sc (.bool false)))] [(0, (3, (.t 49)))] false)⟩, (.r 0 0)), (⟨none, (some 51), (.app 3 48 [(.sc (.string ⟨#[]⟩)), (.sc (.slice none 0 0)), (.sc (.bool false))] (.t 39) (.t 50))⟩, .k), (⟨none, none, (.st 1 (.t 5) (.t 51))⟩, .k)]) ⟨s1, g1⟩
        (B 2 (B 1 (RB 3 [11, 12] f21_0 f21_1 s0 (fun v h' => v = vb true ∧ ∃ vo' els', h'[3]? = some (.loop [11, 12] f21_0 f21_1 s0 .ready none) ∧ h'[0]? = some (.box [vo'] false) ∧ BufG h' 3 els' vo' ∧ ChsE els' (acc ++ delta x y) ∧ (∀ j, j ≠ 0 → ∀ (cells : List VV) (fr : Bool), g[j]? = some (.box cells fr) → h'[j]? = some (.box cells fr)))))) := by
    intro r c s1 ey hc hrl hd hs1 e5 e7
    obtain ⟨v36, h36, n36, w36, r36, S36⟩ := cloneB_f36 hc hrl
    obtain ⟨c36, rfl⟩ : ∃ c2, w36 = .cv c2 := by rcases S36 with ⟨rfl, _⟩ | ⟨ex, rfl⟩ <;> exact ⟨_, rfl⟩
    refine X_draw rfl ?_
    simp only [go_sem, Nat.reduceLT, Nat.reduceEqDiff, reduceCtorEq, Int.reduceLT, Int.reduceEq, hs1, e5, e7, ey, ld_p0 hO1]
    refine XD_callP (by simp only [List.map, go_sem, Nat.reduceLT, Nat.reduceEqDiff, reduceCtorEq, Int.reduceLT, Int.reduceEq, hs1]; exact hc.clos rfl) n36 r36 ?_
    simp only [go_sem, Nat.reduceLT, Nat.reduceEqDiff, reduceCtorEq, Int.reduceLT, Int.reduceEq, hs1, bdV, mk3]
    refine XD_appBG hB1 (new := [[.sc (.string ⟨r.1.toArray⟩), c36, .sc (.bool false)]]) (by simp only [go_sem, Nat.reduceLT, Nat.reduceEqDiff, reduceCtorEq, Int.reduceLT, Int.reduceEq, hs1]) (by simp only [go_sem, Nat.reduceLT, Nat.reduceEqDiff, reduceCtorEq, Int.reduceLT, Int.reduceEq, hs1]) (by simp only [List.length_singleton]; omega) (by simp only [List.length_singleton]; omega) (fun v' h' B2 kg => ?_)
    obtain ⟨g3, q1, q2⟩ := fin h' v' _ B2 (by rw [hd]; exact hC.snoc (p := (r.1, r.2, false)) ⟨c36, rfl, S36⟩) kg
    simp only [go_sem, Nat.reduceLT, Nat.reduceEqDiff, reduceCtorEq, Int.reduceLT, Int.reduceEq, hs1, e5, q1]
    exact q2 _
  cases y with
  | none =>
    obtain rfl : vy = .cv (.sc (.pointer none)) := hy
    cases x with
    | none => exact absurd rfl (hne.elim id id)
    | some r =>
      obtain ⟨c, rfl, hc, hrl⟩ := hx
      simp only [go_sem, Nat.reduceLT, Nat.reduceEqDiff, reduceCtorEq, Int.reduceLT, Int.reduceEq, hs0]
      refine X_draw rfl ?_
      simp only [go_sem, Nat.reduceLT, Nat.reduceEqDiff, reduceCtorEq, Int.reduceLT, Int.reduceEq, hs0, k5, ld_p0 hO1, bdG, mk3]
      refine XD_appBG hB1 (new := [[.sc (.string ⟨r.1.toArray⟩), .sc (.slice none 0 0), .sc (.bool true)]]) (by simp only [go_sem, Nat.reduceLT, Nat.reduceEqDiff, reduceCtorEq, Int.reduceLT, Int.reduceEq, hs0]) (by simp only [go_sem, Nat.reduceLT, Nat.reduceEqDiff, reduceCtorEq, Int.reduceLT, Int.reduceEq, hs0]) (by simp only [List.length_singleton]; omega) (by simp only [List.length_singleton]; omega) (fun v' h' B2 kg => ?_)
      obtain ⟨g3, q1, q2⟩ := fin h' v' _ B2 (hC.snoc (p := (r.1, [], true)) ⟨_, rfl, .inl ⟨rfl, rfl⟩⟩) kg
      simp only [go_sem, Nat.reduceLT, Nat.reduceEqDiff, reduceCtorEq, Int.reduceLT, Int.reduceEq, hs0, k5, q1]
      exact q2 _
  | some r =>
    obtain ⟨c, rfl, hc, hrl⟩ := hy
    cases x with
    | none =>
      obtain rfl : vx = .cv (.sc (.pointer none)) := hx
      simp only [go_sem, Nat.reduceLT, Nat.reduceEqDiff, reduceCtorEq, Int.reduceLT, Int.reduceEq, hs0, en_r]
      refine X_draw rfl ?_
      simp only [go_sem, Nat.reduceLT, Nat.reduceEqDiff, reduceCtorEq, Int.reduceLT, Int.reduceEq, hs0, en_pn, Bool.not_false]
      exact putY r c _ rfl hc hrl rfl (by simp only [slot_len, hs0]) (by simp only [go_sem, Nat.reduceLT, Nat.reduceEqDiff, reduceCtorEq, Int.reduceLT, Int.reduceEq, k5]) (by simp only [go_sem, Nat.reduceLT, Nat.reduceEqDiff, reduceCtorEq, Int.reduceLT, Int.reduceEq, hs0])
    | some q =>
      obtain ⟨cq, rfl, hcq, hql⟩ := hx
      simp only [go_sem, Nat.reduceLT, Nat.reduceEqDiff, reduceCtorEq, Int.reduceLT, Int.reduceEq, hs0, en_r]
      refine X_draw rfl ?_
      simp only [go_sem, Nat.reduceLT, Nat.reduceEqDiff, reduceCtorEq, Int.reduceLT, Int.reduceEq, hs0, en_r]
      have n40 := equal_f40 hcq hc
      obtain ⟨t, ht⟩ : ∃ t, t = decide (q.2 = r.2) := ⟨_, rfl⟩
      rw [← ht] at n40
      refine XD_callP (f := 40) (args := [.t 31, .t 35]) («as» := [.cv cq, .cv c]) (v := vb t) (w := vb t) (hc := []) ?_ n40 rfl ?_
      · simp only [List.map, go_sem, Nat.reduceLT, Nat.reduceEqDiff, reduceCtorEq, Int.reduceLT, Int.reduceEq, hs0]; exact hcq.clos (hc.clos rfl)
      cases t with
      | true =>
        have d : q.2 = r.2 := by simpa using ht.symm
        have hd : delta (some q) (some r) = [] := by simp [delta, d]
        simp only [go_sem, Nat.reduceLT, Nat.reduceEqDiff, reduceCtorEq, Int.reduceLT, Int.reduceEq, hs0]
        refine ⟨none, .busy, p0, rfl, hp1, rfl, vo, els, List.getElem?_set_self (lt_at hp1), ?_, ?_, ?_, ?_⟩
        · rw [List.getElem?_set_ne (by omega)]; exact hO1
        · exact hB1.setLoop hp1 _
        · rw [hd, List.append_nil]; exact hC
        · intro j hj cells fr ho
          have := n3 j cells fr ho
          rw [List.getElem?_set_ne (fun e => this e.symm)]; exact kp j cells fr ho
      | false =>
        have d : ¬ q.2 = r.2 := by simpa using ht.symm
        have hd : delta (some q) (some r) = [(r.1, r.2, false)] := by simp [delta, d]
        simp only [go_sem, Nat.reduceLT, Nat.reduceEqDiff, reduceCtorEq, Int.reduceLT, Int.reduceEq, hs0]
        exact putY r c _ rfl hc hrl hd (by simp only [slot_len, hs0]) (by simp only [go_sem, Nat.reduceLT, Nat.reduceEqDiff, reduceCtorEq, Int.reduceLT, Int.reduceEq, k5]) (by simp only [go_sem, Nat.reduceLT, Nat.reduceEqDiff, reduceCtorEq, Int.reduceLT, Int.reduceEq, hs0])
end Go.V07

set_option linter.unusedSimpArgs false
set_option linter.unusedVariables false
namespace Go.V07
open Go Go.Vm

def diffP : Nat → List KV → List KV → List Ch
  | 0, _, _ => []
  | _ + 1, [], [] => []
  | n + 1, x :: a, [] => delta (some x) none ++ diffP n a []
  | n + 1, [], y :: b => delta none (some y) ++ diffP n [] b
  | n + 1, x :: a, y :: b => if bl_le x.1 y.1 = true then (if y.1 = x.1 then delta (some x) (some y) ++ diffP n a b else delta (some x) none ++ diffP n a (y :: b)) else delta none (some y) ++ diffP n (x :: a) b
def diffF (a b : List KV) : List Ch := diffP (a.length + b.length) a b
def SmallV (l : List KV) : Prop := ∀ r ∈ l, r.2.length ≤ 1000000000

/-- What a range over pairs has done. -/
structure DG (s0 : List VV) (a b : List KV) (acc : List Ch) (g : Heap) : Prop where
  a1 : ∃ ea va, RowsE ea a ∧ SlV 2 ea va ∧ g[1]? = some (.box [va] false)
  b1 : ∃ eb vb_, RowsE eb b ∧ SlV 2 eb vb_ ∧ g[2]? = some (.box [vb_] false)
  o1 : ∃ els vo, g[0]? = some (.box [vo] false) ∧ BufG g 3 els vo ∧ ChsE els acc
  p : g[3]? = some (.loop [11, 12] f21_0 f21_1 s0 .ready none)
  sa : SmallV a
  sb : SmallV b
structure DSl (s : List VV) : Prop where
  l : s.length = 66
  s0 : s.getD 0 .undef = .yield 3
  s1 : s.getD 1 .undef = .ptr 1 0
  s2 : s.getD 2 .undef = .ptr 2 0

section
variable {s0 : List VV} {a b : List KV} {acc : List Ch} {g : Heap} {s : List VV} {Q : Pst}
theorem f53_round (hs0 : s0.length = 53) (k5 : s0.getD 5 .undef = .ptr 0 0) (hac : acc.length ≤ 1000000) (D : DG s0 a b acc g) (S : DSl s) {x y : Option KV} {vx vy : VV} (hx : PV x vx) (hy : PV y vy) (hne : x ≠ none ∨ y ≠ none) (p4 : s.getD 4 .undef = vx) (p5 : s.getD 5 .undef = vy)
    (k : ∀ s2 g2, DSl s2 → DG s0 a b (acc ++ delta x y) g2 → X F (.loop f53_3) ⟨s2, g2⟩ Q) :
    X F (.seq (.reg [⟨none, (some 61), (.mv (.t 0))⟩, ⟨none, (some 62), (.mv (.t 4))⟩, ⟨none, (some 63), (.mv (.t 5))⟩, ⟨none, (some 64), (.callv false (.t 61) [(.t 62), (.t 63)])⟩, ⟨none, (some 65), (.un .not (.t 64))⟩]) (.cond (.t 65) .ret .skip)) ⟨s, g⟩ (B 1 (K F (.loop f53_3) Q)) := by
  obtain ⟨els, vo, q0, qB, qC⟩ := D.o1
  have hcl := qC.len
  obtain ⟨g2, vo', els', n3, r3, r0, rB, rC, kp⟩ := round_diff hs0 k5 q0 qB qC D.p hx hy hne (by omega)
  obtain ⟨ea, va, A1, A2, A3⟩ := D.a1
  obtain ⟨eb, vb_, B1, B2, B3⟩ := D.b1
  have hs := S.l
  simp only [go_sem, Nat.reduceLT, Nat.reduceEqDiff, reduceCtorEq, Int.reduceLT, Int.reduceEq, hs, S.s0, p4, p5]
  refine XO_yield (id := 3) (by simp only [go_sem, Nat.reduceLT, Nat.reduceEqDiff, reduceCtorEq, Int.reduceLT, Int.reduceEq, hs]) (by simp only [List.map, go_sem, Nat.reduceLT, Nat.reduceEqDiff, reduceCtorEq, Int.reduceLT, Int.reduceEq, hs]; exact n3) ?_
  simp only [go_sem, Nat.reduceLT, Nat.reduceEqDiff, reduceCtorEq, Int.reduceLT, Int.reduceEq, hs]
  exact k _ g2 ⟨by simp only [slot_len, hs], by simp only [go_sem, Nat.reduceLT, Nat.reduceEqDiff, reduceCtorEq, Int.reduceLT, Int.reduceEq, S.s0], by simp only [go_sem, Nat.reduceLT, Nat.reduceEqDiff, reduceCtorEq, Int.reduceLT, Int.reduceEq, S.s1], by simp only [go_sem, Nat.reduceLT, Nat.reduceEqDiff, reduceCtorEq, Int.reduceLT, Int.reduceEq, S.s2]⟩ ⟨⟨ea, va, A1, A2, kp 1 (by omega) _ _ A3⟩, ⟨eb, vb_, B1, B2, kp 2 (by omega) _ _ B3⟩, ⟨els', vo', r0, rB, rC⟩, r3, D.sa, D.sb⟩

theorem tl53 {els : List (List CV)} {v : VV} {r : KV} {l : List KV} (g : Heap) (hS : SlV 2 els v) (hR : RowsE els (r :: l)) : ∃ v' cc, SlV 2 (els.drop 1) v' ∧ slO g 2 v (some (vi .i64 1)) none none = some (v', g) ∧ RowsE (els.drop 1) l ∧ isCell v' = true ∧ (∀ g : Heap, iaO g 2 v (vi .i64 0) = some (.rptr [.sc (.string ⟨r.1.toArray⟩), cc], g)) ∧ SlV 1 (eB r.2) (.cv cc) ∧ ((els.length : Nat) : Int) ≠ 0 ∧ (0 : Int) < ((els.length : Nat) : Int) := by
  have hl := hR.len
  rw [List.length_cons] at hl
  obtain ⟨v', a1, a2⟩ := hS.from_ (h := g) (k := .i64) (a := 1) (by decide) (by omega)
  obtain ⟨e, r', he, hr, cc, rfl, hc⟩ := hR.get (i := 0) (by simp)
  simp at hr; subst hr
  exact ⟨v', cc, a1, a2, drop_E hR 1, by rcases a1 with ⟨rfl, _⟩ | ⟨_, rfl⟩ <;> rfl, fun g => hS.ia (by omega) he, hc, by omega, by omega⟩
theorem st53 {g : Heap} {i : Nat} {u v : VV} (h : g[i]? = some (.box [u] false)) (hv : isCell v = true) : stO g 1 (.ptr i 0) v = some (.undef, g.set i (.box [v] false)) := by
  have := st_1 hv h (show 0 < 1 by decide)
  simpa only [List.set_cons_zero] using this
theorem DG.tailA {x : KV} {va va' : VV} {ea' : List (List CV)} (D : DG s0 (x :: a) b acc g) (h1 : g[1]? = some (.box [va] false)) (hS : SlV 2 ea' va') (hR : RowsE ea' a) : DG s0 a b acc (g.set 1 (.box [va'] false)) := by
  obtain ⟨eb, vb_, B1, B2, B3⟩ := D.b1
  obtain ⟨els, vo, o1, o2, o3⟩ := D.o1
  exact ⟨⟨ea', va', hR, hS, List.getElem?_set_self (lt_at h1)⟩, ⟨eb, vb_, B1, B2, by rw [List.getElem?_set_ne (by omega)]; exact B3⟩, ⟨els, vo, by rw [List.getElem?_set_ne (by omega)]; exact o1, o2.setBox h1 _, o3⟩, by rw [List.getElem?_set_ne (by omega)]; exact D.p, fun r hr => D.sa r (by simp [hr]), D.sb⟩
theorem DG.tailB {y : KV} {vb_ vb' : VV} {eb' : List (List CV)} (D : DG s0 a (y :: b) acc g) (h2 : g[2]? = some (.box [vb_] false)) (hS : SlV 2 eb' vb') (hR : RowsE eb' b) : DG s0 a b acc (g.set 2 (.box [vb'] false)) := by
  obtain ⟨ea, va, A1, A2, A3⟩ := D.a1
  obtain ⟨els, vo, o1, o2, o3⟩ := D.o1
  exact ⟨⟨ea, va, A1, A2, by rw [List.getElem?_set_ne (by omega)]; exact A3⟩, ⟨eb', vb', hR, hS, List.getElem?_set_self (lt_at h2)⟩, ⟨els, vo, by rw [List.getElem?_set_ne (by omega)]; exact o1, o2.setBox h2 _, o3⟩, by rw [List.getElem?_set_ne (by omega)]; exact D.p, D.sa, fun r hr => D.sb r (by simp [hr])⟩

theorem step_nb {y : KV} (hs0 : s0.length = 53) (k5 : s0.getD 5 .undef = .ptr 0 0) (hac : acc.length ≤ 1000000) (D : DG s0 [] (y :: b) acc g) (S : DSl s) (k : ∀ s2 g2, DSl s2 → DG s0 [] b (acc ++ delta none (some y)) g2 → X F (.loop f53_3) ⟨s2, g2⟩ Q) : X F (.loop f53_3) ⟨s, g⟩ Q := by
  obtain ⟨ea, va, A1, A2, h1⟩ := D.a1
  obtain ⟨eb, vb_, B1, B2, h2⟩ := D.b1
  obtain ⟨v', cc, t1, t2, t3, t4, t5, t6, t7, t8⟩ := tl53 g B2 B1
  have st2 := st53 h2 t4
  have c1 : ¬ ((0 : Int) < ((ea.length : Nat) : Int)) := by rw [A1.len]; simp
  have hs := S.l
  rw [X_loop, X_eq f53_3.eq_1]
  simp only [go_sem, Nat.reduceLT, Nat.reduceEqDiff, reduceCtorEq, Int.reduceLT, Int.reduceEq, hs, S.s1, S.s2, ld_p0 h1, ld_p0 h2, A2.ln, B2.ln, gt_iff_lt, c1, t8]
  rw [X_eq f53_0.eq_1]
  simp only [go_sem, Nat.reduceLT, Nat.reduceEqDiff, reduceCtorEq, Int.reduceLT, Int.reduceEq, hs]
  refine X_draw rfl ?_
  simp only [go_sem, Nat.reduceLT, Nat.reduceEqDiff, reduceCtorEq, Int.reduceLT, Int.reduceEq, hs, S.s1, S.s2, ld_p0 h1, ld_p0 h2, A2.ln, B2.ln, gt_iff_lt, c1, t7]
  rw [X_eq f53_1.eq_1]
  simp only [go_sem, Nat.reduceLT, Nat.reduceEqDiff, reduceCtorEq, Int.reduceLT, Int.reduceEq, hs]
  refine X_draw rfl ?_
  simp only [go_sem, Nat.reduceLT, Nat.reduceEqDiff, reduceCtorEq, Int.reduceLT, Int.reduceEq, hs, en_pn, Bool.not_false]
  refine X_draw rfl ?_
  simp only [go_sem, Nat.reduceLT, Nat.reduceEqDiff, reduceCtorEq, Int.reduceLT, Int.reduceEq, hs, S.s2, ld_p0 h2, t5, t2, st2]
  refine mid (P := fun st => st.h = g.set 2 (.box [v'] false) ∧ DSl st.s ∧ st.s.getD 4 .undef = .cv (.sc (.pointer none)) ∧ st.s.getD 5 .undef = .rptr [.sc (.string ⟨y.1.toArray⟩), cc]) ?_ ?_
  · rw [X_eq f53_2.eq_1]
    simp only [go_sem, Nat.reduceLT, Nat.reduceEqDiff, reduceCtorEq, Int.reduceLT, Int.reduceEq, hs, en_pn, Bool.not_true]
    exact ⟨trivial, trivial, ⟨by simp only [slot_len, hs], by simp only [go_sem, Nat.reduceLT, Nat.reduceEqDiff, reduceCtorEq, Int.reduceLT, Int.reduceEq, S.s0], by simp only [go_sem, Nat.reduceLT, Nat.reduceEqDiff, reduceCtorEq, Int.reduceLT, Int.reduceEq, S.s1], by simp only [go_sem, Nat.reduceLT, Nat.reduceEqDiff, reduceCtorEq, Int.reduceLT, Int.reduceEq, S.s2]⟩, trivial, trivial⟩
  · rintro ⟨s1, g1⟩ ⟨e, S1, p4, p5⟩
    dsimp only at e S1 p4 p5
    subst e
    exact f53_round hs0 k5 hac (D.tailB h2 t1 t3) S1 (x := none) (y := some y) rfl ⟨cc, rfl, t6, D.sb y (by simp)⟩ (.inr (by simp)) p4 p5 k

theorem step_an {x : KV} (hs0 : s0.length = 53) (k5 : s0.getD 5 .undef = .ptr 0 0) (hac : acc.length ≤ 1000000) (D : DG s0 (x :: a) [] acc g) (S : DSl s) (k : ∀ s2 g2, DSl s2 → DG s0 a [] (acc ++ delta (some x) none) g2 → X F (.loop f53_3) ⟨s2, g2⟩ Q) : X F (.loop f53_3) ⟨s, g⟩ Q := by
  obtain ⟨ea, va, A1, A2, h1⟩ := D.a1
  obtain ⟨eb, vb_, B1, B2, h2⟩ := D.b1
  obtain ⟨v', cc, t1, t2, t3, t4, t5, t6, t7, t8⟩ := tl53 g A2 A1
  have st2 := st53 h1 t4
  have ebl : eb.length = 0 := B1.len
  have c1 : ((eb.length : Nat) : Int) = 0 := by omega
  have c2 : ¬ (0 : Int) < ((eb.length : Nat) : Int) := by omega
  have hs := S.l
  rw [X_loop, X_eq f53_3.eq_1]
  simp only [go_sem, Nat.reduceLT, Nat.reduceEqDiff, reduceCtorEq, Int.reduceLT, Int.reduceEq, hs, S.s1, S.s2, ld_p0 h1, ld_p0 h2, A2.ln, B2.ln, gt_iff_lt, t8]
  rw [X_eq f53_0.eq_1]
  simp only [go_sem, Nat.reduceLT, Nat.reduceEqDiff, reduceCtorEq, Int.reduceLT, Int.reduceEq, hs]
  refine X_draw rfl ?_
  simp only [go_sem, Nat.reduceLT, Nat.reduceEqDiff, reduceCtorEq, Int.reduceLT, Int.reduceEq, hs, S.s1, S.s2, ld_p0 h1, ld_p0 h2, A2.ln, B2.ln, gt_iff_lt, c1, t5]
  rw [X_eq f53_1.eq_1]
  simp only [go_sem, Nat.reduceLT, Nat.reduceEqDiff, reduceCtorEq, Int.reduceLT, Int.reduceEq, hs]
  refine X_draw rfl ?_
  simp only [go_sem, Nat.reduceLT, Nat.reduceEqDiff, reduceCtorEq, Int.reduceLT, Int.reduceEq, hs, S.s2, ld_p0 h2, B2.ln, en_r, gt_iff_lt, c2]
  refine mid (P := fun st => st.h = g.set 1 (.box [v'] false) ∧ DSl st.s ∧ st.s.getD 4 .undef = .rptr [.sc (.string ⟨x.1.toArray⟩), cc] ∧ st.s.getD 5 .undef = .cv (.sc (.pointer none))) ?_ ?_
  · rw [X_eq f53_2.eq_1]
    simp only [go_sem, Nat.reduceLT, Nat.reduceEqDiff, reduceCtorEq, Int.reduceLT, Int.reduceEq, hs, en_r, S.s1, ld_p0 h1, t2, st2]
    exact ⟨trivial, trivial, ⟨by simp only [slot_len, hs], by simp only [go_sem, Nat.reduceLT, Nat.reduceEqDiff, reduceCtorEq, Int.reduceLT, Int.reduceEq, S.s0], by simp only [go_sem, Nat.reduceLT, Nat.reduceEqDiff, reduceCtorEq, Int.reduceLT, Int.reduceEq, S.s1], by simp only [go_sem, Nat.reduceLT, Nat.reduceEqDiff, reduceCtorEq, Int.reduceLT, Int.reduceEq, S.s2]⟩, trivial, trivial⟩
  · rintro ⟨s1, g1⟩ ⟨e, S1, p4, p5⟩
    dsimp only at e S1 p4 p5
    subst e
    exact f53_round hs0 k5 hac (D.tailA h1 t1 t3) S1 (x := some x) (y := none) ⟨cc, rfl, t6, D.sa x (by simp)⟩ rfl (.inl (by simp)) p4 p5 k
end
end Go.V07

set_option linter.unusedSimpArgs false
set_option linter.unusedVariables false
namespace Go.V07
open Go Go.Vm

section
variable {s0 : List VV} {a b : List KV} {acc : List Ch} {g : Heap} {s : List VV} {Q : Pst}
theorem step_gt {x y : KV} (hle : bl_le x.1 y.1 = false) (hs0 : s0.length = 53) (k5 : s0.getD 5 .undef = .ptr 0 0) (hac : acc.length ≤ 1000000) (D : DG s0 (x :: a) (y :: b) acc g) (S : DSl s) (k : ∀ s2 g2, DSl s2 → DG s0 (x :: a) b (acc ++ delta none (some y)) g2 → X F (.loop f53_3) ⟨s2, g2⟩ Q) : X F (.loop f53_3) ⟨s, g⟩ Q := by
  obtain ⟨ea, va, A1, A2, h1⟩ := D.a1
  obtain ⟨eb, vb_, B1, B2, h2⟩ := D.b1
  obtain ⟨va', ca, u1, u2, u3, u4, u5, u6, u7, u8⟩ := tl53 g A2 A1
  obtain ⟨v', cc, t1, t2, t3, t4, t5, t6, t7, t8⟩ := tl53 g B2 B1
  have st2 := st53 h2 t4
  have hle' : (Op.bytesLess x.1 y.1 || x.1 == y.1) = false := hle
  have hs := S.l
  rw [X_loop, X_eq f53_3.eq_1]
  simp only [go_sem, Nat.reduceLT, Nat.reduceEqDiff, reduceCtorEq, Int.reduceLT, Int.reduceEq, hs, S.s1, S.s2, ld_p0 h1, ld_p0 h2, A2.ln, B2.ln, gt_iff_lt, u8]
  rw [X_eq f53_0.eq_1]
  simp only [go_sem, Nat.reduceLT, Nat.reduceEqDiff, reduceCtorEq, Int.reduceLT, Int.reduceEq, hs]
  refine X_draw rfl ?_
  simp only [go_sem, Nat.reduceLT, Nat.reduceEqDiff, reduceCtorEq, Int.reduceLT, Int.reduceEq, hs, S.s1, S.s2, ld_p0 h1, ld_p0 h2, A2.ln, B2.ln, gt_iff_lt, u8, t7, t5, u5, bl_leq, hle']
  rw [X_eq f53_1.eq_1]
  simp only [go_sem, Nat.reduceLT, Nat.reduceEqDiff, reduceCtorEq, Int.reduceLT, Int.reduceEq, hs]
  refine X_draw rfl ?_
  simp only [go_sem, Nat.reduceLT, Nat.reduceEqDiff, reduceCtorEq, Int.reduceLT, Int.reduceEq, hs, en_pn, Bool.not_false]
  refine X_draw rfl ?_
  simp only [go_sem, Nat.reduceLT, Nat.reduceEqDiff, reduceCtorEq, Int.reduceLT, Int.reduceEq, hs, S.s2, ld_p0 h2, t5, t2, st2]
  refine mid (P := fun st => st.h = g.set 2 (.box [v'] false) ∧ DSl st.s ∧ st.s.getD 4 .undef = .cv (.sc (.pointer none)) ∧ st.s.getD 5 .undef = .rptr [.sc (.string ⟨y.1.toArray⟩), cc]) ?_ ?_
  · rw [X_eq f53_2.eq_1]
    simp only [go_sem, Nat.reduceLT, Nat.reduceEqDiff, reduceCtorEq, Int.reduceLT, Int.reduceEq, hs, en_pn, Bool.not_true]
    exact ⟨trivial, trivial, ⟨by simp only [slot_len, hs], by simp only [go_sem, Nat.reduceLT, Nat.reduceEqDiff, reduceCtorEq, Int.reduceLT, Int.reduceEq, S.s0], by simp only [go_sem, Nat.reduceLT, Nat.reduceEqDiff, reduceCtorEq, Int.reduceLT, Int.reduceEq, S.s1], by simp only [go_sem, Nat.reduceLT, Nat.reduceEqDiff, reduceCtorEq, Int.reduceLT, Int.reduceEq, S.s2]⟩, trivial, trivial⟩
  · rintro ⟨s1, g1⟩ ⟨e, S1, p4, p5⟩
    dsimp only at e S1 p4 p5
    subst e
    exact f53_round hs0 k5 hac (D.tailB h2 t1 t3) S1 (x := none) (y := some y) rfl ⟨cc, rfl, t6, D.sb y (by simp)⟩ (.inr (by simp)) p4 p5 k

theorem step_lt {x y : KV} (hle : bl_le x.1 y.1 = true) (hne : ¬ y.1 = x.1) (hs0 : s0.length = 53) (k5 : s0.getD 5 .undef = .ptr 0 0) (hac : acc.length ≤ 1000000) (D : DG s0 (x :: a) (y :: b) acc g) (S : DSl s) (k : ∀ s2 g2, DSl s2 → DG s0 a (y :: b) (acc ++ delta (some x) none) g2 → X F (.loop f53_3) ⟨s2, g2⟩ Q) : X F (.loop f53_3) ⟨s, g⟩ Q := by
  obtain ⟨ea, va, A1, A2, h1⟩ := D.a1
  obtain ⟨eb, vb_, B1, B2, h2⟩ := D.b1
  obtain ⟨va', ca, u1, u2, u3, u4, u5, u6, u7, u8⟩ := tl53 g A2 A1
  obtain ⟨v', cc, t1, t2, t3, t4, t5, t6, t7, t8⟩ := tl53 g B2 B1
  have st1 := st53 h1 u4
  have hle' : (Op.bytesLess x.1 y.1 || x.1 == y.1) = true := hle
  have hs := S.l
  rw [X_loop, X_eq f53_3.eq_1]
  simp only [go_sem, Nat.reduceLT, Nat.reduceEqDiff, reduceCtorEq, Int.reduceLT, Int.reduceEq, hs, S.s1, S.s2, ld_p0 h1, ld_p0 h2, A2.ln, B2.ln, gt_iff_lt, u8]
  rw [X_eq f53_0.eq_1]
  simp only [go_sem, Nat.reduceLT, Nat.reduceEqDiff, reduceCtorEq, Int.reduceLT, Int.reduceEq, hs]
  refine X_draw rfl ?_
  simp only [go_sem, Nat.reduceLT, Nat.reduceEqDiff, reduceCtorEq, Int.reduceLT, Int.reduceEq, hs, S.s1, S.s2, ld_p0 h1, ld_p0 h2, A2.ln, B2.ln, gt_iff_lt, u8, t7, t5, u5, bl_leq, hle']
  rw [X_eq f53_1.eq_1]
  simp only [go_sem, Nat.reduceLT, Nat.reduceEqDiff, reduceCtorEq, Int.reduceLT, Int.reduceEq, hs]
  refine X_draw rfl ?_
  simp only [go_sem, Nat.reduceLT, Nat.reduceEqDiff, reduceCtorEq, Int.reduceLT, Int.reduceEq, hs, en_r, S.s2, ld_p0 h2, B2.ln, gt_iff_lt, t8, t5, bo_eql, eq_false hne, decide_false]
  refine mid (P := fun st => st.h = g.set 1 (.box [va'] false) ∧ DSl st.s ∧ st.s.getD 4 .undef = .rptr [.sc (.string ⟨x.1.toArray⟩), ca] ∧ st.s.getD 5 .undef = .cv (.sc (.pointer none))) ?_ ?_
  · rw [X_eq f53_2.eq_1]
    simp only [go_sem, Nat.reduceLT, Nat.reduceEqDiff, reduceCtorEq, Int.reduceLT, Int.reduceEq, hs, en_r, S.s1, ld_p0 h1, u2, st1]
    exact ⟨trivial, trivial, ⟨by simp only [slot_len, hs], by simp only [go_sem, Nat.reduceLT, Nat.reduceEqDiff, reduceCtorEq, Int.reduceLT, Int.reduceEq, S.s0], by simp only [go_sem, Nat.reduceLT, Nat.reduceEqDiff, reduceCtorEq, Int.reduceLT, Int.reduceEq, S.s1], by simp only [go_sem, Nat.reduceLT, Nat.reduceEqDiff, reduceCtorEq, Int.reduceLT, Int.reduceEq, S.s2]⟩, trivial, trivial⟩
  · rintro ⟨s1, g1⟩ ⟨e, S1, p4, p5⟩
    dsimp only at e S1 p4 p5
    subst e
    exact f53_round hs0 k5 hac (D.tailA h1 u1 u3) S1 (x := some x) (y := none) ⟨ca, rfl, u6, D.sa x (by simp)⟩ rfl (.inl (by simp)) p4 p5 k

theorem step_eq {x y : KV} (hle : bl_le x.1 y.1 = true) (hne : y.1 = x.1) (hs0 : s0.length = 53) (k5 : s0.getD 5 .undef = .ptr 0 0) (hac : acc.length ≤ 1000000) (D : DG s0 (x :: a) (y :: b) acc g) (S : DSl s) (k : ∀ s2 g2, DSl s2 → DG s0 a b (acc ++ delta (some x) (some y)) g2 → X F (.loop f53_3) ⟨s2, g2⟩ Q) : X F (.loop f53_3) ⟨s, g⟩ Q := by
  obtain ⟨ea, va, A1, A2, h1⟩ := D.a1
  obtain ⟨eb, vb_, B1, B2, h2⟩ := D.b1
  obtain ⟨va', ca, u1, u2, u3, u4, u5, u6, u7, u8⟩ := tl53 g A2 A1
  obtain ⟨v', cc, t1, t2, t3, t4, t5, t6, t7, t8⟩ := tl53 g B2 B1
  have st2 := st53 h2 t4
  have h1' : (g.set 2 (.box [v'] false))[1]? = some (.box [va] false) := by rw [List.getElem?_set_ne (by omega)]; exact h1
  have st1 := st53 h1' u4
  have sl1 : slO (g.set 2 (.box [v'] false)) 2 va (some (vi .i64 1)) none none = some (va', g.set 2 (.box [v'] false)) := by
    rcases A2 with ⟨rfl, e⟩ | ⟨ex, rfl⟩
    · exfalso; rw [e] at u8; simp at u8
    · rw [show slO (g.set 2 (.box [v'] false)) 2 (.cv (.sl 2 ea ex)) (some (vi .i64 1)) none none = (slO g 2 (.cv (.sl 2 ea ex)) (some (vi .i64 1)) none none).map (fun p => (p.1, g.set 2 (.box [v'] false))) by
        simp only [slO, stepI, rhoO, lenV]
        split
        · split
          · split
            · split <;> simp
            · rfl
          · rfl
        · rfl]
      rw [u2]; rfl
  have hle' : (Op.bytesLess x.1 y.1 || x.1 == y.1) = true := hle
  have hs := S.l
  rw [X_loop, X_eq f53_3.eq_1]
  simp only [go_sem, Nat.reduceLT, Nat.reduceEqDiff, reduceCtorEq, Int.reduceLT, Int.reduceEq, hs, S.s1, S.s2, ld_p0 h1, ld_p0 h2, A2.ln, B2.ln, gt_iff_lt, u8]
  rw [X_eq f53_0.eq_1]
  simp only [go_sem, Nat.reduceLT, Nat.reduceEqDiff, reduceCtorEq, Int.reduceLT, Int.reduceEq, hs]
  refine X_draw rfl ?_
  simp only [go_sem, Nat.reduceLT, Nat.reduceEqDiff, reduceCtorEq, Int.reduceLT, Int.reduceEq, hs, S.s1, S.s2, ld_p0 h1, ld_p0 h2, A2.ln, B2.ln, gt_iff_lt, u8, t7, t5, u5, bl_leq, hle']
  rw [X_eq f53_1.eq_1]
  simp only [go_sem, Nat.reduceLT, Nat.reduceEqDiff, reduceCtorEq, Int.reduceLT, Int.reduceEq, hs]
  refine X_draw rfl ?_
  simp only [go_sem, Nat.reduceLT, Nat.reduceEqDiff, reduceCtorEq, Int.reduceLT, Int.reduceEq, hs, en_r, S.s2, ld_p0 h2, B2.ln, gt_iff_lt, t8, t5, bo_eql, eq_true hne, decide_true]
  refine X_draw rfl ?_
  simp only [go_sem, Nat.reduceLT, Nat.reduceEqDiff, reduceCtorEq, Int.reduceLT, Int.reduceEq, hs, S.s2, ld_p0 h2, t5, t2, st2]
  refine mid (P := fun st => st.h = (g.set 2 (.box [v'] false)).set 1 (.box [va'] false) ∧ DSl st.s ∧ st.s.getD 4 .undef = .rptr [.sc (.string ⟨x.1.toArray⟩), ca] ∧ st.s.getD 5 .undef = .rptr [.sc (.string ⟨y.1.toArray⟩), cc]) ?_ ?_
  · rw [X_eq f53_2.eq_1]
    simp only [go_sem, Nat.reduceLT, Nat.reduceEqDiff, reduceCtorEq, Int.reduceLT, Int.reduceEq, hs, en_r, S.s1, ld_p0 h1', sl1, st1]
    exact ⟨trivial, trivial, ⟨by simp only [slot_len, hs], by simp only [go_sem, Nat.reduceLT, Nat.reduceEqDiff, reduceCtorEq, Int.reduceLT, Int.reduceEq, S.s0], by simp only [go_sem, Nat.reduceLT, Nat.reduceEqDiff, reduceCtorEq, Int.reduceLT, Int.reduceEq, S.s1], by simp only [go_sem, Nat.reduceLT, Nat.reduceEqDiff, reduceCtorEq, Int.reduceLT, Int.reduceEq, S.s2]⟩, trivial, trivial⟩
  · rintro ⟨s1, g1⟩ ⟨e, S1, p4, p5⟩
    dsimp only at e S1 p4 p5
    subst e
    exact f53_round hs0 k5 hac ((D.tailB h2 t1 t3).tailA h1' u1 u3) S1 (x := some x) (y := some y) ⟨ca, rfl, u6, D.sa x (by simp)⟩ ⟨cc, rfl, t6, D.sb y (by simp)⟩ (.inl (by simp)) p4 p5 k

theorem delta_le (x y : Option KV) : (delta x y).length ≤ 1 := by
  cases x <;> cases y <;> simp [delta]
  split <;> simp
theorem step_nn (hs0 : s0.length = 53) (D : DG s0 [] [] acc g) (S : DSl s) (k : ∀ s2, s2.length = 66 → Q (.exit 0) ⟨s2, g⟩) : X F (.loop f53_3) ⟨s, g⟩ Q := by
  obtain ⟨ea, va, A1, A2, h1⟩ := D.a1
  obtain ⟨eb, vb_, B1, B2, h2⟩ := D.b1
  have c1 : ¬ ((0 : Int) < ((ea.length : Nat) : Int)) := by rw [A1.len]; simp
  have c2 : ¬ ((0 : Int) < ((eb.length : Nat) : Int)) := by rw [B1.len]; simp
  have hs := S.l
  rw [X_loop, X_eq f53_3.eq_1]
  simp only [go_sem, Nat.reduceLT, Nat.reduceEqDiff, reduceCtorEq, Int.reduceLT, Int.reduceEq, hs, S.s1, S.s2, ld_p0 h1, ld_p0 h2, A2.ln, B2.ln, gt_iff_lt, c1, c2]
  exact k _ (by simp only [slot_len, hs])
end
theorem f53_loop {s0 : List VV} (hs0 : s0.length = 53) (k5 : s0.getD 5 .undef = .ptr 0 0) {Q : Pst} : ∀ (m : Nat) (a b : List KV) (acc : List Ch) (s : List VV) (g : Heap), a.length + b.length ≤ m → acc.length + m ≤ 1000000 → DG s0 a b acc g → DSl s →
    (∀ s' g', s'.length = 66 → DG s0 [] [] (acc ++ diffP m a b) g' → Q (.exit 0) ⟨s', g'⟩) → X F (.loop f53_3) ⟨s, g⟩ Q := by
  intro m
  induction m with
  | zero =>
    intro a b acc s g hm hac D S hQ
    obtain rfl : a = [] := List.eq_nil_of_length_eq_zero (by omega)
    obtain rfl : b = [] := List.eq_nil_of_length_eq_zero (by omega)
    exact step_nn hs0 D S (fun s2 h2 => hQ s2 g h2 (by simpa [diffP] using D))
  | succ m ih =>
    intro a b acc s g hm hac D S hQ
    cases a with
    | nil =>
      cases b with
      | nil => exact step_nn hs0 D S (fun s2 h2 => hQ s2 g h2 (by simpa [diffP] using D))
      | cons y b =>
        have e : diffP (m + 1) [] (y :: b) = delta none (some y) ++ diffP m [] b := rfl
        rw [e] at hQ
        refine step_nb hs0 k5 (by omega) D S (fun s2 g2 S2 D2 => ih [] b _ s2 g2 (by simp at hm ⊢; omega) (by have := delta_le none (some y); rw [List.length_append]; omega) D2 S2 ?_)
        rw [List.append_assoc]; exact hQ
    | cons x a =>
      cases b with
      | nil =>
        have e : diffP (m + 1) (x :: a) [] = delta (some x) none ++ diffP m a [] := rfl
        rw [e] at hQ
        refine step_an hs0 k5 (by omega) D S (fun s2 g2 S2 D2 => ih a [] _ s2 g2 (by simp at hm ⊢; omega) (by have := delta_le (some x) none; rw [List.length_append]; omega) D2 S2 ?_)
        rw [List.append_assoc]; exact hQ
      | cons y b =>
        have e : diffP (m + 1) (x :: a) (y :: b) = if bl_le x.1 y.1 = true then (if y.1 = x.1 then delta (some x) (some y) ++ diffP m a b else delta (some x) none ++ diffP m a (y :: b)) else delta none (some y) ++ diffP m (x :: a) b := rfl
        rw [e] at hQ
        cases hle : bl_le x.1 y.1 with
        | false =>
          rw [if_neg (by rw [hle]; decide)] at hQ
          refine step_gt hle hs0 k5 (by omega) D S (fun s2 g2 S2 D2 => ih (x :: a) b _ s2 g2 (by simp at hm ⊢; omega) (by have := delta_le none (some y); rw [List.length_append]; omega) D2 S2 ?_)
          rw [List.append_assoc]; exact hQ
        | true =>
          rw [if_pos hle] at hQ
          by_cases d : y.1 = x.1
          · rw [if_pos d] at hQ
            refine step_eq hle d hs0 k5 (by omega) D S (fun s2 g2 S2 D2 => ih a b _ s2 g2 (by simp at hm ⊢; omega) (by have := delta_le (some x) (some y); rw [List.length_append]; omega) D2 S2 ?_)
            rw [List.append_assoc]; exact hQ
          · rw [if_neg d] at hQ
            refine step_lt hle d hs0 k5 (by omega) D S (fun s2 g2 S2 D2 => ih a (y :: b) _ s2 g2 (by simp at hm ⊢; omega) (by have := delta_le (some x) none; rw [List.length_append]; omega) D2 S2 ?_)
            rw [List.append_assoc]; exact hQ

theorem diff_f21 {a b : List KV} {ea eb : List (List CV)} {ua ub : VV} (hRa : RowsE ea a) (hRb : RowsE eb b) (hSa : SlV 2 ea ua) (hSb : SlV 2 eb ub) (sa : SmallV a) (sb : SmallV b) (hl : a.length + b.length ≤ 100000) : RetP F 21 [ua, ub] fun w => ∃ els, SlV 3 els w ∧ ChsE els (diffF a b) := by
  have slc : ∀ {els : List (List CV)} {v : VV}, SlV 2 els v → isCell v = true := fun h => by rcases h with ⟨rfl, _⟩ | ⟨_, rfl⟩ <;> rfl
  have n39 : call F 39 [ua, ub] [VO.box [nilS] false] = some (.ret (.func 53 [.ptr 1 0, .ptr 2 0]), [VO.box [nilS] false, .box [ua] false, .box [ub] false]) := by
    have : Ret F 39 [ua, ub] [VO.box [nilS] false] fun v g => v = .func 53 [.ptr 1 0, .ptr 2 0] ∧ g = [VO.box [nilS] false, .box [ua] false, .box [ub] false] := by
      refine call_E (fn := f39) rfl ?_
      simp only [f39]
      generalize hs0 : ([ua, ub] ++ List.replicate _ VV.undef : List VV) = s
      have hs : s.length = 6 := by rw [← hs0]; rfl
      have h0 : s.getD 0 .undef = ua := by rw [← hs0]; rfl
      have h1 : s.getD 1 .undef = ub := by rw [← hs0]; rfl
      clear hs0
      simp only [go_sem, Nat.reduceLT, Nat.reduceEqDiff, reduceCtorEq, Int.reduceLT, Int.reduceEq, hs, h0]
      rw [bx_1 (slc hSa)]
      simp only [go_sem, Nat.reduceLT, Nat.reduceEqDiff, reduceCtorEq, Int.reduceLT, Int.reduceEq, hs, h1]
      rw [bx_1 (slc hSb)]
      simp only [go_sem, Nat.reduceLT, Nat.reduceEqDiff, reduceCtorEq, Int.reduceLT, Int.reduceEq, hs, List.cons_append, List.nil_append, List.length_cons, List.length_nil, Nat.zero_add, Nat.reduceAdd, List.map]
      exact ⟨trivial, trivial⟩
    obtain ⟨v, h', e1, rfl, rfl⟩ := this
    exact e1
  have : Ret F 21 [ua, ub] [] fun v g => ∃ els, BufG g 3 els v ∧ ChsE els (diffF a b) := by
    refine call_E (fn := f21) rfl ?_
    simp only [f21]
    generalize hs0 : ([ua, ub] ++ List.replicate _ VV.undef : List VV) = s
    have hs : s.length = 53 := by rw [← hs0]; rfl
    have h0 : s.getD 0 .undef = ua := by rw [← hs0]; rfl
    have h1 : s.getD 1 .undef = ub := by rw [← hs0]; rfl
    clear hs0
    simp only [go_sem, Nat.reduceLT, Nat.reduceEqDiff, reduceCtorEq, Int.reduceLT, Int.reduceEq, hs, h0, h1, List.nil_append, List.length_nil]
    refine XO_callR (by simp only [List.map, go_sem, Nat.reduceLT, Nat.reduceEqDiff, reduceCtorEq, Int.reduceLT, Int.reduceEq, hs]; exact n39) ?_
    simp only [go_sem, Nat.reduceLT, Nat.reduceEqDiff, reduceCtorEq, Int.reduceLT, Int.reduceEq, hs]
    generalize hs1 : ((((s.set 4 nilS).set 5 (VV.ptr 0 0)).set 8 ua).set 9 ub).set 10 (.func 53 [.ptr 1 0, .ptr 2 0]) = s1
    have a0 : s1.length = 53 := by rw [← hs1]; simp only [slot_len, hs]
    have a5 : s1.getD 5 .undef = .ptr 0 0 := by rw [← hs1]; simp only [go_sem, Nat.reduceLT, Nat.reduceEqDiff, reduceCtorEq, Int.reduceLT, Int.reduceEq, hs]
    have a10 : s1.getD 10 .undef = .func 53 [.ptr 1 0, .ptr 2 0] := by rw [← hs1]; simp only [go_sem, Nat.reduceLT, Nat.reduceEqDiff, reduceCtorEq, Int.reduceLT, Int.reduceEq, hs]
    have D0 : DG s1 a b [] ([VO.box [nilS] false, .box [ua] false, .box [ub] false] ++ [.loop [11, 12] f21_0 f21_1 s1 .ready none]) :=
      ⟨⟨ea, ua, hRa, hSa, rfl⟩, ⟨eb, ub, hRb, hSb, rfl⟩, ⟨[], nilS, rfl, BufG.nil _ _, .nil⟩, rfl, sa, sb⟩
    have iter : Ret F 53 [.yield 3, .ptr 1 0, .ptr 2 0] ([VO.box [nilS] false, .box [ua] false, .box [ub] false] ++ [.loop [11, 12] f21_0 f21_1 s1 .ready none]) fun v g' => DG s1 [] [] (diffF a b) g' := by
      refine call_E (fn := f53) rfl ?_
      simp only [f53]
      generalize hs0 : ([.yield 3, .ptr 1 0, .ptr 2 0] ++ List.replicate _ VV.undef : List VV) = s
      have hs : s.length = 66 := by rw [← hs0]; rfl
      have h0 : s.getD 0 .undef = .yield 3 := by rw [← hs0]; rfl
      have h1 : s.getD 1 .undef = .ptr 1 0 := by rw [← hs0]; rfl
      have h2 : s.getD 2 .undef = .ptr 2 0 := by rw [← hs0]; rfl
      clear hs0
      simp only [go_sem, Nat.reduceLT, Nat.reduceEqDiff, reduceCtorEq, Int.reduceLT, Int.reduceEq]
      refine f53_loop a0 a5 (a.length + b.length) a b [] _ _ (Nat.le_refl _) (by simp; omega) D0 ⟨by simp only [slot_len, hs], h0, h1, h2⟩ (fun s' g' b0 b1 => ?_)
      simp only [go_sem, Nat.reduceLT, Nat.reduceEqDiff, reduceCtorEq, Int.reduceLT, Int.reduceEq]
      exact b1
    obtain ⟨v53, g3, n53, D3⟩ := iter
    refine X_rangeF (f := 53) (caps := [.ptr 1 0, .ptr 2 0]) (t := .ready) (p := none) a10 n53 D3.p (by intro e; cases e) ?_
    obtain ⟨els, vo, o1, o2, o3⟩ := D3.o1
    have d1 : (g3.set 3 (.loop [11, 12] f21_0 f21_1 s1 .exhausted none))[0]? = some (.box [vo] false) := by rw [List.getElem?_set_ne (by omega)]; exact o1
    have d2 := o2.setLoop D3.p (.loop [11, 12] f21_0 f21_1 s1 .exhausted none)
    simp only [go_sem, Nat.reduceLT, Nat.reduceEqDiff, reduceCtorEq, Int.reduceLT, Int.reduceEq, outOf, a0, a5, List.length_cons, List.length_nil, Nat.zero_add, Nat.reduceAdd, ld_p0 d1]
    exact ⟨els, d2, o3⟩
  obtain ⟨v, g, n1, els, B, C⟩ := this
  exact ⟨v, g, n1, _, B.close, els, slV_SlV, C⟩
end Go.V07

set_option linter.unusedSimpArgs false
set_option linter.unusedVariables false
namespace Go.V07
open Go Go.Vm

/-! ### changes, there and back -/
theorem getCh_chB (a r : List UInt8) (p : Ch) (h1 : p.1.length ≤ 30) (h2 : p.2.1.length ≤ 150) (h3 : p.2.2 = true → p.2.1 = []) : getCh (a ++ chB p ++ r) a.length = (chCs p, a.length + (chB p).length, 0) := by
  obtain ⟨k, v, g⟩ := p
  cases g with
  | true =>
    have e1 : getText (a ++ chB (k, v, true) ++ r) a.length 30 = (k, a.length + (text k).length, 0) := by
      have := getText_text a ([1] ++ r) k 30 (by simp at h1; omega)
      rw [if_neg (by simp at h1; omega)] at this
      rw [← this]
      simp [chB]
    have e2 : (a ++ chB (k, v, true) ++ r)[a.length + (text k).length]? = some 1 := by
      have : a ++ chB (k, v, true) ++ r = (a ++ text k) ++ (1 :: r) := by simp [chB]
      rw [this, ← List.length_append, List.getElem?_append_right (Nat.le_refl _), Nat.sub_self]; rfl
    unfold getCh
    rw [e1]
    simp only [ne_eq, not_true_eq_false, if_false]
    rw [e2]
    simp [chCs, chB, Nat.add_assoc]
  | false =>
    have e1 : getText (a ++ chB (k, v, false) ++ r) a.length 30 = (k, a.length + (text k).length, 0) := by
      have := getText_text a ([0] ++ text v ++ r) k 30 (by simp at h1; omega)
      rw [if_neg (by simp at h1; omega)] at this
      rw [← this]
      simp [chB]
    have e2 : (a ++ chB (k, v, false) ++ r)[a.length + (text k).length]? = some 0 := by
      have : a ++ chB (k, v, false) ++ r = (a ++ text k) ++ (0 :: (text v ++ r)) := by simp [chB]
      rw [this, ← List.length_append, List.getElem?_append_right (Nat.le_refl _), Nat.sub_self]; rfl
    have e3 : getText (a ++ chB (k, v, false) ++ r) ((a.length + (text k).length + 1 : Nat) : Int) 150 = (v, a.length + (text k).length + 1 + (text v).length, 0) := by
      have := getText_text (a ++ text k ++ [0]) r v 150 (by simp at h2; omega)
      rw [if_neg (by simp at h2; omega)] at this
      have el : (a ++ text k ++ [0]).length = a.length + (text k).length + 1 := by simp; omega
      rw [el] at this
      rw [← this]
      simp [chB]
    unfold getCh
    rw [e1]
    simp only [ne_eq, not_true_eq_false, if_false]
    rw [e2]
    simp only [e3]
    simp [chCs, chB, Nat.add_assoc]
    omega
theorem wholeF_chs : ∀ (kv : List Ch) (a r : List UInt8) (out : List (List CV)), ChFits kv →
    wholeF (getCh (a ++ flatC kv ++ r)) kv.length a.length out = (out ++ chsCs kv, a.length + (flatC kv).length, 0)
  | [], a, r, out, _ => by simp [wholeF, chsCs, flatC]
  | p :: kv, a, r, out, h => by
    obtain ⟨h1, h2, h3⟩ := h p (by simp)
    have e1 : getCh (a ++ flatC (p :: kv) ++ r) a.length = (chCs p, a.length + (chB p).length, 0) := by
      have := getCh_chB a (flatC kv ++ r) p h1 h2 h3
      rw [← this, flatC_cons]
      simp only [List.append_assoc]
    have e2 := wholeF_chs kv (a ++ chB p) r (out ++ [chCs p]) (fun q hq => h q (by simp [hq]))
    rw [List.length_append] at e2
    simp only [List.length_cons, wholeF]
    rw [e1]
    simp only [ne_eq, not_true_eq_false, if_false]
    have e3 : a ++ flatC (p :: kv) ++ r = a ++ chB p ++ flatC kv ++ r := by rw [flatC_cons]; simp only [List.append_assoc]
    rw [e3, e2]
    simp only [chsCs, List.map_cons, flatC_cons, List.length_append, List.append_assoc, List.singleton_append, Nat.add_assoc]
theorem wholeB_chs (kv : List Ch) (hf : ChFits kv) (hk : kv.length ≤ 5000) : wholeB (getCh (chsB kv)) (chsB kv) = (chsCs kv, 0) := by
  have hc : clamp (kv.length : Int) = kv.length := clamp_of _ (by omega)
  have e0 : chsB kv = num kv.length ++ flatC kv ++ [] := by unfold chsB; rw [hc]; simp [flatC]
  have e1 : getNum (chsB kv) 0 = (kv.length, (num kv.length).length, 0) := by
    rw [e0]
    have := getNum_num [] (flatC kv ++ []) kv.length (by omega)
    simpa using this
  have e2 := wholeF_chs kv (num kv.length) [] [] hf
  rw [← e0] at e2
  unfold wholeB
  rw [e1]
  simp only [ne_eq, not_true_eq_false, if_false]
  rw [if_neg (by omega), e2]
  have e4 : ¬ (num kv.length).length + (flatC kv).length < (chsB kv).length := by rw [e0]; simp
  simp only [List.nil_append, not_true_eq_false, if_false, e4]
theorem chsB_ne (kv : List Ch) : chsB kv ≠ [] := by
  unfold chsB
  intro e
  exact num_ne _ (List.append_eq_nil_iff.1 e).1

/-! ### a sector that was made -/
section
variable {epoch n i of_ : Nat} {p : List UInt8}
theorem part_k (h : p.length ≤ 49) : kOf (partB epoch n i of_ p) = p.length := by
  have : (partB epoch n i of_ p).getD 10 0 = u8 p.length := by simp [partB, partR, sealB, wd]
  unfold kOf
  rw [this, u8_toNat _ (by omega)]
theorem part_of (h : of_ < 256) : ofOf (partB epoch n i of_ p) = of_ := by rw [partB_of]; omega
theorem part_body (h : p.length ≤ 49) : bodyOf (partB epoch n i of_ p) = p := by
  unfold bodyOf
  rw [part_k h]
  have hl : (wd epoch ++ wd n ++ [u8 i, u8 of_, u8 p.length]).length = 11 := by simp [wd]
  have e : partB epoch n i of_ p = (wd epoch ++ wd n ++ [u8 i, u8 of_, u8 p.length]) ++ (p ++ (List.replicate (49 - p.length) 0 ++ le4 (crc (partR epoch n i of_ p)))) := by
    unfold partB sealB
    conv => lhs; unfold partR
    simp only [List.append_assoc]
    rfl
  rw [e, List.drop_append, List.drop_of_length_le (by omega), hl, Nat.sub_self, List.drop_zero, List.nil_append, List.take_left]
theorem part_ok (h : p.length ≤ 49) (h1 : 1 ≤ p.length) (h2 : 1 ≤ of_) (h3 : of_ ≤ 200) (h4 : of_ ≤ i + 1 ∨ p.length = 49) : stepOK epoch n i of_ (partB epoch n i of_ p) := by
  refine ⟨partB_len h, ?_, ?_, h2, h3, ?_, ?_⟩
  · rw [part_k h]; exact h1
  · rw [part_k h]; exact h
  · rw [part_k h]; exact h4
  · rw [part_body h]
end

/-- Pieces: all but the last are full, none is empty. -/
def Pcs : List (List UInt8) → Prop
  | [] => True
  | p :: r => 1 ≤ p.length ∧ p.length ≤ 49 ∧ (r ≠ [] → p.length = 49) ∧ Pcs r
theorem pcs_Pcs : ∀ (m : Nat) (l : List UInt8), l.length ≤ m → Pcs (pcs 49 l)
  | 0, l, h => by
    have : l = [] := List.eq_nil_of_length_eq_zero (by omega)
    subst this; exact trivial
  | m + 1, l, h => by
    by_cases hl : l = []
    · subst hl; exact trivial
    · have h0 : 0 < l.length := List.length_pos_iff.2 hl
      rw [pcs_cons (by omega) hl]
      refine ⟨by rw [List.length_take]; omega, by rw [List.length_take]; omega, fun hne => ?_, pcs_Pcs m _ (by rw [List.length_drop]; omega)⟩
      rw [List.length_take]
      by_cases hc : 49 ≤ l.length
      · omega
      · exfalso
        apply hne
        rw [List.drop_eq_nil_of_le (by omega)]; rfl
theorem pcs_flat : ∀ (m : Nat) (l : List UInt8), l.length ≤ m → (pcs 49 l).flatten = l
  | 0, l, h => by
    have : l = [] := List.eq_nil_of_length_eq_zero (by omega)
    subst this; rfl
  | m + 1, l, h => by
    by_cases hl : l = []
    · subst hl; rfl
    · have h0 : 0 < l.length := List.length_pos_iff.2 hl
      rw [pcs_cons (by omega) hl, List.flatten_cons, pcs_flat m _ (by rw [List.length_drop]; omega), List.take_append_drop]

theorem frL_parts {epoch n of_ : Nat} (h3 : of_ ≤ 200) : ∀ (ps : List (List UInt8)) (m i : Nat) (acc : List UInt8) (rest : List (List UInt8)), ps ≠ [] → Pcs ps → i + ps.length = of_ → of_ ≤ m + i →
    frL epoch n of_ m i (partsL epoch n of_ i ps ++ rest) acc = some (acc ++ ps.flatten)
  | [], m, i, acc, rest, h, _, _, _ => absurd rfl h
  | p :: r, 0, i, acc, rest, _, hp, hi, hm => by simp at hi; omega
  | p :: r, m + 1, i, acc, rest, _, hp, hi, hm => by
    obtain ⟨h1, h2, h4, h5⟩ := hp
    simp only [partsL, List.cons_append, frL]
    have ok : stepOK epoch n i of_ (partB epoch n i of_ p) := by
      refine part_ok h2 h1 (by simp at hi; omega) h3 ?_
      by_cases hr : r = []
      · subst hr; left; simp at hi; omega
      · right; exact h4 hr
    rw [if_pos ok, part_body h2]
    by_cases hr : r = []
    · subst hr
      rw [if_neg (by simp at hi; omega)]; simp
    · have hrl : 0 < r.length := List.length_pos_iff.2 hr
      rw [if_pos (by simp at hi; omega), frL_parts h3 r m (i + 1) _ rest hr h5 (by simp at hi; omega) (by omega)]
      simp
theorem frameF_parts {epoch n : Nat} {l : List Ch} (hf : ChFits l) (hk : l.length ≤ 5000) (hl : (pcs 49 (chsB l)).length ≤ 200) (rest : List (List UInt8)) :
    frameF epoch n (partsL epoch n (pcs 49 (chsB l)).length 0 (pcs 49 (chsB l)) ++ rest) = (chsCs l, (pcs 49 (chsB l)).length) := by
  have hne : pcs 49 (chsB l) ≠ [] := by rw [pcs_cons (by omega) (chsB_ne l)]; simp
  have hof : ofS (partsL epoch n (pcs 49 (chsB l)).length 0 (pcs 49 (chsB l)) ++ rest) = (pcs 49 (chsB l)).length := by
    cases h : pcs 49 (chsB l) with
    | nil => exact absurd h hne
    | cons p r =>
      rw [h] at hl
      show ofOf (partB epoch n 0 (p :: r).length p) = _
      exact part_of (by omega)
  have e1 := frL_parts (epoch := epoch) (n := n) hl (pcs 49 (chsB l)) 200 0 [] rest hne (pcs_Pcs _ _ (Nat.le_refl _)) (by omega) (by omega)
  unfold frameF frameB
  rw [hof, e1]
  simp only [List.nil_append, pcs_flat _ _ (Nat.le_refl _), wholeB_chs l hf hk, if_true]
end Go.V07
