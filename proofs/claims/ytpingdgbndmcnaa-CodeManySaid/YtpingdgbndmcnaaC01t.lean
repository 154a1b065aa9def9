/- Part of a proof: of what it says, and when, each theorem tells itself. -/
import Derived.Test.YtpingdgbndmcnaaC01s
set_option linter.unusedSimpArgs false
set_option linter.unusedVariables false
namespace Go.V01
open Go Go.Vm

/-! ### more than may be -/

def repB : Nat → List UInt8
  | 0 => []
  | m + 1 => 0 :: 1 :: repB m
theorem repB_snoc : ∀ m, repB m ++ [0, 1] = repB (m + 1)
  | 0 => rfl
  | m + 1 => by
    have := repB_snoc m
    simp only [repB, List.cons_append] at this ⊢
    rw [this]
theorem repB_len : ∀ m, (repB m).length = 2 * m
  | 0 => rfl
  | m + 1 => by simp only [repB, List.length_cons, repB_len m]; omega

theorem getCh_gone (a r : List UInt8) : getCh (a ++ [0, 1] ++ r) a.length = (chC [] (.sc (.slice none 0 0)) true, a.length + 2, 0) := by
  have e1 : getText (a ++ [0, 1] ++ r) a.length 30 = ([], a.length + 1, 0) := by
    have := getText_text a (1 :: r) [] 30 (by simp)
    rw [if_neg (by simp)] at this
    rw [show (text []).length = 1 from rfl] at this
    rw [← this, show text [] = [0] from rfl]
    simp only [List.append_assoc, List.cons_append, List.nil_append]
  have e2 : (a ++ [0, 1] ++ r)[a.length + 1]? = some 1 := by
    rw [List.append_assoc, List.getElem?_append_right (by omega)]
    simp
  unfold getCh
  rw [e1]
  simp only [ne_eq, not_true_eq_false, if_false, e2]
  rw [if_pos (by decide)]

theorem wholeF_gone : ∀ (m : Nat) (a r : List UInt8) (out : List (List CV)), (wholeF (getCh (a ++ repB m ++ r)) m a.length out).2 = (a.length + 2 * m, 0)
  | 0, a, r, out => by simp [wholeF]
  | m + 1, a, r, out => by
    have e1 : getCh (a ++ repB (m + 1) ++ r) a.length = (chC [] (.sc (.slice none 0 0)) true, a.length + 2, 0) := by
      rw [← getCh_gone a (repB m ++ r)]
      simp only [repB, List.append_assoc, List.cons_append, List.nil_append]
    have e2 := wholeF_gone m (a ++ [0, 1]) r (out ++ [chC [] (.sc (.slice none 0 0)) true])
    rw [List.length_append] at e2
    simp only [wholeF]
    rw [e1]
    simp only [ne_eq, not_true_eq_false, if_false]
    have e3 : a ++ repB (m + 1) ++ r = a ++ [0, 1] ++ repB m ++ r := by simp only [repB, List.append_assoc, List.cons_append, List.nil_append]
    rw [e3]
    rw [show a.length + ([0, 1] : List UInt8).length = a.length + 2 from rfl] at e2
    rw [e2]
    congr 1
    omega

theorem wholeB_gone (m : Nat) (hm : m ≤ 6000) : (wholeB (getCh (num m ++ repB m)) (num m ++ repB m)).2 = if 5000 < m then 3 else 0 := by
  have e1 : getNum (num m ++ repB m) 0 = (m, (num m).length, 0) := by
    have := getNum_num [] (repB m) m (by omega)
    simpa using this
  unfold wholeB
  rw [e1]
  simp only [ne_eq, not_true_eq_false, if_false]
  by_cases h : 5000 < m
  · rw [if_pos h, if_pos h]
  · rw [if_neg h, if_neg h]
    have e2 := wholeF_gone m (num m) [] []
    rw [List.append_nil] at e2
    rw [e2]
    have e3 : ¬ (num m).length + 2 * m < (num m ++ repB m).length := by rw [List.length_append, repB_len]; omega
    simp only [not_true_eq_false, if_false, e3]

theorem wholeB_err {get : Int → List CV × Nat × Nat} {b : List UInt8} {n a e : Nat} (h : getNum b 0 = (n + 1, a, 0)) (hn : n + 1 ≤ 5000) (he : (get a).2.2 = e) (hne : e ≠ 0) : (wholeB get b).2 = e := by
  unfold wholeB
  rw [h]
  have h5 : ¬ 5000 < n + 1 := by omega
  simp only [wholeF, he, hne, h5, ne_eq, not_true_eq_false, not_false_eq_true, if_false, if_true]

theorem wholeB_one (p : List UInt8 × List UInt8) (h1 : p.1.length ≤ 1000) (h2 : p.2.length ≤ 1000) : (wholeB (getRow (rowsB [p])) (rowsB [p])).2 = if 30 < p.1.length ∨ 150 < p.2.length then 3 else 0 := by
  by_cases hf : 30 < p.1.length ∨ 150 < p.2.length
  · rw [if_pos hf]
    have e0 : rowsB [p] = [1] ++ rowB p ++ [] := by
      unfold rowsB
      simp only [List.map_cons, List.map_nil, List.flatten_cons, List.flatten_nil, List.append_nil]
      rfl
    have e1 : getNum (rowsB [p]) 0 = (1, 1, 0) := by
      rw [e0]
      have := getNum_num [] (rowB p) 1 (by omega)
      rw [show num 1 = [1] from rfl] at this
      simpa using this
    have e2 : (getRow (rowsB [p]) (1 : Nat)).2.2 = 3 := by
      have t1 := getText_text [1] (text p.2) p.1 30 (by omega)
      have t2 := getText_text ([1] ++ text p.1) [] p.2 150 (by omega)
      have b1 : rowsB [p] = [1] ++ text p.1 ++ text p.2 := by rw [e0]; simp only [rowB, List.append_assoc, List.append_nil]
      rw [List.append_nil] at t2
      unfold getRow
      rw [b1]
      rw [show (([1] : List UInt8).length : Int) = ((1 : Nat) : Int) from rfl] at t1
      rw [t1]
      by_cases hk : 30 < p.1.length
      · rw [if_pos (show (30 : Int) < (p.1.length : Int) by omega)]
        rfl
      · rw [if_neg (show ¬ (30 : Int) < (p.1.length : Int) by omega)]
        simp only [ne_eq, not_true_eq_false, if_false]
        rw [show ([1] : List UInt8).length + (text p.1).length = ([1] ++ text p.1).length by simp [Nat.add_comm], t2]
        rw [if_pos (show (150 : Int) < (p.2.length : Int) by omega)]
    exact wholeB_err (n := 0) e1 (by omega) e2 (by decide)
  · rw [if_neg hf, wholeB_rows]
    · intro q hq
      simp only [List.mem_singleton] at hq
      subst hq
      omega
    · simp

theorem f7_loop (n : UInt8) (M : Nat) (hM : M ≤ 6000) (hMn : IntKind.i64.wrap (4990 + IntKind.i64.wrap ((n.toNat : Int).tmod 20)) = (M : Int)) (out : List UInt8) (ho : out.length ≤ 100) (k v : VV) : ∀ (d i : Nat) (h : Heap) (w : VV) (s : List VV) (Q : Pst), i + d = M →
    s.length = 90 → s.getD 0 .undef = vi .u8 n.toNat → s.getD 1 .undef = k → s.getD 2 .undef = v → s.getD 7 .undef = w → s.getD 8 .undef = vi .i64 i → BufG h 1 (eB (out ++ repB i)) w →
    (∀ s' h' w', s'.length = 90 → s'.getD 0 .undef = vi .u8 n.toNat → s'.getD 1 .undef = k → s'.getD 2 .undef = v → s'.getD 7 .undef = w' → BufG h' 1 (eB (out ++ repB M)) w' → Q (.exit 0) ⟨s', h'⟩) →
    X F (.loop f7_0) ⟨s, h⟩ Q := by
  intro d
  induction d with
  | zero =>
    intro i h w s Q hi hs h0 h1 h2 h7 h8 hb hQ
    rw [X_loop, X_eq f7_0.eq_1]
    have hlt : ¬ (i : Int) < (M : Int) := by omega
    have e : i = M := by omega
    subst e
    simp only [go_sem, Nat.reduceLT, Nat.reduceEqDiff, reduceCtorEq, Int.reduceLT, Int.reduceEq, hs, h0, h8, hMn, hlt]
    exact hQ _ h w (by simp only [slot_len, hs]) (by simp only [go_sem, Nat.reduceLT, Nat.reduceEqDiff, reduceCtorEq, Int.reduceLT, Int.reduceEq, h0]) (by simp only [go_sem, Nat.reduceLT, Nat.reduceEqDiff, reduceCtorEq, Int.reduceLT, Int.reduceEq, h1]) (by simp only [go_sem, Nat.reduceLT, Nat.reduceEqDiff, reduceCtorEq, Int.reduceLT, Int.reduceEq, h2]) (by simp only [go_sem, Nat.reduceLT, Nat.reduceEqDiff, reduceCtorEq, Int.reduceLT, Int.reduceEq, h7]) hb
  | succ d ih =>
    intro i h w s Q hi hs h0 h1 h2 h7 h8 hb hQ
    rw [X_loop, X_eq f7_0.eq_1]
    have hlt : (i : Int) < (M : Int) := by omega
    have e5 : IntKind.i64.wrap ((i : Int) + 1) = ((i + 1 : Nat) : Int) := by rw [IntWalk.i64_in _ (by omega)]; omega
    have hl := repB_len i
    simp only [go_sem, Nat.reduceLT, Nat.reduceEqDiff, reduceCtorEq, Int.reduceLT, Int.reduceEq, hs, h0, h7, h8, hMn, hlt]
    refine XO_appG hb (new := eB [0, 1]) (by simp only [go_sem, Nat.reduceLT, Nat.reduceEqDiff, reduceCtorEq, Int.reduceLT, Int.reduceEq, hs]) (by simp only [go_sem, Nat.reduceLT, Nat.reduceEqDiff, reduceCtorEq, Int.reduceLT, Int.reduceEq, hs]; rfl) (by simp only [eB_len, List.length_append]; simp; omega) (by simp only [eB_len, List.length_append]; simp; omega) (fun v' h' hb' _ _ => ?_)
    rw [← eB_append, List.append_assoc, repB_snoc] at hb'
    simp only [go_sem, Nat.reduceLT, Nat.reduceEqDiff, reduceCtorEq, Int.reduceLT, Int.reduceEq, hs, h8, e5]
    exact ih (i + 1) h' v' _ Q (by omega) (by simp only [slot_len, hs]) (by simp only [go_sem, Nat.reduceLT, Nat.reduceEqDiff, reduceCtorEq, Int.reduceLT, Int.reduceEq, h0]) (by simp only [go_sem, Nat.reduceLT, Nat.reduceEqDiff, reduceCtorEq, Int.reduceLT, Int.reduceEq, h1]) (by simp only [go_sem, Nat.reduceLT, Nat.reduceEqDiff, reduceCtorEq, Int.reduceLT, Int.reduceEq, h2]) (by simp only [go_sem, Nat.reduceLT, Nat.reduceEqDiff, reduceCtorEq, Int.reduceLT, Int.reduceEq, hs]) (by simp only [go_sem, Nat.reduceLT, Nat.reduceEqDiff, reduceCtorEq, Int.reduceLT, Int.reduceEq, hs]) hb' hQ

theorem mk_agg2_own {hh : Heap} {z0 z1 : VV} {u : CV} {els : List (List CV)} {n : Nat} (hn : els.length = n) :
    mkO (hh ++ [.arr 1 els 0 false]) 2 1 [z0, z1] [(0, 2, .agg [.cv u, .own hh.length 0 0 n true])] = some (.cv (.sl 2 [[u, .sl 1 els true]] true), hh ++ [.arr 1 els 0 true]) := by
  have e1 : fill [z0, z1] [(0, 2, .agg [.cv u, .own hh.length 0 0 n true])] = some [.cv u, .own hh.length 0 0 n true] := rfl
  have e2 : closL (hh ++ [.arr 1 els 0 false]) [.cv u, .own hh.length 0 0 n true] = some ([u, .sl 1 els true], hh ++ [.arr 1 els 0 true]) := by
    have e3 : ∀ (h : Heap) (c : CV), clos h (.cv c) = some (c, h) := fun _ _ => rfl
    simp only [closL, e3, clos_last hn]
  simp only [mkO, e1, e2]
  rfl
theorem bs_own {hh : Heap} {o : VO} {l : List UInt8} {n : Nat} (hn : l.length = n) : bsO (hh ++ [.arr 1 (eB l) 0 false] ++ [o]) (.own hh.length 0 0 n true) = some (txt l) := by
  subst hn
  refine bs_els ?_
  have : (hh ++ [VO.arr 1 (eB l) 0 false] ++ [o])[hh.length]? = some (.arr 1 (eB l) 0 false) := by simp
  have e : List.take l.length (eB l) = eB l := List.take_of_length_le (by rw [eB_len]; exact Nat.le_refl _)
  simp [elsOf, this, eB_len, e]

theorem law_many (n k v : UInt8) : ∃ h', call F 7 [vi .u8 n.toNat, vi .u8 k.toNat, vi .u8 v.toNat] [] = some (.ret (vb true), h') := by
  obtain ⟨hk, hknown⟩ := known_f11
  refine call_V (fn := f7) rfl ?_
  simp only [f7]
  generalize hs0 : ([vi .u8 n.toNat, vi .u8 k.toNat, vi .u8 v.toNat] ++ List.replicate _ VV.undef : List VV) = s
  have hs : s.length = 90 := by rw [← hs0]; rfl
  have h0 : s.getD 0 .undef = vi .u8 n.toNat := by rw [← hs0]; rfl
  have h1 : s.getD 1 .undef = vi .u8 k.toNat := by rw [← hs0]; rfl
  have h2 : s.getD 2 .undef = vi .u8 v.toNat := by rw [← hs0]; rfl
  clear hs0
  have hn8 := n.toNat_lt
  have hk8 := k.toNat_lt
  have hv8 := v.toNat_lt
  have n20 : (n.toNat : Int).tmod 20 = ((n.toNat % 20 : Nat) : Int) := rfl
  have eM : IntKind.i64.wrap (4990 + IntKind.i64.wrap ((n.toNat : Int).tmod 20)) = ((4990 + n.toNat % 20 : Nat) : Int) := by
    have : IntKind.i64.wrap ((n.toNat % 20 : Nat) : Int) = ((n.toNat % 20 : Nat) : Int) := IntWalk.i64_in _ (by omega)
    rw [n20, this, IntWalk.i64_in _ (by omega)]; omega
  obtain ⟨w1, g1, hc1, hb1⟩ := num_f12 ((4990 + n.toNat % 20 : Nat) : Int) []
  rw [clamp_of _ (by omega)] at hb1
  simp only [go_sem, Nat.reduceLT, Nat.reduceEqDiff, reduceCtorEq, Int.reduceLT, Int.reduceEq, hs, h0, eM]
  refine XO_callR (by simp only [List.map, go_sem, Nat.reduceLT, Nat.reduceEqDiff, reduceCtorEq, Int.reduceLT, Int.reduceEq, hs]; exact hc1) ?_
  simp only [go_sem, Nat.reduceLT, Nat.reduceEqDiff, reduceCtorEq, Int.reduceLT, Int.reduceEq, hs]
  have hnl := num_len ((4990 + n.toNat % 20 : Nat) : Int)
  rw [clamp_of _ (by omega)] at hnl
  refine f7_loop n (4990 + n.toNat % 20) (by omega) eM (num (4990 + n.toNat % 20)) (by omega) (vi .u8 k.toNat) (vi .u8 v.toNat) (4990 + n.toNat % 20) 0 g1 w1 _ _ (by omega) (by simp only [slot_len, hs]) (by simp only [go_sem, Nat.reduceLT, Nat.reduceEqDiff, reduceCtorEq, Int.reduceLT, Int.reduceEq, h0]) (by simp only [go_sem, Nat.reduceLT, Nat.reduceEqDiff, reduceCtorEq, Int.reduceLT, Int.reduceEq, h1]) (by simp only [go_sem, Nat.reduceLT, Nat.reduceEqDiff, reduceCtorEq, Int.reduceLT, Int.reduceEq, h2]) (by simp only [go_sem, Nat.reduceLT, Nat.reduceEqDiff, reduceCtorEq, Int.reduceLT, Int.reduceEq, hs]) (by simp only [go_sem, Nat.reduceLT, Nat.reduceEqDiff, reduceCtorEq, Int.reduceLT, Int.reduceEq, hs]; rfl) (by rw [show repB 0 = [] from rfl, List.append_nil]; exact hb1.toG (eB_ne.2 (num_ne _))) ?_
  clear hs h0 h1 h2 hb1 hc1
  intro s g2 w2 hs h0 h1 h2 h7 hb2
  obtain ⟨g3, e3, hb3⟩ := (bufF_of hb2).clos
  simp only [go_sem, Nat.reduceLT, Nat.reduceEqDiff, reduceCtorEq, Int.reduceLT, Int.reduceEq, hs, h7]
  obtain ⟨w4, g4, hc4, hr4⟩ := changes_f24 (num (4990 + n.toNat % 20) ++ repB (4990 + n.toNat % 20)) _ slV_SlV (by rw [List.length_append, repB_len]; omega)
  refine XO_callP (by simp only [List.map, go_sem, Nat.reduceLT, Nat.reduceEqDiff, reduceCtorEq, Int.reduceLT, Int.reduceEq, hs, h7]; exact closAs_cons e3 clos_nil) hc4 hr4 ?_
  have q1 := wholeB_gone (4990 + n.toNat % 20) (by omega)
  rw [q1]
  have k40 : IntKind.i64.wrap ((k.toNat : Int).tmod 40) = ((k.toNat % 40 : Nat) : Int) := by
    have : (k.toNat : Int).tmod 40 = ((k.toNat % 40 : Nat) : Int) := rfl
    rw [this]; exact IntWalk.i64_in _ (by omega)
  have kv : IntKind.i64.wrap (v.toNat : Int) = (v.toNat : Int) := IntWalk.i64_in _ (by omega)
  simp only [go_sem, Nat.reduceLT, Nat.reduceEqDiff, reduceCtorEq, Int.reduceLT, Int.reduceEq, hs, h1, k40]
  refine XO_mks (k := .i64) (k' := .i64) (a := k.toNat % 40) (by simp only [go_sem, Nat.reduceLT, Nat.reduceEqDiff, reduceCtorEq, Int.reduceLT, Int.reduceEq, hs]) (by simp only [go_sem, Nat.reduceLT, Nat.reduceEqDiff, reduceCtorEq, Int.reduceLT, Int.reduceEq, hs]) (by omega) (by omega) ?_
  rw [eB_replicate]
  simp only [go_sem, Nat.reduceLT, Nat.reduceEqDiff, reduceCtorEq, Int.reduceLT, Int.reduceEq, hs, h2, kv]
  refine XO_mks (k := .i64) (k' := .i64) (a := v.toNat) (by simp only [go_sem, Nat.reduceLT, Nat.reduceEqDiff, reduceCtorEq, Int.reduceLT, Int.reduceEq, hs]) (by simp only [go_sem, Nat.reduceLT, Nat.reduceEqDiff, reduceCtorEq, Int.reduceLT, Int.reduceEq, hs]) (by omega) (by omega) ?_
  rw [eB_replicate]
  have bk := bs_own (hh := g3) (o := .arr 1 (eB (List.replicate v.toNat 0)) 0 false) (l := List.replicate (k.toNat % 40) 0) List.length_replicate
  simp only [go_sem, Nat.reduceLT, Nat.reduceEqDiff, reduceCtorEq, Int.reduceLT, Int.reduceEq, hs, bk, bd_co]
  rw [mk_agg2_own (by rw [eB_len]; exact List.length_replicate)]
  simp only [go_sem, Nat.reduceLT, Nat.reduceEqDiff, reduceCtorEq, Int.reduceLT, Int.reduceEq, hs]
  have hp1 : (List.replicate (k.toNat % 40) (0 : UInt8)).length = k.toNat % 40 := List.length_replicate
  have hp2 : (List.replicate v.toNat (0 : UInt8)).length = v.toNat := List.length_replicate
  have hone := wholeB_one (List.replicate (k.toNat % 40) 0, List.replicate v.toNat 0) (by rw [hp1]; omega) (by rw [hp2]; omega)
  simp only [hp1, hp2] at hone
  have hrl : (rowsB [(List.replicate (k.toNat % 40) 0, List.replicate v.toNat 0)]).length ≤ 1000 := by
    unfold rowsB rowB text
    have a1 := num_len (1 : Int)
    have a2 := num_len ((k.toNat % 40 : Nat) : Int)
    have a3 := num_len ((v.toNat : Nat) : Int)
    simp only [List.map_cons, List.map_nil, List.flatten_cons, List.flatten_nil, List.append_nil, List.length_append, hp1, hp2, List.length_cons, List.length_nil]
    rw [show ((0 + 1 : Nat) : Int) = 1 from rfl]
    omega
  obtain ⟨w5, g5, hc5, hb5⟩ := rows_f20 [[.sc (.string ⟨(List.replicate (k.toNat % 40) (0 : UInt8)).toArray⟩), .sl 1 (eB (List.replicate v.toNat 0)) true]] [(List.replicate (k.toNat % 40) 0, List.replicate v.toNat 0)] _ (SlV.sl (ex := true)) (.cons ⟨_, rfl, SlV.sl⟩ .nil) [] (by omega) (by simp)
  refine XO_callP (by simp only [List.map, go_sem, Nat.reduceLT, Nat.reduceEqDiff, reduceCtorEq, Int.reduceLT, Int.reduceEq, hs]; exact clos_cv clos_nil) hc5 hb5.close ?_
  simp only [go_sem, Nat.reduceLT, Nat.reduceEqDiff, reduceCtorEq, Int.reduceLT, Int.reduceEq, hs]
  obtain ⟨w6, g6, hc6, hr6⟩ := rows_f22 (rowsB [(List.replicate (k.toNat % 40) 0, List.replicate v.toNat 0)]) _ slV_SlV (by omega)
  rw [hone] at hr6
  refine XO_callP (by simp only [List.map, go_sem, Nat.reduceLT, Nat.reduceEqDiff, reduceCtorEq, Int.reduceLT, Int.reduceEq, hs]; exact slV_SlV.clos clos_nil) hc6 hr6 ?_
  simp only [go_sem, Nat.reduceLT, Nat.reduceEqDiff, reduceCtorEq, Int.reduceLT, Int.reduceEq, hs]
  refine XO_callP clos_nil hknown res_cv ?_
  have k40' : (k.toNat : Int).tmod 40 = ((k.toNat % 40 : Nat) : Int) := rfl
  have z0 : ((0 : Nat) : Int) = 0 := rfl
  have z3 : ((3 : Nat) : Int) = 3 := rfl
  have f1 : ((if 5000 < 4990 + n.toNat % 20 then (3 : Nat) else 0 : Nat) : Int) = if (10 : Int) < ((n.toNat % 20 : Nat) : Int) then 3 else 0 := by split <;> split <;> omega
  have f2 : ((if 30 < k.toNat % 40 ∨ 150 < v.toNat then (3 : Nat) else 0 : Nat) : Int) = if (30 : Int) < ((k.toNat % 40 : Nat) : Int) then 3 else if (150 : Int) < (v.toNat : Int) then 3 else 0 := by
    split <;> split <;> (try split) <;> omega
  rw [f1, f2]
  by_cases b1 : (10 : Int) < ((n.toNat % 20 : Nat) : Int)
  · by_cases b2 : (30 : Int) < ((k.toNat % 40 : Nat) : Int)
    · simp only [go_sem, Nat.reduceLT, Nat.reduceEqDiff, reduceCtorEq, Int.reduceLT, Int.reduceEq, Int.cast_ofNat_Int, Int.ofNat_zero, BEq.rfl, beq_self_eq_true, hs, h0, h1, h2, n20, k40', b1, b2]
      exact rfl
    · by_cases b3 : (150 : Int) < (v.toNat : Int)
      · simp only [go_sem, Nat.reduceLT, Nat.reduceEqDiff, reduceCtorEq, Int.reduceLT, Int.reduceEq, Int.cast_ofNat_Int, Int.ofNat_zero, BEq.rfl, beq_self_eq_true, hs, h0, h1, h2, n20, k40', b1, b2, b3]
        exact rfl
      · simp only [go_sem, Nat.reduceLT, Nat.reduceEqDiff, reduceCtorEq, Int.reduceLT, Int.reduceEq, Int.cast_ofNat_Int, Int.ofNat_zero, BEq.rfl, beq_self_eq_true, hs, h0, h1, h2, n20, k40', b1, b2, b3]
        exact rfl
  · by_cases b2 : (30 : Int) < ((k.toNat % 40 : Nat) : Int)
    · simp only [go_sem, Nat.reduceLT, Nat.reduceEqDiff, reduceCtorEq, Int.reduceLT, Int.reduceEq, Int.cast_ofNat_Int, Int.ofNat_zero, BEq.rfl, beq_self_eq_true, hs, h0, h1, h2, n20, k40', b1, b2]
      exact rfl
    · by_cases b3 : (150 : Int) < (v.toNat : Int)
      · simp only [go_sem, Nat.reduceLT, Nat.reduceEqDiff, reduceCtorEq, Int.reduceLT, Int.reduceEq, Int.cast_ofNat_Int, Int.ofNat_zero, BEq.rfl, beq_self_eq_true, hs, h0, h1, h2, n20, k40', b1, b2, b3]
        exact rfl
      · simp only [go_sem, Nat.reduceLT, Nat.reduceEqDiff, reduceCtorEq, Int.reduceLT, Int.reduceEq, Int.cast_ofNat_Int, Int.ofNat_zero, BEq.rfl, beq_self_eq_true, hs, h0, h1, h2, n20, k40', b1, b2, b3]
        exact rfl

theorem many_in {H : Type} {d0 d1 d2 : DataW H} {u0 u1 u2 : VV} (h0 : DV Proofs.Try.prog 5 d0 u0) (h1 : DV Proofs.Try.prog 5 d1 u1) (h2 : DV Proofs.Try.prog 5 d2 u2) : ∃ h', call F 7 [u0, u1, u2] [] = some (.ret (vb true), h') := by
  obtain ⟨n, rfl⟩ := DV_u8 Proofs.Try.underlying5 h0
  obtain ⟨k, rfl⟩ := DV_u8 Proofs.Try.underlying5 h1
  obtain ⟨v, rfl⟩ := DV_u8 Proofs.Try.underlying5 h2
  exact law_many n k v

end Go.V01
