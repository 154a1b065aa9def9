/- Part of a proof: of what it says, and when, each theorem tells itself. -/
import Derived.Test.YtpingdgbndmcnaaC01j
set_option linter.unusedSimpArgs false
namespace Go.V01
open Go Go.Vm

theorem RowsE.snoc {l : List (List CV)} {k : List (List UInt8 × List UInt8)} (h : RowsE l k) {e : List CV} {p : List UInt8 × List UInt8} (hp : rowE e p) : RowsE (l ++ [e]) (k ++ [p]) := by
  induction h with
  | nil => exact .cons hp .nil
  | cons h _ ih => exact .cons h ih

theorem bd_co {a b : VV} {u : CV} {i g o l : Nat} {e : Bool} : bdO [a, b] [(0, 1, .cv u), (1, 1, .own i g o l e)] = some (.agg [.cv u, .own i g o l e]) := rfl
theorem mko_agg2_own {hh : Heap} {z0 z1 : VV} {u : CV} {els : List (List CV)} {n : Nat} (hn : els.length = n) :
    mkoO (hh ++ [.arr 1 els 0 false]) 2 1 [z0, z1] [(0, 2, .agg [.cv u, .own hh.length 0 0 n true])] = some (.own (hh ++ [VO.arr 1 els 0 true]).length 0 0 1 true, hh ++ [.arr 1 els 0 true] ++ [.arr 2 [[u, .sl 1 els true]] 0 false]) := by
  have e1 : fill [z0, z1] [(0, 2, .agg [.cv u, .own hh.length 0 0 n true])] = some [.cv u, .own hh.length 0 0 n true] := rfl
  have e2 : closL (hh ++ [.arr 1 els 0 false]) [.cv u, .own hh.length 0 0 n true] = some ([u, .sl 1 els true], hh ++ [.arr 1 els 0 true]) := by
    have e3 : ∀ (h : Heap) (c : CV), clos h (.cv c) = some (c, h) := fun _ _ => rfl
    simp only [closL, e3, clos_last hn]
  simp only [mkoO, e1, e2]
  rfl
theorem src_last2 {hh : Heap} {e : List CV} : srcOf (hh ++ [.arr 2 [e] 0 false]) 2 (.own hh.length 0 0 1 true) = some [e] := by
  simp [srcOf, elsOf]

theorem f17_loop (c : List UInt8) (vc : VV) (hc : SlV 1 (eB c) vc) (n : Nat) (hn : n ≤ 40) : ∀ (m i : Nat) (els : List (List CV)) (kv : List (List UInt8 × List UInt8)) (h : Heap) (v : VV) (s : List VV) (Q : Pst),
    i + 2 * m = 2 * n → els.length + m ≤ n → RowsE els kv → BufG h 2 els v → s.length = 82 → s.getD 0 .undef = vc → s.getD 1 .undef = vi .i64 n → s.getD 5 .undef = v → s.getD 6 .undef = vi .i64 i →
    (∀ s' h' v' els', s'.length = 82 → s'.getD 5 .undef = v' → BufG h' 2 els' v' → RowsE els' (kv ++ rowL m (c.drop i)) → Q (.exit 0) ⟨s', h'⟩) →
    X F (.loop f17_1) ⟨s, h⟩ Q := by
  intro m
  induction m with
  | zero =>
    intro i els kv h v s Q him hel hR hb hs h0 h1 h5 h6 hQ
    rw [X_loop, X_eq f17_1.eq_1]
    have e1 : IntKind.i64.wrap ((i : Int) + 1) = ((i + 1 : Nat) : Int) := by rw [IntWalk.i64_in _ (by omega)]; omega
    have e2 : IntKind.i64.wrap (2 * (n : Int)) = ((2 * n : Nat) : Int) := by rw [IntWalk.i64_in _ (by omega)]; omega
    have hlt : ¬ (i : Int) < ((2 * n : Nat) : Int) := by omega
    have fin : ∀ s', s'.length = 82 → s'.getD 5 .undef = v → Q (.exit 0) ⟨s', h⟩ := by
      intro s' hs' h5'
      refine hQ s' h v els hs' h5' hb ?_
      simp only [rowL, List.append_nil]; exact hR
    by_cases hl : ((i + 1 : Nat) : Int) < (c.length : Int)
    · simp only [go_sem, Nat.reduceLT, Nat.reduceEqDiff, reduceCtorEq, Int.reduceLT, Int.reduceEq, hs, h0, h1, h5, h6, e1, e2, hc.ln, eB_len, hl, hlt]
      exact fin _ (by simp only [slot_len, hs]) (by simp only [go_sem, Nat.reduceLT, Nat.reduceEqDiff, reduceCtorEq, Int.reduceLT, Int.reduceEq, h5])
    · simp only [go_sem, Nat.reduceLT, Nat.reduceEqDiff, reduceCtorEq, Int.reduceLT, Int.reduceEq, hs, h0, h1, h5, h6, e1, e2, hc.ln, eB_len, hl, hlt]
      exact fin _ (by simp only [slot_len, hs]) (by simp only [go_sem, Nat.reduceLT, Nat.reduceEqDiff, reduceCtorEq, Int.reduceLT, Int.reduceEq, h5])
  | succ m ih =>
    intro i els kv h v s Q him hel hR hb hs h0 h1 h5 h6 hQ
    rw [X_loop, X_eq f17_1.eq_1]
    have e1 : IntKind.i64.wrap ((i : Int) + 1) = ((i + 1 : Nat) : Int) := by rw [IntWalk.i64_in _ (by omega)]; omega
    have e2 : IntKind.i64.wrap (2 * (n : Int)) = ((2 * n : Nat) : Int) := by rw [IntWalk.i64_in _ (by omega)]; omega
    have e3 : IntKind.i64.wrap ((i : Int) + 2) = ((i + 2 : Nat) : Int) := by rw [IntWalk.i64_in _ (by omega)]; omega
    have hlt : (i : Int) < ((2 * n : Nat) : Int) := by omega
    by_cases hl : ((i + 1 : Nat) : Int) < (c.length : Int)
    · have hi1 : i + 1 < c.length := by omega
      obtain ⟨x, hx⟩ : ∃ x, c[i]? = some x := ⟨_, List.getElem?_eq_getElem (by omega)⟩
      obtain ⟨y, hy⟩ : ∃ y, c[i + 1]? = some y := ⟨_, List.getElem?_eq_getElem hi1⟩
      have hd : c.drop i = x :: y :: c.drop (i + 2) := by
        rw [List.drop_eq_getElem_cons (by omega), List.drop_eq_getElem_cons (by omega)]
        rw [List.getElem?_eq_getElem (by omega)] at hx hy
        cases hx; cases hy; rfl
      have hx256 := x.toNat_lt
      have hy256 := y.toNat_lt
      simp only [go_sem, Nat.reduceLT, Nat.reduceEqDiff, reduceCtorEq, Int.reduceLT, Int.reduceEq, hs, h0, h1, h5, h6, e1, e2, hc.ln, eB_len, hl, hlt]
      have iy : ∀ h : Heap, iaO h 1 vc (vi .i64 ((i + 1 : Nat) : Int)) = some (.rptr (byteCell y), h) := fun h => hc.ia (by omega) (by exact eB_get hy)
      have ix : ∀ h : Heap, iaO h 1 vc (vi .i64 (i : Int)) = some (.rptr (byteCell x), h) := fun h => hc.ia (by omega) (by exact eB_get hx)
      have m40 : IntKind.i64.wrap ((y.toNat : Int).tmod 40) = ((y.toNat % 40 : Nat) : Int) := by
        rw [Int.tmod_eq_emod_of_nonneg (by omega), IntWalk.i64_in _ (by omega)]; omega
      have m50 : IntKind.i64.wrap (100 + IntKind.i64.wrap ((y.toNat : Int).tmod 50)) = ((100 + y.toNat % 50 : Nat) : Int) := by
        have : IntKind.i64.wrap ((y.toNat : Int).tmod 50) = ((y.toNat % 50 : Nat) : Int) := by
          rw [Int.tmod_eq_emod_of_nonneg (by omega), IntWalk.i64_in _ (by omega)]; omega
        rw [this, IntWalk.i64_in _ (by omega)]; omega
      simp only [go_sem, Nat.reduceLT, Nat.reduceEqDiff, reduceCtorEq, Int.reduceLT, Int.reduceEq, hs, h0, h1, h5, h6, e1, iy, byteCell, m40]
      refine XO_mks (k := .i64) (k' := .i64) (a := y.toNat % 40) (by simp only [go_sem, Nat.reduceLT, Nat.reduceEqDiff, reduceCtorEq, Int.reduceLT, Int.reduceEq, hs]) (by simp only [go_sem, Nat.reduceLT, Nat.reduceEqDiff, reduceCtorEq, Int.reduceLT, Int.reduceEq, hs]) (by omega) (by omega) ?_
      rw [eB_replicate]
      simp only [go_sem, Nat.reduceLT, Nat.reduceEqDiff, reduceCtorEq, Int.reduceLT, Int.reduceEq, hs, h0, h1, h5, h6, e1, ix, byteCell]
      refine XB_cut (fun st => ∃ hh L, st.h = hh ++ [.arr 1 (eB (List.replicate L 0)) 0 false] ∧ BufG hh 2 els v ∧ L = (if 230 < x.toNat then 100 + y.toNat % 50 else y.toNat % 40) ∧ st.s.length = 82 ∧ st.s.getD 0 .undef = vc ∧ st.s.getD 1 .undef = vi .i64 n ∧ st.s.getD 5 .undef = v ∧ st.s.getD 6 .undef = vi .i64 i ∧ st.s.getD 7 .undef = .own hh.length 0 0 L true) (fun hc' => ?_) (fun hc' => ?_) ?_
      · have hgt : 230 < x.toNat := by omega
        simp only [go_sem, Nat.reduceLT, Nat.reduceEqDiff, reduceCtorEq, Int.reduceLT, Int.reduceEq, hs, h0, h1, h5, h6, e1, iy, byteCell, m50]
        refine XO_mks (k := .i64) (k' := .i64) (a := 100 + y.toNat % 50) (by simp only [go_sem, Nat.reduceLT, Nat.reduceEqDiff, reduceCtorEq, Int.reduceLT, Int.reduceEq, hs]) (by simp only [go_sem, Nat.reduceLT, Nat.reduceEqDiff, reduceCtorEq, Int.reduceLT, Int.reduceEq, hs]) (by omega) (by omega) ?_
        rw [eB_replicate]
        simp only [go_sem, Nat.reduceLT, Nat.reduceEqDiff, reduceCtorEq, Int.reduceLT, Int.reduceEq, hs]
        exact ⟨_, _, rfl, hb.push _, by rw [if_pos hgt], by simp only [slot_len, hs], by simp only [go_sem, Nat.reduceLT, Nat.reduceEqDiff, reduceCtorEq, Int.reduceLT, Int.reduceEq, h0], by simp only [go_sem, Nat.reduceLT, Nat.reduceEqDiff, reduceCtorEq, Int.reduceLT, Int.reduceEq, h1], by simp only [go_sem, Nat.reduceLT, Nat.reduceEqDiff, reduceCtorEq, Int.reduceLT, Int.reduceEq, h5], by simp only [go_sem, Nat.reduceLT, Nat.reduceEqDiff, reduceCtorEq, Int.reduceLT, Int.reduceEq, h6], by simp only [go_sem, Nat.reduceLT, Nat.reduceEqDiff, reduceCtorEq, Int.reduceLT, Int.reduceEq, hs]⟩
      · have hgt : ¬ 230 < x.toNat := by omega
        simp only [go_sem, Nat.reduceLT, Nat.reduceEqDiff, reduceCtorEq, Int.reduceLT, Int.reduceEq, hs]
        exact ⟨_, _, rfl, hb, by rw [if_neg hgt], by simp only [slot_len, hs], by simp only [go_sem, Nat.reduceLT, Nat.reduceEqDiff, reduceCtorEq, Int.reduceLT, Int.reduceEq, h0], by simp only [go_sem, Nat.reduceLT, Nat.reduceEqDiff, reduceCtorEq, Int.reduceLT, Int.reduceEq, h1], by simp only [go_sem, Nat.reduceLT, Nat.reduceEqDiff, reduceCtorEq, Int.reduceLT, Int.reduceEq, h5], by simp only [go_sem, Nat.reduceLT, Nat.reduceEqDiff, reduceCtorEq, Int.reduceLT, Int.reduceEq, h6], by simp only [go_sem, Nat.reduceLT, Nat.reduceEqDiff, reduceCtorEq, Int.reduceLT, Int.reduceEq, hs]⟩
      · clear iy ix
        rintro s h' ⟨hh, L, rfl, hb, hL, hs, h0, h1, h5, h6, h7⟩
        simp only at hs h0 h1 h5 h6 h7
        have hL2 : L ≤ 149 := by rw [hL]; split <;> omega
        have hrep : (List.replicate L (0 : UInt8)).length = L := List.length_replicate
        simp only [go_sem, Nat.reduceLT, Nat.reduceEqDiff, reduceCtorEq, Int.reduceLT, Int.reduceEq, hs]
        refine f17_fill c vc hc i y hy (by omega) hh L 0 (List.replicate L 0) _ _ (by rw [hrep]; omega) (by rw [hrep]; omega) (fun j hj => by omega) (by simp only [slot_len, hs]) (by simp only [go_sem, Nat.reduceLT, Nat.reduceEqDiff, reduceCtorEq, Int.reduceLT, Int.reduceEq, h0]) (by simp only [go_sem, Nat.reduceLT, Nat.reduceEqDiff, reduceCtorEq, Int.reduceLT, Int.reduceEq, h6]) (by simp only [go_sem, Nat.reduceLT, Nat.reduceEqDiff, reduceCtorEq, Int.reduceLT, Int.reduceEq, h7, hrep]) (by simp only [go_sem, Nat.reduceLT, Nat.reduceEqDiff, reduceCtorEq, Int.reduceLT, Int.reduceEq, hs]; rfl) ?_
        intro s' hs' hj'
        have h0' : s'.getD 0 .undef = vc := by rw [hj' 0 (by decide)]; simp only [go_sem, Nat.reduceLT, Nat.reduceEqDiff, reduceCtorEq, Int.reduceLT, Int.reduceEq, h0]
        have h1' : s'.getD 1 .undef = vi .i64 n := by rw [hj' 1 (by decide)]; simp only [go_sem, Nat.reduceLT, Nat.reduceEqDiff, reduceCtorEq, Int.reduceLT, Int.reduceEq, h1]
        have h5' : s'.getD 5 .undef = v := by rw [hj' 5 (by decide)]; simp only [go_sem, Nat.reduceLT, Nat.reduceEqDiff, reduceCtorEq, Int.reduceLT, Int.reduceEq, h5]
        have h6' : s'.getD 6 .undef = vi .i64 i := by rw [hj' 6 (by decide)]; simp only [go_sem, Nat.reduceLT, Nat.reduceEqDiff, reduceCtorEq, Int.reduceLT, Int.reduceEq, h6]
        have h7' : s'.getD 7 .undef = .own hh.length 0 0 L true := by rw [hj' 7 (by decide)]; simp only [go_sem, Nat.reduceLT, Nat.reduceEqDiff, reduceCtorEq, Int.reduceLT, Int.reduceEq, h7]
        clear hj'
        rw [hrep]
        have iy : ∀ h : Heap, iaO h 1 vc (vi .i64 ((i + 1 : Nat) : Int)) = some (.rptr (byteCell y), h) := fun h => hc.ia (by omega) (by exact eB_get hy)
        have ix : ∀ h : Heap, iaO h 1 vc (vi .i64 (i : Int)) = some (.rptr (byteCell x), h) := fun h => hc.ia (by omega) (by exact eB_get hx)
        have k1 : IntKind.u8.wrap (97 + (x.toNat : Int).tmod 16) = (((u8 (97 + x.toNat % 16)).toNat : Nat) : Int) := by
          rw [u8_toNat _ (by omega), Int.tmod_eq_emod_of_nonneg (by omega), IntKind.wrap_u8]; omega
        have k2 : IntKind.u8.wrap (97 + (IntKind.u8.wrap ((x.toNat : Int).tdiv 16)).tmod 4) = (((u8 (97 + x.toNat / 16 % 4)).toNat : Nat) : Int) := by
          have : IntKind.u8.wrap ((x.toNat : Int).tdiv 16) = ((x.toNat / 16 : Nat) : Int) := by
            rw [Int.tdiv_eq_ediv_of_nonneg (by omega), IntKind.wrap_u8]; omega
          rw [u8_toNat _ (by omega), this, Int.tmod_eq_emod_of_nonneg (by omega), IntKind.wrap_u8]; omega
        simp only [go_sem, Nat.reduceLT, Nat.reduceEqDiff, reduceCtorEq, Int.reduceLT, Int.reduceEq, B_exit, hs']
        refine X_draw rfl ?_
        simp only [go_sem, Nat.reduceLT, Nat.reduceEqDiff, reduceCtorEq, Int.reduceLT, Int.reduceEq, hs', h0', h5', h6', h7', ix, byteCell, k1, k2]
        rw [show ([[CV.sc (.int .u8 ((u8 (97 + x.toNat % 16)).toNat : Nat))], [CV.sc (.int .u8 ((u8 (97 + x.toNat / 16 % 4)).toNat : Nat))]] : List (List CV)) = eB (rowK x) from rfl]
        simp only [go_sem, Nat.reduceLT, Nat.reduceEqDiff, reduceCtorEq, Int.reduceLT, Int.reduceEq, hs', h0', h5', h6', h7', bd_co]
        rw [mko_agg2_own (by rw [eB_len, valF_len])]
        simp only [go_sem, Nat.reduceLT, Nat.reduceEqDiff, reduceCtorEq, Int.reduceLT, Int.reduceEq, hs', h5']
        refine XD_appG ((hb.push _).push _) (new := [[.sc (.string ⟨(rowK x).toArray⟩), .sl 1 (eB (valF y L)) true]]) (by simp only [go_sem, Nat.reduceLT, Nat.reduceEqDiff, reduceCtorEq, Int.reduceLT, Int.reduceEq, hs']) (by simp only [go_sem, Nat.reduceLT, Nat.reduceEqDiff, reduceCtorEq, Int.reduceLT, Int.reduceEq, hs']; exact src_last2) (by simp only [List.length_singleton]; omega) (by simp only [List.length_singleton]; omega) (fun v' h' hb' _ _ => ?_)
        simp only [go_sem, Nat.reduceLT, Nat.reduceEqDiff, reduceCtorEq, Int.reduceLT, Int.reduceEq, hs', h6', e3]
        refine ih (i + 2) _ (kv ++ [(rowK x, rowV x y)]) h' v' _ Q (by omega) (by simp only [List.length_append, List.length_singleton]; omega) (hR.snoc ⟨_, rfl, ?_⟩) hb' (by simp only [slot_len, hs']) (by simp only [go_sem, Nat.reduceLT, Nat.reduceEqDiff, reduceCtorEq, Int.reduceLT, Int.reduceEq, h0']) (by simp only [go_sem, Nat.reduceLT, Nat.reduceEqDiff, reduceCtorEq, Int.reduceLT, Int.reduceEq, h1']) (by simp only [go_sem, Nat.reduceLT, Nat.reduceEqDiff, reduceCtorEq, Int.reduceLT, Int.reduceEq, hs']) (by simp only [go_sem, Nat.reduceLT, Nat.reduceEqDiff, reduceCtorEq, Int.reduceLT, Int.reduceEq, hs']) ?_
        · unfold rowV
          rw [← hL]
          exact SlV.sl
        · intro s' h' v' els' a1 a2 a3 a4
          refine hQ s' h' v' els' a1 a2 a3 ?_
          rw [hd]
          simp only [rowL]
          rw [List.append_assoc] at a4
          exact a4
    · simp only [go_sem, Nat.reduceLT, Nat.reduceEqDiff, reduceCtorEq, Int.reduceLT, Int.reduceEq, hs, h0, h1, h5, h6, e1, e2, hc.ln, eB_len, hl, hlt]
      refine hQ _ h v els (by simp only [slot_len, hs]) (by simp only [go_sem, Nat.reduceLT, Nat.reduceEqDiff, reduceCtorEq, Int.reduceLT, Int.reduceEq, h5]) hb ?_
      have : rowL (m + 1) (c.drop i) = [] := by
        match hd : c.drop i with
        | [] => rfl
        | [_] => rfl
        | _ :: _ :: _ =>
          have := congrArg List.length hd
          simp only [List.length_drop, List.length_cons] at this
          omega
      rw [this, List.append_nil]; exact hR

/-- Rows of choices. -/
theorem list_f17 (c : List UInt8) (vc : VV) (hc : SlV 1 (eB c) vc) (n : Nat) (hn : n ≤ 40) (h : Heap) : ∃ v h', call F 17 [vc, vi .i64 n] h = some (.ret v, h') ∧ ∃ els, BufG h' 2 els v ∧ RowsE els (rowL n c) := by
  have : ∃ v h', call F 17 [vc, vi .i64 n] h = some (.ret v, h') ∧ (fun v h' => ∃ els, BufG h' 2 els v ∧ RowsE els (rowL n c)) v h' := by
    refine call_E (fn := f17) rfl ?_
    simp only [f17]
    generalize hs0 : ([vc, vi .i64 n] ++ List.replicate _ VV.undef : List VV) = s
    have hs : s.length = 82 := by rw [← hs0]; rfl
    have h0 : s.getD 0 .undef = vc := by rw [← hs0]; rfl
    have h1 : s.getD 1 .undef = vi .i64 n := by rw [← hs0]; rfl
    clear hs0
    simp only [go_sem, Nat.reduceLT, Nat.reduceEqDiff, reduceCtorEq, Int.reduceLT, Int.reduceEq, hs, h0, h1]
    refine f17_loop c vc hc n hn n 0 [] [] h nilS _ _ (by omega) (by simp) .nil (BufG.nil _ _) (by simp only [slot_len, hs]) (by simp only [go_sem, Nat.reduceLT, Nat.reduceEqDiff, reduceCtorEq, Int.reduceLT, Int.reduceEq, h0]) (by simp only [go_sem, Nat.reduceLT, Nat.reduceEqDiff, reduceCtorEq, Int.reduceLT, Int.reduceEq, h1]) (by simp only [go_sem, Nat.reduceLT, Nat.reduceEqDiff, reduceCtorEq, Int.reduceLT, Int.reduceEq, hs]) (by simp only [go_sem, Nat.reduceLT, Nat.reduceEqDiff, reduceCtorEq, Int.reduceLT, Int.reduceEq, hs]; rfl) ?_
    intro s' h' v' els' hs' h5' hb' hR'
    simp only [go_sem, Nat.reduceLT, Nat.reduceEqDiff, reduceCtorEq, Int.reduceLT, Int.reduceEq, hs', h5']
    exact ⟨els', hb', by simpa using hR'⟩
  exact this

theorem list_pure (c : List UInt8) (vc : VV) (hc : SlV 1 (eB c) vc) (n : Nat) (hn : n ≤ 40) : ∃ v h' els, call F 17 [vc, vi .i64 n] [] = some (.ret v, h') ∧ closRes h' v = some (slV 2 els) ∧ RowsE els (rowL n c) := by
  obtain ⟨v, h', h1, els, h2, h3⟩ := list_f17 c vc hc n hn []
  exact ⟨v, h', els, h1, h2.close, h3⟩

end Go.V01
