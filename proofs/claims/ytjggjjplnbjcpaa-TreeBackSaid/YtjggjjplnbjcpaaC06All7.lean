/- Part of a proof: of what it says, and when, each theorem tells itself. -/
import Derived.Test.YtjggjjplnbjcpaaC06All6
set_option linter.unusedSimpArgs false
set_option linter.unusedVariables false
namespace Go.V06
open Go Go.Vm

theorem layF_len (l : List KV) (r : KV) : (layF l r).length ≤ l.length + 2 := by
  have := layS_len r l false
  unfold layF
  split
  · omega
  · simp; omega
/-- Rows, as choices say, by rising keys. -/
def risL (n : Nat) (c : List UInt8) : List KV := (rowL n c).foldl layF []

theorem f10_loop {h0 : Heap} {L : List KV} {elsL : List (List CV)} {lv : VV} (hL : SlV 2 elsL lv) (hR : RowsE elsL L) (hn : L.length ≤ 1000) : ∀ (m i : Nat) (acc : List KV) (els : List (List CV)) (va : VV) (hh : Heap) (s : List VV) (g : Heap) (Q : Pst), i + m = L.length → acc.length ≤ 2 * i → HExt h0 hh → NB hh g 2 els va → RowsE els acc →
    s.length = 24 → s.getD 5 .undef = lv → s.getD 6 .undef = va → s.getD 7 .undef = vi .i64 i →
    (∀ s' g' hh els' va', s'.length = 24 → s'.getD 6 .undef = va' → HExt h0 hh → NB hh g' 2 els' va' → RowsE els' ((L.drop i).foldl layF acc) → Q (.exit 0) ⟨s', g'⟩) → X F (.loop f10_0) ⟨s, g⟩ Q := by
  intro m
  have hl := hR.len
  induction m with
  | zero =>
    intro i acc els va hh s g Q hi hac hx hA hRA hs e5 e6 e7 hQ
    have c : ¬ ((i : Nat) : Int) < (elsL.length : Int) := by omega
    rw [X_loop, X_eq f10_0.eq_1]
    simp only [go_sem, Nat.reduceLT, Nat.reduceEqDiff, reduceCtorEq, Int.reduceLT, Int.reduceEq, hs, e7, e5, hL.ln, c]
    have hd : L.drop i = [] := List.drop_eq_nil_of_le (by omega)
    rw [hd] at hQ
    exact hQ _ _ hh els va (by simp only [slot_len, hs]) (by simp only [go_sem, Nat.reduceLT, Nat.reduceEqDiff, reduceCtorEq, Int.reduceLT, Int.reduceEq, e6]) hx hA hRA
  | succ m ih =>
    intro i acc els va hh s g Q hi hac hx hA hRA hs e5 e6 e7 hQ
    have c : ((i : Nat) : Int) < (elsL.length : Int) := by omega
    obtain ⟨e, p, he, hp, c', rfl, hc'⟩ := hR.get (i := i) (by omega)
    have hd : L.drop i = p :: L.drop (i + 1) := by
      obtain ⟨la, rfl⟩ := List.getElem?_eq_some_iff.1 hp
      rw [List.drop_eq_getElem_cons la]
    rw [hd, List.foldl_cons] at hQ
    have ia : iaO g 2 lv (vi .i64 (i : Int)) = some (.rptr [.sc (.string ⟨p.1.toArray⟩), c'], g) := hL.ia (by omega) (by rw [Int.toNat_natCast]; exact he)
    have la2 : ldO g true 2 (.rptr [.sc (.string ⟨p.1.toArray⟩), c']) = some (.agg [txt p.1, .cv c'], g) := ld_r_2
    have hwr : IntKind.i64.wrap ((i : Int) + 1) = ((i + 1 : Nat) : Int) := by rw [IntWalk.i64_in _ (by omega)]; omega
    obtain ⟨v22, g2, n22, hh2, els2, x2, hB2, hRB2⟩ := lay_f22 hA.vf hRA (by omega) hc'
    have hlen := layF_len acc p
    rw [X_loop, X_eq f10_0.eq_1]
    simp only [go_sem, Nat.reduceLT, Nat.reduceEqDiff, reduceCtorEq, Int.reduceLT, Int.reduceEq, hs, e7, e5, e6, hL.ln, c, ia, la2]
    refine XO_callR (by simp only [List.map, go_sem, Nat.reduceLT, Nat.reduceEqDiff, reduceCtorEq, Int.reduceLT, Int.reduceEq, hs]; exact n22) ?_
    simp only [go_sem, Nat.reduceLT, Nat.reduceEqDiff, reduceCtorEq, Int.reduceLT, Int.reduceEq, hs, e7, hwr]
    exact ih (i + 1) (layF acc p) els2 v22 hh2 _ _ Q (by omega) (by omega) ((hx.trans hA.ext).trans x2) hB2 hRB2 (by simp only [slot_len, hs]) (by simp only [go_sem, Nat.reduceLT, Nat.reduceEqDiff, reduceCtorEq, Int.reduceLT, Int.reduceEq, e5]) (by simp only [go_sem, Nat.reduceLT, Nat.reduceEqDiff, reduceCtorEq, Int.reduceLT, Int.reduceEq, hs]) (by simp only [go_sem, Nat.reduceLT, Nat.reduceEqDiff, reduceCtorEq, Int.reduceLT, Int.reduceEq, hs]) hQ

theorem rising_f10 {h : Heap} {c : List UInt8} {vc : VV} (hc : SlV 1 (eB c) vc) {n : Nat} (hn : n ≤ 60) : Ret F 10 [vc, vi .i64 n] h fun v g => ∃ hh els, HExt h hh ∧ NB hh g 2 els v ∧ RowsE els (risL n c) := by
  refine call_E (fn := f10) rfl ?_
  simp only [f10]
  generalize hs0 : ([vc, vi .i64 n] ++ List.replicate _ VV.undef : List VV) = s
  have hs : s.length = 24 := by rw [← hs0]; rfl
  have h0 : s.getD 0 .undef = vc := by rw [← hs0]; rfl
  have h1 : s.getD 1 .undef = vi .i64 n := by rw [← hs0]; rfl
  clear hs0
  obtain ⟨v11, h11, els11, n11, r11, R11⟩ := list_pure c vc hc n hn
  have hlen : (rowL n c).length ≤ n := rowL_len n c
  simp only [go_sem, Nat.reduceLT, Nat.reduceEqDiff, reduceCtorEq, Int.reduceLT, Int.reduceEq, hs, h0, h1]
  refine XO_callP (h1 := h) (by simp only [List.map, go_sem, Nat.reduceLT, Nat.reduceEqDiff, reduceCtorEq, Int.reduceLT, Int.reduceEq, hs]; exact hc.clos (clos_cv clos_nil)) n11 r11 ?_
  simp only [go_sem, Nat.reduceLT, Nat.reduceEqDiff, reduceCtorEq, Int.reduceLT, Int.reduceEq, hs]
  refine f10_loop (h0 := h) slV_SlV R11 (by omega) (rowL n c).length 0 [] [] nilS h _ _ _ (by omega) (by simp) (HExt.refl h) (NB.nil _ _) .nil (by simp only [slot_len, hs]) (by simp only [go_sem, Nat.reduceLT, Nat.reduceEqDiff, reduceCtorEq, Int.reduceLT, Int.reduceEq, hs]) (by simp only [go_sem, Nat.reduceLT, Nat.reduceEqDiff, reduceCtorEq, Int.reduceLT, Int.reduceEq, hs]) (by simp only [go_sem, Nat.reduceLT, Nat.reduceEqDiff, reduceCtorEq, Int.reduceLT, Int.reduceEq, hs]; rfl) (fun s' g' hh els' va' a1 a2 a3 a4 a5 => ?_)
  simp only [go_sem, Nat.reduceLT, Nat.reduceEqDiff, reduceCtorEq, Int.reduceLT, Int.reduceEq, a1, a2]
  exact ⟨hh, els', a3, a4, a5⟩
theorem rising_pure {c : List UInt8} {vc : VV} (hc : SlV 1 (eB c) vc) {n : Nat} (hn : n ≤ 60) : RetP F 10 [vc, vi .i64 n] fun w => ∃ els, SlV 2 els w ∧ RowsE els (risL n c) := by
  obtain ⟨v, g, n1, hh, els, _, b, R⟩ := rising_f10 (h := []) hc hn
  obtain ⟨w, c1, c2⟩ := b.res
  exact ⟨v, g, n1, w, c1, els, c2, R⟩
end Go.V06

set_option linter.unusedSimpArgs false
set_option linter.unusedVariables false
namespace Go.V06
open Go Go.Vm

def manyK (i : Nat) : List UInt8 := [u8 (97 + i / 676), u8 (97 + i / 26 % 26), u8 (97 + i % 26)]
def manyL (n size : Nat) : List KV := (List.range n).map fun i => (manyK i, List.replicate size (u8 i))

theorem f12_fill (i : Nat) (hi : i ≤ 255) (h0 : Heap) : ∀ (d k : Nat) (vl : List UInt8) (s : List VV) (Q : Pst),
    vl.length = k + d → vl.length ≤ 200 → (∀ j, j < k → vl[j]? = some (u8 i)) → s.length = 48 → s.getD 6 .undef = vi .i64 i → s.getD 7 .undef = .own h0.length 0 0 vl.length true → s.getD 8 .undef = vi .i64 k →
    (∀ s', s'.length = 48 → s'.getD 0 .undef = s.getD 0 .undef → s'.getD 1 .undef = s.getD 1 .undef → s'.getD 5 .undef = s.getD 5 .undef → s'.getD 6 .undef = s.getD 6 .undef → s'.getD 7 .undef = s.getD 7 .undef → Q (.exit 2) ⟨s', h0 ++ [.arr 1 (eB (List.replicate vl.length (u8 i))) 0 false]⟩) →
    X F (.loop f12_0) ⟨s, h0 ++ [.arr 1 (eB vl) 0 false]⟩ Q := by
  intro d
  induction d with
  | zero =>
    intro k vl s Q hl hl2 hv hs h6 h7 h8 hQ
    rw [X_loop, X_eq f12_0.eq_1]
    have hlt : ¬ (k : Int) < (vl.length : Int) := by omega
    have e : vl = List.replicate vl.length (u8 i) := by
      apply List.ext_getElem?
      intro j
      by_cases hj : j < k
      · rw [hv j hj, List.getElem?_replicate, if_pos (by omega)]
      · rw [List.getElem?_eq_none (by omega), List.getElem?_eq_none (by rw [List.length_replicate]; omega)]
    rw [← e] at hQ
    simp only [go_sem, Nat.reduceLT, Nat.reduceEqDiff, reduceCtorEq, Int.reduceLT, Int.reduceEq, hs, h7, h8, hlt]
    exact hQ _ (by simp only [slot_len, hs]) (by simp only [go_sem, Nat.reduceLT, Nat.reduceEqDiff, reduceCtorEq, Int.reduceLT, Int.reduceEq]) (by simp only [go_sem, Nat.reduceLT, Nat.reduceEqDiff, reduceCtorEq, Int.reduceLT, Int.reduceEq]) (by simp only [go_sem, Nat.reduceLT, Nat.reduceEqDiff, reduceCtorEq, Int.reduceLT, Int.reduceEq]) (by simp only [go_sem, Nat.reduceLT, Nat.reduceEqDiff, reduceCtorEq, Int.reduceLT, Int.reduceEq]) (by simp only [go_sem, Nat.reduceLT, Nat.reduceEqDiff, reduceCtorEq, Int.reduceLT, Int.reduceEq])
  | succ d ih =>
    intro k vl s Q hl hl2 hv hs h6 h7 h8 hQ
    rw [X_loop, X_eq f12_0.eq_1]
    have hlt : (k : Int) < (vl.length : Int) := by omega
    have e2 : IntKind.i64.wrap ((k : Int) + 1) = ((k + 1 : Nat) : Int) := by rw [IntWalk.i64_in _ (by omega)]; omega
    have e3 : IntKind.u8.wrap (i : Int) = (((u8 i).toNat : Nat) : Int) := by
      rw [u8_toNat _ (by omega), wrap_u8_nat]; omega
    simp only [go_sem, Nat.reduceLT, Nat.reduceEqDiff, reduceCtorEq, Int.reduceLT, Int.reduceEq, hs, h6, h7, h8, hlt, e3]
    rw [ia_last (by omega)]
    simp only [go_sem, Nat.reduceLT, Nat.reduceEqDiff, reduceCtorEq, Int.reduceLT, Int.reduceEq, hs, h6, h7, h8, e3]
    rw [st_last (by omega)]
    simp only [go_sem, Nat.reduceLT, Nat.reduceEqDiff, reduceCtorEq, Int.reduceLT, Int.reduceEq, hs, h6, h7, h8, e2]
    have hl3 : (vl.set k (u8 i)).length = vl.length := List.length_set
    rw [← hl3] at hQ
    refine ih (k + 1) _ _ Q (by rw [hl3]; omega) (by rw [hl3]; omega) ?_ (by simp only [slot_len, hs]) (by simp only [go_sem, Nat.reduceLT, Nat.reduceEqDiff, reduceCtorEq, Int.reduceLT, Int.reduceEq, h6]) (by simp only [go_sem, Nat.reduceLT, Nat.reduceEqDiff, reduceCtorEq, Int.reduceLT, Int.reduceEq, h7, hl3]) (by simp only [go_sem, Nat.reduceLT, Nat.reduceEqDiff, reduceCtorEq, Int.reduceLT, Int.reduceEq, hs]) ?_
    · intro j hj
      by_cases hjk : j = k
      · subst hjk
        rw [List.getElem?_set_self (by omega)]
      · rw [List.getElem?_set_ne (by omega)]
        exact hv j (by omega)
    · intro s' hs' a0 a1 a5 a6 a7
      exact hQ s' hs' (by rw [a0]; simp only [go_sem, Nat.reduceLT, Nat.reduceEqDiff, reduceCtorEq, Int.reduceLT, Int.reduceEq]) (by rw [a1]; simp only [go_sem, Nat.reduceLT, Nat.reduceEqDiff, reduceCtorEq, Int.reduceLT, Int.reduceEq]) (by rw [a5]; simp only [go_sem, Nat.reduceLT, Nat.reduceEqDiff, reduceCtorEq, Int.reduceLT, Int.reduceEq]) (by rw [a6]; simp only [go_sem, Nat.reduceLT, Nat.reduceEqDiff, reduceCtorEq, Int.reduceLT, Int.reduceEq]) (by rw [a7]; simp only [go_sem, Nat.reduceLT, Nat.reduceEqDiff, reduceCtorEq, Int.reduceLT, Int.reduceEq])

theorem many_snoc (i size : Nat) : manyL (i + 1) size = manyL i size ++ [(manyK i, List.replicate size (u8 i))] := by
  unfold manyL; rw [List.range_succ, List.map_append]; rfl
theorem many_len (n size : Nat) : (manyL n size).length = n := by simp [manyL]

theorem f12_loop {n size : Nat} (hn : n ≤ 255) (hz : size ≤ 160) : ∀ (m i : Nat) (els : List (List CV)) (v : VV) (s : List VV) (h : Heap) (Q : Pst), i + m = n → BufG h 2 els v → RowsE els (manyL i size) → s.length = 48 → s.getD 0 .undef = vi .i64 n → s.getD 1 .undef = vi .i64 size → s.getD 5 .undef = v → s.getD 6 .undef = vi .i64 i →
    (∀ s' h' els' v', s'.length = 48 → s'.getD 5 .undef = v' → BufG h' 2 els' v' → RowsE els' (manyL n size) → Q (.exit 0) ⟨s', h'⟩) → X F (.loop f12_1) ⟨s, h⟩ Q := by
  intro m
  induction m with
  | zero =>
    intro i els v s h Q hi hb hR hs e0 e1 e5 e6 hQ
    have c : ¬ ((i : Nat) : Int) < (n : Int) := by omega
    rw [X_loop, X_eq f12_1.eq_1]
    simp only [go_sem, Nat.reduceLT, Nat.reduceEqDiff, reduceCtorEq, Int.reduceLT, Int.reduceEq, hs, e6, e0, c]
    have : i = n := by omega
    subst this
    exact hQ _ _ els v (by simp only [slot_len, hs]) (by simp only [go_sem, Nat.reduceLT, Nat.reduceEqDiff, reduceCtorEq, Int.reduceLT, Int.reduceEq, e5]) hb hR
  | succ m ih =>
    intro i els v s h Q hi hb hR hs e0 e1 e5 e6 hQ
    have c : ((i : Nat) : Int) < (n : Int) := by omega
    have hl := hR.len
    rw [many_len] at hl
    have hwr : IntKind.i64.wrap ((i : Int) + 1) = ((i + 1 : Nat) : Int) := by rw [IntWalk.i64_in _ (by omega)]; omega
    rw [X_loop, X_eq f12_1.eq_1]
    simp only [go_sem, Nat.reduceLT, Nat.reduceEqDiff, reduceCtorEq, Int.reduceLT, Int.reduceEq, hs, e6, e0, e1, c]
    refine XO_mks (k := .i64) (k' := .i64) (a := size) (by simp only [go_sem, Nat.reduceLT, Nat.reduceEqDiff, reduceCtorEq, Int.reduceLT, Int.reduceEq, hs]) (by simp only [go_sem, Nat.reduceLT, Nat.reduceEqDiff, reduceCtorEq, Int.reduceLT, Int.reduceEq, hs]) (by omega) (by omega) ?_
    rw [eB_replicate]
    simp only [go_sem, Nat.reduceLT, Nat.reduceEqDiff, reduceCtorEq, Int.reduceLT, Int.reduceEq, hs]
    have hrep : (List.replicate size (0 : UInt8)).length = size := List.length_replicate
    refine f12_fill i (by omega) h size 0 (List.replicate size 0) _ _ (by rw [hrep]; omega) (by rw [hrep]; omega) (fun j hj => by omega) (by simp only [slot_len, hs]) (by simp only [go_sem, Nat.reduceLT, Nat.reduceEqDiff, reduceCtorEq, Int.reduceLT, Int.reduceEq, e6]) (by simp only [go_sem, Nat.reduceLT, Nat.reduceEqDiff, reduceCtorEq, Int.reduceLT, Int.reduceEq, hs, hrep]) (by simp only [go_sem, Nat.reduceLT, Nat.reduceEqDiff, reduceCtorEq, Int.reduceLT, Int.reduceEq, hs]; rfl) ?_
    intro s' hs' a0 a1 a5 a6 a7
    have b0 : s'.getD 0 .undef = vi .i64 n := by rw [a0]; simp only [go_sem, Nat.reduceLT, Nat.reduceEqDiff, reduceCtorEq, Int.reduceLT, Int.reduceEq, e0]
    have b1 : s'.getD 1 .undef = vi .i64 size := by rw [a1]; simp only [go_sem, Nat.reduceLT, Nat.reduceEqDiff, reduceCtorEq, Int.reduceLT, Int.reduceEq, e1]
    have b5 : s'.getD 5 .undef = v := by rw [a5]; simp only [go_sem, Nat.reduceLT, Nat.reduceEqDiff, reduceCtorEq, Int.reduceLT, Int.reduceEq, e5]
    have b6 : s'.getD 6 .undef = vi .i64 i := by rw [a6]; simp only [go_sem, Nat.reduceLT, Nat.reduceEqDiff, reduceCtorEq, Int.reduceLT, Int.reduceEq, e6]
    have b7 : s'.getD 7 .undef = .own h.length 0 0 size true := by rw [a7]; simp only [go_sem, Nat.reduceLT, Nat.reduceEqDiff, reduceCtorEq, Int.reduceLT, Int.reduceEq, hs]
    clear a0 a1 a5 a6 a7
    rw [hrep]
    have k1 : IntKind.u8.wrap (97 + IntKind.u8.wrap (IntKind.i64.wrap ((i : Int).tdiv 676))) = (((u8 (97 + i / 676)).toNat : Nat) : Int) := by
      have : (i : Int).tdiv 676 = ((i / 676 : Nat) : Int) := rfl
      rw [u8_toNat _ (by omega), this, IntWalk.i64_in _ (by omega), wrap_u8_nat, IntKind.wrap_u8]; omega
    have k2 : IntKind.u8.wrap (97 + IntKind.u8.wrap ((IntKind.i64.wrap ((i : Int).tdiv 26)).tmod 26)) = (((u8 (97 + i / 26 % 26)).toNat : Nat) : Int) := by
      have e1 : (i : Int).tdiv 26 = ((i / 26 : Nat) : Int) := rfl
      have e2 : (((i / 26 : Nat) : Int)).tmod 26 = ((i / 26 % 26 : Nat) : Int) := rfl
      rw [u8_toNat _ (by omega), e1, IntWalk.i64_in ((i / 26 : Nat) : Int) (by omega), e2, wrap_u8_nat, IntKind.wrap_u8]; omega
    have k3 : IntKind.u8.wrap (97 + IntKind.u8.wrap ((i : Int).tmod 26)) = (((u8 (97 + i % 26)).toNat : Nat) : Int) := by
      have e2 : (i : Int).tmod 26 = ((i % 26 : Nat) : Int) := rfl
      rw [u8_toNat _ (by omega), e2, wrap_u8_nat, IntKind.wrap_u8]; omega
    have mk3 : ∀ (h : Heap) (a b c : CV), mkO h 1 3 [VV.cv (CV.sc (.int .u8 0)), .cv (.sc (.int .u8 0)), .cv (.sc (.int .u8 0))] [(0, 1, .cv a), (1, 1, .cv b), (2, 1, .cv c)] = some (.cv (.sl 1 [[a], [b], [c]] true), h) := fun _ _ _ _ => rfl
    have bs3 : ∀ h : Heap, bsO h (.cv (.sl 1 [[.sc (.int .u8 ((u8 (97 + i / 676)).toNat : Nat))], [.sc (.int .u8 ((u8 (97 + i / 26 % 26)).toNat : Nat))], [.sc (.int .u8 ((u8 (97 + i % 26)).toNat : Nat))]] true)) = some (txt (manyK i)) := fun h => (show SlV 1 (eB (manyK i)) _ from .inr ⟨true, rfl⟩).bs
    have bdo : ∀ (k : List UInt8) (j : Nat), bdO [.cv (.sc (.string ⟨#[]⟩)), .cv (.sc (.slice none 0 0))] [(0, 1, txt k), (1, 1, .own j 0 0 size true)] = some (.agg [txt k, .own j 0 0 size true]) := fun _ _ => rfl
    have hlen : (eB (List.replicate size (u8 i))).length = size := by rw [eB_len, List.length_replicate]
    simp only [go_sem, Nat.reduceLT, Nat.reduceEqDiff, reduceCtorEq, Int.reduceLT, Int.reduceEq, B_exit, hs', b6, b5, b7, k1, k2, k3, mk3, bs3, bdo]
    rw [mk_agg2_own hlen]
    simp only [go_sem, Nat.reduceLT, Nat.reduceEqDiff, reduceCtorEq, Int.reduceLT, Int.reduceEq, hs', b5]
    have hb1 := (hb.push (VO.arr 1 (eB (List.replicate size (u8 i))) 0 true))
    refine XO_appBG hb1 (by simp only [go_sem, Nat.reduceLT, Nat.reduceEqDiff, reduceCtorEq, Int.reduceLT, Int.reduceEq, hs', b5]) (by simp only [go_sem, Nat.reduceLT, Nat.reduceEqDiff, reduceCtorEq, Int.reduceLT, Int.reduceEq, hs', src_sl]; rfl) (by simp only [List.length_singleton]; omega) (by simp only [List.length_singleton]; omega) (fun v' h' hb' _ => ?_)
    simp only [go_sem, Nat.reduceLT, Nat.reduceEqDiff, reduceCtorEq, Int.reduceLT, Int.reduceEq, hs', b6, hwr]
    refine ih (i + 1) _ v' _ _ Q (by omega) hb' (by rw [many_snoc]; exact hR.snoc ⟨_, rfl, .inr ⟨true, rfl⟩⟩) (by simp only [slot_len, hs']) (by simp only [go_sem, Nat.reduceLT, Nat.reduceEqDiff, reduceCtorEq, Int.reduceLT, Int.reduceEq, b0]) (by simp only [go_sem, Nat.reduceLT, Nat.reduceEqDiff, reduceCtorEq, Int.reduceLT, Int.reduceEq, b1]) (by simp only [go_sem, Nat.reduceLT, Nat.reduceEqDiff, reduceCtorEq, Int.reduceLT, Int.reduceEq, hs']) (by simp only [go_sem, Nat.reduceLT, Nat.reduceEqDiff, reduceCtorEq, Int.reduceLT, Int.reduceEq, hs']) hQ

theorem many_f12 {n size : Nat} (hn : n ≤ 255) (hz : size ≤ 160) : RetP F 12 [vi .i64 n, vi .i64 size] fun w => ∃ els, SlV 2 els w ∧ RowsE els (manyL n size) := by
  have : Ret F 12 [vi .i64 n, vi .i64 size] [] fun v g => ∃ els, BufG g 2 els v ∧ RowsE els (manyL n size) := by
    refine call_E (fn := f12) rfl ?_
    simp only [f12]
    generalize hs0 : ([vi .i64 n, vi .i64 size] ++ List.replicate _ VV.undef : List VV) = s
    have hs : s.length = 48 := by rw [← hs0]; rfl
    have h0 : s.getD 0 .undef = vi .i64 n := by rw [← hs0]; rfl
    have h1 : s.getD 1 .undef = vi .i64 size := by rw [← hs0]; rfl
    clear hs0
    simp only [go_sem, Nat.reduceLT, Nat.reduceEqDiff, reduceCtorEq, Int.reduceLT, Int.reduceEq, hs]
    refine f12_loop hn hz n 0 [] nilS _ _ _ (by omega) (BufG.nil _ _) .nil (by simp only [slot_len, hs]) (by simp only [go_sem, Nat.reduceLT, Nat.reduceEqDiff, reduceCtorEq, Int.reduceLT, Int.reduceEq, h0]) (by simp only [go_sem, Nat.reduceLT, Nat.reduceEqDiff, reduceCtorEq, Int.reduceLT, Int.reduceEq, h1]) (by simp only [go_sem, Nat.reduceLT, Nat.reduceEqDiff, reduceCtorEq, Int.reduceLT, Int.reduceEq, hs]) (by simp only [go_sem, Nat.reduceLT, Nat.reduceEqDiff, reduceCtorEq, Int.reduceLT, Int.reduceEq, hs]; rfl) (fun s' h' els' v' a1 a2 a3 a4 => ?_)
    simp only [go_sem, Nat.reduceLT, Nat.reduceEqDiff, reduceCtorEq, Int.reduceLT, Int.reduceEq, a1, a2]
    exact ⟨els', a3, a4⟩
  obtain ⟨v, g, n1, els, hb, hR⟩ := this
  exact ⟨v, g, n1, _, hb.close, els, slV_SlV, hR⟩
end Go.V06

set_option linter.unusedSimpArgs false
set_option linter.unusedVariables false
namespace Go.V06
open Go Go.Vm

/-! ### TreeBuilds -/
theorem f3_loop {els : List (List CV)} {kv : List KV} {u : VV} (hS : SlV 2 els u) (hR : RowsE els kv) (hn : kv.length ≤ 9223372036854775807) (h : Heap) :
    ∀ (r k : Nat) (n : Int) (s : List VV) (Q : Pst), k + r = kv.length → s.length = 62 → s.getD 0 .undef = u → s.getD 9 .undef = vi .i64 n → s.getD 10 .undef = vi .i64 k →
      (∀ s' n', s'.length = 62 → s'.getD 0 .undef = s.getD 0 .undef → s'.getD 1 .undef = s.getD 1 .undef → s'.getD 2 .undef = s.getD 2 .undef → s'.getD 3 .undef = s.getD 3 .undef → s'.getD 9 .undef = vi .i64 n' → Q (.exit 0) ⟨s', h⟩) → X F (.loop f3_0) ⟨s, h⟩ Q := by
  have hl := hR.len
  intro r
  induction r with
  | zero =>
    intro k n s Q hk hs h0 h9 h10 hQ
    rw [X_loop, X_eq f3_0.eq_1]
    have c : ¬ (k : Int) < (kv.length : Int) := by omega
    simp only [go_sem, Nat.reduceLT, Nat.reduceEqDiff, reduceCtorEq, Int.reduceLT, Int.reduceEq, hs, h0, h10, hS.ln, hl, c]
    exact hQ _ n (by simp only [slot_len, hs]) (by simp only [go_sem, Nat.reduceLT, Nat.reduceEqDiff, reduceCtorEq, Int.reduceLT, Int.reduceEq, h0]) (by simp only [go_sem, Nat.reduceLT, Nat.reduceEqDiff, reduceCtorEq, Int.reduceLT, Int.reduceEq]) (by simp only [go_sem, Nat.reduceLT, Nat.reduceEqDiff, reduceCtorEq, Int.reduceLT, Int.reduceEq]) (by simp only [go_sem, Nat.reduceLT, Nat.reduceEqDiff, reduceCtorEq, Int.reduceLT, Int.reduceEq]) (by simp only [go_sem, Nat.reduceLT, Nat.reduceEqDiff, reduceCtorEq, Int.reduceLT, Int.reduceEq, h9])
  | succ r ih =>
    intro k n s Q hk hs h0 h9 h10 hQ
    rw [X_loop, X_eq f3_0.eq_1]
    have c : (k : Int) < (kv.length : Int) := by omega
    obtain ⟨e, p, he, hp, cc, rfl, hc⟩ := hR.get (i := k) (by omega)
    have hia := hS.ia (h := h) (k := .i64) (j := (k : Int)) (by omega) he
    have hw : IntKind.i64.wrap ((k : Int) + 1) = ((k + 1 : Nat) : Int) := by rw [IntWalk.i64_in _ (by omega)]; omega
    simp only [go_sem, Nat.reduceLT, Nat.reduceEqDiff, reduceCtorEq, Int.reduceLT, Int.reduceEq, hs, h0, h10, hS.ln, hl, c]
    refine X_draw rfl ?_
    simp only [go_sem, Nat.reduceLT, Nat.reduceEqDiff, reduceCtorEq, Int.reduceLT, Int.reduceEq, hs, h0, h9, h10, hia, hc.ln, hw]
    exact ih (k + 1) _ _ Q (by omega) (by simp only [slot_len, hs]) (by simp only [go_sem, Nat.reduceLT, Nat.reduceEqDiff, reduceCtorEq, Int.reduceLT, Int.reduceEq, h0]) (by simp only [go_sem, Nat.reduceLT, Nat.reduceEqDiff, reduceCtorEq, Int.reduceLT, Int.reduceEq, hs]; rfl) (by simp only [go_sem, Nat.reduceLT, Nat.reduceEqDiff, reduceCtorEq, Int.reduceLT, Int.reduceEq, hs]) (fun s' n' a a0 a1 a2 a3 a9 => hQ s' n' a (by rw [a0]; simp only [go_sem, Nat.reduceLT, Nat.reduceEqDiff, reduceCtorEq, Int.reduceLT, Int.reduceEq]) (by rw [a1]; simp only [go_sem, Nat.reduceLT, Nat.reduceEqDiff, reduceCtorEq, Int.reduceLT, Int.reduceEq]) (by rw [a2]; simp only [go_sem, Nat.reduceLT, Nat.reduceEqDiff, reduceCtorEq, Int.reduceLT, Int.reduceEq]) (by rw [a3]; simp only [go_sem, Nat.reduceLT, Nat.reduceEqDiff, reduceCtorEq, Int.reduceLT, Int.reduceEq]) a9)

theorem fold_len : ∀ (L acc : List KV), (L.foldl layF acc).length ≤ acc.length + 2 * L.length
  | [], acc => by simp
  | p :: L, acc => by
    have h1 := fold_len L (layF acc p)
    have h2 := layF_len acc p
    simp only [List.foldl_cons, List.length_cons]
    omega
theorem risL_len (n : Nat) (c : List UInt8) : (risL n c).length ≤ 2 * n := by
  have h1 := fold_len (rowL n c) []
  have h2 := rowL_len n c
  simp only [List.length_nil] at h1
  unfold risL
  omega

theorem law_builds {els : List (List CV)} {kv : List KV} {u : VV} (hS : SlV 2 els u) (hR : RowsE els kv) (hn : kv.length ≤ 9223372036854775807) (c : List UInt8) (vc : VV) (hc : SlV 1 (eB c) vc) (n size : UInt8) : ∃ h', call F 3 [u, vc, vi .u8 n.toNat, vi .u8 size.toNat] [] = some (.ret (vb true), h') := by
  have : Ret F 3 [u, vc, vi .u8 n.toNat, vi .u8 size.toNat] [] fun v h' => v = vb true := by
    refine call_E (fn := f3) rfl ?_
    simp only [f3]
    generalize hs0 : ([u, vc, vi .u8 n.toNat, vi .u8 size.toNat] ++ List.replicate _ VV.undef : List VV) = s
    have hs : s.length = 62 := by rw [← hs0]; rfl
    have h0 : s.getD 0 .undef = u := by rw [← hs0]; rfl
    have h1 : s.getD 1 .undef = vc := by rw [← hs0]; rfl
    have h2 : s.getD 2 .undef = vi .u8 n.toNat := by rw [← hs0]; rfl
    have h3 : s.getD 3 .undef = vi .u8 size.toNat := by rw [← hs0]; rfl
    clear hs0
    obtain ⟨h8', n8⟩ := known_f8
    obtain ⟨h9a, n9a⟩ := builds_f9 hS hR hn
    have hl := hR.len
    simp only [go_sem, Nat.reduceLT, Nat.reduceEqDiff, reduceCtorEq, Int.reduceLT, Int.reduceEq, hs, h0, hS.ln]
    refine f3_loop hS hR hn [] kv.length 0 els.length _ _ (by omega) (by simp only [slot_len, hs]) (by simp only [go_sem, Nat.reduceLT, Nat.reduceEqDiff, reduceCtorEq, Int.reduceLT, Int.reduceEq, h0]) (by simp only [go_sem, Nat.reduceLT, Nat.reduceEqDiff, reduceCtorEq, Int.reduceLT, Int.reduceEq, hs]) (by simp only [go_sem, Nat.reduceLT, Nat.reduceEqDiff, reduceCtorEq, Int.reduceLT, Int.reduceEq, hs]; rfl) (fun s' n' hs' a0 a1 a2 a3 a9 => ?_)
    have b0 : s'.getD 0 .undef = u := by rw [a0]; simp only [go_sem, Nat.reduceLT, Nat.reduceEqDiff, reduceCtorEq, Int.reduceLT, Int.reduceEq, h0]
    have b1 : s'.getD 1 .undef = vc := by rw [a1]; simp only [go_sem, Nat.reduceLT, Nat.reduceEqDiff, reduceCtorEq, Int.reduceLT, Int.reduceEq, h1]
    have b2 : s'.getD 2 .undef = vi .u8 n.toNat := by rw [a2]; simp only [go_sem, Nat.reduceLT, Nat.reduceEqDiff, reduceCtorEq, Int.reduceLT, Int.reduceEq, h2]
    have b3 : s'.getD 3 .undef = vi .u8 size.toNat := by rw [a3]; simp only [go_sem, Nat.reduceLT, Nat.reduceEqDiff, reduceCtorEq, Int.reduceLT, Int.reduceEq, h3]
    clear a0 a1 a2 a3
    simp only [go_sem, Nat.reduceLT, Nat.reduceEqDiff, reduceCtorEq, Int.reduceLT, Int.reduceEq, hs']
    rw [X_eq f3_1.eq_1]
    by_cases d : n' > 1500
    · simp only [go_sem, Nat.reduceLT, Nat.reduceEqDiff, reduceCtorEq, Int.reduceLT, Int.reduceEq, hs', a9, d]
      refine XO_callP (h1 := []) (by simp only [List.map]; rfl) n8 rfl ?_
      simp only [go_sem, Nat.reduceLT, Nat.reduceEqDiff, reduceCtorEq, Int.reduceLT, Int.reduceEq, hs']
    · simp only [go_sem, Nat.reduceLT, Nat.reduceEqDiff, reduceCtorEq, Int.reduceLT, Int.reduceEq, hs', a9, d]
      refine XO_callP (h1 := []) (by simp only [List.map]; rfl) n8 rfl ?_
      obtain ⟨v10, h10, n10, w10, r10, els10, sl10, R10⟩ := rising_pure hc (n := 30) (by omega)
      obtain ⟨h9b, n9b⟩ := builds_f9 sl10 R10 (by have := risL_len 30 c; omega)
      obtain ⟨v11, h11, els11, n11, r11, R11⟩ := list_pure c vc hc 6 (by omega)
      have hl6 := rowL_len 6 c
      obtain ⟨h9c, n9c⟩ := builds_f9 slV_SlV R11 (by omega)
      have hn8 := n.toNat_lt
      have hs8 := size.toNat_lt
      obtain ⟨v12, h12, n12, w12, r12, els12, sl12, R12⟩ := many_f12 (n := n.toNat) (size := size.toNat % 160) (by omega) (by omega)
      obtain ⟨h9d, n9d⟩ := builds_f9 sl12 R12 (by rw [many_len]; omega)
      have z160 : (160 : Int) ≠ 0 := by decide
      have e1 : IntKind.i64.wrap (n.toNat : Int) = ((n.toNat : Nat) : Int) := IntWalk.i64_in _ (by omega)
      have e2 : IntKind.i64.wrap ((size.toNat : Int).tmod 160) = ((size.toNat % 160 : Nat) : Int) := by
        have e : (size.toNat : Int).tmod 160 = ((size.toNat % 160 : Nat) : Int) := rfl
        rw [e]; exact IntWalk.i64_in _ (by omega)
      simp only [go_sem, Nat.reduceLT, Nat.reduceEqDiff, reduceCtorEq, Int.reduceLT, Int.reduceEq, hs', b0]
      refine XO_callP (h1 := []) (by simp only [List.map, go_sem, Nat.reduceLT, Nat.reduceEqDiff, reduceCtorEq, Int.reduceLT, Int.reduceEq, hs']; exact hS.clos rfl) n9a rfl ?_
      simp only [go_sem, Nat.reduceLT, Nat.reduceEqDiff, reduceCtorEq, Int.reduceLT, Int.reduceEq, hs', b1]
      refine XO_callP (h1 := []) (by simp only [List.map, go_sem, Nat.reduceLT, Nat.reduceEqDiff, reduceCtorEq, Int.reduceLT, Int.reduceEq, hs']; exact hc.clos rfl) n10 r10 ?_
      simp only [go_sem, Nat.reduceLT, Nat.reduceEqDiff, reduceCtorEq, Int.reduceLT, Int.reduceEq, hs']
      refine XO_callP (h1 := []) (by simp only [List.map, go_sem, Nat.reduceLT, Nat.reduceEqDiff, reduceCtorEq, Int.reduceLT, Int.reduceEq, hs']; exact sl10.clos rfl) n9b rfl ?_
      simp only [go_sem, Nat.reduceLT, Nat.reduceEqDiff, reduceCtorEq, Int.reduceLT, Int.reduceEq, hs', b1]
      refine XO_callP (h1 := []) (by simp only [List.map, go_sem, Nat.reduceLT, Nat.reduceEqDiff, reduceCtorEq, Int.reduceLT, Int.reduceEq, hs']; exact hc.clos rfl) n11 r11 ?_
      simp only [go_sem, Nat.reduceLT, Nat.reduceEqDiff, reduceCtorEq, Int.reduceLT, Int.reduceEq, hs']
      refine XO_callP (h1 := []) (by simp only [List.map, go_sem, Nat.reduceLT, Nat.reduceEqDiff, reduceCtorEq, Int.reduceLT, Int.reduceEq, hs']; exact slV_SlV.clos rfl) n9c rfl ?_
      simp only [go_sem, Nat.reduceLT, Nat.reduceEqDiff, reduceCtorEq, Int.reduceLT, Int.reduceEq, hs', b2, b3, bin_rem z160, e1, e2]
      refine XO_callP (h1 := []) (by simp only [List.map, go_sem, Nat.reduceLT, Nat.reduceEqDiff, reduceCtorEq, Int.reduceLT, Int.reduceEq, hs']; rfl) n12 r12 ?_
      simp only [go_sem, Nat.reduceLT, Nat.reduceEqDiff, reduceCtorEq, Int.reduceLT, Int.reduceEq, hs']
      refine XO_callP (h1 := []) (by simp only [List.map, go_sem, Nat.reduceLT, Nat.reduceEqDiff, reduceCtorEq, Int.reduceLT, Int.reduceEq, hs']; exact sl12.clos rfl) n9d rfl ?_
      simp only [go_sem, Nat.reduceLT, Nat.reduceEqDiff, reduceCtorEq, Int.reduceLT, Int.reduceEq, hs']
  obtain ⟨v, h', e1, rfl⟩ := this
  exact ⟨h', e1⟩
/-! ### rows, as they are read -/
theorem row_of {H : Type} {d : DataW H} {el : List CV} (h : DR Proofs.Try.prog 7 25 d el) (hlen : el.length = 2) : ∃ p, rowE el p := by
  obtain ⟨ds, rfl, hd, hc, hf⟩ := DR_struct Proofs.Try.underlying25 h
  match ds, hd with
  | [d1, d2], _ =>
    match el, hlen with
    | [c1, c2], _ =>
      have f1 : DR Proofs.Try.prog 6 9 d1 (([c1, c2].drop 0).take (Proofs.Try.prog.cellsOf 9)) := hf 0 _ d1 rfl rfl
      have f2 : DR Proofs.Try.prog 6 23 d2 (([c1, c2].drop 1).take (Proofs.Try.prog.cellsOf 23)) := hf 1 _ d2 rfl rfl
      have k1 : Proofs.Try.prog.cellsOf 9 = 1 := by kernel_rfl
      have k2 : Proofs.Try.prog.cellsOf 23 = 1 := by kernel_rfl
      rw [k1] at f1
      rw [k2] at f2
      obtain ⟨s, rfl, e1, _⟩ := DR_string Proofs.Try.underlying9 f1
      obtain ⟨l, c, e2, hl, hb, _⟩ := DR_bytes Proofs.Try.underlying23 Proofs.Try.underlying5 (by kernel_rfl) f2
      simp at e1 e2
      subst e1 e2
      exact ⟨(s.data.toList, l), _, rfl, hl⟩
theorem rows_of {H : Type} {d : DataW H} {u : VV} (h : DV Proofs.Try.prog 22 d u) : ∃ els kv, SlV 2 els u ∧ RowsE els kv ∧ kv.length ≤ 9223372036854775807 := by
  obtain ⟨c, h1, rfl⟩ := DV_plain (by simp only [isStr, Proofs.Try.underlying22]) h
  have k2 : Proofs.Try.prog.cellsOf 25 = 2 := by kernel_rfl
  rcases DR_slice Proofs.Try.underlying22 h1 with ⟨rfl, e⟩ | ⟨ds, rest, els, rfl, e, h2, h3, h4⟩
  · cases e
    exact ⟨[], [], .inl ⟨rfl, rfl⟩, .nil, by simp⟩
  · cases e
    rw [k2] at h4 ⊢
    have key : ∀ (els : List (List CV)) (ds : List (DataW H)), els.length = ds.length → (∀ (i : Nat) (el : List CV) (y : DataW H), els[i]? = some el → ds[i]? = some y → el.length = 2 ∧ DR Proofs.Try.prog 7 25 y el) → ∃ kv, RowsE els kv := by
      intro els
      induction els with
      | nil => intro ds _ _; exact ⟨[], .nil⟩
      | cons el r ih =>
        intro ds hl hh
        match ds, hl with
        | y :: ys, hl =>
          obtain ⟨a1, a2⟩ := hh 0 el y rfl rfl
          obtain ⟨p, b1⟩ := row_of a2 a1
          obtain ⟨kv, c1⟩ := ih ys (by simpa using hl) (fun i el y h1 h2 => hh (i + 1) el y (by simpa using h1) (by simpa using h2))
          exact ⟨p :: kv, .cons b1 c1⟩
    obtain ⟨kv, c1⟩ := key els ds h2 h4
    have hm : maxLen = 9223372036854775807 := rfl
    exact ⟨els, kv, .inr ⟨false, rfl⟩, c1, by rw [← c1.len]; omega⟩

theorem builds_in {H : Type} {d0 d1 d2 d3 : DataW H} {u0 u1 u2 u3 : VV} (h0 : DV Proofs.Try.prog 22 d0 u0) (h1 : DV Proofs.Try.prog 23 d1 u1) (h2 : DV Proofs.Try.prog 5 d2 u2) (h3 : DV Proofs.Try.prog 5 d3 u3) :
    ∃ h', call F 3 [u0, u1, u2, u3] [] = some (.ret (vb true), h') := by
  obtain ⟨els, kv, hS, hR, hn⟩ := rows_of h0
  obtain ⟨c, hc, _⟩ := DV_bytes (e := 5) (by kernel_rfl) (by kernel_rfl) (by kernel_rfl) h1
  obtain ⟨n, rfl⟩ := DV_u8 (by kernel_rfl) h2
  obtain ⟨k, rfl⟩ := DV_u8 (by kernel_rfl) h3
  exact law_builds hS hR hn c u1 hc n k
end Go.V06

set_option linter.unusedSimpArgs false
set_option linter.unusedVariables false
namespace Go.V06
open Go Go.Vm

/-! ### rows that rise -/
def Srt (l : List KV) : Prop := l.Pairwise fun p q => Op.bytesLess p.1 q.1 = true

theorem layS_srt1 (r : KV) : ∀ l : List KV, Srt l → Srt (layS r l true).1 ∧ ∀ q ∈ (layS r l true).1, q ∈ l
  | [], _ => by simp [layS, Srt]
  | p :: t, h => by
    rw [Srt, List.pairwise_cons] at h
    obtain ⟨h1, h2⟩ := layS_srt1 r t h.2
    rw [layS]
    split
    · exact ⟨h1, fun q hq => List.mem_cons_of_mem _ (h2 q hq)⟩
    · rw [if_neg (by simp)]
      refine ⟨?_, ?_⟩
      · rw [Srt, List.pairwise_cons]; exact ⟨fun q hq => h.1 q (h2 q hq), h1⟩
      · intro q hq
        rcases List.mem_cons.1 hq with rfl | hq
        · exact List.mem_cons_self
        · exact List.mem_cons_of_mem _ (h2 q hq)
theorem layS_srt (r : KV) : ∀ l : List KV, Srt l → Srt (layS r l false).1 ∧ ((layS r l false).2 = true → ∀ q ∈ (layS r l false).1, q ∈ l ∨ q = r) ∧ ((layS r l false).2 = false → ∀ q ∈ (layS r l false).1, q ∈ l ∧ Op.bytesLess q.1 r.1 = true)
  | [], _ => by simp [layS, Srt]
  | p :: t, h => by
    rw [Srt, List.pairwise_cons] at h
    obtain ⟨h1, h2, h3⟩ := layS_srt r t h.2
    rw [layS]
    split
    · refine ⟨h1, fun hb q hq => ?_, fun hb q hq => ⟨List.mem_cons_of_mem _ (h3 hb q hq).1, (h3 hb q hq).2⟩⟩
      rcases h2 hb q hq with h | h
      · exact .inl (List.mem_cons_of_mem _ h)
      · exact .inr h
    · rename_i hne
      split
      · rename_i hgt
        obtain ⟨g1, g2⟩ := layS_srt1 r t h.2
        have hr : ∀ q ∈ p :: (layS r t true).1, Op.bytesLess r.1 q.1 = true := by
          intro q hq
          rcases List.mem_cons.1 hq with rfl | hq
          · exact hgt.2
          · exact bl_trans hgt.2 (h.1 q (g2 q hq))
        refine ⟨?_, ?_, ?_⟩
        · rw [Srt, List.pairwise_cons]
          refine ⟨hr, ?_⟩
          rw [List.pairwise_cons]
          exact ⟨fun q hq => h.1 q (g2 q hq), g1⟩
        · intro _ q hq
          rcases List.mem_cons.1 hq with rfl | hq
          · exact .inr rfl
          · rcases List.mem_cons.1 hq with rfl | hq
            · exact .inl List.mem_cons_self
            · exact .inl (List.mem_cons_of_mem _ (g2 q hq))
        · intro hb
          exfalso
          have : ∀ t : List KV, (layS r t true).2 = true := by
            intro t
            induction t with
            | nil => rfl
            | cons p t ih =>
              rw [layS]
              split
              · exact ih
              · rw [if_neg (by simp)]; exact ih
          rw [this t] at hb
          cases hb
      · rename_i hle
        have hpr : Op.bytesLess p.1 r.1 = true := by
          rcases bl_total p.1 r.1 with h | h | h
          · exact h
          · exact absurd h hne
          · exact absurd ⟨rfl, h⟩ hle
        refine ⟨?_, ?_, ?_⟩
        · rw [Srt, List.pairwise_cons]
          refine ⟨fun q hq => ?_, h1⟩
          cases hb : (layS r t false).2 with
          | true =>
            rcases h2 hb q hq with h' | rfl
            · exact h.1 q h'
            · exact hpr
          | false => exact h.1 q (h3 hb q hq).1
        · intro hb q hq
          rcases List.mem_cons.1 hq with rfl | hq
          · exact .inl List.mem_cons_self
          · rcases h2 hb q hq with h' | h'
            · exact .inl (List.mem_cons_of_mem _ h')
            · exact .inr h'
        · intro hb q hq
          rcases List.mem_cons.1 hq with rfl | hq
          · exact ⟨List.mem_cons_self, hpr⟩
          · exact ⟨List.mem_cons_of_mem _ (h3 hb q hq).1, (h3 hb q hq).2⟩
theorem layF_srt {l : List KV} (r : KV) (h : Srt l) : Srt (layF l r) := by
  obtain ⟨h1, h2, h3⟩ := layS_srt r l h
  unfold layF
  cases hb : (layS r l false).2 with
  | true => rw [if_pos rfl]; exact h1
  | false =>
    rw [if_neg (by simp), Srt, List.pairwise_append]
    refine ⟨h1, by simp, fun a ha b hb' => ?_⟩
    rw [List.mem_singleton] at hb'
    subst hb'
    exact (h3 hb a ha).2
theorem fold_srt : ∀ (L acc : List KV), Srt acc → Srt (L.foldl layF acc)
  | [], _, h => h
  | p :: L, acc, h => fold_srt L _ (layF_srt p h)
theorem risL_srt (n : Nat) (c : List UInt8) : Srt (risL n c) := fold_srt _ _ List.Pairwise.nil

theorem srt_rising : ∀ {l : List KV}, Srt l → risingF l = true
  | [], _ => rfl
  | [_], _ => rfl
  | a :: b :: r, h => by
    rw [Srt, List.pairwise_cons] at h
    have h1 := h.1 b List.mem_cons_self
    rw [risingF, bl_not_le.2 h1, srt_rising h.2]
    rfl
theorem srt_at {l : List KV} (h : Srt l) {i j : Nat} {p q : KV} (hij : i < j) (hp : l[i]? = some p) (hq : l[j]? = some q) : Op.bytesLess p.1 q.1 = true := by
  obtain ⟨hi, rfl⟩ := List.getElem?_eq_some_iff.1 hp
  obtain ⟨hj, rfl⟩ := List.getElem?_eq_some_iff.1 hq
  exact (List.pairwise_iff_getElem.1 h) i j hi hj hij
theorem rising_not : ∀ (l : List KV) (i : Nat) (p q : KV), l[i]? = some p → l[i + 1]? = some q → bl_le q.1 p.1 = true → risingF l = false
  | [], _, _, _, h, _, _ => by simp at h
  | [_], i, _, _, _, h, _ => by simp at h
  | a :: b :: r, 0, p, q, hp, hq, h => by
    simp at hp hq
    subst hp hq
    rw [risingF, h]; rfl
  | a :: b :: r, i + 1, p, q, hp, hq, h => by
    have := rising_not (b :: r) i p q (by simpa using hp) (by simpa using hq) h
    rw [risingF, this, Bool.and_false]
theorem build_not {l : List KV} (h : risingF l = false) : buildF l = none := by
  unfold buildF; rw [if_neg (by rw [h]; simp)]
theorem bl_le_refl (a : List UInt8) : bl_le a a = true := bl_le_iff.2 (bl_irrefl a)
theorem bl_le_of {a b : List UInt8} (h : Op.bytesLess a b = true) : bl_le a b = true := bl_le_iff.2 (bl_asymm h)

theorem RowsE.put {els : List (List CV)} {kv : List KV} (hR : RowsE els kv) (i : Nat) {e : List CV} {p : KV} (h : rowE e p) : RowsE (els.set i e) (kv.set i p) := by
  induction hR generalizing i with
  | nil => simp; exact .nil
  | cons h1 t ih =>
    cases i with
    | zero => exact .cons h t
    | succ i => exact .cons h1 (ih i)
end Go.V06

set_option linter.unusedSimpArgs false
set_option linter.unusedVariables false
namespace Go.V06
open Go Go.Vm

/-! ### TreeHalf -/
theorem KZ.setArr {h : Heap} {id z g : Nat} {els : List (List CV)} (ha : h[id]? = some (.arr z els g false)) (o : VO) : KZ h (h.set id o) := by
  intro j z' e g' hj
  rw [List.getElem?_set_ne (by rintro rfl; rw [ha] at hj; cases hj)]
  exact hj

theorem law_half {c : List UInt8} {vc : VV} (hc : SlV 1 (eB c) vc) (k : UInt8) : ∃ h', call F 5 [vc, vi .u8 k.toNat] [] = some (.ret (vb true), h') := by
  have : Ret F 5 [vc, vi .u8 k.toNat] [] fun v h' => v = vb true := by
    refine call_E (fn := f5) rfl ?_
    simp only [f5]
    generalize hs0 : ([vc, vi .u8 k.toNat] ++ List.replicate _ VV.undef : List VV) = s
    have hs : s.length = 83 := by rw [← hs0]; rfl
    have h0 : s.getD 0 .undef = vc := by rw [← hs0]; rfl
    have h1 : s.getD 1 .undef = vi .u8 k.toNat := by rw [← hs0]; rfl
    clear hs0
    obtain ⟨h8', n8⟩ := known_f8
    have cl8 : ∀ h : Heap, closAs h [] = some ([], h) := fun _ => rfl
    obtain ⟨v1, g1, n10, hh1, els, x1, hB, hR⟩ := rising_f10 (h := []) hc (n := 20) (by omega)
    have hsrt := risL_srt 20 c
    have hrl := risL_len 20 c
    have hl := hR.len
    simp only [go_sem, Nat.reduceLT, Nat.reduceEqDiff, reduceCtorEq, Int.reduceLT, Int.reduceEq, hs, h0]
    refine XO_callR (by simp only [List.map, go_sem, Nat.reduceLT, Nat.reduceEqDiff, reduceCtorEq, Int.reduceLT, Int.reduceEq, hs]; exact n10) ?_
    simp only [go_sem, Nat.reduceLT, Nat.reduceEqDiff, reduceCtorEq, Int.reduceLT, Int.reduceEq, hs, hB.ln]
    rw [X_eq f5_0.eq_1]
    by_cases d : els.length < 2
    · have d' : ((els.length : Nat) : Int) < 2 := by omega
      simp only [go_sem, Nat.reduceLT, Nat.reduceEqDiff, reduceCtorEq, Int.reduceLT, Int.reduceEq, hs, hB.ln, d']
      refine XO_callP (h1 := g1) (by simp only [List.map]; rfl) n8 rfl ?_
      simp only [go_sem, Nat.reduceLT, Nat.reduceEqDiff, reduceCtorEq, Int.reduceLT, Int.reduceEq, hs]
    · have d' : ¬ ((els.length : Nat) : Int) < 2 := by omega
      have hk8 := k.toNat_lt
      obtain ⟨i, hi⟩ : ∃ i, i = k.toNat % (els.length - 1) := ⟨_, rfl⟩
      have hil : i + 1 < els.length := by
        have : i < els.length - 1 := by rw [hi]; exact Nat.mod_lt _ (by omega)
        omega
      obtain ⟨e0, p0, he0, hp0, c0, rfl, hc0⟩ := hR.get (i := i) (by omega)
      obtain ⟨e1, p1, he1, hp1, c1, rfl, hc1⟩ := hR.get (i := i + 1) (by omega)
      have hlt := srt_at hsrt (Nat.lt_succ_self i) hp0 hp1
      obtain ⟨id, g, rfl, hat, _⟩ := hB.ia (k := .i64) (j := 0) (by omega)
      have w1 : IntKind.i64.wrap (k.toNat : Int) = ((k.toNat : Nat) : Int) := IntWalk.i64_in _ (by omega)
      have w2 : IntKind.i64.wrap (((els.length : Nat) : Int) - 1) = ((els.length - 1 : Nat) : Int) := by rw [IntWalk.i64_in _ (by omega)]; omega
      have z2 : ((els.length - 1 : Nat) : Int) ≠ 0 := by omega
      have w3 : ((k.toNat : Nat) : Int).tmod ((els.length - 1 : Nat) : Int) = ((i : Nat) : Int) := by
        have e : ((k.toNat : Nat) : Int).tmod ((els.length - 1 : Nat) : Int) = ((k.toNat % (els.length - 1) : Nat) : Int) := rfl
        rw [e, ← hi]
      have w4 : IntKind.i64.wrap ((i : Int) + 1) = ((i + 1 : Nat) : Int) := by rw [IntWalk.i64_in _ (by omega)]; omega
      -- places
      have ia : ∀ (h : Heap) (els' : List (List CV)) (j : Nat), h[id]? = some (.arr 2 els' g false) → els'.length = els.length → j < els.length → iaO h 2 (.own id g 0 els.length false) (vi .i64 (j : Int)) = some (.eptr id g j 0, h) := by
        intro h els' j ha hle hj
        rw [ia_own (by omega) ha (by simpa using hj)]; simp
      have ld0 : ldO g1 true 2 (.eptr id g i 0) = some (.agg [txt p0.1, .cv c0], g1) := ld_ecells hat he0 rfl
      have hidl := lt_at hat
      simp only [go_sem, Nat.reduceLT, Nat.reduceEqDiff, reduceCtorEq, Int.reduceLT, Int.reduceEq, hs, hB.ln, d', h1, w1, w2, bin_rem z2, w3, ia g1 els i hat rfl (by omega), ld0]
      obtain ⟨g2, hg2⟩ : ∃ g2, g2 = g1 ++ [VO.box [txt p0.1, .cv c0] false] := ⟨_, rfl⟩
      have hat2 : g2[id]? = some (.arr 2 els g false) := by rw [hg2, List.getElem?_append_left hidl]; exact hat
      have hbx2 : g2[g1.length]? = some (.box [txt p0.1, .cv c0] false) := by rw [hg2]; exact at_last
      rw [← hg2]
      have ld1 : ldO g2 true 2 (.eptr id g (i + 1) 0) = some (.agg [txt p1.1, .cv c1], g2) := ld_ecells hat2 he1 rfl
      have s1 : stO g2 2 (.eptr id g i 0) (.agg [txt p1.1, .cv c1]) = some (.undef, g2.set id (.arr 2 (els.set i [.sc (.string ⟨p1.1.toArray⟩), c1]) g false)) := st_ecells (cs := [.sc (.string ⟨p1.1.toArray⟩), c1]) rfl hat2 he0 rfl
      simp only [go_sem, Nat.reduceLT, Nat.reduceEqDiff, reduceCtorEq, Int.reduceLT, Int.reduceEq, hs, w4, ia g2 els (i + 1) hat2 rfl hil, ia g2 els i hat2 rfl (by omega), ld1, s1]
      obtain ⟨els3, hels3⟩ : ∃ e, e = els.set i [.sc (.string ⟨p1.1.toArray⟩), c1] := ⟨_, rfl⟩
      have hl3 : els3.length = els.length := by rw [hels3, List.length_set]
      have he13 : els3[i + 1]? = some [.sc (.string ⟨p1.1.toArray⟩), c1] := by rw [hels3, List.getElem?_set_ne (by omega)]; exact he1
      rw [← hels3]
      obtain ⟨g3, hg3⟩ : ∃ g3, g3 = g2.set id (.arr 2 els3 g false) := ⟨_, rfl⟩
      have hat3 : g3[id]? = some (.arr 2 els3 g false) := by rw [hg3]; exact List.getElem?_set_self (lt_at hat2)
      have hbx3 : g3[g1.length]? = some (.box [txt p0.1, .cv c0] false) := by rw [hg3, List.getElem?_set_ne (by omega)]; exact hbx2
      rw [← hg3]
      have ld2 : ldO g3 true 2 (.ptr g1.length 0) = some (.agg [txt p0.1, .cv c0], g3) := ld_bxN hbx3 rfl
      have s2 : stO g3 2 (.eptr id g (i + 1) 0) (.agg [txt p0.1, .cv c0]) = some (.undef, g3.set id (.arr 2 (els3.set (i + 1) [.sc (.string ⟨p0.1.toArray⟩), c0]) g false)) := st_ecells (cs := [.sc (.string ⟨p0.1.toArray⟩), c0]) rfl hat3 he13 rfl
      simp only [go_sem, Nat.reduceLT, Nat.reduceEqDiff, reduceCtorEq, Int.reduceLT, Int.reduceEq, hs, w4, ld2, ia g3 els3 (i + 1) hat3 hl3 hil, s2]
      obtain ⟨els4, hels4⟩ : ∃ e, e = els3.set (i + 1) [.sc (.string ⟨p0.1.toArray⟩), c0] := ⟨_, rfl⟩
      have hl4 : els4.length = els.length := by rw [hels4, List.length_set, hl3]
      rw [← hels4]
      obtain ⟨g4, hg4⟩ : ∃ g4, g4 = g3.set id (.arr 2 els4 g false) := ⟨_, rfl⟩
      have hat4 : g4[id]? = some (.arr 2 els4 g false) := by rw [hg4]; exact List.getElem?_set_self (lt_at hat3)
      rw [← hg4]
      have hR4 : RowsE els4 (((risL 20 c).set i p1).set (i + 1) p0) := by
        rw [hels4, hels3]
        exact (hR.put i ⟨c1, rfl, hc1⟩).put (i + 1) ⟨c0, rfl, hc0⟩
      have not4 : risingF (((risL 20 c).set i p1).set (i + 1) p0) = false := by
        refine rising_not _ i p1 p0 ?_ ?_ (bl_le_of hlt)
        · rw [List.getElem?_set_ne (by omega), List.getElem?_set_self (by omega)]
        · rw [List.getElem?_set_self (by rw [List.length_set]; omega)]
      have hlen4 : (((risL 20 c).set i p1).set (i + 1) p0).length = (risL 20 c).length := by rw [List.length_set, List.length_set]
      have B4 : BufG g4 2 els4 (.own id g 0 els.length false) := .inr ⟨id, g, by intro e; rw [e] at hl4; simp at hl4; omega, by rw [hl4], hat4⟩
      obtain ⟨w, g5, cl4, sl4, _, vz5, _, _⟩ := B4.vf.closZ
      obtain ⟨v13, h13, n13, w13, r13, q13⟩ := build_pure sl4 hR4 (by omega)
      rw [build_not not4] at q13
      have q13' : w13 = .tup [nilS, vb false] := q13
      subst q13'
      refine XO_callP (h1 := g5) (by simp only [List.map, go_sem, Nat.reduceLT, Nat.reduceEqDiff, reduceCtorEq, Int.reduceLT, Int.reduceEq, hs]; exact closAs_cons cl4 rfl) n13 r13 ?_
      simp only [go_sem, Nat.reduceLT, Nat.reduceEqDiff, reduceCtorEq, Int.reduceLT, Int.reduceEq, hs, h0]
      -- the second one
      obtain ⟨v2, g6, n10', hh2, elsM, x2, hB2, hR2⟩ := rising_f10 (h := g5) hc (n := 20) (by omega)
      have hl2 := hR2.len
      obtain ⟨e0', p0', he0', hp0', c0', rfl, hc0'⟩ := hR2.get (i := i) (by omega)
      obtain ⟨e1', p1', he1', hp1', c1', rfl, hc1'⟩ := hR2.get (i := i + 1) (by omega)
      have vz6 := vz5.kz ((x2.trans hB2.ext).kz)
      obtain ⟨id2, gg2, rfl, hat6, _⟩ := hB2.ia (k := .i64) (j := 0) (by omega)
      have ia2 : ∀ (j : Nat), j < elsM.length → iaO g6 2 (.own id2 gg2 0 elsM.length false) (vi .i64 (j : Int)) = some (.eptr id2 gg2 j 0, g6) := by
        intro j hj
        rw [ia_own (by omega) hat6 (by simpa using hj)]; simp
      refine XO_callR (by simp only [List.map, go_sem, Nat.reduceLT, Nat.reduceEqDiff, reduceCtorEq, Int.reduceLT, Int.reduceEq, hs]; exact n10') ?_
      have fdE : ∀ j : Nat, fdO 0 (.eptr id2 gg2 j 0) = some (.eptr id2 gg2 j 0) := fun _ => rfl
      have ld6 : ldO g6 false 1 (.eptr id2 gg2 i 0) = some (txt p0'.1, g6) := ld_eptr hat6 he0' rfl
      have s6 : stO g6 1 (.eptr id2 gg2 (i + 1) 0) (txt p0'.1) = some (.undef, g6.set id2 (.arr 2 (elsM.set (i + 1) [.sc (.string ⟨p0'.1.toArray⟩), c1']) gg2 false)) := st_e1 hat6 he1' (by simp)
      simp only [go_sem, Nat.reduceLT, Nat.reduceEqDiff, reduceCtorEq, Int.reduceLT, Int.reduceEq, hs, w4, ia2 i (by omega), ia2 (i + 1) (by omega), fdE, ld6, s6]
      obtain ⟨els7, hels7⟩ : ∃ e, e = elsM.set (i + 1) [.sc (.string ⟨p0'.1.toArray⟩), c1'] := ⟨_, rfl⟩
      have hl7 : els7.length = elsM.length := by rw [hels7, List.length_set]
      rw [← hels7]
      have vz7 := vz6.kz (KZ.setArr hat6 (.arr 2 els7 gg2 false))
      obtain ⟨g7, hg7⟩ : ∃ g7, g7 = g6.set id2 (.arr 2 els7 gg2 false) := ⟨_, rfl⟩
      have hat7 : g7[id2]? = some (.arr 2 els7 gg2 false) := by rw [hg7]; exact List.getElem?_set_self (lt_at hat6)
      rw [← hg7] at vz7 ⊢
      have hR7 : RowsE els7 ((risL 20 c).set (i + 1) (p0'.1, p1'.2)) := by
        rw [hels7]
        exact hR2.put (i + 1) ⟨c1', rfl, hc1'⟩
      have not7 : risingF ((risL 20 c).set (i + 1) (p0'.1, p1'.2)) = false := by
        refine rising_not _ i p0' (p0'.1, p1'.2) ?_ ?_ (bl_le_refl _)
        · rw [List.getElem?_set_ne (by omega)]; exact hp0'
        · rw [List.getElem?_set_self (by omega)]
      have hlen7 : ((risL 20 c).set (i + 1) (p0'.1, p1'.2)).length = (risL 20 c).length := by rw [List.length_set]
      have B7 : BufG g7 2 els7 (.own id2 gg2 0 elsM.length false) := .inr ⟨id2, gg2, by intro e; rw [e] at hl7; simp at hl7; omega, by rw [hl7], hat7⟩
      obtain ⟨w7, g8, cl7, sl7, _, vz8', kz8, _⟩ := B7.vf.closZ
      obtain ⟨v13', h13', n13', w13', r13', q7⟩ := build_pure sl7 hR7 (by omega)
      rw [build_not not7] at q7
      have q7' : w13' = .tup [nilS, vb false] := q7
      subst q7'
      have vz8 := vz7.kz kz8
      refine XO_callP (h1 := g8) (by simp only [List.map, go_sem, Nat.reduceLT, Nat.reduceEqDiff, reduceCtorEq, Int.reduceLT, Int.reduceEq, hs]; exact closAs_cons cl7 rfl) n13' r13' ?_
      simp only [go_sem, Nat.reduceLT, Nat.reduceEqDiff, reduceCtorEq, Int.reduceLT, Int.reduceEq, hs]
      refine XO_callP (h1 := g8) (by simp only [List.map]; rfl) n8 rfl ?_
      obtain ⟨wa, ca, sa⟩ := vz8.clos
      obtain ⟨wb, cb, sb⟩ := vz8'.clos
      obtain ⟨ha, na⟩ := rising_f15 sa hR4 (by omega)
      obtain ⟨hb, nb⟩ := rising_f15 sb hR7 (by omega)
      rw [not4] at na
      rw [not7] at nb
      simp only [go_sem, Nat.reduceLT, Nat.reduceEqDiff, reduceCtorEq, Int.reduceLT, Int.reduceEq, hs]
      refine XO_callP (h1 := g8) (by simp only [List.map, go_sem, Nat.reduceLT, Nat.reduceEqDiff, reduceCtorEq, Int.reduceLT, Int.reduceEq, hs]; exact closAs_cons ca rfl) na rfl ?_
      simp only [go_sem, Nat.reduceLT, Nat.reduceEqDiff, reduceCtorEq, Int.reduceLT, Int.reduceEq, hs]
      refine XO_callP (h1 := g8) (by simp only [List.map, go_sem, Nat.reduceLT, Nat.reduceEqDiff, reduceCtorEq, Int.reduceLT, Int.reduceEq, hs]; exact closAs_cons cb rfl) nb rfl ?_
      simp only [go_sem, Nat.reduceLT, Nat.reduceEqDiff, reduceCtorEq, Int.reduceLT, Int.reduceEq, hs]
  obtain ⟨v, h', e1, rfl⟩ := this
  exact ⟨h', e1⟩
theorem half_in {H : Type} {d0 d1 : DataW H} {u0 u1 : VV} (h0 : DV Proofs.Try.prog 23 d0 u0) (h1 : DV Proofs.Try.prog 5 d1 u1) : ∃ h', call F 5 [u0, u1] [] = some (.ret (vb true), h') := by
  obtain ⟨c, hc, _⟩ := DV_bytes (e := 5) (by kernel_rfl) (by kernel_rfl) (by kernel_rfl) h0
  obtain ⟨k, rfl⟩ := DV_u8 (by kernel_rfl) h1
  exact law_half hc k
end Go.V06

set_option linter.unusedSimpArgs false
set_option linter.unusedVariables false
namespace Go.V06
open Go Go.Vm

/-! ### a tree: plain -/
theorem text_small (l : List UInt8) (h : l.length < 128) : (text l).length ≤ 1 + l.length := by
  unfold text
  rw [List.length_append, clamp_of _ (by omega)]
  have := numF_len 8 0 l.length (by omega)
  unfold num; omega
theorem text_mid (l : List UInt8) (h : l.length < 16384) : (text l).length ≤ 2 + l.length := by
  unfold text
  rw [List.length_append, clamp_of _ (by omega)]
  have := numF_len 8 1 l.length (by omega)
  unfold num; omega
theorem rowB_mid (p : KV) (h1 : p.1.length ≤ 30) (h2 : p.2.length ≤ 150) : (rowB p).length ≤ 183 := by
  unfold rowB
  rw [List.length_append]
  have := text_small p.1 (by omega)
  have := text_mid p.2 (by omega)
  omega
theorem rowB_small (p : KV) (h1 : p.1.length ≤ 30) (h2 : p.2.length ≤ 8) : (rowB p).length ≤ 40 := by
  unfold rowB
  rw [List.length_append]
  have := text_small p.1 (by omega)
  have := text_small p.2 (by omega)
  omega
def FitsR (l : List KV) : Prop := ∀ p ∈ l, p.1.length ≤ 30 ∧ p.2.length ≤ 150
def SmallR (l : List KV) : Prop := ∀ p ∈ l, p.1.length ≤ 30 ∧ p.2.length ≤ 8
theorem SmallR.fits {l : List KV} (h : SmallR l) : FitsR l := fun p hp => ⟨(h p hp).1, by have := (h p hp).2; omega⟩

theorem fit_ge : ∀ (k : Nat) (l : List KV) (n : Nat), k ≤ l.length → SmallR l → n + 41 * k ≤ 250 → k ≤ fitF n l
  | 0, _, _, _, _, _ => Nat.zero_le _
  | k + 1, [], _, h, _, _ => by simp at h
  | k + 1, p :: l, n, h, hs, hn => by
    have hp := hs p List.mem_cons_self
    have hr := rowB_small p hp.1 hp.2
    simp only [fitF]
    rw [if_neg (by omega), if_neg (by omega)]
    have := fit_ge k l (n + (1 + (rowB p).length)) (by simpa using h) (fun q hq => hs q (List.mem_cons_of_mem _ hq)) (by omega)
    omega
theorem fit_pos {l : List KV} (hl : l ≠ []) (hf : FitsR l) : 1 ≤ fitF 0 l := by
  cases l with
  | nil => exact absurd rfl hl
  | cons p l =>
    have hp := hf p List.mem_cons_self
    have hr := rowB_mid p hp.1 hp.2
    simp only [fitF]
    rw [if_neg (by omega), if_neg (by omega)]
    omega

theorem groups_mem : ∀ (m : Nat) (l : List KV) (g : List KV), g ∈ groupsL m l → ∀ q ∈ g, q ∈ l
  | 0, _, g, h, _, _ => by simp [groupsL] at h
  | m + 1, l, g, h, q, hq => by
    rw [groupsL] at h
    rcases List.mem_cons.1 h with rfl | h
    · exact List.mem_of_mem_take hq
    · split at h
      · simp at h
      · exact List.mem_of_mem_drop (groups_mem m _ g h q hq)
theorem groups_fit : ∀ (m : Nat) (l : List KV) (g : List KV), g ∈ groupsL m l → fitF 0 g = g.length
  | 0, _, g, h => by simp [groupsL] at h
  | m + 1, l, g, h => by
    rw [groupsL] at h
    rcases List.mem_cons.1 h with rfl | h
    · rw [fitF_take, List.length_take]
      have := fitF_le l 0
      omega
    · split at h
      · simp at h
      · exact groups_fit m _ g h
theorem groups_ne (m : Nat) (l : List KV) : groupsL (m + 1) l ≠ [] := by rw [groupsL]; simp
theorem groups_flat : ∀ (m : Nat) (l : List KV), (groupsL m l).flatten = l.take (sumL (groupsL m l))
  | 0, _ => by simp [groupsL, sumL]
  | m + 1, l => by
    have hf := fitF_le l 0
    rw [groupsL]
    split
    · rename_i h
      rw [sumL_cons]
      simp only [List.flatten_cons, List.flatten_nil, List.append_nil, List.length_take]
      simp only [sumL, List.map_nil, List.sum_nil, Nat.add_zero]
      rw [Nat.min_eq_left hf]
    · rw [sumL_cons, List.flatten_cons, groups_flat m, List.length_take, Nat.min_eq_left hf, List.take_add]
theorem groups_sum : ∀ (m : Nat) (l : List KV), l.length < m → FitsR l → sumL (groupsL m l) = l.length
  | 0, _, h, _ => by omega
  | m + 1, l, h, hf => by
    have hfl := fitF_le l 0
    rw [groupsL]
    split
    · rename_i hh
      rw [sumL_cons, List.length_take]
      simp only [sumL, List.map_nil, List.sum_nil, Nat.add_zero]
      rcases hh with hh | hh
      · cases hl : l with
        | nil => simp
        | cons p r =>
          have := fit_pos (l := l) (by rw [hl]; simp) hf
          omega
      · omega
    · rename_i hh
      rw [sumL_cons, List.length_take, groups_sum m _ (by rw [List.length_drop]; omega) (fun p hp => hf p (List.mem_of_mem_drop hp)), List.length_drop]
      omega
theorem groups_small : ∀ (m : Nat) (l : List KV), l ≠ [] → SmallR l → 5 * (groupsL m l).length ≤ l.length + 4
  | 0, _, _, _ => by simp [groupsL]
  | m + 1, l, hl, hs => by
    have hfl := fitF_le l 0
    have hpos : 1 ≤ l.length := by cases l with
      | nil => exact absurd rfl hl
      | cons => simp
    rw [groupsL]
    split
    · simp; omega
    · rename_i hh
      have h5 : 5 ≤ fitF 0 l := by
        by_cases h : 5 ≤ l.length
        · exact fit_ge 5 l 0 h hs (by omega)
        · have := fit_ge l.length l 0 (Nat.le_refl _) hs (by omega)
          omega
      have := groups_small m (l.drop (fitF 0 l)) (by intro e; have := congrArg List.length e; rw [List.length_drop] at this; simp at this; omega) (fun p hp => hs p (List.mem_of_mem_drop hp))
      rw [List.length_drop] at this
      rw [List.length_cons]
      omega
theorem above_small : ∀ (n : Nat) (gs : List (List KV)), (∀ g ∈ gs, ∀ q ∈ g, q.1.length ≤ 30) → SmallR (aboveL n gs)
  | _, [], _ => by intro p hp; simp [aboveL] at hp
  | n, g :: r, h => by
    intro p hp
    rw [aboveL] at hp
    rcases List.mem_cons.1 hp with rfl | hp
    · refine ⟨?_, num_len _⟩
      cases g with
      | nil => simp [keyOf]
      | cons q _ => exact h _ List.mem_cons_self q List.mem_cons_self
    · exact above_small (n + 1) r (fun g hg => h g (List.mem_cons_of_mem _ hg)) p hp
theorem grp_above {n : Nat} {l : List KV} (h : FitsR l) : SmallR (aboveL n (grp l)) := above_small n _ fun g hg q hq => (h q (groups_mem _ _ g hg q hq)).1

theorem grp_fit (l : List KV) : ∀ g ∈ grp l, fitF 0 g = g.length := fun g hg => groups_fit _ _ g hg
theorem grp_pos (l : List KV) : 1 ≤ (grp l).length := List.length_pos_iff.mpr (groups_ne _ _)
theorem bld_some : ∀ (f n : Nat) (pg : List (List UInt8)) (l : List KV), l.length ≤ 5 ^ (f + 1) → SmallR l → ∃ res, bldF (f + 1) n pg l = some res
  | f, n, pg, l, hl, hs => by
    have h1 : sumL (grp l) = l.length := groups_sum _ l (Nat.lt_succ_self _) hs.fits
    have hp := grp_pos l
    have h2 : (grp l).length = 1 ∨ 5 * (grp l).length ≤ l.length + 4 := by
      cases l with
      | nil => exact .inl rfl
      | cons p r => exact .inr (groups_small _ _ (by simp) hs)
    rw [bldF, if_pos h1]
    by_cases h3 : (grp l).length = 1
    · rw [if_pos h3]; exact ⟨_, rfl⟩
    · rw [if_neg h3]
      cases f with
      | zero =>
        rw [Nat.zero_add, Nat.pow_one] at hl
        omega
      | succ f =>
        refine bld_some f (n + 1) _ _ ?_ (grp_above hs.fits)
        rw [aboveL_len]
        have : 5 ^ (f + 1 + 1) = 5 ^ (f + 1) * 5 := Nat.pow_succ ..
        omega
theorem build_some {l : List KV} (hr : Srt l) (hl : l.length ≤ 600) (hf : FitsR l) : ∃ res, buildF l = some res := by
  unfold buildF
  rw [if_pos ⟨srt_rising hr, by omega⟩]
  have h1 : sumL (grp l) = l.length := groups_sum _ l (Nat.lt_succ_self _) hf
  have hg := grp_len l
  rw [bldF, if_pos h1]
  by_cases h3 : (grp l).length = 1
  · rw [if_pos h3]; exact ⟨_, rfl⟩
  · rw [if_neg h3]
    exact bld_some 3 _ _ _ (by rw [aboveL_len]; omega) (grp_above hf)

/-- A page of a level. -/
def PgOf (m : Nat) (b : List UInt8) : Prop := ∃ g, b = pageB m g ∧ fitF 0 g = g.length
theorem bld_struct : ∀ (f n : Nat) (pg : List (List UInt8)) (l : List KV) (res : List (List UInt8)), bldF f n pg l = some res → n + f ≤ 5 → ∃ up, res = pg ++ ((grp l).map (pageB n) ++ up) ∧ (up = [] → (grp l).length = 1) ∧ (∀ b ∈ up, ∃ m, n < m ∧ m ≤ 4 ∧ PgOf m b) ∧ sumL (grp l) = l.length
  | 0, _, _, _, _, h, _ => by cases h
  | f + 1, n, pg, l, res, h, hn => by
    rw [bldF] at h
    split at h
    · rename_i h1
      split at h
      · rename_i h2
        cases h
        exact ⟨[], by rw [List.append_nil], fun _ => h2, by simp, h1⟩
      · obtain ⟨up, e1, e2, e3, e4⟩ := bld_struct f (n + 1) _ _ res h (by omega)
        have hf : 1 ≤ f := by
          cases f with
          | zero => cases h
          | succ f => omega
        refine ⟨(grp (aboveL pg.length (grp l))).map (pageB (n + 1)) ++ up, by rw [e1, List.append_assoc], fun e => ?_, ?_, h1⟩
        · have := grp_pos (aboveL pg.length (grp l))
          have h := congrArg List.length e
          rw [List.length_append, List.length_map, List.length_nil] at h
          omega
        · intro b hb
          rcases List.mem_append.1 hb with hb | hb
          · obtain ⟨g, hg, rfl⟩ := List.mem_map.1 hb
            exact ⟨n + 1, by omega, by omega, g, rfl, groups_fit _ _ g hg⟩
          · obtain ⟨m, m1, m2, m3⟩ := e3 b hb
            exact ⟨m, by omega, m2, m3⟩
    · cases h

theorem rowsA_up : ∀ (up : List (List UInt8)) (acc : List KV), (∀ b ∈ up, ∃ m, 0 < m ∧ m ≤ 4 ∧ PgOf m b) → rowsA up acc = (0, acc)
  | [], _, _ => rfl
  | b :: r, acc, h => by
    obtain ⟨m, m1, m2, g, rfl, hg⟩ := h b List.mem_cons_self
    rw [rowsA, decF_page m2 hg]
    simp only [ne_eq, not_true_eq_false, if_false]
    rw [if_neg (by omega)]
    exact rowsA_up r acc fun b hb => h b (List.mem_cons_of_mem _ hb)
theorem rowsA_lv : ∀ (gs : List (List KV)) (r : List (List UInt8)) (acc : List KV), (∀ g ∈ gs, fitF 0 g = g.length) → rowsA (gs.map (pageB 0) ++ r) acc = rowsA r (acc ++ gs.flatten)
  | [], r, acc, _ => by simp
  | g :: gs, r, acc, h => by
    rw [List.map_cons, List.cons_append, rowsA, decF_page (by omega) (h g List.mem_cons_self)]
    simp only [ne_eq, not_true_eq_false, if_false, if_true]
    rw [rowsA_lv gs r _ fun g hg => h g (List.mem_cons_of_mem _ hg), List.flatten_cons, List.append_assoc]
theorem rowsA_bad : ∀ (pg : List (List UInt8)) (acc : List KV) (b : List UInt8), b ∈ pg → (decF b).2.2 ≠ 0 → (rowsA pg acc).1 ≠ 0
  | [], _, _, h, _ => by simp at h
  | a :: r, acc, b, h, hb => by
    rw [rowsA]
    split
    · rename_i h'; exact h'
    · rename_i h'
      rcases List.mem_cons.1 h with rfl | h
      · exact absurd hb h'
      · exact rowsA_bad r _ b h hb
theorem rowsF_bad {pg : List (List UInt8)} {b : List UInt8} (h : b ∈ pg) (hb : (decF b).2.2 ≠ 0) : (rowsF pg).2 ≠ 0 := by
  have := rowsA_bad pg [] b h hb
  unfold rowsF
  rw [if_pos this]
  exact this

theorem build_struct {l : List KV} {res : List (List UInt8)} (h : buildF l = some res) : ∃ up, res = (grp l).map (pageB 0) ++ up ∧ (up = [] → (grp l).length = 1) ∧ (∀ b ∈ up, ∃ m, 0 < m ∧ m ≤ 4 ∧ PgOf m b) ∧ (grp l).flatten = l := by
  unfold buildF at h
  split at h
  · obtain ⟨up, e1, e2, e3, e4⟩ := bld_struct 5 0 [] l res h (by omega)
    refine ⟨up, by rw [e1, List.nil_append], e2, e3, ?_⟩
    have := groups_flat (l.length + 1) l
    unfold grp at e4 ⊢
    rw [this, e4, List.take_length]
  · cases h
theorem rows_build {l : List KV} {res : List (List UInt8)} (h : buildF l = some res) : rowsF res = (l, 0) := by
  obtain ⟨up, e1, e2, e3, e4⟩ := build_struct h
  have hA : rowsA res [] = (0, l) := by
    rw [e1, rowsA_lv _ _ _ (grp_fit l), rowsA_up _ _ e3, List.nil_append, e4]
  unfold rowsF
  rw [hA, if_neg (by simp), if_pos h]
theorem rows_last {l : List KV} {res : List (List UInt8)} (h : buildF l = some res) : (rowsF res.dropLast).2 ≠ 0 := by
  obtain ⟨up, e1, e2, e3, e4⟩ := build_struct h
  by_cases hu : up = []
  · have h1 := e2 hu
    have : res.dropLast = [] := by
      rw [e1, hu, List.append_nil]
      apply List.eq_nil_of_length_eq_zero
      rw [List.length_dropLast, List.length_map]; omega
    rw [this]
    have hA : rowsA [] [] = (0, []) := rfl
    unfold rowsF
    rw [hA, if_neg (by simp), if_neg (by rw [build_nil]; simp)]
    simp
  · have hd : res.dropLast = (grp l).map (pageB 0) ++ up.dropLast := by rw [e1, List.dropLast_append_of_ne_nil hu]
    have hA : rowsA res.dropLast [] = (0, l) := by
      rw [hd, rowsA_lv _ _ _ (grp_fit l), rowsA_up _ _ fun b hb => e3 b ((List.dropLast_sublist up).subset hb), List.nil_append, e4]
    have hne : buildF l ≠ some res.dropLast := by
      rw [h]
      intro e
      have e' := congrArg List.length (Option.some.inj e)
      rw [List.length_dropLast] at e'
      have : res ≠ [] := by rw [e1]; simp [hu]
      have := List.length_pos_iff.mpr this
      omega
    unfold rowsF
    rw [hA, if_neg (by simp), if_neg hne]
    simp
theorem build_page {l : List KV} {res : List (List UInt8)} (h : buildF l = some res) : ∀ b ∈ res, ∃ m, m ≤ 4 ∧ PgOf m b := by
  obtain ⟨up, e1, e2, e3, e4⟩ := build_struct h
  intro b hb
  rw [e1] at hb
  rcases List.mem_append.1 hb with hb | hb
  · obtain ⟨g, hg, rfl⟩ := List.mem_map.1 hb
    exact ⟨0, by omega, g, rfl, groups_fit _ _ g hg⟩
  · obtain ⟨m, m1, m2, m3⟩ := e3 b hb
    exact ⟨m, m2, m3⟩
theorem build_256 {l : List KV} {res : List (List UInt8)} (h : buildF l = some res) : ∀ b ∈ res, b.length = 256 := by
  intro b hb
  obtain ⟨m, hm, g, rfl, hg⟩ := build_page h b hb
  exact pageB_256 hm hg
theorem build_ne {l : List KV} {res : List (List UInt8)} (h : buildF l = some res) : res ≠ [] := by
  obtain ⟨up, e1, _⟩ := build_struct h
  have := grp_pos l
  rw [e1]
  intro e
  have := congrArg List.length e
  rw [List.length_append, List.length_map, List.length_nil] at this
  omega
end Go.V06

set_option linter.unusedSimpArgs false
set_option linter.unusedVariables false
namespace Go.V06
open Go Go.Vm

/-! ### rows that fit -/
theorem layS_mem (r : KV) : ∀ (l : List KV) (b : Bool) (q : KV), q ∈ (layS r l b).1 → q ∈ l ∨ q = r
  | [], _, q, h => by simp [layS] at h
  | p :: t, b, q, h => by
    rw [layS] at h
    split at h
    · rcases layS_mem r t b q h with h | h
      · exact .inl (List.mem_cons_of_mem _ h)
      · exact .inr h
    · split at h
      · rcases List.mem_cons.1 h with h | h
        · exact .inr h
        · rcases List.mem_cons.1 h with rfl | h
          · exact .inl List.mem_cons_self
          · rcases layS_mem r t true q h with h | h
            · exact .inl (List.mem_cons_of_mem _ h)
            · exact .inr h
      · rcases List.mem_cons.1 h with rfl | h
        · exact .inl List.mem_cons_self
        · rcases layS_mem r t b q h with h | h
          · exact .inl (List.mem_cons_of_mem _ h)
          · exact .inr h
theorem layF_mem {l : List KV} {r q : KV} (h : q ∈ layF l r) : q ∈ l ∨ q = r := by
  unfold layF at h
  split at h
  · exact layS_mem r l false q h
  · rcases List.mem_append.1 h with h | h
    · exact layS_mem r l false q h
    · exact .inr (List.mem_singleton.1 h)
theorem fold_fits : ∀ (L acc : List KV), FitsR L → FitsR acc → FitsR (L.foldl layF acc)
  | [], _, _, h => h
  | p :: L, acc, hL, h => fold_fits L _ (fun q hq => hL q (List.mem_cons_of_mem _ hq)) fun q hq => by
    rcases layF_mem hq with hq | rfl
    · exact h q hq
    · exact hL _ List.mem_cons_self
theorem risL_fits (n : Nat) (c : List UInt8) : FitsR (risL n c) := fold_fits _ _ (rowL_fits n c) (by intro p hp; simp at hp)
theorem manyL_fits (n size : Nat) (h : size ≤ 150) : FitsR (manyL n size) := by
  intro p hp
  unfold manyL at hp
  obtain ⟨i, _, rfl⟩ := List.mem_map.1 hp
  exact ⟨by simp [manyK], by simp; omega⟩
theorem manyK_lt {i j : Nat} (h : i < j) (hj : j ≤ 255) : Op.bytesLess (manyK i) (manyK j) = true := by
  have lt_ : ∀ a b : Nat, a < b → b < 150 → (decide (u8 (97 + a) < u8 (97 + b))) = true := by
    intro a b h1 h2
    rw [decide_eq_true_eq, UInt8.lt_iff_toNat_lt, u8_toNat _ (by omega), u8_toNat _ (by omega)]; omega
  have ir : ∀ a : UInt8, decide (a < a) = false := fun a => by simp
  unfold manyK
  have e1 : i / 676 = 0 := by omega
  have e2 : j / 676 = 0 := by omega
  have e3 : i / 26 % 26 = i / 26 := by omega
  have e4 : j / 26 % 26 = j / 26 := by omega
  rw [e1, e2, e3, e4]
  by_cases hh : i / 26 = j / 26
  · rw [hh]
    have := lt_ (i % 26) (j % 26) (by omega) (by omega)
    simp [Op.bytesLess, this]
  · have := lt_ (i / 26) (j / 26) (by omega) (by omega)
    simp [Op.bytesLess]
    left
    simpa using this
theorem manyL_srt (n size : Nat) (hn : n ≤ 255) : Srt (manyL n size) := by
  unfold Srt manyL
  rw [List.pairwise_map, List.pairwise_iff_getElem]
  intro i j hi hj hij
  simp only [List.getElem_range]
  rw [List.length_range] at hj
  exact manyK_lt hij (by omega)

/-! ### TreeSpoilt -/
theorem st_e1_own {h : Heap} {id g i id2 g2 n : Nat} {els els2 : List (List CV)} {e : List CV} {ex : Bool} (ho : h[id]? = some (.arr 1 els g false)) (he : els[i]? = some e) (hl : e.length = 1) (h2 : h[id2]? = some (.arr 1 els2 g2 false)) (hn : els2.length = n) (hne : id ≠ id2) :
    stO h 1 (.eptr id g i 0) (.own id2 g2 0 n ex) = some (.undef, (h.set id2 (.arr 1 els2 g2 true)).set id (.arr 1 (els.set i [.sl 1 els2 ex]) g false)) := by
  have hle : n ≤ els2.length := by omega
  have c3 : closL h [.own id2 g2 0 n ex] = some ([.sl 1 els2 ex], h.set id2 (.arr 1 els2 g2 true)) := by
    have : clos h (.own id2 g2 0 n ex) = some (.sl 1 els2 ex, h.set id2 (.arr 1 els2 g2 true)) := by
      simp [Go.Vm.clos, h2, hle]
      exact List.take_of_length_le (by omega)
    simp only [closL, this]
  have h3 : (h.set id2 (.arr 1 els2 g2 true))[id]? = some (.arr 1 els g false) := by rw [List.getElem?_set_ne (fun e => hne e.symm)]; exact ho
  obtain ⟨c, rfl⟩ : ∃ c, e = [c] := by
    match e, hl with
    | [c], _ => exact ⟨c, rfl⟩
  have hsp : splice [c] 0 [.sl 1 els2 ex] = [CV.sl 1 els2 ex] := rfl
  simp [stO, stepI, rhoO, cellsOf, c3, h3, he, hsp]
end Go.V06

set_option linter.unusedSimpArgs false
set_option linter.unusedVariables false
namespace Go.V06
open Go Go.Vm

theorem PgE.put {els : List (List CV)} {k : List (List UInt8)} (h : PgE els k) (i : Nat) {c : CV} {b : List UInt8} (hc : SlV 1 (eB b) (.cv c)) : PgE (els.set i [c]) (k.set i b) := by
  induction h generalizing i with
  | nil => simp; exact .nil
  | cons h1 t ih =>
    cases i with
    | zero => exact .cons hc t
    | succ i => exact .cons h1 (ih i)
theorem page_bent {m : Nat} {b : List UInt8} (hm : m ≤ 4) (h : PgOf m b) {k : Nat} (hk : k < 256) {v : UInt8} (hv : b[k]? ≠ some v) : (decF (b.set k v)).2.2 ≠ 0 := by
  obtain ⟨g, rfl, hg⟩ := h
  have hl := pageB_256 hm hg
  have hpr : (pageR m g).length = 252 := by
    have : (sealB (pageR m g)).length = 256 := hl
    rw [sealB_len] at this; omega
  have hr : rightB ((pageB m g).set k v) = false := rightB_other (by rw [hpr]; omega) hv
  unfold decF
  rw [if_neg (by rw [List.length_set, hl]; simp), if_pos hr]
  simp

theorem law_spoilt {c : List UInt8} {vc : VV} (hc : SlV 1 (eB c) vc) (n : UInt8) (at_ : Nat) (hat : at_ < 65536) (k v : UInt8) : ∃ h', call F 4 [vc, vi .u8 n.toNat, vi .u16 at_, vi .u8 k.toNat, vi .u8 v.toNat] [] = some (.ret (vb true), h') := by
  have : Ret F 4 [vc, vi .u8 n.toNat, vi .u16 at_, vi .u8 k.toNat, vi .u8 v.toNat] [] fun v h' => v = vb true := by
    refine call_E (fn := f4) rfl ?_
    simp only [f4]
    generalize hs0 : ([vc, vi .u8 n.toNat, vi .u16 at_, vi .u8 k.toNat, vi .u8 v.toNat] ++ List.replicate _ VV.undef : List VV) = s
    have hs : s.length = 102 := by rw [← hs0]; rfl
    have h0 : s.getD 0 .undef = vc := by rw [← hs0]; rfl
    have h1 : s.getD 1 .undef = vi .u8 n.toNat := by rw [← hs0]; rfl
    have h2 : s.getD 2 .undef = vi .u16 at_ := by rw [← hs0]; rfl
    have h3 : s.getD 3 .undef = vi .u8 k.toNat := by rw [← hs0]; rfl
    have h4 : s.getD 4 .undef = vi .u8 v.toNat := by rw [← hs0]; rfl
    clear hs0
    obtain ⟨h8', n8⟩ := known_f8
    have hn8 := n.toNat_lt
    have hk8 := k.toNat_lt
    have hv8 := v.toNat_lt
    obtain ⟨v12, h12, n12, w12, r12, els12, sl12, R12⟩ := many_f12 (n := n.toNat) (size := 40) (by omega) (by omega)
    obtain ⟨v10, h10, n10, w10, r10, els10, sl10, R10⟩ := rising_pure hc (n := 50) (by omega)
    have e1 : IntKind.i64.wrap (n.toNat : Int) = ((n.toNat : Nat) : Int) := IntWalk.i64_in _ (by omega)
    have n12' : call F 12 [vi .i64 (n.toNat : Nat), vi .i64 40] [] = some (.ret v12, h12) := n12
    have n10' : call F 10 [vc, vi .i64 50] [] = some (.ret v10, h10) := n10
    have z2 : (2 : Int) ≠ 0 := by decide
    simp only [go_sem, Nat.reduceLT, Nat.reduceEqDiff, reduceCtorEq, Int.reduceLT, Int.reduceEq, hs, h1, e1]
    refine XO_callP (h1 := []) (by simp only [List.map, go_sem, Nat.reduceLT, Nat.reduceEqDiff, reduceCtorEq, Int.reduceLT, Int.reduceEq, hs]; rfl) n12' r12 ?_
    simp only [go_sem, Nat.reduceLT, Nat.reduceEqDiff, reduceCtorEq, Int.reduceLT, Int.reduceEq, hs]
    refine mid (P := fun st => st.h = [] ∧ st.s.length = 102 ∧ st.s.getD 2 .undef = vi .u16 at_ ∧ st.s.getD 3 .undef = vi .u8 k.toNat ∧ st.s.getD 4 .undef = vi .u8 v.toNat ∧ ∃ L els u, st.s.getD 11 .undef = u ∧ SlV 2 els u ∧ RowsE els L ∧ Srt L ∧ L.length ≤ 600 ∧ FitsR L) ?_ ?_
    · rw [X_eq f4_0.eq_1]
      by_cases d : (n.toNat : Int).tmod 2 = 0
      · simp only [go_sem, Nat.reduceLT, Nat.reduceEqDiff, reduceCtorEq, Int.reduceLT, Int.reduceEq, hs, h1, bin_rem z2, d, h0]
        refine XO_callP (h1 := []) (by simp only [List.map, go_sem, Nat.reduceLT, Nat.reduceEqDiff, reduceCtorEq, Int.reduceLT, Int.reduceEq, hs]; exact hc.clos rfl) n10' r10 ?_
        simp only [go_sem, Nat.reduceLT, Nat.reduceEqDiff, reduceCtorEq, Int.reduceLT, Int.reduceEq, hs]
        exact ⟨trivial, trivial, by simp only [slot_len, hs], by simp only [go_sem, Nat.reduceLT, Nat.reduceEqDiff, reduceCtorEq, Int.reduceLT, Int.reduceEq, h2], by simp only [go_sem, Nat.reduceLT, Nat.reduceEqDiff, reduceCtorEq, Int.reduceLT, Int.reduceEq, h3], by simp only [go_sem, Nat.reduceLT, Nat.reduceEqDiff, reduceCtorEq, Int.reduceLT, Int.reduceEq, h4], risL 50 c, els10, w10, by simp only [go_sem, Nat.reduceLT, Nat.reduceEqDiff, reduceCtorEq, Int.reduceLT, Int.reduceEq, hs], sl10, R10, risL_srt 50 c, by have := risL_len 50 c; omega, risL_fits 50 c⟩
      · simp only [go_sem, Nat.reduceLT, Nat.reduceEqDiff, reduceCtorEq, Int.reduceLT, Int.reduceEq, hs, h1, bin_rem z2, d]
        exact ⟨trivial, trivial, by simp only [slot_len, hs], by simp only [go_sem, Nat.reduceLT, Nat.reduceEqDiff, reduceCtorEq, Int.reduceLT, Int.reduceEq, h2], by simp only [go_sem, Nat.reduceLT, Nat.reduceEqDiff, reduceCtorEq, Int.reduceLT, Int.reduceEq, h3], by simp only [go_sem, Nat.reduceLT, Nat.reduceEqDiff, reduceCtorEq, Int.reduceLT, Int.reduceEq, h4], manyL n.toNat 40, els12, w12, by simp only [go_sem, Nat.reduceLT, Nat.reduceEqDiff, reduceCtorEq, Int.reduceLT, Int.reduceEq, hs], sl12, R12, manyL_srt _ _ (by omega), by rw [many_len]; omega, manyL_fits _ _ (by omega)⟩
    rintro ⟨s, h⟩ ⟨rfl, hs, h2, h3, h4, L, els, u, h11, hS, hR, hsrt, hlen, hfit⟩
    simp only at hs h2 h3 h4 h11
    obtain ⟨res, hres⟩ := build_some hsrt hlen hfit
    obtain ⟨v13, h13, n13, w13, r13, q13⟩ := build_pure hS hR (by omega)
    rw [hres] at q13
    obtain ⟨x, elsP, rfl, sx, pE⟩ := q13
    obtain ⟨h15, n15⟩ := rising_f15 hS hR (by omega)
    rw [srt_rising hsrt] at n15
    have hpl := pE.len
    have hrl := List.length_pos_iff.mpr (build_ne hres)
    have hrlen := buildF_len hres
    obtain ⟨i, hi⟩ : ∃ i, i = at_ % res.length := ⟨_, rfl⟩
    have hil : i < res.length := by rw [hi]; exact Nat.mod_lt _ hrl
    obtain ⟨cb, b, a1, a2, a3⟩ := pE.get (i := i) hil
    have hmem : b ∈ res := List.mem_of_getElem? a2
    have hb256 := build_256 hres b hmem
    obtain ⟨m, hm4, hpg⟩ := build_page hres b hmem
    have w1 : IntKind.i64.wrap (at_ : Int) = ((at_ : Nat) : Int) := IntWalk.i64_in _ (by omega)
    have zP : ((elsP.length : Nat) : Int) ≠ 0 := by omega
    have w2 : (at_ : Int).tmod ((elsP.length : Nat) : Int) = ((i : Nat) : Int) := by
      have e : (at_ : Int).tmod ((elsP.length : Nat) : Int) = ((at_ % elsP.length : Nat) : Int) := rfl
      rw [e, hpl, ← hi]
    have ia : iaO ([] : Heap) 1 x (vi .i64 (i : Int)) = some (.rptr [cb], []) := sx.ia (by omega) (by rw [Int.toNat_natCast]; exact a1)
    have la : ldO ([] : Heap) false 1 (.rptr [cb]) = some (.cv cb, []) := ld_rptr
    simp only [go_sem, Nat.reduceLT, Nat.reduceEqDiff, reduceCtorEq, Int.reduceLT, Int.reduceEq, hs, h11]
    refine XO_callP (h1 := []) (by simp only [List.map, go_sem, Nat.reduceLT, Nat.reduceEqDiff, reduceCtorEq, Int.reduceLT, Int.reduceEq, hs]; exact hS.clos rfl) n13 r13 ?_
    simp only [go_sem, Nat.reduceLT, Nat.reduceEqDiff, reduceCtorEq, Int.reduceLT, Int.reduceEq, hs]
    rw [X_eq f4_1.eq_1]
    simp only [go_sem, Nat.reduceLT, Nat.reduceEqDiff, reduceCtorEq, Int.reduceLT, Int.reduceEq, hs, sx.ln, zP, h2, w1, bin_rem zP, w2, ia, la]
    refine XO_appBG (BufG.nil [] 1) (by simp only [go_sem, Nat.reduceLT, Nat.reduceEqDiff, reduceCtorEq, Int.reduceLT, Int.reduceEq, hs]) (by simp only [go_sem, Nat.reduceLT, Nat.reduceEqDiff, reduceCtorEq, Int.reduceLT, Int.reduceEq, hs]; exact a3.src) (by rw [eB_len]; simp; omega) (by rw [eB_len]; simp; omega) (fun v' g4 hB4 _ => ?_)
    rw [List.nil_append] at hB4
    obtain ⟨id, g, rfl, hat4⟩ : ∃ id g, v' = .own id g 0 256 false ∧ g4[id]? = some (.arr 1 (eB b) g false) := by
      rcases hB4 with ⟨e, _⟩ | ⟨id, g, _, e, hh⟩
      · have := congrArg List.length e
        rw [eB_len, hb256] at this; cases this
      · exact ⟨id, g, by rw [e, eB_len, hb256], hh⟩
    have l256 : lnO false (.own id g 0 256 false) = some (vi .i64 256) := rfl
    have nn256 : binO .neq (vi .i64 256) (vi .i64 256) = some (vb false) := by simp [binO, binV]
    have hget : b[k.toNat]? = some (b[k.toNat]'(by omega)) := List.getElem?_eq_getElem (by omega)
    have ia4 := ia_bA (k := .u8) (ex := false) (n := 256) hat4 (show k.toNat < 256 by omega)
    have ld4 : ldO g4 false 1 (.eptr id g k.toNat 0) = some (vi .u8 (b[k.toNat]'(by omega)).toNat, g4) := ld_eptr hat4 (eB_get hget) rfl
    have st4 := st_bA (x := v) hat4 (show k.toNat < b.length by omega)
    simp only [go_sem, Nat.reduceLT, Nat.reduceEqDiff, reduceCtorEq, Int.reduceLT, Int.reduceEq, hs, l256, nn256]
    rw [X_eq f4_2.eq_1]
    simp only [go_sem, Nat.reduceLT, Nat.reduceEqDiff, reduceCtorEq, Int.reduceLT, Int.reduceEq, hs, l256, nn256, h3, h4, ia4, ld4, st4]
    have hbl : (eB (b.set k.toNat v)).length = 256 := by rw [eB_len, List.length_set, hb256]
    obtain ⟨g5, hg5⟩ : ∃ g5, g5 = g4.set id (.arr 1 (eB (b.set k.toNat v)) g false) := ⟨_, rfl⟩
    have hat5 : g5[id]? = some (.arr 1 (eB (b.set k.toNat v)) g false) := by rw [hg5]; exact List.getElem?_set_self (lt_at hat4)
    rw [← hg5]
    refine XO_appNB (NB.nil g5 1) (by simp only [go_sem, Nat.reduceLT, Nat.reduceEqDiff, reduceCtorEq, Int.reduceLT, Int.reduceEq, hs]) (by simp only [go_sem, Nat.reduceLT, Nat.reduceEqDiff, reduceCtorEq, Int.reduceLT, Int.reduceEq, hs]; exact sx.src) (by simp only [List.length_nil]; omega) (by simp only [List.length_nil]; omega) (fun vq g6 hB6 _ _ _ => ?_)
    rw [List.nil_append] at hB6
    obtain ⟨id2, g2, hid2, rfl, hat6⟩ : ∃ id2 g2, g5.length ≤ id2 ∧ vq = .own id2 g2 0 elsP.length false ∧ g6[id2]? = some (.arr 1 elsP g2 false) := by
      rcases hB6.v with ⟨e, _⟩ | ⟨id2, g2, h1, h2, h3⟩
      · rw [e] at hpl; simp at hpl; omega
      · exact ⟨id2, g2, h1, h2, h3⟩
    have hat56 := hB6.ext.get hat5
    have hne : id2 ≠ id := by have := lt_at hat5; omega
    have ia6 : iaO g6 1 (.own id2 g2 0 elsP.length false) (vi .i64 (i : Int)) = some (.eptr id2 g2 i 0, g6) := by
      rw [ia_own (by omega) hat6 (by simp; omega)]; simp
    have st6 := st_e1_own (ex := false) hat6 a1 rfl hat56 hbl hne
    simp only [go_sem, Nat.reduceLT, Nat.reduceEqDiff, reduceCtorEq, Int.reduceLT, Int.reduceEq, hs, ia6, st6]
    obtain ⟨g7, hg7⟩ : ∃ g7, g7 = (g6.set id (.arr 1 (eB (b.set k.toNat v)) g true)).set id2 (.arr 1 (elsP.set i [.sl 1 (eB (b.set k.toNat v)) false]) g2 false) := ⟨_, rfl⟩
    have hat7 : g7[id2]? = some (.arr 1 (elsP.set i [.sl 1 (eB (b.set k.toNat v)) false]) g2 false) := by rw [hg7]; exact List.getElem?_set_self (by rw [List.length_set]; exact lt_at hat6)
    rw [← hg7]
    have pQ : PgE (elsP.set i [.sl 1 (eB (b.set k.toNat v)) false]) (res.set i (b.set k.toNat v)) := pE.put i (.inr ⟨false, rfl⟩)
    have hQl : (elsP.set i [.sl 1 (eB (b.set k.toNat v)) false]).length = elsP.length := List.length_set
    have BQ : BufG g7 1 (elsP.set i [.sl 1 (eB (b.set k.toNat v)) false]) (.own id2 g2 0 elsP.length false) := .inr ⟨id2, g2, by intro e; rw [e] at hQl; simp at hQl; omega, by rw [hQl], hat7⟩
    obtain ⟨wq, g8, clq, slq, _⟩ := BQ.vf.closZ
    have hbig : ∀ b' ∈ res.set i (b.set k.toNat v), b'.length ≤ 1000000 := by
      intro b' hb'
      rcases List.mem_or_eq_of_mem_set hb' with h | rfl
      · rw [build_256 hres b' h]; omega
      · rw [List.length_set, hb256]; omega
    obtain ⟨v14, h14, n14, w14, r14, y14, els14, rfl, sy14, R14⟩ := rows_f14 pQ slq (by rw [List.length_set]; omega) hbig
    obtain ⟨wl, swl, slw⟩ := sx.upto (h := g8) (k := .i64) (b := ((elsP.length - 1 : Nat) : Int)) (by omega) (by omega)
    rw [Int.toNat_natCast] at swl
    have hdl : res.take (elsP.length - 1) = res.dropLast := by rw [hpl, List.dropLast_eq_take]
    have pL := pE.take (elsP.length - 1)
    rw [hdl] at pL
    obtain ⟨v14', h14', n14', w14', r14', y14', els14', rfl, sy14', R14'⟩ := rows_f14 pL swl (by rw [List.length_dropLast]; omega) (fun b' hb' => by rw [build_256 hres b' ((List.dropLast_sublist res).subset hb')]; omega)
    have hlast := rows_last hres
    have w3 : IntKind.i64.wrap (((elsP.length : Nat) : Int) - 1) = ((elsP.length - 1 : Nat) : Int) := by rw [IntWalk.i64_in _ (by omega)]; omega
    have he : ((rowsF (res.set i (b.set k.toNat v))).2 = 0) ↔ (v = b[k.toNat]'(by omega)) := by
      constructor
      · intro h
        apply Classical.byContradiction
        intro hv
        refine rowsF_bad (b := b.set k.toNat v) ?_ (page_bent hm4 hpg (by omega) ?_) h
        · exact List.mem_iff_getElem?.2 ⟨i, by rw [List.getElem?_set_self hil]⟩
        · rw [hget]; intro e; exact hv (Option.some.inj e).symm
      · intro hv
        have e1 : b.set k.toNat v = b := by rw [hv, List.set_getElem_self]
        have e2 : res.set i b = res := by
          obtain ⟨hi', rfl⟩ := List.getElem?_eq_some_iff.1 a2
          exact List.set_getElem_self hi'
        rw [e1, e2, rows_build hres]
    have hvv : ((v.toNat : Int) = ((b[k.toNat]'(by omega)).toNat : Int)) ↔ (v = b[k.toNat]'(by omega)) := by
      rw [← UInt8.toNat_inj]; omega
    have he2 : (((rowsF (res.set i (b.set k.toNat v))).2 : Nat) : Int) = 0 ↔ (v = b[k.toNat]'(by omega)) := by rw [← he]; omega
    have hl2 : (((rowsF res.dropLast).2 : Nat) : Int) ≠ 0 := by omega
    refine XO_callP (h1 := g8) (by simp only [List.map, go_sem, Nat.reduceLT, Nat.reduceEqDiff, reduceCtorEq, Int.reduceLT, Int.reduceEq, hs]; exact closAs_cons clq rfl) n14 r14 ?_
    simp only [go_sem, Nat.reduceLT, Nat.reduceEqDiff, reduceCtorEq, Int.reduceLT, Int.reduceEq, hs, sx.ln, w3, slw]
    refine XO_callP (h1 := g8) (by simp only [List.map, go_sem, Nat.reduceLT, Nat.reduceEqDiff, reduceCtorEq, Int.reduceLT, Int.reduceEq, hs]; exact swl.clos rfl) n14' r14' ?_
    simp only [go_sem, Nat.reduceLT, Nat.reduceEqDiff, reduceCtorEq, Int.reduceLT, Int.reduceEq, hs]
    refine XO_callP (h1 := g8) (by simp only [List.map]; rfl) n8 rfl ?_
    simp only [go_sem, Nat.reduceLT, Nat.reduceEqDiff, reduceCtorEq, Int.reduceLT, Int.reduceEq, hs, h4, he2, hvv, eqb_eq, beq_self_eq_true, hl2, h11]
    refine XO_callP (h1 := g8) (by simp only [List.map, go_sem, Nat.reduceLT, Nat.reduceEqDiff, reduceCtorEq, Int.reduceLT, Int.reduceEq, hs, h11]; exact hS.clos rfl) n15 rfl ?_
    simp only [go_sem, Nat.reduceLT, Nat.reduceEqDiff, reduceCtorEq, Int.reduceLT, Int.reduceEq, hs]
  obtain ⟨v, h', e1, rfl⟩ := this
  exact ⟨h', e1⟩
theorem spoilt_in {H : Type} {d0 d1 d2 d3 d4 : DataW H} {u0 u1 u2 u3 u4 : VV} (h0 : DV Proofs.Try.prog 23 d0 u0) (h1 : DV Proofs.Try.prog 5 d1 u1) (h2 : DV Proofs.Try.prog 31 d2 u2) (h3 : DV Proofs.Try.prog 5 d3 u3) (h4 : DV Proofs.Try.prog 5 d4 u4) : ∃ h', call F 4 [u0, u1, u2, u3, u4] [] = some (.ret (vb true), h') := by
  obtain ⟨c, hc, _⟩ := DV_bytes (e := 5) (by kernel_rfl) (by kernel_rfl) (by kernel_rfl) h0
  obtain ⟨n, rfl⟩ := DV_u8 (by kernel_rfl) h1
  obtain ⟨a, rfl, ha⟩ := DV_u16 (by kernel_rfl) h2
  obtain ⟨k, rfl⟩ := DV_u8 (by kernel_rfl) h3
  obtain ⟨v, rfl⟩ := DV_u8 (by kernel_rfl) h4
  exact law_spoilt hc n a ha k v
end Go.V06

set_option linter.unusedSimpArgs false
set_option linter.unusedVariables false
namespace Go.V06
open Go Go.Vm

/-! ### the way down: plain -/
theorem above_iff {p : KV} {key : List UInt8} : above p key = true ↔ Op.bytesLess key p.1 = true := by
  have : above p key = !(bl_le p.1 key) := rfl
  rw [this]
  cases h : bl_le p.1 key with
  | true => simp [bl_le_iff.1 h]
  | false => simp [bl_not_le.1 h]

theorem findF_split (key : List UInt8) : ∀ (G : List KV) (i : Nat), G ≠ [] → Srt G → ∃ G1 r G2, G = G1 ++ r :: G2 ∧ (∀ p ∈ G2, Op.bytesLess key p.1 = true) ∧ ((findF key i G = ((i + G1.length : Nat) : Int) ∧ bl_le r.1 key = true) ∨ (findF key i G = (i : Int) - 1 ∧ G1 = [] ∧ Op.bytesLess key r.1 = true))
  | [], _, h, _ => absurd rfl h
  | p :: t, i, _, hs => by
    rw [Srt, List.pairwise_cons] at hs
    rw [findF]
    by_cases ha : above p key = true
    · rw [if_pos ha]
      have hk := above_iff.1 ha
      exact ⟨[], p, t, rfl, fun q hq => bl_trans hk (hs.1 q hq), .inr ⟨rfl, rfl, hk⟩⟩
    · rw [if_neg ha]
      have hle : bl_le p.1 key = true := by
        rw [above_iff] at ha
        rw [bl_le_iff]
        cases h : Op.bytesLess key p.1 with
        | true => exact absurd h ha
        | false => rfl
      cases t with
      | nil => exact ⟨[], p, [], rfl, by simp, .inl ⟨by simp [findF], hle⟩⟩
      | cons q t =>
        obtain ⟨G1, r, G2, e, h2, h3⟩ := findF_split key (q :: t) (i + 1) (by simp) hs.2
        rcases h3 with ⟨h3, h4⟩ | ⟨h3, rfl, h5⟩
        · exact ⟨p :: G1, r, G2, by rw [e]; rfl, h2, .inl ⟨by rw [h3, List.length_cons]; omega, h4⟩⟩
        · refine ⟨[], p, q :: t, rfl, ?_, .inl ⟨by rw [h3]; simp, hle⟩⟩
          intro x hx
          rw [e, List.nil_append] at hx
          rcases List.mem_cons.1 hx with rfl | hx
          · exact h5
          · exact h2 x hx

theorem above_split : ∀ (X : List KV) (gs : List (List KV)) (s : Nat) (r : KV) (Y : List KV), aboveL s gs = X ++ r :: Y → ∃ P G S, gs = P ++ G :: S ∧ P.length = X.length ∧ r = (keyOf G, num (clamp ((s + P.length : Nat) : Int))) ∧ aboveL (s + P.length + 1) S = Y
  | [], [], s, r, Y, h => by simp [aboveL] at h
  | [], g :: gs, s, r, Y, h => by
    rw [aboveL, List.nil_append, List.cons.injEq] at h
    exact ⟨[], g, gs, rfl, rfl, h.1.symm, h.2⟩
  | x :: X, [], s, r, Y, h => by simp [aboveL] at h
  | x :: X, g :: gs, s, r, Y, h => by
    rw [aboveL, List.cons_append, List.cons.injEq] at h
    obtain ⟨P, G, S, e, h1, h2, h3⟩ := above_split X gs (s + 1) r Y h.2
    refine ⟨g :: P, G, S, by rw [e]; rfl, by simp [h1], ?_, ?_⟩
    · rw [h2, List.length_cons]
      have : s + 1 + P.length = s + (P.length + 1) := by omega
      rw [this]
    · rw [List.length_cons]
      have : s + (P.length + 1) + 1 = s + 1 + P.length + 1 := by omega
      rw [this]; exact h3
theorem above_mem : ∀ (gs : List (List KV)) (s : Nat) (q : KV), q ∈ aboveL s gs → ∃ g ∈ gs, q.1 = keyOf g
  | [], _, _, h => by simp [aboveL] at h
  | g :: gs, s, q, h => by
    rw [aboveL] at h
    rcases List.mem_cons.1 h with rfl | h
    · exact ⟨g, List.mem_cons_self, rfl⟩
    · obtain ⟨g', h1, h2⟩ := above_mem gs (s + 1) q h
      exact ⟨g', List.mem_cons_of_mem _ h1, h2⟩
theorem mem_above : ∀ (gs : List (List KV)) (s : Nat) (g : List KV), g ∈ gs → ∃ q ∈ aboveL s gs, q.1 = keyOf g
  | [], _, _, h => by simp at h
  | g :: gs, s, g', h => by
    rw [aboveL]
    rcases List.mem_cons.1 h with rfl | h
    · exact ⟨_, List.mem_cons_self, rfl⟩
    · obtain ⟨q, h1, h2⟩ := mem_above gs (s + 1) g' h
      exact ⟨q, List.mem_cons_of_mem _ h1, h2⟩
theorem groups_ne2 : ∀ (m : Nat) (l : List KV), l ≠ [] → FitsR l → ∀ g ∈ groupsL m l, g ≠ []
  | 0, _, _, _, g, h => by simp [groupsL] at h
  | m + 1, l, hl, hf, g, h => by
    have hp := fit_pos hl hf
    have hfl := fitF_le l 0
    rw [groupsL] at h
    rcases List.mem_cons.1 h with rfl | h
    · intro e
      have := congrArg List.length e
      rw [List.length_take, List.length_nil] at this
      omega
    · split at h
      · simp at h
      · rename_i hh
        refine groups_ne2 m _ ?_ (fun p hp => hf p (List.mem_of_mem_drop hp)) g h
        intro e
        have := congrArg List.length e
        rw [List.length_drop, List.length_nil] at this
        omega
theorem grp_flat {l : List KV} (hf : FitsR l) : (grp l).flatten = l := by
  have h1 := groups_flat (l.length + 1) l
  rw [groups_sum _ l (Nat.lt_succ_self _) hf, List.take_length] at h1
  exact h1
theorem key_mem {g : List KV} (h : g ≠ []) : ∃ p t, g = p :: t ∧ keyOf g = p.1 := by
  cases g with
  | nil => exact absurd rfl h
  | cons p t => exact ⟨p, t, rfl, rfl⟩
theorem above_srt : ∀ (gs : List (List KV)) (s : Nat), Srt gs.flatten → (∀ g ∈ gs, g ≠ []) → Srt (aboveL s gs)
  | [], _, _, _ => List.Pairwise.nil
  | g :: gs, s, h, hn => by
    rw [List.flatten_cons, Srt, List.pairwise_append] at h
    rw [aboveL, Srt, List.pairwise_cons]
    refine ⟨fun q hq => ?_, above_srt gs (s + 1) h.2.1 fun g hg => hn g (List.mem_cons_of_mem _ hg)⟩
    obtain ⟨g', hg', e⟩ := above_mem _ _ _ hq
    obtain ⟨p, t, e1, k1⟩ := key_mem (hn g List.mem_cons_self)
    obtain ⟨p', t', e2, k2⟩ := key_mem (hn g' (List.mem_cons_of_mem _ hg'))
    rw [e, k2]
    show Op.bytesLess (keyOf g) p'.1 = true
    rw [k1]
    exact h.2.2 p (by rw [e1]; exact List.mem_cons_self) p' (List.mem_flatten.2 ⟨g', hg', by rw [e2]; exact List.mem_cons_self⟩)

/-- A level's pages. -/
def Pg (res : List (List UInt8)) (n s : Nat) (l : List KV) : Prop := ∀ P G S, grp l = P ++ G :: S → res[s + P.length]? = some (pageB n G)
inductive Lv (res : List (List UInt8)) (l0 : List KV) : Nat → Nat → List KV → Prop
  | base (h : Pg res 0 0 l0) : Lv res l0 0 0 l0
  | up {n s : Nat} {l : List KV} (hl : Lv res l0 n s l) (hne : l ≠ []) (hn : n + 1 ≤ 4) (h : Pg res (n + 1) (s + (grp l).length) (aboveL s (grp l))) : Lv res l0 (n + 1) (s + (grp l).length) (aboveL s (grp l))
theorem Lv.pg {res : List (List UInt8)} {l0 : List KV} {n s : Nat} {l : List KV} (h : Lv res l0 n s l) : Pg res n s l ∧ n ≤ 4 := by
  cases h with
  | base h => exact ⟨h, by omega⟩
  | up _ _ hn h => exact ⟨h, hn⟩
theorem Lv.ok {res : List (List UInt8)} {l0 : List KV} {n s : Nat} {l : List KV} (h : Lv res l0 n s l) (hs : Srt l0) (hf : FitsR l0) : Srt l ∧ FitsR l ∧ (1 ≤ n → l ≠ []) := by
  induction h with
  | base h => exact ⟨hs, hf, fun h => by omega⟩
  | @up n s l hl hne hn h ih =>
    obtain ⟨i1, i2, i3⟩ := ih
    refine ⟨above_srt _ _ (by rw [grp_flat i2]; exact i1) (groups_ne2 _ _ hne i2), (grp_above i2).fits, fun _ e => ?_⟩
    have := congrArg List.length e
    rw [aboveL_len, List.length_nil] at this
    have := grp_pos l
    omega
theorem bld_lv {l0 : List KV} : ∀ (f n : Nat) (pg : List (List UInt8)) (l : List KV) (res : List (List UInt8)), bldF f n pg l = some res → n + f = 5 → (Pg res n pg.length l → Lv res l0 n pg.length l) → ∃ nt st lt G, Lv res l0 nt st lt ∧ grp lt = [G] ∧ res.length = st + 1
  | 0, _, _, _, _, h, _, _ => by cases h
  | f + 1, n, pg, l, res, h, hn, hp => by
    obtain ⟨up, e1, _, _, _⟩ := bld_struct (f + 1) n pg l res h (by omega)
    have hpg : Pg res n pg.length l := by
      intro P G S e
      rw [e1, e, List.getElem?_append_right (by omega), Nat.add_sub_cancel_left, List.map_append, List.append_assoc, List.getElem?_append_right (by rw [List.length_map]; omega), List.length_map, Nat.sub_self]
      rfl
    have hl := hp hpg
    rw [bldF] at h
    by_cases h1 : sumL (grp l) = l.length
    · rw [if_pos h1] at h
      by_cases h2 : (grp l).length = 1
      · rw [if_pos h2] at h
        obtain ⟨G, hG⟩ := List.length_eq_one_iff.1 h2
        exact ⟨n, pg.length, l, G, hl, hG, by rw [← Option.some.inj h, List.length_append, List.length_map, h2]⟩
      · rw [if_neg h2] at h
        have hlen : (pg ++ (grp l).map (pageB n)).length = pg.length + (grp l).length := by rw [List.length_append, List.length_map]
        have hf : 1 ≤ f := by
          cases f with
          | zero => cases h
          | succ f => omega
        refine bld_lv f (n + 1) _ _ res h (by omega) (fun hp' => ?_)
        rw [hlen] at hp' ⊢
        exact Lv.up hl (by rintro rfl; exact h2 rfl) (by omega) hp'
    · rw [if_neg h1] at h; cases h
theorem build_lv {l : List KV} {res : List (List UInt8)} (h : buildF l = some res) : ∃ nt st lt G, Lv res l nt st lt ∧ grp lt = [G] ∧ res.length = st + 1 := by
  unfold buildF at h
  split at h
  · exact bld_lv 5 0 [] l res h rfl (fun hp => Lv.base hp)
  · cases h

/-- Where a key may be. -/
structure Dn (key : List UInt8) (P : List (List KV)) (G : List KV) (S : List (List KV)) : Prop where
  lo : P = [] ∨ bl_le (keyOf G) key = true
  hi : ∀ p ∈ S.flatten, Op.bytesLess key p.1 = true

theorem down {res : List (List UInt8)} {l0 : List KV} {n s' : Nat} {l' : List KV} (hL : Lv res l0 (n + 1) s' l') (hs : Srt l0) (hf : FitsR l0) {key : List UInt8} {P S : List (List KV)} {G : List KV} (e : grp l' = P ++ G :: S) (d : Dn key P G S) :
    G ≠ [] ∧ ∃ r s l P2 G2 S2, G[(max (findF key 0 G) 0).toNat]? = some r ∧ r.2 = num (clamp ((s + P2.length : Nat) : Int)) ∧ s + P2.length < s' + P.length ∧ Lv res l0 n s l ∧ grp l = P2 ++ G2 :: S2 ∧ Dn key P2 G2 S2 := by
  obtain ⟨ok1, ok2, ok3⟩ := hL.ok hs hf
  have hGm : G ∈ grp l' := by rw [e]; simp
  have hGne := groups_ne2 _ _ (ok3 (by omega)) ok2 G hGm
  have hfl := grp_flat ok2
  have hSG : Srt G := by
    have : Srt (grp l').flatten := by rw [hfl]; exact ok1
    rw [e, List.flatten_append, List.flatten_cons, Srt, List.pairwise_append, List.pairwise_append] at this
    exact this.2.1.1
  obtain ⟨G1, r, Gr, eG, h2, h3⟩ := findF_split key G 0 hGne hSG
  refine ⟨hGne, ?_⟩
  have hmax : (max (findF key 0 G) 0).toNat = G1.length := by
    rcases h3 with ⟨h3, _⟩ | ⟨h3, h4, _⟩
    · rw [h3]; omega
    · rw [h3, h4]; rfl
  cases hL with
  | @up n s l hl hne hn h =>
    have i := hl.ok hs hf
    have el : aboveL s (grp l) = (P.flatten ++ G1) ++ r :: (Gr ++ S.flatten) := by
      rw [← hfl, e, List.flatten_append, List.flatten_cons, eG]
      simp [List.append_assoc]
    obtain ⟨P2, G2, S2, e2, hlen, hr, hY⟩ := above_split _ _ _ _ _ el
    have hG2m : G2 ∈ grp l := by rw [e2]; simp
    refine ⟨r, s, l, P2, G2, S2, ?_, by rw [hr], ?_, hl, e2, ?_, ?_⟩
    · rw [hmax, eG, List.getElem?_append_right (Nat.le_refl _), Nat.sub_self]; rfl
    · have : (grp l).length = P2.length + (S2.length + 1) := by rw [e2, List.length_append, List.length_cons]
      omega
    · have hk : r.1 = keyOf G2 := by rw [hr]
      rcases h3 with ⟨_, h4⟩ | ⟨_, h4, h5⟩
      · exact .inr (by rw [← hk]; exact h4)
      · left
        have hkG : keyOf G = r.1 := by rw [eG, h4]; rfl
        rcases d.lo with h | h
        · rw [h, h4] at hlen
          exact List.eq_nil_of_length_eq_zero hlen
        · rw [hkG, bl_le_iff, h5] at h
          cases h
    · intro p hp
      obtain ⟨g, hg, hpg⟩ := List.mem_flatten.1 hp
      obtain ⟨q, hq, ek⟩ := mem_above S2 (s + P2.length + 1) g hg
      rw [hY] at hq
      have hkq : Op.bytesLess key q.1 = true := by
        rcases List.mem_append.1 hq with hq | hq
        · exact h2 q hq
        · exact d.hi q hq
      have hgm : g ∈ grp l := by rw [e2]; simp [hg]
      obtain ⟨p1, t1, eg, kg⟩ := key_mem (groups_ne2 _ _ hne i.2.1 g hgm)
      have hsg : Srt g := by
        have : Srt (grp l).flatten := by rw [grp_flat i.2.1]; exact i.1
        obtain ⟨A, B, eAB⟩ := List.append_of_mem hgm
        rw [eAB, List.flatten_append, List.flatten_cons, Srt, List.pairwise_append, List.pairwise_append] at this
        exact this.2.1.1
      rw [ek, kg] at hkq
      rw [eg] at hpg hsg
      rcases List.mem_cons.1 hpg with rfl | hpg
      · exact hkq
      · rw [Srt, List.pairwise_cons] at hsg
        exact bl_trans hkq (hsg.1 p hpg)

theorem foot {res : List (List UInt8)} {l0 : List KV} {s : Nat} {l : List KV} (hL : Lv res l0 0 s l) (hs : Srt l0) (hf : FitsR l0) {key : List UInt8} {P S : List (List KV)} {G : List KV} (e : grp l = P ++ G :: S) (d : Dn key P G S) :
    (∃ (y : Nat) (r : KV), findF key 0 G = (y : Int) ∧ G[y]? = some r ∧ r.1 = key ∧ r ∈ l0) ∨ ((findF key 0 G < 0 ∨ ∃ (y : Nat) (r : KV), findF key 0 G = (y : Int) ∧ G[y]? = some r ∧ r.1 ≠ key) ∧ ∀ p ∈ l0, p.1 ≠ key) := by
  cases hL with
  | base hp =>
    have hfl := grp_flat hf
    by_cases hl : l0 = []
    · subst hl
      have : P = [] ∧ G = [] ∧ S = [] := by
        have e' : [[]] = P ++ G :: S := e
        cases P with
        | nil => simp at e'; exact ⟨rfl, e'.1, e'.2⟩
        | cons a b => simp at e'
      obtain ⟨rfl, rfl, rfl⟩ := this
      exact .inr ⟨.inl (by simp [findF]), by simp⟩
    · have hGm : G ∈ grp l0 := by rw [e]; simp
      have hGne := groups_ne2 _ _ hl hf G hGm
      have hall : Srt (P.flatten ++ (G ++ S.flatten)) := by
        have : Srt (grp l0).flatten := by rw [hfl]; exact hs
        rw [e, List.flatten_append, List.flatten_cons] at this
        exact this
      rw [Srt, List.pairwise_append, List.pairwise_append] at hall
      have hSG : Srt G := hall.2.1.1
      obtain ⟨G1, r, Gr, eG, h2, h3⟩ := findF_split key G 0 hGne hSG
      have hml : ∀ p ∈ l0, p ∈ P.flatten ∨ p ∈ G ∨ p ∈ S.flatten := by
        intro p hp
        rw [← hfl, e, List.flatten_append, List.flatten_cons] at hp
        rcases List.mem_append.1 hp with h | h
        · exact .inl h
        · exact .inr (List.mem_append.1 h)
      obtain ⟨p1, t1, eg, kg⟩ := key_mem hGne
      have notP : ∀ p ∈ P.flatten, p.1 ≠ key := by
        intro p hp ek
        rcases d.lo with h | h
        · rw [h] at hp; simp at hp
        · have := hall.2.2 p hp p1 (by rw [eg]; exact List.mem_append_left _ List.mem_cons_self)
          rw [kg, bl_le_iff] at h
          rw [ek, h] at this
          cases this
      have notS : ∀ p ∈ S.flatten, p.1 ≠ key := by
        intro p hp ek
        have := d.hi p hp
        rw [ek, bl_irrefl] at this
        cases this
      have notG : r.1 ≠ key → ∀ p ∈ G, p.1 ≠ key := by
        intro hne p hp ek
        rw [eG] at hp hSG
        rw [Srt, List.pairwise_append, List.pairwise_cons] at hSG
        rcases List.mem_append.1 hp with hp | hp
        · have hlt := hSG.2.2 p hp r List.mem_cons_self
          rcases h3 with ⟨_, h4⟩ | ⟨_, h4, _⟩
          · rw [ek] at hlt
            rw [bl_le_iff, hlt] at h4
            cases h4
          · rw [h4] at hp; simp at hp
        · rcases List.mem_cons.1 hp with rfl | hp
          · exact hne ek
          · have := h2 p hp
            rw [ek, bl_irrefl] at this
            cases this
      have hget : G[G1.length]? = some r := by rw [eG, List.getElem?_append_right (Nat.le_refl _), Nat.sub_self]; rfl
      rcases h3 with ⟨h3, h4⟩ | ⟨h3, h4, h5⟩
      · rw [Nat.zero_add] at h3
        by_cases hk : r.1 = key
        · refine .inl ⟨G1.length, r, h3, hget, hk, ?_⟩
          rw [← hfl, e, List.flatten_append, List.flatten_cons, eG]
          simp
        · refine .inr ⟨.inr ⟨G1.length, r, h3, hget, hk⟩, fun p hp => ?_⟩
          rcases hml p hp with h | h | h
          · exact notP p h
          · exact notG hk p h
          · exact notS p h
      · refine .inr ⟨.inl (by rw [h3]; omega), fun p hp => ?_⟩
        rcases hml p hp with h | h | h
        · exact notP p h
        · exact notG (fun e => by rw [e, bl_irrefl] at h5; cases h5) p h
        · exact notS p h
end Go.V06

set_option linter.unusedSimpArgs false
set_option linter.unusedVariables false
namespace Go.V06
open Go Go.Vm

theorem child_f38 {k : List UInt8} {c : CV} {m : Nat} (hm : m ≤ 9007199254740992) (hc : SlV 1 (eB (num m)) (.cv c)) (of_ : Int) : ∃ h', call F 38 [.agg [txt k, .cv c], vi .i64 of_] [] = some (.ret (.tup [vi .i64 m, vb (decide ((m : Int) < of_))]), h') := by
  have : Ret F 38 [.agg [txt k, .cv c], vi .i64 of_] [] fun v _ => v = .tup [vi .i64 m, vb (decide ((m : Int) < of_))] := by
    refine call_E (fn := f38) rfl ?_
    simp only [f38]
    generalize hs0 : ([.agg [txt k, .cv c], vi .i64 of_] ++ List.replicate _ VV.undef : List VV) = s
    have hs : s.length = 31 := by rw [← hs0]; rfl
    have h0 : s.getD 0 .undef = .agg [txt k, .cv c] := by rw [← hs0]; rfl
    have h1 : s.getD 1 .undef = vi .i64 of_ := by rw [← hs0]; rfl
    clear hs0
    have bx : bxO [] 2 (.agg [txt k, .cv c]) = some (.ptr 0 0, [.box [txt k, .cv c] false]) := rfl
    have g := getNum_num [] [] m hm
    simp only [List.nil_append, List.append_nil, List.length_nil, Nat.zero_add] at g
    have hnl := num_len m
    rw [clamp_of m (by omega)] at hnl
    have n47 := num_f47 (num m) (.cv c) hc 0 [] (by omega)
    have g' : getNum (num m) 0 = (m, (num m).length, 0) := g
    rw [g'] at n47
    have fd1 : fdO 1 (.ptr 0 0) = some (.ptr 0 1) := rfl
    have l1 : ldO [.box [txt k, .cv c] false] false 1 (.ptr 0 1) = some (.cv c, [.box [txt k, .cv c] false]) := rfl
    have hln : lnO false (.cv c) = some (vi .i64 (num m).length) := by rw [hc.ln, eB_len]
    simp only [go_sem, Nat.reduceLT, Nat.reduceEqDiff, reduceCtorEq, Int.reduceLT, Int.reduceEq, hs, h0, bx, fd1, l1]
    refine XO_callP (h1 := [.box [txt k, .cv c] false]) (by simp only [List.map, go_sem, Nat.reduceLT, Nat.reduceEqDiff, reduceCtorEq, Int.reduceLT, Int.reduceEq, hs]; exact clos_cv (clos_cv rfl)) n47 rfl ?_
    simp only [go_sem, Nat.reduceLT, Nat.reduceEqDiff, reduceCtorEq, Int.reduceLT, Int.reduceEq, hs, h1, fd1, l1, hln, show ((0 : Nat) : Int) = 0 from rfl]
  obtain ⟨v, h', n1, rfl⟩ := this
  exact ⟨h', n1⟩

section
variable {res : List (List UInt8)} {l0 : List KV} {elsP : List (List CV)} {x : VV} {key : List UInt8}
theorem f29_loop (pE : PgE elsP res) (sx : SlV 1 elsP x) (hrl : res.length ≤ 1000000) (hsrt : Srt l0) (hfit : FitsR l0) : ∀ (n s : Nat) (l : List KV) (P S : List (List KV)) (G : List KV) (want : Int) (sl : List VV) (h : Heap) (Q : Pst), Lv res l0 n s l → grp l = P ++ G :: S → Dn key P G S → (want = -1 ∨ want = n) →
    sl.length = 84 → sl.getD 0 .undef = x → sl.getD 1 .undef = txt key → sl.getD 7 .undef = vi .i64 (s + P.length : Nat) → sl.getD 8 .undef = vi .i64 want →
    (∀ s' r c', s'.length = 84 → r ∈ l0 → r.1 = key → SlV 1 (eB r.2) (.cv c') → s'.getD 4 .undef = .cv c' → s'.getD 5 .undef = vb true → s'.getD 6 .undef = vi .u16 0 → Q .ret ⟨s', h⟩) →
    ((∀ p ∈ l0, p.1 ≠ key) → ∀ s', s'.length = 84 → s'.getD 4 .undef = nilS → s'.getD 5 .undef = vb false → s'.getD 6 .undef = vi .u16 0 → Q .ret ⟨s', h⟩) → X F (.loop f29_3) ⟨sl, h⟩ Q := by
  intro n
  induction n with
  | zero =>
    intro s l P S G want sl h Q hL e d hw hs e0 e1 e7 e8 hY hN
    have hfoot := foot hL hsrt hfit e d
    have hpgs := hL.pg.1 P G S e
    have hlt := (List.getElem?_eq_some_iff.1 hpgs).1
    obtain ⟨ca, b, a1, a2, a3⟩ := pE.get (i := s + P.length) hlt
    rw [hpgs] at a2
    have eb := Option.some.inj a2
    subst eb
    have hGf := grp_fit l G (by rw [e]; simp)
    obtain ⟨v24, h24, n24, w, r24, eld, y, rfl, sd, hRd⟩ := decode_f24 a3 (by rw [pageB_256 (by omega) hGf]; omega)
    rw [decF_page (by omega) hGf] at r24 hRd
    have ia : iaO h 1 x (vi .i64 ((s + P.length : Nat) : Int)) = some (.rptr [ca], h) := sx.ia (by omega) (by rw [Int.toNat_natCast]; exact a1)
    have la : ldO h false 1 (.rptr [ca]) = some (.cv ca, h) := ld_rptr
    have hGl : G.length ≤ 250 := by
      have := (fitF_all G 0 hGf (by omega)).1
      have := sum_len G
      omega
    have hRd' : RowsE eld G := hRd
    obtain ⟨h37, n37⟩ := find_f37 sd hRd' (by omega) key
    rw [X_loop, X_eq f29_3.eq_1]
    simp only [go_sem, Nat.reduceLT, Nat.reduceEqDiff, reduceCtorEq, Int.reduceLT, Int.reduceEq, hs, e0, e7, ia, la]
    refine XO_callP (h1 := h) (by simp only [List.map, go_sem, Nat.reduceLT, Nat.reduceEqDiff, reduceCtorEq, Int.reduceLT, Int.reduceEq, hs]; exact a3.clos rfl) n24 r24 ?_
    simp only [go_sem, Nat.reduceLT, Nat.reduceEqDiff, reduceCtorEq, Int.reduceLT, Int.reduceEq, hs, show ((0 : Nat) : Int) = 0 from rfl, ne_eq, not_true_eq_false]
    refine mid (P := fun st => st.h = h ∧ st.s.length = 84 ∧ st.s.getD 0 .undef = x ∧ st.s.getD 1 .undef = txt key ∧ st.s.getD 9 .undef = vi .i64 0 ∧ st.s.getD 10 .undef = y ∧ st.s.getD 35 .undef = vb false) ?_ ?_
    · rw [X_eq f29_1.eq_1]
      rcases hw with rfl | rfl
      · have c0 : ¬ ((-1 : Int) ≥ 0) := by omega
        simp only [go_sem, Nat.reduceLT, Nat.reduceEqDiff, reduceCtorEq, Int.reduceLT, Int.reduceEq, hs, e8, c0, e0, e1, show ((0 : Nat) : Int) = 0 from rfl, gt_iff_lt, Int.lt_irrefl, true_and, and_self]
      · have c0 : (((0 : Nat) : Int) ≥ 0) := by omega
        simp only [go_sem, Nat.reduceLT, Nat.reduceEqDiff, reduceCtorEq, Int.reduceLT, Int.reduceEq, hs, e8, e0, e1, show ((0 : Nat) : Int) = 0 from rfl, ge_iff_le, Int.le_refl, ne_eq, not_true_eq_false, gt_iff_lt, Int.lt_irrefl, true_and, and_self]
    rintro ⟨s2, h2⟩ ⟨rfl, hs, e0, e1, e9, e10, e35⟩
    simp only at hs e0 e1 e9 e10 e35
    simp only [go_sem, Nat.reduceLT, Nat.reduceEqDiff, reduceCtorEq, Int.reduceLT, Int.reduceEq, hs, e35]
    refine XO_callP (h1 := h2) (by simp only [List.map, go_sem, Nat.reduceLT, Nat.reduceEqDiff, reduceCtorEq, Int.reduceLT, Int.reduceEq, hs, e10, e1]; exact sd.clos (clos_cv rfl)) n37 rfl ?_
    simp only [go_sem, Nat.reduceLT, Nat.reduceEqDiff, reduceCtorEq, Int.reduceLT, Int.reduceEq, hs]
    rw [X_eq f29_2.eq_1]
    have lt_ : ∀ y : Nat, ¬ ((y : Nat) : Int) < 0 := by intro y; omega
    have nq : ∀ a b : List UInt8, binO .neq (txt a) (txt b) = some (vb (decide (a ≠ b))) := by
      intro a b
      by_cases h : a = b <;> simp [binO, binV, h]
    rcases hfoot with ⟨yi, r, f1, f2, f3, f4⟩ | ⟨f1, f2⟩
    · obtain ⟨ee, p, he, hp, c', rfl, hc'⟩ := hRd'.get (i := yi) (List.getElem?_eq_some_iff.1 f2).1
      rw [f2] at hp
      have ep := Option.some.inj hp
      subst ep
      have ia2 : iaO h2 2 y (vi .i64 (yi : Int)) = some (.rptr [.sc (.string ⟨r.1.toArray⟩), c'], h2) := sd.ia (by omega) (by rw [Int.toNat_natCast]; exact he)
      have la0 : ldO h2 false 1 (.rptr [.sc (.string ⟨r.1.toArray⟩), c']) = some (txt r.1, h2) := ld_rptr
      have la1 : ldO h2 false 1 (.rptr [c']) = some (.cv c', h2) := ld_rptr
      have fd0 : fdO 0 (.rptr [.sc (.string ⟨r.1.toArray⟩), c']) = some (.rptr [.sc (.string ⟨r.1.toArray⟩), c']) := rfl
      have fd1 : fdO 1 (.rptr [.sc (.string ⟨r.1.toArray⟩), c']) = some (.rptr [c']) := rfl
      have nk : ¬ (r.1 ≠ key) := fun h => h f3
      simp only [go_sem, Nat.reduceLT, Nat.reduceEqDiff, reduceCtorEq, Int.reduceLT, Int.reduceEq, hs, e9, f1, lt_, e10, ia2, la0, la1, fd0, fd1, e1, nq, nk]
      exact hY _ r c' (by simp only [slot_len, hs]) f4 f3 hc' (by simp only [go_sem, Nat.reduceLT, Nat.reduceEqDiff, reduceCtorEq, Int.reduceLT, Int.reduceEq, hs]) (by simp only [go_sem, Nat.reduceLT, Nat.reduceEqDiff, reduceCtorEq, Int.reduceLT, Int.reduceEq, hs]) (by simp only [go_sem, Nat.reduceLT, Nat.reduceEqDiff, reduceCtorEq, Int.reduceLT, Int.reduceEq, hs])
    · rcases f1 with f1 | ⟨yi, r, f1, f3, f4⟩
      · simp only [go_sem, Nat.reduceLT, Nat.reduceEqDiff, reduceCtorEq, Int.reduceLT, Int.reduceEq, hs, e9, f1]
        exact hN f2 _ (by simp only [slot_len, hs]) (by simp only [go_sem, Nat.reduceLT, Nat.reduceEqDiff, reduceCtorEq, Int.reduceLT, Int.reduceEq, hs]) (by simp only [go_sem, Nat.reduceLT, Nat.reduceEqDiff, reduceCtorEq, Int.reduceLT, Int.reduceEq, hs]) (by simp only [go_sem, Nat.reduceLT, Nat.reduceEqDiff, reduceCtorEq, Int.reduceLT, Int.reduceEq, hs])
      · obtain ⟨ee, p, he, hp, c', rfl, hc'⟩ := hRd'.get (i := yi) (List.getElem?_eq_some_iff.1 f3).1
        rw [f3] at hp
        have ep := Option.some.inj hp
        subst ep
        have ia2 : iaO h2 2 y (vi .i64 (yi : Int)) = some (.rptr [.sc (.string ⟨r.1.toArray⟩), c'], h2) := sd.ia (by omega) (by rw [Int.toNat_natCast]; exact he)
        have la0 : ldO h2 false 1 (.rptr [.sc (.string ⟨r.1.toArray⟩), c']) = some (txt r.1, h2) := ld_rptr
        have fd0 : fdO 0 (.rptr [.sc (.string ⟨r.1.toArray⟩), c']) = some (.rptr [.sc (.string ⟨r.1.toArray⟩), c']) := rfl
        simp only [go_sem, Nat.reduceLT, Nat.reduceEqDiff, reduceCtorEq, Int.reduceLT, Int.reduceEq, hs, e9, f1, lt_, e10, ia2, la0, fd0, e1, nq, f4]
        exact hN f2 _ (by simp only [slot_len, hs]) (by simp only [go_sem, Nat.reduceLT, Nat.reduceEqDiff, reduceCtorEq, Int.reduceLT, Int.reduceEq, hs]) (by simp only [go_sem, Nat.reduceLT, Nat.reduceEqDiff, reduceCtorEq, Int.reduceLT, Int.reduceEq, hs]) (by simp only [go_sem, Nat.reduceLT, Nat.reduceEqDiff, reduceCtorEq, Int.reduceLT, Int.reduceEq, hs])
  | succ n ih =>
    intro s l P S G want sl h Q hL e d hw hs e0 e1 e7 e8 hY hN
    obtain ⟨hGne, r, s', l', P2, G2, S2, g1, g2, g3, hL2, e2, d2⟩ := down hL hsrt hfit e d
    have hn4 := hL.pg.2
    have hpgs := hL.pg.1 P G S e
    have hlt := (List.getElem?_eq_some_iff.1 hpgs).1
    obtain ⟨ca, b, a1, a2, a3⟩ := pE.get (i := s + P.length) hlt
    rw [hpgs] at a2
    have eb := Option.some.inj a2
    subst eb
    have hGf := grp_fit l G (by rw [e]; simp)
    obtain ⟨v24, h24, n24, w, r24, eld, y, rfl, sd, hRd⟩ := decode_f24 a3 (by rw [pageB_256 hn4 hGf]; omega)
    rw [decF_page hn4 hGf] at r24 hRd
    have ia : iaO h 1 x (vi .i64 ((s + P.length : Nat) : Int)) = some (.rptr [ca], h) := sx.ia (by omega) (by rw [Int.toNat_natCast]; exact a1)
    have la : ldO h false 1 (.rptr [ca]) = some (.cv ca, h) := ld_rptr
    have hGl : G.length ≤ 250 := by
      have := (fitF_all G 0 hGf (by omega)).1
      have := sum_len G
      omega
    have hRd' : RowsE eld G := hRd
    have hel := hRd'.len
    have hGp := List.length_pos_iff.mpr hGne
    obtain ⟨h37, n37⟩ := find_f37 sd hRd' (by omega) key
    obtain ⟨ee, p, he, hp, c', rfl, hc'⟩ := hRd'.get (i := (max (findF key 0 G) 0).toNat) (List.getElem?_eq_some_iff.1 g1).1
    rw [g1] at hp
    have ep := Option.some.inj hp
    subst ep
    rw [g2, clamp_of _ (by omega)] at hc'
    obtain ⟨h38, n38⟩ := child_f38 (k := r.1) (by omega) hc' ((s + P.length : Nat) : Int)
    have cm : ((s' + P2.length : Nat) : Int) < ((s + P.length : Nat) : Int) := by omega
    rw [decide_eq_true cm] at n38
    rw [X_loop, X_eq f29_3.eq_1]
    simp only [go_sem, Nat.reduceLT, Nat.reduceEqDiff, reduceCtorEq, Int.reduceLT, Int.reduceEq, hs, e0, e7, ia, la]
    refine XO_callP (h1 := h) (by simp only [List.map, go_sem, Nat.reduceLT, Nat.reduceEqDiff, reduceCtorEq, Int.reduceLT, Int.reduceEq, hs]; exact a3.clos rfl) n24 r24 ?_
    simp only [go_sem, Nat.reduceLT, Nat.reduceEqDiff, reduceCtorEq, Int.reduceLT, Int.reduceEq, hs, show ((0 : Nat) : Int) = 0 from rfl, ne_eq, not_true_eq_false]
    have cN : ((n + 1 : Nat) : Int) > 0 := by omega
    have cL : ¬ ((eld.length : Nat) : Int) = 0 := by omega
    refine mid (P := fun st => st.h = h ∧ st.s.length = 84 ∧ st.s.getD 0 .undef = x ∧ st.s.getD 1 .undef = txt key ∧ st.s.getD 7 .undef = vi .i64 (s + P.length : Nat) ∧ st.s.getD 9 .undef = vi .i64 (n + 1 : Nat) ∧ st.s.getD 10 .undef = y ∧ st.s.getD 35 .undef = vb false) ?_ ?_
    · rw [X_eq f29_1.eq_1]
      rcases hw with rfl | rfl
      · have c0 : ¬ ((-1 : Int) ≥ 0) := by omega
        simp only [go_sem, Nat.reduceLT, Nat.reduceEqDiff, reduceCtorEq, Int.reduceLT, Int.reduceEq, hs, e8, c0, e0, e1, e7, cN, sd.ln, cL, true_and, and_self]
      · have c0 : (((n + 1 : Nat) : Int) ≥ 0) := by omega
        simp only [go_sem, Nat.reduceLT, Nat.reduceEqDiff, reduceCtorEq, Int.reduceLT, Int.reduceEq, hs, e8, c0, e0, e1, e7, cN, sd.ln, cL, ne_eq, not_true_eq_false, true_and, and_self]
    rintro ⟨s2, h2⟩ ⟨rfl, hs, e0, e1, e7, e9, e10, e35⟩
    simp only at hs e0 e1 e7 e9 e10 e35
    have z9 : ¬ ((n + 1 : Nat) : Int) = 0 := by omega
    have ia2 : iaO h2 2 y (vi .i64 (max (findF key 0 G) 0)) = some (.rptr [.sc (.string ⟨r.1.toArray⟩), c'], h2) := sd.ia (by omega) he
    have la2 : ldO h2 true 2 (.rptr [.sc (.string ⟨r.1.toArray⟩), c']) = some (.agg [txt r.1, .cv c'], h2) := ld_r_2
    have w9 : IntKind.i64.wrap (((n + 1 : Nat) : Int) - 1) = (n : Int) := by rw [IntWalk.i64_in _ (by omega)]; omega
    simp only [go_sem, Nat.reduceLT, Nat.reduceEqDiff, reduceCtorEq, Int.reduceLT, Int.reduceEq, hs, e35]
    refine XO_callP (h1 := h2) (by simp only [List.map, go_sem, Nat.reduceLT, Nat.reduceEqDiff, reduceCtorEq, Int.reduceLT, Int.reduceEq, hs, e10, e1]; exact sd.clos (clos_cv rfl)) n37 rfl ?_
    simp only [go_sem, Nat.reduceLT, Nat.reduceEqDiff, reduceCtorEq, Int.reduceLT, Int.reduceEq, hs]
    rw [X_eq f29_2.eq_1]
    simp only [go_sem, Nat.reduceLT, Nat.reduceEqDiff, reduceCtorEq, Int.reduceLT, Int.reduceEq, hs, e9, z9, e10, mmO_max, ia2, la2, e7]
    refine XO_callP (h1 := h2) (by simp only [List.map, go_sem, Nat.reduceLT, Nat.reduceEqDiff, reduceCtorEq, Int.reduceLT, Int.reduceEq, hs]; rfl) n38 rfl ?_
    simp only [go_sem, Nat.reduceLT, Nat.reduceEqDiff, reduceCtorEq, Int.reduceLT, Int.reduceEq, hs, e9, w9]
    exact ih s' l' P2 S2 G2 n _ h2 Q hL2 e2 d2 (.inr rfl) (by simp only [slot_len, hs]) (by simp only [go_sem, Nat.reduceLT, Nat.reduceEqDiff, reduceCtorEq, Int.reduceLT, Int.reduceEq, e0]) (by simp only [go_sem, Nat.reduceLT, Nat.reduceEqDiff, reduceCtorEq, Int.reduceLT, Int.reduceEq, e1]) (by simp only [go_sem, Nat.reduceLT, Nat.reduceEqDiff, reduceCtorEq, Int.reduceLT, Int.reduceEq, hs]) (by simp only [go_sem, Nat.reduceLT, Nat.reduceEqDiff, reduceCtorEq, Int.reduceLT, Int.reduceEq, hs]) hY hN

/-- What Get tells. -/
def GetP (l0 : List KV) (key : List UInt8) (w : VV) : Prop := (∃ r c', r ∈ l0 ∧ r.1 = key ∧ SlV 1 (eB r.2) (.cv c') ∧ w = .tup [.cv c', vb true, vi .u16 0]) ∨ ((∀ p ∈ l0, p.1 ≠ key) ∧ w = .tup [nilS, vb false, vi .u16 0])
theorem get_f29 (pE : PgE elsP res) (sx : SlV 1 elsP x) (hsrt : Srt l0) (hfit : FitsR l0) (hres : buildF l0 = some res) : RetP F 29 [x, txt key] (GetP l0 key) := by
  have : Ret F 29 [x, txt key] [] fun v g => ∃ w, closRes g v = some w ∧ GetP l0 key w := by
    refine call_E (fn := f29) rfl ?_
    simp only [f29]
    generalize hs0 : ([x, txt key] ++ List.replicate _ VV.undef : List VV) = s
    have hs : s.length = 84 := by rw [← hs0]; rfl
    have h0 : s.getD 0 .undef = x := by rw [← hs0]; rfl
    have h1 : s.getD 1 .undef = txt key := by rw [← hs0]; rfl
    clear hs0
    obtain ⟨nt, st, lt, G, hL, hG, hlen⟩ := build_lv hres
    have hrl := buildF_len hres
    have hpl := pE.len
    have c0 : ¬ ((elsP.length : Nat) : Int) = 0 := by omega
    have w1 : IntKind.i64.wrap (((elsP.length : Nat) : Int) - 1) = ((st + ([] : List (List KV)).length : Nat) : Int) := by rw [IntWalk.i64_in _ (by omega)]; simp only [List.length_nil]; omega
    simp only [go_sem, Nat.reduceLT, Nat.reduceEqDiff, reduceCtorEq, Int.reduceLT, Int.reduceEq, hs]
    rw [X_eq f29_0.eq_1]
    simp only [go_sem, Nat.reduceLT, Nat.reduceEqDiff, reduceCtorEq, Int.reduceLT, Int.reduceEq, hs, h0, sx.ln, c0, w1]
    refine f29_loop (key := key) pE sx hrl hsrt hfit nt st lt [] [] G (-1) _ _ _ hL (by rw [hG]; rfl) ⟨.inl rfl, by simp⟩ (.inl rfl) (by simp only [slot_len, hs]) (by simp only [go_sem, Nat.reduceLT, Nat.reduceEqDiff, reduceCtorEq, Int.reduceLT, Int.reduceEq, h0]) (by simp only [go_sem, Nat.reduceLT, Nat.reduceEqDiff, reduceCtorEq, Int.reduceLT, Int.reduceEq, h1]) (by simp only [go_sem, Nat.reduceLT, Nat.reduceEqDiff, reduceCtorEq, Int.reduceLT, Int.reduceEq, hs]) (by simp only [go_sem, Nat.reduceLT, Nat.reduceEqDiff, reduceCtorEq, Int.reduceLT, Int.reduceEq, hs]) (fun s' r c' a1 a2 a3 a4 a5 a6 a7 => ?_) (fun hn s' a1 a2 a3 a4 => ?_)
    · simp only [go_sem, Nat.reduceLT, Nat.reduceEqDiff, reduceCtorEq, Int.reduceLT, Int.reduceEq, a1, a5, a6, a7]
      exact ⟨_, rfl, .inl ⟨r, c', a2, a3, a4, rfl⟩⟩
    · simp only [go_sem, Nat.reduceLT, Nat.reduceEqDiff, reduceCtorEq, Int.reduceLT, Int.reduceEq, a1, a2, a3, a4]
      exact ⟨_, rfl, .inr ⟨hn, rfl⟩⟩
  obtain ⟨v, h', n1, w, c1, c2⟩ := this
  exact ⟨v, h', n1, w, c1, c2⟩
end
end Go.V06

set_option linter.unusedSimpArgs false
set_option linter.unusedVariables false
namespace Go.V06
open Go Go.Vm

/-! ### TreeBack -/
def anyK (l : List KV) (key : List UInt8) : Bool := l.any fun p => decide (p.1 = key)
theorem GetP.none {l0 : List KV} {key : List UInt8} {w : VV} (h : GetP l0 key w) (hk : anyK l0 key = false) : w = .tup [nilS, vb false, vi .u16 0] := by
  rcases h with ⟨r, c', h1, h2, _, _⟩ | ⟨_, h⟩
  · have : anyK l0 key = true := List.any_eq_true.2 ⟨r, h1, decide_eq_true h2⟩
    rw [this] at hk; cases hk
  · exact h
theorem srt_uniq {l : List KV} (h : Srt l) {p q : KV} (hp : p ∈ l) (hq : q ∈ l) (e : p.1 = q.1) : p = q := by
  obtain ⟨i, hi⟩ := List.mem_iff_getElem?.1 hp
  obtain ⟨j, hj⟩ := List.mem_iff_getElem?.1 hq
  rcases Nat.lt_trichotomy i j with h1 | h1 | h1
  · have := srt_at h h1 hi hj
    rw [e, bl_irrefl] at this; cases this
  · subst h1
    rw [hi] at hj
    exact Option.some.inj hj
  · have := srt_at h h1 hj hi
    rw [e, bl_irrefl] at this; cases this

section
variable {l : List KV} {els : List (List CV)} {u : VV} {res : List (List UInt8)} {elsP : List (List CV)} {x : VV} {key : List UInt8}
theorem f18_loop (hS : SlV 2 els u) (hR : RowsE els l) (pE : PgE elsP res) (sx : SlV 1 elsP x) (hsrt : Srt l) (hfit : FitsR l) (hlen : l.length ≤ 600) (hres : buildF l = some res) : ∀ (m i : Nat) (s : List VV) (h : Heap) (Q : Pst), i + m = l.length → s.length = 95 → s.getD 0 .undef = u → s.getD 1 .undef = txt key → s.getD 5 .undef = x → s.getD 9 .undef = vb (anyK (l.take i) key) → s.getD 10 .undef = vi .i64 i →
    (∀ s', s'.length = 95 → s'.getD 1 .undef = txt key → s'.getD 5 .undef = x → s'.getD 9 .undef = vb (anyK l key) → Q (.exit 0) ⟨s', h⟩) → X F (.loop f18_3) ⟨s, h⟩ Q := by
  intro m
  have hl := hR.len
  induction m with
  | zero =>
    intro i s h Q hi hs e0 e1 e5 e9 e10 hQ
    have c : ¬ ((i : Nat) : Int) < (els.length : Int) := by omega
    rw [X_loop, X_eq f18_3.eq_1]
    simp only [go_sem, Nat.reduceLT, Nat.reduceEqDiff, reduceCtorEq, Int.reduceLT, Int.reduceEq, hs, e10, e0, hS.ln, c]
    have ht : l.take i = l := List.take_of_length_le (by omega)
    rw [ht] at e9
    exact hQ _ (by simp only [slot_len, hs]) (by simp only [go_sem, Nat.reduceLT, Nat.reduceEqDiff, reduceCtorEq, Int.reduceLT, Int.reduceEq, e1]) (by simp only [go_sem, Nat.reduceLT, Nat.reduceEqDiff, reduceCtorEq, Int.reduceLT, Int.reduceEq, e5]) (by simp only [go_sem, Nat.reduceLT, Nat.reduceEqDiff, reduceCtorEq, Int.reduceLT, Int.reduceEq, e9])
  | succ m ih =>
    intro i s h Q hi hs e0 e1 e5 e9 e10 hQ
    have c : ((i : Nat) : Int) < (els.length : Int) := by omega
    obtain ⟨e, p, he, hp, c', rfl, hc'⟩ := hR.get (i := i) (by omega)
    have hpm : p ∈ l := List.mem_of_getElem? hp
    have ia : iaO h 2 u (vi .i64 (i : Int)) = some (.rptr [.sc (.string ⟨p.1.toArray⟩), c'], h) := hS.ia (by omega) (by rw [Int.toNat_natCast]; exact he)
    have la0 : ldO h false 1 (.rptr [.sc (.string ⟨p.1.toArray⟩), c']) = some (txt p.1, h) := ld_rptr
    have la1 : ldO h false 1 (.rptr [c']) = some (.cv c', h) := ld_rptr
    have fd0 : fdO 0 (.rptr [.sc (.string ⟨p.1.toArray⟩), c']) = some (.rptr [.sc (.string ⟨p.1.toArray⟩), c']) := rfl
    have fd1 : fdO 1 (.rptr [.sc (.string ⟨p.1.toArray⟩), c']) = some (.rptr [c']) := rfl
    have hwr : IntKind.i64.wrap ((i : Int) + 1) = ((i + 1 : Nat) : Int) := by rw [IntWalk.i64_in _ (by omega)]; omega
    obtain ⟨v29, h29, n29, w29, r29, q29⟩ := get_f29 (key := p.1) pE sx hsrt hfit hres
    obtain ⟨r, c2, r1, r2, r3, rfl⟩ : ∃ r c2, r ∈ l ∧ r.1 = p.1 ∧ SlV 1 (eB r.2) (.cv c2) ∧ w29 = .tup [.cv c2, vb true, vi .u16 0] := by
      rcases q29 with ⟨r, c2, a1, a2, a3, a4⟩ | ⟨a1, _⟩
      · exact ⟨r, c2, a1, a2, a3, a4⟩
      · exact absurd rfl (a1 p hpm)
    have er := srt_uniq hsrt r1 hpm r2
    subst er
    have nq : ∀ a : List UInt8, binO .neq (txt a) (txt a) = some (vb false) := by
      intro a; simp [binO, binV]
    have hany : anyK (l.take (i + 1)) key = (anyK (l.take i) key || decide (r.1 = key)) := by
      have : l.take (i + 1) = l.take i ++ [r] := by rw [List.take_add_one, hp]; rfl
      unfold anyK
      rw [this, List.any_append]; simp
    rw [X_loop, X_eq f18_3.eq_1]
    simp only [go_sem, Nat.reduceLT, Nat.reduceEqDiff, reduceCtorEq, Int.reduceLT, Int.reduceEq, hs, e10, e0, hS.ln, c, e5, ia, fd0, la0]
    refine XO_callP (h1 := h) (by simp only [List.map, go_sem, Nat.reduceLT, Nat.reduceEqDiff, reduceCtorEq, Int.reduceLT, Int.reduceEq, hs]; exact sx.clos (clos_cv rfl)) n29 r29 ?_
    simp only [go_sem, Nat.reduceLT, Nat.reduceEqDiff, reduceCtorEq, Int.reduceLT, Int.reduceEq, hs]
    rw [X_eq f18_2.eq_1]
    simp only [go_sem, Nat.reduceLT, Nat.reduceEqDiff, reduceCtorEq, Int.reduceLT, Int.reduceEq, hs]
    refine X_draw rfl ?_
    simp only [go_sem, Nat.reduceLT, Nat.reduceEqDiff, reduceCtorEq, Int.reduceLT, Int.reduceEq, hs, e0, e10, ia, fd1, la1, r3.bs, hc'.bs, nq, ne_eq, not_true_eq_false]
    cases hb : anyK (l.take i) key with
    | true =>
      rw [hb] at e9
      simp only [go_sem, Nat.reduceLT, Nat.reduceEqDiff, reduceCtorEq, Int.reduceLT, Int.reduceEq, hs, e9, e10, hwr]
      exact ih (i + 1) _ h Q (by omega) (by simp only [slot_len, hs]) (by simp only [go_sem, Nat.reduceLT, Nat.reduceEqDiff, reduceCtorEq, Int.reduceLT, Int.reduceEq, e0]) (by simp only [go_sem, Nat.reduceLT, Nat.reduceEqDiff, reduceCtorEq, Int.reduceLT, Int.reduceEq, e1]) (by simp only [go_sem, Nat.reduceLT, Nat.reduceEqDiff, reduceCtorEq, Int.reduceLT, Int.reduceEq, e5]) (by simp only [go_sem, Nat.reduceLT, Nat.reduceEqDiff, reduceCtorEq, Int.reduceLT, Int.reduceEq, hs]; rw [hany, hb]; rfl) (by simp only [go_sem, Nat.reduceLT, Nat.reduceEqDiff, reduceCtorEq, Int.reduceLT, Int.reduceEq, hs]) hQ
    | false =>
      rw [hb] at e9
      simp only [go_sem, Nat.reduceLT, Nat.reduceEqDiff, reduceCtorEq, Int.reduceLT, Int.reduceEq, hs, e9, e10, e0, e1, ia, fd0, la0, bo_eql, hwr]
      exact ih (i + 1) _ h Q (by omega) (by simp only [slot_len, hs]) (by simp only [go_sem, Nat.reduceLT, Nat.reduceEqDiff, reduceCtorEq, Int.reduceLT, Int.reduceEq, e0]) (by simp only [go_sem, Nat.reduceLT, Nat.reduceEqDiff, reduceCtorEq, Int.reduceLT, Int.reduceEq, e1]) (by simp only [go_sem, Nat.reduceLT, Nat.reduceEqDiff, reduceCtorEq, Int.reduceLT, Int.reduceEq, e5]) (by simp only [go_sem, Nat.reduceLT, Nat.reduceEqDiff, reduceCtorEq, Int.reduceLT, Int.reduceEq, hs]; rw [hany, hb]; rfl) (by simp only [go_sem, Nat.reduceLT, Nat.reduceEqDiff, reduceCtorEq, Int.reduceLT, Int.reduceEq, hs]) hQ

theorem back_f18 (hS : SlV 2 els u) (hR : RowsE els l) (hsrt : Srt l) (hfit : FitsR l) (hlen : l.length ≤ 600) (key : List UInt8) : ∃ h', call F 18 [u, txt key] [] = some (.ret (vb true), h') := by
  have : Ret F 18 [u, txt key] [] fun v h' => v = vb true := by
    refine call_E (fn := f18) rfl ?_
    simp only [f18]
    generalize hs0 : ([u, txt key] ++ List.replicate _ VV.undef : List VV) = s
    have hs : s.length = 95 := by rw [← hs0]; rfl
    have h0 : s.getD 0 .undef = u := by rw [← hs0]; rfl
    have h1 : s.getD 1 .undef = txt key := by rw [← hs0]; rfl
    clear hs0
    obtain ⟨res, hres⟩ := build_some hsrt hlen hfit
    obtain ⟨v13, h13, n13, w13, r13, q13⟩ := build_pure hS hR (by omega)
    rw [hres] at q13
    obtain ⟨x, elsP, rfl, sx, pE⟩ := q13
    obtain ⟨v14, h14, n14, w14, r14, y, els2, rfl, sy, hR2⟩ := rows_f14 pE sx (buildF_len hres) (fun b hb => by rw [build_256 hres b hb]; omega)
    rw [rows_build hres] at r14 hR2
    obtain ⟨v17, h17, n17, e17⟩ := same_f17 els els2 l u y hS sy hR hR2 (by omega) []
    obtain ⟨v29, h29, n29, w29, r29, q29⟩ := get_f29 (key := key) pE sx hsrt hfit hres
    simp only [go_sem, Nat.reduceLT, Nat.reduceEqDiff, reduceCtorEq, Int.reduceLT, Int.reduceEq, hs, h0]
    refine XO_callP (h1 := []) (by simp only [List.map, go_sem, Nat.reduceLT, Nat.reduceEqDiff, reduceCtorEq, Int.reduceLT, Int.reduceEq, hs]; exact hS.clos rfl) n13 r13 ?_
    simp only [go_sem, Nat.reduceLT, Nat.reduceEqDiff, reduceCtorEq, Int.reduceLT, Int.reduceEq, hs]
    rw [X_eq f18_0.eq_1]
    simp only [go_sem, Nat.reduceLT, Nat.reduceEqDiff, reduceCtorEq, Int.reduceLT, Int.reduceEq, hs]
    refine XO_callP (h1 := []) (by simp only [List.map, go_sem, Nat.reduceLT, Nat.reduceEqDiff, reduceCtorEq, Int.reduceLT, Int.reduceEq, hs]; exact sx.clos rfl) n14 r14 ?_
    simp only [go_sem, Nat.reduceLT, Nat.reduceEqDiff, reduceCtorEq, Int.reduceLT, Int.reduceEq, hs]
    rw [X_eq f18_1.eq_1]
    simp only [go_sem, Nat.reduceLT, Nat.reduceEqDiff, reduceCtorEq, Int.reduceLT, Int.reduceEq, hs, h0, show ((0 : Nat) : Int) = 0 from rfl, ne_eq, not_true_eq_false]
    have e17' : v17 = vb true := e17
    subst e17'
    refine XO_callP (h1 := []) (by simp only [List.map, go_sem, Nat.reduceLT, Nat.reduceEqDiff, reduceCtorEq, Int.reduceLT, Int.reduceEq, hs]; exact hS.clos (sy.clos rfl)) n17 rfl ?_
    simp only [go_sem, Nat.reduceLT, Nat.reduceEqDiff, reduceCtorEq, Int.reduceLT, Int.reduceEq, hs]
    refine f18_loop (key := key) hS hR pE sx hsrt hfit hlen hres l.length 0 _ _ _ (by omega) (by simp only [slot_len, hs]) (by simp only [go_sem, Nat.reduceLT, Nat.reduceEqDiff, reduceCtorEq, Int.reduceLT, Int.reduceEq, h0]) (by simp only [go_sem, Nat.reduceLT, Nat.reduceEqDiff, reduceCtorEq, Int.reduceLT, Int.reduceEq, h1]) (by simp only [go_sem, Nat.reduceLT, Nat.reduceEqDiff, reduceCtorEq, Int.reduceLT, Int.reduceEq, hs]) (by simp only [go_sem, Nat.reduceLT, Nat.reduceEqDiff, reduceCtorEq, Int.reduceLT, Int.reduceEq, hs]; rfl) (by simp only [go_sem, Nat.reduceLT, Nat.reduceEqDiff, reduceCtorEq, Int.reduceLT, Int.reduceEq, hs]; rfl) (fun s' hs' a1 a5 a9 => ?_)
    simp only [go_sem, Nat.reduceLT, Nat.reduceEqDiff, reduceCtorEq, Int.reduceLT, Int.reduceEq, hs', a5, a1]
    refine XO_callP (h1 := []) (by simp only [List.map, go_sem, Nat.reduceLT, Nat.reduceEqDiff, reduceCtorEq, Int.reduceLT, Int.reduceEq, hs']; exact sx.clos (clos_cv rfl)) n29 r29 ?_
    rcases q29 with ⟨r, c2, b1, b2, b3, rfl⟩ | ⟨b1, rfl⟩
    · have hany : anyK l key = true := List.any_eq_true.2 ⟨r, b1, decide_eq_true b2⟩
      rw [hany] at a9
      simp only [go_sem, Nat.reduceLT, Nat.reduceEqDiff, reduceCtorEq, Int.reduceLT, Int.reduceEq, hs', a9, eqb_eq, beq_self_eq_true]
    · have hany : anyK l key = false := by
        cases hb : anyK l key with
        | false => rfl
        | true =>
          obtain ⟨p, hp, hk⟩ := List.any_eq_true.1 hb
          exact absurd (of_decide_eq_true hk) (b1 p hp)
      rw [hany] at a9
      simp only [go_sem, Nat.reduceLT, Nat.reduceEqDiff, reduceCtorEq, Int.reduceLT, Int.reduceEq, hs', a9, eqb_eq, beq_self_eq_true]
  obtain ⟨v, h', e1, rfl⟩ := this
  exact ⟨h', e1⟩
end

theorem law_back {c : List UInt8} {vc : VV} (hc : SlV 1 (eB c) vc) (n size : UInt8) (key : List UInt8) : ∃ h', call F 7 [vc, vi .u8 n.toNat, vi .u8 size.toNat, txt key] [] = some (.ret (vb true), h') := by
  have : Ret F 7 [vc, vi .u8 n.toNat, vi .u8 size.toNat, txt key] [] fun v h' => v = vb true := by
    refine call_E (fn := f7) rfl ?_
    simp only [f7]
    generalize hs0 : ([vc, vi .u8 n.toNat, vi .u8 size.toNat, txt key] ++ List.replicate _ VV.undef : List VV) = s
    have hs : s.length = 30 := by rw [← hs0]; rfl
    have h0 : s.getD 0 .undef = vc := by rw [← hs0]; rfl
    have h1 : s.getD 1 .undef = vi .u8 n.toNat := by rw [← hs0]; rfl
    have h2 : s.getD 2 .undef = vi .u8 size.toNat := by rw [← hs0]; rfl
    have h3 : s.getD 3 .undef = txt key := by rw [← hs0]; rfl
    clear hs0
    obtain ⟨h8', n8⟩ := known_f8
    have hn8 := n.toNat_lt
    have hs8 := size.toNat_lt
    obtain ⟨v10, h10, n10, w10, r10, els10, sl10, R10⟩ := rising_pure hc (n := 60) (by omega)
    have n10' : call F 10 [vc, vi .i64 60] [] = some (.ret v10, h10) := n10
    obtain ⟨v12, h12, n12, w12, r12, els12, sl12, R12⟩ := many_f12 (n := n.toNat) (size := size.toNat % 120) (by omega) (by omega)
    obtain ⟨ha, na⟩ := back_f18 sl10 R10 (risL_srt 60 c) (risL_fits 60 c) (by have := risL_len 60 c; omega) key
    obtain ⟨hb, nb⟩ := back_f18 sl12 R12 (manyL_srt _ _ (by omega)) (manyL_fits _ _ (by omega)) (by rw [many_len]; omega) key
    have z120 : (120 : Int) ≠ 0 := by decide
    have e1 : IntKind.i64.wrap (n.toNat : Int) = ((n.toNat : Nat) : Int) := IntWalk.i64_in _ (by omega)
    have e2 : IntKind.i64.wrap ((size.toNat : Int).tmod 120) = ((size.toNat % 120 : Nat) : Int) := by
      have e : (size.toNat : Int).tmod 120 = ((size.toNat % 120 : Nat) : Int) := rfl
      rw [e]; exact IntWalk.i64_in _ (by omega)
    simp only [go_sem, Nat.reduceLT, Nat.reduceEqDiff, reduceCtorEq, Int.reduceLT, Int.reduceEq, hs]
    rw [X_eq f7_0.eq_1]
    by_cases d : 40 < key.length
    · have d' : ((key.length : Nat) : Int) > 40 := by omega
      simp only [go_sem, Nat.reduceLT, Nat.reduceEqDiff, reduceCtorEq, Int.reduceLT, Int.reduceEq, hs, h3, d']
      refine XO_callP (h1 := []) (by simp only [List.map]; rfl) n8 rfl ?_
      simp only [go_sem, Nat.reduceLT, Nat.reduceEqDiff, reduceCtorEq, Int.reduceLT, Int.reduceEq, hs]
    · have d' : ¬ ((key.length : Nat) : Int) > 40 := by omega
      simp only [go_sem, Nat.reduceLT, Nat.reduceEqDiff, reduceCtorEq, Int.reduceLT, Int.reduceEq, hs, h3, d', h0]
      refine XO_callP (h1 := []) (by simp only [List.map, go_sem, Nat.reduceLT, Nat.reduceEqDiff, reduceCtorEq, Int.reduceLT, Int.reduceEq, hs]; exact hc.clos rfl) n10' r10 ?_
      simp only [go_sem, Nat.reduceLT, Nat.reduceEqDiff, reduceCtorEq, Int.reduceLT, Int.reduceEq, hs, h3]
      refine XO_callP (h1 := []) (by simp only [List.map, go_sem, Nat.reduceLT, Nat.reduceEqDiff, reduceCtorEq, Int.reduceLT, Int.reduceEq, hs]; exact sl10.clos (clos_cv rfl)) na rfl ?_
      simp only [go_sem, Nat.reduceLT, Nat.reduceEqDiff, reduceCtorEq, Int.reduceLT, Int.reduceEq, hs, h1, h2, bin_rem z120, e1, e2]
      refine XO_callP (h1 := []) (by simp only [List.map, go_sem, Nat.reduceLT, Nat.reduceEqDiff, reduceCtorEq, Int.reduceLT, Int.reduceEq, hs]; rfl) n12 r12 ?_
      simp only [go_sem, Nat.reduceLT, Nat.reduceEqDiff, reduceCtorEq, Int.reduceLT, Int.reduceEq, hs, h3]
      refine XO_callP (h1 := []) (by simp only [List.map, go_sem, Nat.reduceLT, Nat.reduceEqDiff, reduceCtorEq, Int.reduceLT, Int.reduceEq, hs]; exact sl12.clos (clos_cv rfl)) nb rfl ?_
      simp only [go_sem, Nat.reduceLT, Nat.reduceEqDiff, reduceCtorEq, Int.reduceLT, Int.reduceEq, hs]
      refine XO_callP (h1 := []) (by simp only [List.map]; rfl) n8 rfl ?_
      simp only [go_sem, Nat.reduceLT, Nat.reduceEqDiff, reduceCtorEq, Int.reduceLT, Int.reduceEq, hs]
  obtain ⟨v, h', e1, rfl⟩ := this
  exact ⟨h', e1⟩
theorem back_in {H : Type} {d0 d1 d2 d3 : DataW H} {u0 u1 u2 u3 : VV} (h0 : DV Proofs.Try.prog 23 d0 u0) (h1 : DV Proofs.Try.prog 5 d1 u1) (h2 : DV Proofs.Try.prog 5 d2 u2) (h3 : DV Proofs.Try.prog 9 d3 u3) : ∃ h', call F 7 [u0, u1, u2, u3] [] = some (.ret (vb true), h') := by
  obtain ⟨c, hc, _⟩ := DV_bytes (e := 5) (by kernel_rfl) (by kernel_rfl) (by kernel_rfl) h0
  obtain ⟨n, rfl⟩ := DV_u8 (by kernel_rfl) h1
  obtain ⟨k, rfl⟩ := DV_u8 (by kernel_rfl) h2
  obtain ⟨s, rfl, _⟩ := DV_str (by kernel_rfl) h3
  exact law_back hc n k s
end Go.V06
