/- Part of a proof: of what it says, and when, each theorem tells itself. -/
import Derived.Test.YtjggjjplnbjcpaaC06All6
set_option linter.unusedSimpArgs false
set_option linter.unusedVariables false
namespace Go.V06
open Go Go.Vm

theorem layF_len (l : List KV) (r : KV) : (layF l r).length ≤ l.length + 2 := by
  have := layS_len r l false
  unfold layF
  split
  · omega
  · simp; omega
/-- Rows, as choices say, by rising keys. -/
def risL (n : Nat) (c : List UInt8) : List KV := (rowL n c).foldl layF []

theorem f10_loop {h0 : Heap} {L : List KV} {elsL : List (List CV)} {lv : VV} (hL : SlV 2 elsL lv) (hR : RowsE elsL L) (hn : L.length ≤ 1000) : ∀ (m i : Nat) (acc : List KV) (els : List (List CV)) (va : VV) (hh : Heap) (s : List VV) (g : Heap) (Q : Pst), i + m = L.length → acc.length ≤ 2 * i → HExt h0 hh → NB hh g 2 els va → RowsE els acc →
    s.length = 24 → s.getD 5 .undef = lv → s.getD 6 .undef = va → s.getD 7 .undef = vi .i64 i →
    (∀ s' g' hh els' va', s'.length = 24 → s'.getD 6 .undef = va' → HExt h0 hh → NB hh g' 2 els' va' → RowsE els' ((L.drop i).foldl layF acc) → Q (.exit 0) ⟨s', g'⟩) → X F (.loop f10_0) ⟨s, g⟩ Q := by
  intro m
  have hl := hR.len
  induction m with
  | zero =>
    intro i acc els va hh s g Q hi hac hx hA hRA hs e5 e6 e7 hQ
    have c : ¬ ((i : Nat) : Int) < (elsL.length : Int) := by omega
    rw [X_loop, X_eq f10_0.eq_1]
    simp only [go_sem, Nat.reduceLT, Nat.reduceEqDiff, reduceCtorEq, Int.reduceLT, Int.reduceEq, hs, e7, e5, hL.ln, c]
    have hd : L.drop i = [] := List.drop_eq_nil_of_le (by omega)
    rw [hd] at hQ
    exact hQ _ _ hh els va (by simp only [slot_len, hs]) (by simp only [go_sem, Nat.reduceLT, Nat.reduceEqDiff, reduceCtorEq, Int.reduceLT, Int.reduceEq, e6]) hx hA hRA
  | succ m ih =>
    intro i acc els va hh s g Q hi hac hx hA hRA hs e5 e6 e7 hQ
    have c : ((i : Nat) : Int) < (elsL.length : Int) := by omega
    obtain ⟨e, p, he, hp, c', rfl, hc'⟩ := hR.get (i := i) (by omega)
    have hd : L.drop i = p :: L.drop (i + 1) := by
      obtain ⟨la, rfl⟩ := List.getElem?_eq_some_iff.1 hp
      rw [List.drop_eq_getElem_cons la]
    rw [hd, List.foldl_cons] at hQ
    have ia : iaO g 2 lv (vi .i64 (i : Int)) = some (.rptr [.sc (.string ⟨p.1.toArray⟩), c'], g) := hL.ia (by omega) (by rw [Int.toNat_natCast]; exact he)
    have la2 : ldO g true 2 (.rptr [.sc (.string ⟨p.1.toArray⟩), c']) = some (.agg [txt p.1, .cv c'], g) := ld_r_2
    have hwr : IntKind.i64.wrap ((i : Int) + 1) = ((i + 1 : Nat) : Int) := by rw [IntWalk.i64_in _ (by omega)]; omega
    obtain ⟨v22, g2, n22, hh2, els2, x2, hB2, hRB2⟩ := lay_f22 hA.vf hRA (by omega) hc'
    have hlen := layF_len acc p
    rw [X_loop, X_eq f10_0.eq_1]
    simp only [go_sem, Nat.reduceLT, Nat.reduceEqDiff, reduceCtorEq, Int.reduceLT, Int.reduceEq, hs, e7, e5, e6, hL.ln, c, ia, la2]
    refine XO_callR (by simp only [List.map, go_sem, Nat.reduceLT, Nat.reduceEqDiff, reduceCtorEq, Int.reduceLT, Int.reduceEq, hs]; exact n22) ?_
    simp only [go_sem, Nat.reduceLT, Nat.reduceEqDiff, reduceCtorEq, Int.reduceLT, Int.reduceEq, hs, e7, hwr]
    exact ih (i + 1) (layF acc p) els2 v22 hh2 _ _ Q (by omega) (by omega) ((hx.trans hA.ext).trans x2) hB2 hRB2 (by simp only [slot_len, hs]) (by simp only [go_sem, Nat.reduceLT, Nat.reduceEqDiff, reduceCtorEq, Int.reduceLT, Int.reduceEq, e5]) (by simp only [go_sem, Nat.reduceLT, Nat.reduceEqDiff, reduceCtorEq, Int.reduceLT, Int.reduceEq, hs]) (by simp only [go_sem, Nat.reduceLT, Nat.reduceEqDiff, reduceCtorEq, Int.reduceLT, Int.reduceEq, hs]) hQ

theorem rising_f10 {h : Heap} {c : List UInt8} {vc : VV} (hc : SlV 1 (eB c) vc) {n : Nat} (hn : n ≤ 60) : Ret F 10 [vc, vi .i64 n] h fun v g => ∃ hh els, HExt h hh ∧ NB hh g 2 els v ∧ RowsE els (risL n c) := by
  refine call_E (fn := f10) rfl ?_
  simp only [f10]
  generalize hs0 : ([vc, vi .i64 n] ++ List.replicate _ VV.undef : List VV) = s
  have hs : s.length = 24 := by rw [← hs0]; rfl
  have h0 : s.getD 0 .undef = vc := by rw [← hs0]; rfl
  have h1 : s.getD 1 .undef = vi .i64 n := by rw [← hs0]; rfl
  clear hs0
  obtain ⟨v11, h11, els11, n11, r11, R11⟩ := list_pure c vc hc n hn
  have hlen : (rowL n c).length ≤ n := rowL_len n c
  simp only [go_sem, Nat.reduceLT, Nat.reduceEqDiff, reduceCtorEq, Int.reduceLT, Int.reduceEq, hs, h0, h1]
  refine XO_callP (h1 := h) (by simp only [List.map, go_sem, Nat.reduceLT, Nat.reduceEqDiff, reduceCtorEq, Int.reduceLT, Int.reduceEq, hs]; exact hc.clos (clos_cv clos_nil)) n11 r11 ?_
  simp only [go_sem, Nat.reduceLT, Nat.reduceEqDiff, reduceCtorEq, Int.reduceLT, Int.reduceEq, hs]
  refine f10_loop (h0 := h) slV_SlV R11 (by omega) (rowL n c).length 0 [] [] nilS h _ _ _ (by omega) (by simp) (HExt.refl h) (NB.nil _ _) .nil (by simp only [slot_len, hs]) (by simp only [go_sem, Nat.reduceLT, Nat.reduceEqDiff, reduceCtorEq, Int.reduceLT, Int.reduceEq, hs]) (by simp only [go_sem, Nat.reduceLT, Nat.reduceEqDiff, reduceCtorEq, Int.reduceLT, Int.reduceEq, hs]) (by simp only [go_sem, Nat.reduceLT, Nat.reduceEqDiff, reduceCtorEq, Int.reduceLT, Int.reduceEq, hs]; rfl) (fun s' g' hh els' va' a1 a2 a3 a4 a5 => ?_)
  simp only [go_sem, Nat.reduceLT, Nat.reduceEqDiff, reduceCtorEq, Int.reduceLT, Int.reduceEq, a1, a2]
  exact ⟨hh, els', a3, a4, a5⟩
theorem rising_pure {c : List UInt8} {vc : VV} (hc : SlV 1 (eB c) vc) {n : Nat} (hn : n ≤ 60) : RetP F 10 [vc, vi .i64 n] fun w => ∃ els, SlV 2 els w ∧ RowsE els (risL n c) := by
  obtain ⟨v, g, n1, hh, els, _, b, R⟩ := rising_f10 (h := []) hc hn
  obtain ⟨w, c1, c2⟩ := b.res
  exact ⟨v, g, n1, w, c1, els, c2, R⟩
end Go.V06

set_option linter.unusedSimpArgs false
set_option linter.unusedVariables false
namespace Go.V06
open Go Go.Vm

def manyK (i : Nat) : List UInt8 := [u8 (97 + i / 676), u8 (97 + i / 26 % 26), u8 (97 + i % 26)]
def manyL (n size : Nat) : List KV := (List.range n).map fun i => (manyK i, List.replicate size (u8 i))

theorem f12_fill (i : Nat) (hi : i ≤ 255) (h0 : Heap) : ∀ (d k : Nat) (vl : List UInt8) (s : List VV) (Q : Pst),
    vl.length = k + d → vl.length ≤ 200 → (∀ j, j < k → vl[j]? = some (u8 i)) → s.length = 48 → s.getD 6 .undef = vi .i64 i → s.getD 7 .undef = .own h0.length 0 0 vl.length true → s.getD 8 .undef = vi .i64 k →
    (∀ s', s'.length = 48 → s'.getD 0 .undef = s.getD 0 .undef → s'.getD 1 .undef = s.getD 1 .undef → s'.getD 5 .undef = s.getD 5 .undef → s'.getD 6 .undef = s.getD 6 .undef → s'.getD 7 .undef = s.getD 7 .undef → Q (.exit 2) ⟨s', h0 ++ [.arr 1 (eB (List.replicate vl.length (u8 i))) 0 false]⟩) →
    X F (.loop f12_0) ⟨s, h0 ++ [.arr 1 (eB vl) 0 false]⟩ Q := by
  intro d
  induction d with
  | zero =>
    intro k vl s Q hl hl2 hv hs h6 h7 h8 hQ
    rw [X_loop, X_eq f12_0.eq_1]
    have hlt : ¬ (k : Int) < (vl.length : Int) := by omega
    have e : vl = List.replicate vl.length (u8 i) := by
      apply List.ext_getElem?
      intro j
      by_cases hj : j < k
      · rw [hv j hj, List.getElem?_replicate, if_pos (by omega)]
      · rw [List.getElem?_eq_none (by omega), List.getElem?_eq_none (by rw [List.length_replicate]; omega)]
    rw [← e] at hQ
    simp only [go_sem, Nat.reduceLT, Nat.reduceEqDiff, reduceCtorEq, Int.reduceLT, Int.reduceEq, hs, h7, h8, hlt]
    exact hQ _ (by simp only [slot_len, hs]) (by simp only [go_sem, Nat.reduceLT, Nat.reduceEqDiff, reduceCtorEq, Int.reduceLT, Int.reduceEq]) (by simp only [go_sem, Nat.reduceLT, Nat.reduceEqDiff, reduceCtorEq, Int.reduceLT, Int.reduceEq]) (by simp only [go_sem, Nat.reduceLT, Nat.reduceEqDiff, reduceCtorEq, Int.reduceLT, Int.reduceEq]) (by simp only [go_sem, Nat.reduceLT, Nat.reduceEqDiff, reduceCtorEq, Int.reduceLT, Int.reduceEq]) (by simp only [go_sem, Nat.reduceLT, Nat.reduceEqDiff, reduceCtorEq, Int.reduceLT, Int.reduceEq])
  | succ d ih =>
    intro k vl s Q hl hl2 hv hs h6 h7 h8 hQ
    rw [X_loop, X_eq f12_0.eq_1]
    have hlt : (k : Int) < (vl.length : Int) := by omega
    have e2 : IntKind.i64.wrap ((k : Int) + 1) = ((k + 1 : Nat) : Int) := by rw [IntWalk.i64_in _ (by omega)]; omega
    have e3 : IntKind.u8.wrap (i : Int) = (((u8 i).toNat : Nat) : Int) := by
      rw [u8_toNat _ (by omega), wrap_u8_nat]; omega
    simp only [go_sem, Nat.reduceLT, Nat.reduceEqDiff, reduceCtorEq, Int.reduceLT, Int.reduceEq, hs, h6, h7, h8, hlt, e3]
    rw [ia_last (by omega)]
    simp only [go_sem, Nat.reduceLT, Nat.reduceEqDiff, reduceCtorEq, Int.reduceLT, Int.reduceEq, hs, h6, h7, h8, e3]
    rw [st_last (by omega)]
    simp only [go_sem, Nat.reduceLT, Nat.reduceEqDiff, reduceCtorEq, Int.reduceLT, Int.reduceEq, hs, h6, h7, h8, e2]
    have hl3 : (vl.set k (u8 i)).length = vl.length := List.length_set
    rw [← hl3] at hQ
    refine ih (k + 1) _ _ Q (by rw [hl3]; omega) (by rw [hl3]; omega) ?_ (by simp only [slot_len, hs]) (by simp only [go_sem, Nat.reduceLT, Nat.reduceEqDiff, reduceCtorEq, Int.reduceLT, Int.reduceEq, h6]) (by simp only [go_sem, Nat.reduceLT, Nat.reduceEqDiff, reduceCtorEq, Int.reduceLT, Int.reduceEq, h7, hl3]) (by simp only [go_sem, Nat.reduceLT, Nat.reduceEqDiff, reduceCtorEq, Int.reduceLT, Int.reduceEq, hs]) ?_
    · intro j hj
      by_cases hjk : j = k
      · subst hjk
        rw [List.getElem?_set_self (by omega)]
      · rw [List.getElem?_set_ne (by omega)]
        exact hv j (by omega)
    · intro s' hs' a0 a1 a5 a6 a7
      exact hQ s' hs' (by rw [a0]; simp only [go_sem, Nat.reduceLT, Nat.reduceEqDiff, reduceCtorEq, Int.reduceLT, Int.reduceEq]) (by rw [a1]; simp only [go_sem, Nat.reduceLT, Nat.reduceEqDiff, reduceCtorEq, Int.reduceLT, Int.reduceEq]) (by rw [a5]; simp only [go_sem, Nat.reduceLT, Nat.reduceEqDiff, reduceCtorEq, Int.reduceLT, Int.reduceEq]) (by rw [a6]; simp only [go_sem, Nat.reduceLT, Nat.reduceEqDiff, reduceCtorEq, Int.reduceLT, Int.reduceEq]) (by rw [a7]; simp only [go_sem, Nat.reduceLT, Nat.reduceEqDiff, reduceCtorEq, Int.reduceLT, Int.reduceEq])

theorem many_snoc (i size : Nat) : manyL (i + 1) size = manyL i size ++ [(manyK i, List.replicate size (u8 i))] := by
  unfold manyL; rw [List.range_succ, List.map_append]; rfl
theorem many_len (n size : Nat) : (manyL n size).length = n := by simp [manyL]

theorem f12_loop {n size : Nat} (hn : n ≤ 255) (hz : size ≤ 160) : ∀ (m i : Nat) (els : List (List CV)) (v : VV) (s : List VV) (h : Heap) (Q : Pst), i + m = n → BufG h 2 els v → RowsE els (manyL i size) → s.length = 48 → s.getD 0 .undef = vi .i64 n → s.getD 1 .undef = vi .i64 size → s.getD 5 .undef = v → s.getD 6 .undef = vi .i64 i →
    (∀ s' h' els' v', s'.length = 48 → s'.getD 5 .undef = v' → BufG h' 2 els' v' → RowsE els' (manyL n size) → Q (.exit 0) ⟨s', h'⟩) → X F (.loop f12_1) ⟨s, h⟩ Q := by
  intro m
  induction m with
  | zero =>
    intro i els v s h Q hi hb hR hs e0 e1 e5 e6 hQ
    have c : ¬ ((i : Nat) : Int) < (n : Int) := by omega
    rw [X_loop, X_eq f12_1.eq_1]
    simp only [go_sem, Nat.reduceLT, Nat.reduceEqDiff, reduceCtorEq, Int.reduceLT, Int.reduceEq, hs, e6, e0, c]
    have : i = n := by omega
    subst this
    exact hQ _ _ els v (by simp only [slot_len, hs]) (by simp only [go_sem, Nat.reduceLT, Nat.reduceEqDiff, reduceCtorEq, Int.reduceLT, Int.reduceEq, e5]) hb hR
  | succ m ih =>
    intro i els v s h Q hi hb hR hs e0 e1 e5 e6 hQ
    have c : ((i : Nat) : Int) < (n : Int) := by omega
    have hl := hR.len
    rw [many_len] at hl
    have hwr : IntKind.i64.wrap ((i : Int) + 1) = ((i + 1 : Nat) : Int) := by rw [IntWalk.i64_in _ (by omega)]; omega
    rw [X_loop, X_eq f12_1.eq_1]
    simp only [go_sem, Nat.reduceLT, Nat.reduceEqDiff, reduceCtorEq, Int.reduceLT, Int.reduceEq, hs, e6, e0, e1, c]
    refine XO_mks (k := .i64) (k' := .i64) (a := size) (by simp only [go_sem, Nat.reduceLT, Nat.reduceEqDiff, reduceCtorEq, Int.reduceLT, Int.reduceEq, hs]) (by simp only [go_sem, Nat.reduceLT, Nat.reduceEqDiff, reduceCtorEq, Int.reduceLT, Int.reduceEq, hs]) (by omega) (by omega) ?_
    rw [eB_replicate]
    simp only [go_sem, Nat.reduceLT, Nat.reduceEqDiff, reduceCtorEq, Int.reduceLT, Int.reduceEq, hs]
    have hrep : (List.replicate size (0 : UInt8)).length = size := List.length_replicate
    refine f12_fill i (by omega) h size 0 (List.replicate size 0) _ _ (by rw [hrep]; omega) (by rw [hrep]; omega) (fun j hj => by omega) (by simp only [slot_len, hs]) (by simp only [go_sem, Nat.reduceLT, Nat.reduceEqDiff, reduceCtorEq, Int.reduceLT, Int.reduceEq, e6]) (by simp only [go_sem, Nat.reduceLT, Nat.reduceEqDiff, reduceCtorEq, Int.reduceLT, Int.reduceEq, hs, hrep]) (by simp only [go_sem, Nat.reduceLT, Nat.reduceEqDiff, reduceCtorEq, Int.reduceLT, Int.reduceEq, hs]; rfl) ?_
    intro s' hs' a0 a1 a5 a6 a7
    have b0 : s'.getD 0 .undef = vi .i64 n := by rw [a0]; simp only [go_sem, Nat.reduceLT, Nat.reduceEqDiff, reduceCtorEq, Int.reduceLT, Int.reduceEq, e0]
    have b1 : s'.getD 1 .undef = vi .i64 size := by rw [a1]; simp only [go_sem, Nat.reduceLT, Nat.reduceEqDiff, reduceCtorEq, Int.reduceLT, Int.reduceEq, e1]
    have b5 : s'.getD 5 .undef = v := by rw [a5]; simp only [go_sem, Nat.reduceLT, Nat.reduceEqDiff, reduceCtorEq, Int.reduceLT, Int.reduceEq, e5]
    have b6 : s'.getD 6 .undef = vi .i64 i := by rw [a6]; simp only [go_sem, Nat.reduceLT, Nat.reduceEqDiff, reduceCtorEq, Int.reduceLT, Int.reduceEq, e6]
    have b7 : s'.getD 7 .undef = .own h.length 0 0 size true := by rw [a7]; simp only [go_sem, Nat.reduceLT, Nat.reduceEqDiff, reduceCtorEq, Int.reduceLT, Int.reduceEq, hs]
    clear a0 a1 a5 a6 a7
    rw [hrep]
    have k1 : IntKind.u8.wrap (97 + IntKind.u8.wrap (IntKind.i64.wrap ((i : Int).tdiv 676))) = (((u8 (97 + i / 676)).toNat : Nat) : Int) := by
      have : (i : Int).tdiv 676 = ((i / 676 : Nat) : Int) := rfl
      rw [u8_toNat _ (by omega), this, IntWalk.i64_in _ (by omega), wrap_u8_nat, IntKind.wrap_u8]; omega
    have k2 : IntKind.u8.wrap (97 + IntKind.u8.wrap ((IntKind.i64.wrap ((i : Int).tdiv 26)).tmod 26)) = (((u8 (97 + i / 26 % 26)).toNat : Nat) : Int) := by
      have e1 : (i : Int).tdiv 26 = ((i / 26 : Nat) : Int) := rfl
      have e2 : (((i / 26 : Nat) : Int)).tmod 26 = ((i / 26 % 26 : Nat) : Int) := rfl
      rw [u8_toNat _ (by omega), e1, IntWalk.i64_in ((i / 26 : Nat) : Int) (by omega), e2, wrap_u8_nat, IntKind.wrap_u8]; omega
    have k3 : IntKind.u8.wrap (97 + IntKind.u8.wrap ((i : Int).tmod 26)) = (((u8 (97 + i % 26)).toNat : Nat) : Int) := by
      have e2 : (i : Int).tmod 26 = ((i % 26 : Nat) : Int) := rfl
      rw [u8_toNat _ (by omega), e2, wrap_u8_nat, IntKind.wrap_u8]; omega
    have mk3 : ∀ (h : Heap) (a b c : CV), mkO h 1 3 [VV.cv (CV.sc (.int .u8 0)), .cv (.sc (.int .u8 0)), .cv (.sc (.int .u8 0))] [(0, 1, .cv a), (1, 1, .cv b), (2, 1, .cv c)] = some (.cv (.sl 1 [[a], [b], [c]] true), h) := fun _ _ _ _ => rfl
    have bs3 : ∀ h : Heap, bsO h (.cv (.sl 1 [[.sc (.int .u8 ((u8 (97 + i / 676)).toNat : Nat))], [.sc (.int .u8 ((u8 (97 + i / 26 % 26)).toNat : Nat))], [.sc (.int .u8 ((u8 (97 + i % 26)).toNat : Nat))]] true)) = some (txt (manyK i)) := fun h => (show SlV 1 (eB (manyK i)) _ from .inr ⟨true, rfl⟩).bs
    have bdo : ∀ (k : List UInt8) (j : Nat), bdO [.cv (.sc (.string ⟨#[]⟩)), .cv (.sc (.slice none 0 0))] [(0, 1, txt k), (1, 1, .own j 0 0 size true)] = some (.agg [txt k, .own j 0 0 size true]) := fun _ _ => rfl
    have hlen : (eB (List.replicate size (u8 i))).length = size := by rw [eB_len, List.length_replicate]
    simp only [go_sem, Nat.reduceLT, Nat.reduceEqDiff, reduceCtorEq, Int.reduceLT, Int.reduceEq, B_exit, hs', b6, b5, b7, k1, k2, k3, mk3, bs3, bdo]
    rw [mk_agg2_own hlen]
    simp only [go_sem, Nat.reduceLT, Nat.reduceEqDiff, reduceCtorEq, Int.reduceLT, Int.reduceEq, hs', b5]
    have hb1 := (hb.push (VO.arr 1 (eB (List.replicate size (u8 i))) 0 true))
    refine XO_appBG hb1 (by simp only [go_sem, Nat.reduceLT, Nat.reduceEqDiff, reduceCtorEq, Int.reduceLT, Int.reduceEq, hs', b5]) (by simp only [go_sem, Nat.reduceLT, Nat.reduceEqDiff, reduceCtorEq, Int.reduceLT, Int.reduceEq, hs', src_sl]; rfl) (by simp only [List.length_singleton]; omega) (by simp only [List.length_singleton]; omega) (fun v' h' hb' _ => ?_)
    simp only [go_sem, Nat.reduceLT, Nat.reduceEqDiff, reduceCtorEq, Int.reduceLT, Int.reduceEq, hs', b6, hwr]
    refine ih (i + 1) _ v' _ _ Q (by omega) hb' (by rw [many_snoc]; exact hR.snoc ⟨_, rfl, .inr ⟨true, rfl⟩⟩) (by simp only [slot_len, hs']) (by simp only [go_sem, Nat.reduceLT, Nat.reduceEqDiff, reduceCtorEq, Int.reduceLT, Int.reduceEq, b0]) (by simp only [go_sem, Nat.reduceLT, Nat.reduceEqDiff, reduceCtorEq, Int.reduceLT, Int.reduceEq, b1]) (by simp only [go_sem, Nat.reduceLT, Nat.reduceEqDiff, reduceCtorEq, Int.reduceLT, Int.reduceEq, hs']) (by simp only [go_sem, Nat.reduceLT, Nat.reduceEqDiff, reduceCtorEq, Int.reduceLT, Int.reduceEq, hs']) hQ

theorem many_f12 {n size : Nat} (hn : n ≤ 255) (hz : size ≤ 160) : RetP F 12 [vi .i64 n, vi .i64 size] fun w => ∃ els, SlV 2 els w ∧ RowsE els (manyL n size) := by
  have : Ret F 12 [vi .i64 n, vi .i64 size] [] fun v g => ∃ els, BufG g 2 els v ∧ RowsE els (manyL n size) := by
    refine call_E (fn := f12) rfl ?_
    simp only [f12]
    generalize hs0 : ([vi .i64 n, vi .i64 size] ++ List.replicate _ VV.undef : List VV) = s
    have hs : s.length = 48 := by rw [← hs0]; rfl
    have h0 : s.getD 0 .undef = vi .i64 n := by rw [← hs0]; rfl
    have h1 : s.getD 1 .undef = vi .i64 size := by rw [← hs0]; rfl
    clear hs0
    simp only [go_sem, Nat.reduceLT, Nat.reduceEqDiff, reduceCtorEq, Int.reduceLT, Int.reduceEq, hs]
    refine f12_loop hn hz n 0 [] nilS _ _ _ (by omega) (BufG.nil _ _) .nil (by simp only [slot_len, hs]) (by simp only [go_sem, Nat.reduceLT, Nat.reduceEqDiff, reduceCtorEq, Int.reduceLT, Int.reduceEq, h0]) (by simp only [go_sem, Nat.reduceLT, Nat.reduceEqDiff, reduceCtorEq, Int.reduceLT, Int.reduceEq, h1]) (by simp only [go_sem, Nat.reduceLT, Nat.reduceEqDiff, reduceCtorEq, Int.reduceLT, Int.reduceEq, hs]) (by simp only [go_sem, Nat.reduceLT, Nat.reduceEqDiff, reduceCtorEq, Int.reduceLT, Int.reduceEq, hs]; rfl) (fun s' h' els' v' a1 a2 a3 a4 => ?_)
    simp only [go_sem, Nat.reduceLT, Nat.reduceEqDiff, reduceCtorEq, Int.reduceLT, Int.reduceEq, a1, a2]
    exact ⟨els', a3, a4⟩
  obtain ⟨v, g, n1, els, hb, hR⟩ := this
  exact ⟨v, g, n1, _, hb.close, els, slV_SlV, hR⟩
end Go.V06

set_option linter.unusedSimpArgs false
set_option linter.unusedVariables false
namespace Go.V06
open Go Go.Vm

/-! ### TreeBuilds -/
theorem f3_loop {els : List (List CV)} {kv : List KV} {u : VV} (hS : SlV 2 els u) (hR : RowsE els kv) (hn : kv.length ≤ 9223372036854775807) (h : Heap) :
    ∀ (r k : Nat) (n : Int) (s : List VV) (Q : Pst), k + r = kv.length → s.length = 62 → s.getD 0 .undef = u → s.getD 9 .undef = vi .i64 n → s.getD 10 .undef = vi .i64 k →
      (∀ s' n', s'.length = 62 → s'.getD 0 .undef = s.getD 0 .undef → s'.getD 1 .undef = s.getD 1 .undef → s'.getD 2 .undef = s.getD 2 .undef → s'.getD 3 .undef = s.getD 3 .undef → s'.getD 9 .undef = vi .i64 n' → Q (.exit 0) ⟨s', h⟩) → X F (.loop f3_0) ⟨s, h⟩ Q := by
  have hl := hR.len
  intro r
  induction r with
  | zero =>
    intro k n s Q hk hs h0 h9 h10 hQ
    rw [X_loop, X_eq f3_0.eq_1]
    have c : ¬ (k : Int) < (kv.length : Int) := by omega
    simp only [go_sem, Nat.reduceLT, Nat.reduceEqDiff, reduceCtorEq, Int.reduceLT, Int.reduceEq, hs, h0, h10, hS.ln, hl, c]
    exact hQ _ n (by simp only [slot_len, hs]) (by simp only [go_sem, Nat.reduceLT, Nat.reduceEqDiff, reduceCtorEq, Int.reduceLT, Int.reduceEq, h0]) (by simp only [go_sem, Nat.reduceLT, Nat.reduceEqDiff, reduceCtorEq, Int.reduceLT, Int.reduceEq]) (by simp only [go_sem, Nat.reduceLT, Nat.reduceEqDiff, reduceCtorEq, Int.reduceLT, Int.reduceEq]) (by simp only [go_sem, Nat.reduceLT, Nat.reduceEqDiff, reduceCtorEq, Int.reduceLT, Int.reduceEq]) (by simp only [go_sem, Nat.reduceLT, Nat.reduceEqDiff, reduceCtorEq, Int.reduceLT, Int.reduceEq, h9])
  | succ r ih =>
    intro k n s Q hk hs h0 h9 h10 hQ
    rw [X_loop, X_eq f3_0.eq_1]
    have c : (k : Int) < (kv.length : Int) := by omega
    obtain ⟨e, p, he, hp, cc, rfl, hc⟩ := hR.get (i := k) (by omega)
    have hia := hS.ia (h := h) (k := .i64) (j := (k : Int)) (by omega) he
    have hw : IntKind.i64.wrap ((k : Int) + 1) = ((k + 1 : Nat) : Int) := by rw [IntWalk.i64_in _ (by omega)]; omega
    simp only [go_sem, Nat.reduceLT, Nat.reduceEqDiff, reduceCtorEq, Int.reduceLT, Int.reduceEq, hs, h0, h10, hS.ln, hl, c]
    refine X_draw rfl ?_
    simp only [go_sem, Nat.reduceLT, Nat.reduceEqDiff, reduceCtorEq, Int.reduceLT, Int.reduceEq, hs, h0, h9, h10, hia, hc.ln, hw]
    exact ih (k + 1) _ _ Q (by omega) (by simp only [slot_len, hs]) (by simp only [go_sem, Nat.reduceLT, Nat.reduceEqDiff, reduceCtorEq, Int.reduceLT, Int.reduceEq, h0]) (by simp only [go_sem, Nat.reduceLT, Nat.reduceEqDiff, reduceCtorEq, Int.reduceLT, Int.reduceEq, hs]; rfl) (by simp only [go_sem, Nat.reduceLT, Nat.reduceEqDiff, reduceCtorEq, Int.reduceLT, Int.reduceEq, hs]) (fun s' n' a a0 a1 a2 a3 a9 => hQ s' n' a (by rw [a0]; simp only [go_sem, Nat.reduceLT, Nat.reduceEqDiff, reduceCtorEq, Int.reduceLT, Int.reduceEq]) (by rw [a1]; simp only [go_sem, Nat.reduceLT, Nat.reduceEqDiff, reduceCtorEq, Int.reduceLT, Int.reduceEq]) (by rw [a2]; simp only [go_sem, Nat.reduceLT, Nat.reduceEqDiff, reduceCtorEq, Int.reduceLT, Int.reduceEq]) (by rw [a3]; simp only [go_sem, Nat.reduceLT, Nat.reduceEqDiff, reduceCtorEq, Int.reduceLT, Int.reduceEq]) a9)

theorem fold_len : ∀ (L acc : List KV), (L.foldl layF acc).length ≤ acc.length + 2 * L.length
  | [], acc => by simp
  | p :: L, acc => by
    have h1 := fold_len L (layF acc p)
    have h2 := layF_len acc p
    simp only [List.foldl_cons, List.length_cons]
    omega
theorem risL_len (n : Nat) (c : List UInt8) : (risL n c).length ≤ 2 * n := by
  have h1 := fold_len (rowL n c) []
  have h2 := rowL_len n c
  simp only [List.length_nil] at h1
  unfold risL
  omega

theorem law_builds {els : List (List CV)} {kv : List KV} {u : VV} (hS : SlV 2 els u) (hR : RowsE els kv) (hn : kv.length ≤ 9223372036854775807) (c : List UInt8) (vc : VV) (hc : SlV 1 (eB c) vc) (n size : UInt8) : ∃ h', call F 3 [u, vc, vi .u8 n.toNat, vi .u8 size.toNat] [] = some (.ret (vb true), h') := by
  have : Ret F 3 [u, vc, vi .u8 n.toNat, vi .u8 size.toNat] [] fun v h' => v = vb true := by
    refine call_E (fn := f3) rfl ?_
    simp only [f3]
    generalize hs0 : ([u, vc, vi .u8 n.toNat, vi .u8 size.toNat] ++ List.replicate _ VV.undef : List VV) = s
    have hs : s.length = 62 := by rw [← hs0]; rfl
    have h0 : s.getD 0 .undef = u := by rw [← hs0]; rfl
    have h1 : s.getD 1 .undef = vc := by rw [← hs0]; rfl
    have h2 : s.getD 2 .undef = vi .u8 n.toNat := by rw [← hs0]; rfl
    have h3 : s.getD 3 .undef = vi .u8 size.toNat := by rw [← hs0]; rfl
    clear hs0
    obtain ⟨h8', n8⟩ := known_f8
    obtain ⟨h9a, n9a⟩ := builds_f9 hS hR hn
    have hl := hR.len
    simp only [go_sem, Nat.reduceLT, Nat.reduceEqDiff, reduceCtorEq, Int.reduceLT, Int.reduceEq, hs, h0, hS.ln]
    refine f3_loop hS hR hn [] kv.length 0 els.length _ _ (by omega) (by simp only [slot_len, hs]) (by simp only [go_sem, Nat.reduceLT, Nat.reduceEqDiff, reduceCtorEq, Int.reduceLT, Int.reduceEq, h0]) (by simp only [go_sem, Nat.reduceLT, Nat.reduceEqDiff, reduceCtorEq, Int.reduceLT, Int.reduceEq, hs]) (by simp only [go_sem, Nat.reduceLT, Nat.reduceEqDiff, reduceCtorEq, Int.reduceLT, Int.reduceEq, hs]; rfl) (fun s' n' hs' a0 a1 a2 a3 a9 => ?_)
    have b0 : s'.getD 0 .undef = u := by rw [a0]; simp only [go_sem, Nat.reduceLT, Nat.reduceEqDiff, reduceCtorEq, Int.reduceLT, Int.reduceEq, h0]
    have b1 : s'.getD 1 .undef = vc := by rw [a1]; simp only [go_sem, Nat.reduceLT, Nat.reduceEqDiff, reduceCtorEq, Int.reduceLT, Int.reduceEq, h1]
    have b2 : s'.getD 2 .undef = vi .u8 n.toNat := by rw [a2]; simp only [go_sem, Nat.reduceLT, Nat.reduceEqDiff, reduceCtorEq, Int.reduceLT, Int.reduceEq, h2]
    have b3 : s'.getD 3 .undef = vi .u8 size.toNat := by rw [a3]; simp only [go_sem, Nat.reduceLT, Nat.reduceEqDiff, reduceCtorEq, Int.reduceLT, Int.reduceEq, h3]
    clear a0 a1 a2 a3
    simp only [go_sem, Nat.reduceLT, Nat.reduceEqDiff, reduceCtorEq, Int.reduceLT, Int.reduceEq, hs']
    rw [X_eq f3_1.eq_1]
    by_cases d : n' > 1500
    · simp only [go_sem, Nat.reduceLT, Nat.reduceEqDiff, reduceCtorEq, Int.reduceLT, Int.reduceEq, hs', a9, d]
      refine XO_callP (h1 := []) (by simp only [List.map]; rfl) n8 rfl ?_
      simp only [go_sem, Nat.reduceLT, Nat.reduceEqDiff, reduceCtorEq, Int.reduceLT, Int.reduceEq, hs']
    · simp only [go_sem, Nat.reduceLT, Nat.reduceEqDiff, reduceCtorEq, Int.reduceLT, Int.reduceEq, hs', a9, d]
      refine XO_callP (h1 := []) (by simp only [List.map]; rfl) n8 rfl ?_
      obtain ⟨v10, h10, n10, w10, r10, els10, sl10, R10⟩ := rising_pure hc (n := 30) (by omega)
      obtain ⟨h9b, n9b⟩ := builds_f9 sl10 R10 (by have := risL_len 30 c; omega)
      obtain ⟨v11, h11, els11, n11, r11, R11⟩ := list_pure c vc hc 6 (by omega)
      have hl6 := rowL_len 6 c
      obtain ⟨h9c, n9c⟩ := builds_f9 slV_SlV R11 (by omega)
      have hn8 := n.toNat_lt
      have hs8 := size.toNat_lt
      obtain ⟨v12, h12, n12, w12, r12, els12, sl12, R12⟩ := many_f12 (n := n.toNat) (size := size.toNat % 160) (by omega) (by omega)
      obtain ⟨h9d, n9d⟩ := builds_f9 sl12 R12 (by rw [many_len]; omega)
      have z160 : (160 : Int) ≠ 0 := by decide
      have e1 : IntKind.i64.wrap (n.toNat : Int) = ((n.toNat : Nat) : Int) := IntWalk.i64_in _ (by omega)
      have e2 : IntKind.i64.wrap ((size.toNat : Int).tmod 160) = ((size.toNat % 160 : Nat) : Int) := by
        have e : (size.toNat : Int).tmod 160 = ((size.toNat % 160 : Nat) : Int) := rfl
        rw [e]; exact IntWalk.i64_in _ (by omega)
      simp only [go_sem, Nat.reduceLT, Nat.reduceEqDiff, reduceCtorEq, Int.reduceLT, Int.reduceEq, hs', b0]
      refine XO_callP (h1 := []) (by simp only [List.map, go_sem, Nat.reduceLT, Nat.reduceEqDiff, reduceCtorEq, Int.reduceLT, Int.reduceEq, hs']; exact hS.clos rfl) n9a rfl ?_
      simp only [go_sem, Nat.reduceLT, Nat.reduceEqDiff, reduceCtorEq, Int.reduceLT, Int.reduceEq, hs', b1]
      refine XO_callP (h1 := []) (by simp only [List.map, go_sem, Nat.reduceLT, Nat.reduceEqDiff, reduceCtorEq, Int.reduceLT, Int.reduceEq, hs']; exact hc.clos rfl) n10 r10 ?_
      simp only [go_sem, Nat.reduceLT, Nat.reduceEqDiff, reduceCtorEq, Int.reduceLT, Int.reduceEq, hs']
      refine XO_callP (h1 := []) (by simp only [List.map, go_sem, Nat.reduceLT, Nat.reduceEqDiff, reduceCtorEq, Int.reduceLT, Int.reduceEq, hs']; exact sl10.clos rfl) n9b rfl ?_
      simp only [go_sem, Nat.reduceLT, Nat.reduceEqDiff, reduceCtorEq, Int.reduceLT, Int.reduceEq, hs', b1]
      refine XO_callP (h1 := []) (by simp only [List.map, go_sem, Nat.reduceLT, Nat.reduceEqDiff, reduceCtorEq, Int.reduceLT, Int.reduceEq, hs']; exact hc.clos rfl) n11 r11 ?_
      simp only [go_sem, Nat.reduceLT, Nat.reduceEqDiff, reduceCtorEq, Int.reduceLT, Int.reduceEq, hs']
      refine XO_callP (h1 := []) (by simp only [List.map, go_sem, Nat.reduceLT, Nat.reduceEqDiff, reduceCtorEq, Int.reduceLT, Int.reduceEq, hs']; exact slV_SlV.clos rfl) n9c rfl ?_
      simp only [go_sem, Nat.reduceLT, Nat.reduceEqDiff, reduceCtorEq, Int.reduceLT, Int.reduceEq, hs', b2, b3, bin_rem z160, e1, e2]
      refine XO_callP (h1 := []) (by simp only [List.map, go_sem, Nat.reduceLT, Nat.reduceEqDiff, reduceCtorEq, Int.reduceLT, Int.reduceEq, hs']; rfl) n12 r12 ?_
      simp only [go_sem, Nat.reduceLT, Nat.reduceEqDiff, reduceCtorEq, Int.reduceLT, Int.reduceEq, hs']
      refine XO_callP (h1 := []) (by simp only [List.map, go_sem, Nat.reduceLT, Nat.reduceEqDiff, reduceCtorEq, Int.reduceLT, Int.reduceEq, hs']; exact sl12.clos rfl) n9d rfl ?_
      simp only [go_sem, Nat.reduceLT, Nat.reduceEqDiff, reduceCtorEq, Int.reduceLT, Int.reduceEq, hs']
  obtain ⟨v, h', e1, rfl⟩ := this
  exact ⟨h', e1⟩
/-! ### rows, as they are read -/
theorem row_of {H : Type} {d : DataW H} {el : List CV} (h : DR Proofs.Try.prog 7 25 d el) (hlen : el.length = 2) : ∃ p, rowE el p := by
  obtain ⟨ds, rfl, hd, hc, hf⟩ := DR_struct Proofs.Try.underlying25 h
  match ds, hd with
  | [d1, d2], _ =>
    match el, hlen with
    | [c1, c2], _ =>
      have f1 : DR Proofs.Try.prog 6 9 d1 (([c1, c2].drop 0).take (Proofs.Try.prog.cellsOf 9)) := hf 0 _ d1 rfl rfl
      have f2 : DR Proofs.Try.prog 6 23 d2 (([c1, c2].drop 1).take (Proofs.Try.prog.cellsOf 23)) := hf 1 _ d2 rfl rfl
      have k1 : Proofs.Try.prog.cellsOf 9 = 1 := by kernel_rfl
      have k2 : Proofs.Try.prog.cellsOf 23 = 1 := by kernel_rfl
      rw [k1] at f1
      rw [k2] at f2
      obtain ⟨s, rfl, e1, _⟩ := DR_string Proofs.Try.underlying9 f1
      obtain ⟨l, c, e2, hl, hb, _⟩ := DR_bytes Proofs.Try.underlying23 Proofs.Try.underlying5 (by kernel_rfl) f2
      simp at e1 e2
      subst e1 e2
      exact ⟨(s.data.toList, l), _, rfl, hl⟩
theorem rows_of {H : Type} {d : DataW H} {u : VV} (h : DV Proofs.Try.prog 22 d u) : ∃ els kv, SlV 2 els u ∧ RowsE els kv ∧ kv.length ≤ 9223372036854775807 := by
  obtain ⟨c, h1, rfl⟩ := DV_plain (by simp only [isStr, Proofs.Try.underlying22]) h
  have k2 : Proofs.Try.prog.cellsOf 25 = 2 := by kernel_rfl
  rcases DR_slice Proofs.Try.underlying22 h1 with ⟨rfl, e⟩ | ⟨ds, rest, els, rfl, e, h2, h3, h4⟩
  · cases e
    exact ⟨[], [], .inl ⟨rfl, rfl⟩, .nil, by simp⟩
  · cases e
    rw [k2] at h4 ⊢
    have key : ∀ (els : List (List CV)) (ds : List (DataW H)), els.length = ds.length → (∀ (i : Nat) (el : List CV) (y : DataW H), els[i]? = some el → ds[i]? = some y → el.length = 2 ∧ DR Proofs.Try.prog 7 25 y el) → ∃ kv, RowsE els kv := by
      intro els
      induction els with
      | nil => intro ds _ _; exact ⟨[], .nil⟩
      | cons el r ih =>
        intro ds hl hh
        match ds, hl with
        | y :: ys, hl =>
          obtain ⟨a1, a2⟩ := hh 0 el y rfl rfl
          obtain ⟨p, b1⟩ := row_of a2 a1
          obtain ⟨kv, c1⟩ := ih ys (by simpa using hl) (fun i el y h1 h2 => hh (i + 1) el y (by simpa using h1) (by simpa using h2))
          exact ⟨p :: kv, .cons b1 c1⟩
    obtain ⟨kv, c1⟩ := key els ds h2 h4
    have hm : maxLen = 9223372036854775807 := rfl
    exact ⟨els, kv, .inr ⟨false, rfl⟩, c1, by rw [← c1.len]; omega⟩

theorem builds_in {H : Type} {d0 d1 d2 d3 : DataW H} {u0 u1 u2 u3 : VV} (h0 : DV Proofs.Try.prog 22 d0 u0) (h1 : DV Proofs.Try.prog 23 d1 u1) (h2 : DV Proofs.Try.prog 5 d2 u2) (h3 : DV Proofs.Try.prog 5 d3 u3) :
    ∃ h', call F 3 [u0, u1, u2, u3] [] = some (.ret (vb true), h') := by
  obtain ⟨els, kv, hS, hR, hn⟩ := rows_of h0
  obtain ⟨c, hc, _⟩ := DV_bytes (e := 5) (by kernel_rfl) (by kernel_rfl) (by kernel_rfl) h1
  obtain ⟨n, rfl⟩ := DV_u8 (by kernel_rfl) h2
  obtain ⟨k, rfl⟩ := DV_u8 (by kernel_rfl) h3
  exact law_builds hS hR hn c u1 hc n k
end Go.V06
