/- Part of a proof: of what it says, and when, each theorem tells itself. -/
import Derived.Test.YtjggjjplnbjcpaaC06All6
set_option linter.unusedSimpArgs false
set_option linter.unusedVariables false
namespace Go.V06
open Go Go.Vm

theorem layF_len (l : List KV) (r : KV) : (layF l r).length ≤ l.length + 2 := by
  have := layS_len r l false
  unfold layF
  split
  · omega
  · simp; omega
/-- Rows, as choices say, by rising keys. -/
def risL (n : Nat) (c : List UInt8) : List KV := (rowL n c).foldl layF []

theorem f10_loop {h0 : Heap} {L : List KV} {elsL : List (List CV)} {lv : VV} (hL : SlV 2 elsL lv) (hR : RowsE elsL L) (hn : L.length ≤ 1000) : ∀ (m i : Nat) (acc : List KV) (els : List (List CV)) (va : VV) (hh : Heap) (s : List VV) (g : Heap) (Q : Pst), i + m = L.length → acc.length ≤ 2 * i → HExt h0 hh → NB hh g 2 els va → RowsE els acc →
    s.length = 24 → s.getD 5 .undef = lv → s.getD 6 .undef = va → s.getD 7 .undef = vi .i64 i →
    (∀ s' g' hh els' va', s'.length = 24 → s'.getD 6 .undef = va' → HExt h0 hh → NB hh g' 2 els' va' → RowsE els' ((L.drop i).foldl layF acc) → Q (.exit 0) ⟨s', g'⟩) → X F (.loop f10_0) ⟨s, g⟩ Q := by
  intro m
  have hl := hR.len
  induction m with
  | zero =>
    intro i acc els va hh s g Q hi hac hx hA hRA hs e5 e6 e7 hQ
    have c : ¬ ((i : Nat) : Int) < (elsL.length : Int) := by omega
    rw [X_loop, X_eq f10_0.eq_1]
    simp only [go_sem, Nat.reduceLT, Nat.reduceEqDiff, reduceCtorEq, Int.reduceLT, Int.reduceEq, hs, e7, e5, hL.ln, c]
    have hd : L.drop i = [] := List.drop_eq_nil_of_le (by omega)
    rw [hd] at hQ
    exact hQ _ _ hh els va (by simp only [slot_len, hs]) (by simp only [go_sem, Nat.reduceLT, Nat.reduceEqDiff, reduceCtorEq, Int.reduceLT, Int.reduceEq, e6]) hx hA hRA
  | succ m ih =>
    intro i acc els va hh s g Q hi hac hx hA hRA hs e5 e6 e7 hQ
    have c : ((i : Nat) : Int) < (elsL.length : Int) := by omega
    obtain ⟨e, p, he, hp, c', rfl, hc'⟩ := hR.get (i := i) (by omega)
    have hd : L.drop i = p :: L.drop (i + 1) := by
      obtain ⟨la, rfl⟩ := List.getElem?_eq_some_iff.1 hp
      rw [List.drop_eq_getElem_cons la]
    rw [hd, List.foldl_cons] at hQ
    have ia : iaO g 2 lv (vi .i64 (i : Int)) = some (.rptr [.sc (.string ⟨p.1.toArray⟩), c'], g) := hL.ia (by omega) (by rw [Int.toNat_natCast]; exact he)
    have la2 : ldO g true 2 (.rptr [.sc (.string ⟨p.1.toArray⟩), c']) = some (.agg [txt p.1, .cv c'], g) := ld_r_2
    have hwr : IntKind.i64.wrap ((i : Int) + 1) = ((i + 1 : Nat) : Int) := by rw [IntWalk.i64_in _ (by omega)]; omega
    obtain ⟨v22, g2, n22, hh2, els2, x2, hB2, hRB2⟩ := lay_f22 hA.vf hRA (by omega) hc'
    have hlen := layF_len acc p
    rw [X_loop, X_eq f10_0.eq_1]
    simp only [go_sem, Nat.reduceLT, Nat.reduceEqDiff, reduceCtorEq, Int.reduceLT, Int.reduceEq, hs, e7, e5, e6, hL.ln, c, ia, la2]
    refine XO_callR (by simp only [List.map, go_sem, Nat.reduceLT, Nat.reduceEqDiff, reduceCtorEq, Int.reduceLT, Int.reduceEq, hs]; exact n22) ?_
    simp only [go_sem, Nat.reduceLT, Nat.reduceEqDiff, reduceCtorEq, Int.reduceLT, Int.reduceEq, hs, e7, hwr]
    exact ih (i + 1) (layF acc p) els2 v22 hh2 _ _ Q (by omega) (by omega) ((hx.trans hA.ext).trans x2) hB2 hRB2 (by simp only [slot_len, hs]) (by simp only [go_sem, Nat.reduceLT, Nat.reduceEqDiff, reduceCtorEq, Int.reduceLT, Int.reduceEq, e5]) (by simp only [go_sem, Nat.reduceLT, Nat.reduceEqDiff, reduceCtorEq, Int.reduceLT, Int.reduceEq, hs]) (by simp only [go_sem, Nat.reduceLT, Nat.reduceEqDiff, reduceCtorEq, Int.reduceLT, Int.reduceEq, hs]) hQ

theorem rising_f10 {h : Heap} {c : List UInt8} {vc : VV} (hc : SlV 1 (eB c) vc) {n : Nat} (hn : n ≤ 60) : Ret F 10 [vc, vi .i64 n] h fun v g => ∃ hh els, HExt h hh ∧ NB hh g 2 els v ∧ RowsE els (risL n c) := by
  refine call_E (fn := f10) rfl ?_
  simp only [f10]
  generalize hs0 : ([vc, vi .i64 n] ++ List.replicate _ VV.undef : List VV) = s
  have hs : s.length = 24 := by rw [← hs0]; rfl
  have h0 : s.getD 0 .undef = vc := by rw [← hs0]; rfl
  have h1 : s.getD 1 .undef = vi .i64 n := by rw [← hs0]; rfl
  clear hs0
  obtain ⟨v11, h11, els11, n11, r11, R11⟩ := list_pure c vc hc n hn
  have hlen : (rowL n c).length ≤ n := rowL_len n c
  simp only [go_sem, Nat.reduceLT, Nat.reduceEqDiff, reduceCtorEq, Int.reduceLT, Int.reduceEq, hs, h0, h1]
  refine XO_callP (h1 := h) (by simp only [List.map, go_sem, Nat.reduceLT, Nat.reduceEqDiff, reduceCtorEq, Int.reduceLT, Int.reduceEq, hs]; exact hc.clos (clos_cv clos_nil)) n11 r11 ?_
  simp only [go_sem, Nat.reduceLT, Nat.reduceEqDiff, reduceCtorEq, Int.reduceLT, Int.reduceEq, hs]
  refine f10_loop (h0 := h) slV_SlV R11 (by omega) (rowL n c).length 0 [] [] nilS h _ _ _ (by omega) (by simp) (HExt.refl h) (NB.nil _ _) .nil (by simp only [slot_len, hs]) (by simp only [go_sem, Nat.reduceLT, Nat.reduceEqDiff, reduceCtorEq, Int.reduceLT, Int.reduceEq, hs]) (by simp only [go_sem, Nat.reduceLT, Nat.reduceEqDiff, reduceCtorEq, Int.reduceLT, Int.reduceEq, hs]) (by simp only [go_sem, Nat.reduceLT, Nat.reduceEqDiff, reduceCtorEq, Int.reduceLT, Int.reduceEq, hs]; rfl) (fun s' g' hh els' va' a1 a2 a3 a4 a5 => ?_)
  simp only [go_sem, Nat.reduceLT, Nat.reduceEqDiff, reduceCtorEq, Int.reduceLT, Int.reduceEq, a1, a2]
  exact ⟨hh, els', a3, a4, a5⟩
theorem rising_pure {c : List UInt8} {vc : VV} (hc : SlV 1 (eB c) vc) {n : Nat} (hn : n ≤ 60) : RetP F 10 [vc, vi .i64 n] fun w => ∃ els, SlV 2 els w ∧ RowsE els (risL n c) := by
  obtain ⟨v, g, n1, hh, els, _, b, R⟩ := rising_f10 (h := []) hc hn
  obtain ⟨w, c1, c2⟩ := b.res
  exact ⟨v, g, n1, w, c1, els, c2, R⟩
end Go.V06

set_option linter.unusedSimpArgs false
set_option linter.unusedVariables false
namespace Go.V06
open Go Go.Vm

def manyK (i : Nat) : List UInt8 := [u8 (97 + i / 676), u8 (97 + i / 26 % 26), u8 (97 + i % 26)]
def manyL (n size : Nat) : List KV := (List.range n).map fun i => (manyK i, List.replicate size (u8 i))

theorem f12_fill (i : Nat) (hi : i ≤ 255) (h0 : Heap) : ∀ (d k : Nat) (vl : List UInt8) (s : List VV) (Q : Pst),
    vl.length = k + d → vl.length ≤ 200 → (∀ j, j < k → vl[j]? = some (u8 i)) → s.length = 48 → s.getD 6 .undef = vi .i64 i → s.getD 7 .undef = .own h0.length 0 0 vl.length true → s.getD 8 .undef = vi .i64 k →
    (∀ s', s'.length = 48 → s'.getD 0 .undef = s.getD 0 .undef → s'.getD 1 .undef = s.getD 1 .undef → s'.getD 5 .undef = s.getD 5 .undef → s'.getD 6 .undef = s.getD 6 .undef → s'.getD 7 .undef = s.getD 7 .undef → Q (.exit 2) ⟨s', h0 ++ [.arr 1 (eB (List.replicate vl.length (u8 i))) 0 false]⟩) →
    X F (.loop f12_0) ⟨s, h0 ++ [.arr 1 (eB vl) 0 false]⟩ Q := by
  intro d
  induction d with
  | zero =>
    intro k vl s Q hl hl2 hv hs h6 h7 h8 hQ
    rw [X_loop, X_eq f12_0.eq_1]
    have hlt : ¬ (k : Int) < (vl.length : Int) := by omega
    have e : vl = List.replicate vl.length (u8 i) := by
      apply List.ext_getElem?
      intro j
      by_cases hj : j < k
      · rw [hv j hj, List.getElem?_replicate, if_pos (by omega)]
      · rw [List.getElem?_eq_none (by omega), List.getElem?_eq_none (by rw [List.length_replicate]; omega)]
    rw [← e] at hQ
    simp only [go_sem, Nat.reduceLT, Nat.reduceEqDiff, reduceCtorEq, Int.reduceLT, Int.reduceEq, hs, h7, h8, hlt]
    exact hQ _ (by simp only [slot_len, hs]) (by simp only [go_sem, Nat.reduceLT, Nat.reduceEqDiff, reduceCtorEq, Int.reduceLT, Int.reduceEq]) (by simp only [go_sem, Nat.reduceLT, Nat.reduceEqDiff, reduceCtorEq, Int.reduceLT, Int.reduceEq]) (by simp only [go_sem, Nat.reduceLT, Nat.reduceEqDiff, reduceCtorEq, Int.reduceLT, Int.reduceEq]) (by simp only [go_sem, Nat.reduceLT, Nat.reduceEqDiff, reduceCtorEq, Int.reduceLT, Int.reduceEq]) (by simp only [go_sem, Nat.reduceLT, Nat.reduceEqDiff, reduceCtorEq, Int.reduceLT, Int.reduceEq])
  | succ d ih =>
    intro k vl s Q hl hl2 hv hs h6 h7 h8 hQ
    rw [X_loop, X_eq f12_0.eq_1]
    have hlt : (k : Int) < (vl.length : Int) := by omega
    have e2 : IntKind.i64.wrap ((k : Int) + 1) = ((k + 1 : Nat) : Int) := by rw [IntWalk.i64_in _ (by omega)]; omega
    have e3 : IntKind.u8.wrap (i : Int) = (((u8 i).toNat : Nat) : Int) := by
      rw [u8_toNat _ (by omega), wrap_u8_nat]; omega
    simp only [go_sem, Nat.reduceLT, Nat.reduceEqDiff, reduceCtorEq, Int.reduceLT, Int.reduceEq, hs, h6, h7, h8, hlt, e3]
    rw [ia_last (by omega)]
    simp only [go_sem, Nat.reduceLT, Nat.reduceEqDiff, reduceCtorEq, Int.reduceLT, Int.reduceEq, hs, h6, h7, h8, e3]
    rw [st_last (by omega)]
    simp only [go_sem, Nat.reduceLT, Nat.reduceEqDiff, reduceCtorEq, Int.reduceLT, Int.reduceEq, hs, h6, h7, h8, e2]
    have hl3 : (vl.set k (u8 i)).length = vl.length := List.length_set
    rw [← hl3] at hQ
    refine ih (k + 1) _ _ Q (by rw [hl3]; omega) (by rw [hl3]; omega) ?_ (by simp only [slot_len, hs]) (by simp only [go_sem, Nat.reduceLT, Nat.reduceEqDiff, reduceCtorEq, Int.reduceLT, Int.reduceEq, h6]) (by simp only [go_sem, Nat.reduceLT, Nat.reduceEqDiff, reduceCtorEq, Int.reduceLT, Int.reduceEq, h7, hl3]) (by simp only [go_sem, Nat.reduceLT, Nat.reduceEqDiff, reduceCtorEq, Int.reduceLT, Int.reduceEq, hs]) ?_
    · intro j hj
      by_cases hjk : j = k
      · subst hjk
        rw [List.getElem?_set_self (by omega)]
      · rw [List.getElem?_set_ne (by omega)]
        exact hv j (by omega)
    · intro s' hs' a0 a1 a5 a6 a7
      exact hQ s' hs' (by rw [a0]; simp only [go_sem, Nat.reduceLT, Nat.reduceEqDiff, reduceCtorEq, Int.reduceLT, Int.reduceEq]) (by rw [a1]; simp only [go_sem, Nat.reduceLT, Nat.reduceEqDiff, reduceCtorEq, Int.reduceLT, Int.reduceEq]) (by rw [a5]; simp only [go_sem, Nat.reduceLT, Nat.reduceEqDiff, reduceCtorEq, Int.reduceLT, Int.reduceEq]) (by rw [a6]; simp only [go_sem, Nat.reduceLT, Nat.reduceEqDiff, reduceCtorEq, Int.reduceLT, Int.reduceEq]) (by rw [a7]; simp only [go_sem, Nat.reduceLT, Nat.reduceEqDiff, reduceCtorEq, Int.reduceLT, Int.reduceEq])

theorem many_snoc (i size : Nat) : manyL (i + 1) size = manyL i size ++ [(manyK i, List.replicate size (u8 i))] := by
  unfold manyL; rw [List.range_succ, List.map_append]; rfl
theorem many_len (n size : Nat) : (manyL n size).length = n := by simp [manyL]

theorem f12_loop {n size : Nat} (hn : n ≤ 255) (hz : size ≤ 160) : ∀ (m i : Nat) (els : List (List CV)) (v : VV) (s : List VV) (h : Heap) (Q : Pst), i + m = n → BufG h 2 els v → RowsE els (manyL i size) → s.length = 48 → s.getD 0 .undef = vi .i64 n → s.getD 1 .undef = vi .i64 size → s.getD 5 .undef = v → s.getD 6 .undef = vi .i64 i →
    (∀ s' h' els' v', s'.length = 48 → s'.getD 5 .undef = v' → BufG h' 2 els' v' → RowsE els' (manyL n size) → Q (.exit 0) ⟨s', h'⟩) → X F (.loop f12_1) ⟨s, h⟩ Q := by
  intro m
  induction m with
  | zero =>
    intro i els v s h Q hi hb hR hs e0 e1 e5 e6 hQ
    have c : ¬ ((i : Nat) : Int) < (n : Int) := by omega
    rw [X_loop, X_eq f12_1.eq_1]
    simp only [go_sem, Nat.reduceLT, Nat.reduceEqDiff, reduceCtorEq, Int.reduceLT, Int.reduceEq, hs, e6, e0, c]
    have : i = n := by omega
    subst this
    exact hQ _ _ els v (by simp only [slot_len, hs]) (by simp only [go_sem, Nat.reduceLT, Nat.reduceEqDiff, reduceCtorEq, Int.reduceLT, Int.reduceEq, e5]) hb hR
  | succ m ih =>
    intro i els v s h Q hi hb hR hs e0 e1 e5 e6 hQ
    have c : ((i : Nat) : Int) < (n : Int) := by omega
    have hl := hR.len
    rw [many_len] at hl
    have hwr : IntKind.i64.wrap ((i : Int) + 1) = ((i + 1 : Nat) : Int) := by rw [IntWalk.i64_in _ (by omega)]; omega
    rw [X_loop, X_eq f12_1.eq_1]
    simp only [go_sem, Nat.reduceLT, Nat.reduceEqDiff, reduceCtorEq, Int.reduceLT, Int.reduceEq, hs, e6, e0, e1, c]
    refine XO_mks (k := .i64) (k' := .i64) (a := size) (by simp only [go_sem, Nat.reduceLT, Nat.reduceEqDiff, reduceCtorEq, Int.reduceLT, Int.reduceEq, hs]) (by simp only [go_sem, Nat.reduceLT, Nat.reduceEqDiff, reduceCtorEq, Int.reduceLT, Int.reduceEq, hs]) (by omega) (by omega) ?_
    rw [eB_replicate]
    simp only [go_sem, Nat.reduceLT, Nat.reduceEqDiff, reduceCtorEq, Int.reduceLT, Int.reduceEq, hs]
    have hrep : (List.replicate size (0 : UInt8)).length = size := List.length_replicate
    refine f12_fill i (by omega) h size 0 (List.replicate size 0) _ _ (by rw [hrep]; omega) (by rw [hrep]; omega) (fun j hj => by omega) (by simp only [slot_len, hs]) (by simp only [go_sem, Nat.reduceLT, Nat.reduceEqDiff, reduceCtorEq, Int.reduceLT, Int.reduceEq, e6]) (by simp only [go_sem, Nat.reduceLT, Nat.reduceEqDiff, reduceCtorEq, Int.reduceLT, Int.reduceEq, hs, hrep]) (by simp only [go_sem, Nat.reduceLT, Nat.reduceEqDiff, reduceCtorEq, Int.reduceLT, Int.reduceEq, hs]; rfl) ?_
    intro s' hs' a0 a1 a5 a6 a7
    have b0 : s'.getD 0 .undef = vi .i64 n := by rw [a0]; simp only [go_sem, Nat.reduceLT, Nat.reduceEqDiff, reduceCtorEq, Int.reduceLT, Int.reduceEq, e0]
    have b1 : s'.getD 1 .undef = vi .i64 size := by rw [a1]; simp only [go_sem, Nat.reduceLT, Nat.reduceEqDiff, reduceCtorEq, Int.reduceLT, Int.reduceEq, e1]
    have b5 : s'.getD 5 .undef = v := by rw [a5]; simp only [go_sem, Nat.reduceLT, Nat.reduceEqDiff, reduceCtorEq, Int.reduceLT, Int.reduceEq, e5]
    have b6 : s'.getD 6 .undef = vi .i64 i := by rw [a6]; simp only [go_sem, Nat.reduceLT, Nat.reduceEqDiff, reduceCtorEq, Int.reduceLT, Int.reduceEq, e6]
    have b7 : s'.getD 7 .undef = .own h.length 0 0 size true := by rw [a7]; simp only [go_sem, Nat.reduceLT, Nat.reduceEqDiff, reduceCtorEq, Int.reduceLT, Int.reduceEq, hs]
    clear a0 a1 a5 a6 a7
    rw [hrep]
    have k1 : IntKind.u8.wrap (97 + IntKind.u8.wrap (IntKind.i64.wrap ((i : Int).tdiv 676))) = (((u8 (97 + i / 676)).toNat : Nat) : Int) := by
      have : (i : Int).tdiv 676 = ((i / 676 : Nat) : Int) := rfl
      rw [u8_toNat _ (by omega), this, IntWalk.i64_in _ (by omega), wrap_u8_nat, IntKind.wrap_u8]; omega
    have k2 : IntKind.u8.wrap (97 + IntKind.u8.wrap ((IntKind.i64.wrap ((i : Int).tdiv 26)).tmod 26)) = (((u8 (97 + i / 26 % 26)).toNat : Nat) : Int) := by
      have e1 : (i : Int).tdiv 26 = ((i / 26 : Nat) : Int) := rfl
      have e2 : (((i / 26 : Nat) : Int)).tmod 26 = ((i / 26 % 26 : Nat) : Int) := rfl
      rw [u8_toNat _ (by omega), e1, IntWalk.i64_in ((i / 26 : Nat) : Int) (by omega), e2, wrap_u8_nat, IntKind.wrap_u8]; omega
    have k3 : IntKind.u8.wrap (97 + IntKind.u8.wrap ((i : Int).tmod 26)) = (((u8 (97 + i % 26)).toNat : Nat) : Int) := by
      have e2 : (i : Int).tmod 26 = ((i % 26 : Nat) : Int) := rfl
      rw [u8_toNat _ (by omega), e2, wrap_u8_nat, IntKind.wrap_u8]; omega
    have mk3 : ∀ (h : Heap) (a b c : CV), mkO h 1 3 [VV.cv (CV.sc (.int .u8 0)), .cv (.sc (.int .u8 0)), .cv (.sc (.int .u8 0))] [(0, 1, .cv a), (1, 1, .cv b), (2, 1, .cv c)] = some (.cv (.sl 1 [[a], [b], [c]] true), h) := fun _ _ _ _ => rfl
    have bs3 : ∀ h : Heap, bsO h (.cv (.sl 1 [[.sc (.int .u8 ((u8 (97 + i / 676)).toNat : Nat))], [.sc (.int .u8 ((u8 (97 + i / 26 % 26)).toNat : Nat))], [.sc (.int .u8 ((u8 (97 + i % 26)).toNat : Nat))]] true)) = some (txt (manyK i)) := fun h => (show SlV 1 (eB (manyK i)) _ from .inr ⟨true, rfl⟩).bs
    have bdo : ∀ (k : List UInt8) (j : Nat), bdO [.cv (.sc (.string ⟨#[]⟩)), .cv (.sc (.slice none 0 0))] [(0, 1, txt k), (1, 1, .own j 0 0 size true)] = some (.agg [txt k, .own j 0 0 size true]) := fun _ _ => rfl
    have hlen : (eB (List.replicate size (u8 i))).length = size := by rw [eB_len, List.length_replicate]
    simp only [go_sem, Nat.reduceLT, Nat.reduceEqDiff, reduceCtorEq, Int.reduceLT, Int.reduceEq, B_exit, hs', b6, b5, b7, k1, k2, k3, mk3, bs3, bdo]
    rw [mk_agg2_own hlen]
    simp only [go_sem, Nat.reduceLT, Nat.reduceEqDiff, reduceCtorEq, Int.reduceLT, Int.reduceEq, hs', b5]
    have hb1 := (hb.push (VO.arr 1 (eB (List.replicate size (u8 i))) 0 true))
    refine XO_appBG hb1 (by simp only [go_sem, Nat.reduceLT, Nat.reduceEqDiff, reduceCtorEq, Int.reduceLT, Int.reduceEq, hs', b5]) (by simp only [go_sem, Nat.reduceLT, Nat.reduceEqDiff, reduceCtorEq, Int.reduceLT, Int.reduceEq, hs', src_sl]; rfl) (by simp only [List.length_singleton]; omega) (by simp only [List.length_singleton]; omega) (fun v' h' hb' _ => ?_)
    simp only [go_sem, Nat.reduceLT, Nat.reduceEqDiff, reduceCtorEq, Int.reduceLT, Int.reduceEq, hs', b6, hwr]
    refine ih (i + 1) _ v' _ _ Q (by omega) hb' (by rw [many_snoc]; exact hR.snoc ⟨_, rfl, .inr ⟨true, rfl⟩⟩) (by simp only [slot_len, hs']) (by simp only [go_sem, Nat.reduceLT, Nat.reduceEqDiff, reduceCtorEq, Int.reduceLT, Int.reduceEq, b0]) (by simp only [go_sem, Nat.reduceLT, Nat.reduceEqDiff, reduceCtorEq, Int.reduceLT, Int.reduceEq, b1]) (by simp only [go_sem, Nat.reduceLT, Nat.reduceEqDiff, reduceCtorEq, Int.reduceLT, Int.reduceEq, hs']) (by simp only [go_sem, Nat.reduceLT, Nat.reduceEqDiff, reduceCtorEq, Int.reduceLT, Int.reduceEq, hs']) hQ

theorem many_f12 {n size : Nat} (hn : n ≤ 255) (hz : size ≤ 160) : RetP F 12 [vi .i64 n, vi .i64 size] fun w => ∃ els, SlV 2 els w ∧ RowsE els (manyL n size) := by
  have : Ret F 12 [vi .i64 n, vi .i64 size] [] fun v g => ∃ els, BufG g 2 els v ∧ RowsE els (manyL n size) := by
    refine call_E (fn := f12) rfl ?_
    simp only [f12]
    generalize hs0 : ([vi .i64 n, vi .i64 size] ++ List.replicate _ VV.undef : List VV) = s
    have hs : s.length = 48 := by rw [← hs0]; rfl
    have h0 : s.getD 0 .undef = vi .i64 n := by rw [← hs0]; rfl
    have h1 : s.getD 1 .undef = vi .i64 size := by rw [← hs0]; rfl
    clear hs0
    simp only [go_sem, Nat.reduceLT, Nat.reduceEqDiff, reduceCtorEq, Int.reduceLT, Int.reduceEq, hs]
    refine f12_loop hn hz n 0 [] nilS _ _ _ (by omega) (BufG.nil _ _) .nil (by simp only [slot_len, hs]) (by simp only [go_sem, Nat.reduceLT, Nat.reduceEqDiff, reduceCtorEq, Int.reduceLT, Int.reduceEq, h0]) (by simp only [go_sem, Nat.reduceLT, Nat.reduceEqDiff, reduceCtorEq, Int.reduceLT, Int.reduceEq, h1]) (by simp only [go_sem, Nat.reduceLT, Nat.reduceEqDiff, reduceCtorEq, Int.reduceLT, Int.reduceEq, hs]) (by simp only [go_sem, Nat.reduceLT, Nat.reduceEqDiff, reduceCtorEq, Int.reduceLT, Int.reduceEq, hs]; rfl) (fun s' h' els' v' a1 a2 a3 a4 => ?_)
    simp only [go_sem, Nat.reduceLT, Nat.reduceEqDiff, reduceCtorEq, Int.reduceLT, Int.reduceEq, a1, a2]
    exact ⟨els', a3, a4⟩
  obtain ⟨v, g, n1, els, hb, hR⟩ := this
  exact ⟨v, g, n1, _, hb.close, els, slV_SlV, hR⟩
end Go.V06

set_option linter.unusedSimpArgs false
set_option linter.unusedVariables false
namespace Go.V06
open Go Go.Vm

/-! ### TreeBuilds -/
theorem f3_loop {els : List (List CV)} {kv : List KV} {u : VV} (hS : SlV 2 els u) (hR : RowsE els kv) (hn : kv.length ≤ 9223372036854775807) (h : Heap) :
    ∀ (r k : Nat) (n : Int) (s : List VV) (Q : Pst), k + r = kv.length → s.length = 62 → s.getD 0 .undef = u → s.getD 9 .undef = vi .i64 n → s.getD 10 .undef = vi .i64 k →
      (∀ s' n', s'.length = 62 → s'.getD 0 .undef = s.getD 0 .undef → s'.getD 1 .undef = s.getD 1 .undef → s'.getD 2 .undef = s.getD 2 .undef → s'.getD 3 .undef = s.getD 3 .undef → s'.getD 9 .undef = vi .i64 n' → Q (.exit 0) ⟨s', h⟩) → X F (.loop f3_0) ⟨s, h⟩ Q := by
  have hl := hR.len
  intro r
  induction r with
  | zero =>
    intro k n s Q hk hs h0 h9 h10 hQ
    rw [X_loop, X_eq f3_0.eq_1]
    have c : ¬ (k : Int) < (kv.length : Int) := by omega
    simp only [go_sem, Nat.reduceLT, Nat.reduceEqDiff, reduceCtorEq, Int.reduceLT, Int.reduceEq, hs, h0, h10, hS.ln, hl, c]
    exact hQ _ n (by simp only [slot_len, hs]) (by simp only [go_sem, Nat.reduceLT, Nat.reduceEqDiff, reduceCtorEq, Int.reduceLT, Int.reduceEq, h0]) (by simp only [go_sem, Nat.reduceLT, Nat.reduceEqDiff, reduceCtorEq, Int.reduceLT, Int.reduceEq]) (by simp only [go_sem, Nat.reduceLT, Nat.reduceEqDiff, reduceCtorEq, Int.reduceLT, Int.reduceEq]) (by simp only [go_sem, Nat.reduceLT, Nat.reduceEqDiff, reduceCtorEq, Int.reduceLT, Int.reduceEq]) (by simp only [go_sem, Nat.reduceLT, Nat.reduceEqDiff, reduceCtorEq, Int.reduceLT, Int.reduceEq, h9])
  | succ r ih =>
    intro k n s Q hk hs h0 h9 h10 hQ
    rw [X_loop, X_eq f3_0.eq_1]
    have c : (k : Int) < (kv.length : Int) := by omega
    obtain ⟨e, p, he, hp, cc, rfl, hc⟩ := hR.get (i := k) (by omega)
    have hia := hS.ia (h := h) (k := .i64) (j := (k : Int)) (by omega) he
    have hw : IntKind.i64.wrap ((k : Int) + 1) = ((k + 1 : Nat) : Int) := by rw [IntWalk.i64_in _ (by omega)]; omega
    simp only [go_sem, Nat.reduceLT, Nat.reduceEqDiff, reduceCtorEq, Int.reduceLT, Int.reduceEq, hs, h0, h10, hS.ln, hl, c]
    refine X_draw rfl ?_
    simp only [go_sem, Nat.reduceLT, Nat.reduceEqDiff, reduceCtorEq, Int.reduceLT, Int.reduceEq, hs, h0, h9, h10, hia, hc.ln, hw]
    exact ih (k + 1) _ _ Q (by omega) (by simp only [slot_len, hs]) (by simp only [go_sem, Nat.reduceLT, Nat.reduceEqDiff, reduceCtorEq, Int.reduceLT, Int.reduceEq, h0]) (by simp only [go_sem, Nat.reduceLT, Nat.reduceEqDiff, reduceCtorEq, Int.reduceLT, Int.reduceEq, hs]; rfl) (by simp only [go_sem, Nat.reduceLT, Nat.reduceEqDiff, reduceCtorEq, Int.reduceLT, Int.reduceEq, hs]) (fun s' n' a a0 a1 a2 a3 a9 => hQ s' n' a (by rw [a0]; simp only [go_sem, Nat.reduceLT, Nat.reduceEqDiff, reduceCtorEq, Int.reduceLT, Int.reduceEq]) (by rw [a1]; simp only [go_sem, Nat.reduceLT, Nat.reduceEqDiff, reduceCtorEq, Int.reduceLT, Int.reduceEq]) (by rw [a2]; simp only [go_sem, Nat.reduceLT, Nat.reduceEqDiff, reduceCtorEq, Int.reduceLT, Int.reduceEq]) (by rw [a3]; simp only [go_sem, Nat.reduceLT, Nat.reduceEqDiff, reduceCtorEq, Int.reduceLT, Int.reduceEq]) a9)

theorem fold_len : ∀ (L acc : List KV), (L.foldl layF acc).length ≤ acc.length + 2 * L.length
  | [], acc => by simp
  | p :: L, acc => by
    have h1 := fold_len L (layF acc p)
    have h2 := layF_len acc p
    simp only [List.foldl_cons, List.length_cons]
    omega
theorem risL_len (n : Nat) (c : List UInt8) : (risL n c).length ≤ 2 * n := by
  have h1 := fold_len (rowL n c) []
  have h2 := rowL_len n c
  simp only [List.length_nil] at h1
  unfold risL
  omega

theorem law_builds {els : List (List CV)} {kv : List KV} {u : VV} (hS : SlV 2 els u) (hR : RowsE els kv) (hn : kv.length ≤ 9223372036854775807) (c : List UInt8) (vc : VV) (hc : SlV 1 (eB c) vc) (n size : UInt8) : ∃ h', call F 3 [u, vc, vi .u8 n.toNat, vi .u8 size.toNat] [] = some (.ret (vb true), h') := by
  have : Ret F 3 [u, vc, vi .u8 n.toNat, vi .u8 size.toNat] [] fun v h' => v = vb true := by
    refine call_E (fn := f3) rfl ?_
    simp only [f3]
    generalize hs0 : ([u, vc, vi .u8 n.toNat, vi .u8 size.toNat] ++ List.replicate _ VV.undef : List VV) = s
    have hs : s.length = 62 := by rw [← hs0]; rfl
    have h0 : s.getD 0 .undef = u := by rw [← hs0]; rfl
    have h1 : s.getD 1 .undef = vc := by rw [← hs0]; rfl
    have h2 : s.getD 2 .undef = vi .u8 n.toNat := by rw [← hs0]; rfl
    have h3 : s.getD 3 .undef = vi .u8 size.toNat := by rw [← hs0]; rfl
    clear hs0
    obtain ⟨h8', n8⟩ := known_f8
    obtain ⟨h9a, n9a⟩ := builds_f9 hS hR hn
    have hl := hR.len
    simp only [go_sem, Nat.reduceLT, Nat.reduceEqDiff, reduceCtorEq, Int.reduceLT, Int.reduceEq, hs, h0, hS.ln]
    refine f3_loop hS hR hn [] kv.length 0 els.length _ _ (by omega) (by simp only [slot_len, hs]) (by simp only [go_sem, Nat.reduceLT, Nat.reduceEqDiff, reduceCtorEq, Int.reduceLT, Int.reduceEq, h0]) (by simp only [go_sem, Nat.reduceLT, Nat.reduceEqDiff, reduceCtorEq, Int.reduceLT, Int.reduceEq, hs]) (by simp only [go_sem, Nat.reduceLT, Nat.reduceEqDiff, reduceCtorEq, Int.reduceLT, Int.reduceEq, hs]; rfl) (fun s' n' hs' a0 a1 a2 a3 a9 => ?_)
    have b0 : s'.getD 0 .undef = u := by rw [a0]; simp only [go_sem, Nat.reduceLT, Nat.reduceEqDiff, reduceCtorEq, Int.reduceLT, Int.reduceEq, h0]
    have b1 : s'.getD 1 .undef = vc := by rw [a1]; simp only [go_sem, Nat.reduceLT, Nat.reduceEqDiff, reduceCtorEq, Int.reduceLT, Int.reduceEq, h1]
    have b2 : s'.getD 2 .undef = vi .u8 n.toNat := by rw [a2]; simp only [go_sem, Nat.reduceLT, Nat.reduceEqDiff, reduceCtorEq, Int.reduceLT, Int.reduceEq, h2]
    have b3 : s'.getD 3 .undef = vi .u8 size.toNat := by rw [a3]; simp only [go_sem, Nat.reduceLT, Nat.reduceEqDiff, reduceCtorEq, Int.reduceLT, Int.reduceEq, h3]
    clear a0 a1 a2 a3
    simp only [go_sem, Nat.reduceLT, Nat.reduceEqDiff, reduceCtorEq, Int.reduceLT, Int.reduceEq, hs']
    rw [X_eq f3_1.eq_1]
    by_cases d : n' > 1500
    · simp only [go_sem, Nat.reduceLT, Nat.reduceEqDiff, reduceCtorEq, Int.reduceLT, Int.reduceEq, hs', a9, d]
      refine XO_callP (h1 := []) (by simp only [List.map]; rfl) n8 rfl ?_
      simp only [go_sem, Nat.reduceLT, Nat.reduceEqDiff, reduceCtorEq, Int.reduceLT, Int.reduceEq, hs']
    · simp only [go_sem, Nat.reduceLT, Nat.reduceEqDiff, reduceCtorEq, Int.reduceLT, Int.reduceEq, hs', a9, d]
      refine XO_callP (h1 := []) (by simp only [List.map]; rfl) n8 rfl ?_
      obtain ⟨v10, h10, n10, w10, r10, els10, sl10, R10⟩ := rising_pure hc (n := 30) (by omega)
      obtain ⟨h9b, n9b⟩ := builds_f9 sl10 R10 (by have := risL_len 30 c; omega)
      obtain ⟨v11, h11, els11, n11, r11, R11⟩ := list_pure c vc hc 6 (by omega)
      have hl6 := rowL_len 6 c
      obtain ⟨h9c, n9c⟩ := builds_f9 slV_SlV R11 (by omega)
      have hn8 := n.toNat_lt
      have hs8 := size.toNat_lt
      obtain ⟨v12, h12, n12, w12, r12, els12, sl12, R12⟩ := many_f12 (n := n.toNat) (size := size.toNat % 160) (by omega) (by omega)
      obtain ⟨h9d, n9d⟩ := builds_f9 sl12 R12 (by rw [many_len]; omega)
      have z160 : (160 : Int) ≠ 0 := by decide
      have e1 : IntKind.i64.wrap (n.toNat : Int) = ((n.toNat : Nat) : Int) := IntWalk.i64_in _ (by omega)
      have e2 : IntKind.i64.wrap ((size.toNat : Int).tmod 160) = ((size.toNat % 160 : Nat) : Int) := by
        have e : (size.toNat : Int).tmod 160 = ((size.toNat % 160 : Nat) : Int) := rfl
        rw [e]; exact IntWalk.i64_in _ (by omega)
      simp only [go_sem, Nat.reduceLT, Nat.reduceEqDiff, reduceCtorEq, Int.reduceLT, Int.reduceEq, hs', b0]
      refine XO_callP (h1 := []) (by simp only [List.map, go_sem, Nat.reduceLT, Nat.reduceEqDiff, reduceCtorEq, Int.reduceLT, Int.reduceEq, hs']; exact hS.clos rfl) n9a rfl ?_
      simp only [go_sem, Nat.reduceLT, Nat.reduceEqDiff, reduceCtorEq, Int.reduceLT, Int.reduceEq, hs', b1]
      refine XO_callP (h1 := []) (by simp only [List.map, go_sem, Nat.reduceLT, Nat.reduceEqDiff, reduceCtorEq, Int.reduceLT, Int.reduceEq, hs']; exact hc.clos rfl) n10 r10 ?_
      simp only [go_sem, Nat.reduceLT, Nat.reduceEqDiff, reduceCtorEq, Int.reduceLT, Int.reduceEq, hs']
      refine XO_callP (h1 := []) (by simp only [List.map, go_sem, Nat.reduceLT, Nat.reduceEqDiff, reduceCtorEq, Int.reduceLT, Int.reduceEq, hs']; exact sl10.clos rfl) n9b rfl ?_
      simp only [go_sem, Nat.reduceLT, Nat.reduceEqDiff, reduceCtorEq, Int.reduceLT, Int.reduceEq, hs', b1]
      refine XO_callP (h1 := []) (by simp only [List.map, go_sem, Nat.reduceLT, Nat.reduceEqDiff, reduceCtorEq, Int.reduceLT, Int.reduceEq, hs']; exact hc.clos rfl) n11 r11 ?_
      simp only [go_sem, Nat.reduceLT, Nat.reduceEqDiff, reduceCtorEq, Int.reduceLT, Int.reduceEq, hs']
      refine XO_callP (h1 := []) (by simp only [List.map, go_sem, Nat.reduceLT, Nat.reduceEqDiff, reduceCtorEq, Int.reduceLT, Int.reduceEq, hs']; exact slV_SlV.clos rfl) n9c rfl ?_
      simp only [go_sem, Nat.reduceLT, Nat.reduceEqDiff, reduceCtorEq, Int.reduceLT, Int.reduceEq, hs', b2, b3, bin_rem z160, e1, e2]
      refine XO_callP (h1 := []) (by simp only [List.map, go_sem, Nat.reduceLT, Nat.reduceEqDiff, reduceCtorEq, Int.reduceLT, Int.reduceEq, hs']; rfl) n12 r12 ?_
      simp only [go_sem, Nat.reduceLT, Nat.reduceEqDiff, reduceCtorEq, Int.reduceLT, Int.reduceEq, hs']
      refine XO_callP (h1 := []) (by simp only [List.map, go_sem, Nat.reduceLT, Nat.reduceEqDiff, reduceCtorEq, Int.reduceLT, Int.reduceEq, hs']; exact sl12.clos rfl) n9d rfl ?_
      simp only [go_sem, Nat.reduceLT, Nat.reduceEqDiff, reduceCtorEq, Int.reduceLT, Int.reduceEq, hs']
  obtain ⟨v, h', e1, rfl⟩ := this
  exact ⟨h', e1⟩
/-! ### rows, as they are read -/
theorem row_of {H : Type} {d : DataW H} {el : List CV} (h : DR Proofs.Try.prog 7 25 d el) (hlen : el.length = 2) : ∃ p, rowE el p := by
  obtain ⟨ds, rfl, hd, hc, hf⟩ := DR_struct Proofs.Try.underlying25 h
  match ds, hd with
  | [d1, d2], _ =>
    match el, hlen with
    | [c1, c2], _ =>
      have f1 : DR Proofs.Try.prog 6 9 d1 (([c1, c2].drop 0).take (Proofs.Try.prog.cellsOf 9)) := hf 0 _ d1 rfl rfl
      have f2 : DR Proofs.Try.prog 6 23 d2 (([c1, c2].drop 1).take (Proofs.Try.prog.cellsOf 23)) := hf 1 _ d2 rfl rfl
      have k1 : Proofs.Try.prog.cellsOf 9 = 1 := by kernel_rfl
      have k2 : Proofs.Try.prog.cellsOf 23 = 1 := by kernel_rfl
      rw [k1] at f1
      rw [k2] at f2
      obtain ⟨s, rfl, e1, _⟩ := DR_string Proofs.Try.underlying9 f1
      obtain ⟨l, c, e2, hl, hb, _⟩ := DR_bytes Proofs.Try.underlying23 Proofs.Try.underlying5 (by kernel_rfl) f2
      simp at e1 e2
      subst e1 e2
      exact ⟨(s.data.toList, l), _, rfl, hl⟩
theorem rows_of {H : Type} {d : DataW H} {u : VV} (h : DV Proofs.Try.prog 22 d u) : ∃ els kv, SlV 2 els u ∧ RowsE els kv ∧ kv.length ≤ 9223372036854775807 := by
  obtain ⟨c, h1, rfl⟩ := DV_plain (by simp only [isStr, Proofs.Try.underlying22]) h
  have k2 : Proofs.Try.prog.cellsOf 25 = 2 := by kernel_rfl
  rcases DR_slice Proofs.Try.underlying22 h1 with ⟨rfl, e⟩ | ⟨ds, rest, els, rfl, e, h2, h3, h4⟩
  · cases e
    exact ⟨[], [], .inl ⟨rfl, rfl⟩, .nil, by simp⟩
  · cases e
    rw [k2] at h4 ⊢
    have key : ∀ (els : List (List CV)) (ds : List (DataW H)), els.length = ds.length → (∀ (i : Nat) (el : List CV) (y : DataW H), els[i]? = some el → ds[i]? = some y → el.length = 2 ∧ DR Proofs.Try.prog 7 25 y el) → ∃ kv, RowsE els kv := by
      intro els
      induction els with
      | nil => intro ds _ _; exact ⟨[], .nil⟩
      | cons el r ih =>
        intro ds hl hh
        match ds, hl with
        | y :: ys, hl =>
          obtain ⟨a1, a2⟩ := hh 0 el y rfl rfl
          obtain ⟨p, b1⟩ := row_of a2 a1
          obtain ⟨kv, c1⟩ := ih ys (by simpa using hl) (fun i el y h1 h2 => hh (i + 1) el y (by simpa using h1) (by simpa using h2))
          exact ⟨p :: kv, .cons b1 c1⟩
    obtain ⟨kv, c1⟩ := key els ds h2 h4
    have hm : maxLen = 9223372036854775807 := rfl
    exact ⟨els, kv, .inr ⟨false, rfl⟩, c1, by rw [← c1.len]; omega⟩

theorem builds_in {H : Type} {d0 d1 d2 d3 : DataW H} {u0 u1 u2 u3 : VV} (h0 : DV Proofs.Try.prog 22 d0 u0) (h1 : DV Proofs.Try.prog 23 d1 u1) (h2 : DV Proofs.Try.prog 5 d2 u2) (h3 : DV Proofs.Try.prog 5 d3 u3) :
    ∃ h', call F 3 [u0, u1, u2, u3] [] = some (.ret (vb true), h') := by
  obtain ⟨els, kv, hS, hR, hn⟩ := rows_of h0
  obtain ⟨c, hc, _⟩ := DV_bytes (e := 5) (by kernel_rfl) (by kernel_rfl) (by kernel_rfl) h1
  obtain ⟨n, rfl⟩ := DV_u8 (by kernel_rfl) h2
  obtain ⟨k, rfl⟩ := DV_u8 (by kernel_rfl) h3
  exact law_builds hS hR hn c u1 hc n k
end Go.V06

set_option linter.unusedSimpArgs false
set_option linter.unusedVariables false
namespace Go.V06
open Go Go.Vm

/-! ### rows that rise -/
def Srt (l : List KV) : Prop := l.Pairwise fun p q => Op.bytesLess p.1 q.1 = true

theorem layS_srt1 (r : KV) : ∀ l : List KV, Srt l → Srt (layS r l true).1 ∧ ∀ q ∈ (layS r l true).1, q ∈ l
  | [], _ => by simp [layS, Srt]
  | p :: t, h => by
    rw [Srt, List.pairwise_cons] at h
    obtain ⟨h1, h2⟩ := layS_srt1 r t h.2
    rw [layS]
    split
    · exact ⟨h1, fun q hq => List.mem_cons_of_mem _ (h2 q hq)⟩
    · rw [if_neg (by simp)]
      refine ⟨?_, ?_⟩
      · rw [Srt, List.pairwise_cons]; exact ⟨fun q hq => h.1 q (h2 q hq), h1⟩
      · intro q hq
        rcases List.mem_cons.1 hq with rfl | hq
        · exact List.mem_cons_self
        · exact List.mem_cons_of_mem _ (h2 q hq)
theorem layS_srt (r : KV) : ∀ l : List KV, Srt l → Srt (layS r l false).1 ∧ ((layS r l false).2 = true → ∀ q ∈ (layS r l false).1, q ∈ l ∨ q = r) ∧ ((layS r l false).2 = false → ∀ q ∈ (layS r l false).1, q ∈ l ∧ Op.bytesLess q.1 r.1 = true)
  | [], _ => by simp [layS, Srt]
  | p :: t, h => by
    rw [Srt, List.pairwise_cons] at h
    obtain ⟨h1, h2, h3⟩ := layS_srt r t h.2
    rw [layS]
    split
    · refine ⟨h1, fun hb q hq => ?_, fun hb q hq => ⟨List.mem_cons_of_mem _ (h3 hb q hq).1, (h3 hb q hq).2⟩⟩
      rcases h2 hb q hq with h | h
      · exact .inl (List.mem_cons_of_mem _ h)
      · exact .inr h
    · rename_i hne
      split
      · rename_i hgt
        obtain ⟨g1, g2⟩ := layS_srt1 r t h.2
        have hr : ∀ q ∈ p :: (layS r t true).1, Op.bytesLess r.1 q.1 = true := by
          intro q hq
          rcases List.mem_cons.1 hq with rfl | hq
          · exact hgt.2
          · exact bl_trans hgt.2 (h.1 q (g2 q hq))
        refine ⟨?_, ?_, ?_⟩
        · rw [Srt, List.pairwise_cons]
          refine ⟨hr, ?_⟩
          rw [List.pairwise_cons]
          exact ⟨fun q hq => h.1 q (g2 q hq), g1⟩
        · intro _ q hq
          rcases List.mem_cons.1 hq with rfl | hq
          · exact .inr rfl
          · rcases List.mem_cons.1 hq with rfl | hq
            · exact .inl List.mem_cons_self
            · exact .inl (List.mem_cons_of_mem _ (g2 q hq))
        · intro hb
          exfalso
          have : ∀ t : List KV, (layS r t true).2 = true := by
            intro t
            induction t with
            | nil => rfl
            | cons p t ih =>
              rw [layS]
              split
              · exact ih
              · rw [if_neg (by simp)]; exact ih
          rw [this t] at hb
          cases hb
      · rename_i hle
        have hpr : Op.bytesLess p.1 r.1 = true := by
          rcases bl_total p.1 r.1 with h | h | h
          · exact h
          · exact absurd h hne
          · exact absurd ⟨rfl, h⟩ hle
        refine ⟨?_, ?_, ?_⟩
        · rw [Srt, List.pairwise_cons]
          refine ⟨fun q hq => ?_, h1⟩
          cases hb : (layS r t false).2 with
          | true =>
            rcases h2 hb q hq with h' | rfl
            · exact h.1 q h'
            · exact hpr
          | false => exact h.1 q (h3 hb q hq).1
        · intro hb q hq
          rcases List.mem_cons.1 hq with rfl | hq
          · exact .inl List.mem_cons_self
          · rcases h2 hb q hq with h' | h'
            · exact .inl (List.mem_cons_of_mem _ h')
            · exact .inr h'
        · intro hb q hq
          rcases List.mem_cons.1 hq with rfl | hq
          · exact ⟨List.mem_cons_self, hpr⟩
          · exact ⟨List.mem_cons_of_mem _ (h3 hb q hq).1, (h3 hb q hq).2⟩
theorem layF_srt {l : List KV} (r : KV) (h : Srt l) : Srt (layF l r) := by
  obtain ⟨h1, h2, h3⟩ := layS_srt r l h
  unfold layF
  cases hb : (layS r l false).2 with
  | true => rw [if_pos rfl]; exact h1
  | false =>
    rw [if_neg (by simp), Srt, List.pairwise_append]
    refine ⟨h1, by simp, fun a ha b hb' => ?_⟩
    rw [List.mem_singleton] at hb'
    subst hb'
    exact (h3 hb a ha).2
theorem fold_srt : ∀ (L acc : List KV), Srt acc → Srt (L.foldl layF acc)
  | [], _, h => h
  | p :: L, acc, h => fold_srt L _ (layF_srt p h)
theorem risL_srt (n : Nat) (c : List UInt8) : Srt (risL n c) := fold_srt _ _ List.Pairwise.nil

theorem srt_rising : ∀ {l : List KV}, Srt l → risingF l = true
  | [], _ => rfl
  | [_], _ => rfl
  | a :: b :: r, h => by
    rw [Srt, List.pairwise_cons] at h
    have h1 := h.1 b List.mem_cons_self
    rw [risingF, bl_not_le.2 h1, srt_rising h.2]
    rfl
theorem srt_at {l : List KV} (h : Srt l) {i j : Nat} {p q : KV} (hij : i < j) (hp : l[i]? = some p) (hq : l[j]? = some q) : Op.bytesLess p.1 q.1 = true := by
  obtain ⟨hi, rfl⟩ := List.getElem?_eq_some_iff.1 hp
  obtain ⟨hj, rfl⟩ := List.getElem?_eq_some_iff.1 hq
  exact (List.pairwise_iff_getElem.1 h) i j hi hj hij
theorem rising_not : ∀ (l : List KV) (i : Nat) (p q : KV), l[i]? = some p → l[i + 1]? = some q → bl_le q.1 p.1 = true → risingF l = false
  | [], _, _, _, h, _, _ => by simp at h
  | [_], i, _, _, _, h, _ => by simp at h
  | a :: b :: r, 0, p, q, hp, hq, h => by
    simp at hp hq
    subst hp hq
    rw [risingF, h]; rfl
  | a :: b :: r, i + 1, p, q, hp, hq, h => by
    have := rising_not (b :: r) i p q (by simpa using hp) (by simpa using hq) h
    rw [risingF, this, Bool.and_false]
theorem build_not {l : List KV} (h : risingF l = false) : buildF l = none := by
  unfold buildF; rw [if_neg (by rw [h]; simp)]
theorem bl_le_refl (a : List UInt8) : bl_le a a = true := bl_le_iff.2 (bl_irrefl a)
theorem bl_le_of {a b : List UInt8} (h : Op.bytesLess a b = true) : bl_le a b = true := bl_le_iff.2 (bl_asymm h)

theorem RowsE.put {els : List (List CV)} {kv : List KV} (hR : RowsE els kv) (i : Nat) {e : List CV} {p : KV} (h : rowE e p) : RowsE (els.set i e) (kv.set i p) := by
  induction hR generalizing i with
  | nil => simp; exact .nil
  | cons h1 t ih =>
    cases i with
    | zero => exact .cons h t
    | succ i => exact .cons h1 (ih i)
end Go.V06

set_option linter.unusedSimpArgs false
set_option linter.unusedVariables false
namespace Go.V06
open Go Go.Vm

/-! ### TreeHalf -/
theorem KZ.setArr {h : Heap} {id z g : Nat} {els : List (List CV)} (ha : h[id]? = some (.arr z els g false)) (o : VO) : KZ h (h.set id o) := by
  intro j z' e g' hj
  rw [List.getElem?_set_ne (by rintro rfl; rw [ha] at hj; cases hj)]
  exact hj

theorem law_half {c : List UInt8} {vc : VV} (hc : SlV 1 (eB c) vc) (k : UInt8) : ∃ h', call F 5 [vc, vi .u8 k.toNat] [] = some (.ret (vb true), h') := by
  have : Ret F 5 [vc, vi .u8 k.toNat] [] fun v h' => v = vb true := by
    refine call_E (fn := f5) rfl ?_
    simp only [f5]
    generalize hs0 : ([vc, vi .u8 k.toNat] ++ List.replicate _ VV.undef : List VV) = s
    have hs : s.length = 83 := by rw [← hs0]; rfl
    have h0 : s.getD 0 .undef = vc := by rw [← hs0]; rfl
    have h1 : s.getD 1 .undef = vi .u8 k.toNat := by rw [← hs0]; rfl
    clear hs0
    obtain ⟨h8', n8⟩ := known_f8
    have cl8 : ∀ h : Heap, closAs h [] = some ([], h) := fun _ => rfl
    obtain ⟨v1, g1, n10, hh1, els, x1, hB, hR⟩ := rising_f10 (h := []) hc (n := 20) (by omega)
    have hsrt := risL_srt 20 c
    have hrl := risL_len 20 c
    have hl := hR.len
    simp only [go_sem, Nat.reduceLT, Nat.reduceEqDiff, reduceCtorEq, Int.reduceLT, Int.reduceEq, hs, h0]
    refine XO_callR (by simp only [List.map, go_sem, Nat.reduceLT, Nat.reduceEqDiff, reduceCtorEq, Int.reduceLT, Int.reduceEq, hs]; exact n10) ?_
    simp only [go_sem, Nat.reduceLT, Nat.reduceEqDiff, reduceCtorEq, Int.reduceLT, Int.reduceEq, hs, hB.ln]
    rw [X_eq f5_0.eq_1]
    by_cases d : els.length < 2
    · have d' : ((els.length : Nat) : Int) < 2 := by omega
      simp only [go_sem, Nat.reduceLT, Nat.reduceEqDiff, reduceCtorEq, Int.reduceLT, Int.reduceEq, hs, hB.ln, d']
      refine XO_callP (h1 := g1) (by simp only [List.map]; rfl) n8 rfl ?_
      simp only [go_sem, Nat.reduceLT, Nat.reduceEqDiff, reduceCtorEq, Int.reduceLT, Int.reduceEq, hs]
    · have d' : ¬ ((els.length : Nat) : Int) < 2 := by omega
      have hk8 := k.toNat_lt
      obtain ⟨i, hi⟩ : ∃ i, i = k.toNat % (els.length - 1) := ⟨_, rfl⟩
      have hil : i + 1 < els.length := by
        have : i < els.length - 1 := by rw [hi]; exact Nat.mod_lt _ (by omega)
        omega
      obtain ⟨e0, p0, he0, hp0, c0, rfl, hc0⟩ := hR.get (i := i) (by omega)
      obtain ⟨e1, p1, he1, hp1, c1, rfl, hc1⟩ := hR.get (i := i + 1) (by omega)
      have hlt := srt_at hsrt (Nat.lt_succ_self i) hp0 hp1
      obtain ⟨id, g, rfl, hat, _⟩ := hB.ia (k := .i64) (j := 0) (by omega)
      have w1 : IntKind.i64.wrap (k.toNat : Int) = ((k.toNat : Nat) : Int) := IntWalk.i64_in _ (by omega)
      have w2 : IntKind.i64.wrap (((els.length : Nat) : Int) - 1) = ((els.length - 1 : Nat) : Int) := by rw [IntWalk.i64_in _ (by omega)]; omega
      have z2 : ((els.length - 1 : Nat) : Int) ≠ 0 := by omega
      have w3 : ((k.toNat : Nat) : Int).tmod ((els.length - 1 : Nat) : Int) = ((i : Nat) : Int) := by
        have e : ((k.toNat : Nat) : Int).tmod ((els.length - 1 : Nat) : Int) = ((k.toNat % (els.length - 1) : Nat) : Int) := rfl
        rw [e, ← hi]
      have w4 : IntKind.i64.wrap ((i : Int) + 1) = ((i + 1 : Nat) : Int) := by rw [IntWalk.i64_in _ (by omega)]; omega
      -- places
      have ia : ∀ (h : Heap) (els' : List (List CV)) (j : Nat), h[id]? = some (.arr 2 els' g false) → els'.length = els.length → j < els.length → iaO h 2 (.own id g 0 els.length false) (vi .i64 (j : Int)) = some (.eptr id g j 0, h) := by
        intro h els' j ha hle hj
        rw [ia_own (by omega) ha (by simpa using hj)]; simp
      have ld0 : ldO g1 true 2 (.eptr id g i 0) = some (.agg [txt p0.1, .cv c0], g1) := ld_ecells hat he0 rfl
      have hidl := lt_at hat
      simp only [go_sem, Nat.reduceLT, Nat.reduceEqDiff, reduceCtorEq, Int.reduceLT, Int.reduceEq, hs, hB.ln, d', h1, w1, w2, bin_rem z2, w3, ia g1 els i hat rfl (by omega), ld0]
      obtain ⟨g2, hg2⟩ : ∃ g2, g2 = g1 ++ [VO.box [txt p0.1, .cv c0] false] := ⟨_, rfl⟩
      have hat2 : g2[id]? = some (.arr 2 els g false) := by rw [hg2, List.getElem?_append_left hidl]; exact hat
      have hbx2 : g2[g1.length]? = some (.box [txt p0.1, .cv c0] false) := by rw [hg2]; exact at_last
      rw [← hg2]
      have ld1 : ldO g2 true 2 (.eptr id g (i + 1) 0) = some (.agg [txt p1.1, .cv c1], g2) := ld_ecells hat2 he1 rfl
      have s1 : stO g2 2 (.eptr id g i 0) (.agg [txt p1.1, .cv c1]) = some (.undef, g2.set id (.arr 2 (els.set i [.sc (.string ⟨p1.1.toArray⟩), c1]) g false)) := st_ecells (cs := [.sc (.string ⟨p1.1.toArray⟩), c1]) rfl hat2 he0 rfl
      simp only [go_sem, Nat.reduceLT, Nat.reduceEqDiff, reduceCtorEq, Int.reduceLT, Int.reduceEq, hs, w4, ia g2 els (i + 1) hat2 rfl hil, ia g2 els i hat2 rfl (by omega), ld1, s1]
      obtain ⟨els3, hels3⟩ : ∃ e, e = els.set i [.sc (.string ⟨p1.1.toArray⟩), c1] := ⟨_, rfl⟩
      have hl3 : els3.length = els.length := by rw [hels3, List.length_set]
      have he13 : els3[i + 1]? = some [.sc (.string ⟨p1.1.toArray⟩), c1] := by rw [hels3, List.getElem?_set_ne (by omega)]; exact he1
      rw [← hels3]
      obtain ⟨g3, hg3⟩ : ∃ g3, g3 = g2.set id (.arr 2 els3 g false) := ⟨_, rfl⟩
      have hat3 : g3[id]? = some (.arr 2 els3 g false) := by rw [hg3]; exact List.getElem?_set_self (lt_at hat2)
      have hbx3 : g3[g1.length]? = some (.box [txt p0.1, .cv c0] false) := by rw [hg3, List.getElem?_set_ne (by omega)]; exact hbx2
      rw [← hg3]
      have ld2 : ldO g3 true 2 (.ptr g1.length 0) = some (.agg [txt p0.1, .cv c0], g3) := ld_bxN hbx3 rfl
      have s2 : stO g3 2 (.eptr id g (i + 1) 0) (.agg [txt p0.1, .cv c0]) = some (.undef, g3.set id (.arr 2 (els3.set (i + 1) [.sc (.string ⟨p0.1.toArray⟩), c0]) g false)) := st_ecells (cs := [.sc (.string ⟨p0.1.toArray⟩), c0]) rfl hat3 he13 rfl
      simp only [go_sem, Nat.reduceLT, Nat.reduceEqDiff, reduceCtorEq, Int.reduceLT, Int.reduceEq, hs, w4, ld2, ia g3 els3 (i + 1) hat3 hl3 hil, s2]
      obtain ⟨els4, hels4⟩ : ∃ e, e = els3.set (i + 1) [.sc (.string ⟨p0.1.toArray⟩), c0] := ⟨_, rfl⟩
      have hl4 : els4.length = els.length := by rw [hels4, List.length_set, hl3]
      rw [← hels4]
      obtain ⟨g4, hg4⟩ : ∃ g4, g4 = g3.set id (.arr 2 els4 g false) := ⟨_, rfl⟩
      have hat4 : g4[id]? = some (.arr 2 els4 g false) := by rw [hg4]; exact List.getElem?_set_self (lt_at hat3)
      rw [← hg4]
      have hR4 : RowsE els4 (((risL 20 c).set i p1).set (i + 1) p0) := by
        rw [hels4, hels3]
        exact (hR.put i ⟨c1, rfl, hc1⟩).put (i + 1) ⟨c0, rfl, hc0⟩
      have not4 : risingF (((risL 20 c).set i p1).set (i + 1) p0) = false := by
        refine rising_not _ i p1 p0 ?_ ?_ (bl_le_of hlt)
        · rw [List.getElem?_set_ne (by omega), List.getElem?_set_self (by omega)]
        · rw [List.getElem?_set_self (by rw [List.length_set]; omega)]
      have hlen4 : (((risL 20 c).set i p1).set (i + 1) p0).length = (risL 20 c).length := by rw [List.length_set, List.length_set]
      have B4 : BufG g4 2 els4 (.own id g 0 els.length false) := .inr ⟨id, g, by intro e; rw [e] at hl4; simp at hl4; omega, by rw [hl4], hat4⟩
      obtain ⟨w, g5, cl4, sl4, _, vz5, _, _⟩ := B4.vf.closZ
      obtain ⟨v13, h13, n13, w13, r13, q13⟩ := build_pure sl4 hR4 (by omega)
      rw [build_not not4] at q13
      have q13' : w13 = .tup [nilS, vb false] := q13
      subst q13'
      refine XO_callP (h1 := g5) (by simp only [List.map, go_sem, Nat.reduceLT, Nat.reduceEqDiff, reduceCtorEq, Int.reduceLT, Int.reduceEq, hs]; exact closAs_cons cl4 rfl) n13 r13 ?_
      simp only [go_sem, Nat.reduceLT, Nat.reduceEqDiff, reduceCtorEq, Int.reduceLT, Int.reduceEq, hs, h0]
      -- the second one
      obtain ⟨v2, g6, n10', hh2, elsM, x2, hB2, hR2⟩ := rising_f10 (h := g5) hc (n := 20) (by omega)
      have hl2 := hR2.len
      obtain ⟨e0', p0', he0', hp0', c0', rfl, hc0'⟩ := hR2.get (i := i) (by omega)
      obtain ⟨e1', p1', he1', hp1', c1', rfl, hc1'⟩ := hR2.get (i := i + 1) (by omega)
      have vz6 := vz5.kz ((x2.trans hB2.ext).kz)
      obtain ⟨id2, gg2, rfl, hat6, _⟩ := hB2.ia (k := .i64) (j := 0) (by omega)
      have ia2 : ∀ (j : Nat), j < elsM.length → iaO g6 2 (.own id2 gg2 0 elsM.length false) (vi .i64 (j : Int)) = some (.eptr id2 gg2 j 0, g6) := by
        intro j hj
        rw [ia_own (by omega) hat6 (by simpa using hj)]; simp
      refine XO_callR (by simp only [List.map, go_sem, Nat.reduceLT, Nat.reduceEqDiff, reduceCtorEq, Int.reduceLT, Int.reduceEq, hs]; exact n10') ?_
      have fdE : ∀ j : Nat, fdO 0 (.eptr id2 gg2 j 0) = some (.eptr id2 gg2 j 0) := fun _ => rfl
      have ld6 : ldO g6 false 1 (.eptr id2 gg2 i 0) = some (txt p0'.1, g6) := ld_eptr hat6 he0' rfl
      have s6 : stO g6 1 (.eptr id2 gg2 (i + 1) 0) (txt p0'.1) = some (.undef, g6.set id2 (.arr 2 (elsM.set (i + 1) [.sc (.string ⟨p0'.1.toArray⟩), c1']) gg2 false)) := st_e1 hat6 he1' (by simp)
      simp only [go_sem, Nat.reduceLT, Nat.reduceEqDiff, reduceCtorEq, Int.reduceLT, Int.reduceEq, hs, w4, ia2 i (by omega), ia2 (i + 1) (by omega), fdE, ld6, s6]
      obtain ⟨els7, hels7⟩ : ∃ e, e = elsM.set (i + 1) [.sc (.string ⟨p0'.1.toArray⟩), c1'] := ⟨_, rfl⟩
      have hl7 : els7.length = elsM.length := by rw [hels7, List.length_set]
      rw [← hels7]
      have vz7 := vz6.kz (KZ.setArr hat6 (.arr 2 els7 gg2 false))
      obtain ⟨g7, hg7⟩ : ∃ g7, g7 = g6.set id2 (.arr 2 els7 gg2 false) := ⟨_, rfl⟩
      have hat7 : g7[id2]? = some (.arr 2 els7 gg2 false) := by rw [hg7]; exact List.getElem?_set_self (lt_at hat6)
      rw [← hg7] at vz7 ⊢
      have hR7 : RowsE els7 ((risL 20 c).set (i + 1) (p0'.1, p1'.2)) := by
        rw [hels7]
        exact hR2.put (i + 1) ⟨c1', rfl, hc1'⟩
      have not7 : risingF ((risL 20 c).set (i + 1) (p0'.1, p1'.2)) = false := by
        refine rising_not _ i p0' (p0'.1, p1'.2) ?_ ?_ (bl_le_refl _)
        · rw [List.getElem?_set_ne (by omega)]; exact hp0'
        · rw [List.getElem?_set_self (by omega)]
      have hlen7 : ((risL 20 c).set (i + 1) (p0'.1, p1'.2)).length = (risL 20 c).length := by rw [List.length_set]
      have B7 : BufG g7 2 els7 (.own id2 gg2 0 elsM.length false) := .inr ⟨id2, gg2, by intro e; rw [e] at hl7; simp at hl7; omega, by rw [hl7], hat7⟩
      obtain ⟨w7, g8, cl7, sl7, _, vz8', kz8, _⟩ := B7.vf.closZ
      obtain ⟨v13', h13', n13', w13', r13', q7⟩ := build_pure sl7 hR7 (by omega)
      rw [build_not not7] at q7
      have q7' : w13' = .tup [nilS, vb false] := q7
      subst q7'
      have vz8 := vz7.kz kz8
      refine XO_callP (h1 := g8) (by simp only [List.map, go_sem, Nat.reduceLT, Nat.reduceEqDiff, reduceCtorEq, Int.reduceLT, Int.reduceEq, hs]; exact closAs_cons cl7 rfl) n13' r13' ?_
      simp only [go_sem, Nat.reduceLT, Nat.reduceEqDiff, reduceCtorEq, Int.reduceLT, Int.reduceEq, hs]
      refine XO_callP (h1 := g8) (by simp only [List.map]; rfl) n8 rfl ?_
      obtain ⟨wa, ca, sa⟩ := vz8.clos
      obtain ⟨wb, cb, sb⟩ := vz8'.clos
      obtain ⟨ha, na⟩ := rising_f15 sa hR4 (by omega)
      obtain ⟨hb, nb⟩ := rising_f15 sb hR7 (by omega)
      rw [not4] at na
      rw [not7] at nb
      simp only [go_sem, Nat.reduceLT, Nat.reduceEqDiff, reduceCtorEq, Int.reduceLT, Int.reduceEq, hs]
      refine XO_callP (h1 := g8) (by simp only [List.map, go_sem, Nat.reduceLT, Nat.reduceEqDiff, reduceCtorEq, Int.reduceLT, Int.reduceEq, hs]; exact closAs_cons ca rfl) na rfl ?_
      simp only [go_sem, Nat.reduceLT, Nat.reduceEqDiff, reduceCtorEq, Int.reduceLT, Int.reduceEq, hs]
      refine XO_callP (h1 := g8) (by simp only [List.map, go_sem, Nat.reduceLT, Nat.reduceEqDiff, reduceCtorEq, Int.reduceLT, Int.reduceEq, hs]; exact closAs_cons cb rfl) nb rfl ?_
      simp only [go_sem, Nat.reduceLT, Nat.reduceEqDiff, reduceCtorEq, Int.reduceLT, Int.reduceEq, hs]
  obtain ⟨v, h', e1, rfl⟩ := this
  exact ⟨h', e1⟩
theorem half_in {H : Type} {d0 d1 : DataW H} {u0 u1 : VV} (h0 : DV Proofs.Try.prog 23 d0 u0) (h1 : DV Proofs.Try.prog 5 d1 u1) : ∃ h', call F 5 [u0, u1] [] = some (.ret (vb true), h') := by
  obtain ⟨c, hc, _⟩ := DV_bytes (e := 5) (by kernel_rfl) (by kernel_rfl) (by kernel_rfl) h0
  obtain ⟨k, rfl⟩ := DV_u8 (by kernel_rfl) h1
  exact law_half hc k
end Go.V06
