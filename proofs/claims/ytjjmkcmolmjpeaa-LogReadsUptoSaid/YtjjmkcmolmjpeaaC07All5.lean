/- Part of a proof: of what it says, and when, each theorem tells itself. -/
import Derived.Test.YtjjmkcmolmjpeaaC07All4
import Derived.Test.YtjjmkcmolmjpeaaVmAll2

set_option linter.unusedSimpArgs false
set_option linter.unusedVariables false
namespace Go.V07
open Go Go.Vm

/-! ### Seal, Right -/
theorem toNat_of {n : Nat} (h : n < 256) : (UInt8.ofNat n).toNat = n := by rw [UInt8.toNat_ofNat']; exact Nat.mod_eq_of_lt h
theorem le4_e (n : Nat) (h : n < 4294967296) : eB (le4 n) = [[.sc (.int .u8 ((n % 256 : Nat) : Int))], [.sc (.int .u8 ((n / 256 % 256 : Nat) : Int))], [.sc (.int .u8 ((n / 65536 % 256 : Nat) : Int))], [.sc (.int .u8 ((n / 16777216 : Nat) : Int))]] := by
  simp only [eB, le4, List.map, byteCell]
  rw [toNat_of (by omega), toNat_of (by omega), toNat_of (by omega), toNat_of (by omega)]

theorem seal_f60 {g0 h : Heap} {b : List UInt8} {u : VV} (hu : BSrc g0 h b u) (hb : b.length ≤ 900000000) : Ret F 60 [u] h fun v h' => NB g0 h' 1 (eB (sealB b)) v := by
  refine call_E (fn := f60) rfl ?_
  simp only [f60]
  generalize hs0 : ([u] ++ List.replicate _ VV.undef : List VV) = s
  have hs : s.length = 27 := by rw [← hs0]; rfl
  have h0 : s.getD 0 .undef = u := by rw [← hs0]; rfl
  clear hs0
  obtain ⟨w, h1, hc, hw, e1, hsrc⟩ := hu.cl
  obtain ⟨hx, n32⟩ := sum_f71 hw (by omega)
  have hlt := crc_lt b
  generalize hn : crc b = n at *
  simp only [go_sem, Nat.reduceLT, Nat.reduceEqDiff, reduceCtorEq, Int.reduceLT, Int.reduceEq, hs, h0]
  refine XO_callP (h1 := h1) (by simp only [List.map, go_sem, Nat.reduceLT, Nat.reduceEqDiff, reduceCtorEq, Int.reduceLT, Int.reduceEq, hs]; exact hc) n32 rfl ?_
  have hw4 : IntKind.i64.wrap ((b.length : Int) + 4) = ((b.length + 4 : Nat) : Int) := by rw [IntWalk.i64_in _ (by omega)]; omega
  simp only [go_sem, Nat.reduceLT, Nat.reduceEqDiff, reduceCtorEq, Int.reduceLT, Int.reduceEq, hs, h0, hu.ln, hw4]
  refine XO_mksNB (k := .i64) (k' := .i64) (b := b.length + 4) e1 (by simp only [go_sem, Nat.reduceLT, Nat.reduceEqDiff, reduceCtorEq, Int.reduceLT, Int.reduceEq]) (by simp only [go_sem, Nat.reduceLT, Nat.reduceEqDiff, reduceCtorEq, Int.reduceLT, Int.reduceEq, hs]) (by omega) (by omega) (by omega) (fun v2 h2 B2 x2 => ?_)
  simp only [go_sem, Nat.reduceLT, Nat.reduceEqDiff, reduceCtorEq, Int.reduceLT, Int.reduceEq, hs, h0]
  refine XO_appNB B2 (new := eB b) (by simp only [go_sem, Nat.reduceLT, Nat.reduceEqDiff, reduceCtorEq, Int.reduceLT, Int.reduceEq, hs]) (by simp only [go_sem, Nat.reduceLT, Nat.reduceEqDiff, reduceCtorEq, Int.reduceLT, Int.reduceEq, hs]; exact hsrc _ x2) (by simp only [List.length_nil, eB_len]; omega) (by simp only [List.length_nil, eB_len]; omega) (fun v3 h3 B3 _ _ _ => ?_)
  have s1 : IntKind.u8.wrap (n : Int) = ((n % 256 : Nat) : Int) := by rw [IntKind.wrap_u8]; omega
  have s2 : IntKind.u8.wrap ((n : Int).fdiv (2 ^ min ((8 : Int).toNat) 32)) = ((n / 256 % 256 : Nat) : Int) := by
    show IntKind.u8.wrap ((n : Int).fdiv 256) = _
    rw [Int.fdiv_eq_ediv_of_nonneg _ (by decide), IntKind.wrap_u8]; omega
  have s3 : IntKind.u8.wrap ((n : Int).fdiv (2 ^ min ((16 : Int).toNat) 32)) = ((n / 65536 % 256 : Nat) : Int) := by
    show IntKind.u8.wrap ((n : Int).fdiv 65536) = _
    rw [Int.fdiv_eq_ediv_of_nonneg _ (by decide), IntKind.wrap_u8]; omega
  have s4 : IntKind.u8.wrap ((n : Int).fdiv (2 ^ min ((24 : Int).toNat) 32)) = ((n / 16777216 : Nat) : Int) := by
    show IntKind.u8.wrap ((n : Int).fdiv 16777216) = _
    rw [Int.fdiv_eq_ediv_of_nonneg _ (by decide), IntKind.wrap_u8]; omega
  have s2' : IntKind.u8.wrap ((n : Int).fdiv (2 ^ min ((8 : Int).toNat) IntKind.u32.bits)) = ((n / 256 % 256 : Nat) : Int) := s2
  have s3' : IntKind.u8.wrap ((n : Int).fdiv (2 ^ min ((16 : Int).toNat) IntKind.u32.bits)) = ((n / 65536 % 256 : Nat) : Int) := s3
  have s4' : IntKind.u8.wrap ((n : Int).fdiv (2 ^ min ((24 : Int).toNat) IntKind.u32.bits)) = ((n / 16777216 : Nat) : Int) := s4
  simp only [go_sem, Nat.reduceLT, Nat.reduceEqDiff, reduceCtorEq, Int.reduceLT, Int.reduceEq, hs, bin_shr (show ¬ (8 : Int) < 0 by decide), bin_shr (show ¬ (16 : Int) < 0 by decide), bin_shr (show ¬ (24 : Int) < 0 by decide), s1, s2, s3, s4, s2', s3', s4', mk_4]
  rw [List.nil_append] at B3
  refine XO_appNB B3 (new := eB (le4 n)) (by simp only [go_sem, Nat.reduceLT, Nat.reduceEqDiff, reduceCtorEq, Int.reduceLT, Int.reduceEq, hs]) (by simp only [go_sem, Nat.reduceLT, Nat.reduceEqDiff, reduceCtorEq, Int.reduceLT, Int.reduceEq, hs]; rw [le4_e n hlt]) (by simp only [eB_len]; rw [show (le4 n).length = 4 from rfl]; omega) (by simp only [eB_len]; rw [show (le4 n).length = 4 from rfl]; omega) (fun v4 h4 B4 _ _ _ => ?_)
  simp only [go_sem, Nat.reduceLT, Nat.reduceEqDiff, reduceCtorEq, Int.reduceLT, Int.reduceEq, hs]
  unfold sealB
  rw [eB_append, hn]
  exact B4
theorem seal_pure {b : List UInt8} {u : VV} (hu : SlV 1 (eB b) u) (hb : b.length ≤ 900000000) : RetP F 60 [u] (SlV 1 (eB (sealB b))) := by
  obtain ⟨v, h', n, B⟩ := seal_f60 (hu.bsrc (HExt.refl [])) hb
  exact ⟨v, h', n, B.res⟩

theorem equal_f40 {a b : List UInt8} {u w : VV} (hu : SlV 1 (eB a) u) (hw : SlV 1 (eB b) w) : call F 40 [u, w] [] = some (.ret (vb (decide (a = b))), []) := by
  refine call_P (fn := f40) rfl ?_
  simp only [f40]
  generalize hs0 : ([u, w] ++ List.replicate _ VV.undef : List VV) = s
  have hs : s.length = 10 := by rw [← hs0]; rfl
  have h0 : s.getD 0 .undef = u := by rw [← hs0]; rfl
  have h1 : s.getD 1 .undef = w := by rw [← hs0]; rfl
  clear hs0
  have te : binO .eql (txt a) (txt b) = some (vb (decide (a = b))) := by
    by_cases h : a = b <;> simp [binO, binV, h]
  simp only [go_sem, Nat.reduceLT, Nat.reduceEqDiff, reduceCtorEq, Int.reduceLT, Int.reduceEq, hs, h0, h1, hu.bs, hw.bs, te]
  exact ⟨rfl, rfl⟩

/-! ### the document's -/
theorem f79_inner : ∀ (r j n : Nat) (s : List VV) (h : Heap) (Q : Pst), j + r = 8 → n < 4294967296 → s.length = 36 → s.getD 0 .undef = vi .u32 n → s.getD 6 .undef = vi .i64 j →
    (∀ s', s'.length = 36 → s'.getD 1 .undef = s.getD 1 .undef → s'.getD 5 .undef = s.getD 5 .undef → s'.getD 0 .undef = vi .u32 (cstepN r n) → Q (.exit 2) ⟨s', h⟩) → X F (.loop f79_0) ⟨s, h⟩ Q := by
  intro r
  induction r with
  | zero =>
    intro j n s h Q hj hn hs h0 h6 hQ
    rw [X_loop, X_eq f79_0.eq_1]
    have c : ¬ (j : Int) < 8 := by omega
    simp only [go_sem, Nat.reduceLT, Nat.reduceEqDiff, reduceCtorEq, Int.reduceLT, Int.reduceEq, hs, h6, c]
    exact hQ _ (by simp only [slot_len, hs]) (by simp only [go_sem, Nat.reduceLT, Nat.reduceEqDiff, reduceCtorEq, Int.reduceLT, Int.reduceEq]) (by simp only [go_sem, Nat.reduceLT, Nat.reduceEqDiff, reduceCtorEq, Int.reduceLT, Int.reduceEq]) (by simp only [go_sem, Nat.reduceLT, Nat.reduceEqDiff, reduceCtorEq, Int.reduceLT, Int.reduceEq, h0]; rfl)
  | succ r ih =>
    intro j n s h Q hj hn hs h0 h6 hQ
    rw [X_loop, X_eq f79_0.eq_1]
    have c : (j : Int) < 8 := by omega
    have hw : IntKind.i64.wrap ((j : Int) + 1) = ((j + 1 : Nat) : Int) := by rw [IntWalk.i64_in _ (by omega)]; omega
    have e1 : IntKind.u32.wrap ((n : Int).tdiv 2) = ((n / 2 : Nat) : Int) := by
      rw [Int.tdiv_eq_ediv_of_nonneg (by omega), IntWalk.u32_in _ (by omega)]; omega
    have e2 : (n : Int).tmod 2 = ((n % 2 : Nat) : Int) := rfl
    have n2 : (2 : Int) ≠ 0 := by decide
    by_cases hp : n % 2 = 1
    · have hp' : ((n % 2 : Nat) : Int) = 1 := by omega
      have e3 : bits .xor .u32 ((n / 2 : Nat) : Int) 3988292384 = ((cstep n : Nat) : Int) := by
        have := bits_xor32 (a := n / 2) (b := 3988292384) (by omega) (by decide)
        unfold cstep
        rw [hp]
        exact this
      simp only [go_sem, Nat.reduceLT, Nat.reduceEqDiff, reduceCtorEq, Int.reduceLT, Int.reduceEq, hs, h6, c, h0, bin_rem n2, bin_quo n2, e2, hp', e1, bin_xor, e3, hw]
      exact ih (j + 1) (cstep n) _ h Q (by omega) (cstep_lt hn) (by simp only [slot_len, hs]) (by simp only [go_sem, Nat.reduceLT, Nat.reduceEqDiff, reduceCtorEq, Int.reduceLT, Int.reduceEq, hs]) (by simp only [go_sem, Nat.reduceLT, Nat.reduceEqDiff, reduceCtorEq, Int.reduceLT, Int.reduceEq, hs]) (fun s' b b1 b5 b0 => hQ s' b (by rw [b1]; simp only [go_sem, Nat.reduceLT, Nat.reduceEqDiff, reduceCtorEq, Int.reduceLT, Int.reduceEq]) (by rw [b5]; simp only [go_sem, Nat.reduceLT, Nat.reduceEqDiff, reduceCtorEq, Int.reduceLT, Int.reduceEq]) (by rw [b0]; rfl))
    · have hp' : ¬ ((n % 2 : Nat) : Int) = 1 := by omega
      have e3 : n / 2 = cstep n := by
        unfold cstep
        have : n % 2 = 0 := by omega
        rw [this, Nat.mul_zero, Nat.xor_zero]
      simp only [go_sem, Nat.reduceLT, Nat.reduceEqDiff, reduceCtorEq, Int.reduceLT, Int.reduceEq, hs, h6, c, h0, bin_rem n2, bin_quo n2, e2, hp', e1, hw]
      rw [e3]
      exact ih (j + 1) (cstep n) _ h Q (by omega) (cstep_lt hn) (by simp only [slot_len, hs]) (by simp only [go_sem, Nat.reduceLT, Nat.reduceEqDiff, reduceCtorEq, Int.reduceLT, Int.reduceEq, hs]) (by simp only [go_sem, Nat.reduceLT, Nat.reduceEqDiff, reduceCtorEq, Int.reduceLT, Int.reduceEq, hs]) (fun s' b b1 b5 b0 => hQ s' b (by rw [b1]; simp only [go_sem, Nat.reduceLT, Nat.reduceEqDiff, reduceCtorEq, Int.reduceLT, Int.reduceEq]) (by rw [b5]; simp only [go_sem, Nat.reduceLT, Nat.reduceEqDiff, reduceCtorEq, Int.reduceLT, Int.reduceEq]) (by rw [b0]; rfl))

theorem f79_loop {b : List UInt8} {u : VV} (hu : SlV 1 (eB b) u) (hb : b.length ≤ 1000000000) {h : Heap} :
    ∀ (r k m : Nat) (s : List VV) (Q : Pst), k + r = b.length → m < 4294967296 → s.length = 36 → s.getD 0 .undef = vi .u32 m → s.getD 1 .undef = u → s.getD 5 .undef = vi .i64 k →
      (∀ s', s'.length = 36 → s'.getD 0 .undef = vi .u32 (crcS m (b.drop k)) → Q (.exit 0) ⟨s', h⟩) → X F (.loop f79_1) ⟨s, h⟩ Q := by
  intro r
  induction r with
  | zero =>
    intro k m s Q hk hm hs h0 h1 h5 hQ
    rw [X_loop, X_eq f79_1.eq_1]
    have c : ¬ (k : Int) < (b.length : Int) := by omega
    simp only [go_sem, Nat.reduceLT, Nat.reduceEqDiff, reduceCtorEq, Int.reduceLT, Int.reduceEq, hs, h1, h5, hu.ln, eB_len, c]
    exact hQ _ (by simp only [slot_len, hs]) (by simp only [go_sem, Nat.reduceLT, Nat.reduceEqDiff, reduceCtorEq, Int.reduceLT, Int.reduceEq, h0]; rw [List.drop_eq_nil_of_le (by omega)]; rfl)
  | succ r ih =>
    intro k m s Q hk hm hs h0 h1 h5 hQ
    rw [X_loop, X_eq f79_1.eq_1]
    have c : (k : Int) < (b.length : Int) := by omega
    have hkl : k < b.length := by omega
    have hw : IntKind.i64.wrap ((k : Int) + 1) = ((k + 1 : Nat) : Int) := by rw [IntWalk.i64_in _ (by omega)]; omega
    have hia := hu.ia (h := h) (k := .i64) (j := (k : Int)) (by omega) (eB_get (List.getElem?_eq_getElem hkl))
    have hc := (b[k]).toNat_lt
    have e1 : IntKind.u32.wrap (b[k].toNat : Int) = (b[k].toNat : Int) := IntWalk.u32_in _ (by omega)
    have e3 : bits .xor .u32 (m : Int) (b[k].toNat : Int) = ((m ^^^ b[k].toNat : Nat) : Int) := bits_xor32 hm (by omega)
    simp only [go_sem, Nat.reduceLT, Nat.reduceEqDiff, reduceCtorEq, Int.reduceLT, Int.reduceEq, hs, h0, h1, h5, hu.ln, eB_len, c, hia, byteCell, e1, bin_xor, e3]
    refine f79_inner 8 0 (m ^^^ b[k].toNat) _ h _ (by omega) (x8_lt hm _) (by simp only [slot_len, hs]) (by simp only [go_sem, Nat.reduceLT, Nat.reduceEqDiff, reduceCtorEq, Int.reduceLT, Int.reduceEq, hs]) (by simp only [go_sem, Nat.reduceLT, Nat.reduceEqDiff, reduceCtorEq, Int.reduceLT, Int.reduceEq, hs]; rfl) (fun s' a1 a2 a5 a0 => ?_)
    have a2' : s'.getD 1 .undef = u := by rw [a2]; simp only [go_sem, Nat.reduceLT, Nat.reduceEqDiff, reduceCtorEq, Int.reduceLT, Int.reduceEq, h1]
    have a5' : s'.getD 5 .undef = vi .i64 k := by rw [a5]; simp only [go_sem, Nat.reduceLT, Nat.reduceEqDiff, reduceCtorEq, Int.reduceLT, Int.reduceEq, h5]
    simp only [go_sem, Nat.reduceLT, Nat.reduceEqDiff, reduceCtorEq, Int.reduceLT, Int.reduceEq, a1, a5', hw]
    refine ih (k + 1) (cstepN 8 (m ^^^ b[k].toNat)) _ Q (by omega) (cstepN_lt 8 (x8_lt hm _)) (by simp only [slot_len, a1]) (by simp only [go_sem, Nat.reduceLT, Nat.reduceEqDiff, reduceCtorEq, Int.reduceLT, Int.reduceEq, a0]) (by simp only [go_sem, Nat.reduceLT, Nat.reduceEqDiff, reduceCtorEq, Int.reduceLT, Int.reduceEq, a2']) (by simp only [go_sem, Nat.reduceLT, Nat.reduceEqDiff, reduceCtorEq, Int.reduceLT, Int.reduceEq, a1]) (fun s'' b1 b2 => hQ s'' b1 ?_)
    rw [b2, List.drop_eq_getElem_cons hkl]; rfl

theorem rmore_f79 {b : List UInt8} {u : VV} (hu : SlV 1 (eB b) u) (hb : b.length ≤ 1000000000) {n : Nat} (hn : n < 4294967296) : Ret F 79 [vi .u32 n, u] [] fun v h' => v = vi .u32 (crcM n b) := by
  refine call_E (fn := f79) rfl ?_
  simp only [f79]
  generalize hs0 : ([vi .u32 n, u] ++ List.replicate _ VV.undef : List VV) = s
  have hs : s.length = 36 := by rw [← hs0]; rfl
  have h0 : s.getD 0 .undef = vi .u32 n := by rw [← hs0]; rfl
  have h1 : s.getD 1 .undef = u := by rw [← hs0]; rfl
  clear hs0
  have hx : 4294967295 ^^^ n < 4294967296 := Nat.xor_lt_two_pow (n := 32) (by decide) (by omega)
  have e1 : bits .xor .u32 (n : Int) 4294967295 = ((4294967295 ^^^ n : Nat) : Int) := by
    have := bits_xor32 (a := n) (b := 4294967295) hn (by decide)
    rw [Nat.xor_comm] at this
    exact this
  simp only [go_sem, Nat.reduceLT, Nat.reduceEqDiff, reduceCtorEq, Int.reduceLT, Int.reduceEq, hs, h0, bin_xor, e1]
  refine f79_loop hu hb b.length 0 _ _ _ (by omega) hx (by simp only [slot_len, hs]) (by simp only [go_sem, Nat.reduceLT, Nat.reduceEqDiff, reduceCtorEq, Int.reduceLT, Int.reduceEq, hs]) (by simp only [go_sem, Nat.reduceLT, Nat.reduceEqDiff, reduceCtorEq, Int.reduceLT, Int.reduceEq, h1]) (by simp only [go_sem, Nat.reduceLT, Nat.reduceEqDiff, reduceCtorEq, Int.reduceLT, Int.reduceEq, hs]; rfl) (fun s' a1 a0 => ?_)
  have hlt := crcS_lt b hx
  have e2 : bits .xor .u32 ((crcS (4294967295 ^^^ n) b : Nat) : Int) 4294967295 = ((crcM n b : Nat) : Int) := by
    have := bits_xor32 (a := crcS (4294967295 ^^^ n) b) (b := 4294967295) hlt (by decide)
    rw [Nat.xor_comm (crcS _ _)] at this
    exact this
  rw [List.drop_zero] at a0
  simp only [go_sem, Nat.reduceLT, Nat.reduceEqDiff, reduceCtorEq, Int.reduceLT, Int.reduceEq, a1, a0, bin_xor, e2]
theorem rsum_f72 {b : List UInt8} {u : VV} (hu : SlV 1 (eB b) u) (hb : b.length ≤ 1000000000) : ∃ h', call F 72 [u] [] = some (.ret (vi .u32 (crc b)), h') := by
  have : Ret F 72 [u] [] fun v h' => v = vi .u32 (crc b) := by
    refine call_E (fn := f72) rfl ?_
    simp only [f72]
    generalize hs0 : ([u] ++ List.replicate _ VV.undef : List VV) = s
    have hs : s.length = 5 := by rw [← hs0]; rfl
    have h0 : s.getD 0 .undef = u := by rw [← hs0]; rfl
    clear hs0
    obtain ⟨v, h', n35, rfl⟩ := rmore_f79 hu hb (n := 0) (by decide)
    simp only [go_sem, Nat.reduceLT, Nat.reduceEqDiff, reduceCtorEq, Int.reduceLT, Int.reduceEq, hs, h0]
    refine XO_callP (h1 := []) (by simp only [List.map, go_sem, Nat.reduceLT, Nat.reduceEqDiff, reduceCtorEq, Int.reduceLT, Int.reduceEq, hs]; exact clos_cv (hu.clos rfl)) n35 rfl ?_
    simp only [go_sem, Nat.reduceLT, Nat.reduceEqDiff, reduceCtorEq, Int.reduceLT, Int.reduceEq, hs]
    rfl
  obtain ⟨v, h', e1, rfl⟩ := this
  exact ⟨h', e1⟩

theorem rseal_f65 {g0 h : Heap} {b : List UInt8} {u : VV} (hu : BSrc g0 h b u) (hb : b.length ≤ 900000000) : Ret F 65 [u] h fun v h' => NB g0 h' 1 (eB (sealB b)) v := by
  refine call_E (fn := f65) rfl ?_
  simp only [f65]
  generalize hs0 : ([u] ++ List.replicate _ VV.undef : List VV) = s
  have hs : s.length = 28 := by rw [← hs0]; rfl
  have h0 : s.getD 0 .undef = u := by rw [← hs0]; rfl
  clear hs0
  obtain ⟨w, h1, hc, hw, e1, hsrc⟩ := hu.cl
  obtain ⟨hx, n28⟩ := rsum_f72 hw (by omega)
  have hlt := crc_lt b
  generalize hn : crc b = n at *
  simp only [go_sem, Nat.reduceLT, Nat.reduceEqDiff, reduceCtorEq, Int.reduceLT, Int.reduceEq, hs, h0]
  refine XO_callP (h1 := h1) (by simp only [List.map, go_sem, Nat.reduceLT, Nat.reduceEqDiff, reduceCtorEq, Int.reduceLT, Int.reduceEq, hs]; exact hc) n28 rfl ?_
  simp only [go_sem, Nat.reduceLT, Nat.reduceEqDiff, reduceCtorEq, Int.reduceLT, Int.reduceEq, hs, h0]
  have B2 : NB g0 h1 1 [] nilS := ⟨e1, .inl ⟨rfl, rfl⟩⟩
  refine XO_appNB B2 (new := eB b) (by simp only [go_sem, Nat.reduceLT, Nat.reduceEqDiff, reduceCtorEq, Int.reduceLT, Int.reduceEq, hs]) (by simp only [go_sem, Nat.reduceLT, Nat.reduceEqDiff, reduceCtorEq, Int.reduceLT, Int.reduceEq, hs]; exact hsrc _ (HExt.refl _)) (by simp only [List.length_nil, eB_len]; omega) (by simp only [List.length_nil, eB_len]; omega) (fun v3 h3 B3 _ _ _ => ?_)
  have s0 : (n : Int).tmod 256 = ((n % 256 : Nat) : Int) := rfl
  have s1 : IntKind.u8.wrap ((n % 256 : Nat) : Int) = ((n % 256 : Nat) : Int) := IntWalk.u8_in _ (by omega)
  have d2 : IntKind.u32.wrap ((n : Int).tdiv 256) = ((n / 256 : Nat) : Int) := by rw [Int.tdiv_eq_ediv_of_nonneg (by omega), IntWalk.u32_in _ (by omega)]; omega
  have d3 : IntKind.u32.wrap ((n : Int).tdiv 65536) = ((n / 65536 : Nat) : Int) := by rw [Int.tdiv_eq_ediv_of_nonneg (by omega), IntWalk.u32_in _ (by omega)]; omega
  have d4 : IntKind.u32.wrap ((n : Int).tdiv 16777216) = ((n / 16777216 : Nat) : Int) := by rw [Int.tdiv_eq_ediv_of_nonneg (by omega), IntWalk.u32_in _ (by omega)]; omega
  have m2 : ((n / 256 : Nat) : Int).tmod 256 = ((n / 256 % 256 : Nat) : Int) := rfl
  have m3 : ((n / 65536 : Nat) : Int).tmod 256 = ((n / 65536 % 256 : Nat) : Int) := rfl
  have s2 : IntKind.u8.wrap ((n / 256 % 256 : Nat) : Int) = ((n / 256 % 256 : Nat) : Int) := IntWalk.u8_in _ (by omega)
  have s3 : IntKind.u8.wrap ((n / 65536 % 256 : Nat) : Int) = ((n / 65536 % 256 : Nat) : Int) := IntWalk.u8_in _ (by omega)
  have s4 : IntKind.u8.wrap ((n / 16777216 : Nat) : Int) = ((n / 16777216 : Nat) : Int) := IntWalk.u8_in _ (by omega)
  have z1 : (256 : Int) ≠ 0 := by decide
  have z2 : (65536 : Int) ≠ 0 := by decide
  have z3 : (16777216 : Int) ≠ 0 := by decide
  simp only [go_sem, Nat.reduceLT, Nat.reduceEqDiff, reduceCtorEq, Int.reduceLT, Int.reduceEq, hs, bin_rem z1, bin_quo z1, bin_quo z2, bin_quo z3, s0, s1, d2, d3, d4, m2, m3, s2, s3, s4, mk_4]
  rw [List.nil_append] at B3
  refine XO_appNB B3 (new := eB (le4 n)) (by simp only [go_sem, Nat.reduceLT, Nat.reduceEqDiff, reduceCtorEq, Int.reduceLT, Int.reduceEq, hs]) (by simp only [go_sem, Nat.reduceLT, Nat.reduceEqDiff, reduceCtorEq, Int.reduceLT, Int.reduceEq, hs]; rw [le4_e n hlt]) (by simp only [eB_len]; rw [show (le4 n).length = 4 from rfl]; omega) (by simp only [eB_len]; rw [show (le4 n).length = 4 from rfl]; omega) (fun v4 h4 B4 _ _ _ => ?_)
  simp only [go_sem, Nat.reduceLT, Nat.reduceEqDiff, reduceCtorEq, Int.reduceLT, Int.reduceEq, hs]
  unfold sealB
  rw [eB_append, hn]
  exact B4
theorem rseal_pure {b : List UInt8} {u : VV} (hu : SlV 1 (eB b) u) (hb : b.length ≤ 900000000) : RetP F 65 [u] (SlV 1 (eB (sealB b))) := by
  obtain ⟨v, h', n, B⟩ := rseal_f65 (hu.bsrc (HExt.refl [])) hb
  exact ⟨v, h', n, B.res⟩
end Go.V07


set_option linter.unusedSimpArgs false
set_option linter.unusedVariables false
namespace Go.V07
open Go Go.Vm

/-! ### a page: plain -/
abbrev KV := List UInt8 × List UInt8
def putR : List UInt8 → Nat → Nat → List KV → List UInt8
  | pg, _, _, [] => pg
  | pg, i, a, p :: r => putR (splice (pg.set (2 + i) (UInt8.ofNat (a - (rowB p).length))) (a - (rowB p).length) (rowB p)) (i + 1) (a - (rowB p).length) r
def page0 (level n : Nat) : List UInt8 := UInt8.ofNat level :: UInt8.ofNat n :: List.replicate 250 0
def pageR (level : Nat) (l : List KV) : List UInt8 := putR (page0 level l.length) 0 252 l
def pageB (level : Nat) (l : List KV) : List UInt8 := sealB (pageR level l)
/-! ### the way back -/
end Go.V07


set_option linter.unusedSimpArgs false
set_option linter.unusedVariables false
namespace Go.V07
open Go Go.Vm

/-! ### a row's bytes -/
end Go.V07


set_option linter.unusedSimpArgs false
set_option linter.unusedVariables false
namespace Go.V07
open Go Go.Vm

/-! ### Fit -/
end Go.V07


set_option linter.unusedSimpArgs false
set_option linter.unusedVariables false
namespace Go.V07
open Go Go.Vm

/-! ### Encode -/
/-- What Encode tells. -/
def EncP (h : Heap) (x : Option (List UInt8)) (v : VV) (h' : Heap) : Prop := match x with
  | none => v = .tup [nilS, vb false]
  | some b => ∃ w, v = .tup [w, vb true] ∧ NB h h' 1 (eB b) w

end Go.V07


set_option linter.unusedSimpArgs false
set_option linter.unusedVariables false
namespace Go.V07
open Go Go.Vm

/-! ### the document's Encode -/
end Go.V07


set_option linter.unusedSimpArgs false
set_option linter.unusedVariables false
namespace Go.V07
open Go Go.Vm

/-! ### a row that ends at a place -/
end Go.V07


set_option linter.unusedSimpArgs false
set_option linter.unusedVariables false
namespace Go.V07
open Go Go.Vm

/-! ### Decode -/
theorem NB.snoc {h0 h : Heap} {els : List (List CV)} {kv : List KV} {v : VV} (hR : RowsE els kv) (p : KV) : RowsE (els ++ [rowC p.1 p.2]) (kv ++ [p]) :=
  hR.snoc ⟨.sl 1 (eB p.2) false, rfl, .inr ⟨false, rfl⟩⟩

theorem EncP.pure {b : Option (List UInt8)} {v : VV} {h' : Heap} (h : EncP [] b v h') : ∃ w, closRes h' v = some (.tup [w, vb b.isSome]) ∧ ∀ c, b = some c → SlV 1 (eB c) w := by
  cases b with
  | none =>
    have : v = .tup [nilS, vb false] := h
    subst this
    exact ⟨nilS, rfl, fun c hc => by cases hc⟩
  | some c =>
    obtain ⟨w, rfl, B⟩ := h
    obtain ⟨x, h1, e1, e2⟩ := B.clos
    refine ⟨x, ?_, fun c' hc => by cases hc; exact e2⟩
    have : closAs h' [w, vb true] = some ([x, vb true], h1) := closAs_cons e1 rfl
    simp only [closRes, this, Option.map_some, Option.isSome_some]
end Go.V07


set_option linter.unusedSimpArgs false
set_option linter.unusedVariables false
namespace Go.V07
open Go Go.Vm

/-! ### the document's Decode -/
/-! ### Find -/
theorem bl_leq {a b : List UInt8} : binO .leq (txt a) (txt b) = some (vb (Op.bytesLess a b || a == b)) := rfl

end Go.V07


set_option linter.unusedSimpArgs false
set_option linter.unusedVariables false
namespace Go.V07
open Go Go.Vm

/-! ### Rising -/
end Go.V07


set_option linter.unusedSimpArgs false
set_option linter.unusedVariables false
namespace Go.V07
open Go Go.Vm

/-! ### the chapter's example -/
/-! ### both tell the same -/
/-! ### rows, as they are read -/
end Go.V07


set_option linter.unusedSimpArgs false
set_option linter.unusedVariables false
namespace Go.V07
open Go Go.Vm

/-! ### PagePuts -/
theorem take_rows {els : List (List CV)} {kv : List KV} (hR : RowsE els kv) (n : Nat) : RowsE (els.take n) (kv.take n) := by
  induction hR generalizing n with
  | nil => simp; exact .nil
  | cons h _ ih =>
    cases n with
    | zero => exact .nil
    | succ n => exact .cons h (ih n)

end Go.V07


set_option linter.unusedSimpArgs false
set_option linter.unusedVariables false
namespace Go.V07
open Go Go.Vm

/-! ### a level -/
def keyOf : List KV → List UInt8
  | [] => []
  | p :: _ => p.1
def aboveL : Nat → List (List KV) → List KV
  | _, [] => []
  | n, g :: r => (keyOf g, num (clamp (n : Int))) :: aboveL (n + 1) r
def sumL (gs : List (List KV)) : Nat := (gs.map List.length).sum
/-- Pages, as they lie. -/
inductive PgE : List (List CV) → List (List UInt8) → Prop
  | nil : PgE [] []
  | cons {c : CV} {b : List UInt8} {l : List (List CV)} {k : List (List UInt8)} (h : SlV 1 (eB b) (.cv c)) (t : PgE l k) : PgE ([c] :: l) (b :: k)
theorem PgE.len {l : List (List CV)} {k : List (List UInt8)} (h : PgE l k) : l.length = k.length := by
  induction h with
  | nil => rfl
  | cons _ _ ih => simp [ih]
theorem PgE.app {l m : List (List CV)} {k j : List (List UInt8)} (h : PgE l k) (h2 : PgE m j) : PgE (l ++ m) (k ++ j) := by
  induction h with
  | nil => exact h2
  | cons h _ ih => exact .cons h ih
theorem PgE.snoc {l : List (List CV)} {k : List (List UInt8)} (h : PgE l k) {c : CV} {b : List UInt8} (hc : SlV 1 (eB b) (.cv c)) : PgE (l ++ [[c]]) (k ++ [b]) := h.app (.cons hc .nil)
theorem PgE.get {l : List (List CV)} {k : List (List UInt8)} (h : PgE l k) {i : Nat} (hi : i < k.length) : ∃ c b, l[i]? = some [c] ∧ k[i]? = some b ∧ SlV 1 (eB b) (.cv c) := by
  induction h generalizing i with
  | nil => simp at hi
  | cons h t ih =>
    cases i with
    | zero => exact ⟨_, _, rfl, rfl, h⟩
    | succ i => obtain ⟨c, b, h1, h2, h3⟩ := ih (i := i) (by simpa using hi); exact ⟨c, b, by simpa using h1, by simpa using h2, h3⟩
theorem PgE.take {l : List (List CV)} {k : List (List UInt8)} (h : PgE l k) (n : Nat) : PgE (l.take n) (k.take n) := by
  induction h generalizing n with
  | nil => simp; exact .nil
  | cons h _ ih =>
    cases n with
    | zero => exact .nil
    | succ n => exact .cons h (ih n)

/-- What a level has done. -/
structure LvB (tb N n : Nat) (pg0 : List (List UInt8)) (g : Heap) (gs : List (List KV)) : Prop where
  i3 : g[N]? = some (.box [.ptr tb 0] false)
  i4 : g[N + 1]? = some (.box [vi .i64 n] false)
  i6 : g[N + 2]? = some (.box [nilS] false)
  i7 : g[N + 3]? = some (.box [vb false] false)
  i8 : ∃ va elsA, g[N + 4]? = some (.box [va] false) ∧ BufG g 2 elsA va ∧ RowsE elsA (aboveL pg0.length gs)
  i9 : g[N + 5]? = some (.box [vi .i64 (sumL gs : Nat)] false)
  it : ∃ vp elsP, g[tb]? = some (.box [vp] false) ∧ BufG g 1 elsP vp ∧ PgE elsP (pg0 ++ gs.map (pageB n))

theorem LvB.loop {tb N n : Nat} {pg0 : List (List UInt8)} {g : Heap} {gs : List (List KV)} (L : LvB tb N n pg0 g gs) (htb : tb < N) {ps : List Nat} {a b : IR} {s : List VV} {t : LoopState} {p : Option Jmp} (ho : g[N + 7]? = some (.loop ps a b s t p)) (o : VO) : LvB tb N n pg0 (g.set (N + 7) o) gs := by
  obtain ⟨va, elsA, a1, a2, a3⟩ := L.i8
  obtain ⟨vp, elsP, b1, b2, b3⟩ := L.it
  have ne : ∀ {j : Nat}, j ≠ N + 7 → (g.set (N + 7) o)[j]? = g[j]? := fun hj => List.getElem?_set_ne (fun e => hj e.symm)
  exact ⟨by rw [ne (by omega)]; exact L.i3, by rw [ne (by omega)]; exact L.i4, by rw [ne (by omega)]; exact L.i6, by rw [ne (by omega)]; exact L.i7, ⟨va, elsA, by rw [ne (by omega)]; exact a1, a2.setLoop ho o, a3⟩, by rw [ne (by omega)]; exact L.i9, ⟨vp, elsP, by rw [ne (by omega)]; exact b1, b2.setLoop ho o, b3⟩⟩

end Go.V07


set_option linter.unusedSimpArgs false
set_option linter.unusedVariables false
namespace Go.V07
open Go Go.Vm

theorem mid {a b : IR} {st : St} {Q : Pst} {P : St → Prop} (h1 : X F a st fun o st' => o = .norm ∧ P st') (h2 : ∀ st', P st' → X F b st' Q) : X F a st (K F b Q) := by
  obtain ⟨o, st', e, rfl, hP⟩ := h1
  exact ⟨.norm, st', e, h2 st' hP⟩
end Go.V07


set_option linter.unusedSimpArgs false
set_option linter.unusedVariables false
namespace Go.V07
open Go Go.Vm

section
variable {a b : List (List UInt8)} {ea eb : List (List CV)} {u w : VV}

end
end Go.V07


set_option linter.unusedSimpArgs false
set_option linter.unusedVariables false
namespace Go.V07
open Go Go.Vm

theorem bo_gtr {a b : List UInt8} : binO .gtr (txt a) (txt b) = some (vb (Op.bytesLess b a)) := by
  have h1 : binO .gtr (txt a) (txt b) = some (vb (!(Op.bytesLess a b || a == b))) := rfl
  rw [h1]
  have h2 : bl_le a b = (Op.bytesLess a b || a == b) := rfl
  rw [← h2]
  cases h : bl_le a b with
  | true => rw [bl_le_iff.1 h]; rfl
  | false => rw [bl_not_le.1 h]; rfl
theorem bo_eql {a b : List UInt8} : binO .eql (txt a) (txt b) = some (vb (decide (a = b))) := by
  by_cases h : a = b <;> simp [binO, binV, h]

section
variable {l : List KV} {els : List (List CV)} {u : VV} {r : KV} {cr : CV}
end
end Go.V07


set_option linter.unusedSimpArgs false
set_option linter.unusedVariables false
namespace Go.V07
open Go Go.Vm

end Go.V07


set_option linter.unusedSimpArgs false
set_option linter.unusedVariables false
namespace Go.V07
open Go Go.Vm

end Go.V07


set_option linter.unusedSimpArgs false
set_option linter.unusedVariables false
namespace Go.V07
open Go Go.Vm

/-! ### TreeBuilds -/
/-! ### rows, as they are read -/
end Go.V07


set_option linter.unusedSimpArgs false
set_option linter.unusedVariables false
namespace Go.V07
open Go Go.Vm

/-! ### changes -/

abbrev Ch := List UInt8 × List UInt8 × Bool
def chB (p : Ch) : List UInt8 := text p.1 ++ (if p.2.2 then [1] else 0 :: text p.2.1)
def chsB (l : List Ch) : List UInt8 := num (clamp l.length) ++ (l.map chB).flatten
def chE (e : List CV) (p : Ch) : Prop := ∃ c, e = [.sc (.string ⟨p.1.toArray⟩), c, .sc (.bool p.2.2)] ∧ SlV 1 (eB p.2.1) (.cv c)
inductive ChsE : List (List CV) → List Ch → Prop
  | nil : ChsE [] []
  | cons {e : List CV} {p : Ch} {l : List (List CV)} {k : List Ch} (h : chE e p) (t : ChsE l k) : ChsE (e :: l) (p :: k)
theorem ChsE.len {l : List (List CV)} {k : List Ch} (h : ChsE l k) : l.length = k.length := by
  induction h with
  | nil => rfl
  | cons _ _ ih => simp [ih]
theorem ChsE.snoc {l : List (List CV)} {k : List Ch} (h : ChsE l k) {e : List CV} {p : Ch} (hp : chE e p) : ChsE (l ++ [e]) (k ++ [p]) := by
  induction h with
  | nil => exact .cons hp .nil
  | cons h _ ih => exact .cons h ih
theorem ChsE.append {l : List (List CV)} {k : List Ch} (h : ChsE l k) {l' : List (List CV)} {k' : List Ch} (h' : ChsE l' k') : ChsE (l ++ l') (k ++ k') := by
  induction h with
  | nil => exact h'
  | cons h _ ih => exact .cons h ih

theorem hn_of {a b c d : Nat} (h : a + (b + c) ≤ d) : a + b + c ≤ d := by omega

theorem f46_loop (l : List (List CV)) (vl : VV) (hv : SlV 3 l vl) : ∀ (rest : List (List CV)) (kv : List Ch) (_ : ChsE rest kv) (i : Nat) (out : List UInt8) (s : List VV) (h : Heap) (v : VV) (Q : Pst),
    l.drop i = rest → i ≤ l.length → l.length ≤ 1000000000 → out.length + ((kv.map chB).flatten).length ≤ 1000000000 → s.length = 36 →
    s.getD 9 .undef = vl → s.getD 10 .undef = vi .i64 l.length → s.getD 11 .undef = vi .i64 i → s.getD 3 .undef = v → BufG h 1 (eB out) v →
    (∀ s' h' v', s'.length = 36 → s'.getD 3 .undef = v' → BufG h' 1 (eB (out ++ (kv.map chB).flatten)) v' → Q (.exit 0) ⟨s', h'⟩) →
    X F (.loop f46_2) ⟨s, h⟩ Q := by
  intro rest kv hR
  induction hR with
  | nil =>
    intro i out s h v Q hd hi hl hn hs h9 h10 h11 h3 hb hQ
    rw [X_loop, X_eq f46_2.eq_1]
    have hlt : ¬ (i : Int) < (l.length : Int) := by
      have := congrArg List.length hd
      rw [List.length_drop, List.length_nil] at this
      omega
    simp only [go_sem, Nat.reduceLT, Nat.reduceEqDiff, reduceCtorEq, Int.reduceLT, Int.reduceEq, hs, h10, h11, hlt]
    rw [X_eq f46_0.eq_1]
    simp only [go_sem, Nat.reduceLT, Nat.reduceEqDiff, reduceCtorEq, Int.reduceLT, Int.reduceEq, hs, hlt]
    exact hQ _ _ v (by simp only [slot_len, hs]) (by simp only [go_sem, Nat.reduceLT, Nat.reduceEqDiff, reduceCtorEq, Int.reduceLT, Int.reduceEq, h3]) (by simpa using hb)
  | @cons e p rl rk hrow hrest ih =>
    intro i out s h v Q hd hi hl hn hs h9 h10 h11 h3 hb hQ
    have hget : l[i]? = some e := by
      have := congrArg (fun x => x[0]?) hd
      simpa using this
    have hilt : i < l.length := (List.getElem?_eq_some_iff.1 hget).1
    have hd' : l.drop (i + 1) = rl := by
      rw [← List.drop_drop, hd]; rfl
    obtain ⟨c, rfl, hc⟩ := hrow
    have hlt : (i : Int) < (l.length : Int) := by omega
    simp only [List.map_cons, List.flatten_cons, List.length_append, chB] at hn
    have hk1 := text_len p.1
    have hk2 := text_len p.2.1
    have e5 : IntKind.i64.wrap ((i : Int) + 1) = ((i + 1 : Nat) : Int) := by rw [IntWalk.i64_in _ (by omega)]; omega
    rw [X_loop, X_eq f46_2.eq_1]
    simp only [go_sem, Nat.reduceLT, Nat.reduceEqDiff, reduceCtorEq, Int.reduceLT, Int.reduceEq, hs, h9, h10, h11, h3, hlt]
    rw [X_eq f46_0.eq_1]
    simp only [go_sem, Nat.reduceLT, Nat.reduceEqDiff, reduceCtorEq, Int.reduceLT, Int.reduceEq, hs, h9, h10, h11, h3]
    rw [hv.ia (e := [.sc (.string ⟨p.1.toArray⟩), c, .sc (.bool p.2.2)]) (by omega) (by exact hget)]
    simp only [go_sem, Nat.reduceLT, Nat.reduceEqDiff, reduceCtorEq, Int.reduceLT, Int.reduceEq, hs, h9, h10, h11, h3]
    rw [ld_l_at (v := .cv (.sc (.string ⟨p.1.toArray⟩))) rfl]
    simp only [go_sem, Nat.reduceLT, Nat.reduceEqDiff, reduceCtorEq, Int.reduceLT, Int.reduceEq, hs, h9, h10, h11, h3]
    obtain ⟨v1, hc1, hcall1, hres1⟩ := text_pure p.1 (by omega)
    refine XO_callP (by simp only [List.map, go_sem, Nat.reduceLT, Nat.reduceEqDiff, reduceCtorEq, Int.reduceLT, Int.reduceEq, hs]; exact clos_cv clos_nil) hcall1 hres1 ?_
    simp only [go_sem, Nat.reduceLT, Nat.reduceEqDiff, reduceCtorEq, Int.reduceLT, Int.reduceEq, hs, h9, h10, h11, h3]
    refine XO_appG (new := eB (text p.1)) (hb.push _) (by simp only [go_sem, Nat.reduceLT, Nat.reduceEqDiff, reduceCtorEq, Int.reduceLT, Int.reduceEq, hs]) (by simp only [go_sem, Nat.reduceLT, Nat.reduceEqDiff, reduceCtorEq, Int.reduceLT, Int.reduceEq, hs]) (by simp only [eB_len]; omega) (by simp only [eB_len]; omega) (fun v' h' hb' _ hfr => ?_)
    have hbox := hfr h.length _ at_last (fun e g => by simp)
    rw [← eB_append] at hb'
    have l2 : ldO h' false 1 (.ptr h.length 2) = some (vb p.2.2, h') := ld_ptr (c := vb p.2.2) hbox rfl
    have l1 : ldO h' false 1 (.ptr h.length 1) = some (.cv c, h') := ld_ptr (c := .cv c) hbox rfl
    simp only [go_sem, Nat.reduceLT, Nat.reduceEqDiff, reduceCtorEq, Int.reduceLT, Int.reduceEq, hs]
    rw [X_eq f46_1.eq_1]
    cases hg : p.2.2 with
    | true =>
      rw [hg] at l2 hn
      simp only [go_sem, Nat.reduceLT, Nat.reduceEqDiff, reduceCtorEq, Int.reduceLT, Int.reduceEq, hs, l2]
      refine XO_appG hb' (new := eB [1]) (by simp only [go_sem, Nat.reduceLT, Nat.reduceEqDiff, reduceCtorEq, Int.reduceLT, Int.reduceEq, hs]) (by simp only [go_sem, Nat.reduceLT, Nat.reduceEqDiff, reduceCtorEq, Int.reduceLT, Int.reduceEq, hs]; rfl) (by simp only [eB_len, List.length_append]; simp at hn ⊢; omega) (by simp only [eB_len, List.length_append]; simp at hn ⊢; omega) (fun v2 h2 hb2 _ _ => ?_)
      rw [← eB_append, List.append_assoc] at hb2
      simp only [go_sem, Nat.reduceLT, Nat.reduceEqDiff, reduceCtorEq, Int.reduceLT, Int.reduceEq, hs, h11, e5]
      refine ih (i + 1) (out ++ chB p) _ h2 v2 Q hd' (by omega) hl (by simp only [chB, List.length_append, hg]; exact hn_of hn) (by simp only [slot_len, hs]) (by simp only [go_sem, Nat.reduceLT, Nat.reduceEqDiff, reduceCtorEq, Int.reduceLT, Int.reduceEq, h9]) (by simp only [go_sem, Nat.reduceLT, Nat.reduceEqDiff, reduceCtorEq, Int.reduceLT, Int.reduceEq, h10]) (by simp only [go_sem, Nat.reduceLT, Nat.reduceEqDiff, reduceCtorEq, Int.reduceLT, Int.reduceEq, hs]) (by simp only [go_sem, Nat.reduceLT, Nat.reduceEqDiff, reduceCtorEq, Int.reduceLT, Int.reduceEq, hs]) (by simpa only [chB, hg, if_true] using hb2) ?_
      simp only [List.map_cons, List.flatten_cons, ← List.append_assoc] at hQ
      exact hQ
    | false =>
      rw [hg] at l2 hn
      simp only [go_sem, Nat.reduceLT, Nat.reduceEqDiff, reduceCtorEq, Int.reduceLT, Int.reduceEq, hs, l2]
      refine XO_appG hb' (new := eB [0]) (by simp only [go_sem, Nat.reduceLT, Nat.reduceEqDiff, reduceCtorEq, Int.reduceLT, Int.reduceEq, hs]) (by simp only [go_sem, Nat.reduceLT, Nat.reduceEqDiff, reduceCtorEq, Int.reduceLT, Int.reduceEq, hs]; rfl) (by simp only [eB_len, List.length_append]; simp at hn ⊢; omega) (by simp only [eB_len, List.length_append]; simp at hn ⊢; omega) (fun v2 h2 hb2 _ hfr2 => ?_)
      have hbox2 := hfr2 h.length _ hbox (fun e g => by simp)
      have l3 : ldO h2 false 1 (.ptr h.length 1) = some (.cv c, h2) := ld_ptr (c := .cv c) hbox2 rfl
      rw [← eB_append, List.append_assoc] at hb2
      simp only [go_sem, Nat.reduceLT, Nat.reduceEqDiff, reduceCtorEq, Int.reduceLT, Int.reduceEq, hs, l3, hc.bs]
      obtain ⟨v2, hc2, hcall2, hres2⟩ := text_pure p.2.1 (by simp at hn; omega)
      refine XO_callP (by simp only [List.map, go_sem, Nat.reduceLT, Nat.reduceEqDiff, reduceCtorEq, Int.reduceLT, Int.reduceEq, hs]; exact clos_cv clos_nil) hcall2 hres2 ?_
      simp only [go_sem, Nat.reduceLT, Nat.reduceEqDiff, reduceCtorEq, Int.reduceLT, Int.reduceEq, hs]
      refine XO_appG (new := eB (text p.2.1)) hb2 (by simp only [go_sem, Nat.reduceLT, Nat.reduceEqDiff, reduceCtorEq, Int.reduceLT, Int.reduceEq, hs]) (by simp only [go_sem, Nat.reduceLT, Nat.reduceEqDiff, reduceCtorEq, Int.reduceLT, Int.reduceEq, hs]) (by simp only [eB_len, List.length_append]; simp at hn ⊢; omega) (by simp only [eB_len, List.length_append]; simp at hn ⊢; omega) (fun v3 h3' hb3 _ _ => ?_)
      rw [← eB_append, List.append_assoc, List.append_assoc] at hb3
      simp only [go_sem, Nat.reduceLT, Nat.reduceEqDiff, reduceCtorEq, Int.reduceLT, Int.reduceEq, hs, h11, e5]
      refine ih (i + 1) (out ++ chB p) _ h3' v3 Q hd' (by omega) hl (by simp only [chB, List.length_append, hg]; exact hn_of hn) (by simp only [slot_len, hs]) (by simp only [go_sem, Nat.reduceLT, Nat.reduceEqDiff, reduceCtorEq, Int.reduceLT, Int.reduceEq, h9]) (by simp only [go_sem, Nat.reduceLT, Nat.reduceEqDiff, reduceCtorEq, Int.reduceLT, Int.reduceEq, h10]) (by simp only [go_sem, Nat.reduceLT, Nat.reduceEqDiff, reduceCtorEq, Int.reduceLT, Int.reduceEq, hs]) (by simp only [go_sem, Nat.reduceLT, Nat.reduceEqDiff, reduceCtorEq, Int.reduceLT, Int.reduceEq, hs]) (by simpa only [chB, hg, if_false, List.singleton_append, Bool.false_eq_true] using hb3) ?_
      simp only [List.map_cons, List.flatten_cons, ← List.append_assoc] at hQ
      exact hQ

/-- Changes' bytes. -/
theorem chs_f46 (l : List (List CV)) (kv : List Ch) (vl : VV) (hv : SlV 3 l vl) (hR : ChsE l kv) (h : Heap) (hn : (chsB kv).length ≤ 1000000000) (hk : kv.length ≤ 1000000000) :
    ∃ v h', call F 46 [vl] h = some (.ret v, h') ∧ BufG h' 1 (eB (chsB kv)) v := by
  have : ∃ v h', call F 46 [vl] h = some (.ret v, h') ∧ (fun v h' => BufG h' 1 (eB (chsB kv)) v) v h' := by
    refine call_E (fn := f46) rfl ?_
    simp only [f46]
    generalize hs0 : ([vl] ++ List.replicate _ VV.undef : List VV) = s
    have hs : s.length = 36 := by rw [← hs0]; rfl
    have h0 : s.getD 0 .undef = vl := by rw [← hs0]; rfl
    clear hs0
    simp only [go_sem, Nat.reduceLT, Nat.reduceEqDiff, reduceCtorEq, Int.reduceLT, Int.reduceEq, hs, h0, hv.ln]
    obtain ⟨v1, h1, hcall1, hb1⟩ := num_f57 l.length h
    refine XO_callR (by simp only [List.map, go_sem, Nat.reduceLT, Nat.reduceEqDiff, reduceCtorEq, Int.reduceLT, Int.reduceEq, hs]; exact hcall1) ?_
    simp only [go_sem, Nat.reduceLT, Nat.reduceEqDiff, reduceCtorEq, Int.reduceLT, Int.reduceEq, hs, h0, hv.ln]
    have hne : eB (num (clamp l.length)) ≠ [] := eB_ne.2 (num_ne _)
    have hlen : ((l.length : Nat) : Int) = ((kv.length : Nat) : Int) := by rw [hR.len]
    simp only [chsB, List.length_append] at hn
    refine f46_loop l vl hv l kv hR 0 (num (clamp l.length)) _ h1 v1 _ rfl (by omega) (by rw [hR.len]; exact hk) (by rw [hlen]; omega) (by simp only [slot_len, hs]) (by simp only [go_sem, Nat.reduceLT, Nat.reduceEqDiff, reduceCtorEq, Int.reduceLT, Int.reduceEq, hs]) (by simp only [go_sem, Nat.reduceLT, Nat.reduceEqDiff, reduceCtorEq, Int.reduceLT, Int.reduceEq, hs]) (by simp only [go_sem, Nat.reduceLT, Nat.reduceEqDiff, reduceCtorEq, Int.reduceLT, Int.reduceEq, hs]; rfl) (by simp only [go_sem, Nat.reduceLT, Nat.reduceEqDiff, reduceCtorEq, Int.reduceLT, Int.reduceEq, hs]) (hb1.toG hne) ?_
    intro s' h' v' hs' h3' hb'
    simp only [go_sem, Nat.reduceLT, Nat.reduceEqDiff, reduceCtorEq, Int.reduceLT, Int.reduceEq, hs', h3']
    rw [hlen] at hb'
    exact hb'
  exact this

/-! ### the way back -/

def chCs (p : Ch) : List CV := if p.2.2 then chC p.1 (.sc (.slice none 0 0)) true else chC p.1 (.sl 1 (eB p.2.1) false) false
def chsCs (l : List Ch) : List (List CV) := l.map chCs
/-- Changes that may be read. -/
def ChFits (l : List Ch) : Prop := ∀ p ∈ l, p.1.length ≤ 30 ∧ p.2.1.length ≤ 150 ∧ (p.2.2 = true → p.2.1 = [])
theorem chCs_E : ∀ (l : List Ch), ChFits l → ChsE (chsCs l) l
  | [], _ => .nil
  | p :: l, h => by
    refine .cons ?_ (chCs_E l fun q hq => h q (by simp [hq]))
    obtain ⟨_, _, h3⟩ := h p (by simp)
    unfold chCs
    cases hg : p.2.2 with
    | true => exact ⟨_, by rw [hg]; rfl, .inl ⟨rfl, by rw [h3 hg]; rfl⟩⟩
    | false => exact ⟨_, by rw [hg]; rfl, SlV.sl⟩
def flatC (l : List Ch) : List UInt8 := (l.map chB).flatten
theorem flatC_cons {p : Ch} {l : List Ch} : flatC (p :: l) = chB p ++ flatC l := rfl

theorem getCh_back {b : List UInt8} {a : Int} {e : List CV} {j : Nat} (h : getCh b a = (e, j, 0)) : ∃ q p r, b = p ++ chB q ++ r ∧ (p.length : Int) = a ∧ j = p.length + (chB q).length ∧ e = chCs q ∧ q.1.length ≤ 30 ∧ q.2.1.length ≤ 150 ∧ (q.2.2 = true → q.2.1 = []) := by
  unfold getCh at h
  split at h
  · rename_i h0
    simp only [Prod.mk.injEq] at h
    exact absurd h.2.2 h0
  · rename_i h0
    have hx : getText b a 30 = ((getText b a 30).1, (getText b a 30).2.1, 0) := by
      have : (getText b a 30).2.2 = 0 := by simpa using h0
      rw [← this]
    obtain ⟨p, r, e1, e2, e3, e4⟩ := getText_back hx
    generalize (getText b a 30).1 = k at *
    generalize (getText b a 30).2.1 = j1 at *
    split at h
    · simp at h
    · rename_i c hc
      have hr : ∃ r', r = c :: r' := by
        have hj : j1 = (p ++ text k).length := by rw [List.length_append]; exact e3
        rw [e1, hj, List.getElem?_append_right (Nat.le_refl _), Nat.sub_self] at hc
        cases r with
        | nil => simp at hc
        | cons d r' => simp at hc; exact ⟨r', by rw [hc]⟩
      obtain ⟨r, rfl⟩ := hr
      split at h
      · rename_i h1
        simp only [Prod.mk.injEq] at h
        obtain ⟨h3, h4, _⟩ := h
        have hc1 : c = 1 := by rw [← u8_self c, h1]; rfl
        subst hc1
        refine ⟨(k, [], true), p, r, by rw [e1]; simp [chB], e2, ?_, h3.symm, by simp only; omega, by simp, fun _ => rfl⟩
        simp only [chB, if_true, List.length_append, List.length_singleton]; omega
      · rename_i h1
        split at h
        · simp at h
        · rename_i h2
          have hc0 : c = 0 := by rw [← u8_self c, show c.toNat = 0 by omega]; rfl
          subst hc0
          simp only [Prod.mk.injEq] at h
          obtain ⟨h3, h4, h5⟩ := h
          have hy : getText b ((j1 + 1 : Nat) : Int) 150 = ((getText b ((j1 + 1 : Nat) : Int) 150).1, (getText b ((j1 + 1 : Nat) : Int) 150).2.1, 0) := by rw [← h5]
          obtain ⟨p', r', f1, f2, f3, f4⟩ := getText_back hy
          generalize (getText b ((j1 + 1 : Nat) : Int) 150).1 = v at *
          generalize (getText b ((j1 + 1 : Nat) : Int) 150).2.1 = j2 at *
          have e1' : b = (p ++ text k ++ [0]) ++ r := by rw [e1]; simp
          have hp : p' = p ++ text k ++ [0] := by
            have g1 : b.take (j1 + 1) = p' := by rw [f1, List.append_assoc, show j1 + 1 = p'.length by omega, List.take_left]
            have g2 : b.take (j1 + 1) = p ++ text k ++ [0] := by rw [e1', show j1 + 1 = (p ++ text k ++ [0]).length by simp only [List.length_append, List.length_singleton]; omega, List.take_left]
            rw [← g1, g2]
          refine ⟨(k, v, false), p, r', ?_, e2, ?_, h3.symm, by simp only; omega, by simp only; omega, by simp⟩
          · rw [f1, hp]; simp only [chB, Bool.false_eq_true, if_false, List.append_assoc, List.cons_append, List.nil_append]
          · rw [← h4, f3, hp]; simp only [chB, Bool.false_eq_true, if_false, List.length_append, List.length_cons, List.length_nil]; omega

theorem wholeF_backC {b : List UInt8} : ∀ (m a : Nat) (out els : List (List CV)) (j : Nat), a ≤ b.length → wholeF (getCh b) m a out = (els, j, 0) →
    ∃ kv p r, b = p ++ flatC kv ++ r ∧ p.length = a ∧ j = p.length + (flatC kv).length ∧ els = out ++ chsCs kv ∧ kv.length = m ∧ ChFits kv
  | 0, a, out, els, j, ha, h => by
    simp only [wholeF, Prod.mk.injEq] at h
    obtain ⟨rfl, rfl, _⟩ := h
    exact ⟨[], b.take a, b.drop a, by simp [flatC], by rw [List.length_take]; omega, by rw [List.length_take]; simp [flatC]; omega, by simp [chsCs], rfl, by intro p hp; simp at hp⟩
  | m + 1, a, out, els, j, ha, h => by
    simp only [wholeF] at h
    split at h
    · rename_i h0
      simp only [Prod.mk.injEq] at h
      exact absurd h.2.2 h0
    · rename_i h0
      have hx : getCh b (a : Int) = ((getCh b (a : Int)).1, (getCh b (a : Int)).2.1, 0) := by
        have : (getCh b (a : Int)).2.2 = 0 := by simpa using h0
        rw [← this]
      obtain ⟨q, p, r, e1, e2, e3, e4, e5⟩ := getCh_back hx
      generalize (getCh b (a : Int)).1 = e at *
      generalize (getCh b (a : Int)).2.1 = j1 at *
      have hj : j1 ≤ b.length := by rw [e1, e3]; simp only [List.length_append]; omega
      obtain ⟨kv, p', r', f1, f2, f3, f4, f5, f6⟩ := wholeF_backC m j1 _ els j hj h
      have hp : p' = p ++ chB q := by
        have h1 : b.take j1 = p' := by rw [f1, List.append_assoc, ← f2, List.take_left]
        have h2 : b.take j1 = p ++ chB q := by rw [e1, show j1 = (p ++ chB q).length by rw [List.length_append]; exact e3, List.take_left]
        rw [← h1, h2]
      refine ⟨q :: kv, p, r', ?_, by omega, ?_, ?_, by simp [f5], ?_⟩
      · rw [f1, hp, flatC_cons]; simp only [List.append_assoc]
      · rw [f3, hp, flatC_cons]; simp only [List.length_append]; omega
      · rw [f4, e4]; simp [chsCs]
      · intro q' hq
        rcases List.mem_cons.1 hq with rfl | hq
        · exact e5
        · exact f6 q' hq

theorem wholeB_backC {b : List UInt8} (h : (wholeB (getCh b) b).2 = 0) : ∃ kv, (wholeB (getCh b) b).1 = chsCs kv ∧ b = chsB kv ∧ ChFits kv := by
  unfold wholeB at h ⊢
  simp only at h ⊢
  split at h
  · rename_i h0; exact absurd h h0
  · rename_i h0
    rw [if_neg h0]
    have hx : getNum b 0 = ((getNum b 0).1, (getNum b 0).2.1, 0) := by
      have : (getNum b 0).2.2 = 0 := by simpa using h0
      rw [← this]
    obtain ⟨p, r, e1, e2, e3, e4⟩ := getNum_back hx
    generalize (getNum b 0).1 = n at *
    generalize (getNum b 0).2.1 = a at *
    have hp0 : p = [] := List.eq_nil_of_length_eq_zero (by omega)
    subst hp0
    split at h
    · simp at h
    · rename_i h1
      rw [if_neg h1]
      split at h
      · rename_i h2; exact absurd h h2
      · rename_i h2
        rw [if_neg h2]
        have hy : wholeF (getCh b) n a [] = ((wholeF (getCh b) n a []).1, (wholeF (getCh b) n a []).2.1, 0) := by
          have : (wholeF (getCh b) n a []).2.2 = 0 := by simpa using h2
          rw [← this]
        have ha : a ≤ b.length := by rw [e3, e1]; simp only [List.length_append]; omega
        obtain ⟨kv, p', r', f1, f2, f3, f4, f5, f6⟩ := wholeF_backC n a [] _ _ ha hy
        generalize (wholeF (getCh b) n a []).1 = els at *
        generalize (wholeF (getCh b) n a []).2.1 = j at *
        split at h
        · simp at h
        · rename_i h3
          rw [if_neg h3]
          have hr : r' = [] := by
            have := congrArg List.length f1
            simp only [List.length_append] at this
            exact List.eq_nil_of_length_eq_zero (by omega)
          subst hr
          have hp : p' = num n := by
            have h1 : b.take a = p' := by rw [f1, List.append_assoc, ← f2, List.take_left]
            have h2 : b.take a = num n := by rw [e1, List.nil_append, show a = (num n).length by simpa using e3, List.take_left]
            rw [← h1, h2]
          refine ⟨kv, by simpa using f4, ?_, f6⟩
          rw [f1, hp, List.append_nil]
          unfold chsB
          rw [f5, clamp_of n e4]
          rfl

end Go.V07


set_option linter.unusedSimpArgs false
set_option linter.unusedVariables false
namespace Go.V07
open Go Go.Vm

theorem flatC_le : ∀ kv : List Ch, kv.length ≤ ((kv.map chB).flatten).length
  | [] => by simp
  | p :: kv => by
    have := flatC_le kv
    have h1 : 0 < (chB p).length := by
      have := text_ne p.1
      rw [eB_ne] at this
      have := List.length_pos_iff.2 this
      unfold chB; rw [List.length_append]; omega
    simp only [List.map_cons, List.flatten_cons, List.length_append, List.length_cons]; omega

end Go.V07


set_option linter.unusedSimpArgs false
set_option linter.unusedVariables false
namespace Go.V07
open Go Go.Vm

/-! ### the document's answer: changes that are read -/

theorem getText_err (b : List UInt8) (a m : Int) (h : (getText b a m).2.2 ≠ 0) : (getText b a m).2.1 = 0 := by
  unfold getText at h ⊢
  split
  · rfl
  · rename_i h0
    rw [if_neg h0] at h
    split
    · rfl
    · rename_i h1
      rw [if_neg h1] at h
      split
      · rfl
      · rename_i h2
        rw [if_neg h2] at h
        exact absurd rfl h

def ChIs (x : List CV × Nat × Nat) (v : VV) (_ : Heap) : Prop := ∃ e : List CV, (∃ u w t, e = [u, w, t]) ∧ v = .tup [.agg (e.map .cv), vi .i64 x.2.1, vi .i64 x.2.2] ∧ (x.2.2 = 0 → e = x.1)

theorem change_f74 (b : List UInt8) (v : VV) (hv : SlV 1 (eB b) v) (a : Int) (hb : b.length ≤ 1000000000) :
    ∃ w h', call F 74 [v, vi .i64 a] [] = some (.ret w, h') ∧ ChIs (getCh b a) w h' := by
  refine call_E (fn := f74) rfl ?_
  simp only [f74]
  generalize hs0 : ([v, vi .i64 a] ++ List.replicate _ VV.undef : List VV) = s
  have hs : s.length = 67 := by rw [← hs0]; rfl
  have h0 : s.getD 0 .undef = v := by rw [← hs0]; rfl
  have h1 : s.getD 1 .undef = vi .i64 a := by rw [← hs0]; rfl
  clear hs0
  simp only [go_sem, Nat.reduceLT, Nat.reduceEqDiff, reduceCtorEq, Int.reduceLT, Int.reduceEq, hs, h0, h1, List.nil_append, List.length_nil]
  refine XO_callP (by simp only [List.map, go_sem, Nat.reduceLT, Nat.reduceEqDiff, reduceCtorEq, Int.reduceLT, Int.reduceEq, hs, h0, h1]; exact hv.clos (clos_cv (clos_cv clos_nil))) (rtext_f81 b v hv a 30 [] hb) clos_tup3 ?_
  have hbd := getText_bound b a 30
  unfold getCh
  generalize getText b a 30 = x at hbd ⊢
  obtain ⟨k, j, e⟩ := x
  simp only [go_sem, Nat.reduceLT, Nat.reduceEqDiff, reduceCtorEq, Int.reduceLT, Int.reduceEq, hs] at hbd ⊢
  rw [X_eq f74_0.eq_1]
  by_cases c1 : (e : Int) = 0
  · have c1' : e = 0 := by omega
    subst c1'
    obtain ⟨hj, _⟩ := hbd rfl
    by_cases c2 : (j : Int) = (b.length : Int)
    · have hg : b[j]? = none := List.getElem?_eq_none (by omega)
      simp only [go_sem, Nat.reduceLT, Nat.reduceEqDiff, reduceCtorEq, Int.reduceLT, Int.reduceEq, hs, h0, eq_true c1, hv.ln, eB_len, eq_true c2, hg]
      rw [X_eq f74_1.eq_1]
      simp only [go_sem, Nat.reduceLT, Nat.reduceEqDiff, reduceCtorEq, Int.reduceLT, Int.reduceEq, hs]
      rw [X_eq f74_2.eq_1]
      simp only [go_sem, Nat.reduceLT, Nat.reduceEqDiff, reduceCtorEq, Int.reduceLT, Int.reduceEq, hs]
      refine RQ_c2 (id := 0) (by simp only [go_sem, Nat.reduceLT, Nat.reduceEqDiff, reduceCtorEq, Int.reduceLT, Int.reduceEq, hs]) rfl rfl (by simp only [go_sem, Nat.reduceLT, Nat.reduceEqDiff, reduceCtorEq, Int.reduceLT, Int.reduceEq, hs]) (by simp only [go_sem, Nat.reduceLT, Nat.reduceEqDiff, reduceCtorEq, Int.reduceLT, Int.reduceEq, hs]) ?_
      simp only [go_sem, Nat.reduceLT, Nat.reduceEqDiff, reduceCtorEq, Int.reduceLT, Int.reduceEq, hs]
      exact ⟨ch0, ⟨_, _, _, rfl⟩, rfl, fun h => by simp at h⟩
    · obtain ⟨c, hg⟩ : ∃ c, b[j]? = some c := ⟨_, List.getElem?_eq_getElem (show j < b.length by omega)⟩
      have hia : ∀ h : Heap, iaO h 1 v (vi .i64 (j : Int)) = some (.rptr (byteCell c), h) := fun h => hv.ia (by omega) (by exact eB_get hg)
      have e5 : IntKind.i64.wrap ((j : Int) + 1) = ((j + 1 : Nat) : Int) := by rw [IntWalk.i64_in _ (by omega)]; omega
      simp only [go_sem, Nat.reduceLT, Nat.reduceEqDiff, reduceCtorEq, Int.reduceLT, Int.reduceEq, hs, h0, eq_true c1, hv.ln, eB_len, c2, hg]
      rw [X_eq f74_1.eq_1]
      by_cases c4 : (1 : Int) < (c.toNat : Int)
      · have c4' : 1 < c.toNat := by omega
        have c3' : ¬ c.toNat = 1 := by omega
        simp only [go_sem, Nat.reduceLT, Nat.reduceEqDiff, reduceCtorEq, Int.reduceLT, Int.reduceEq, hs, h0, eq_true c1, hia, byteCell, c4, c4', c3']
        rw [X_eq f74_2.eq_1]
        simp only [go_sem, Nat.reduceLT, Nat.reduceEqDiff, reduceCtorEq, Int.reduceLT, Int.reduceEq, hs]
        refine RQ_c2 (id := 0) (by simp only [go_sem, Nat.reduceLT, Nat.reduceEqDiff, reduceCtorEq, Int.reduceLT, Int.reduceEq, hs]) rfl rfl (by simp only [go_sem, Nat.reduceLT, Nat.reduceEqDiff, reduceCtorEq, Int.reduceLT, Int.reduceEq, hs]) (by simp only [go_sem, Nat.reduceLT, Nat.reduceEqDiff, reduceCtorEq, Int.reduceLT, Int.reduceEq, hs]) ?_
        simp only [go_sem, Nat.reduceLT, Nat.reduceEqDiff, reduceCtorEq, Int.reduceLT, Int.reduceEq, hs]
        exact ⟨ch0, ⟨_, _, _, rfl⟩, rfl, fun h => by simp at h⟩
      · have c4' : ¬ 1 < c.toNat := by omega
        by_cases c3 : (c.toNat : Int) = 1
        · have c3' : c.toNat = 1 := by omega
          simp only [go_sem, Nat.reduceLT, Nat.reduceEqDiff, reduceCtorEq, Int.reduceLT, Int.reduceEq, hs, h0, eq_true c1, hia, byteCell, c4]
          rw [X_eq f74_2.eq_1]
          simp only [go_sem, Nat.reduceLT, Nat.reduceEqDiff, reduceCtorEq, Int.reduceLT, Int.reduceEq, hs, eq_true c1]
          rw [X_eq f74_3.eq_1]
          simp only [go_sem, Nat.reduceLT, Nat.reduceEqDiff, reduceCtorEq, Int.reduceLT, Int.reduceEq, hs, h0, hia, byteCell, eq_true c3, bd_3k, e5]
          rw [if_pos c3']
          refine RQ_c2 (id := 0) (by simp only [go_sem, Nat.reduceLT, Nat.reduceEqDiff, reduceCtorEq, Int.reduceLT, Int.reduceEq, hs]) rfl rfl (by simp only [go_sem, Nat.reduceLT, Nat.reduceEqDiff, reduceCtorEq, Int.reduceLT, Int.reduceEq, hs]) (by simp only [go_sem, Nat.reduceLT, Nat.reduceEqDiff, reduceCtorEq, Int.reduceLT, Int.reduceEq, hs]) ?_
          simp only [go_sem, Nat.reduceLT, Nat.reduceEqDiff, reduceCtorEq, Int.reduceLT, Int.reduceEq, hs]
          exact ⟨_, ⟨_, _, _, rfl⟩, rfl, fun _ => rfl⟩
        · have c3' : ¬ c.toNat = 1 := by omega
          simp only [go_sem, Nat.reduceLT, Nat.reduceEqDiff, reduceCtorEq, Int.reduceLT, Int.reduceEq, hs, h0, eq_true c1, hia, byteCell, c4]
          rw [X_eq f74_2.eq_1]
          simp only [go_sem, Nat.reduceLT, Nat.reduceEqDiff, reduceCtorEq, Int.reduceLT, Int.reduceEq, hs, eq_true c1]
          rw [X_eq f74_3.eq_1]
          simp only [go_sem, Nat.reduceLT, Nat.reduceEqDiff, reduceCtorEq, Int.reduceLT, Int.reduceEq, hs, h0, hia, byteCell, c3, e5]
          rw [if_neg c3', if_neg c4']
          refine XO_callP (by simp only [List.map, go_sem, Nat.reduceLT, Nat.reduceEqDiff, reduceCtorEq, Int.reduceLT, Int.reduceEq, hs]; exact hv.clos (clos_cv (clos_cv clos_nil))) (rtext_f81 b v hv (j + 1 : Nat) 150 [] hb) clos_tup3 ?_
          have hte := getText_err b (j + 1 : Nat) 150
          generalize getText b (j + 1 : Nat) 150 = y at hte ⊢
          obtain ⟨u, j2, e2⟩ := y
          simp only [go_sem, Nat.reduceLT, Nat.reduceEqDiff, reduceCtorEq, Int.reduceLT, Int.reduceEq, hs] at hte ⊢
          rw [X_eq f74_4.eq_1]
          by_cases c5 : (e2 : Int) = 0
          · have c5' : e2 = 0 := by omega
            subst c5'
            simp only [go_sem, Nat.reduceLT, Nat.reduceEqDiff, reduceCtorEq, Int.reduceLT, Int.reduceEq, hs, eq_true c5, bd_3v]
            refine RQ_c2 (id := 0) (by simp only [go_sem, Nat.reduceLT, Nat.reduceEqDiff, reduceCtorEq, Int.reduceLT, Int.reduceEq, hs]) rfl rfl (by simp only [go_sem, Nat.reduceLT, Nat.reduceEqDiff, reduceCtorEq, Int.reduceLT, Int.reduceEq, hs]) (by simp only [go_sem, Nat.reduceLT, Nat.reduceEqDiff, reduceCtorEq, Int.reduceLT, Int.reduceEq, hs]) ?_
            simp only [go_sem, Nat.reduceLT, Nat.reduceEqDiff, reduceCtorEq, Int.reduceLT, Int.reduceEq, hs]
            exact ⟨_, ⟨_, _, _, rfl⟩, rfl, fun _ => rfl⟩
          · have c5' : e2 ≠ 0 := by omega
            have := hte c5'
            subst this
            simp only [go_sem, Nat.reduceLT, Nat.reduceEqDiff, reduceCtorEq, Int.reduceLT, Int.reduceEq, hs, c5]
            refine RQ_c2 (id := 0) (by simp only [go_sem, Nat.reduceLT, Nat.reduceEqDiff, reduceCtorEq, Int.reduceLT, Int.reduceEq, hs]) rfl rfl (by simp only [go_sem, Nat.reduceLT, Nat.reduceEqDiff, reduceCtorEq, Int.reduceLT, Int.reduceEq, hs]) (by simp only [go_sem, Nat.reduceLT, Nat.reduceEqDiff, reduceCtorEq, Int.reduceLT, Int.reduceEq, hs]) ?_
            simp only [go_sem, Nat.reduceLT, Nat.reduceEqDiff, reduceCtorEq, Int.reduceLT, Int.reduceEq, hs]
            exact ⟨ch0, ⟨_, _, _, rfl⟩, rfl, fun h => absurd h c5'⟩
  · have c1' : ¬ e = 0 := by omega
    simp only [go_sem, Nat.reduceLT, Nat.reduceEqDiff, reduceCtorEq, Int.reduceLT, Int.reduceEq, hs, c1, c1']
    rw [X_eq f74_1.eq_1]
    simp only [go_sem, Nat.reduceLT, Nat.reduceEqDiff, reduceCtorEq, Int.reduceLT, Int.reduceEq, hs, c1]
    rw [X_eq f74_2.eq_1]
    simp only [go_sem, Nat.reduceLT, Nat.reduceEqDiff, reduceCtorEq, Int.reduceLT, Int.reduceEq, hs, c1]
    refine RQ_c2 (id := 0) (by simp only [go_sem, Nat.reduceLT, Nat.reduceEqDiff, reduceCtorEq, Int.reduceLT, Int.reduceEq, hs]) rfl rfl (by simp only [go_sem, Nat.reduceLT, Nat.reduceEqDiff, reduceCtorEq, Int.reduceLT, Int.reduceEq, hs]) (by simp only [go_sem, Nat.reduceLT, Nat.reduceEqDiff, reduceCtorEq, Int.reduceLT, Int.reduceEq, hs]) ?_
    simp only [go_sem, Nat.reduceLT, Nat.reduceEqDiff, reduceCtorEq, Int.reduceLT, Int.reduceEq, hs]
    exact ⟨ch0, ⟨_, _, _, rfl⟩, rfl, fun h => absurd h c1'⟩

theorem f67_loop (b : List UInt8) (vb_ : VV) (hv : SlV 1 (eB b) vb_) (hb : b.length ≤ 1000000000) (n : Nat) (hn : n ≤ 5000) : ∀ (m i a : Nat) (out : List (List CV)) (s : List VV) (h : Heap) (v : VV) (Q : Pst), i + m = n → out.length + m ≤ 5000 → s.length = 54 →
    s.getD 0 .undef = vb_ → s.getD 4 .undef = vi .i64 n → s.getD 5 .undef = vi .i64 a → s.getD 6 .undef = vi .i64 0 → s.getD 7 .undef = v → s.getD 8 .undef = vi .i64 i → BufG h 3 out v →
    (∀ o s' h', RL 3 54 vb_ (wholeF (getCh b) m a out) o s' h' → Q o ⟨s', h'⟩) →
    X F (.loop f67_1) ⟨s, h⟩ Q := by
  intro m
  induction m with
  | zero =>
    intro i a out s h v Q hi hol hs h0 h4 h5 h6 h7 h8 hbuf hQ
    rw [X_loop, X_eq f67_1.eq_1]
    have hlt : ¬ (i : Int) < (n : Int) := by omega
    simp only [go_sem, Nat.reduceLT, Nat.reduceEqDiff, reduceCtorEq, Int.reduceLT, Int.reduceEq, hs, h4, h6, h8, hlt]
    exact hQ _ _ _ ⟨by simp only [slot_len, hs], .inr ⟨rfl, rfl, by simp only [go_sem, Nat.reduceLT, Nat.reduceEqDiff, reduceCtorEq, Int.reduceLT, Int.reduceEq, h0], ⟨v, by simp only [go_sem, Nat.reduceLT, Nat.reduceEqDiff, reduceCtorEq, Int.reduceLT, Int.reduceEq, h7], hbuf⟩, by simp only [go_sem, Nat.reduceLT, Nat.reduceEqDiff, reduceCtorEq, Int.reduceLT, Int.reduceEq, h5, wholeF], by simp only [go_sem, Nat.reduceLT, Nat.reduceEqDiff, reduceCtorEq, Int.reduceLT, Int.reduceEq, h6]⟩⟩
  | succ m ih =>
    intro i a out s h v Q hi hol hs h0 h4 h5 h6 h7 h8 hbuf hQ
    rw [X_loop, X_eq f67_1.eq_1]
    have hlt : (i : Int) < (n : Int) := by omega
    simp only [go_sem, Nat.reduceLT, Nat.reduceEqDiff, reduceCtorEq, Int.reduceLT, Int.reduceEq, hs, h0, h4, h5, h6, h8, hlt]
    obtain ⟨w, hc, hcall, e, ⟨u1, u2, u3, rfl⟩, rfl, he⟩ := change_f74 b vb_ hv a hb
    refine XO_callP (by simp only [List.map, go_sem, Nat.reduceLT, Nat.reduceEqDiff, reduceCtorEq, Int.reduceLT, Int.reduceEq, hs, h0, h5]; exact hv.clos (clos_cv clos_nil)) hcall clos_ch ?_
    simp only [wholeF] at hQ
    simp only [go_sem, Nat.reduceLT, Nat.reduceEqDiff, reduceCtorEq, Int.reduceLT, Int.reduceEq, hs]
    rw [X_eq f67_0.eq_1]
    by_cases c1 : ((getCh b a).2.2 : Int) = 0
    · have c1' : (getCh b a).2.2 = 0 := by omega
      have e5 : IntKind.i64.wrap ((i : Int) + 1) = ((i + 1 : Nat) : Int) := by rw [IntWalk.i64_in _ (by omega)]; omega
      simp only [go_sem, Nat.reduceLT, Nat.reduceEqDiff, reduceCtorEq, Int.reduceLT, Int.reduceEq, hs, h7, eq_true c1]
      refine XO_appG (new := [[u1, u2, u3]]) (hbuf.push _) (by simp only [go_sem, Nat.reduceLT, Nat.reduceEqDiff, reduceCtorEq, Int.reduceLT, Int.reduceEq, hs]) (by simp only [go_sem, Nat.reduceLT, Nat.reduceEqDiff, reduceCtorEq, Int.reduceLT, Int.reduceEq, hs]) (by simp only [List.length_singleton]; omega) (by simp only [List.length_singleton]; omega) (fun v' h' hb' _ _ => ?_)
      simp only [go_sem, Nat.reduceLT, Nat.reduceEqDiff, reduceCtorEq, Int.reduceLT, Int.reduceEq, hs, h8, e5]
      refine ih (i + 1) (getCh b a).2.1 (out ++ [(getCh b a).1]) _ h' v' Q (by omega) (by simp only [List.length_append, List.length_singleton]; omega) (by simp only [slot_len, hs]) (by simp only [go_sem, Nat.reduceLT, Nat.reduceEqDiff, reduceCtorEq, Int.reduceLT, Int.reduceEq, h0]) (by simp only [go_sem, Nat.reduceLT, Nat.reduceEqDiff, reduceCtorEq, Int.reduceLT, Int.reduceEq, h4]) (by simp only [go_sem, Nat.reduceLT, Nat.reduceEqDiff, reduceCtorEq, Int.reduceLT, Int.reduceEq, hs]) (by simp only [go_sem, Nat.reduceLT, Nat.reduceEqDiff, reduceCtorEq, Int.reduceLT, Int.reduceEq, h6]) (by simp only [go_sem, Nat.reduceLT, Nat.reduceEqDiff, reduceCtorEq, Int.reduceLT, Int.reduceEq, hs]) (by simp only [go_sem, Nat.reduceLT, Nat.reduceEqDiff, reduceCtorEq, Int.reduceLT, Int.reduceEq, hs]) (by rw [← he c1']; exact hb') ?_
      simp only [c1', ne_eq, not_true_eq_false, if_false] at hQ
      exact hQ
    · have c1' : ¬ (getCh b a).2.2 = 0 := by omega
      simp only [go_sem, Nat.reduceLT, Nat.reduceEqDiff, reduceCtorEq, Int.reduceLT, Int.reduceEq, hs, c1]
      refine hQ _ _ _ ⟨by simp only [slot_len, hs], .inl ?_⟩
      simp only [ne_eq, c1', not_false_eq_true, if_true]
      exact ⟨trivial, trivial, by simp only [go_sem, Nat.reduceLT, Nat.reduceEqDiff, reduceCtorEq, Int.reduceLT, Int.reduceEq, hs], by simp only [go_sem, Nat.reduceLT, Nat.reduceEqDiff, reduceCtorEq, Int.reduceLT, Int.reduceEq, hs]⟩

end Go.V07


set_option linter.unusedSimpArgs false
set_option linter.unusedVariables false
namespace Go.V07
open Go Go.Vm

/-- Changes, by the document. -/
theorem rchs_f67 (b : List UInt8) (vb_ : VV) (hv : SlV 1 (eB b) vb_) (hb : b.length ≤ 1000000000) :
    ∃ v h', call F 67 [vb_] [] = some (.ret v, h') ∧ CloseTo (.tup [slV 3 (wholeB (getCh b) b).1, vi .i64 (wholeB (getCh b) b).2]) v h' := by
  refine call_E (fn := f67) rfl ?_
  simp only [f67]
  generalize hs0 : ([vb_] ++ List.replicate _ VV.undef : List VV) = s
  have hs : s.length = 54 := by rw [← hs0]; rfl
  have h0 : s.getD 0 .undef = vb_ := by rw [← hs0]; rfl
  clear hs0
  simp only [go_sem, Nat.reduceLT, Nat.reduceEqDiff, reduceCtorEq, Int.reduceLT, Int.reduceEq, hs, h0]
  obtain ⟨g1, hc1⟩ := many_f73 b vb_ hv [] hb
  refine XO_callP (by simp only [List.map, go_sem, Nat.reduceLT, Nat.reduceEqDiff, reduceCtorEq, Int.reduceLT, Int.reduceEq, hs]; exact hv.clos clos_nil) hc1 clos_tup3 ?_
  unfold wholeB manyF
  have hbd := getNum_bound b 0
  generalize getNum b 0 = x at hbd ⊢
  obtain ⟨n, a, e⟩ := x
  simp only at hbd ⊢
  -- the loop is left at once
  have bad : ∀ (e' : Nat) (a' n' : Nat) (s' : List VV) (w : VV), s'.length = 54 → e' ≠ 0 → s'.getD 0 .undef = vb_ → s'.getD 6 .undef = vi .i64 e' → s'.getD 4 .undef = vi .i64 n' → s'.getD 8 .undef = vi .i64 0 → w = .tup [slV 3 [], vi .i64 e'] →
      X F (.loop f67_1) ⟨s', []⟩ (B 0 (K F (.seq f67_2 (.seq f67_3 (.seq (.reg [⟨none, (some 53), (.mv (.t 7))⟩, ⟨none, (some 2), (.mv (.t 53))⟩, ⟨none, (some 3), (.mv (.c (.cv (.sc (.int .i64 0)))))⟩]) .ret))) (RQ [.t 2, .t 3] (CloseTo w)))) := by
    intro e' a' n' s' w hs' he h0' h6' h4' h8' hw
    have he' : ¬ (e' : Int) = 0 := by omega
    rw [X_loop, X_eq f67_1.eq_1]
    by_cases hlt : (0 : Int) < (n' : Int)
    · simp only [go_sem, Nat.reduceLT, Nat.reduceEqDiff, reduceCtorEq, Int.reduceLT, Int.reduceEq, hs', h4', h6', h8', hlt, he']
      rw [X_eq f67_2.eq_1]
      simp only [go_sem, Nat.reduceLT, Nat.reduceEqDiff, reduceCtorEq, Int.reduceLT, Int.reduceEq, hs', h6', he']
      rw [X_eq f67_3.eq_1]
      simp only [go_sem, Nat.reduceLT, Nat.reduceEqDiff, reduceCtorEq, Int.reduceLT, Int.reduceEq, hs', h6', he']
      rw [hw]; rfl
    · simp only [go_sem, Nat.reduceLT, Nat.reduceEqDiff, reduceCtorEq, Int.reduceLT, Int.reduceEq, hs', h4', h6', h8', hlt, he']
      rw [X_eq f67_2.eq_1]
      simp only [go_sem, Nat.reduceLT, Nat.reduceEqDiff, reduceCtorEq, Int.reduceLT, Int.reduceEq, hs', h6', he']
      rw [X_eq f67_3.eq_1]
      simp only [go_sem, Nat.reduceLT, Nat.reduceEqDiff, reduceCtorEq, Int.reduceLT, Int.reduceEq, hs', h6', he']
      rw [hw]; rfl
  by_cases c1 : e = 0
  · subst c1
    by_cases c2 : 5000 < n
    · simp only [go_sem, Nat.reduceLT, Nat.reduceEqDiff, reduceCtorEq, Int.reduceLT, Int.reduceEq, hs, h0, c2, and_self]
      exact bad 3 a n _ _ (by simp only [slot_len, hs]) (by decide) (by simp only [go_sem, Nat.reduceLT, Nat.reduceEqDiff, reduceCtorEq, Int.reduceLT, Int.reduceEq, h0]) (by simp only [go_sem, Nat.reduceLT, Nat.reduceEqDiff, reduceCtorEq, Int.reduceLT, Int.reduceEq, hs]) (by simp only [go_sem, Nat.reduceLT, Nat.reduceEqDiff, reduceCtorEq, Int.reduceLT, Int.reduceEq, hs]) (by simp only [go_sem, Nat.reduceLT, Nat.reduceEqDiff, reduceCtorEq, Int.reduceLT, Int.reduceEq, hs]) rfl
    · simp only [go_sem, Nat.reduceLT, Nat.reduceEqDiff, reduceCtorEq, Int.reduceLT, Int.reduceEq, hs, h0, c2, and_false]
      refine f67_loop b vb_ hv hb n (by omega) n 0 a [] _ [] nilS _ (by omega) (by simp only [List.length_nil]; omega) (by simp only [slot_len, hs]) (by simp only [go_sem, Nat.reduceLT, Nat.reduceEqDiff, reduceCtorEq, Int.reduceLT, Int.reduceEq, h0]) (by simp only [go_sem, Nat.reduceLT, Nat.reduceEqDiff, reduceCtorEq, Int.reduceLT, Int.reduceEq, hs]) (by simp only [go_sem, Nat.reduceLT, Nat.reduceEqDiff, reduceCtorEq, Int.reduceLT, Int.reduceEq, hs]) (by simp only [go_sem, Nat.reduceLT, Nat.reduceEqDiff, reduceCtorEq, Int.reduceLT, Int.reduceEq, hs]; rfl) (by simp only [go_sem, Nat.reduceLT, Nat.reduceEqDiff, reduceCtorEq, Int.reduceLT, Int.reduceEq, hs]) (by simp only [go_sem, Nat.reduceLT, Nat.reduceEqDiff, reduceCtorEq, Int.reduceLT, Int.reduceEq, hs]; rfl) (BufG.nil _ _) ?_
      intro o s' h' hR
      generalize wholeF (getCh b) n a [] = y at hR ⊢
      obtain ⟨out, j, e2⟩ := y
      obtain ⟨hs', ⟨k1, rfl, k2, k3⟩ | ⟨k1, rfl, k2, ⟨v, k3, k4⟩, k5, k6⟩⟩ := hR
      · simp only at k1 k3
        simp only [go_sem, Nat.reduceLT, Nat.reduceEqDiff, reduceCtorEq, Int.reduceLT, Int.reduceEq, hs', k2, k3, k1, ne_eq]
        rfl
      · simp only at k1 k4 k5
        subst k1
        simp only [go_sem, Nat.reduceLT, Nat.reduceEqDiff, reduceCtorEq, Int.reduceLT, Int.reduceEq, hs']
        rw [X_eq f67_2.eq_1]
        by_cases c4 : (j : Int) < (b.length : Int)
        · have c4' : j < b.length := by omega
          simp only [go_sem, Nat.reduceLT, Nat.reduceEqDiff, reduceCtorEq, Int.reduceLT, Int.reduceEq, hs', k2, k3, k5, k6, hv.ln, eB_len, c4]
          rw [X_eq f67_3.eq_1]
          simp only [go_sem, Nat.reduceLT, Nat.reduceEqDiff, reduceCtorEq, Int.reduceLT, Int.reduceEq, hs', c4']
          rfl
        · have c4' : ¬ j < b.length := by omega
          simp only [go_sem, Nat.reduceLT, Nat.reduceEqDiff, reduceCtorEq, Int.reduceLT, Int.reduceEq, hs', k2, k3, k5, k6, hv.ln, eB_len, c4]
          rw [X_eq f67_3.eq_1]
          simp only [go_sem, Nat.reduceLT, Nat.reduceEqDiff, reduceCtorEq, Int.reduceLT, Int.reduceEq, hs', k3, k6, c4']
          exact clos_slV k4
  · have c1' : e ≠ 0 := c1
    simp only [go_sem, Nat.reduceLT, Nat.reduceEqDiff, reduceCtorEq, Int.reduceLT, Int.reduceEq, hs, h0, c1, false_and]
    exact bad e a n _ _ (by simp only [slot_len, hs]) c1' (by simp only [go_sem, Nat.reduceLT, Nat.reduceEqDiff, reduceCtorEq, Int.reduceLT, Int.reduceEq, h0]) (by simp only [go_sem, Nat.reduceLT, Nat.reduceEqDiff, reduceCtorEq, Int.reduceLT, Int.reduceEq, hs]) (by simp only [go_sem, Nat.reduceLT, Nat.reduceEqDiff, reduceCtorEq, Int.reduceLT, Int.reduceEq, hs]) (by simp only [go_sem, Nat.reduceLT, Nat.reduceEqDiff, reduceCtorEq, Int.reduceLT, Int.reduceEq, hs]) rfl

theorem ChsE.get {l : List (List CV)} {k : List Ch} (h : ChsE l k) : ∀ {i : Nat}, i < k.length → ∃ e p, l[i]? = some e ∧ k[i]? = some p ∧ chE e p := by
  induction h with
  | nil => intro i hi; simp at hi
  | @cons e p l k h _ ih =>
    intro i hi
    cases i with
    | zero => exact ⟨e, p, rfl, rfl, h⟩
    | succ i =>
      obtain ⟨e', p', h1, h2, h3⟩ := ih (i := i) (by simpa using hi)
      exact ⟨e', p', by simpa using h1, by simpa using h2, h3⟩

theorem f20_loop (l m : List (List CV)) (k : List Ch) (vl vm : VV) (hl : SlV 3 l vl) (hm : SlV 3 m vm) (hR : ChsE l k) (hS : ChsE m k) (hk : k.length ≤ 1000000000) (h : Heap) : ∀ (d i : Nat) (s : List VV) (Q : Pst),
    i + d = k.length → s.length = 56 → s.getD 0 .undef = vl → s.getD 1 .undef = vm → s.getD 5 .undef = vi .i64 i →
    (∀ s', s'.length = 56 → Q (.exit 0) ⟨s', h⟩) → X F (.loop f20_1) ⟨s, h⟩ Q := by
  intro d
  induction d with
  | zero =>
    intro i s Q hi hs h0 h1 h5 hQ
    rw [X_loop, X_eq f20_1.eq_1]
    have hlt : ¬ (i : Int) < (l.length : Int) := by rw [hR.len]; omega
    simp only [go_sem, Nat.reduceLT, Nat.reduceEqDiff, reduceCtorEq, Int.reduceLT, Int.reduceEq, hs, h0, h5, hl.ln, hlt]
    exact hQ _ (by simp only [slot_len, hs])
  | succ d ih =>
    intro i s Q hi hs h0 h1 h5 hQ
    rw [X_loop, X_eq f20_1.eq_1]
    have hlt : (i : Int) < (l.length : Int) := by rw [hR.len]; omega
    obtain ⟨e, p, g1, g2, c, rfl, hc⟩ := hR.get (i := i) (by omega)
    obtain ⟨e', p', g3, g4, c', rfl, hc'⟩ := hS.get (i := i) (by omega)
    rw [g2] at g4; cases g4
    have hia : ∀ h : Heap, iaO h 3 vl (vi .i64 (i : Int)) = some (.rptr [.sc (.string ⟨p.1.toArray⟩), c, .sc (.bool p.2.2)], h) := fun h => hl.ia (by omega) (by exact g1)
    have hib : ∀ h : Heap, iaO h 3 vm (vi .i64 (i : Int)) = some (.rptr [.sc (.string ⟨p.1.toArray⟩), c', .sc (.bool p.2.2)], h) := fun h => hm.ia (by omega) (by exact g3)
    have e5 : IntKind.i64.wrap ((i : Int) + 1) = ((i + 1 : Nat) : Int) := by rw [IntWalk.i64_in _ (by omega)]; omega
    simp only [go_sem, Nat.reduceLT, Nat.reduceEqDiff, reduceCtorEq, Int.reduceLT, Int.reduceEq, hs, h0, h5, hl.ln, hlt]
    refine X_draw rfl ?_
    have hne : decide (p.1 ≠ p.1) = false := by simp
    have hne2 : decide (p.2.1 ≠ p.2.1) = false := by simp
    simp only [go_sem, Nat.reduceLT, Nat.reduceEqDiff, reduceCtorEq, Int.reduceLT, Int.reduceEq, Int.cast_ofNat_Int, Int.ofNat_zero, BEq.rfl, beq_self_eq_true, hs, h0, h1, h5, hia, hib, hc.bs, hc'.bs, e5]
    exact ih (i + 1) _ Q (by omega) (by simp only [slot_len, hs]) (by simp only [go_sem, Nat.reduceLT, Nat.reduceEqDiff, reduceCtorEq, Int.reduceLT, Int.reduceEq, h0]) (by simp only [go_sem, Nat.reduceLT, Nat.reduceEqDiff, reduceCtorEq, Int.reduceLT, Int.reduceEq, h1]) (by simp only [go_sem, Nat.reduceLT, Nat.reduceEqDiff, reduceCtorEq, Int.reduceLT, Int.reduceEq, hs]) hQ

theorem sameC_f20 (l m : List (List CV)) (k : List Ch) (vl vm : VV) (hl : SlV 3 l vl) (hm : SlV 3 m vm) (hR : ChsE l k) (hS : ChsE m k) (hk : k.length ≤ 1000000000) (h : Heap) :
    ∃ v h', call F 20 [vl, vm] h = some (.ret v, h') ∧ ValIs (vb true) v h' := by
  refine call_E (fn := f20) rfl ?_
  simp only [f20]
  generalize hs0 : ([vl, vm] ++ List.replicate _ VV.undef : List VV) = s
  have hs : s.length = 56 := by rw [← hs0]; rfl
  have h0 : s.getD 0 .undef = vl := by rw [← hs0]; rfl
  have h1 : s.getD 1 .undef = vm := by rw [← hs0]; rfl
  clear hs0
  simp only [go_sem, Nat.reduceLT, Nat.reduceEqDiff, reduceCtorEq, Int.reduceLT, Int.reduceEq, hs]
  rw [X_eq f20_0.eq_1]
  have hne : ((l.length : Int) ≠ (m.length : Int)) = False := by simp [hR.len, hS.len]
  simp only [go_sem, Nat.reduceLT, Nat.reduceEqDiff, reduceCtorEq, Int.reduceLT, Int.reduceEq, hs, h0, h1, hl.ln, hm.ln, hR.len, hS.len]
  refine f20_loop l m k vl vm hl hm hR hS hk h k.length 0 _ _ (by omega) (by simp only [slot_len, hs]) (by simp only [go_sem, Nat.reduceLT, Nat.reduceEqDiff, reduceCtorEq, Int.reduceLT, Int.reduceEq, h0]) (by simp only [go_sem, Nat.reduceLT, Nat.reduceEqDiff, reduceCtorEq, Int.reduceLT, Int.reduceEq, h1]) (by simp only [go_sem, Nat.reduceLT, Nat.reduceEqDiff, reduceCtorEq, Int.reduceLT, Int.reduceEq, hs]; rfl) ?_
  intro s' hs'
  simp only [go_sem, Nat.reduceLT, Nat.reduceEqDiff, reduceCtorEq, Int.reduceLT, Int.reduceEq, hs']
  rfl

theorem wholeB_none {get : Int → List CV × Nat × Nat} (b : List UInt8) (h : (wholeB get b).2 ≠ 0) : (wholeB get b).1 = [] := by
  unfold wholeB at h ⊢
  simp only at h ⊢
  split
  · rfl
  · rename_i h0
    rw [if_neg h0] at h
    split
    · rfl
    · rename_i h1
      rw [if_neg h1] at h
      split
      · rfl
      · rename_i h2
        rw [if_neg h2] at h
        split
        · rfl
        · rename_i h3
          rw [if_neg h3] at h
          exact absurd rfl h
theorem wholeB_chsE (b : List UInt8) : ∃ kv, ChsE (wholeB (getCh b) b).1 kv ∧ kv.length ≤ b.length := by
  by_cases h : (wholeB (getCh b) b).2 = 0
  · obtain ⟨kv, h1, h2, h3⟩ := wholeB_backC h
    refine ⟨kv, by rw [h1]; exact chCs_E kv h3, ?_⟩
    have := congrArg List.length h2
    unfold chsB at this
    rw [List.length_append] at this
    have := flatC_le kv
    omega
  · exact ⟨[], by rw [wholeB_none b h]; exact .nil, by simp⟩

end Go.V07


set_option linter.unusedSimpArgs false
set_option linter.unusedVariables false
namespace Go.V07
open Go Go.Vm


/-! ### what the bound says -/

/-! ### how much there is -/

end Go.V07


set_option linter.unusedSimpArgs false
set_option linter.unusedVariables false
namespace Go.V07
open Go Go.Vm


/-! ### changes, by the document -/

theorem chB_le (p : Ch) : (text p.1).length + (if p.2.2 then 1 else 1 + (text p.2.1).length) = (chB p).length := by
  unfold chB
  rw [List.length_append]
  cases p.2.2 <;> simp <;> omega

theorem f48_loop (l : List (List CV)) (vl : VV) (hv : SlV 3 l vl) : ∀ (rest : List (List CV)) (kv : List Ch) (_ : ChsE rest kv) (i : Nat) (out : List UInt8) (s : List VV) (Q : Pst),
    l.drop i = rest → i ≤ l.length → l.length ≤ 900000000 → out.length + ((kv.map chB).flatten).length ≤ 900000000 → s.length = 48 →
    s.getD 0 .undef = vl → s.getD 4 .undef = vi .i64 i → SlV 1 (eB out) (s.getD 3 .undef) →
    (∀ s', s'.length = 48 → SlV 1 (eB (out ++ (kv.map chB).flatten)) (s'.getD 3 .undef) → Q (.exit 0) ⟨s', []⟩) →
    X F (.loop f48_0) ⟨s, []⟩ Q := by
  intro rest kv hR
  induction hR with
  | nil =>
    intro i out s Q hd hi hl hn hs h0 h4 h3 hQ
    rw [X_loop, X_eq f48_0.eq_1]
    have hlt : ¬ (i : Int) < (l.length : Int) := by
      have := congrArg List.length hd
      rw [List.length_drop, List.length_nil] at this
      omega
    simp only [go_sem, Nat.reduceLT, Nat.reduceEqDiff, reduceCtorEq, Int.reduceLT, Int.reduceEq, hs, h0, h4, hv.ln, hlt]
    exact hQ _ (by simp only [slot_len, hs]) (by simp only [go_sem, Nat.reduceLT, Nat.reduceEqDiff, reduceCtorEq, Int.reduceLT, Int.reduceEq, List.map_nil, List.flatten_nil, List.append_nil]; exact h3)
  | @cons e p rl rk hrow hrest ih =>
    intro i out s Q hd hi hl hn hs h0 h4 h3 hQ
    have hget : l[i]? = some e := by
      have := congrArg (fun x => x[0]?) hd
      simpa using this
    have hilt : i < l.length := (List.getElem?_eq_some_iff.1 hget).1
    have hd' : l.drop (i + 1) = rl := by
      rw [← List.drop_drop, hd]; rfl
    obtain ⟨c, rfl, hc⟩ := hrow
    have hlt : (i : Int) < (l.length : Int) := by omega
    simp only [List.map_cons, List.flatten_cons, List.length_append] at hn
    have hk0 := chB_le p
    have hk1 := text_len p.1
    have hk2 := text_len p.2.1
    have hia : ∀ h : Heap, iaO h 3 vl (vi .i64 (i : Int)) = some (.rptr [.sc (.string ⟨p.1.toArray⟩), c, .sc (.bool p.2.2)], h) := fun h => hv.ia (by omega) (by exact hget)
    have e5 : IntKind.i64.wrap ((i : Int) + 1) = ((i + 1 : Nat) : Int) := by rw [IntWalk.i64_in _ (by omega)]; omega
    generalize hw : s.getD 3 .undef = w at h3
    rw [X_loop, X_eq f48_0.eq_1]
    simp only [go_sem, Nat.reduceLT, Nat.reduceEqDiff, reduceCtorEq, Int.reduceLT, Int.reduceEq, hs, h0, h4, hv.ln, hlt, hia]
    cases hg : p.2.2 with
    | true =>
      rw [hg] at hk0
      simp only [if_true] at hk0
      simp only [go_sem, Nat.reduceLT, Nat.reduceEqDiff, reduceCtorEq, Int.reduceLT, Int.reduceEq, hs, h0, h4, hw, hia]
      obtain ⟨v1, g1, hc1, hr1⟩ := rtext_pure p.1 (by omega)
      refine XO_callP (by simp only [List.map, go_sem, Nat.reduceLT, Nat.reduceEqDiff, reduceCtorEq, Int.reduceLT, Int.reduceEq, hs]; exact clos_cv clos_nil) hc1 hr1 ?_
      simp only [go_sem, Nat.reduceLT, Nat.reduceEqDiff, reduceCtorEq, Int.reduceLT, Int.reduceEq, hs, hw]
      obtain ⟨v2, g2, hc2, hr2⟩ := join_f62 out (text p.1) w _ h3 slV_SlV (by omega)
      refine XO_callP (by simp only [List.map, go_sem, Nat.reduceLT, Nat.reduceEqDiff, reduceCtorEq, Int.reduceLT, Int.reduceEq, hs, hw]; exact h3.clos (slV_SlV.clos clos_nil)) hc2 hr2 ?_
      simp only [go_sem, Nat.reduceLT, Nat.reduceEqDiff, reduceCtorEq, Int.reduceLT, Int.reduceEq, hs]
      obtain ⟨v3, g3, hc3, hr3⟩ := join_f62 (out ++ text p.1) [1] _ (.cv (.sl 1 (eB [1]) true)) slV_SlV SlV.sl (by simp only [List.length_append, List.length_singleton]; omega)
      refine XO_callP (by simp only [List.map, go_sem, Nat.reduceLT, Nat.reduceEqDiff, reduceCtorEq, Int.reduceLT, Int.reduceEq, hs]; exact slV_SlV.clos (clos_cv clos_nil)) hc3 hr3 ?_
      simp only [go_sem, Nat.reduceLT, Nat.reduceEqDiff, reduceCtorEq, Int.reduceLT, Int.reduceEq, hs, h4, e5]
      refine ih (i + 1) (out ++ chB p) _ Q hd' (by omega) hl (by simp only [List.length_append]; omega) (by simp only [slot_len, hs]) (by simp only [go_sem, Nat.reduceLT, Nat.reduceEqDiff, reduceCtorEq, Int.reduceLT, Int.reduceEq, h0]) (by simp only [go_sem, Nat.reduceLT, Nat.reduceEqDiff, reduceCtorEq, Int.reduceLT, Int.reduceEq, hs]) (by simp only [go_sem, Nat.reduceLT, Nat.reduceEqDiff, reduceCtorEq, Int.reduceLT, Int.reduceEq, hs, chB, hg, if_true, ← List.append_assoc]; exact slV_SlV) ?_
      simp only [List.map_cons, List.flatten_cons, ← List.append_assoc] at hQ ⊢
      exact hQ
    | false =>
      rw [hg] at hk0
      simp only [Bool.false_eq_true, if_false] at hk0
      simp only [go_sem, Nat.reduceLT, Nat.reduceEqDiff, reduceCtorEq, Int.reduceLT, Int.reduceEq, hs]
      refine X_draw rfl ?_
      simp only [go_sem, Nat.reduceLT, Nat.reduceEqDiff, reduceCtorEq, Int.reduceLT, Int.reduceEq, hs, h0, h4, hw, hia]
      obtain ⟨v1, g1, hc1, hr1⟩ := rtext_pure p.1 (by omega)
      refine XD_callP (by simp only [List.map, go_sem, Nat.reduceLT, Nat.reduceEqDiff, reduceCtorEq, Int.reduceLT, Int.reduceEq, hs]; exact clos_cv clos_nil) hc1 hr1 ?_
      simp only [go_sem, Nat.reduceLT, Nat.reduceEqDiff, reduceCtorEq, Int.reduceLT, Int.reduceEq, hs, hw]
      obtain ⟨v2, g2, hc2, hr2⟩ := join_f62 out (text p.1) w _ h3 slV_SlV (by omega)
      refine XD_callP (by simp only [List.map, go_sem, Nat.reduceLT, Nat.reduceEqDiff, reduceCtorEq, Int.reduceLT, Int.reduceEq, hs, hw]; exact h3.clos (slV_SlV.clos clos_nil)) hc2 hr2 ?_
      simp only [go_sem, Nat.reduceLT, Nat.reduceEqDiff, reduceCtorEq, Int.reduceLT, Int.reduceEq, hs]
      obtain ⟨v3, g3, hc3, hr3⟩ := join_f62 (out ++ text p.1) [0] _ (.cv (.sl 1 (eB [0]) true)) slV_SlV SlV.sl (by simp only [List.length_append, List.length_singleton]; omega)
      refine XD_callP (by simp only [List.map, go_sem, Nat.reduceLT, Nat.reduceEqDiff, reduceCtorEq, Int.reduceLT, Int.reduceEq, hs]; exact slV_SlV.clos (clos_cv clos_nil)) hc3 hr3 ?_
      simp only [go_sem, Nat.reduceLT, Nat.reduceEqDiff, reduceCtorEq, Int.reduceLT, Int.reduceEq, hs, h0, h4, hia, hc.bs]
      obtain ⟨v4, g4, hc4, hr4⟩ := rtext_pure p.2.1 (by omega)
      refine XD_callP (by simp only [List.map, go_sem, Nat.reduceLT, Nat.reduceEqDiff, reduceCtorEq, Int.reduceLT, Int.reduceEq, hs]; exact clos_cv clos_nil) hc4 hr4 ?_
      simp only [go_sem, Nat.reduceLT, Nat.reduceEqDiff, reduceCtorEq, Int.reduceLT, Int.reduceEq, hs]
      obtain ⟨v6, g6, hc6, hr6⟩ := join_f62 (out ++ text p.1 ++ [0]) (text p.2.1) _ _ slV_SlV slV_SlV (by simp only [List.length_append, List.length_singleton]; omega)
      refine XD_callP (by simp only [List.map, go_sem, Nat.reduceLT, Nat.reduceEqDiff, reduceCtorEq, Int.reduceLT, Int.reduceEq, hs]; exact slV_SlV.clos (slV_SlV.clos clos_nil)) hc6 hr6 ?_
      simp only [go_sem, Nat.reduceLT, Nat.reduceEqDiff, reduceCtorEq, Int.reduceLT, Int.reduceEq, hs, h4, e5]
      refine ih (i + 1) (out ++ chB p) _ Q hd' (by omega) hl (by simp only [List.length_append]; omega) (by simp only [slot_len, hs]) (by simp only [go_sem, Nat.reduceLT, Nat.reduceEqDiff, reduceCtorEq, Int.reduceLT, Int.reduceEq, h0]) (by simp only [go_sem, Nat.reduceLT, Nat.reduceEqDiff, reduceCtorEq, Int.reduceLT, Int.reduceEq, hs]) ?_ ?_
      · have e : out ++ chB p = out ++ text p.1 ++ [0] ++ text p.2.1 := by simp [chB, hg]
        rw [e]
        simp only [go_sem, Nat.reduceLT, Nat.reduceEqDiff, reduceCtorEq, Int.reduceLT, Int.reduceEq, hs]
        exact slV_SlV
      · simp only [List.map_cons, List.flatten_cons, ← List.append_assoc] at hQ ⊢
        exact hQ

theorem rchs_f48 (l : List (List CV)) (kv : List Ch) (vl : VV) (hv : SlV 3 l vl) (hR : ChsE l kv) (hn : (chsB kv).length ≤ 900000000) (hk : kv.length ≤ 900000000) :
    ∃ v h' w, call F 48 [vl] [] = some (.ret v, h') ∧ closRes h' v = some w ∧ SlV 1 (eB (chsB kv)) w := by
  have : ∃ v h', call F 48 [vl] [] = some (.ret v, h') ∧ (fun v h' => ∃ w, closRes h' v = some w ∧ SlV 1 (eB (chsB kv)) w) v h' := by
    refine call_E (fn := f48) rfl ?_
    simp only [f48]
    generalize hs0 : ([vl] ++ List.replicate _ VV.undef : List VV) = s
    have hs : s.length = 48 := by rw [← hs0]; rfl
    have h0 : s.getD 0 .undef = vl := by rw [← hs0]; rfl
    clear hs0
    simp only [go_sem, Nat.reduceLT, Nat.reduceEqDiff, reduceCtorEq, Int.reduceLT, Int.reduceEq, hs, h0, hv.ln]
    obtain ⟨v1, g1, hc1, hr1⟩ := rnum_pure l.length
    refine XO_callP (by simp only [List.map, go_sem, Nat.reduceLT, Nat.reduceEqDiff, reduceCtorEq, Int.reduceLT, Int.reduceEq, hs]; exact clos_cv clos_nil) hc1 hr1 ?_
    simp only [go_sem, Nat.reduceLT, Nat.reduceEqDiff, reduceCtorEq, Int.reduceLT, Int.reduceEq, hs, h0]
    have hlen : ((l.length : Nat) : Int) = ((kv.length : Nat) : Int) := by rw [hR.len]
    simp only [chsB, List.length_append] at hn
    refine f48_loop l vl hv l kv hR 0 (num (clamp l.length)) _ _ rfl (by omega) (by rw [hR.len]; exact hk) (by rw [hlen]; omega) (by simp only [slot_len, hs]) (by simp only [go_sem, Nat.reduceLT, Nat.reduceEqDiff, reduceCtorEq, Int.reduceLT, Int.reduceEq, h0]) (by simp only [go_sem, Nat.reduceLT, Nat.reduceEqDiff, reduceCtorEq, Int.reduceLT, Int.reduceEq, hs]; rfl) (by simp only [go_sem, Nat.reduceLT, Nat.reduceEqDiff, reduceCtorEq, Int.reduceLT, Int.reduceEq, hs]; exact SlV.sl) ?_
    intro s' hs' h3'
    generalize hw : s'.getD 3 .undef = w at h3'
    simp only [go_sem, Nat.reduceLT, Nat.reduceEqDiff, reduceCtorEq, Int.reduceLT, Int.reduceEq, hs', hw]
    rw [hlen] at h3'
    refine ⟨w, ?_, h3'⟩
    rcases h3' with ⟨rfl, _⟩ | ⟨ex, rfl⟩ <;> rfl
  obtain ⟨v, h', e1, w, e2, e3⟩ := this
  exact ⟨v, h', w, e1, e2, e3⟩

/-! ### changes of choices -/

def chOf (p : List UInt8 × List UInt8) : Ch := if p.2.length % 4 = 0 then (p.1, [], true) else (p.1, p.2, false)
def chL (n : Nat) (c : List UInt8) : List Ch := (rowL n c).map chOf

theorem f13_loop (l : List (List CV)) (k : List (List UInt8 × List UInt8)) (vl : VV) (hl : SlV 2 l vl) (hR : RowsE l k) (hk : k.length ≤ 100) (hkv : Fits k) : ∀ (rest : List (List UInt8 × List UInt8)) (i : Nat) (els : List (List CV)) (kv : List Ch) (h : Heap) (v : VV) (s : List VV) (Q : Pst),
    k.drop i = rest → i ≤ k.length → els.length + rest.length ≤ 100 → ChsE els kv → BufG h 3 els v → s.length = 42 → s.getD 5 .undef = v → s.getD 6 .undef = vl → s.getD 7 .undef = vi .i64 i →
    (∀ s' h' v' els', s'.length = 42 → s'.getD 5 .undef = v' → BufG h' 3 els' v' → ChsE els' (kv ++ rest.map chOf) → Q (.exit 0) ⟨s', h'⟩) → X F (.loop f13_1) ⟨s, h⟩ Q := by
  intro rest
  induction rest with
  | nil =>
    intro i els kv h v s Q hd hi hel hC hb hs h5 h6 h7 hQ
    rw [X_loop, X_eq f13_1.eq_1]
    have hlt : ¬ (i : Int) < (l.length : Int) := by
      have := congrArg List.length hd
      rw [List.length_drop, List.length_nil] at this
      rw [hR.len]; omega
    simp only [go_sem, Nat.reduceLT, Nat.reduceEqDiff, reduceCtorEq, Int.reduceLT, Int.reduceEq, hs, h6, h7, hl.ln, hlt]
    exact hQ _ h v els (by simp only [slot_len, hs]) (by simp only [go_sem, Nat.reduceLT, Nat.reduceEqDiff, reduceCtorEq, Int.reduceLT, Int.reduceEq, h5]) hb (by simpa using hC)
  | cons p rest ih =>
    intro i els kv h v s Q hd hi hel hC hb hs h5 h6 h7 hQ
    rw [X_loop, X_eq f13_1.eq_1]
    have hget : k[i]? = some p := by
      have := congrArg (fun x => x[0]?) hd
      simpa using this
    have hilt : i < k.length := (List.getElem?_eq_some_iff.1 hget).1
    have hd' : k.drop (i + 1) = rest := by
      rw [← List.drop_drop, hd]; rfl
    obtain ⟨e, p', g1, g2, c, rfl, hc⟩ := hR.get (i := i) hilt
    rw [hget] at g2; cases g2
    obtain ⟨f1, f2⟩ := hkv p (List.mem_of_getElem? hget)
    have hlt : (i : Int) < (l.length : Int) := by rw [hR.len]; omega
    have hia : ∀ h : Heap, iaO h 2 vl (vi .i64 (i : Int)) = some (.rptr [.sc (.string ⟨p.1.toArray⟩), c], h) := fun h => hl.ia (by omega) (by exact g1)
    have e5 : IntKind.i64.wrap ((i : Int) + 1) = ((i + 1 : Nat) : Int) := by rw [IntWalk.i64_in _ (by omega)]; omega
    have e4 : (p.2.length : Int).tmod 4 = ((p.2.length % 4 : Nat) : Int) := rfl
    simp only [List.length_cons] at hel
    simp only [go_sem, Nat.reduceLT, Nat.reduceEqDiff, reduceCtorEq, Int.reduceLT, Int.reduceEq, hs, h6, h7, hl.ln, hlt]
    refine X_drawE ?_
    refine XE_mv ?_
    refine XE_mv ?_
    refine XE_iad (v := vl) (w := vi .i64 i) (by simp only [go_sem, Nat.reduceLT, Nat.reduceEqDiff, reduceCtorEq, Int.reduceLT, Int.reduceEq, hs, h6]) (by simp only [go_sem, Nat.reduceLT, Nat.reduceEqDiff, reduceCtorEq, Int.reduceLT, Int.reduceEq, hs, h7]) hia ?_
    refine XE_fad (v := .rptr [.sc (.string ⟨p.1.toArray⟩), c]) (by simp only [go_sem, Nat.reduceLT, Nat.reduceEqDiff, reduceCtorEq, Int.reduceLT, Int.reduceEq, hs]) rfl ?_
    refine XE_ld (v := .rptr [.sc (.string ⟨p.1.toArray⟩), c]) (r := txt p.1) (by simp only [go_sem, Nat.reduceLT, Nat.reduceEqDiff, reduceCtorEq, Int.reduceLT, Int.reduceEq, hs]) (fun h => ld_rptr) ?_
    refine XE_mv ?_
    refine XE_mv ?_
    refine XE_iad (v := vl) (w := vi .i64 i) (by simp only [go_sem, Nat.reduceLT, Nat.reduceEqDiff, reduceCtorEq, Int.reduceLT, Int.reduceEq, hs, h6]) (by simp only [go_sem, Nat.reduceLT, Nat.reduceEqDiff, reduceCtorEq, Int.reduceLT, Int.reduceEq, hs, h7]) hia ?_
    refine XE_fad (v := .rptr [.sc (.string ⟨p.1.toArray⟩), c]) (by simp only [go_sem, Nat.reduceLT, Nat.reduceEqDiff, reduceCtorEq, Int.reduceLT, Int.reduceEq, hs]) rfl ?_
    refine XE_ld (v := .rptr [c]) (r := .cv c) (by simp only [go_sem, Nat.reduceLT, Nat.reduceEqDiff, reduceCtorEq, Int.reduceLT, Int.reduceEq, hs]) (fun h => ld_rptr) ?_
    refine XE_of_XD rfl ?_
    have e3 : ∀ {a b z : VV}, stO (h ++ [.box [a, b, z] false]) 3 (.ptr h.length 0) (.agg [txt p.1, .cv c, z]) = some (.undef, h ++ [.box [txt p.1, .cv c, z] false]) := st_l_3
    rw [XD_build]
    simp only [go_sem, Nat.reduceLT, Nat.reduceEqDiff, reduceCtorEq, Int.reduceLT, Int.reduceEq, hs, h7, bd_3v, XD_alloc]
    rw [X_eq f13_0.eq_1]
    have l1 : ∀ {a b z : VV}, ldO (h ++ [.box [a, b, z] false]) false 1 (.ptr h.length 1) = some (b, h ++ [.box [a, b, z] false]) := ld_l_at rfl
    have l0 : ∀ {a b z : VV}, ldO (h ++ [.box [a, b, z] false]) false 1 (.ptr h.length 0) = some (a, h ++ [.box [a, b, z] false]) := ld_l_at rfl
    by_cases hz : ((p.2.length % 4 : Nat) : Int) = 0
    · have hz' : p.2.length % 4 = 0 := by omega
      simp only [go_sem, Nat.reduceLT, Nat.reduceEqDiff, reduceCtorEq, Int.reduceLT, Int.reduceEq, hs, l1, hc.ln, eB_len, e4, eq_true hz, l0, bd_3k, h5]
      refine XO_appG (hb.push _) (new := [[.sc (.string ⟨p.1.toArray⟩), .sc (.slice none 0 0), .sc (.bool true)]]) (by simp only [go_sem, Nat.reduceLT, Nat.reduceEqDiff, reduceCtorEq, Int.reduceLT, Int.reduceEq, hs]) (by simp only [go_sem, Nat.reduceLT, Nat.reduceEqDiff, reduceCtorEq, Int.reduceLT, Int.reduceEq, hs]) (by simp only [List.length_singleton]; omega) (by simp only [List.length_singleton]; omega) (fun v' h' hb' _ _ => ?_)
      simp only [go_sem, Nat.reduceLT, Nat.reduceEqDiff, reduceCtorEq, Int.reduceLT, Int.reduceEq, hs, h7, e5]
      refine ih (i + 1) _ (kv ++ [chOf p]) h' v' _ Q hd' (by omega) (by simp only [List.length_append, List.length_singleton]; omega) (hC.snoc (p := chOf p) ?_) hb' (by simp only [slot_len, hs]) (by simp only [go_sem, Nat.reduceLT, Nat.reduceEqDiff, reduceCtorEq, Int.reduceLT, Int.reduceEq, hs]) (by simp only [go_sem, Nat.reduceLT, Nat.reduceEqDiff, reduceCtorEq, Int.reduceLT, Int.reduceEq, h6]) (by simp only [go_sem, Nat.reduceLT, Nat.reduceEqDiff, reduceCtorEq, Int.reduceLT, Int.reduceEq, hs]) ?_
      · unfold chOf; rw [if_pos hz']; exact ⟨_, rfl, .inl ⟨rfl, rfl⟩⟩
      · intro s' h' v' els' a1 a2 a3 a4
        refine hQ s' h' v' els' a1 a2 a3 ?_
        simpa only [List.map_cons, List.append_assoc, List.singleton_append] using a4
    · have hz' : ¬ p.2.length % 4 = 0 := by omega
      simp only [go_sem, Nat.reduceLT, Nat.reduceEqDiff, reduceCtorEq, Int.reduceLT, Int.reduceEq, hs, l1, hc.ln, eB_len, e4, hz, h5]
      refine XO_appG (hb.push _) (new := [[.sc (.string ⟨p.1.toArray⟩), c, .sc (.bool false)]]) (by simp only [go_sem, Nat.reduceLT, Nat.reduceEqDiff, reduceCtorEq, Int.reduceLT, Int.reduceEq, hs]) (by simp only [go_sem, Nat.reduceLT, Nat.reduceEqDiff, reduceCtorEq, Int.reduceLT, Int.reduceEq, hs]) (by simp only [List.length_singleton]; omega) (by simp only [List.length_singleton]; omega) (fun v' h' hb' _ _ => ?_)
      simp only [go_sem, Nat.reduceLT, Nat.reduceEqDiff, reduceCtorEq, Int.reduceLT, Int.reduceEq, hs, h7, e5]
      refine ih (i + 1) _ (kv ++ [chOf p]) h' v' _ Q hd' (by omega) (by simp only [List.length_append, List.length_singleton]; omega) (hC.snoc (p := chOf p) ?_) hb' (by simp only [slot_len, hs]) (by simp only [go_sem, Nat.reduceLT, Nat.reduceEqDiff, reduceCtorEq, Int.reduceLT, Int.reduceEq, hs]) (by simp only [go_sem, Nat.reduceLT, Nat.reduceEqDiff, reduceCtorEq, Int.reduceLT, Int.reduceEq, h6]) (by simp only [go_sem, Nat.reduceLT, Nat.reduceEqDiff, reduceCtorEq, Int.reduceLT, Int.reduceEq, hs]) ?_
      · unfold chOf; rw [if_neg hz']; exact ⟨_, rfl, hc⟩
      · intro s' h' v' els' a1 a2 a3 a4
        refine hQ s' h' v' els' a1 a2 a3 ?_
        simpa only [List.map_cons, List.append_assoc, List.singleton_append] using a4

end Go.V07


set_option linter.unusedSimpArgs false
set_option linter.unusedVariables false
namespace Go.V07
open Go Go.Vm


/-! ### what the bound says -/

end Go.V07

set_option linter.unusedSimpArgs false
set_option linter.unusedVariables false
namespace Go.V07
open Go Go.Vm

/-! ### a word of 32 bits -/
def wd (n : Nat) : List UInt8 := [u8 (n / 16777216 % 256), u8 (n / 65536 % 256), u8 (n / 256 % 256), u8 (n % 256)]
theorem wd_len {n : Nat} : (wd n).length = 4 := rfl
theorem wd_take {n i : Nat} (h : i < 4) : (wd n).take (i + 1) = (wd n).take i ++ [u8 (n / 2 ^ (24 - 8 * i) % 256)] := by
  match i, h with
  | 0, _ => rfl
  | 1, _ => rfl
  | 2, _ => rfl
  | 3, _ => simp [wd]
theorem shr_wd {n i : Nat} (h : i < 4) : IntKind.u8.wrap ((n : Int).fdiv (2 ^ min ((24 - 8 * (i : Int)).toNat) 64)) = ((u8 (n / 2 ^ (24 - 8 * i) % 256)).toNat : Int) := by
  rw [u8_toNat _ (by omega)]
  have e : min ((24 - 8 * (i : Int)).toNat) 64 = 24 - 8 * i := by omega
  rw [e, Int.fdiv_eq_ediv_of_nonneg _ (by apply Int.pow_nonneg; decide), IntKind.wrap_u8]
  have e2 : ((2 : Int) ^ (24 - 8 * i)) = ((2 ^ (24 - 8 * i) : Nat) : Int) := by simp
  rw [e2]
  omega

theorem f59_loop {p off len n : Nat} {ex : Bool} {b : List UInt8} (hl : off + 4 ≤ b.length) (hlen : 4 ≤ len) : ∀ (r i : Nat) (s : List VV) (h : Heap) (Q : Pst), i + r = 4 → h[p]? = some (bBox (splice b off ((wd n).take i))) → s.length = 18 → s.getD 0 .undef = .ob p off len 1 ex → s.getD 1 .undef = vi .i64 n → s.getD 5 .undef = vi .i64 i →
    (∀ s' h', s'.length = 18 → (∀ o, h'.set p o = h.set p o) → h'[p]? = some (bBox (splice b off (wd n))) → Q (.exit 0) ⟨s', h'⟩) → X F (.loop f59_1) ⟨s, h⟩ Q := by
  intro r
  induction r with
  | zero =>
    intro i s h Q hi hb hs e0 e1 e5 hQ
    have c : ¬ ((i : Nat) : Int) < 4 := by omega
    rw [X_loop, X_eq f59_1.eq_1]
    simp only [go_sem, Nat.reduceLT, Nat.reduceEqDiff, reduceCtorEq, Int.reduceLT, Int.reduceEq, hs, e5]
    rw [X_eq f59_0.eq_1]
    simp only [go_sem, Nat.reduceLT, Nat.reduceEqDiff, reduceCtorEq, Int.reduceLT, Int.reduceEq, hs, c]
    have : (wd n).take i = wd n := List.take_of_length_le (by rw [wd_len]; omega)
    rw [this] at hb
    exact hQ _ _ (by simp only [slot_len, hs]) (fun _ => rfl) hb
  | succ r ih =>
    intro i s h Q hi hb hs e0 e1 e5 hQ
    have c : ((i : Nat) : Int) < 4 := by omega
    have hi4 : i < 4 := by omega
    have w1 : IntKind.i64.wrap (8 * (i : Int)) = 8 * (i : Int) := IntWalk.i64_in _ (by omega)
    have w2 : IntKind.i64.wrap (24 - 8 * (i : Int)) = 24 - 8 * (i : Int) := IntWalk.i64_in _ (by omega)
    have w3 : ¬ (24 - 8 * (i : Int)) < 0 := by omega
    have w4 : IntKind.i64.wrap ((i : Int) + 1) = ((i + 1 : Nat) : Int) := by rw [IntWalk.i64_in _ (by omega)]; omega
    have hlk : ((wd n).take i).length = i := by rw [List.length_take, wd_len]; omega
    have hsl : (splice b off ((wd n).take i)).length = b.length := splice_len (by omega)
    have ia : iaO h 1 (.ob p off len 1 ex) (vi .i64 (i : Int)) = some (.ptr p (off + i), h) := by
      have : i < len := by omega
      simp [iaO, stepI, rhoO, intV, this]
    have st := st_bB (x := u8 (n / 2 ^ (24 - 8 * i) % 256)) hb (j := off + i) (by omega)
    rw [splice_step (by omega) hlk, ← wd_take hi4] at st
    rw [X_loop, X_eq f59_1.eq_1]
    simp only [go_sem, Nat.reduceLT, Nat.reduceEqDiff, reduceCtorEq, Int.reduceLT, Int.reduceEq, hs, e5]
    rw [X_eq f59_0.eq_1]
    simp only [go_sem, Nat.reduceLT, Nat.reduceEqDiff, reduceCtorEq, Int.reduceLT, Int.reduceEq, hs, c, e0, e1, w1, w2, bin_shr w3, shr_wd hi4, ia, st, e5, w4]
    refine ih (i + 1) _ _ Q (by omega) (List.getElem?_set_self (lt_at hb)) (by simp only [slot_len, hs]) (by simp only [go_sem, Nat.reduceLT, Nat.reduceEqDiff, reduceCtorEq, Int.reduceLT, Int.reduceEq, e0]) (by simp only [go_sem, Nat.reduceLT, Nat.reduceEqDiff, reduceCtorEq, Int.reduceLT, Int.reduceEq, e1]) (by simp only [go_sem, Nat.reduceLT, Nat.reduceEqDiff, reduceCtorEq, Int.reduceLT, Int.reduceEq, hs]) (fun s' h' a1 a2 a3 => hQ s' h' a1 (fun o => ?_) a3)
    rw [a2 o, List.set_set]

theorem word_f59 {h : Heap} {p off len n : Nat} {ex : Bool} {b : List UInt8} (hb : h[p]? = some (bBox b)) (hl : off + 4 ≤ b.length) (hlen : 4 ≤ len) : ∃ v, call F 59 [.ob p off len 1 ex, vi .i64 n] h = some (.ret v, h.set p (bBox (splice b off (wd n)))) := by
  have : Ret F 59 [.ob p off len 1 ex, vi .i64 n] h fun v g => g = h.set p (bBox (splice b off (wd n))) := by
    refine call_E (fn := f59) rfl ?_
    simp only [f59]
    generalize hs0 : ([.ob p off len 1 ex, vi .i64 n] ++ List.replicate _ VV.undef : List VV) = s
    have hs : s.length = 18 := by rw [← hs0]; rfl
    have h0 : s.getD 0 .undef = .ob p off len 1 ex := by rw [← hs0]; rfl
    have h1 : s.getD 1 .undef = vi .i64 n := by rw [← hs0]; rfl
    clear hs0
    simp only [go_sem, Nat.reduceLT, Nat.reduceEqDiff, reduceCtorEq, Int.reduceLT, Int.reduceEq, hs]
    refine f59_loop (n := n) (ex := ex) hl hlen 4 0 _ _ _ (by omega) (by rw [List.take_zero, splice_none]; exact hb) (by simp only [slot_len, hs]) (by simp only [go_sem, Nat.reduceLT, Nat.reduceEqDiff, reduceCtorEq, Int.reduceLT, Int.reduceEq, h0]) (by simp only [go_sem, Nat.reduceLT, Nat.reduceEqDiff, reduceCtorEq, Int.reduceLT, Int.reduceEq, h1]) (by simp only [go_sem, Nat.reduceLT, Nat.reduceEqDiff, reduceCtorEq, Int.reduceLT, Int.reduceEq, hs]; rfl) (fun s' h' a1 a2 a3 => ?_)
    simp only [go_sem, Nat.reduceLT, Nat.reduceEqDiff, reduceCtorEq, Int.reduceLT, Int.reduceEq, a1]
    rw [← a2]; exact (set_at_same a3).symm
  obtain ⟨v, g, e1, rfl⟩ := this
  exact ⟨v, e1⟩
end Go.V07

set_option linter.unusedSimpArgs false
set_option linter.unusedVariables false
namespace Go.V07
open Go Go.Vm

/-! ### a piece's sector -/
def partR (epoch n i of_ : Nat) (p : List UInt8) : List UInt8 := wd epoch ++ wd n ++ [u8 i, u8 of_, u8 p.length] ++ p ++ List.replicate (49 - p.length) 0
def partB (epoch n i of_ : Nat) (p : List UInt8) : List UInt8 := sealB (partR epoch n i of_ p)
theorem partR_len {epoch n i of_ : Nat} {p : List UInt8} (h : p.length ≤ 49) : (partR epoch n i of_ p).length = 60 := by
  unfold partR wd; simp; omega
theorem sealB_len (b : List UInt8) : (sealB b).length = b.length + 4 := by unfold sealB; rw [List.length_append]; rfl
theorem partB_len {epoch n i of_ : Nat} {p : List UInt8} (h : p.length ≤ 49) : (partB epoch n i of_ p).length = 64 := by
  unfold partB; rw [sealB_len, partR_len h]
theorem part_splice {epoch n i of_ : Nat} {p : List UInt8} (h : p.length ≤ 49) :
    splice ((((splice (splice (List.replicate 60 0) 0 (wd epoch)) 4 (wd n)).set 8 (u8 i)).set 9 (u8 of_)).set 10 (u8 p.length)) 11 p = partR epoch n i of_ p := by
  have e1 : splice (List.replicate 60 (0 : UInt8)) 0 (wd epoch) = wd epoch ++ List.replicate 56 0 := by simp [splice, wd]
  have e2 : splice (wd epoch ++ List.replicate 56 0) 4 (wd n) = wd epoch ++ wd n ++ List.replicate 52 0 := by simp [splice, wd]
  have e3 : (((wd epoch ++ wd n ++ List.replicate 52 0).set 8 (u8 i)).set 9 (u8 of_)).set 10 (u8 p.length) = wd epoch ++ wd n ++ [u8 i, u8 of_, u8 p.length] ++ List.replicate 49 0 := by
    simp [wd, List.replicate_succ]
  rw [e1, e2, e3]
  have hl : (wd epoch ++ wd n ++ [u8 i, u8 of_, u8 p.length]).length = 11 := by simp [wd]
  unfold splice partR
  have t : (wd epoch ++ wd n ++ [u8 i, u8 of_, u8 p.length] ++ List.replicate 49 0).take 11 = wd epoch ++ wd n ++ [u8 i, u8 of_, u8 p.length] := by
    rw [List.take_append_of_le_length (by omega), List.take_of_length_le (by omega)]
  have d : (wd epoch ++ wd n ++ [u8 i, u8 of_, u8 p.length] ++ List.replicate 49 (0 : UInt8)).drop (11 + p.length) = List.replicate (49 - p.length) 0 := by
    rw [List.drop_append, List.drop_of_length_le (by omega), hl, Nat.add_sub_cancel_left, List.nil_append, List.drop_replicate]
  rw [t, d]

theorem part_f47 {epoch n i of_ : Nat} {p : List UInt8} {u : VV} (hu : SlV 1 (eB p) u) (hp : p.length ≤ 49) :
    RetP F 47 [vi .i64 epoch, vi .i64 n, vi .i64 i, vi .i64 of_, u] (SlV 1 (eB (partB epoch n i of_ p))) := by
  have : Ret F 47 [vi .i64 epoch, vi .i64 n, vi .i64 i, vi .i64 of_, u] [] fun v g => ∃ w, closRes g v = some w ∧ SlV 1 (eB (partB epoch n i of_ p)) w := by
    refine call_E (fn := f47) rfl ?_
    simp only [f47]
    generalize hs0 : ([vi .i64 epoch, vi .i64 n, vi .i64 i, vi .i64 of_, u] ++ List.replicate _ VV.undef : List VV) = s
    have hs : s.length = 33 := by rw [← hs0]; rfl
    have h0 : s.getD 0 .undef = vi .i64 epoch := by rw [← hs0]; rfl
    have h1 : s.getD 1 .undef = vi .i64 n := by rw [← hs0]; rfl
    have h2 : s.getD 2 .undef = vi .i64 i := by rw [← hs0]; rfl
    have h3 : s.getD 3 .undef = vi .i64 of_ := by rw [← hs0]; rfl
    have h4 : s.getD 4 .undef = u := by rw [← hs0]; rfl
    clear hs0
    have wu : ∀ m : Nat, IntKind.u8.wrap (m : Int) = ((u8 m).toNat : Int) := fun m => by
      rw [wrap_u8_nat]; unfold u8; rw [UInt8.toNat_ofNat']
    have hbox : ([VO.box (List.replicate 60 (VV.cv (.sc (.int .u8 0)))) false] : Heap)[0]? = some (bBox (List.replicate 60 0)) := by
      rw [bC_replicate]; rfl
    simp only [go_sem, Nat.reduceLT, Nat.reduceEqDiff, reduceCtorEq, Int.reduceLT, Int.reduceEq, hs, List.nil_append, List.length_nil]
    generalize [VO.box (List.replicate 60 (VV.cv (.sc (.int .u8 0)))) false] = g0 at hbox
    have sa : ∀ {g : Heap} {b : List UInt8}, g[0]? = some (bBox b) → b.length = 60 → saO g 60 1 (.ptr 0 0) none none = some (.ob 0 0 60 1 true, g) := fun hb hl => sa_box hb (by simp [bC_len]; omega)
    have sf : ∀ {g : Heap} {b : List UInt8} (a : Nat), g[0]? = some (bBox b) → b.length = 60 → a ≤ 60 → saO g 60 1 (.ptr 0 0) (some (vi .i64 a)) none = some (.ob 0 a (60 - a) 1 true, g) := fun a hb hl ha => sa_from hb (by simp [bC_len]; omega) ha
    have l0 : (List.replicate 60 (0 : UInt8)).length = 60 := by simp
    unfold partB
    rw [← part_splice hp]
    generalize List.replicate 60 (0 : UInt8) = c0 at hbox l0 ⊢
    have wl : ∀ m, (wd m).length = 4 := fun _ => rfl
    obtain ⟨v1, n1⟩ := word_f59 (n := epoch) (off := 0) (len := 60) (ex := true) hbox (by omega) (by omega)
    have b1 := List.getElem?_set_self (a := bBox (splice c0 0 (wd epoch))) (lt_at hbox)
    have l1 : (splice c0 0 (wd epoch)).length = 60 := by rw [splice_len (by rw [wl]; omega), l0]
    simp only [sa hbox l0, go_sem, Nat.reduceLT, Nat.reduceEqDiff, reduceCtorEq, Int.reduceLT, Int.reduceEq, hs, h0]
    refine XO_callR (by simp only [List.map, go_sem, Nat.reduceLT, Nat.reduceEqDiff, reduceCtorEq, Int.reduceLT, Int.reduceEq, hs]; exact n1) ?_
    generalize g0.set 0 (bBox (splice c0 0 (wd epoch))) = g1 at b1
    generalize splice c0 0 (wd epoch) = c1 at b1 l1 ⊢
    have s4 : saO g1 60 1 (.ptr 0 0) (some (vi .i64 4)) none = some (.ob 0 4 56 1 true, g1) := sf 4 b1 l1 (by omega)
    obtain ⟨v2, n2⟩ := word_f59 (n := n) (off := 4) (len := 56) (ex := true) b1 (by omega) (by omega)
    have b2 := List.getElem?_set_self (a := bBox (splice c1 4 (wd n))) (lt_at b1)
    have l2 : (splice c1 4 (wd n)).length = 60 := by rw [splice_len (by rw [wl]; omega), l1]
    simp only [go_sem, Nat.reduceLT, Nat.reduceEqDiff, reduceCtorEq, Int.reduceLT, Int.reduceEq, hs, s4, h1]
    refine XO_callR (by simp only [List.map, go_sem, Nat.reduceLT, Nat.reduceEqDiff, reduceCtorEq, Int.reduceLT, Int.reduceEq, hs]; exact n2) ?_
    generalize g1.set 0 (bBox (splice c1 4 (wd n))) = g2 at b2
    generalize splice c1 4 (wd n) = c2 at b2 l2 ⊢
    have i8 : iaAO 60 1 (.ptr 0 0) (vi .i64 8) = some (.ptr 0 8) := rfl
    have i9 : iaAO 60 1 (.ptr 0 0) (vi .i64 9) = some (.ptr 0 9) := rfl
    have i10 : iaAO 60 1 (.ptr 0 0) (vi .i64 10) = some (.ptr 0 10) := rfl
    have t3 := st_bB (x := u8 i) b2 (j := 8) (by omega)
    have b3 := List.getElem?_set_self (a := bBox (c2.set 8 (u8 i))) (lt_at b2)
    have l3 : (c2.set 8 (u8 i)).length = 60 := by rw [List.length_set, l2]
    generalize g2.set 0 (bBox (c2.set 8 (u8 i))) = g3 at t3 b3
    generalize c2.set 8 (u8 i) = c3 at b3 l3 ⊢
    have t4 := st_bB (x := u8 of_) b3 (j := 9) (by omega)
    have b4 := List.getElem?_set_self (a := bBox (c3.set 9 (u8 of_))) (lt_at b3)
    have l4 : (c3.set 9 (u8 of_)).length = 60 := by rw [List.length_set, l3]
    generalize g3.set 0 (bBox (c3.set 9 (u8 of_))) = g4 at t4 b4
    generalize c3.set 9 (u8 of_) = c4 at b4 l4 ⊢
    have t5 := st_bB (x := u8 p.length) b4 (j := 10) (by omega)
    have b5 := List.getElem?_set_self (a := bBox (c4.set 10 (u8 p.length))) (lt_at b4)
    have l5 : (c4.set 10 (u8 p.length)).length = 60 := by rw [List.length_set, l4]
    generalize g4.set 0 (bBox (c4.set 10 (u8 p.length))) = g5 at t5 b5
    generalize c4.set 10 (u8 p.length) = c5 at b5 l5 ⊢
    have s11 : saO g5 60 1 (.ptr 0 0) (some (vi .i64 11)) none = some (.ob 0 11 49 1 true, g5) := sf 11 b5 l5 (by omega)
    have t6 := cp_bB (off := 11) (len := 49) (ex := true) (w := u) b5 (by omega) hu.src (by omega)
    have b6 := List.getElem?_set_self (a := bBox (splice c5 11 p)) (lt_at b5)
    have l6 : (splice c5 11 p).length = 60 := by rw [splice_len (by omega), l5]
    generalize g5.set 0 (bBox (splice c5 11 p)) = g6 at t6 b6
    generalize splice c5 11 p = c6 at b6 l6 ⊢
    have cl := clos_ob (ex := true) (off := 0) (len := 60) b6 (by omega)
    rw [List.drop_zero, List.take_of_length_le (by omega)] at cl
    obtain ⟨v7, h7, n7, w7, r7, S7⟩ := seal_pure (b := c6) (u := .cv (.sl 1 (eB c6) true)) (.inr ⟨true, rfl⟩) (by omega)
    simp only [go_sem, Nat.reduceLT, Nat.reduceEqDiff, reduceCtorEq, Int.reduceLT, Int.reduceEq, hs, h2, h3, h4, wu, hu.ln, eB_len, i8, i9, i10, t3, t4, t5, s11, t6, sa b6 l6]
    refine XO_callP (by simp only [List.map, go_sem, Nat.reduceLT, Nat.reduceEqDiff, reduceCtorEq, Int.reduceLT, Int.reduceEq, hs]; exact closAs_cons cl rfl) n7 r7 ?_
    simp only [go_sem, Nat.reduceLT, Nat.reduceEqDiff, reduceCtorEq, Int.reduceLT, Int.reduceEq, hs]
    refine ⟨w7, ?_, S7⟩
    rcases S7 with ⟨rfl, _⟩ | ⟨ex, rfl⟩ <;> rfl
  obtain ⟨v, g, n1, w, e1, e2⟩ := this
  exact ⟨v, g, n1, w, e1, e2⟩
end Go.V07

set_option linter.unusedSimpArgs false
set_option linter.unusedVariables false
namespace Go.V07
open Go Go.Vm

theorem rword_f64 {n : Nat} (hn : n < 9223372036854775808) : RetP F 64 [vi .i64 n] fun w => w = .cv (.sl 1 (eB (wd n)) true) := by
  have : Ret F 64 [vi .i64 n] [] fun v g => v = .cv (.sl 1 (eB (wd n)) true) := by
    refine call_E (fn := f64) rfl ?_
    simp only [f64]
    generalize hs0 : ([vi .i64 n] ++ List.replicate _ VV.undef : List VV) = s
    have hs : s.length = 18 := by rw [← hs0]; rfl
    have h0 : s.getD 0 .undef = vi .i64 n := by rw [← hs0]; rfl
    clear hs0
    have z1 : (16777216 : Int) ≠ 0 := by decide
    have z2 : (65536 : Int) ≠ 0 := by decide
    have z3 : (256 : Int) ≠ 0 := by decide
    have tq : ∀ k : Nat, (n : Int).tdiv (k : Int) = ((n / k : Nat) : Int) := fun k => rfl
    have tr : ∀ (m k : Nat), (m : Int).tmod (k : Int) = ((m % k : Nat) : Int) := fun m k => rfl
    have hq : ∀ k : Nat, n / k < 9223372036854775808 := fun k => Nat.lt_of_le_of_lt (Nat.div_le_self _ _) hn
    have wi : ∀ m : Nat, m < 9223372036854775808 → IntKind.i64.wrap (m : Int) = (m : Int) := fun m hm => IntWalk.i64_in _ (by omega)
    have q1 : IntKind.i64.wrap ((n : Int).tdiv 16777216) = ((n / 16777216 : Nat) : Int) := wi _ (hq _)
    have q2 : IntKind.i64.wrap ((n : Int).tdiv 65536) = ((n / 65536 : Nat) : Int) := wi _ (hq _)
    have q3 : IntKind.i64.wrap ((n : Int).tdiv 256) = ((n / 256 : Nat) : Int) := wi _ (hq _)
    have wu : ∀ m : Nat, IntKind.u8.wrap (m : Int) = ((m % 256 : Nat) : Int) := wrap_u8_nat
    have r : ∀ m : Nat, (m : Int).tmod 256 = ((m % 256 : Nat) : Int) := fun m => rfl
    have mm : ∀ m : Nat, m % 256 % 256 = m % 256 := fun m => by omega
    have ew : eB (wd n) = [[.sc (.int .u8 ((n / 16777216 % 256 : Nat) : Int))], [.sc (.int .u8 ((n / 65536 % 256 : Nat) : Int))], [.sc (.int .u8 ((n / 256 % 256 : Nat) : Int))], [.sc (.int .u8 ((n % 256 : Nat) : Int))]] := by
      simp only [eB, wd, List.map, byteCell]
      rw [u8_toNat _ (by omega), u8_toNat _ (by omega), u8_toNat _ (by omega), u8_toNat _ (by omega)]
    simp only [go_sem, Nat.reduceLT, Nat.reduceEqDiff, reduceCtorEq, Int.reduceLT, Int.reduceEq, hs, h0, bin_quo z1, bin_quo z2, bin_quo z3, bin_rem z3, q1, q2, q3, wu, r, mm, mk_4]
    rw [ew]
  obtain ⟨v, g, n1, rfl⟩ := this
  exact ⟨_, _, n1, _, rfl, rfl⟩

/-- What is appended to what has no room. -/
theorem XO_appX {h : Heap} {z by_ : Nat} {zero : List CV} {els new : List (List CV)} {x y : Opd} {s : List VV} {d : Option Nat} {r : List Op1} {Q : Pst} (hx : evalO s x = .cv (.sl z els true)) (hy : srcOf h z (evalO s y) = some new) (hn : new ≠ []) (h1 : (els.length + new.length) * by_ ≤ 35184372088832) (h2 : els.length + new.length ≤ 35184372088832)
    (hk : ∀ v' h', NB h h' z (els ++ new) v' → XO F r ⟨putD s d v', h'⟩ Q) : XO F (⟨none, d, .app z by_ zero x y⟩ :: r) ⟨s, h⟩ Q := by
  have hm : maxBytes = 35184372088832 := rfl
  have e : stepI h (evalO s) (.app z by_ zero x y) = some (.own h.length 0 0 (els.length + new.length) false, h ++ [.arr z (els ++ new) 0 false]) := by
    simp only [stepI, hy, hx, lenV, hm, h1, h2, and_self, if_true, hn, if_false]
  rw [XO_ins rfl, e, XV_some]
  exact hk _ _ ⟨HExt.push _ _, .inr ⟨h.length, 0, Nat.le_refl _, by simp, by simp⟩⟩

theorem f49_loop : ∀ (r : Nat) (l : List UInt8) (v : VV) (s : List VV) (h : Heap) (Q : Pst), l.length + r = 60 → NB [] h 1 (eB l) v → s.length = 41 → s.getD 11 .undef = v →
    (∀ s' h' v', s'.length = 41 → s'.getD 11 .undef = v' → NB [] h' 1 (eB (l ++ List.replicate r 0)) v' → Q (.exit 0) ⟨s', h'⟩) → X F (.loop f49_0) ⟨s, h⟩ Q := by
  intro r
  induction r with
  | zero =>
    intro l v s h Q hl hB hs e11 hQ
    have c : ¬ ((l.length : Nat) : Int) < 60 := by omega
    rw [X_loop, X_eq f49_0.eq_1]
    simp only [go_sem, Nat.reduceLT, Nat.reduceEqDiff, reduceCtorEq, Int.reduceLT, Int.reduceEq, hs, e11, hB.ln, eB_len, c]
    exact hQ _ _ v (by simp only [slot_len, hs]) (by simp only [go_sem, Nat.reduceLT, Nat.reduceEqDiff, reduceCtorEq, Int.reduceLT, Int.reduceEq, e11]) (by simpa using hB)
  | succ r ih =>
    intro l v s h Q hl hB hs e11 hQ
    have c : ((l.length : Nat) : Int) < 60 := by omega
    have m1 : mkO h 1 1 [.cv (.sc (.int .u8 0))] [(0, 1, .cv (.sc (.int .u8 0)))] = some (.cv (.sl 1 (eB [0]) true), h) := rfl
    rw [X_loop, X_eq f49_0.eq_1]
    simp only [go_sem, Nat.reduceLT, Nat.reduceEqDiff, reduceCtorEq, Int.reduceLT, Int.reduceEq, hs, e11, hB.ln, eB_len, c]
    rw [show (CV.sl 1 [[CV.sc (.int .u8 0)]] true) = .sl 1 (eB [0]) true from rfl]
    refine XO_appNB hB (new := eB [0]) (by simp only [go_sem, Nat.reduceLT, Nat.reduceEqDiff, reduceCtorEq, Int.reduceLT, Int.reduceEq, hs]) (by simp only [go_sem, Nat.reduceLT, Nat.reduceEqDiff, reduceCtorEq, Int.reduceLT, Int.reduceEq, hs]) (by simp only [eB_len, List.length_singleton]; omega) (by simp only [eB_len, List.length_singleton]; omega) (fun v' h' hB' _ _ _ => ?_)
    rw [← eB_append] at hB'
    simp only [go_sem, Nat.reduceLT, Nat.reduceEqDiff, reduceCtorEq, Int.reduceLT, Int.reduceEq, hs]
    refine ih (l ++ [0]) v' _ _ Q (by simp; omega) hB' (by simp only [slot_len, hs]) (by simp only [go_sem, Nat.reduceLT, Nat.reduceEqDiff, reduceCtorEq, Int.reduceLT, Int.reduceEq, hs]) (fun s' h2 v2 a1 a2 a3 => hQ s' h2 v2 a1 a2 ?_)
    rw [List.append_assoc] at a3
    exact a3

theorem rpart_f49 {epoch n i of_ : Nat} {p : List UInt8} {u : VV} (hu : SlV 1 (eB p) u) (hp : p.length ≤ 49) (he : epoch < 9223372036854775808) (hn : n < 9223372036854775808) :
    RetP F 49 [vi .i64 epoch, vi .i64 n, vi .i64 i, vi .i64 of_, u] (SlV 1 (eB (partB epoch n i of_ p))) := by
  have : Ret F 49 [vi .i64 epoch, vi .i64 n, vi .i64 i, vi .i64 of_, u] [] fun v g => ∃ w, closRes g v = some w ∧ SlV 1 (eB (partB epoch n i of_ p)) w := by
    refine call_E (fn := f49) rfl ?_
    simp only [f49]
    generalize hs0 : ([vi .i64 epoch, vi .i64 n, vi .i64 i, vi .i64 of_, u] ++ List.replicate _ VV.undef : List VV) = s
    have hs : s.length = 41 := by rw [← hs0]; rfl
    have h0 : s.getD 0 .undef = vi .i64 epoch := by rw [← hs0]; rfl
    have h1 : s.getD 1 .undef = vi .i64 n := by rw [← hs0]; rfl
    have h2 : s.getD 2 .undef = vi .i64 i := by rw [← hs0]; rfl
    have h3 : s.getD 3 .undef = vi .i64 of_ := by rw [← hs0]; rfl
    have h4 : s.getD 4 .undef = u := by rw [← hs0]; rfl
    clear hs0
    have wu : ∀ m : Nat, IntKind.u8.wrap (m : Int) = ((u8 m).toNat : Int) := fun m => by
      rw [wrap_u8_nat]; unfold u8; rw [UInt8.toNat_ofNat']
    obtain ⟨v1, g1, n1, w1, r1, rfl⟩ := rword_f64 he
    obtain ⟨v2, g2, n2, w2, r2, rfl⟩ := rword_f64 hn
    have wl : ∀ m, (eB (wd m)).length = 4 := fun m => by rw [eB_len]; rfl
    have m3 : ∀ (h : Heap) (a b c : UInt8), mkO h 1 3 [.cv (.sc (.int .u8 0)), .cv (.sc (.int .u8 0)), .cv (.sc (.int .u8 0))] [(0, 1, .cv (.sc (.int .u8 a.toNat))), (1, 1, .cv (.sc (.int .u8 b.toNat))), (2, 1, .cv (.sc (.int .u8 c.toNat)))] = some (.cv (.sl 1 (eB [a, b, c]) true), h) := fun _ _ _ _ => rfl
    simp only [go_sem, Nat.reduceLT, Nat.reduceEqDiff, reduceCtorEq, Int.reduceLT, Int.reduceEq, hs, h0]
    refine XO_callP (h1 := []) (by simp only [List.map, go_sem, Nat.reduceLT, Nat.reduceEqDiff, reduceCtorEq, Int.reduceLT, Int.reduceEq, hs]; rfl) n1 r1 ?_
    simp only [go_sem, Nat.reduceLT, Nat.reduceEqDiff, reduceCtorEq, Int.reduceLT, Int.reduceEq, hs, h1]
    refine XO_callP (h1 := []) (by simp only [List.map, go_sem, Nat.reduceLT, Nat.reduceEqDiff, reduceCtorEq, Int.reduceLT, Int.reduceEq, hs]; rfl) n2 r2 ?_
    simp only [go_sem, Nat.reduceLT, Nat.reduceEqDiff, reduceCtorEq, Int.reduceLT, Int.reduceEq, hs]
    refine XO_appX (els := eB (wd epoch)) (new := eB (wd n)) (by simp only [go_sem, Nat.reduceLT, Nat.reduceEqDiff, reduceCtorEq, Int.reduceLT, Int.reduceEq, hs]) (by simp only [go_sem, Nat.reduceLT, Nat.reduceEqDiff, reduceCtorEq, Int.reduceLT, Int.reduceEq, hs]) (by simp [eB, wd]) (by rw [wl, wl]; omega) (by rw [wl, wl]; omega) (fun v3 g3 B3 => ?_)
    simp only [go_sem, Nat.reduceLT, Nat.reduceEqDiff, reduceCtorEq, Int.reduceLT, Int.reduceEq, hs, h2, h3, h4, hu.ln, eB_len, wu, m3]
    refine XO_appNB B3 (new := eB [u8 i, u8 of_, u8 p.length]) (by simp only [go_sem, Nat.reduceLT, Nat.reduceEqDiff, reduceCtorEq, Int.reduceLT, Int.reduceEq, hs]) (by simp only [go_sem, Nat.reduceLT, Nat.reduceEqDiff, reduceCtorEq, Int.reduceLT, Int.reduceEq, hs]) (by simp only [List.length_append, wl, eB_len, List.length_cons, List.length_nil]; omega) (by simp only [List.length_append, wl, eB_len, List.length_cons, List.length_nil]; omega) (fun v4 g4 B4 _ _ _ => ?_)
    simp only [go_sem, Nat.reduceLT, Nat.reduceEqDiff, reduceCtorEq, Int.reduceLT, Int.reduceEq, hs, h4]
    refine XO_appNB B4 (new := eB p) (by simp only [go_sem, Nat.reduceLT, Nat.reduceEqDiff, reduceCtorEq, Int.reduceLT, Int.reduceEq, hs]) (by simp only [go_sem, Nat.reduceLT, Nat.reduceEqDiff, reduceCtorEq, Int.reduceLT, Int.reduceEq, hs, h4]; exact hu.src) (by simp only [List.length_append, wl, eB_len, List.length_cons, List.length_nil]; omega) (by simp only [List.length_append, wl, eB_len, List.length_cons, List.length_nil]; omega) (fun v5 g5 B5 _ _ _ => ?_)
    rw [← eB_append, ← eB_append, ← eB_append] at B5
    simp only [go_sem, Nat.reduceLT, Nat.reduceEqDiff, reduceCtorEq, Int.reduceLT, Int.reduceEq, hs]
    refine f49_loop (49 - p.length) _ v5 _ _ _ ?_ B5 (by simp only [slot_len, hs]) (by simp only [go_sem, Nat.reduceLT, Nat.reduceEqDiff, reduceCtorEq, Int.reduceLT, Int.reduceEq, hs]) (fun s' h' v' a1 a2 a3 => ?_)
    · simp only [List.length_append, wd_len, List.length_cons, List.length_nil]; omega
    · have e : wd epoch ++ wd n ++ [u8 i, u8 of_, u8 p.length] ++ p ++ List.replicate (49 - p.length) 0 = partR epoch n i of_ p := rfl
      rw [e] at a3
      obtain ⟨w, h6, c6, S6⟩ := a3.clos
      obtain ⟨v7, h7, n7, w7, r7, S7⟩ := rseal_pure S6 (by rw [partR_len hp]; omega)
      simp only [go_sem, Nat.reduceLT, Nat.reduceEqDiff, reduceCtorEq, Int.reduceLT, Int.reduceEq, a1, a2]
      refine XO_callP (h1 := h6) (by simp only [List.map, go_sem, Nat.reduceLT, Nat.reduceEqDiff, reduceCtorEq, Int.reduceLT, Int.reduceEq, a1, a2]; exact closAs_cons c6 rfl) n7 r7 ?_
      simp only [go_sem, Nat.reduceLT, Nat.reduceEqDiff, reduceCtorEq, Int.reduceLT, Int.reduceEq, a1]
      refine ⟨w7, ?_, S7⟩
      rcases S7 with ⟨rfl, _⟩ | ⟨ex, rfl⟩ <;> rfl
  obtain ⟨v, g, n1, w, e1, e2⟩ := this
  exact ⟨v, g, n1, w, e1, e2⟩

def numOK (n : Int) : Bool := decide (0 ≤ n) && decide (n ≤ 1073741824)
theorem number_f42 (n : Int) : ∃ h', call F 42 [vi .i64 n] [] = some (.ret (vb (numOK n)), h') := by
  have : Ret F 42 [vi .i64 n] [] fun v h' => v = vb (numOK n) := by
    refine call_E (fn := f42) rfl ?_
    simp only [f42]
    generalize hs0 : ([vi .i64 n] ++ List.replicate _ VV.undef : List VV) = s
    have hs : s.length = 9 := by rw [← hs0]; rfl
    have h0 : s.getD 0 .undef = vi .i64 n := by rw [← hs0]; rfl
    clear hs0
    unfold numOK
    by_cases c : 0 ≤ n
    · simp only [go_sem, Nat.reduceLT, Nat.reduceEqDiff, reduceCtorEq, Int.reduceLT, Int.reduceEq, hs, h0, ge_iff_le, c, Bool.true_and]
    · simp only [go_sem, Nat.reduceLT, Nat.reduceEqDiff, reduceCtorEq, Int.reduceLT, Int.reduceEq, hs, h0, ge_iff_le, c, Bool.false_and]
  obtain ⟨v, h', n1, rfl⟩ := this
  exact ⟨h', n1⟩
end Go.V07

set_option linter.unusedSimpArgs false
set_option linter.unusedVariables false
namespace Go.V07
open Go Go.Vm

/-! ### pieces of so many -/
def pcsF (k : Nat) : Nat → List UInt8 → List (List UInt8)
  | 0, _ => []
  | m + 1, l => if l = [] then [] else l.take k :: pcsF k m (l.drop k)
def pcs (k : Nat) (l : List UInt8) : List (List UInt8) := pcsF k l.length l
theorem sl_mx {h : Heap} {z : Nat} {es : List (List CV)} {v : VV} (hv : SlV z es v) {k1 k2 k3 : IntKind} {a b : Nat} (hab : a ≤ b) (hb : b ≤ es.length) :
    ∃ v', SlV z ((es.drop a).take (b - a)) v' ∧ slO h z v (some (vi k1 a)) (some (vi k2 b)) (some (vi k3 b)) = some (v', h) := by
  rcases hv with ⟨rfl, rfl⟩ | ⟨ex, rfl⟩
  · simp at hb
    have ha : a = 0 := by omega
    subst hb ha
    exact ⟨nilS, .inl ⟨rfl, by simp⟩, by simp [slO, stepI, rhoO, lenV, bnd, intV]⟩
  · refine ⟨.cv (.sl z ((es.drop a).take (b - a)) true), .inr ⟨_, rfl⟩, ?_⟩
    have h1 : (a : Int) ≤ (b : Int) := by omega
    have h2 : (b : Int) ≤ (es.length : Int) := by omega
    simp [slO, stepI, rhoO, lenV, bnd, intV, h1, h2]

theorem round_col {N : Nat} {s0 : List VV} (hs0 : s0.length = 13) (k2 : s0.getD 2 .undef = .ptr (N + 2) 0) {g : Heap} {va : VV} {els : List (List CV)} (hA : g[N + 2]? = some (.box [va] false)) (hB : BufG g 1 els va) {p0 : Option Jmp} (hp : g[N + 3]? = some (.loop [7] f55_0 f55_1 s0 .ready p0))
    {c : CV} (hl : els.length ≤ 1000000000) :
    ∃ h' va', call F (YB + (N + 3)) [.cv c] g = some (.ret (vb true), h') ∧ h'[N + 3]? = some (.loop [7] f55_0 f55_1 s0 .ready none) ∧ h'[N + 2]? = some (.box [va'] false) ∧ BufG h' 1 (els ++ [[c]]) va' ∧ (∀ (j : Nat), j ≠ N + 2 → ∀ (cells : List VV) (fr : Bool), g[j]? = some (.box cells fr) → h'[j]? = some (.box cells fr)) := by
  have key := round_X (F := F) (id := N + 3) (by cases h : F (YB + (N + 3)) with
    | none => rfl
    | some fn => have := (tbl.2 _ fn h).1; omega) (ps := [7]) (asg := f55_0) (body := f55_1) (s0 := s0) (a := [.cv c]) (h := g) (P := fun v h' => v = vb true ∧ ∃ va', h'[N + 3]? = some (.loop [7] f55_0 f55_1 s0 .ready none) ∧ h'[N + 2]? = some (.box [va'] false) ∧ BufG h' 1 (els ++ [[c]]) va' ∧ (∀ (j : Nat), j ≠ N + 2 → ∀ (cells : List VV) (fr : Bool), g[j]? = some (.box cells fr) → h'[j]? = some (.box cells fr))) hp rfl ?_
  · obtain ⟨v, h', e1, rfl, va', e2⟩ := key
    exact ⟨h', va', e1, e2⟩
  have hset : setAll s0 [7] [.cv c] = s0.set 7 (.cv c) := rfl
  rw [hset, X_eq f55_0.eq_1]
  simp only [go_sem, Nat.reduceLT, Nat.reduceEqDiff, reduceCtorEq, Int.reduceLT, Int.reduceEq, hs0]
  refine ⟨rfl, p0, hp, ?_⟩
  dsimp only
  have hp1 : (g.set (N + 3) (.loop [7] f55_0 f55_1 s0 .busy p0))[N + 3]? = some (.loop [7] f55_0 f55_1 s0 .busy p0) := List.getElem?_set_self (lt_at hp)
  have hA1 : (g.set (N + 3) (.loop [7] f55_0 f55_1 s0 .busy p0))[N + 2]? = some (.box [va] false) := by rw [List.getElem?_set_ne (by omega)]; exact hA
  have hB1 := hB.setLoop hp (.loop [7] f55_0 f55_1 s0 .busy p0)
  have kp : ∀ (j : Nat) (cells : List VV) (fr : Bool), g[j]? = some (.box cells fr) → (g.set (N + 3) (.loop [7] f55_0 f55_1 s0 .busy p0))[j]? = some (.box cells fr) := fun j cells fr hj => by
    rw [List.getElem?_set_ne (by rintro rfl; rw [hp] at hj; cases hj)]; exact hj
  generalize g.set (N + 3) (.loop [7] f55_0 f55_1 s0 .busy p0) = g1 at hp1 hA1 hB1 kp
  have m1 : ∀ h : Heap, mkO h 1 1 [.cv (.sc (.slice none 0 0))] [(0, 1, .cv c)] = some (.cv (.sl 1 [[c]] true), h) := fun _ => rfl
  rw [X_eq f55_1.eq_1]
  simp only [go_sem, Nat.reduceLT, Nat.reduceEqDiff, reduceCtorEq, Int.reduceLT, Int.reduceEq, hs0, k2, ld_p0 hA1, m1]
  refine XO_appBG hB1 (new := [[c]]) (by simp only [go_sem, Nat.reduceLT, Nat.reduceEqDiff, reduceCtorEq, Int.reduceLT, Int.reduceEq, hs0]) (by simp only [go_sem, Nat.reduceLT, Nat.reduceEqDiff, reduceCtorEq, Int.reduceLT, Int.reduceEq, hs0]) (by simp only [List.length_singleton]; omega) (by simp only [List.length_singleton]; omega) (fun va' g2 B2 kg => ?_)
  have hA2 := kg.box hA1
  have hp2 := kg.loop hp1
  have st2 := st_1 (v := va') B2.vf_cell hA2 (show 0 < 1 by decide)
  simp only [List.set_cons_zero] at st2
  simp only [go_sem, Nat.reduceLT, Nat.reduceEqDiff, reduceCtorEq, Int.reduceLT, Int.reduceEq, hs0, k2, st2]
  refine ⟨none, .busy, p0, rfl, by rw [List.getElem?_set_ne (by omega)]; exact hp2, rfl, va', List.getElem?_set_self (by rw [List.length_set]; exact lt_at hp2), ?_, ?_, ?_⟩
  · rw [List.getElem?_set_ne (by omega)]; exact List.getElem?_set_self (lt_at hA2)
  · refine BufG.setLoop (ps := [7]) (a := f55_0) (b := f55_1) (s := s0) (t := .busy) (p := p0) (B2.setBox hA2 _) (by rw [List.getElem?_set_ne (by omega)]; exact hp2) _
  · intro j hj cells fr ho
    have h1 := kg.box (kp j cells fr ho)
    have : j ≠ N + 3 := by rintro rfl; rw [hp] at ho; cases ho
    rw [List.getElem?_set_ne (fun e => this e.symm), List.getElem?_set_ne (fun e => hj e.symm)]; exact h1

theorem f56_loop {N k : Nat} (hk : 0 < k) (hk2 : k ≤ 1000000) {s0 : List VV} (hs0 : s0.length = 13) (k2 : s0.getD 2 .undef = .ptr (N + 2) 0) {b : List UInt8} {u : VV} (hu : SlV 1 (eB b) u) (hbl : b.length ≤ 1000000000) :
    ∀ (m i : Nat) (els : List (List CV)) (va : VV) (ps : List (List UInt8)) (s : List VV) (g : Heap) (Q : Pst), i + m = b.length → els.length ≤ i → g[N]? = some (.box [u] false) → g[N + 1]? = some (.box [vi .i64 k] false) → g[N + 2]? = some (.box [va] false) → BufG g 1 els va → PgE els ps →
      g[N + 3]? = some (.loop [7] f55_0 f55_1 s0 .ready none) → s.length = 31 → s.getD 0 .undef = .yield (N + 3) → s.getD 1 .undef = .ptr N 0 → s.getD 2 .undef = .ptr (N + 1) 0 → s.getD 4 .undef = vi .i64 i →
      (∀ s' g' els' va', s'.length = 31 → g'[N + 2]? = some (.box [va'] false) → BufG g' 1 els' va' → PgE els' (ps ++ pcsF k m (b.drop i)) → g'[N + 3]? = some (.loop [7] f55_0 f55_1 s0 .ready none) → Q (.exit 0) ⟨s', g'⟩) → X F (.loop f56_0) ⟨s, g⟩ Q := by
  intro m
  induction m using Nat.strongRecOn with
  | _ m ih =>
    intro i els va ps s g Q hi hel hN hN1 hA hB hP hp hs e0 e1 e2 e4 hQ
    by_cases hm : m = 0
    · subst hm
      have c : ¬ ((i : Nat) : Int) < (b.length : Int) := by omega
      rw [X_loop, X_eq f56_0.eq_1]
      simp only [go_sem, Nat.reduceLT, Nat.reduceEqDiff, reduceCtorEq, Int.reduceLT, Int.reduceEq, hs, e4, e1, ld_p0 hN, hu.ln, eB_len, c]
      exact hQ _ g els va (by simp only [slot_len, hs]) hA hB (by simpa [pcsF] using hP) hp
    · have c : ((i : Nat) : Int) < (b.length : Int) := by omega
      obtain ⟨m', rfl⟩ : ∃ m', m = m' + 1 := ⟨m - 1, by omega⟩
      obtain ⟨w1, w1a, w1b⟩ := hu.from_ (h := g) (k := .i64) (a := (i : Int)) (by omega) (by rw [eB_len]; omega)
      rw [Int.toNat_natCast, eB_drop] at w1a
      have hln := w1a.ln
      rw [eB_len, List.length_drop] at hln
      have hmn : min (k : Int) ((b.length - i : Nat) : Int) = ((min k (b.length - i) : Nat) : Int) := by omega
      have hend : IntKind.i64.wrap ((i : Int) + ((min k (b.length - i) : Nat) : Int)) = ((i + min k (b.length - i) : Nat) : Int) := by rw [IntWalk.i64_in _ (by omega)]; omega
      have hnx : IntKind.i64.wrap ((i : Int) + (k : Int)) = ((i + k : Nat) : Int) := by rw [IntWalk.i64_in _ (by omega)]; omega
      obtain ⟨w2, w2a, w2b⟩ := sl_mx (h := g) hu (k1 := .i64) (k2 := .i64) (k3 := .i64) (a := i) (b := i + min k (b.length - i)) (by omega) (by rw [eB_len]; omega)
      rw [eB_part, Nat.add_sub_cancel_left] at w2a
      have htk : (b.drop i).take (min k (b.length - i)) = (b.drop i).take k := by
        rw [List.take_eq_take_iff, List.length_drop]; omega
      rw [htk] at w2a
      obtain ⟨c2, rfl⟩ : ∃ c2, w2 = .cv c2 := by rcases w2a with ⟨rfl, _⟩ | ⟨ex, rfl⟩ <;> exact ⟨_, rfl⟩
      obtain ⟨g2, va2, n2, hp2, hA2, hB2, kp2⟩ := round_col hs0 k2 hA hB hp (c := c2) (by omega)
      have hne : b.drop i ≠ [] := by
        intro e
        have := congrArg List.length e
        rw [List.length_drop, List.length_nil] at this; omega
      have hpc : pcsF k (m' + 1) (b.drop i) = (b.drop i).take k :: pcsF k m' ((b.drop i).drop k) := by
        rw [pcsF, if_neg hne]
      rw [hpc] at hQ
      rw [X_loop, X_eq f56_0.eq_1]
      simp only [go_sem, Nat.reduceLT, Nat.reduceEqDiff, reduceCtorEq, Int.reduceLT, Int.reduceEq, hs, e4, e1, ld_p0 hN, hu.ln, eB_len, c]
      refine X_draw rfl ?_
      simp only [go_sem, Nat.reduceLT, Nat.reduceEqDiff, reduceCtorEq, Int.reduceLT, Int.reduceEq, hs, e4, e1, e2, ld_p0 hN, ld_p0 hN1, w1b, hln, hmn]
      simp only [go_sem, Nat.reduceLT, Nat.reduceEqDiff, reduceCtorEq, Int.reduceLT, Int.reduceEq, hs, e4, e1, e0, ld_p0 hN, hend, w2b]
      refine XO_yield (id := N + 3) (by simp only [go_sem, Nat.reduceLT, Nat.reduceEqDiff, reduceCtorEq, Int.reduceLT, Int.reduceEq, hs]) (by simp only [List.map, go_sem, Nat.reduceLT, Nat.reduceEqDiff, reduceCtorEq, Int.reduceLT, Int.reduceEq, hs]; exact n2) ?_
      have hN2 := kp2 N (by omega) _ _ hN
      have hN12 := kp2 (N + 1) (by omega) _ _ hN1
      simp only [go_sem, Nat.reduceLT, Nat.reduceEqDiff, reduceCtorEq, Int.reduceLT, Int.reduceEq, hs, e4, e2, ld_p0 hN12, hnx]
      by_cases hlast : b.length ≤ i + k
      · -- the last one
        have hdk : (b.drop i).drop k = [] := by rw [List.drop_drop]; exact List.drop_eq_nil_of_le (by omega)
        have hnil : ∀ n, pcsF k n ([] : List UInt8) = [] := fun n => by cases n <;> simp [pcsF]
        have c9 : ¬ ((i + k : Nat) : Int) < (b.length : Int) := by omega
        rw [hdk, hnil] at hQ
        rw [X_loop, X_eq f56_0.eq_1]
        simp only [go_sem, Nat.reduceLT, Nat.reduceEqDiff, reduceCtorEq, Int.reduceLT, Int.reduceEq, hs, e1, ld_p0 hN2, hu.ln, eB_len, c9]
        exact hQ _ g2 _ va2 (by simp only [slot_len, hs]) hA2 hB2 (hP.snoc w2a) hp2
      · refine ih (m' + 1 - k) (by omega) (i + k) _ va2 (ps ++ [(b.drop i).take k]) _ _ Q (by omega) (by simp; omega) hN2 hN12 hA2 hB2 (hP.snoc w2a) hp2 (by simp only [slot_len, hs]) (by simp only [go_sem, Nat.reduceLT, Nat.reduceEqDiff, reduceCtorEq, Int.reduceLT, Int.reduceEq, e0]) (by simp only [go_sem, Nat.reduceLT, Nat.reduceEqDiff, reduceCtorEq, Int.reduceLT, Int.reduceEq, e1]) (by simp only [go_sem, Nat.reduceLT, Nat.reduceEqDiff, reduceCtorEq, Int.reduceLT, Int.reduceEq, e2]) (by simp only [go_sem, Nat.reduceLT, Nat.reduceEqDiff, reduceCtorEq, Int.reduceLT, Int.reduceEq, hs]) (fun s' g' els' va' a1 a2 a3 a4 a5 => hQ s' g' els' va' a1 a2 a3 ?_ a5)
        rw [List.append_assoc] at a4
        have : pcsF k m' ((b.drop i).drop k) = pcsF k (m' + 1 - k) (b.drop (i + k)) := by
          rw [List.drop_drop]
          have key : ∀ (n1 n2 : Nat) (l : List UInt8), l.length ≤ n1 → l.length ≤ n2 → pcsF k n1 l = pcsF k n2 l := by
            intro n1
            induction n1 with
            | zero =>
              intro n2 l h1 h2
              have : l = [] := List.eq_nil_of_length_eq_zero (by omega)
              subst this
              cases n2 <;> simp [pcsF]
            | succ n1 ih1 =>
              intro n2 l h1 h2
              by_cases hl : l = []
              · subst hl; cases n2 <;> simp [pcsF]
              · cases n2 with
                | zero => exact absurd (List.eq_nil_of_length_eq_zero (by omega)) hl
                | succ n2 =>
                  have : 0 < l.length := List.length_pos_iff.2 hl
                  rw [pcsF, if_neg hl, pcsF, if_neg hl, ih1 n2 _ (by rw [List.length_drop]; omega) (by rw [List.length_drop]; omega)]
          refine key _ _ _ (by rw [List.length_drop]; omega) (by rw [List.length_drop]; omega)
        rw [this]
        exact a4
/-- Pieces, collected. -/
theorem collect_f44 {b : List UInt8} {u : VV} (hu : SlV 1 (eB b) u) (hbl : b.length ≤ 1000000000) {h : Heap} {k N : Nat} (hk : 0 < k) (hk2 : k ≤ 1000000) (hN : h.length = N + 2) (hN1 : h[N]? = some (.box [u] false)) (hN2 : h[N + 1]? = some (.box [vi .i64 k] false)) :
    Ret F 44 [.func 56 [.ptr N 0, .ptr (N + 1) 0]] h fun v g => ∃ els, BufG g 1 els v ∧ PgE els (pcs k b) := by
  have n55 : Ret F 55 [nilS, .func 56 [.ptr N 0, .ptr (N + 1) 0]] h fun v g => ∃ els, BufG g 1 els v ∧ PgE els (pcs k b) := by
    refine call_E (fn := f55) rfl ?_
    simp only [f55]
    generalize hs0 : ([nilS, .func 56 [.ptr N 0, .ptr (N + 1) 0]] ++ List.replicate _ VV.undef : List VV) = s
    have hs : s.length = 13 := by rw [← hs0]; rfl
    have h0 : s.getD 0 .undef = nilS := by rw [← hs0]; rfl
    have h1 : s.getD 1 .undef = .func 56 [.ptr N 0, .ptr (N + 1) 0] := by rw [← hs0]; rfl
    clear hs0
    simp only [go_sem, Nat.reduceLT, Nat.reduceEqDiff, reduceCtorEq, Int.reduceLT, Int.reduceEq, hs, h0]
    rw [bx_1 rfl]
    simp only [go_sem, Nat.reduceLT, Nat.reduceEqDiff, reduceCtorEq, Int.reduceLT, Int.reduceEq, hs, h1, hN]
    generalize hs1 : ((s.set 2 (VV.ptr (N + 2) 0)).set 4 nilS).set 6 (.func 56 [.ptr N 0, .ptr (N + 1) 0]) = s1
    have a0 : s1.length = 13 := by rw [← hs1]; simp only [slot_len, hs]
    have a2 : s1.getD 2 .undef = .ptr (N + 2) 0 := by rw [← hs1]; simp only [go_sem, Nat.reduceLT, Nat.reduceEqDiff, reduceCtorEq, Int.reduceLT, Int.reduceEq, hs]
    have a6 : s1.getD 6 .undef = .func 56 [.ptr N 0, .ptr (N + 1) 0] := by rw [← hs1]; simp only [go_sem, Nat.reduceLT, Nat.reduceEqDiff, reduceCtorEq, Int.reduceLT, Int.reduceEq, hs]
    have gl : (h ++ [VO.box [nilS] false]).length = N + 3 := by rw [List.length_append, hN]; rfl
    have g0 : (h ++ [VO.box [nilS] false])[N]? = some (.box [u] false) := by rw [List.getElem?_append_left (by omega)]; exact hN1
    have g1 : (h ++ [VO.box [nilS] false])[N + 1]? = some (.box [vi .i64 k] false) := by rw [List.getElem?_append_left (by omega)]; exact hN2
    have g2 : (h ++ [VO.box [nilS] false])[N + 2]? = some (.box [nilS] false) := by rw [← hN]; exact at_last
    generalize h ++ [VO.box [nilS] false] = g at gl g0 g1 g2
    have p2 : ∀ (j : Nat) (o : VO), g[j]? = some o → (g ++ [.loop [7] f55_0 f55_1 s1 .ready none])[j]? = some o := fun j o ho => by rw [List.getElem?_append_left (lt_at ho)]; exact ho
    have hloop : (g ++ [.loop [7] f55_0 f55_1 s1 .ready none])[N + 3]? = some (.loop [7] f55_0 f55_1 s1 .ready none) := by rw [← gl]; exact at_last
    have iter : Ret F 56 [.yield (N + 3), .ptr N 0, .ptr (N + 1) 0] (g ++ [.loop [7] f55_0 f55_1 s1 .ready none]) fun v g' => ∃ els' va', g'[N + 2]? = some (.box [va'] false) ∧ BufG g' 1 els' va' ∧ PgE els' (pcs k b) ∧ g'[N + 3]? = some (.loop [7] f55_0 f55_1 s1 .ready none) := by
      refine call_E (fn := f56) rfl ?_
      simp only [f56]
      generalize hs0 : ([.yield (N + 3), .ptr N 0, .ptr (N + 1) 0] ++ List.replicate _ VV.undef : List VV) = s
      have hs : s.length = 31 := by rw [← hs0]; rfl
      have h0 : s.getD 0 .undef = .yield (N + 3) := by rw [← hs0]; rfl
      have h1 : s.getD 1 .undef = .ptr N 0 := by rw [← hs0]; rfl
      have h2 : s.getD 2 .undef = .ptr (N + 1) 0 := by rw [← hs0]; rfl
      clear hs0
      simp only [go_sem, Nat.reduceLT, Nat.reduceEqDiff, reduceCtorEq, Int.reduceLT, Int.reduceEq, hs]
      refine f56_loop hk hk2 a0 a2 hu hbl b.length 0 [] nilS [] _ _ _ (by omega) (by simp) (p2 _ _ g0) (p2 _ _ g1) (p2 _ _ g2) (BufG.nil _ _) .nil hloop (by simp only [slot_len, hs]) (by simp only [go_sem, Nat.reduceLT, Nat.reduceEqDiff, reduceCtorEq, Int.reduceLT, Int.reduceEq, h0]) (by simp only [go_sem, Nat.reduceLT, Nat.reduceEqDiff, reduceCtorEq, Int.reduceLT, Int.reduceEq, h1]) (by simp only [go_sem, Nat.reduceLT, Nat.reduceEqDiff, reduceCtorEq, Int.reduceLT, Int.reduceEq, h2]) (by simp only [go_sem, Nat.reduceLT, Nat.reduceEqDiff, reduceCtorEq, Int.reduceLT, Int.reduceEq, hs]; rfl) (fun s' g' els' va' b0 b1 b2 b3 b4 => ?_)
      simp only [go_sem, Nat.reduceLT, Nat.reduceEqDiff, reduceCtorEq, Int.reduceLT, Int.reduceEq, b0]
      exact ⟨els', va', b1, b2, by simpa [pcs] using b3, b4⟩
    obtain ⟨v56, g3, n56, els', va', c1, c2, c3, c4⟩ := iter
    refine X_rangeF (f := 56) (caps := [.ptr N 0, .ptr (N + 1) 0]) (t := .ready) (p := none) a6 (by rw [gl]; exact n56) (by rw [gl]; exact c4) (by intro e; cases e) ?_
    rw [gl]
    have d1 : (g3.set (N + 3) (.loop [7] f55_0 f55_1 s1 .exhausted none))[N + 2]? = some (.box [va'] false) := by rw [List.getElem?_set_ne (by omega)]; exact c1
    have d2 := c2.setLoop c4 (.loop [7] f55_0 f55_1 s1 .exhausted none)
    generalize g3.set (N + 3) (.loop [7] f55_0 f55_1 s1 .exhausted none) = g4 at d1 d2
    simp only [go_sem, Nat.reduceLT, Nat.reduceEqDiff, reduceCtorEq, Int.reduceLT, Int.reduceEq, outOf, a0, a2, ld_p0 d1]
    exact ⟨els', d2, c3⟩
  obtain ⟨v, g, n1, P⟩ := n55
  have : Ret F 44 [.func 56 [.ptr N 0, .ptr (N + 1) 0]] h fun v g => ∃ els, BufG g 1 els v ∧ PgE els (pcs k b) := by
    refine call_E (fn := f44) rfl ?_
    simp only [f44]
    generalize hs0 : ([.func 56 [.ptr N 0, .ptr (N + 1) 0]] ++ List.replicate _ VV.undef : List VV) = s
    have hs : s.length = 5 := by rw [← hs0]; rfl
    have h0 : s.getD 0 .undef = .func 56 [.ptr N 0, .ptr (N + 1) 0] := by rw [← hs0]; rfl
    clear hs0
    simp only [go_sem, Nat.reduceLT, Nat.reduceEqDiff, reduceCtorEq, Int.reduceLT, Int.reduceEq, hs, h0]
    refine XO_callR (by simp only [List.map, go_sem, Nat.reduceLT, Nat.reduceEqDiff, reduceCtorEq, Int.reduceLT, Int.reduceEq, hs]; exact n1) ?_
    simp only [go_sem, Nat.reduceLT, Nat.reduceEqDiff, reduceCtorEq, Int.reduceLT, Int.reduceEq, hs]
    exact P
  exact this
end Go.V07

set_option linter.unusedSimpArgs false
set_option linter.unusedVariables false
namespace Go.V07
open Go Go.Vm

theorem pcsF_enough (k : Nat) (hk : 0 < k) : ∀ (n1 n2 : Nat) (l : List UInt8), l.length ≤ n1 → l.length ≤ n2 → pcsF k n1 l = pcsF k n2 l := by
  intro n1
  induction n1 with
  | zero =>
    intro n2 l h1 h2
    have : l = [] := List.eq_nil_of_length_eq_zero (by omega)
    subst this
    cases n2 <;> simp [pcsF]
  | succ n1 ih1 =>
    intro n2 l h1 h2
    by_cases hl : l = []
    · subst hl; cases n2 <;> simp [pcsF]
    · cases n2 with
      | zero => exact absurd (List.eq_nil_of_length_eq_zero (by omega)) hl
      | succ n2 =>
        have : 0 < l.length := List.length_pos_iff.2 hl
        rw [pcsF, if_neg hl, pcsF, if_neg hl, ih1 n2 _ (by rw [List.length_drop]; omega) (by rw [List.length_drop]; omega)]
theorem pcs_cons {k : Nat} (hk : 0 < k) {l : List UInt8} (hl : l ≠ []) : pcs k l = l.take k :: pcs k (l.drop k) := by
  unfold pcs
  have h0 : 0 < l.length := List.length_pos_iff.2 hl
  obtain ⟨m, hm⟩ : ∃ m, l.length = m + 1 := ⟨l.length - 1, by omega⟩
  rw [hm, pcsF, if_neg hl, pcsF_enough k hk m (l.drop k).length _ (by rw [List.length_drop]; omega) (Nat.le_refl _)]
theorem pcs_nil {k : Nat} : pcs k [] = [] := rfl
theorem pcs_len {k : Nat} (hk : 0 < k) : ∀ (n : Nat) (l : List UInt8), l.length ≤ n → (pcs k l).length = (l.length + (k - 1)) / k
  | 0, l, h => by
    have : l = [] := List.eq_nil_of_length_eq_zero (by omega)
    subst this
    simp only [pcs_nil, List.length_nil, Nat.zero_add]
    exact (Nat.div_eq_of_lt (by omega)).symm
  | n + 1, l, h => by
    by_cases hl : l = []
    · subst hl
      simp only [pcs_nil, List.length_nil, Nat.zero_add]
      exact (Nat.div_eq_of_lt (by omega)).symm
    · have h0 : 0 < l.length := List.length_pos_iff.2 hl
      rw [pcs_cons hk hl, List.length_cons, pcs_len hk n (l.drop k) (by rw [List.length_drop]; omega), List.length_drop]
      by_cases hc : k ≤ l.length
      · have : l.length + (k - 1) = (l.length - k + (k - 1)) + k := by omega
        rw [this, Nat.add_div_right _ hk]
      · have e1 : l.length - k = 0 := by omega
        rw [e1, Nat.zero_add, Nat.div_eq_of_lt (by omega)]
        have : l.length + (k - 1) = (l.length - 1) + k := by omega
        rw [this, Nat.add_div_right _ hk, Nat.div_eq_of_lt (by omega)]
theorem pcs_part {k : Nat} {l : List UInt8} : ∀ p ∈ pcs k l, p.length ≤ k := by
  unfold pcs
  have key : ∀ (m : Nat) (l : List UInt8), ∀ p ∈ pcsF k m l, p.length ≤ k := by
    intro m
    induction m with
    | zero => intro l p hp; simp [pcsF] at hp
    | succ m ih =>
      intro l p hp
      unfold pcsF at hp
      split at hp
      · simp at hp
      · rcases List.mem_cons.1 hp with rfl | hp
        · rw [List.length_take]; omega
        · exact ih _ _ hp
  exact key _ _

def partsL (epoch n of_ : Nat) : Nat → List (List UInt8) → List (List UInt8)
  | _, [] => []
  | i, p :: r => partB epoch n i of_ p :: partsL epoch n of_ (i + 1) r
theorem partsL_len {epoch n of_ : Nat} : ∀ (i : Nat) (l : List (List UInt8)), (partsL epoch n of_ i l).length = l.length
  | _, [] => rfl
  | i, p :: r => by simp [partsL, partsL_len (i + 1) r]
def partsF (epoch n : Int) (l : List Ch) : Option (List (List UInt8)) :=
  if numOK epoch = true ∧ numOK n = true ∧ (pcs 49 (chsB l)).length ≤ 200 then some (partsL epoch.toNat n.toNat (pcs 49 (chsB l)).length 0 (pcs 49 (chsB l))) else none
def PartsP (r : Option (List (List UInt8))) (w : VV) : Prop := match r with
  | none => w = .tup [nilS, vb false]
  | some p => ∃ x els, w = .tup [x, vb true] ∧ SlV 1 els x ∧ PgE els p
theorem numOK_nat {n : Int} (h : numOK n = true) : n = ((n.toNat : Nat) : Int) ∧ n.toNat ≤ 1073741824 := by
  unfold numOK at h
  simp only [Bool.and_eq_true, decide_eq_true_eq] at h
  omega

theorem f24_loop {epoch n : Nat} {ps : List (List UInt8)} {elsP : List (List CV)} {u : VV} {h0 : Heap} (hps : PgE elsP ps) (hu : VF h0 1 elsP u) (hp49 : ∀ p ∈ ps, p.length ≤ 49) (hl : ps.length ≤ 200) :
    ∀ (m i : Nat) (els : List (List CV)) (v : VV) (acc : List (List UInt8)) (s : List VV) (h : Heap) (Q : Pst), i + m = ps.length → els.length ≤ i → NB h0 h 1 els v → PgE els acc →
      s.length = 48 → s.getD 0 .undef = vi .i64 epoch → s.getD 1 .undef = vi .i64 n → s.getD 8 .undef = u → s.getD 9 .undef = v → s.getD 29 .undef = u → s.getD 30 .undef = vi .i64 ps.length → s.getD 31 .undef = vi .i64 i →
      (∀ s' h' els' v', s'.length = 48 → s'.getD 9 .undef = v' → NB h0 h' 1 els' v' → PgE els' (acc ++ partsL epoch n ps.length i (ps.drop i)) → Q (.exit 0) ⟨s', h'⟩) → X F (.loop f24_2) ⟨s, h⟩ Q := by
  intro m
  have hpl := hps.len
  induction m with
  | zero =>
    intro i els v acc s h Q hi hel hB hP hs e0 e1 e8 e9 e29 e30 e31 hQ
    have c : ¬ ((i : Nat) : Int) < (ps.length : Int) := by omega
    have hd : ps.drop i = [] := List.drop_eq_nil_of_le (by omega)
    rw [hd] at hQ
    rw [X_loop, X_eq f24_2.eq_1]
    simp only [go_sem, Nat.reduceLT, Nat.reduceEqDiff, reduceCtorEq, Int.reduceLT, Int.reduceEq, hs, e31, e30]
    rw [X_eq f24_1.eq_1]
    simp only [go_sem, Nat.reduceLT, Nat.reduceEqDiff, reduceCtorEq, Int.reduceLT, Int.reduceEq, hs, c]
    exact hQ _ _ els v (by simp only [slot_len, hs]) (by simp only [go_sem, Nat.reduceLT, Nat.reduceEqDiff, reduceCtorEq, Int.reduceLT, Int.reduceEq, e9]) hB (by simpa [partsL] using hP)
  | succ m ih =>
    intro i els v acc s h Q hi hel hB hP hs e0 e1 e8 e9 e29 e30 e31 hQ
    have c : ((i : Nat) : Int) < (ps.length : Int) := by omega
    obtain ⟨cp, b, he, hb, hc⟩ := hps.get (i := i) (by omega)
    have hd : ps.drop i = b :: ps.drop (i + 1) := by
      obtain ⟨la, rfl⟩ := List.getElem?_eq_some_iff.1 hb
      rw [List.drop_eq_getElem_cons la]
    rw [hd, partsL] at hQ
    obtain ⟨q, q1, _, _, q3⟩ := (hu.ext hB.ext).cell (k := .i64) he
    have q4 := q3 _ _ rfl
    have hwr : IntKind.i64.wrap ((i : Int) + 1) = ((i + 1 : Nat) : Int) := by rw [IntWalk.i64_in _ (by omega)]; omega
    obtain ⟨v47, h47, n47, w47, r47, S47⟩ := part_f47 (epoch := epoch) (n := n) (i := i) (of_ := ps.length) hc (hp49 b (List.mem_of_getElem? hb))
    obtain ⟨c47, rfl⟩ : ∃ c2, w47 = .cv c2 := by rcases S47 with ⟨rfl, _⟩ | ⟨ex, rfl⟩ <;> exact ⟨_, rfl⟩
    have m1 : ∀ h : Heap, mkO h 1 1 [.cv (.sc (.slice none 0 0))] [(0, 1, .cv c47)] = some (.cv (.sl 1 [[c47]] true), h) := fun _ => rfl
    have hln := (hu.ext hB.ext).ln
    rw [hpl] at hln
    rw [X_loop, X_eq f24_2.eq_1]
    simp only [go_sem, Nat.reduceLT, Nat.reduceEqDiff, reduceCtorEq, Int.reduceLT, Int.reduceEq, hs, e31, e30]
    rw [X_eq f24_1.eq_1]
    simp only [go_sem, Nat.reduceLT, Nat.reduceEqDiff, reduceCtorEq, Int.reduceLT, Int.reduceEq, hs, c, e29, e31, q1, q4, e0, e1, e8, e9, hln]
    refine XO_callP (h1 := h) (by simp only [List.map, go_sem, Nat.reduceLT, Nat.reduceEqDiff, reduceCtorEq, Int.reduceLT, Int.reduceEq, hs]; exact clos_cv (clos_cv (clos_cv (clos_cv (hc.clos rfl))))) n47 r47 ?_
    simp only [go_sem, Nat.reduceLT, Nat.reduceEqDiff, reduceCtorEq, Int.reduceLT, Int.reduceEq, hs, m1]
    refine XO_appNB hB (new := [[c47]]) (by simp only [go_sem, Nat.reduceLT, Nat.reduceEqDiff, reduceCtorEq, Int.reduceLT, Int.reduceEq, hs]) (by simp only [go_sem, Nat.reduceLT, Nat.reduceEqDiff, reduceCtorEq, Int.reduceLT, Int.reduceEq, hs]) (by simp only [List.length_singleton]; omega) (by simp only [List.length_singleton]; omega) (fun v' h' hB' _ _ _ => ?_)
    simp only [go_sem, Nat.reduceLT, Nat.reduceEqDiff, reduceCtorEq, Int.reduceLT, Int.reduceEq, hs, e31, hwr]
    refine ih (i + 1) _ v' (acc ++ [partB epoch n i ps.length b]) _ _ Q (by omega) (by simp; omega) hB' (hP.snoc S47) (by simp only [slot_len, hs]) (by simp only [go_sem, Nat.reduceLT, Nat.reduceEqDiff, reduceCtorEq, Int.reduceLT, Int.reduceEq, e0]) (by simp only [go_sem, Nat.reduceLT, Nat.reduceEqDiff, reduceCtorEq, Int.reduceLT, Int.reduceEq, e1]) (by simp only [go_sem, Nat.reduceLT, Nat.reduceEqDiff, reduceCtorEq, Int.reduceLT, Int.reduceEq, e8]) (by simp only [go_sem, Nat.reduceLT, Nat.reduceEqDiff, reduceCtorEq, Int.reduceLT, Int.reduceEq, hs]) (by simp only [go_sem, Nat.reduceLT, Nat.reduceEqDiff, reduceCtorEq, Int.reduceLT, Int.reduceEq, e29]) (by simp only [go_sem, Nat.reduceLT, Nat.reduceEqDiff, reduceCtorEq, Int.reduceLT, Int.reduceEq, e30]) (by simp only [go_sem, Nat.reduceLT, Nat.reduceEqDiff, reduceCtorEq, Int.reduceLT, Int.reduceEq, hs]) (fun s' h2 els' v2 a1 a2 a3 a4 => hQ s' h2 els' v2 a1 a2 a3 ?_)
    rw [List.append_assoc] at a4
    exact a4

theorem parts_f24 {epoch n : Int} {els : List (List CV)} {l : List Ch} {u : VV} (hS : SlV 3 els u) (hC : ChsE els l) (hl : (chsB l).length ≤ 1000000) (hk : l.length ≤ 1000000) : RetP F 24 [vi .i64 epoch, vi .i64 n, u] (PartsP (partsF epoch n l)) := by
  have : Ret F 24 [vi .i64 epoch, vi .i64 n, u] [] fun v g => ∃ w, closRes g v = some w ∧ PartsP (partsF epoch n l) w := by
    refine call_E (fn := f24) rfl ?_
    simp only [f24]
    generalize hs0 : ([vi .i64 epoch, vi .i64 n, u] ++ List.replicate _ VV.undef : List VV) = s
    have hs : s.length = 48 := by rw [← hs0]; rfl
    have h0 : s.getD 0 .undef = vi .i64 epoch := by rw [← hs0]; rfl
    have h1 : s.getD 1 .undef = vi .i64 n := by rw [← hs0]; rfl
    have h2 : s.getD 2 .undef = u := by rw [← hs0]; rfl
    clear hs0
    obtain ⟨v46, h46, n46, B46⟩ := chs_f46 els l u hS hC [] (by omega) (by omega)
    obtain ⟨w46, r46, S46⟩ : ∃ w, closRes h46 v46 = some w ∧ SlV 1 (eB (chsB l)) w := by
      have := B46.close
      exact ⟨_, this, slV_SlV⟩
    obtain ⟨h42a, n42a⟩ := number_f42 epoch
    obtain ⟨h42b, n42b⟩ := number_f42 n
    have n45 : call F 45 [w46, vi .i64 49] [] = some (.ret (.func 56 [.ptr 0 0, .ptr 1 0]), [VO.box [w46] false, .box [vi .i64 49] false]) := by
      have : Ret F 45 [w46, vi .i64 49] [] fun v g => v = .func 56 [.ptr 0 0, .ptr 1 0] ∧ g = [VO.box [w46] false, .box [vi .i64 49] false] := by
        refine call_E (fn := f45) rfl ?_
        simp only [f45]
        generalize hs0 : ([w46, vi .i64 49] ++ List.replicate _ VV.undef : List VV) = s
        have hs : s.length = 9 := by rw [← hs0]; rfl
        have h0 : s.getD 0 .undef = w46 := by rw [← hs0]; rfl
        have h1 : s.getD 1 .undef = vi .i64 49 := by rw [← hs0]; rfl
        clear hs0
        have cw : isCell w46 = true := by rcases S46 with ⟨rfl, _⟩ | ⟨ex, rfl⟩ <;> rfl
        simp only [go_sem, Nat.reduceLT, Nat.reduceEqDiff, reduceCtorEq, Int.reduceLT, Int.reduceEq, hs, h0]
        rw [bx_1 cw]
        simp only [go_sem, Nat.reduceLT, Nat.reduceEqDiff, reduceCtorEq, Int.reduceLT, Int.reduceEq, hs, h1]
        rw [bx_1 rfl]
        have l1 : ldO ([VO.box [w46] false, VO.box [vi .i64 49] false] : Heap) false 1 (.ptr 1 0) = some (vi .i64 49, [VO.box [w46] false, VO.box [vi .i64 49] false]) := ld_p0 rfl
        simp only [go_sem, Nat.reduceLT, Nat.reduceEqDiff, reduceCtorEq, Int.reduceLT, Int.reduceEq, hs, List.nil_append, List.cons_append, List.length_nil, List.length_cons, Nat.zero_add, Nat.reduceAdd]
        rw [X_eq f45_0.eq_1]
        simp only [go_sem, Nat.reduceLT, Nat.reduceEqDiff, reduceCtorEq, Int.reduceLT, Int.reduceEq, hs, l1, show ¬ (49 : Int) < 1 by decide, List.map]
        exact ⟨trivial, trivial⟩
      obtain ⟨v, h', e1, rfl, rfl⟩ := this
      exact e1
    obtain ⟨v44, h44, n44, elsP, B44, P44⟩ := collect_f44 S46 (by omega) (h := [VO.box [w46] false, .box [vi .i64 49] false]) (k := 49) (N := 0) (by omega) (by omega) rfl rfl rfl
    have hpl := P44.len
    have hln := B44.vf.ln
    rw [hpl] at hln
    simp only [go_sem, Nat.reduceLT, Nat.reduceEqDiff, reduceCtorEq, Int.reduceLT, Int.reduceEq, hs, h2]
    refine XO_callP (h1 := []) (by simp only [List.map, go_sem, Nat.reduceLT, Nat.reduceEqDiff, reduceCtorEq, Int.reduceLT, Int.reduceEq, hs]; exact hS.clos rfl) n46 r46 ?_
    simp only [go_sem, Nat.reduceLT, Nat.reduceEqDiff, reduceCtorEq, Int.reduceLT, Int.reduceEq, hs]
    refine XO_callR (by simp only [List.map, go_sem, Nat.reduceLT, Nat.reduceEqDiff, reduceCtorEq, Int.reduceLT, Int.reduceEq, hs]; exact n45) ?_
    simp only [go_sem, Nat.reduceLT, Nat.reduceEqDiff, reduceCtorEq, Int.reduceLT, Int.reduceEq, hs]
    refine XO_callR (by simp only [List.map, go_sem, Nat.reduceLT, Nat.reduceEqDiff, reduceCtorEq, Int.reduceLT, Int.reduceEq, hs]; exact n44) ?_
    simp only [go_sem, Nat.reduceLT, Nat.reduceEqDiff, reduceCtorEq, Int.reduceLT, Int.reduceEq, hs]
    rw [X_eq f24_0.eq_1]
    simp only [go_sem, Nat.reduceLT, Nat.reduceEqDiff, reduceCtorEq, Int.reduceLT, Int.reduceEq, hs, h0]
    refine XO_callP (h1 := h44) (by simp only [List.map, go_sem, Nat.reduceLT, Nat.reduceEqDiff, reduceCtorEq, Int.reduceLT, Int.reduceEq, hs]; rfl) n42a rfl ?_
    have bad : ∀ g, partsF epoch n l = none → ∃ w, closRes g (.tup [nilS, vb false]) = some w ∧ PartsP (partsF epoch n l) w := fun g e => ⟨_, rfl, by rw [e]; rfl⟩
    by_cases c1 : numOK epoch = true
    · simp only [go_sem, Nat.reduceLT, Nat.reduceEqDiff, reduceCtorEq, Int.reduceLT, Int.reduceEq, hs, c1, h1]
      refine XO_callP (h1 := h44) (by simp only [List.map, go_sem, Nat.reduceLT, Nat.reduceEqDiff, reduceCtorEq, Int.reduceLT, Int.reduceEq, hs]; rfl) n42b rfl ?_
      by_cases c2 : numOK n = true
      · obtain ⟨e1, e2⟩ := numOK_nat c1
        obtain ⟨e3, e4⟩ := numOK_nat c2
        by_cases c3 : (200 : Int) < ((pcs 49 (chsB l)).length : Int)
        · simp only [go_sem, Nat.reduceLT, Nat.reduceEqDiff, reduceCtorEq, Int.reduceLT, Int.reduceEq, hs, c2, hln, gt_iff_lt, c3]
          exact bad _ (by unfold partsF; rw [if_neg (by omega)])
        · simp only [go_sem, Nat.reduceLT, Nat.reduceEqDiff, reduceCtorEq, Int.reduceLT, Int.reduceEq, hs, c2, hln, gt_iff_lt, c3]
          refine f24_loop (h0 := h44) P44 B44.vf (fun p hp => pcs_part p hp) (by omega) (pcs 49 (chsB l)).length 0 [] nilS [] _ _ _ (by omega) (by simp) (NB.nil _ _) .nil (by simp only [slot_len, hs]) (by simp only [go_sem, Nat.reduceLT, Nat.reduceEqDiff, reduceCtorEq, Int.reduceLT, Int.reduceEq, h0]; exact congrArg _ e1) (by simp only [go_sem, Nat.reduceLT, Nat.reduceEqDiff, reduceCtorEq, Int.reduceLT, Int.reduceEq, h1]; exact congrArg _ e3) (by simp only [go_sem, Nat.reduceLT, Nat.reduceEqDiff, reduceCtorEq, Int.reduceLT, Int.reduceEq, hs]) (by simp only [go_sem, Nat.reduceLT, Nat.reduceEqDiff, reduceCtorEq, Int.reduceLT, Int.reduceEq, hs]) (by simp only [go_sem, Nat.reduceLT, Nat.reduceEqDiff, reduceCtorEq, Int.reduceLT, Int.reduceEq, hs]) (by simp only [go_sem, Nat.reduceLT, Nat.reduceEqDiff, reduceCtorEq, Int.reduceLT, Int.reduceEq, hs]) (by simp only [go_sem, Nat.reduceLT, Nat.reduceEqDiff, reduceCtorEq, Int.reduceLT, Int.reduceEq, hs]; rfl) (fun s' h' els' v' a1 a2 a3 a4 => ?_)
          obtain ⟨w, r1, r2⟩ : ∃ w, closRes h' (.tup [v', vb true]) = some (.tup [w, vb true]) ∧ SlV 1 els' w := by
            obtain ⟨w, g, d1, d2⟩ := a3.clos
            exact ⟨w, by simp only [closRes, closAs_cons d1 (clos_cv clos_nil), Option.map], d2⟩
          simp only [go_sem, Nat.reduceLT, Nat.reduceEqDiff, reduceCtorEq, Int.reduceLT, Int.reduceEq, a1, a2]
          refine ⟨_, r1, ?_⟩
          have : partsF epoch n l = some (partsL epoch.toNat n.toNat (pcs 49 (chsB l)).length 0 (pcs 49 (chsB l))) := by
            unfold partsF; rw [if_pos ⟨c1, c2, by omega⟩]
          rw [this]
          exact ⟨w, els', rfl, r2, by simpa using a4⟩
      · have c2' : numOK n = false := by simpa using c2
        simp only [go_sem, Nat.reduceLT, Nat.reduceEqDiff, reduceCtorEq, Int.reduceLT, Int.reduceEq, hs, c2']
        exact bad _ (by unfold partsF; rw [if_neg (by simp [c2'])])
    · have c1' : numOK epoch = false := by simpa using c1
      simp only [go_sem, Nat.reduceLT, Nat.reduceEqDiff, reduceCtorEq, Int.reduceLT, Int.reduceEq, hs, c1']
      exact bad _ (by unfold partsF; rw [if_neg (by simp [c1'])])
  obtain ⟨v, g, n1, w, e1, e2⟩ := this
  exact ⟨v, g, n1, w, e1, e2⟩
end Go.V07

set_option linter.unusedSimpArgs false
set_option linter.unusedVariables false
namespace Go.V07
open Go Go.Vm

theorem pcs_get {k : Nat} (hk : 0 < k) : ∀ (i : Nat) (l : List UInt8), k * i < l.length → (pcs k l)[i]? = some ((l.drop (k * i)).take k)
  | 0, l, h => by
    have hl : l ≠ [] := by intro e; subst e; simp at h
    rw [pcs_cons hk hl]; simp
  | i + 1, l, h => by
    have hl : l ≠ [] := by intro e; subst e; simp at h
    have e : k * (i + 1) = k * i + k := Nat.mul_succ k i
    rw [pcs_cons hk hl, List.getElem?_cons_succ, pcs_get hk i (l.drop k) (by rw [List.length_drop]; omega), List.drop_drop]
    congr 3; omega

theorem f25_loop {epoch n : Nat} (he : epoch < 9223372036854775808) (hn : n < 9223372036854775808) {b : List UInt8} {u : VV} (hu : SlV 1 (eB b) u) (hb : b.length ≤ 1000000) {ps : List (List UInt8)} (hps : ps = pcs 49 b) (hl : ps.length ≤ 200) :
    ∀ (m i : Nat) (els : List (List CV)) (v : VV) (acc : List (List UInt8)) (s : List VV) (h : Heap) (Q : Pst), i + m = ps.length → els.length ≤ i → NB [] h 1 els v → PgE els acc →
      s.length = 58 → s.getD 0 .undef = vi .i64 epoch → s.getD 1 .undef = vi .i64 n → s.getD 8 .undef = u → s.getD 9 .undef = vi .i64 ps.length → s.getD 10 .undef = v → s.getD 11 .undef = vi .i64 i →
      (∀ s' h' els' v', s'.length = 58 → s'.getD 10 .undef = v' → NB [] h' 1 els' v' → PgE els' (acc ++ partsL epoch n ps.length i (ps.drop i)) → Q (.exit 0) ⟨s', h'⟩) → X F (.loop f25_2) ⟨s, h⟩ Q := by
  intro m
  have hlen := pcs_len (k := 49) (by omega) b.length b (Nat.le_refl _)
  rw [← hps] at hlen
  induction m with
  | zero =>
    intro i els v acc s h Q hi hel hB hP hs e0 e1 e8 e9 e10 e11 hQ
    have c : ¬ ((i : Nat) : Int) < (ps.length : Int) := by omega
    have hd : ps.drop i = [] := List.drop_eq_nil_of_le (by omega)
    rw [hd] at hQ
    rw [X_loop, X_eq f25_2.eq_1]
    simp only [go_sem, Nat.reduceLT, Nat.reduceEqDiff, reduceCtorEq, Int.reduceLT, Int.reduceEq, hs, e11, e9, c]
    exact hQ _ _ els v (by simp only [slot_len, hs]) (by simp only [go_sem, Nat.reduceLT, Nat.reduceEqDiff, reduceCtorEq, Int.reduceLT, Int.reduceEq, e10]) hB (by simpa [partsL] using hP)
  | succ m ih =>
    intro i els v acc s h Q hi hel hB hP hs e0 e1 e8 e9 e10 e11 hQ
    have c : ((i : Nat) : Int) < (ps.length : Int) := by omega
    have hib : 49 * i < b.length := by
      have : i + 1 ≤ (b.length + (49 - 1)) / 49 := by omega
      omega
    have hg := pcs_get (k := 49) (by omega) i b hib
    rw [← hps] at hg
    have hd : ps.drop i = (b.drop (49 * i)).take 49 :: ps.drop (i + 1) := by
      obtain ⟨la, e⟩ := List.getElem?_eq_some_iff.1 hg
      rw [List.drop_eq_getElem_cons la, e]
    rw [hd, partsL] at hQ
    have w1 : IntKind.i64.wrap (49 * (i : Int)) = 49 * (i : Int) := IntWalk.i64_in _ (by omega)
    have w2 : IntKind.i64.wrap (49 * (i : Int) + 49) = 49 * (i : Int) + 49 := IntWalk.i64_in _ (by omega)
    have hwr : IntKind.i64.wrap ((i : Int) + 1) = ((i + 1 : Nat) : Int) := by rw [IntWalk.i64_in _ (by omega)]; omega
    have hmn : min (49 * (i : Int) + 49) (b.length : Int) = ((min (49 * i + 49) b.length : Nat) : Int) := by omega
    have hlo : (49 * (i : Int)) = ((49 * i : Nat) : Int) := by omega
    obtain ⟨v', sv, svs⟩ : ∃ v', SlV 1 (eB ((b.drop (49 * i)).take 49)) v' ∧ slO h 1 u (some (vi .i64 (49 * (i : Int)))) (some (vi .i64 ((min (49 * i + 49) b.length : Nat) : Int))) none = some (v', h) := by
      rcases hu with ⟨rfl, e⟩ | ⟨ex, rfl⟩
      · exfalso
        have := congrArg List.length e
        rw [eB_len, List.length_nil] at this; omega
      · obtain ⟨ex', he'⟩ := sl_sl (h := h) (z := 1) (els := eB b) (ex := ex) (k := .i64) (k' := .i64) (a := 49 * (i : Int)) (b := ((min (49 * i + 49) b.length : Nat) : Int)) (by omega) (by omega) (by rw [eB_len]; omega)
        refine ⟨_, ?_, he'⟩
        have e1 : (49 * (i : Int)).toNat = 49 * i := by omega
        have e2 : ((min (49 * i + 49) b.length : Nat) : Int).toNat - 49 * i = min 49 (b.length - 49 * i) := by omega
        rw [e1, e2, eB_part]
        have e3 : (b.drop (49 * i)).take (min 49 (b.length - 49 * i)) = (b.drop (49 * i)).take 49 := by
          rw [List.take_eq_take_iff, List.length_drop]; omega
        rw [e3]
        exact .inr ⟨_, rfl⟩
    obtain ⟨v49, h49, n49, w49, r49, S49⟩ := rpart_f49 (epoch := epoch) (n := n) (i := i) (of_ := ps.length) sv (by rw [List.length_take]; omega) he hn
    obtain ⟨c49, rfl⟩ : ∃ c2, w49 = .cv c2 := by rcases S49 with ⟨rfl, _⟩ | ⟨ex, rfl⟩ <;> exact ⟨_, rfl⟩
    have m1 : ∀ h : Heap, mkO h 1 1 [.cv (.sc (.slice none 0 0))] [(0, 1, .cv c49)] = some (.cv (.sl 1 [[c49]] true), h) := fun _ => rfl
    rw [X_loop, X_eq f25_2.eq_1]
    simp only [go_sem, Nat.reduceLT, Nat.reduceEqDiff, reduceCtorEq, Int.reduceLT, Int.reduceEq, hs, e11, e9, c, e0, e1, e8, e10, w1, w2, hu.ln, eB_len, hmn, svs]
    refine XO_callP (h1 := h) (by simp only [List.map, go_sem, Nat.reduceLT, Nat.reduceEqDiff, reduceCtorEq, Int.reduceLT, Int.reduceEq, hs]; exact clos_cv (clos_cv (clos_cv (clos_cv (sv.clos rfl))))) n49 r49 ?_
    simp only [go_sem, Nat.reduceLT, Nat.reduceEqDiff, reduceCtorEq, Int.reduceLT, Int.reduceEq, hs, m1]
    refine XO_appNB hB (new := [[c49]]) (by simp only [go_sem, Nat.reduceLT, Nat.reduceEqDiff, reduceCtorEq, Int.reduceLT, Int.reduceEq, hs]) (by simp only [go_sem, Nat.reduceLT, Nat.reduceEqDiff, reduceCtorEq, Int.reduceLT, Int.reduceEq, hs]) (by simp only [List.length_singleton]; omega) (by simp only [List.length_singleton]; omega) (fun v2 h' hB' _ _ _ => ?_)
    simp only [go_sem, Nat.reduceLT, Nat.reduceEqDiff, reduceCtorEq, Int.reduceLT, Int.reduceEq, hs, e11, hwr]
    refine ih (i + 1) _ v2 (acc ++ [partB epoch n i ps.length ((b.drop (49 * i)).take 49)]) _ _ Q (by omega) (by simp; omega) hB' (hP.snoc S49) (by simp only [slot_len, hs]) (by simp only [go_sem, Nat.reduceLT, Nat.reduceEqDiff, reduceCtorEq, Int.reduceLT, Int.reduceEq, e0]) (by simp only [go_sem, Nat.reduceLT, Nat.reduceEqDiff, reduceCtorEq, Int.reduceLT, Int.reduceEq, e1]) (by simp only [go_sem, Nat.reduceLT, Nat.reduceEqDiff, reduceCtorEq, Int.reduceLT, Int.reduceEq, e8]) (by simp only [go_sem, Nat.reduceLT, Nat.reduceEqDiff, reduceCtorEq, Int.reduceLT, Int.reduceEq, e9]) (by simp only [go_sem, Nat.reduceLT, Nat.reduceEqDiff, reduceCtorEq, Int.reduceLT, Int.reduceEq, hs]) (by simp only [go_sem, Nat.reduceLT, Nat.reduceEqDiff, reduceCtorEq, Int.reduceLT, Int.reduceEq, hs]) (fun s' h2 els' v2 a1 a2 a3 a4 => hQ s' h2 els' v2 a1 a2 a3 ?_)
    rw [List.append_assoc] at a4
    exact a4

theorem rparts_f25 {epoch n : Int} {els : List (List CV)} {l : List Ch} {u : VV} (hS : SlV 3 els u) (hC : ChsE els l) (hl : (chsB l).length ≤ 1000000) (hk : l.length ≤ 1000000) : RetP F 25 [vi .i64 epoch, vi .i64 n, u] (PartsP (partsF epoch n l)) := by
  have : Ret F 25 [vi .i64 epoch, vi .i64 n, u] [] fun v g => ∃ w, closRes g v = some w ∧ PartsP (partsF epoch n l) w := by
    refine call_E (fn := f25) rfl ?_
    simp only [f25]
    generalize hs0 : ([vi .i64 epoch, vi .i64 n, u] ++ List.replicate _ VV.undef : List VV) = s
    have hs : s.length = 58 := by rw [← hs0]; rfl
    have h0 : s.getD 0 .undef = vi .i64 epoch := by rw [← hs0]; rfl
    have h1 : s.getD 1 .undef = vi .i64 n := by rw [← hs0]; rfl
    have h2 : s.getD 2 .undef = u := by rw [← hs0]; rfl
    clear hs0
    have bad : ∀ g, partsF epoch n l = none → ∃ w, closRes g (.tup [nilS, vb false]) = some w ∧ PartsP (partsF epoch n l) w := fun g e => ⟨_, rfl, by rw [e]; rfl⟩
    simp only [go_sem, Nat.reduceLT, Nat.reduceEqDiff, reduceCtorEq, Int.reduceLT, Int.reduceEq, hs]
    rw [X_eq f25_0.eq_1]
    by_cases c1 : epoch < 0
    · simp only [go_sem, Nat.reduceLT, Nat.reduceEqDiff, reduceCtorEq, Int.reduceLT, Int.reduceEq, hs, h0, c1]
      exact bad _ (by unfold partsF numOK; rw [if_neg (by simp; omega)])
    by_cases c2 : (1073741824 : Int) < epoch
    · simp only [go_sem, Nat.reduceLT, Nat.reduceEqDiff, reduceCtorEq, Int.reduceLT, Int.reduceEq, hs, h0, c1, gt_iff_lt, c2]
      exact bad _ (by unfold partsF numOK; rw [if_neg (by simp; omega)])
    by_cases c3 : n < 0
    · simp only [go_sem, Nat.reduceLT, Nat.reduceEqDiff, reduceCtorEq, Int.reduceLT, Int.reduceEq, hs, h0, h1, c1, gt_iff_lt, c2, c3]
      exact bad _ (by unfold partsF numOK; rw [if_neg (by simp; omega)])
    by_cases c4 : (1073741824 : Int) < n
    · simp only [go_sem, Nat.reduceLT, Nat.reduceEqDiff, reduceCtorEq, Int.reduceLT, Int.reduceEq, hs, h0, h1, c1, gt_iff_lt, c2, c3, c4]
      exact bad _ (by unfold partsF numOK; rw [if_neg (by simp; omega)])
    have d1 : numOK epoch = true := by unfold numOK; simp; omega
    have d2 : numOK n = true := by unfold numOK; simp; omega
    obtain ⟨e1, e2⟩ := numOK_nat d1
    obtain ⟨e3, e4⟩ := numOK_nat d2
    obtain ⟨v48, h48, w48, n48, r48, S48⟩ := rchs_f48 els l u hS hC (by omega) (by omega)
    have hlen := pcs_len (k := 49) (by omega) (chsB l).length (chsB l) (Nat.le_refl _)
    have w1 : IntKind.i64.wrap (((chsB l).length : Int) + 48) = (((chsB l).length + 48 : Nat) : Int) := by rw [IntWalk.i64_in _ (by omega)]; omega
    have z49 : (49 : Int) ≠ 0 := by decide
    have w2 : IntKind.i64.wrap ((((chsB l).length + 48 : Nat) : Int).tdiv 49) = ((pcs 49 (chsB l)).length : Int) := by
      have e : (((chsB l).length + 48 : Nat) : Int).tdiv 49 = (((chsB l).length + 48) / 49 : Nat) := rfl
      rw [e, IntWalk.i64_in _ (by omega), hlen]
    simp only [go_sem, Nat.reduceLT, Nat.reduceEqDiff, reduceCtorEq, Int.reduceLT, Int.reduceEq, hs, h0, h1, h2, c1, gt_iff_lt, c2, c3, c4]
    refine XO_callP (h1 := []) (by simp only [List.map, go_sem, Nat.reduceLT, Nat.reduceEqDiff, reduceCtorEq, Int.reduceLT, Int.reduceEq, hs]; exact hS.clos rfl) n48 r48 ?_
    simp only [go_sem, Nat.reduceLT, Nat.reduceEqDiff, reduceCtorEq, Int.reduceLT, Int.reduceEq, hs, S48.ln, eB_len, w1, bin_quo z49, w2]
    rw [X_eq f25_1.eq_1]
    by_cases c5 : (200 : Int) < ((pcs 49 (chsB l)).length : Int)
    · simp only [go_sem, Nat.reduceLT, Nat.reduceEqDiff, reduceCtorEq, Int.reduceLT, Int.reduceEq, hs, gt_iff_lt, c5]
      exact bad _ (by unfold partsF; rw [if_neg (by omega)])
    · simp only [go_sem, Nat.reduceLT, Nat.reduceEqDiff, reduceCtorEq, Int.reduceLT, Int.reduceEq, hs, gt_iff_lt, c5]
      refine f25_loop (epoch := epoch.toNat) (n := n.toNat) (by omega) (by omega) S48 hl rfl (by omega) (pcs 49 (chsB l)).length 0 [] nilS [] _ _ _ (by omega) (by simp) (NB.nil _ _) .nil (by simp only [slot_len, hs]) (by simp only [go_sem, Nat.reduceLT, Nat.reduceEqDiff, reduceCtorEq, Int.reduceLT, Int.reduceEq, h0]; exact congrArg _ e1) (by simp only [go_sem, Nat.reduceLT, Nat.reduceEqDiff, reduceCtorEq, Int.reduceLT, Int.reduceEq, h1]; exact congrArg _ e3) (by simp only [go_sem, Nat.reduceLT, Nat.reduceEqDiff, reduceCtorEq, Int.reduceLT, Int.reduceEq, hs]) (by simp only [go_sem, Nat.reduceLT, Nat.reduceEqDiff, reduceCtorEq, Int.reduceLT, Int.reduceEq, hs]) (by simp only [go_sem, Nat.reduceLT, Nat.reduceEqDiff, reduceCtorEq, Int.reduceLT, Int.reduceEq, hs]) (by simp only [go_sem, Nat.reduceLT, Nat.reduceEqDiff, reduceCtorEq, Int.reduceLT, Int.reduceEq, hs]; rfl) (fun s' h' els' v' a1 a2 a3 a4 => ?_)
      obtain ⟨w, r1, r2⟩ : ∃ w, closRes h' (.tup [v', vb true]) = some (.tup [w, vb true]) ∧ SlV 1 els' w := by
        obtain ⟨w, g, d1, d2⟩ := a3.clos
        exact ⟨w, by simp only [closRes, closAs_cons d1 (clos_cv clos_nil), Option.map], d2⟩
      simp only [go_sem, Nat.reduceLT, Nat.reduceEqDiff, reduceCtorEq, Int.reduceLT, Int.reduceEq, a1, a2]
      refine ⟨_, r1, ?_⟩
      have : partsF epoch n l = some (partsL epoch.toNat n.toNat (pcs 49 (chsB l)).length 0 (pcs 49 (chsB l))) := by
        unfold partsF; rw [if_pos ⟨d1, d2, by omega⟩]
      rw [this]
      exact ⟨w, els', rfl, r2, by simpa using a4⟩
  obtain ⟨v, g, n1, w, e1, e2⟩ := this
  exact ⟨v, g, n1, w, e1, e2⟩
end Go.V07

set_option linter.unusedSimpArgs false
set_option linter.unusedVariables false
namespace Go.V07
open Go Go.Vm

/-! ### a frame -/
def kOf (b : List UInt8) : Nat := (b.getD 10 0).toNat
def ofOf (b : List UInt8) : Nat := (b.getD 9 0).toNat
def bodyOf (b : List UInt8) : List UInt8 := (b.drop 11).take (kOf b)
def stepOK (epoch n i of_ : Nat) (b : List UInt8) : Prop :=
  b.length = 64 ∧ 1 ≤ kOf b ∧ kOf b ≤ 49 ∧ 1 ≤ of_ ∧ of_ ≤ 200 ∧ (of_ ≤ i + 1 ∨ kOf b = 49) ∧ partB epoch n i of_ (bodyOf b) = b
instance {epoch n i of_ : Nat} {b : List UInt8} : Decidable (stepOK epoch n i of_ b) := by unfold stepOK; infer_instance
def frL (epoch n of_ : Nat) : Nat → Nat → List (List UInt8) → List UInt8 → Option (List UInt8)
  | 0, _, _, acc => some acc
  | m + 1, i, ss, acc => match ss with
    | [] => none
    | b :: r => if stepOK epoch n i of_ b then (if i + 1 < of_ then frL epoch n of_ m (i + 1) r (acc ++ bodyOf b) else some (acc ++ bodyOf b)) else none
theorem body_len {b : List UInt8} (h : b.length = 64) (h2 : kOf b ≤ 49) : (bodyOf b).length = kOf b := by
  unfold bodyOf; rw [List.length_take, List.length_drop]; omega

/-- The code behind the loop. -/
def f43_t : IR :=
  (.seq
  (.seq (.reg [
  ⟨none, (some 89), (.mv (.t 8))⟩,
  ⟨none, (some 90), (.call 54 true [(.t 89)])⟩,
  ⟨none, (some 88), (.mv (.t 90))⟩,
  ⟨none, (some 91), (.ext (.t 88) 0)⟩,
  ⟨none, (some 92), (.ext (.t 88) 1)⟩,
  ⟨none, (some 9), (.mv (.t 91))⟩,
  ⟨none, (some 10), (.mv (.t 92))⟩])

  (.seq (.reg [
  ⟨none, (some 93), (.mv (.t 10))⟩,
  ⟨none, (some 94), (.bin .eql (.t 93) (.c (.cv (.sc (.int .u16 0)))))⟩])
  (.cond (.t 94)
  (.seq (.reg [
  ⟨none, (some 95), (.mv (.t 9))⟩,
  ⟨none, (some 96), (.mv (.t 12))⟩,
  ⟨none, (some 6), (.mv (.t 95))⟩,
  ⟨none, (some 7), (.mv (.t 96))⟩])
  .ret) .skip)))

  (.seq (.label 0)

  (.seq (.reg [
  ⟨none, (some 6), (.mv (.c (.cv (.sc (.slice none 0 0)))))⟩,
  ⟨none, (some 7), (.mv (.c (.cv (.sc (.int .i64 0)))))⟩])
  .ret)))
theorem get_u8 {b : List UInt8} {i : Nat} (h : i < b.length) : b[i]? = some (b.getD i 0) := by
  rw [List.getD_eq_getElem?_getD, List.getElem?_eq_getElem h]; rfl

section
variable {epoch n : Nat} {ss : List (List UInt8)} {elsS : List (List CV)} {u : VV} {h0 : Heap}
theorem f43_loop (hP : PgE elsS ss) (hu : VF h0 1 elsS u) {of_ : Nat} (hof : ∀ b, ss[0]? = some b → of_ = ofOf b) :
    ∀ (m i : Nat) (acc : List UInt8) (va : VV) (s : List VV) (h : Heap) (Q : Pst), m + i = 200 → (i = 0 ∨ (i < of_ ∧ of_ ≤ 200)) → i ≤ ss.length → acc.length ≤ 49 * i → NB h0 h 1 (eB acc) va →
      s.length = 97 → s.getD 0 .undef = vi .i64 epoch → s.getD 1 .undef = vi .i64 n → s.getD 2 .undef = u → s.getD 8 .undef = va → s.getD 11 .undef = vi .i64 i → (i = 0 ∧ s.getD 12 .undef = vi .i64 1 ∨ s.getD 12 .undef = vi .i64 of_) →
      (frL epoch n of_ m i (ss.drop i) acc = none → ∀ s' h', s'.length = 97 → s'.getD 6 .undef = nilS → s'.getD 7 .undef = vi .i64 0 → HExt h0 h' → Q .ret ⟨s', h'⟩) →
      (∀ all, frL epoch n of_ m i (ss.drop i) acc = some all → ∀ s' h' va', s'.length = 97 → s'.getD 8 .undef = va' → s'.getD 12 .undef = vi .i64 of_ → NB h0 h' 1 (eB all) va' → all.length ≤ 10000 → X F f43_t ⟨s', h'⟩ (S F f43_4 Q)) → XF F f43_4 1 ⟨s, h⟩ (S F f43_4 Q) := by
  intro m
  have hpl := hP.len
  induction m with
  | zero => intro i acc va s h Q hm hio; omega
  | succ m ih =>
    intro i acc va s h Q hm hio hile hac hB hs e0 e1 e2 e8 e11 e12 hN hY
    have bad : frL epoch n of_ (m + 1) i (ss.drop i) acc = none → ∀ s' h', s'.length = 97 → HExt h0 h' → S F f43_4 Q (.goto 0) ⟨s', h'⟩ := by
      intro hno s' h' hs' hx
      rw [S_goto rfl, XF_eq f43_4.eq_1, XF_seq2 rfl, XF_seq2 rfl, XF_seq2 rfl, XF_seq2 rfl, XF_seq2 rfl, XF_seq2 rfl, XF_seq2 rfl, XF_seq2 rfl, XF_seq2 rfl, XF_seq1 rfl, XF_label]
      simp only [go_sem, Nat.reduceLT, Nat.reduceEqDiff, reduceCtorEq, Int.reduceLT, Int.reduceEq, hs']
      exact hN hno _ h' (by simp only [slot_len, hs']) (by simp only [go_sem, Nat.reduceLT, Nat.reduceEqDiff, reduceCtorEq, Int.reduceLT, Int.reduceEq, hs']) (by simp only [go_sem, Nat.reduceLT, Nat.reduceEqDiff, reduceCtorEq, Int.reduceLT, Int.reduceEq, hs']) hx
    rw [XF_eq f43_4.eq_1, XF_seq2 rfl, XF_seq2 rfl, XF_seq2 rfl, XF_seq2 rfl, XF_seq1 rfl, XF_label]
    show X F (.seq f43_0 (.seq _ (.seq _ f43_t))) ⟨s, h⟩ _
    rw [X_seq, X_eq f43_0.eq_1]
    have hv := hu.ext hB.ext
    by_cases d0 : i = ss.length
    · have d0' : (i : Int) = (elsS.length : Int) := by omega
      simp only [go_sem, Nat.reduceLT, Nat.reduceEqDiff, reduceCtorEq, Int.reduceLT, Int.reduceEq, hs, e11, e2, hv.ln, d0']
      exact bad (by rw [d0, List.drop_length]; rfl) _ _ (by simp only [slot_len, hs]) hB.ext
    have d0' : ¬ (i : Int) = (elsS.length : Int) := by omega
    obtain ⟨cb, b, he, hb, hc⟩ := hP.get (i := i) (by omega)
    have hd : ss.drop i = b :: ss.drop (i + 1) := by
      obtain ⟨la, e⟩ := List.getElem?_eq_some_iff.1 hb
      rw [List.drop_eq_getElem_cons la, e]
    have hno : ¬ stepOK epoch n i of_ b → frL epoch n of_ (m + 1) i (ss.drop i) acc = none := fun hn => by rw [hd]; simp only [frL]; rw [if_neg hn]
    obtain ⟨q, q1, _, _, q3⟩ := hv.cell (k := .i64) he
    have q4 := q3 _ _ rfl
    by_cases d1 : b.length = 64
    · have d1' : ¬ ((b.length : Nat) : Int) ≠ 64 := by omega
      have i10 : ∀ g : Heap, iaO g 1 (.cv cb) (vi .i64 10) = some (.rptr (byteCell (b.getD 10 0)), g) := fun g => hc.ia (by omega) (by show (eB b)[10]? = _; exact eB_get (get_u8 (by omega)))
      have i9 : ∀ g : Heap, iaO g 1 (.cv cb) (vi .i64 9) = some (.rptr (byteCell (b.getD 9 0)), g) := fun g => hc.ia (by omega) (by show (eB b)[9]? = _; exact eB_get (get_u8 (by omega)))
      have k10 : ∀ g : Heap, ldO g false 1 (.rptr (byteCell (b.getD 10 0))) = some (vi .u8 (kOf b), g) := fun g => ld_rptr
      have k9 : ∀ g : Heap, ldO g false 1 (.rptr (byteCell (b.getD 9 0))) = some (vi .u8 (ofOf b), g) := fun g => ld_rptr
      have hk256 : kOf b < 256 := (b.getD 10 0).toNat_lt
      have ho256 : ofOf b < 256 := (b.getD 9 0).toNat_lt
      have wk : IntKind.i64.wrap (kOf b : Int) = (kOf b : Int) := IntWalk.i64_in _ (by omega)
      have wo : IntKind.i64.wrap (ofOf b : Int) = (ofOf b : Int) := IntWalk.i64_in _ (by omega)
      simp only [go_sem, Nat.reduceLT, Nat.reduceEqDiff, reduceCtorEq, Int.reduceLT, Int.reduceEq, hs, e11, e2, hv.ln, d0', q1, q4, hc.ln, eB_len, d1', i10, k10, wk]
      refine mid (P := fun st => st.h = h ∧ st.s.length = 97 ∧ st.s.getD 0 .undef = vi .i64 epoch ∧ st.s.getD 1 .undef = vi .i64 n ∧ st.s.getD 2 .undef = u ∧ st.s.getD 8 .undef = va ∧ st.s.getD 11 .undef = vi .i64 i ∧ st.s.getD 12 .undef = vi .i64 of_ ∧ st.s.getD 13 .undef = .cv cb ∧ st.s.getD 14 .undef = vi .i64 (kOf b)) ?_ ?_
      · rw [X_eq f43_1.eq_1]
        by_cases d2 : i = 0
        · have d2' : ((i : Nat) : Int) = 0 := by omega
          have e : of_ = ofOf b := hof b (by rw [← d2]; exact hb)
          simp only [go_sem, Nat.reduceLT, Nat.reduceEqDiff, reduceCtorEq, Int.reduceLT, Int.reduceEq, hs, e11, d2', i9, k9, wo, e, e0, e1, e2, e8, and_self]
        · have d2' : ¬ ((i : Nat) : Int) = 0 := by omega
          have e : s.getD 12 .undef = vi .i64 of_ := by
            rcases e12 with ⟨e, _⟩ | e
            · exact absurd e d2
            · exact e
          simp only [go_sem, Nat.reduceLT, Nat.reduceEqDiff, reduceCtorEq, Int.reduceLT, Int.reduceEq, hs, e11, d2', e0, e1, e2, e8, e, and_self]
      · rintro ⟨s1, h1⟩ ⟨rfl, hs1, f0, f1, f2, f8, f11, f12, f13, f14⟩
        dsimp only at hs1 f0 f1 f2 f8 f11 f12 f13 f14
        rw [X_seq]
        have hof256 : of_ < 256 := by
          rcases hio with h | h
          · have := hof b (by rw [← h]; exact hb); omega
          · omega
        have wof : IntKind.i64.wrap ((of_ : Int) - 1) = (of_ : Int) - 1 := IntWalk.i64_in _ (by omega)
        by_cases g1 : (kOf b : Int) < 1
        · rw [X_eq f43_2.eq_1]
          simp only [go_sem, Nat.reduceLT, Nat.reduceEqDiff, reduceCtorEq, Int.reduceLT, Int.reduceEq, hs1, f14, g1]
          exact bad (hno (fun hh => by have := hh.2.1; omega)) _ _ (by simp only [slot_len, hs1]) hB.ext
        by_cases g2 : (49 : Int) < (kOf b : Int)
        · rw [X_eq f43_2.eq_1]
          simp only [go_sem, Nat.reduceLT, Nat.reduceEqDiff, reduceCtorEq, Int.reduceLT, Int.reduceEq, hs1, f14, g1, gt_iff_lt, g2]
          exact bad (hno (fun hh => by have := hh.2.2.1; omega)) _ _ (by simp only [slot_len, hs1]) hB.ext
        by_cases g3 : (of_ : Int) < 1
        · rw [X_eq f43_2.eq_1]
          simp only [go_sem, Nat.reduceLT, Nat.reduceEqDiff, reduceCtorEq, Int.reduceLT, Int.reduceEq, hs1, f14, f12, g1, gt_iff_lt, g2, g3]
          exact bad (hno (fun hh => by have := hh.2.2.2.1; omega)) _ _ (by simp only [slot_len, hs1]) hB.ext
        by_cases g4 : (200 : Int) < (of_ : Int)
        · rw [X_eq f43_2.eq_1]
          simp only [go_sem, Nat.reduceLT, Nat.reduceEqDiff, reduceCtorEq, Int.reduceLT, Int.reduceEq, hs1, f14, f12, g1, gt_iff_lt, g2, g3, g4]
          exact bad (hno (fun hh => by have := hh.2.2.2.2.1; omega)) _ _ (by simp only [slot_len, hs1]) hB.ext
        have w11 : IntKind.i64.wrap (11 + (kOf b : Int)) = ((11 + kOf b : Nat) : Int) := by rw [IntWalk.i64_in _ (by omega)]; omega
        have hbl := body_len d1 (by omega)
        have wi1 : IntKind.i64.wrap ((i : Int) + 1) = ((i + 1 : Nat) : Int) := by rw [IntWalk.i64_in _ (by omega)]; omega
        obtain ⟨wp, sp, psl⟩ : ∃ v', SlV 1 (eB (bodyOf b)) v' ∧ ∀ g : Heap, slO g 1 (.cv cb) (some (vi .i64 11)) (some (vi .i64 ((11 + kOf b : Nat) : Int))) none = some (v', g) := by
          rcases hc with ⟨e, e'⟩ | ⟨ex, e'⟩
          · exfalso
            have := congrArg List.length e'
            rw [eB_len, List.length_nil] at this; omega
          · cases e'
            refine ⟨.cv (.sl 1 (eB (bodyOf b)) (ex && (11 + kOf b == (eB b).length))), .inr ⟨_, rfl⟩, fun g => ?_⟩
            have e1 : (11 : Int) ≤ ((11 + kOf b : Nat) : Int) := by omega
            have e2 : ((11 + kOf b : Nat) : Int) ≤ ((eB b).length : Int) := by rw [eB_len]; omega
            have e3 : ((11 + kOf b : Nat) : Int).toNat = 11 + kOf b := by omega
            have e4 : (0 : Int) ≤ ((11 + kOf b : Nat) : Int) := by omega
            have e5 : (11 : Int) ≤ max ((11 + kOf b : Nat) : Int) 0 := by omega
            simp only [slO, stepI, rhoO, lenV, bnd, intV, Option.map_some, Option.map_none]
            rw [if_pos ⟨e4, e2⟩, e3]
            simp only
            rw [if_pos ⟨by decide, e1⟩]
            simp [eB_part, bodyOf]
        obtain ⟨v47, h47, n47, w47, r47, S47⟩ := part_f47 (epoch := epoch) (n := n) (i := i) (of_ := of_) sp (by rw [hbl]; omega)
        have neq := equal_f40 S47 hc
        by_cases hor : of_ ≤ i + 1 ∨ kOf b = 49
        · refine mid (P := fun st => st.h = h1 ∧ st.s.length = 97 ∧ st.s.getD 0 .undef = vi .i64 epoch ∧ st.s.getD 1 .undef = vi .i64 n ∧ st.s.getD 2 .undef = u ∧ st.s.getD 8 .undef = va ∧ st.s.getD 11 .undef = vi .i64 i ∧ st.s.getD 12 .undef = vi .i64 of_ ∧ st.s.getD 13 .undef = .cv cb ∧ st.s.getD 14 .undef = vi .i64 (kOf b)) ?_ ?_
          · rw [X_eq f43_2.eq_1]
            by_cases g5 : (i : Int) < (of_ : Int) - 1
            · have g6 : ¬ (kOf b : Int) < 49 := by omega
              simp only [go_sem, Nat.reduceLT, Nat.reduceEqDiff, reduceCtorEq, Int.reduceLT, Int.reduceEq, hs1, f14, f12, f11, g1, gt_iff_lt, g2, g3, g4, wof, g5, g6, f0, f1, f2, f8, f13, and_self]
            · simp only [go_sem, Nat.reduceLT, Nat.reduceEqDiff, reduceCtorEq, Int.reduceLT, Int.reduceEq, hs1, f14, f12, f11, g1, gt_iff_lt, g2, g3, g4, wof, g5, f0, f1, f2, f8, f13, and_self]
          rintro ⟨s2, h1'⟩ ⟨e, hs2, p0, p1, p2, p8, p11, p12, p13, p14⟩
          dsimp only at e hs2 p0 p1 p2 p8 p11 p12 p13 p14
          subst e
          simp only [go_sem, Nat.reduceLT, Nat.reduceEqDiff, reduceCtorEq, Int.reduceLT, Int.reduceEq, hs2]
          rw [X_eq f43_3.eq_1]
          simp only [go_sem, Nat.reduceLT, Nat.reduceEqDiff, reduceCtorEq, Int.reduceLT, Int.reduceEq, hs2, p0, p1, p11, p12, p13, p14, w11, psl]
          refine XO_callP (h1 := h1') (by simp only [List.map, go_sem, Nat.reduceLT, Nat.reduceEqDiff, reduceCtorEq, Int.reduceLT, Int.reduceEq, hs2]; exact clos_cv (clos_cv (clos_cv (clos_cv (sp.clos rfl))))) n47 r47 ?_
          simp only [go_sem, Nat.reduceLT, Nat.reduceEqDiff, reduceCtorEq, Int.reduceLT, Int.reduceEq, hs2, p13]
          refine XO_callP (h1 := h1') (by simp only [List.map, go_sem, Nat.reduceLT, Nat.reduceEqDiff, reduceCtorEq, Int.reduceLT, Int.reduceEq, hs2]; exact S47.clos (hc.clos rfl)) neq rfl ?_
          by_cases g5 : partB epoch n i of_ (bodyOf b) = b
          · have hok : stepOK epoch n i of_ b := ⟨d1, by omega, by omega, by omega, by omega, hor, g5⟩
            simp only [go_sem, Nat.reduceLT, Nat.reduceEqDiff, reduceCtorEq, Int.reduceLT, Int.reduceEq, hs2, g5, decide_true, p8, p13, p14, w11, psl]
            refine XO_appNB hB (new := eB (bodyOf b)) (by simp only [go_sem, Nat.reduceLT, Nat.reduceEqDiff, reduceCtorEq, Int.reduceLT, Int.reduceEq, hs2]) (by simp only [go_sem, Nat.reduceLT, Nat.reduceEqDiff, reduceCtorEq, Int.reduceLT, Int.reduceEq, hs2]; exact sp.src) (by rw [eB_len, eB_len]; omega) (by rw [eB_len, eB_len]; omega) (fun v' h' hB' _ _ _ => ?_)
            rw [← eB_append] at hB'
            have hfr : frL epoch n of_ (m + 1) i (ss.drop i) acc = if i + 1 < of_ then frL epoch n of_ m (i + 1) (ss.drop (i + 1)) (acc ++ bodyOf b) else some (acc ++ bodyOf b) := by
              rw [hd]; simp only [frL]; rw [if_pos hok]
            rw [hfr] at hN hY
            simp only [go_sem, Nat.reduceLT, Nat.reduceEqDiff, reduceCtorEq, Int.reduceLT, Int.reduceEq, hs2, p11, p12, wi1]
            by_cases g6 : i + 1 < of_
            · have g6' : ((i + 1 : Nat) : Int) < (of_ : Int) := by omega
              rw [if_pos g6] at hN hY
              simp only [go_sem, Nat.reduceLT, Nat.reduceEqDiff, reduceCtorEq, Int.reduceLT, Int.reduceEq, hs2, g6']
              rw [S_goto rfl]
              exact ih (i + 1) (acc ++ bodyOf b) v' _ _ Q (by omega) (.inr ⟨g6, by omega⟩) (by omega) (by rw [List.length_append]; omega) hB' (by simp only [slot_len, hs2]) (by simp only [go_sem, Nat.reduceLT, Nat.reduceEqDiff, reduceCtorEq, Int.reduceLT, Int.reduceEq, p0]) (by simp only [go_sem, Nat.reduceLT, Nat.reduceEqDiff, reduceCtorEq, Int.reduceLT, Int.reduceEq, p1]) (by simp only [go_sem, Nat.reduceLT, Nat.reduceEqDiff, reduceCtorEq, Int.reduceLT, Int.reduceEq, p2]) (by simp only [go_sem, Nat.reduceLT, Nat.reduceEqDiff, reduceCtorEq, Int.reduceLT, Int.reduceEq, hs2]) (by simp only [go_sem, Nat.reduceLT, Nat.reduceEqDiff, reduceCtorEq, Int.reduceLT, Int.reduceEq, hs2]) (.inr (by simp only [go_sem, Nat.reduceLT, Nat.reduceEqDiff, reduceCtorEq, Int.reduceLT, Int.reduceEq, p12])) hN hY
            · have g6' : ¬ ((i + 1 : Nat) : Int) < (of_ : Int) := by omega
              rw [if_neg g6] at hN hY
              simp only [go_sem, Nat.reduceLT, Nat.reduceEqDiff, reduceCtorEq, Int.reduceLT, Int.reduceEq, hs2, g6']
              exact hY _ rfl _ _ v' (by simp only [slot_len, hs2]) (by simp only [go_sem, Nat.reduceLT, Nat.reduceEqDiff, reduceCtorEq, Int.reduceLT, Int.reduceEq, hs2]) (by simp only [go_sem, Nat.reduceLT, Nat.reduceEqDiff, reduceCtorEq, Int.reduceLT, Int.reduceEq, p12]) hB' (by rw [List.length_append]; omega)
          · simp only [go_sem, Nat.reduceLT, Nat.reduceEqDiff, reduceCtorEq, Int.reduceLT, Int.reduceEq, hs2, g5, decide_false]
            exact bad (hno (fun hh => g5 hh.2.2.2.2.2.2)) _ _ (by simp only [slot_len, hs2]) hB.ext
        · have g5 : (i : Int) < (of_ : Int) - 1 := by omega
          have g6 : (kOf b : Int) < 49 := by omega
          rw [X_eq f43_2.eq_1]
          simp only [go_sem, Nat.reduceLT, Nat.reduceEqDiff, reduceCtorEq, Int.reduceLT, Int.reduceEq, hs1, f14, f12, f11, g1, gt_iff_lt, g2, g3, g4, wof, g5, g6]
          exact bad (hno (fun hh => hor hh.2.2.2.2.2.1)) _ _ (by simp only [slot_len, hs1]) hB.ext
    · have d1' : ((b.length : Nat) : Int) ≠ 64 := by omega
      simp only [go_sem, Nat.reduceLT, Nat.reduceEqDiff, reduceCtorEq, Int.reduceLT, Int.reduceEq, hs, e11, e2, hv.ln, d0', q1, q4, hc.ln, eB_len, d1']
      exact bad (hno (fun hh => d1 hh.1)) _ _ (by simp only [slot_len, hs]) hB.ext
end
end Go.V07

set_option linter.unusedSimpArgs false
set_option linter.unusedVariables false
namespace Go.V07
open Go Go.Vm

def ofS (ss : List (List UInt8)) : Nat := match ss with
  | [] => 0
  | b :: _ => ofOf b
def frameB (epoch n : Nat) (ss : List (List UInt8)) : Option (List UInt8) := frL epoch n (ofS ss) 200 0 ss []
def frameF (epoch n : Nat) (ss : List (List UInt8)) : List (List CV) × Nat := match frameB epoch n ss with
  | none => ([], 0)
  | some all => if (wholeB (getCh all) all).2 = 0 then ((wholeB (getCh all) all).1, ofS ss) else ([], 0)

/-- What a frame's reading tells. -/
def FrameP (r : List (List CV) × Nat) (w : VV) : Prop := ∃ x, w = .tup [x, vi .i64 (r.2 : Nat)] ∧ SlV 3 r.1 x

section
variable {epoch n : Nat} {ss : List (List UInt8)} {elsS : List (List CV)} {u : VV} {h : Heap}
theorem frame_f43 (hP : PgE elsS ss) (hu : VF h 1 elsS u) : Ret F 43 [vi .i64 epoch, vi .i64 n, u] h fun v g => HExt h g ∧ FrameP (frameF epoch n ss) v := by
  refine call_E (fn := f43) rfl ?_
  simp only [f43]
  generalize hs0 : ([vi .i64 epoch, vi .i64 n, u] ++ List.replicate _ VV.undef : List VV) = s
  have hs : s.length = 97 := by rw [← hs0]; rfl
  have h0 : s.getD 0 .undef = vi .i64 epoch := by rw [← hs0]; rfl
  have h1 : s.getD 1 .undef = vi .i64 n := by rw [← hs0]; rfl
  have h2 : s.getD 2 .undef = u := by rw [← hs0]; rfl
  clear hs0
  have hof : ∀ b, ss[0]? = some b → ofS ss = ofOf b := by
    intro b hb
    cases ss with
    | nil => cases hb
    | cons c r => cases hb; rfl
  have key : ∀ (s : List VV), s.length = 97 → s.getD 0 .undef = vi .i64 epoch → s.getD 1 .undef = vi .i64 n → s.getD 2 .undef = u → s.getD 8 .undef = nilS → s.getD 11 .undef = vi .i64 0 → s.getD 12 .undef = vi .i64 1 →
      XF F f43_4 1 ⟨s, h⟩ (S F f43_4 (RQ [.t 6, .t 7] fun v g => HExt h g ∧ FrameP (frameF epoch n ss) v)) := by
    intro s hs e0 e1 e2 e8 e11 e12
    refine f43_loop (of_ := ofS ss) hP hu hof 200 0 [] nilS s h _ rfl (.inl rfl) (by omega) (by simp) (NB.nil _ _) hs e0 e1 e2 e8 e11 (.inl ⟨rfl, e12⟩) ?_ ?_
    · intro hno s' h' hs' e6 e7 hx
      rw [List.drop_zero] at hno
      have hf : frameF epoch n ss = ([], 0) := by unfold frameF frameB; rw [hno]
      simp only [go_sem, Nat.reduceLT, Nat.reduceEqDiff, reduceCtorEq, Int.reduceLT, Int.reduceEq, hs', e6, e7]
      exact ⟨hx, nilS, by rw [hf]; rfl, by rw [hf]; exact .inl ⟨rfl, rfl⟩⟩
    · intro all hso s' h' va' hs' e8' e12' hB hlen
      rw [List.drop_zero] at hso
      obtain ⟨w, h1, c1, c2, c3, _⟩ := hB.bsrc.cl
      obtain ⟨v54, h54, n54, r54⟩ := changes_f54 all w c2 (by omega)
      have r54' : closRes h54 v54 = some (.tup [slV 3 (wholeB (getCh all) all).1, vi .u16 (wholeB (getCh all) all).2]) := r54
      unfold f43_t
      simp only [go_sem, Nat.reduceLT, Nat.reduceEqDiff, reduceCtorEq, Int.reduceLT, Int.reduceEq, hs', e8']
      refine XO_callP (h1 := h1) (by simp only [List.map, go_sem, Nat.reduceLT, Nat.reduceEqDiff, reduceCtorEq, Int.reduceLT, Int.reduceEq, hs', e8']; exact c1) n54 r54' ?_
      by_cases d : (wholeB (getCh all) all).2 = 0
      · have d' : (((wholeB (getCh all) all).2 : Nat) : Int) = 0 := by omega
        have hf : frameF epoch n ss = ((wholeB (getCh all) all).1, ofS ss) := by unfold frameF frameB; rw [hso]; simp only; rw [if_pos d]
        simp only [go_sem, Nat.reduceLT, Nat.reduceEqDiff, reduceCtorEq, Int.reduceLT, Int.reduceEq, hs', d', e12']
        exact ⟨c3, _, by rw [hf], by rw [hf]; exact slV_SlV⟩
      · have d' : ¬ (((wholeB (getCh all) all).2 : Nat) : Int) = 0 := by omega
        have hf : frameF epoch n ss = ([], 0) := by unfold frameF frameB; rw [hso]; simp only; rw [if_neg d]
        simp only [go_sem, Nat.reduceLT, Nat.reduceEqDiff, reduceCtorEq, Int.reduceLT, Int.reduceEq, hs', d']
        exact ⟨c3, nilS, by rw [hf]; rfl, by rw [hf]; exact .inl ⟨rfl, rfl⟩⟩
  simp only [go_sem, Nat.reduceLT, Nat.reduceEqDiff, reduceCtorEq, Int.reduceLT, Int.reduceEq, hs]
  have k := key ((((((((s.set 6 nilS).set 7 (vi .i64 0)).set 8 nilS).set 9 nilS).set 10 (vi .u16 0)).set 11 (vi .i64 0)).set 12 (vi .i64 1))) (by simp only [slot_len, hs]) (by simp only [go_sem, Nat.reduceLT, Nat.reduceEqDiff, reduceCtorEq, Int.reduceLT, Int.reduceEq, h0]) (by simp only [go_sem, Nat.reduceLT, Nat.reduceEqDiff, reduceCtorEq, Int.reduceLT, Int.reduceEq, h1]) (by simp only [go_sem, Nat.reduceLT, Nat.reduceEqDiff, reduceCtorEq, Int.reduceLT, Int.reduceEq, h2]) (by simp only [go_sem, Nat.reduceLT, Nat.reduceEqDiff, reduceCtorEq, Int.reduceLT, Int.reduceEq, hs]) (by simp only [go_sem, Nat.reduceLT, Nat.reduceEqDiff, reduceCtorEq, Int.reduceLT, Int.reduceEq, hs]) (by simp only [go_sem, Nat.reduceLT, Nat.reduceEqDiff, reduceCtorEq, Int.reduceLT, Int.reduceEq, hs])
  rw [XF_eq f43_4.eq_1, XF_seq2 rfl, XF_seq2 rfl, XF_seq2 rfl, XF_seq2 rfl, XF_seq1 rfl, XF_label] at k
  rw [X_eq f43_4.eq_1]
  simp only [go_sem, Nat.reduceLT, Nat.reduceEqDiff, reduceCtorEq, Int.reduceLT, Int.reduceEq, hs] at k ⊢
  exact k
end

theorem frL_len {epoch n of_ : Nat} : ∀ (m i : Nat) (ss : List (List UInt8)) (acc all : List UInt8), i < of_ → of_ ≤ m + i → frL epoch n of_ m i ss acc = some all → of_ - i ≤ ss.length
  | 0, i, ss, acc, all, h1, h2, h => by omega
  | m + 1, i, [], acc, all, h1, h2, h => by simp [frL] at h
  | m + 1, i, b :: r, acc, all, h1, h2, h => by
    simp only [frL] at h
    split at h
    · split at h
      · rename_i g
        have := frL_len m (i + 1) r _ all g (by omega) h
        rw [List.length_cons]; omega
      · rw [List.length_cons]; omega
    · cases h
theorem frL_first {epoch n of_ m i : Nat} {b : List UInt8} {r : List (List UInt8)} {acc all : List UInt8} (h : frL epoch n of_ (m + 1) i (b :: r) acc = some all) : stepOK epoch n i of_ b := by
  simp only [frL] at h
  split at h
  · rename_i g; exact g
  · cases h
theorem frL_nil {epoch n of_ m i : Nat} {acc : List UInt8} : frL epoch n of_ (m + 1) i [] acc = none := rfl
theorem frameF_len {epoch n : Nat} {ss : List (List UInt8)} : (frameF epoch n ss).2 ≤ ss.length := by
  unfold frameF
  split
  · simp
  · rename_i all ha
    split
    · unfold frameB at ha
      cases ss with
      | nil => rw [show (200 : Nat) = 199 + 1 from rfl, frL_nil] at ha; cases ha
      | cons b r =>
        have ho : 1 ≤ ofS (b :: r) ∧ ofS (b :: r) ≤ 200 := by
          have g := frL_first (m := 199) ha
          exact ⟨g.2.2.2.1, g.2.2.2.2.1⟩
        have := frL_len 200 0 (b :: r) [] all (by omega) (by omega) ha
        simpa using this
    · simp

/-! ### all frames -/
inductive FrE : List (List CV) → List (List (List CV)) → Prop
  | nil : FrE [] []
  | cons {c : CV} {b : List (List CV)} {l : List (List CV)} {k : List (List (List CV))} (h : SlV 3 b (.cv c)) (t : FrE l k) : FrE ([c] :: l) (b :: k)
theorem FrE.len {l : List (List CV)} {k : List (List (List CV))} (h : FrE l k) : l.length = k.length := by
  induction h with
  | nil => rfl
  | cons _ _ ih => simp [ih]
theorem FrE.app {l m : List (List CV)} {k j : List (List (List CV))} (h : FrE l k) (h2 : FrE m j) : FrE (l ++ m) (k ++ j) := by
  induction h with
  | nil => exact h2
  | cons h _ ih => exact .cons h ih
theorem FrE.get {l : List (List CV)} {k : List (List (List CV))} (h : FrE l k) {i : Nat} (hi : i < k.length) : ∃ c b, l[i]? = some [c] ∧ k[i]? = some b ∧ SlV 3 b (.cv c) := by
  induction h generalizing i with
  | nil => simp at hi
  | cons h t ih =>
    cases i with
    | zero => exact ⟨_, _, rfl, rfl, h⟩
    | succ i => obtain ⟨c, b, h1, h2, h3⟩ := ih (i := i) (by simpa using hi); exact ⟨c, b, by simpa using h1, by simpa using h2, h3⟩

def rdA (epoch : Nat) : Nat → Nat → List (List UInt8) → List (List (List CV)) × Nat
  | 0, _, _ => ([], 0)
  | m + 1, n, ss => if (frameF epoch n ss).2 = 0 then ([], 0) else ((frameF epoch n ss).1 :: (rdA epoch m (n + 1) (ss.drop (frameF epoch n ss).2)).1, (frameF epoch n ss).2 + (rdA epoch m (n + 1) (ss.drop (frameF epoch n ss).2)).2)
def readF (epoch : Int) (ss : List (List UInt8)) : List (List (List CV)) × Nat := if numOK epoch = true then rdA epoch.toNat (ss.length + 1) 0 ss else ([], 0)
/-- What Read tells. -/
def ReadP (r : List (List (List CV)) × Nat) (w : VV) : Prop := ∃ x els, w = .tup [x, vi .i64 (r.2 : Nat)] ∧ SlV 1 els x ∧ FrE els r.1

theorem drop_pg {els : List (List CV)} {k : List (List UInt8)} (h : PgE els k) (n : Nat) : PgE (els.drop n) (k.drop n) := by
  induction h generalizing n with
  | nil => simp; exact .nil
  | cons h t ih =>
    cases n with
    | zero => exact .cons h t
    | succ n => exact ih n

section
variable {epoch : Int} {ss : List (List UInt8)} {elsS : List (List CV)} {u : VV} {h0 : Heap}
theorem f23_loop (hP : PgE elsS ss) (hu : VF h0 1 elsS u) (hl : ss.length ≤ 1000000000) (he : numOK epoch = true) :
    ∀ (m n at_ : Nat) (acc : List (List (List CV))) (els : List (List CV)) (va : VV) (s : List VV) (h : Heap) (Q : Pst), ss.length - at_ < m → n ≤ at_ → at_ ≤ ss.length → acc.length = n → NB h0 h 1 els va → FrE els acc →
      s.length = 33 → s.getD 0 .undef = vi .i64 epoch → s.getD 1 .undef = u → s.getD 6 .undef = va → s.getD 7 .undef = vi .i64 at_ →
      (∀ s' h' els' va', s'.length = 33 → s'.getD 6 .undef = va' → s'.getD 7 .undef = vi .i64 ((at_ + (rdA epoch.toNat m n (ss.drop at_)).2 : Nat) : Int) → NB h0 h' 1 els' va' → FrE els' (acc ++ (rdA epoch.toNat m n (ss.drop at_)).1) → Q (.exit 0) ⟨s', h'⟩) → X F (.loop f23_1) ⟨s, h⟩ Q := by
  intro m
  have hpl := hP.len
  obtain ⟨ee, ee2⟩ := numOK_nat he
  induction m with
  | zero => intro n at_ acc els va s h Q hm; omega
  | succ m ih =>
    intro n at_ acc els va s h Q hm hn hat hac hB hF hs e0 e1 e6 e7 hQ
    obtain ⟨h42, n42⟩ := number_f42 epoch
    rw [he] at n42
    have hfl := hF.len
    obtain ⟨w, w1, w2⟩ := (hu.ext hB.ext).from_ (k := .i64) (n := at_) (by omega)
    obtain ⟨v43, h43, n43, x43, cw, rfl, P43⟩ := frame_f43 (epoch := epoch.toNat) (n := n) (drop_pg hP at_) w2
    have hfle := frameF_len (epoch := epoch.toNat) (n := n) (ss := ss.drop at_)
    rw [List.length_drop] at hfle
    have e0' : s.getD 0 .undef = vi .i64 ((epoch.toNat : Nat) : Int) := by rw [e0]; exact congrArg _ ee
    have hB43 := hB.then x43
    rw [X_loop, X_eq f23_1.eq_1]
    simp only [go_sem, Nat.reduceLT, Nat.reduceEqDiff, reduceCtorEq, Int.reduceLT, Int.reduceEq, hs, e0]
    refine XO_callP (h1 := h) (by simp only [List.map, go_sem, Nat.reduceLT, Nat.reduceEqDiff, reduceCtorEq, Int.reduceLT, Int.reduceEq, hs]; rfl) n42 rfl ?_
    simp only [go_sem, Nat.reduceLT, Nat.reduceEqDiff, reduceCtorEq, Int.reduceLT, Int.reduceEq, hs, e0', e1, e6, e7, hB.ln, hfl, hac, w1]
    refine XO_callR (by simp only [List.map, go_sem, Nat.reduceLT, Nat.reduceEqDiff, reduceCtorEq, Int.reduceLT, Int.reduceEq, hs]; exact n43) ?_
    simp only [go_sem, Nat.reduceLT, Nat.reduceEqDiff, reduceCtorEq, Int.reduceLT, Int.reduceEq, hs]
    rw [X_eq f23_0.eq_1]
    have hr : rdA epoch.toNat (m + 1) n (ss.drop at_) = if (frameF epoch.toNat n (ss.drop at_)).2 = 0 then ([], 0) else ((frameF epoch.toNat n (ss.drop at_)).1 :: (rdA epoch.toNat m (n + 1) ((ss.drop at_).drop (frameF epoch.toNat n (ss.drop at_)).2)).1, (frameF epoch.toNat n (ss.drop at_)).2 + (rdA epoch.toNat m (n + 1) ((ss.drop at_).drop (frameF epoch.toNat n (ss.drop at_)).2)).2) := rfl
    rw [hr] at hQ
    generalize frameF epoch.toNat n (ss.drop at_) = fr at *
    by_cases d : fr.2 = 0
    · have d' : ((fr.2 : Nat) : Int) = 0 := by omega
      rw [if_pos d] at hQ
      simp only [go_sem, Nat.reduceLT, Nat.reduceEqDiff, reduceCtorEq, Int.reduceLT, Int.reduceEq, hs, d']
      refine hQ _ _ els va (by simp only [slot_len, hs]) (by simp only [go_sem, Nat.reduceLT, Nat.reduceEqDiff, reduceCtorEq, Int.reduceLT, Int.reduceEq, e6]) (by simp only [go_sem, Nat.reduceLT, Nat.reduceEqDiff, reduceCtorEq, Int.reduceLT, Int.reduceEq, e7]; rfl) hB43 (by simpa using hF)
    · have d' : ¬ ((fr.2 : Nat) : Int) = 0 := by omega
      rw [if_neg d] at hQ
      obtain ⟨cx, rfl⟩ : ∃ c2, cw = .cv c2 := by rcases P43 with ⟨rfl, _⟩ | ⟨ex, rfl⟩ <;> exact ⟨_, rfl⟩
      have m1 : ∀ h : Heap, mkO h 1 1 [.cv (.sc (.slice none 0 0))] [(0, 1, .cv cx)] = some (.cv (.sl 1 [[cx]] true), h) := fun _ => rfl
      have hwr : IntKind.i64.wrap ((at_ : Int) + (fr.2 : Int)) = ((at_ + fr.2 : Nat) : Int) := by rw [IntWalk.i64_in _ (by omega)]; omega
      simp only [go_sem, Nat.reduceLT, Nat.reduceEqDiff, reduceCtorEq, Int.reduceLT, Int.reduceEq, hs, d', e6, m1]
      refine XO_appNB hB43 (new := [[cx]]) (by simp only [go_sem, Nat.reduceLT, Nat.reduceEqDiff, reduceCtorEq, Int.reduceLT, Int.reduceEq, hs, e6]) (by simp only [go_sem, Nat.reduceLT, Nat.reduceEqDiff, reduceCtorEq, Int.reduceLT, Int.reduceEq, hs]) (by simp only [List.length_singleton]; omega) (by simp only [List.length_singleton]; omega) (fun v' h' hB' _ _ _ => ?_)
      simp only [go_sem, Nat.reduceLT, Nat.reduceEqDiff, reduceCtorEq, Int.reduceLT, Int.reduceEq, hs, e7, hwr]
      refine ih (n + 1) (at_ + fr.2) (acc ++ [fr.1]) _ v' _ _ Q (by omega) (by omega) (by omega) (by simp; omega) hB' (hF.app (.cons P43 .nil)) (by simp only [slot_len, hs]) (by simp only [go_sem, Nat.reduceLT, Nat.reduceEqDiff, reduceCtorEq, Int.reduceLT, Int.reduceEq, e0]) (by simp only [go_sem, Nat.reduceLT, Nat.reduceEqDiff, reduceCtorEq, Int.reduceLT, Int.reduceEq, e1]) (by simp only [go_sem, Nat.reduceLT, Nat.reduceEqDiff, reduceCtorEq, Int.reduceLT, Int.reduceEq, hs]) (by simp only [go_sem, Nat.reduceLT, Nat.reduceEqDiff, reduceCtorEq, Int.reduceLT, Int.reduceEq, hs]) (fun s' h2 els' va' a1 a2 a3 a4 a5 => hQ s' h2 els' va' a1 a2 ?_ a4 ?_)
      · rw [a3, List.drop_drop, Nat.add_assoc]
      · rw [List.append_assoc] at a5
        rw [List.drop_drop]; exact a5

theorem read_f23 (hP : PgE elsS ss) (hu : VF h0 1 elsS u) (hl : ss.length ≤ 1000000000) (epoch : Int) : Ret F 23 [vi .i64 epoch, u] h0 fun v g => ∃ va els, v = .tup [va, vi .i64 ((readF epoch ss).2 : Nat)] ∧ NB h0 g 1 els va ∧ FrE els (readF epoch ss).1 := by
  refine call_E (fn := f23) rfl ?_
  simp only [f23]
  generalize hs0 : ([vi .i64 epoch, u] ++ List.replicate _ VV.undef : List VV) = s
  have hs : s.length = 33 := by rw [← hs0]; rfl
  have h0 : s.getD 0 .undef = vi .i64 epoch := by rw [← hs0]; rfl
  have h1 : s.getD 1 .undef = u := by rw [← hs0]; rfl
  clear hs0
  simp only [go_sem, Nat.reduceLT, Nat.reduceEqDiff, reduceCtorEq, Int.reduceLT, Int.reduceEq, hs]
  by_cases he : numOK epoch = true
  · have hr : readF epoch ss = rdA epoch.toNat (ss.length + 1) 0 ss := by unfold readF; rw [if_pos he]
    rw [hr]
    refine f23_loop hP hu hl he (ss.length + 1) 0 0 [] [] nilS _ _ _ (by omega) (by omega) (by omega) rfl (NB.nil _ _) .nil (by simp only [slot_len, hs]) (by simp only [go_sem, Nat.reduceLT, Nat.reduceEqDiff, reduceCtorEq, Int.reduceLT, Int.reduceEq, h0]) (by simp only [go_sem, Nat.reduceLT, Nat.reduceEqDiff, reduceCtorEq, Int.reduceLT, Int.reduceEq, h1]) (by simp only [go_sem, Nat.reduceLT, Nat.reduceEqDiff, reduceCtorEq, Int.reduceLT, Int.reduceEq, hs]) (by simp only [go_sem, Nat.reduceLT, Nat.reduceEqDiff, reduceCtorEq, Int.reduceLT, Int.reduceEq, hs]; rfl) (fun s' h' els' va' a1 a2 a3 a4 a5 => ?_)
    rw [List.drop_zero] at a3 a5
    rw [Nat.zero_add] at a3
    simp only [go_sem, Nat.reduceLT, Nat.reduceEqDiff, reduceCtorEq, Int.reduceLT, Int.reduceEq, a1, a2, a3]
    exact ⟨va', els', rfl, a4, by simpa using a5⟩
  · have he' : numOK epoch = false := by simpa using he
    have hr : readF epoch ss = ([], 0) := by unfold readF; rw [if_neg he]
    obtain ⟨h42, n42⟩ := number_f42 epoch
    rw [he'] at n42
    rw [hr]
    rw [X_loop, X_eq f23_1.eq_1]
    simp only [go_sem, Nat.reduceLT, Nat.reduceEqDiff, reduceCtorEq, Int.reduceLT, Int.reduceEq, hs, h0]
    refine XO_callP (by simp only [List.map, go_sem, Nat.reduceLT, Nat.reduceEqDiff, reduceCtorEq, Int.reduceLT, Int.reduceEq, hs]; rfl) n42 rfl ?_
    simp only [go_sem, Nat.reduceLT, Nat.reduceEqDiff, reduceCtorEq, Int.reduceLT, Int.reduceEq, hs]
    exact ⟨nilS, [], rfl, NB.nil _ _, .nil⟩
theorem read_pure (hP : PgE elsS ss) (hu : SlV 1 elsS u) (hl : ss.length ≤ 1000000000) (epoch : Int) : RetP F 23 [vi .i64 epoch, u] (ReadP (readF epoch ss)) := by
  obtain ⟨v, g, n1, va, els, rfl, B, E⟩ := read_f23 (h0 := []) hP hu.vf hl epoch
  obtain ⟨w, g1, c1, c2⟩ := B.clos
  exact ⟨_, g, n1, .tup [w, vi .i64 ((readF epoch ss).2 : Nat)], by simp only [closRes, closAs_cons c1 (clos_cv clos_nil), Option.map], w, els, rfl, c2, E⟩
end
end Go.V07

set_option linter.unusedSimpArgs false
set_option linter.unusedVariables false
namespace Go.V07
open Go Go.Vm

theorem partB_of {epoch n i of_ : Nat} {p : List UInt8} : ofOf (partB epoch n i of_ p) = of_ % 256 := by
  simp [ofOf, partB, partR, sealB, wd, u8]
theorem step_of {epoch n i of_ : Nat} {b : List UInt8} (h : stepOK epoch n i of_ b) : ofOf b = of_ := by
  have h1 := h.2.2.2.2.1
  have h2 := h.2.2.2.2.2.2
  rw [← h2, partB_of]; omega

/-- What a piece's reading tells. -/
def PieceP (epoch n i of_ : Nat) (b : List UInt8) (w : VV) : Prop :=
  if stepOK epoch n i of_ b then ∃ x, w = .tup [x, vi .i64 of_, vb true] ∧ SlV 1 (eB (bodyOf b)) x else w = .tup [nilS, vi .i64 0, vb false]

theorem body_sl {b : List UInt8} {cb : CV} (hc : SlV 1 (eB b) (.cv cb)) (hl : b.length = 64) (hk : kOf b ≤ 49) : ∃ v', SlV 1 (eB (bodyOf b)) v' ∧ ∀ g : Heap, slO g 1 (.cv cb) (some (vi .i64 11)) (some (vi .i64 ((11 + kOf b : Nat) : Int))) none = some (v', g) := by
  rcases hc with ⟨e, e'⟩ | ⟨ex, e'⟩
  · exfalso
    have := congrArg List.length e'
    rw [eB_len, List.length_nil] at this; omega
  · cases e'
    refine ⟨.cv (.sl 1 (eB (bodyOf b)) (ex && (11 + kOf b == (eB b).length))), .inr ⟨_, rfl⟩, fun g => ?_⟩
    have e1 : (11 : Int) ≤ ((11 + kOf b : Nat) : Int) := by omega
    have e2 : ((11 + kOf b : Nat) : Int) ≤ ((eB b).length : Int) := by rw [eB_len]; omega
    have e3 : ((11 + kOf b : Nat) : Int).toNat = 11 + kOf b := by omega
    have e4 : (0 : Int) ≤ ((11 + kOf b : Nat) : Int) := by omega
    simp only [slO, stepI, rhoO, lenV, bnd, intV, Option.map_some, Option.map_none]
    rw [if_pos ⟨e4, e2⟩, e3]
    simp only
    rw [if_pos ⟨by decide, e1⟩]
    simp [eB_part, bodyOf]

theorem rpiece_f66 {b : List UInt8} {cb : CV} (hc : SlV 1 (eB b) (.cv cb)) {epoch n i o of_ : Nat} (he : epoch < 9223372036854775808) (hn : n < 9223372036854775808) (hi : i ≤ 1000000) (h0 : o = 0 → of_ = ofOf b) (h1 : o ≠ 0 → o = of_) (ho : o ≤ 1000000) :
    RetP F 66 [.cv cb, vi .i64 epoch, vi .i64 n, vi .i64 i, vi .i64 o] (PieceP epoch n i of_ b) := by
  have h0' := h0; have h1' := h1
  clear h0 h1
  have : Ret F 66 [.cv cb, vi .i64 epoch, vi .i64 n, vi .i64 i, vi .i64 o] [] fun v g => ∃ w, closRes g v = some w ∧ PieceP epoch n i of_ b w := by
    refine call_E (fn := f66) rfl ?_
    simp only [f66]
    generalize hs0 : ([.cv cb, vi .i64 epoch, vi .i64 n, vi .i64 i, vi .i64 o] ++ List.replicate _ VV.undef : List VV) = s
    have hs : s.length = 87 := by rw [← hs0]; rfl
    have h0 : s.getD 0 .undef = .cv cb := by rw [← hs0]; rfl
    have h1 : s.getD 1 .undef = vi .i64 epoch := by rw [← hs0]; rfl
    have h2 : s.getD 2 .undef = vi .i64 n := by rw [← hs0]; rfl
    have h3 : s.getD 3 .undef = vi .i64 i := by rw [← hs0]; rfl
    have h4 : s.getD 4 .undef = vi .i64 o := by rw [← hs0]; rfl
    clear hs0
    have bad : ∀ g, ¬ stepOK epoch n i of_ b → ∃ w, closRes g (.tup [nilS, vi .i64 0, vb false]) = some w ∧ PieceP epoch n i of_ b w := fun g hn => ⟨_, rfl, by unfold PieceP; rw [if_neg hn]⟩
    simp only [go_sem, Nat.reduceLT, Nat.reduceEqDiff, reduceCtorEq, Int.reduceLT, Int.reduceEq, hs]
    rw [X_eq f66_0.eq_1]
    by_cases d1 : b.length = 64
    · have d1' : ¬ ((b.length : Nat) : Int) ≠ 64 := by omega
      have i10 : ∀ g : Heap, iaO g 1 (.cv cb) (vi .i64 10) = some (.rptr (byteCell (b.getD 10 0)), g) := fun g => hc.ia (by omega) (by show (eB b)[10]? = _; exact eB_get (get_u8 (by omega)))
      have i9 : ∀ g : Heap, iaO g 1 (.cv cb) (vi .i64 9) = some (.rptr (byteCell (b.getD 9 0)), g) := fun g => hc.ia (by omega) (by show (eB b)[9]? = _; exact eB_get (get_u8 (by omega)))
      have k10 : ∀ g : Heap, ldO g false 1 (.rptr (byteCell (b.getD 10 0))) = some (vi .u8 (kOf b), g) := fun g => ld_rptr
      have k9 : ∀ g : Heap, ldO g false 1 (.rptr (byteCell (b.getD 9 0))) = some (vi .u8 (ofOf b), g) := fun g => ld_rptr
      have hk256 : kOf b < 256 := (b.getD 10 0).toNat_lt
      have ho256 : ofOf b < 256 := (b.getD 9 0).toNat_lt
      have wk : IntKind.i64.wrap (kOf b : Int) = (kOf b : Int) := IntWalk.i64_in _ (by omega)
      have wo : IntKind.i64.wrap (ofOf b : Int) = (ofOf b : Int) := IntWalk.i64_in _ (by omega)
      by_cases g1 : (kOf b : Int) < 1
      · simp only [go_sem, Nat.reduceLT, Nat.reduceEqDiff, reduceCtorEq, Int.reduceLT, Int.reduceEq, hs, h0, hc.ln, eB_len, d1', i10, k10, g1]
        exact bad _ (fun hh => by have := hh.2.1; omega)
      by_cases g2 : (49 : Int) < (kOf b : Int)
      · simp only [go_sem, Nat.reduceLT, Nat.reduceEqDiff, reduceCtorEq, Int.reduceLT, Int.reduceEq, hs, h0, hc.ln, eB_len, d1', i10, k10, g1, gt_iff_lt, g2]
        exact bad _ (fun hh => by have := hh.2.2.1; omega)
      by_cases g3 : (ofOf b : Int) < 1
      · simp only [go_sem, Nat.reduceLT, Nat.reduceEqDiff, reduceCtorEq, Int.reduceLT, Int.reduceEq, hs, h0, hc.ln, eB_len, d1', i10, k10, i9, k9, g1, gt_iff_lt, g2, g3]
        exact bad _ (fun hh => by have := step_of hh; have := hh.2.2.2.1; omega)
      by_cases g4 : (200 : Int) < (ofOf b : Int)
      · simp only [go_sem, Nat.reduceLT, Nat.reduceEqDiff, reduceCtorEq, Int.reduceLT, Int.reduceEq, hs, h0, hc.ln, eB_len, d1', i10, k10, i9, k9, g1, gt_iff_lt, g2, g3, g4]
        exact bad _ (fun hh => by have := step_of hh; have := hh.2.2.2.2.1; omega)
      have w11 : IntKind.i64.wrap (11 + (kOf b : Int)) = ((11 + kOf b : Nat) : Int) := by rw [IntWalk.i64_in _ (by omega)]; omega
      obtain ⟨wp, sp, psl⟩ := body_sl hc d1 (by omega)
      have hbl := body_len d1 (by omega)
      obtain ⟨v49, h49, n49, w49, r49, S49⟩ := rpart_f49 (epoch := epoch) (n := n) (i := i) (of_ := ofOf b) sp (by rw [hbl]; omega) he hn
      have wof : IntKind.i64.wrap ((ofOf b : Int) - 1) = (ofOf b : Int) - 1 := IntWalk.i64_in _ (by omega)
      -- behind the first test
      have fin : ofOf b = of_ → ∀ s1 : List VV, s1.length = 87 → s1.getD 0 .undef = .cv cb → s1.getD 1 .undef = vi .i64 epoch → s1.getD 2 .undef = vi .i64 n → s1.getD 3 .undef = vi .i64 i → s1.getD 4 .undef = vi .i64 (ofOf b) → s1.getD 13 .undef = wp →
          X F f66_1 ⟨s1, []⟩ (K F (.seq (.reg [⟨none, (some 85), (.mv (.t 13))⟩, ⟨none, (some 86), (.mv (.t 4))⟩, ⟨none, (some 10), (.mv (.t 85))⟩, ⟨none, (some 11), (.mv (.t 86))⟩, ⟨none, (some 12), (.mv (.c (.cv (.sc (.bool true)))))⟩]) .ret) (RQ [.t 10, .t 11, .t 12] fun v g => ∃ w, closRes g v = some w ∧ PieceP epoch n i of_ b w)) := by
        intro eo s1 hs1 p0 p1 p2 p3 p4 p13
        rw [X_eq f66_1.eq_1]
        simp only [go_sem, Nat.reduceLT, Nat.reduceEqDiff, reduceCtorEq, Int.reduceLT, Int.reduceEq, hs1]
        refine X_draw rfl ?_
        simp only [go_sem, Nat.reduceLT, Nat.reduceEqDiff, reduceCtorEq, Int.reduceLT, Int.reduceEq, hs1, p0, p1, p2, p3, p4, p13]
        refine XD_callP (by simp only [List.map, go_sem, Nat.reduceLT, Nat.reduceEqDiff, reduceCtorEq, Int.reduceLT, Int.reduceEq, hs1]; exact clos_cv (clos_cv (clos_cv (clos_cv (sp.clos rfl))))) n49 r49 ?_
        by_cases g6 : partB epoch n i (ofOf b) (bodyOf b) = b
        · have g6' : ¬ partB epoch n i (ofOf b) (bodyOf b) ≠ b := fun e => e g6
          by_cases g7 : (i : Int) < (ofOf b : Int) - 1
          · by_cases g8 : (kOf b : Int) = 49
            · have g8' : ¬ (kOf b : Int) ≠ 49 := fun e => e g8
              have ok : stepOK epoch n i of_ b := ⟨d1, by omega, by omega, by omega, by omega, .inr (by omega), by rw [← eo]; exact g6⟩
              simp only [go_sem, Nat.reduceLT, Nat.reduceEqDiff, reduceCtorEq, Int.reduceLT, Int.reduceEq, hs1, p0, p1, p2, p3, p4, p13, S49.bs, hc.bs, g6', wof, g7, sp.ln, eB_len, hbl, g8']
              refine ⟨.tup [wp, vi .i64 (ofOf b), vb true], ?_, ?_⟩
              · rcases sp with ⟨rfl, _⟩ | ⟨ex, rfl⟩ <;> rfl
              · unfold PieceP; rw [if_pos ok]; exact ⟨wp, by rw [eo], sp⟩
            · have g8' : (kOf b : Int) ≠ 49 := g8
              simp only [go_sem, Nat.reduceLT, Nat.reduceEqDiff, reduceCtorEq, Int.reduceLT, Int.reduceEq, hs1, p0, p1, p2, p3, p4, p13, S49.bs, hc.bs, g6', wof, g7, sp.ln, eB_len, hbl, g8']
              exact bad _ (fun hh => by have := hh.2.2.2.2.2.1; omega)
          · have ok : stepOK epoch n i of_ b := ⟨d1, by omega, by omega, by omega, by omega, .inl (by omega), by rw [← eo]; exact g6⟩
            simp only [go_sem, Nat.reduceLT, Nat.reduceEqDiff, reduceCtorEq, Int.reduceLT, Int.reduceEq, hs1, p0, p1, p2, p3, p4, p13, S49.bs, hc.bs, g6', wof, g7]
            refine ⟨.tup [wp, vi .i64 (ofOf b), vb true], ?_, ?_⟩
            · rcases sp with ⟨rfl, _⟩ | ⟨ex, rfl⟩ <;> rfl
            · unfold PieceP; rw [if_pos ok]; exact ⟨wp, by rw [eo], sp⟩
        · have g6' : partB epoch n i (ofOf b) (bodyOf b) ≠ b := g6
          simp only [go_sem, Nat.reduceLT, Nat.reduceEqDiff, reduceCtorEq, Int.reduceLT, Int.reduceEq, hs1, p0, p1, p2, p3, p4, p13, S49.bs, hc.bs, g6']
          exact bad _ (fun hh => g6 (by rw [eo]; exact hh.2.2.2.2.2.2))
      by_cases g5 : (0 : Int) < (o : Int)
      · have e1 := h1' (by omega)
        by_cases g6 : (ofOf b : Int) = (o : Int)
        · have g6' : ¬ (ofOf b : Int) ≠ (o : Int) := fun e => e g6
          simp only [go_sem, Nat.reduceLT, Nat.reduceEqDiff, reduceCtorEq, Int.reduceLT, Int.reduceEq, hs, h0, h4, hc.ln, eB_len, d1', i10, k10, i9, k9, g1, gt_iff_lt, g2, g3, g4, wo, g5, g6', wk, w11, psl]
          exact fin (by omega) _ (by simp only [slot_len, hs]) (by simp only [go_sem, Nat.reduceLT, Nat.reduceEqDiff, reduceCtorEq, Int.reduceLT, Int.reduceEq, h0]) (by simp only [go_sem, Nat.reduceLT, Nat.reduceEqDiff, reduceCtorEq, Int.reduceLT, Int.reduceEq, h1]) (by simp only [go_sem, Nat.reduceLT, Nat.reduceEqDiff, reduceCtorEq, Int.reduceLT, Int.reduceEq, h2]) (by simp only [go_sem, Nat.reduceLT, Nat.reduceEqDiff, reduceCtorEq, Int.reduceLT, Int.reduceEq, h3]) (by simp only [go_sem, Nat.reduceLT, Nat.reduceEqDiff, reduceCtorEq, Int.reduceLT, Int.reduceEq, hs]) (by simp only [go_sem, Nat.reduceLT, Nat.reduceEqDiff, reduceCtorEq, Int.reduceLT, Int.reduceEq, hs])
        · have g6' : (ofOf b : Int) ≠ (o : Int) := g6
          simp only [go_sem, Nat.reduceLT, Nat.reduceEqDiff, reduceCtorEq, Int.reduceLT, Int.reduceEq, hs, h0, h4, hc.ln, eB_len, d1', i10, k10, i9, k9, g1, gt_iff_lt, g2, g3, g4, wo, g5, g6']
          exact bad _ (fun hh => by have := step_of hh; omega)
      · have e0 := h0' (by omega)
        simp only [go_sem, Nat.reduceLT, Nat.reduceEqDiff, reduceCtorEq, Int.reduceLT, Int.reduceEq, hs, h0, h4, hc.ln, eB_len, d1', i10, k10, i9, k9, g1, gt_iff_lt, g2, g3, g4, wo, g5, wk, w11, psl]
        exact fin (by omega) _ (by simp only [slot_len, hs]) (by simp only [go_sem, Nat.reduceLT, Nat.reduceEqDiff, reduceCtorEq, Int.reduceLT, Int.reduceEq, h0]) (by simp only [go_sem, Nat.reduceLT, Nat.reduceEqDiff, reduceCtorEq, Int.reduceLT, Int.reduceEq, h1]) (by simp only [go_sem, Nat.reduceLT, Nat.reduceEqDiff, reduceCtorEq, Int.reduceLT, Int.reduceEq, h2]) (by simp only [go_sem, Nat.reduceLT, Nat.reduceEqDiff, reduceCtorEq, Int.reduceLT, Int.reduceEq, h3]) (by simp only [go_sem, Nat.reduceLT, Nat.reduceEqDiff, reduceCtorEq, Int.reduceLT, Int.reduceEq, hs]) (by simp only [go_sem, Nat.reduceLT, Nat.reduceEqDiff, reduceCtorEq, Int.reduceLT, Int.reduceEq, hs])
    · have d1' : ((b.length : Nat) : Int) ≠ 64 := by omega
      simp only [go_sem, Nat.reduceLT, Nat.reduceEqDiff, reduceCtorEq, Int.reduceLT, Int.reduceEq, hs, h0, hc.ln, eB_len, d1']
      exact bad _ (fun hh => d1 hh.1)
  obtain ⟨v, g, n1, w, e1, e2⟩ := this
  exact ⟨v, g, n1, w, e1, e2⟩
end Go.V07

set_option linter.unusedSimpArgs false
set_option linter.unusedVariables false
namespace Go.V07
open Go Go.Vm

section
variable {epoch n : Nat} {ss : List (List UInt8)} {elsS : List (List CV)} {u : VV}
theorem f50_loop (hP : PgE elsS ss) (hu : SlV 1 elsS u) (he : epoch < 9223372036854775808) (hn : n < 9223372036854775808) {of_ : Nat} (hof : ∀ b, ss[0]? = some b → of_ = ofOf b) :
    ∀ (m i : Nat) (acc : List UInt8) (va : VV) (s : List VV) (h : Heap) (Q : Pst), m + i = 200 → (i = 0 ∨ (i < of_ ∧ of_ ≤ 200)) → i ≤ ss.length → acc.length ≤ 49 * i → NB [] h 1 (eB acc) va →
      s.length = 57 → s.getD 0 .undef = vi .i64 epoch → s.getD 1 .undef = vi .i64 n → s.getD 2 .undef = u → s.getD 8 .undef = va → s.getD 10 .undef = vi .i64 i → (i = 0 ∧ s.getD 9 .undef = vi .i64 0 ∨ i ≠ 0 ∧ s.getD 9 .undef = vi .i64 of_) →
      (frL epoch n of_ m i (ss.drop i) acc = none → ∀ s' h', s'.length = 57 → s'.getD 6 .undef = nilS → s'.getD 7 .undef = vi .i64 0 → Q .ret ⟨s', h'⟩) →
      (∀ all, frL epoch n of_ m i (ss.drop i) acc = some all → ∀ s' h' va', s'.length = 57 → s'.getD 8 .undef = va' → s'.getD 9 .undef = vi .i64 of_ → NB [] h' 1 (eB all) va' → all.length ≤ 10000 → Q (.exit 0) ⟨s', h'⟩) → X F (.loop f50_2) ⟨s, h⟩ Q := by
  intro m
  have hpl := hP.len
  induction m with
  | zero => intro i acc va s h Q hm hio; omega
  | succ m ih =>
    intro i acc va s h Q hm hio hile hac hB hs e0 e1 e2 e8 e10 e9 hN hY
    -- the loop's test holds
    have body : ∀ (s1 : List VV), s1.length = 57 → s1.getD 0 .undef = vi .i64 epoch → s1.getD 1 .undef = vi .i64 n → s1.getD 2 .undef = u → s1.getD 8 .undef = va → s1.getD 10 .undef = vi .i64 i → (i = 0 ∧ s1.getD 9 .undef = vi .i64 0 ∨ i ≠ 0 ∧ s1.getD 9 .undef = vi .i64 of_) →
        X F f50_0 ⟨s1, h⟩ (K F (.seq (.reg [⟨none, (some 30), (.mv (.t 2))⟩, ⟨none, (some 31), (.mv (.t 10))⟩, ⟨none, (some 32), (.iadL 1 (.t 30) (.t 31))⟩, ⟨none, (some 33), (.ld false 1 (.t 32))⟩, ⟨none, (some 34), (.mv (.t 0))⟩, ⟨none, (some 35), (.mv (.t 1))⟩, ⟨none, (some 36), (.mv (.t 10))⟩, ⟨none, (some 37), (.mv (.t 9))⟩, ⟨none, (some 38), (.call 66 true [(.t 33), (.t 34), (.t 35), (.t 36), (.t 37)])⟩, ⟨none, (some 29), (.mv (.t 38))⟩, ⟨none, (some 39), (.ext (.t 29) 0)⟩, ⟨none, (some 40), (.ext (.t 29) 1)⟩, ⟨none, (some 41), (.ext (.t 29) 2)⟩, ⟨none, (some 11), (.mv (.t 39))⟩, ⟨none, (some 12), (.mv (.t 40))⟩, ⟨none, (some 13), (.mv (.t 41))⟩])
            (.seq f50_1 (.seq (.reg [⟨none, (some 44), (.mv (.t 12))⟩, ⟨none, (some 9), (.mv (.t 44))⟩]) (.reg [⟨none, (some 45), (.mv (.t 8))⟩, ⟨none, (some 46), (.mv (.t 11))⟩, ⟨none, (some 47), (.app 1 1 [(.sc (.int .u8 0))] (.t 45) (.t 46))⟩, ⟨none, (some 8), (.mv (.t 47))⟩])))) (B 1 (K F (.reg [⟨none, (some 23), (.mv (.t 10))⟩, ⟨none, (some 24), (.bin .add (.t 23) (.c (.cv (.sc (.int .i64 1)))))⟩, ⟨none, (some 10), (.mv (.t 24))⟩]) (K F (.loop f50_2) Q)))) := by
      intro s1 hs1 e0 e1 e2 e8 e10 e9
      rw [X_eq f50_0.eq_1]
      by_cases d0 : i = ss.length
      · have d0' : (i : Int) = (elsS.length : Int) := by omega
        simp only [go_sem, Nat.reduceLT, Nat.reduceEqDiff, reduceCtorEq, Int.reduceLT, Int.reduceEq, hs1, e10, e2, hu.ln, d0']
        exact hN (by rw [d0, List.drop_length]; rfl) _ _ (by simp only [slot_len, hs1]) (by simp only [go_sem, Nat.reduceLT, Nat.reduceEqDiff, reduceCtorEq, Int.reduceLT, Int.reduceEq, hs1]) (by simp only [go_sem, Nat.reduceLT, Nat.reduceEqDiff, reduceCtorEq, Int.reduceLT, Int.reduceEq, hs1])
      have d0' : ¬ (i : Int) = (elsS.length : Int) := by omega
      obtain ⟨cb, b, hel, hb, hc⟩ := hP.get (i := i) (by omega)
      have hd : ss.drop i = b :: ss.drop (i + 1) := by
        obtain ⟨la, e⟩ := List.getElem?_eq_some_iff.1 hb
        rw [List.drop_eq_getElem_cons la, e]
      have ia : iaO h 1 u (vi .i64 (i : Int)) = some (.rptr [cb], h) := hu.ia (by omega) (by rw [Int.toNat_natCast]; exact hel)
      have la : ldO h false 1 (.rptr [cb]) = some (.cv cb, h) := ld_rptr
      obtain ⟨o, ho9, ho0, ho1, hole⟩ : ∃ o, s1.getD 9 .undef = vi .i64 ((o : Nat) : Int) ∧ (o = 0 → of_ = ofOf b) ∧ (o ≠ 0 → o = of_) ∧ o ≤ 1000000 := by
        rcases e9 with ⟨z, e⟩ | ⟨z, e⟩
        · exact ⟨0, e, fun _ => hof b (by rw [← z]; exact hb), fun hh => absurd rfl hh, by omega⟩
        · refine ⟨of_, e, fun hh => ?_, fun _ => rfl, by omega⟩
          rcases hio with h | h
          · exact absurd h z
          · omega
      obtain ⟨v66, h66, n66, w66, r66, P66⟩ := rpiece_f66 hc he hn (i := i) (by omega) ho0 ho1 hole
      simp only [go_sem, Nat.reduceLT, Nat.reduceEqDiff, reduceCtorEq, Int.reduceLT, Int.reduceEq, hs1, e10, e2, hu.ln, d0', ia, la, e0, e1, ho9]
      refine XO_callP (h1 := h) (by simp only [List.map, go_sem, Nat.reduceLT, Nat.reduceEqDiff, reduceCtorEq, Int.reduceLT, Int.reduceEq, hs1]; exact clos_cv (clos_cv (clos_cv (clos_cv (clos_cv clos_nil))))) n66 r66 ?_
      by_cases ok : stepOK epoch n i of_ b
      · unfold PieceP at P66
        rw [if_pos ok] at P66
        obtain ⟨x, rfl, sx⟩ := P66
        have hbl := body_len ok.1 ok.2.2.1
        have k49 := ok.2.2.1
        have of200 := ok.2.2.2.2.1
        have hfr : frL epoch n of_ (m + 1) i (ss.drop i) acc = if i + 1 < of_ then frL epoch n of_ m (i + 1) (ss.drop (i + 1)) (acc ++ bodyOf b) else some (acc ++ bodyOf b) := by
          rw [hd]; simp only [frL]; rw [if_pos ok]
        rw [hfr] at hN hY
        have wi1 : IntKind.i64.wrap ((i : Int) + 1) = ((i + 1 : Nat) : Int) := by rw [IntWalk.i64_in _ (by omega)]; omega
        simp only [go_sem, Nat.reduceLT, Nat.reduceEqDiff, reduceCtorEq, Int.reduceLT, Int.reduceEq, hs1]
        rw [X_eq f50_1.eq_1]
        simp only [go_sem, Nat.reduceLT, Nat.reduceEqDiff, reduceCtorEq, Int.reduceLT, Int.reduceEq, hs1, e8]
        refine XO_appNB hB (new := eB (bodyOf b)) (by simp only [go_sem, Nat.reduceLT, Nat.reduceEqDiff, reduceCtorEq, Int.reduceLT, Int.reduceEq, hs1]) (by simp only [go_sem, Nat.reduceLT, Nat.reduceEqDiff, reduceCtorEq, Int.reduceLT, Int.reduceEq, hs1]; exact sx.src) (by rw [eB_len, eB_len]; omega) (by rw [eB_len, eB_len]; omega) (fun v' h' hB' _ _ _ => ?_)
        rw [← eB_append] at hB'
        simp only [go_sem, Nat.reduceLT, Nat.reduceEqDiff, reduceCtorEq, Int.reduceLT, Int.reduceEq, hs1, e10, wi1]
        by_cases g6 : i + 1 < of_
        · rw [if_pos g6] at hN hY
          exact ih (i + 1) (acc ++ bodyOf b) v' _ _ Q (by omega) (.inr ⟨g6, by omega⟩) (by omega) (by rw [List.length_append]; omega) hB' (by simp only [slot_len, hs1]) (by simp only [go_sem, Nat.reduceLT, Nat.reduceEqDiff, reduceCtorEq, Int.reduceLT, Int.reduceEq, e0]) (by simp only [go_sem, Nat.reduceLT, Nat.reduceEqDiff, reduceCtorEq, Int.reduceLT, Int.reduceEq, e1]) (by simp only [go_sem, Nat.reduceLT, Nat.reduceEqDiff, reduceCtorEq, Int.reduceLT, Int.reduceEq, e2]) (by simp only [go_sem, Nat.reduceLT, Nat.reduceEqDiff, reduceCtorEq, Int.reduceLT, Int.reduceEq, hs1]) (by simp only [go_sem, Nat.reduceLT, Nat.reduceEqDiff, reduceCtorEq, Int.reduceLT, Int.reduceEq, hs1]) (.inr ⟨by omega, by simp only [go_sem, Nat.reduceLT, Nat.reduceEqDiff, reduceCtorEq, Int.reduceLT, Int.reduceEq, hs1]⟩) hN hY
        · rw [if_neg g6] at hN hY
          have g6' : ¬ ((i + 1 : Nat) : Int) < (of_ : Int) := by omega
          have g7' : ¬ ((i + 1 : Nat) : Int) = 0 := by omega
          rw [X_loop, X_eq f50_2.eq_1]
          simp only [go_sem, Nat.reduceLT, Nat.reduceEqDiff, reduceCtorEq, Int.reduceLT, Int.reduceEq, hs1, g6', g7']
          exact hY _ rfl _ _ v' (by simp only [slot_len, hs1]) (by simp only [go_sem, Nat.reduceLT, Nat.reduceEqDiff, reduceCtorEq, Int.reduceLT, Int.reduceEq, hs1]) (by simp only [go_sem, Nat.reduceLT, Nat.reduceEqDiff, reduceCtorEq, Int.reduceLT, Int.reduceEq, hs1]) hB' (by rw [List.length_append]; omega)
      · unfold PieceP at P66
        rw [if_neg ok] at P66
        subst P66
        simp only [go_sem, Nat.reduceLT, Nat.reduceEqDiff, reduceCtorEq, Int.reduceLT, Int.reduceEq, hs1]
        rw [X_eq f50_1.eq_1]
        simp only [go_sem, Nat.reduceLT, Nat.reduceEqDiff, reduceCtorEq, Int.reduceLT, Int.reduceEq, hs1]
        exact hN (by rw [hd]; simp only [frL]; rw [if_neg ok]) _ _ (by simp only [slot_len, hs1]) (by simp only [go_sem, Nat.reduceLT, Nat.reduceEqDiff, reduceCtorEq, Int.reduceLT, Int.reduceEq, hs1]) (by simp only [go_sem, Nat.reduceLT, Nat.reduceEqDiff, reduceCtorEq, Int.reduceLT, Int.reduceEq, hs1])
    rw [X_loop, X_eq f50_2.eq_1]
    rcases e9 with ⟨z, e⟩ | ⟨z, e⟩
    · have z' : ((i : Nat) : Int) = 0 := by omega
      simp only [go_sem, Nat.reduceLT, Nat.reduceEqDiff, reduceCtorEq, Int.reduceLT, Int.reduceEq, hs, e10, z']
      exact body _ (by simp only [slot_len, hs]) (by simp only [go_sem, Nat.reduceLT, Nat.reduceEqDiff, reduceCtorEq, Int.reduceLT, Int.reduceEq, e0]) (by simp only [go_sem, Nat.reduceLT, Nat.reduceEqDiff, reduceCtorEq, Int.reduceLT, Int.reduceEq, e1]) (by simp only [go_sem, Nat.reduceLT, Nat.reduceEqDiff, reduceCtorEq, Int.reduceLT, Int.reduceEq, e2]) (by simp only [go_sem, Nat.reduceLT, Nat.reduceEqDiff, reduceCtorEq, Int.reduceLT, Int.reduceEq, e8]) (by simp only [go_sem, Nat.reduceLT, Nat.reduceEqDiff, reduceCtorEq, Int.reduceLT, Int.reduceEq, e10]) (.inl ⟨z, by simp only [go_sem, Nat.reduceLT, Nat.reduceEqDiff, reduceCtorEq, Int.reduceLT, Int.reduceEq, e]⟩)
    · have z' : ¬ ((i : Nat) : Int) = 0 := by omega
      have z2 : ((i : Nat) : Int) < (of_ : Int) := by
        rcases hio with h | h
        · exact absurd h z
        · omega
      simp only [go_sem, Nat.reduceLT, Nat.reduceEqDiff, reduceCtorEq, Int.reduceLT, Int.reduceEq, hs, e10, z', e, z2]
      exact body _ (by simp only [slot_len, hs]) (by simp only [go_sem, Nat.reduceLT, Nat.reduceEqDiff, reduceCtorEq, Int.reduceLT, Int.reduceEq, e0]) (by simp only [go_sem, Nat.reduceLT, Nat.reduceEqDiff, reduceCtorEq, Int.reduceLT, Int.reduceEq, e1]) (by simp only [go_sem, Nat.reduceLT, Nat.reduceEqDiff, reduceCtorEq, Int.reduceLT, Int.reduceEq, e2]) (by simp only [go_sem, Nat.reduceLT, Nat.reduceEqDiff, reduceCtorEq, Int.reduceLT, Int.reduceEq, e8]) (by simp only [go_sem, Nat.reduceLT, Nat.reduceEqDiff, reduceCtorEq, Int.reduceLT, Int.reduceEq, e10]) (.inr ⟨z, by simp only [go_sem, Nat.reduceLT, Nat.reduceEqDiff, reduceCtorEq, Int.reduceLT, Int.reduceEq, e]⟩)

theorem rframe_f50 (hP : PgE elsS ss) (hu : SlV 1 elsS u) (he : epoch < 9223372036854775808) (hn : n < 9223372036854775808) : RetP F 50 [vi .i64 epoch, vi .i64 n, u] (FrameP (frameF epoch n ss)) := by
  have : Ret F 50 [vi .i64 epoch, vi .i64 n, u] [] fun v g => ∃ w, closRes g v = some w ∧ FrameP (frameF epoch n ss) w := by
    refine call_E (fn := f50) rfl ?_
    simp only [f50]
    generalize hs0 : ([vi .i64 epoch, vi .i64 n, u] ++ List.replicate _ VV.undef : List VV) = s
    have hs : s.length = 57 := by rw [← hs0]; rfl
    have h0 : s.getD 0 .undef = vi .i64 epoch := by rw [← hs0]; rfl
    have h1 : s.getD 1 .undef = vi .i64 n := by rw [← hs0]; rfl
    have h2 : s.getD 2 .undef = u := by rw [← hs0]; rfl
    clear hs0
    have hof : ∀ b, ss[0]? = some b → ofS ss = ofOf b := by
      intro b hb
      cases ss with
      | nil => cases hb
      | cons c r => cases hb; rfl
    have bad : ∀ g, frameF epoch n ss = ([], 0) → ∃ w, closRes g (.tup [nilS, vi .i64 0]) = some w ∧ FrameP (frameF epoch n ss) w := fun g e => ⟨_, rfl, nilS, by rw [e]; rfl, by rw [e]; exact .inl ⟨rfl, rfl⟩⟩
    simp only [go_sem, Nat.reduceLT, Nat.reduceEqDiff, reduceCtorEq, Int.reduceLT, Int.reduceEq, hs]
    refine f50_loop (of_ := ofS ss) hP hu he hn hof 200 0 [] nilS _ _ _ rfl (.inl rfl) (by omega) (by simp) (NB.nil _ _) (by simp only [slot_len, hs]) (by simp only [go_sem, Nat.reduceLT, Nat.reduceEqDiff, reduceCtorEq, Int.reduceLT, Int.reduceEq, h0]) (by simp only [go_sem, Nat.reduceLT, Nat.reduceEqDiff, reduceCtorEq, Int.reduceLT, Int.reduceEq, h1]) (by simp only [go_sem, Nat.reduceLT, Nat.reduceEqDiff, reduceCtorEq, Int.reduceLT, Int.reduceEq, h2]) (by simp only [go_sem, Nat.reduceLT, Nat.reduceEqDiff, reduceCtorEq, Int.reduceLT, Int.reduceEq, hs]) (by simp only [go_sem, Nat.reduceLT, Nat.reduceEqDiff, reduceCtorEq, Int.reduceLT, Int.reduceEq, hs]; rfl) (.inl ⟨rfl, by simp only [go_sem, Nat.reduceLT, Nat.reduceEqDiff, reduceCtorEq, Int.reduceLT, Int.reduceEq, hs]⟩) ?_ ?_
    · intro hno s' h' hs' e6 e7
      rw [List.drop_zero] at hno
      simp only [go_sem, Nat.reduceLT, Nat.reduceEqDiff, reduceCtorEq, Int.reduceLT, Int.reduceEq, hs', e6, e7]
      exact bad _ (by unfold frameF frameB; rw [hno])
    · intro all hso s' h' va' hs' e8' e9' hB hlen
      rw [List.drop_zero] at hso
      obtain ⟨w, h1, c1, c2⟩ := hB.clos
      obtain ⟨v67, h67, n67, r67⟩ := rchs_f67 all w c2 (by omega)
      have r67' : closRes h67 v67 = some (.tup [slV 3 (wholeB (getCh all) all).1, vi .i64 (wholeB (getCh all) all).2]) := r67
      simp only [go_sem, Nat.reduceLT, Nat.reduceEqDiff, reduceCtorEq, Int.reduceLT, Int.reduceEq, hs', e8']
      refine XO_callP (h1 := h1) (by simp only [List.map, go_sem, Nat.reduceLT, Nat.reduceEqDiff, reduceCtorEq, Int.reduceLT, Int.reduceEq, hs', e8']; exact closAs_cons c1 clos_nil) n67 r67' ?_
      simp only [go_sem, Nat.reduceLT, Nat.reduceEqDiff, reduceCtorEq, Int.reduceLT, Int.reduceEq, hs']
      rw [X_eq f50_3.eq_1]
      by_cases d : (wholeB (getCh all) all).2 = 0
      · have d' : ¬ (((wholeB (getCh all) all).2 : Nat) : Int) ≠ 0 := by omega
        have hf : frameF epoch n ss = ((wholeB (getCh all) all).1, ofS ss) := by unfold frameF frameB; rw [hso]; simp only; rw [if_pos d]
        simp only [go_sem, Nat.reduceLT, Nat.reduceEqDiff, reduceCtorEq, Int.reduceLT, Int.reduceEq, hs', d', e9']
        refine ⟨.tup [slV 3 (wholeB (getCh all) all).1, vi .i64 (ofS ss)], ?_, _, by rw [hf], by rw [hf]; exact slV_SlV⟩
        have := slV_SlV (z := 3) (els := (wholeB (getCh all) all).1)
        rcases this with ⟨e, _⟩ | ⟨ex, e⟩ <;> rw [e] <;> rfl
      · have d' : (((wholeB (getCh all) all).2 : Nat) : Int) ≠ 0 := by omega
        simp only [go_sem, Nat.reduceLT, Nat.reduceEqDiff, reduceCtorEq, Int.reduceLT, Int.reduceEq, hs', d']
        exact bad _ (by unfold frameF frameB; rw [hso]; simp only; rw [if_neg d])
  obtain ⟨v, g, n1, w, e1, e2⟩ := this
  exact ⟨v, g, n1, w, e1, e2⟩
end
end Go.V07

set_option linter.unusedSimpArgs false
set_option linter.unusedVariables false
namespace Go.V07
open Go Go.Vm

section
variable {epoch : Int} {ss : List (List UInt8)} {elsS : List (List CV)} {u : VV}
theorem f28_loop (hP : PgE elsS ss) (hu : SlV 1 elsS u) (hl : ss.length ≤ 1000000000) (he : numOK epoch = true) :
    ∀ (m n at_ : Nat) (acc : List (List (List CV))) (els : List (List CV)) (va : VV) (s : List VV) (h : Heap) (Q : Pst), ss.length - at_ < m → n ≤ at_ → at_ ≤ ss.length → acc.length = n → NB [] h 1 els va → FrE els acc →
      s.length = 39 → s.getD 0 .undef = vi .i64 epoch → s.getD 1 .undef = u → s.getD 6 .undef = va → s.getD 7 .undef = vi .i64 at_ →
      (∀ s' h' els' va', s'.length = 39 → s'.getD 4 .undef = va' → s'.getD 5 .undef = vi .i64 ((at_ + (rdA epoch.toNat m n (ss.drop at_)).2 : Nat) : Int) → NB [] h' 1 els' va' → FrE els' (acc ++ (rdA epoch.toNat m n (ss.drop at_)).1) → Q .ret ⟨s', h'⟩) → X F (.loop f28_1) ⟨s, h⟩ Q := by
  intro m
  have hpl := hP.len
  obtain ⟨ee, ee2⟩ := numOK_nat he
  have he1 : (0 : Int) ≤ epoch := by omega
  have he2 : epoch ≤ 1073741824 := by omega
  induction m with
  | zero => intro n at_ acc els va s h Q hm; omega
  | succ m ih =>
    intro n at_ acc els va s h Q hm hn hat hac hB hF hs e0 e1 e6 e7 hQ
    have hfl := hF.len
    obtain ⟨w, w1, w2⟩ := hu.from_ (h := h) (k := .i64) (a := (at_ : Int)) (by omega) (by omega)
    rw [Int.toNat_natCast] at w1
    obtain ⟨v50, h50, n50, x50, r50, cw, rfl, P50⟩ := rframe_f50 (epoch := epoch.toNat) (n := n) (drop_pg hP at_) w1 (by omega) (by omega)
    have hfle := frameF_len (epoch := epoch.toNat) (n := n) (ss := ss.drop at_)
    rw [List.length_drop] at hfle
    have e0' : s.getD 0 .undef = vi .i64 ((epoch.toNat : Nat) : Int) := by rw [e0]; exact congrArg _ ee
    have g1 : (0 : Int) ≤ ((epoch.toNat : Nat) : Int) := by omega
    have g2 : ((epoch.toNat : Nat) : Int) ≤ 1073741824 := by omega
    rw [X_loop, X_eq f28_1.eq_1]
    simp only [go_sem, Nat.reduceLT, Nat.reduceEqDiff, reduceCtorEq, Int.reduceLT, Int.reduceEq, hs, e0', ge_iff_le, g1, g2, e1, e6, e7, hB.ln, hfl, hac, w2]
    refine XO_callP (h1 := h) (by simp only [List.map, go_sem, Nat.reduceLT, Nat.reduceEqDiff, reduceCtorEq, Int.reduceLT, Int.reduceEq, hs]; exact clos_cv (clos_cv (w1.clos clos_nil))) n50 r50 ?_
    simp only [go_sem, Nat.reduceLT, Nat.reduceEqDiff, reduceCtorEq, Int.reduceLT, Int.reduceEq, hs]
    rw [X_eq f28_0.eq_1]
    have hr : rdA epoch.toNat (m + 1) n (ss.drop at_) = if (frameF epoch.toNat n (ss.drop at_)).2 = 0 then ([], 0) else ((frameF epoch.toNat n (ss.drop at_)).1 :: (rdA epoch.toNat m (n + 1) ((ss.drop at_).drop (frameF epoch.toNat n (ss.drop at_)).2)).1, (frameF epoch.toNat n (ss.drop at_)).2 + (rdA epoch.toNat m (n + 1) ((ss.drop at_).drop (frameF epoch.toNat n (ss.drop at_)).2)).2) := rfl
    rw [hr] at hQ
    generalize frameF epoch.toNat n (ss.drop at_) = fr at *
    by_cases d : fr.2 = 0
    · have d' : ((fr.2 : Nat) : Int) = 0 := by omega
      rw [if_pos d] at hQ
      simp only [go_sem, Nat.reduceLT, Nat.reduceEqDiff, reduceCtorEq, Int.reduceLT, Int.reduceEq, hs, d', e6, e7]
      refine hQ _ _ els va (by simp only [slot_len, hs]) (by simp only [go_sem, Nat.reduceLT, Nat.reduceEqDiff, reduceCtorEq, Int.reduceLT, Int.reduceEq, hs]) (by simp only [go_sem, Nat.reduceLT, Nat.reduceEqDiff, reduceCtorEq, Int.reduceLT, Int.reduceEq, hs]; rfl) hB (by simpa using hF)
    · have d' : ¬ ((fr.2 : Nat) : Int) = 0 := by omega
      rw [if_neg d] at hQ
      obtain ⟨cx, rfl⟩ : ∃ c2, cw = .cv c2 := by rcases P50 with ⟨rfl, _⟩ | ⟨ex, rfl⟩ <;> exact ⟨_, rfl⟩
      have m1 : ∀ h : Heap, mkO h 1 1 [.cv (.sc (.slice none 0 0))] [(0, 1, .cv cx)] = some (.cv (.sl 1 [[cx]] true), h) := fun _ => rfl
      have hwr : IntKind.i64.wrap ((at_ : Int) + (fr.2 : Int)) = ((at_ + fr.2 : Nat) : Int) := by rw [IntWalk.i64_in _ (by omega)]; omega
      simp only [go_sem, Nat.reduceLT, Nat.reduceEqDiff, reduceCtorEq, Int.reduceLT, Int.reduceEq, hs, d', e6, m1]
      refine XO_appNB hB (new := [[cx]]) (by simp only [go_sem, Nat.reduceLT, Nat.reduceEqDiff, reduceCtorEq, Int.reduceLT, Int.reduceEq, hs, e6]) (by simp only [go_sem, Nat.reduceLT, Nat.reduceEqDiff, reduceCtorEq, Int.reduceLT, Int.reduceEq, hs]) (by simp only [List.length_singleton]; omega) (by simp only [List.length_singleton]; omega) (fun v' h' hB' _ _ _ => ?_)
      simp only [go_sem, Nat.reduceLT, Nat.reduceEqDiff, reduceCtorEq, Int.reduceLT, Int.reduceEq, hs, e7, hwr]
      refine ih (n + 1) (at_ + fr.2) (acc ++ [fr.1]) _ v' _ _ Q (by omega) (by omega) (by omega) (by simp; omega) hB' (hF.app (.cons P50 .nil)) (by simp only [slot_len, hs]) (by simp only [go_sem, Nat.reduceLT, Nat.reduceEqDiff, reduceCtorEq, Int.reduceLT, Int.reduceEq, e0]) (by simp only [go_sem, Nat.reduceLT, Nat.reduceEqDiff, reduceCtorEq, Int.reduceLT, Int.reduceEq, e1]) (by simp only [go_sem, Nat.reduceLT, Nat.reduceEqDiff, reduceCtorEq, Int.reduceLT, Int.reduceEq, hs]) (by simp only [go_sem, Nat.reduceLT, Nat.reduceEqDiff, reduceCtorEq, Int.reduceLT, Int.reduceEq, hs]) (fun s' h2 els' va' a1 a2 a3 a4 a5 => hQ s' h2 els' va' a1 a2 ?_ a4 ?_)
      · rw [a3, List.drop_drop, Nat.add_assoc]
      · rw [List.append_assoc] at a5
        rw [List.drop_drop]; exact a5

theorem rread_f28 (hP : PgE elsS ss) (hu : SlV 1 elsS u) (hl : ss.length ≤ 1000000000) (epoch : Int) : RetP F 28 [vi .i64 epoch, u] (ReadP (readF epoch ss)) := by
  have : Ret F 28 [vi .i64 epoch, u] [] fun v g => ∃ w, closRes g v = some w ∧ ReadP (readF epoch ss) w := by
    refine call_E (fn := f28) rfl ?_
    simp only [f28]
    generalize hs0 : ([vi .i64 epoch, u] ++ List.replicate _ VV.undef : List VV) = s
    have hs : s.length = 39 := by rw [← hs0]; rfl
    have h0 : s.getD 0 .undef = vi .i64 epoch := by rw [← hs0]; rfl
    have h1 : s.getD 1 .undef = u := by rw [← hs0]; rfl
    clear hs0
    simp only [go_sem, Nat.reduceLT, Nat.reduceEqDiff, reduceCtorEq, Int.reduceLT, Int.reduceEq, hs]
    by_cases he : numOK epoch = true
    · have hr : readF epoch ss = rdA epoch.toNat (ss.length + 1) 0 ss := by unfold readF; rw [if_pos he]
      rw [hr]
      refine f28_loop hP hu hl he (ss.length + 1) 0 0 [] [] nilS _ _ _ (by omega) (by omega) (by omega) rfl (NB.nil _ _) .nil (by simp only [slot_len, hs]) (by simp only [go_sem, Nat.reduceLT, Nat.reduceEqDiff, reduceCtorEq, Int.reduceLT, Int.reduceEq, h0]) (by simp only [go_sem, Nat.reduceLT, Nat.reduceEqDiff, reduceCtorEq, Int.reduceLT, Int.reduceEq, h1]) (by simp only [go_sem, Nat.reduceLT, Nat.reduceEqDiff, reduceCtorEq, Int.reduceLT, Int.reduceEq, hs]) (by simp only [go_sem, Nat.reduceLT, Nat.reduceEqDiff, reduceCtorEq, Int.reduceLT, Int.reduceEq, hs]; rfl) (fun s' h' els' va' a1 a2 a3 a4 a5 => ?_)
      rw [List.drop_zero] at a3 a5
      rw [Nat.zero_add] at a3
      simp only [go_sem, Nat.reduceLT, Nat.reduceEqDiff, reduceCtorEq, Int.reduceLT, Int.reduceEq, a1, a2, a3]
      obtain ⟨w, g1, c1, c2⟩ := a4.clos
      exact ⟨.tup [w, vi .i64 (((rdA epoch.toNat (ss.length + 1) 0 ss).2 : Nat) : Int)], by simp only [closRes, closAs_cons c1 (clos_cv clos_nil), Option.map], w, els', rfl, c2, by simpa using a5⟩
    · have hr : readF epoch ss = ([], 0) := by unfold readF; rw [if_neg he]
      have bad : ∃ w, closRes ([] : Heap) (.tup [nilS, vi .i64 0]) = some w ∧ ReadP (readF epoch ss) w := ⟨_, rfl, nilS, [], by rw [hr]; rfl, .inl ⟨rfl, rfl⟩, by rw [hr]; exact .nil⟩
      have hn : ¬ (0 ≤ epoch ∧ epoch ≤ 1073741824) := by
        intro hh
        exact he (by unfold numOK; simp; exact hh)
      rw [X_loop, X_eq f28_1.eq_1]
      by_cases c : 0 ≤ epoch
      · have c2 : ¬ epoch ≤ 1073741824 := fun e => hn ⟨c, e⟩
        simp only [go_sem, Nat.reduceLT, Nat.reduceEqDiff, reduceCtorEq, Int.reduceLT, Int.reduceEq, hs, h0, ge_iff_le, c, c2]
        exact bad
      · simp only [go_sem, Nat.reduceLT, Nat.reduceEqDiff, reduceCtorEq, Int.reduceLT, Int.reduceEq, hs, h0, ge_iff_le, c]
        exact bad
  obtain ⟨v, g, n1, w, e1, e2⟩ := this
  exact ⟨v, g, n1, w, e1, e2⟩
end
end Go.V07
