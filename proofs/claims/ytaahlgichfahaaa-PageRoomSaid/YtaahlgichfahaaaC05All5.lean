/- Part of a proof: of what it says, and when, each theorem tells itself. -/
import Derived.Test.YtaahlgichfahaaaC05All4
import Derived.Test.YtaahlgichfahaaaVmAll2
set_option linter.unusedSimpArgs false
set_option linter.unusedVariables false
namespace Go.V05
open Go Go.Vm

/-! ### Seal, Right -/
theorem toNat_of {n : Nat} (h : n < 256) : (UInt8.ofNat n).toNat = n := by rw [UInt8.toNat_ofNat']; exact Nat.mod_eq_of_lt h
theorem le4_e (n : Nat) (h : n < 4294967296) : eB (le4 n) = [[.sc (.int .u8 ((n % 256 : Nat) : Int))], [.sc (.int .u8 ((n / 256 % 256 : Nat) : Int))], [.sc (.int .u8 ((n / 65536 % 256 : Nat) : Int))], [.sc (.int .u8 ((n / 16777216 : Nat) : Int))]] := by
  simp only [eB, le4, List.map, byteCell]
  rw [toNat_of (by omega), toNat_of (by omega), toNat_of (by omega), toNat_of (by omega)]

theorem seal_f23 {g0 h : Heap} {b : List UInt8} {u : VV} (hu : BSrc g0 h b u) (hb : b.length ≤ 900000000) : Ret F 23 [u] h fun v h' => NB g0 h' 1 (eB (sealB b)) v := by
  refine call_E (fn := f23) rfl ?_
  simp only [f23]
  generalize hs0 : ([u] ++ List.replicate _ VV.undef : List VV) = s
  have hs : s.length = 27 := by rw [← hs0]; rfl
  have h0 : s.getD 0 .undef = u := by rw [← hs0]; rfl
  clear hs0
  obtain ⟨w, h1, hc, hw, e1, hsrc⟩ := hu.cl
  obtain ⟨hx, n32⟩ := sum_f32 hw (by omega)
  have hlt := crc_lt b
  generalize hn : crc b = n at *
  simp only [go_sem, Nat.reduceLT, Nat.reduceEqDiff, reduceCtorEq, Int.reduceLT, Int.reduceEq, hs, h0]
  refine XO_callP (h1 := h1) (by simp only [List.map, go_sem, Nat.reduceLT, Nat.reduceEqDiff, reduceCtorEq, Int.reduceLT, Int.reduceEq, hs]; exact hc) n32 rfl ?_
  have hw4 : IntKind.i64.wrap ((b.length : Int) + 4) = ((b.length + 4 : Nat) : Int) := by rw [IntWalk.i64_in _ (by omega)]; omega
  simp only [go_sem, Nat.reduceLT, Nat.reduceEqDiff, reduceCtorEq, Int.reduceLT, Int.reduceEq, hs, h0, hu.ln, hw4]
  refine XO_mksNB (k := .i64) (k' := .i64) (b := b.length + 4) e1 (by simp only [go_sem, Nat.reduceLT, Nat.reduceEqDiff, reduceCtorEq, Int.reduceLT, Int.reduceEq]) (by simp only [go_sem, Nat.reduceLT, Nat.reduceEqDiff, reduceCtorEq, Int.reduceLT, Int.reduceEq, hs]) (by omega) (by omega) (by omega) (fun v2 h2 B2 x2 => ?_)
  simp only [go_sem, Nat.reduceLT, Nat.reduceEqDiff, reduceCtorEq, Int.reduceLT, Int.reduceEq, hs, h0]
  refine XO_appNB B2 (new := eB b) (by simp only [go_sem, Nat.reduceLT, Nat.reduceEqDiff, reduceCtorEq, Int.reduceLT, Int.reduceEq, hs]) (by simp only [go_sem, Nat.reduceLT, Nat.reduceEqDiff, reduceCtorEq, Int.reduceLT, Int.reduceEq, hs]; exact hsrc _ x2) (by simp only [List.length_nil, eB_len]; omega) (by simp only [List.length_nil, eB_len]; omega) (fun v3 h3 B3 _ _ _ => ?_)
  have s1 : IntKind.u8.wrap (n : Int) = ((n % 256 : Nat) : Int) := by rw [IntKind.wrap_u8]; omega
  have s2 : IntKind.u8.wrap ((n : Int).fdiv (2 ^ min ((8 : Int).toNat) 32)) = ((n / 256 % 256 : Nat) : Int) := by
    show IntKind.u8.wrap ((n : Int).fdiv 256) = _
    rw [Int.fdiv_eq_ediv_of_nonneg _ (by decide), IntKind.wrap_u8]; omega
  have s3 : IntKind.u8.wrap ((n : Int).fdiv (2 ^ min ((16 : Int).toNat) 32)) = ((n / 65536 % 256 : Nat) : Int) := by
    show IntKind.u8.wrap ((n : Int).fdiv 65536) = _
    rw [Int.fdiv_eq_ediv_of_nonneg _ (by decide), IntKind.wrap_u8]; omega
  have s4 : IntKind.u8.wrap ((n : Int).fdiv (2 ^ min ((24 : Int).toNat) 32)) = ((n / 16777216 : Nat) : Int) := by
    show IntKind.u8.wrap ((n : Int).fdiv 16777216) = _
    rw [Int.fdiv_eq_ediv_of_nonneg _ (by decide), IntKind.wrap_u8]; omega
  have s2' : IntKind.u8.wrap ((n : Int).fdiv (2 ^ min ((8 : Int).toNat) IntKind.u32.bits)) = ((n / 256 % 256 : Nat) : Int) := s2
  have s3' : IntKind.u8.wrap ((n : Int).fdiv (2 ^ min ((16 : Int).toNat) IntKind.u32.bits)) = ((n / 65536 % 256 : Nat) : Int) := s3
  have s4' : IntKind.u8.wrap ((n : Int).fdiv (2 ^ min ((24 : Int).toNat) IntKind.u32.bits)) = ((n / 16777216 : Nat) : Int) := s4
  simp only [go_sem, Nat.reduceLT, Nat.reduceEqDiff, reduceCtorEq, Int.reduceLT, Int.reduceEq, hs, bin_shr (show ¬ (8 : Int) < 0 by decide), bin_shr (show ¬ (16 : Int) < 0 by decide), bin_shr (show ¬ (24 : Int) < 0 by decide), s1, s2, s3, s4, s2', s3', s4', mk_4]
  rw [List.nil_append] at B3
  refine XO_appNB B3 (new := eB (le4 n)) (by simp only [go_sem, Nat.reduceLT, Nat.reduceEqDiff, reduceCtorEq, Int.reduceLT, Int.reduceEq, hs]) (by simp only [go_sem, Nat.reduceLT, Nat.reduceEqDiff, reduceCtorEq, Int.reduceLT, Int.reduceEq, hs]; rw [le4_e n hlt]) (by simp only [eB_len]; rw [show (le4 n).length = 4 from rfl]; omega) (by simp only [eB_len]; rw [show (le4 n).length = 4 from rfl]; omega) (fun v4 h4 B4 _ _ _ => ?_)
  simp only [go_sem, Nat.reduceLT, Nat.reduceEqDiff, reduceCtorEq, Int.reduceLT, Int.reduceEq, hs]
  unfold sealB
  rw [eB_append, hn]
  exact B4
theorem seal_pure {b : List UInt8} {u : VV} (hu : SlV 1 (eB b) u) (hb : b.length ≤ 900000000) : RetP F 23 [u] (SlV 1 (eB (sealB b))) := by
  obtain ⟨v, h', n, B⟩ := seal_f23 (hu.bsrc (HExt.refl [])) hb
  exact ⟨v, h', n, B.res⟩

theorem equal_f26 {a b : List UInt8} {u w : VV} (hu : SlV 1 (eB a) u) (hw : SlV 1 (eB b) w) : call F 26 [u, w] [] = some (.ret (vb (decide (a = b))), []) := by
  refine call_P (fn := f26) rfl ?_
  simp only [f26]
  generalize hs0 : ([u, w] ++ List.replicate _ VV.undef : List VV) = s
  have hs : s.length = 10 := by rw [← hs0]; rfl
  have h0 : s.getD 0 .undef = u := by rw [← hs0]; rfl
  have h1 : s.getD 1 .undef = w := by rw [← hs0]; rfl
  clear hs0
  have te : binO .eql (txt a) (txt b) = some (vb (decide (a = b))) := by
    by_cases h : a = b <;> simp [binO, binV, h]
  simp only [go_sem, Nat.reduceLT, Nat.reduceEqDiff, reduceCtorEq, Int.reduceLT, Int.reduceEq, hs, h0, h1, hu.bs, hw.bs, te]
  exact ⟨rfl, rfl⟩

/-- What has its sum. -/
def rightB (b : List UInt8) : Bool := decide (4 ≤ b.length) && decide (sealB (b.take (b.length - 4)) = b)
theorem right_f24 {b : List UInt8} {u : VV} (hu : SlV 1 (eB b) u) (hb : b.length ≤ 900000000) : Ret F 24 [u] [] fun v h' => v = vb (rightB b) := by
  refine call_E (fn := f24) rfl ?_
  simp only [f24]
  generalize hs0 : ([u] ++ List.replicate _ VV.undef : List VV) = s
  have hs : s.length = 17 := by rw [← hs0]; rfl
  have h0 : s.getD 0 .undef = u := by rw [← hs0]; rfl
  clear hs0
  have hw4 : IntKind.i64.wrap ((b.length : Int) - 4) = (b.length : Int) - 4 := IntWalk.i64_in _ (by omega)
  unfold rightB
  by_cases c : 4 ≤ b.length
  · have c1 : (0 : Int) ≤ (b.length : Int) - 4 := by omega
    have e4 : ((b.length : Int) - 4) = ((b.length - 4 : Nat) : Int) := by omega
    obtain ⟨w, hw, hsl⟩ := hu.upto (h := []) (k := .i64) (b := ((b.length - 4 : Nat) : Int)) (by omega) (by rw [eB_len]; omega)
    rw [Int.toNat_natCast, eB_take] at hw
    obtain ⟨v, h', n23, x, hx, hS⟩ := seal_pure hw (by rw [List.length_take]; omega)
    simp only [go_sem, Nat.reduceLT, Nat.reduceEqDiff, reduceCtorEq, Int.reduceLT, Int.reduceEq, hs, h0, hu.ln, eB_len, hw4, ge_iff_le, c1]
    rw [e4]
    simp only [go_sem, Nat.reduceLT, Nat.reduceEqDiff, reduceCtorEq, Int.reduceLT, Int.reduceEq, hs, h0, hsl]
    refine XO_callP (h1 := []) (by simp only [List.map, go_sem, Nat.reduceLT, Nat.reduceEqDiff, reduceCtorEq, Int.reduceLT, Int.reduceEq, hs]; exact hw.clos rfl) n23 hx ?_
    simp only [go_sem, Nat.reduceLT, Nat.reduceEqDiff, reduceCtorEq, Int.reduceLT, Int.reduceEq, hs, h0]
    refine XO_callP (h1 := []) (by simp only [List.map, go_sem, Nat.reduceLT, Nat.reduceEqDiff, reduceCtorEq, Int.reduceLT, Int.reduceEq, hs]; exact hS.clos (hu.clos rfl)) (equal_f26 hS hu) rfl ?_
    simp only [go_sem, Nat.reduceLT, Nat.reduceEqDiff, reduceCtorEq, Int.reduceLT, Int.reduceEq, hs, c, Bool.true_and]
  · have c1 : ¬ (0 : Int) ≤ (b.length : Int) - 4 := by omega
    simp only [go_sem, Nat.reduceLT, Nat.reduceEqDiff, reduceCtorEq, Int.reduceLT, Int.reduceEq, hs, h0, hu.ln, eB_len, hw4, ge_iff_le, c1, c, Bool.false_and]

/-! ### the document's -/
theorem f35_inner : ∀ (r j n : Nat) (s : List VV) (h : Heap) (Q : Pst), j + r = 8 → n < 4294967296 → s.length = 36 → s.getD 0 .undef = vi .u32 n → s.getD 6 .undef = vi .i64 j →
    (∀ s', s'.length = 36 → s'.getD 1 .undef = s.getD 1 .undef → s'.getD 5 .undef = s.getD 5 .undef → s'.getD 0 .undef = vi .u32 (cstepN r n) → Q (.exit 2) ⟨s', h⟩) → X F (.loop f35_0) ⟨s, h⟩ Q := by
  intro r
  induction r with
  | zero =>
    intro j n s h Q hj hn hs h0 h6 hQ
    rw [X_loop, X_eq f35_0.eq_1]
    have c : ¬ (j : Int) < 8 := by omega
    simp only [go_sem, Nat.reduceLT, Nat.reduceEqDiff, reduceCtorEq, Int.reduceLT, Int.reduceEq, hs, h6, c]
    exact hQ _ (by simp only [slot_len, hs]) (by simp only [go_sem, Nat.reduceLT, Nat.reduceEqDiff, reduceCtorEq, Int.reduceLT, Int.reduceEq]) (by simp only [go_sem, Nat.reduceLT, Nat.reduceEqDiff, reduceCtorEq, Int.reduceLT, Int.reduceEq]) (by simp only [go_sem, Nat.reduceLT, Nat.reduceEqDiff, reduceCtorEq, Int.reduceLT, Int.reduceEq, h0]; rfl)
  | succ r ih =>
    intro j n s h Q hj hn hs h0 h6 hQ
    rw [X_loop, X_eq f35_0.eq_1]
    have c : (j : Int) < 8 := by omega
    have hw : IntKind.i64.wrap ((j : Int) + 1) = ((j + 1 : Nat) : Int) := by rw [IntWalk.i64_in _ (by omega)]; omega
    have e1 : IntKind.u32.wrap ((n : Int).tdiv 2) = ((n / 2 : Nat) : Int) := by
      rw [Int.tdiv_eq_ediv_of_nonneg (by omega), IntWalk.u32_in _ (by omega)]; omega
    have e2 : (n : Int).tmod 2 = ((n % 2 : Nat) : Int) := rfl
    have n2 : (2 : Int) ≠ 0 := by decide
    by_cases hp : n % 2 = 1
    · have hp' : ((n % 2 : Nat) : Int) = 1 := by omega
      have e3 : bits .xor .u32 ((n / 2 : Nat) : Int) 3988292384 = ((cstep n : Nat) : Int) := by
        have := bits_xor32 (a := n / 2) (b := 3988292384) (by omega) (by decide)
        unfold cstep
        rw [hp]
        exact this
      simp only [go_sem, Nat.reduceLT, Nat.reduceEqDiff, reduceCtorEq, Int.reduceLT, Int.reduceEq, hs, h6, c, h0, bin_rem n2, bin_quo n2, e2, hp', e1, bin_xor, e3, hw]
      exact ih (j + 1) (cstep n) _ h Q (by omega) (cstep_lt hn) (by simp only [slot_len, hs]) (by simp only [go_sem, Nat.reduceLT, Nat.reduceEqDiff, reduceCtorEq, Int.reduceLT, Int.reduceEq, hs]) (by simp only [go_sem, Nat.reduceLT, Nat.reduceEqDiff, reduceCtorEq, Int.reduceLT, Int.reduceEq, hs]) (fun s' b b1 b5 b0 => hQ s' b (by rw [b1]; simp only [go_sem, Nat.reduceLT, Nat.reduceEqDiff, reduceCtorEq, Int.reduceLT, Int.reduceEq]) (by rw [b5]; simp only [go_sem, Nat.reduceLT, Nat.reduceEqDiff, reduceCtorEq, Int.reduceLT, Int.reduceEq]) (by rw [b0]; rfl))
    · have hp' : ¬ ((n % 2 : Nat) : Int) = 1 := by omega
      have e3 : n / 2 = cstep n := by
        unfold cstep
        have : n % 2 = 0 := by omega
        rw [this, Nat.mul_zero, Nat.xor_zero]
      simp only [go_sem, Nat.reduceLT, Nat.reduceEqDiff, reduceCtorEq, Int.reduceLT, Int.reduceEq, hs, h6, c, h0, bin_rem n2, bin_quo n2, e2, hp', e1, hw]
      rw [e3]
      exact ih (j + 1) (cstep n) _ h Q (by omega) (cstep_lt hn) (by simp only [slot_len, hs]) (by simp only [go_sem, Nat.reduceLT, Nat.reduceEqDiff, reduceCtorEq, Int.reduceLT, Int.reduceEq, hs]) (by simp only [go_sem, Nat.reduceLT, Nat.reduceEqDiff, reduceCtorEq, Int.reduceLT, Int.reduceEq, hs]) (fun s' b b1 b5 b0 => hQ s' b (by rw [b1]; simp only [go_sem, Nat.reduceLT, Nat.reduceEqDiff, reduceCtorEq, Int.reduceLT, Int.reduceEq]) (by rw [b5]; simp only [go_sem, Nat.reduceLT, Nat.reduceEqDiff, reduceCtorEq, Int.reduceLT, Int.reduceEq]) (by rw [b0]; rfl))

theorem f35_loop {b : List UInt8} {u : VV} (hu : SlV 1 (eB b) u) (hb : b.length ≤ 1000000000) {h : Heap} :
    ∀ (r k m : Nat) (s : List VV) (Q : Pst), k + r = b.length → m < 4294967296 → s.length = 36 → s.getD 0 .undef = vi .u32 m → s.getD 1 .undef = u → s.getD 5 .undef = vi .i64 k →
      (∀ s', s'.length = 36 → s'.getD 0 .undef = vi .u32 (crcS m (b.drop k)) → Q (.exit 0) ⟨s', h⟩) → X F (.loop f35_1) ⟨s, h⟩ Q := by
  intro r
  induction r with
  | zero =>
    intro k m s Q hk hm hs h0 h1 h5 hQ
    rw [X_loop, X_eq f35_1.eq_1]
    have c : ¬ (k : Int) < (b.length : Int) := by omega
    simp only [go_sem, Nat.reduceLT, Nat.reduceEqDiff, reduceCtorEq, Int.reduceLT, Int.reduceEq, hs, h1, h5, hu.ln, eB_len, c]
    exact hQ _ (by simp only [slot_len, hs]) (by simp only [go_sem, Nat.reduceLT, Nat.reduceEqDiff, reduceCtorEq, Int.reduceLT, Int.reduceEq, h0]; rw [List.drop_eq_nil_of_le (by omega)]; rfl)
  | succ r ih =>
    intro k m s Q hk hm hs h0 h1 h5 hQ
    rw [X_loop, X_eq f35_1.eq_1]
    have c : (k : Int) < (b.length : Int) := by omega
    have hkl : k < b.length := by omega
    have hw : IntKind.i64.wrap ((k : Int) + 1) = ((k + 1 : Nat) : Int) := by rw [IntWalk.i64_in _ (by omega)]; omega
    have hia := hu.ia (h := h) (k := .i64) (j := (k : Int)) (by omega) (eB_get (List.getElem?_eq_getElem hkl))
    have hc := (b[k]).toNat_lt
    have e1 : IntKind.u32.wrap (b[k].toNat : Int) = (b[k].toNat : Int) := IntWalk.u32_in _ (by omega)
    have e3 : bits .xor .u32 (m : Int) (b[k].toNat : Int) = ((m ^^^ b[k].toNat : Nat) : Int) := bits_xor32 hm (by omega)
    simp only [go_sem, Nat.reduceLT, Nat.reduceEqDiff, reduceCtorEq, Int.reduceLT, Int.reduceEq, hs, h0, h1, h5, hu.ln, eB_len, c, hia, byteCell, e1, bin_xor, e3]
    refine f35_inner 8 0 (m ^^^ b[k].toNat) _ h _ (by omega) (x8_lt hm _) (by simp only [slot_len, hs]) (by simp only [go_sem, Nat.reduceLT, Nat.reduceEqDiff, reduceCtorEq, Int.reduceLT, Int.reduceEq, hs]) (by simp only [go_sem, Nat.reduceLT, Nat.reduceEqDiff, reduceCtorEq, Int.reduceLT, Int.reduceEq, hs]; rfl) (fun s' a1 a2 a5 a0 => ?_)
    have a2' : s'.getD 1 .undef = u := by rw [a2]; simp only [go_sem, Nat.reduceLT, Nat.reduceEqDiff, reduceCtorEq, Int.reduceLT, Int.reduceEq, h1]
    have a5' : s'.getD 5 .undef = vi .i64 k := by rw [a5]; simp only [go_sem, Nat.reduceLT, Nat.reduceEqDiff, reduceCtorEq, Int.reduceLT, Int.reduceEq, h5]
    simp only [go_sem, Nat.reduceLT, Nat.reduceEqDiff, reduceCtorEq, Int.reduceLT, Int.reduceEq, a1, a5', hw]
    refine ih (k + 1) (cstepN 8 (m ^^^ b[k].toNat)) _ Q (by omega) (cstepN_lt 8 (x8_lt hm _)) (by simp only [slot_len, a1]) (by simp only [go_sem, Nat.reduceLT, Nat.reduceEqDiff, reduceCtorEq, Int.reduceLT, Int.reduceEq, a0]) (by simp only [go_sem, Nat.reduceLT, Nat.reduceEqDiff, reduceCtorEq, Int.reduceLT, Int.reduceEq, a2']) (by simp only [go_sem, Nat.reduceLT, Nat.reduceEqDiff, reduceCtorEq, Int.reduceLT, Int.reduceEq, a1]) (fun s'' b1 b2 => hQ s'' b1 ?_)
    rw [b2, List.drop_eq_getElem_cons hkl]; rfl

theorem rmore_f35 {b : List UInt8} {u : VV} (hu : SlV 1 (eB b) u) (hb : b.length ≤ 1000000000) {n : Nat} (hn : n < 4294967296) : Ret F 35 [vi .u32 n, u] [] fun v h' => v = vi .u32 (crcM n b) := by
  refine call_E (fn := f35) rfl ?_
  simp only [f35]
  generalize hs0 : ([vi .u32 n, u] ++ List.replicate _ VV.undef : List VV) = s
  have hs : s.length = 36 := by rw [← hs0]; rfl
  have h0 : s.getD 0 .undef = vi .u32 n := by rw [← hs0]; rfl
  have h1 : s.getD 1 .undef = u := by rw [← hs0]; rfl
  clear hs0
  have hx : 4294967295 ^^^ n < 4294967296 := Nat.xor_lt_two_pow (n := 32) (by decide) (by omega)
  have e1 : bits .xor .u32 (n : Int) 4294967295 = ((4294967295 ^^^ n : Nat) : Int) := by
    have := bits_xor32 (a := n) (b := 4294967295) hn (by decide)
    rw [Nat.xor_comm] at this
    exact this
  simp only [go_sem, Nat.reduceLT, Nat.reduceEqDiff, reduceCtorEq, Int.reduceLT, Int.reduceEq, hs, h0, bin_xor, e1]
  refine f35_loop hu hb b.length 0 _ _ _ (by omega) hx (by simp only [slot_len, hs]) (by simp only [go_sem, Nat.reduceLT, Nat.reduceEqDiff, reduceCtorEq, Int.reduceLT, Int.reduceEq, hs]) (by simp only [go_sem, Nat.reduceLT, Nat.reduceEqDiff, reduceCtorEq, Int.reduceLT, Int.reduceEq, h1]) (by simp only [go_sem, Nat.reduceLT, Nat.reduceEqDiff, reduceCtorEq, Int.reduceLT, Int.reduceEq, hs]; rfl) (fun s' a1 a0 => ?_)
  have hlt := crcS_lt b hx
  have e2 : bits .xor .u32 ((crcS (4294967295 ^^^ n) b : Nat) : Int) 4294967295 = ((crcM n b : Nat) : Int) := by
    have := bits_xor32 (a := crcS (4294967295 ^^^ n) b) (b := 4294967295) hlt (by decide)
    rw [Nat.xor_comm (crcS _ _)] at this
    exact this
  rw [List.drop_zero] at a0
  simp only [go_sem, Nat.reduceLT, Nat.reduceEqDiff, reduceCtorEq, Int.reduceLT, Int.reduceEq, a1, a0, bin_xor, e2]
theorem rsum_f28 {b : List UInt8} {u : VV} (hu : SlV 1 (eB b) u) (hb : b.length ≤ 1000000000) : ∃ h', call F 28 [u] [] = some (.ret (vi .u32 (crc b)), h') := by
  have : Ret F 28 [u] [] fun v h' => v = vi .u32 (crc b) := by
    refine call_E (fn := f28) rfl ?_
    simp only [f28]
    generalize hs0 : ([u] ++ List.replicate _ VV.undef : List VV) = s
    have hs : s.length = 5 := by rw [← hs0]; rfl
    have h0 : s.getD 0 .undef = u := by rw [← hs0]; rfl
    clear hs0
    obtain ⟨v, h', n35, rfl⟩ := rmore_f35 hu hb (n := 0) (by decide)
    simp only [go_sem, Nat.reduceLT, Nat.reduceEqDiff, reduceCtorEq, Int.reduceLT, Int.reduceEq, hs, h0]
    refine XO_callP (h1 := []) (by simp only [List.map, go_sem, Nat.reduceLT, Nat.reduceEqDiff, reduceCtorEq, Int.reduceLT, Int.reduceEq, hs]; exact clos_cv (hu.clos rfl)) n35 rfl ?_
    simp only [go_sem, Nat.reduceLT, Nat.reduceEqDiff, reduceCtorEq, Int.reduceLT, Int.reduceEq, hs]
    rfl
  obtain ⟨v, h', e1, rfl⟩ := this
  exact ⟨h', e1⟩

theorem rseal_f16 {g0 h : Heap} {b : List UInt8} {u : VV} (hu : BSrc g0 h b u) (hb : b.length ≤ 900000000) : Ret F 16 [u] h fun v h' => NB g0 h' 1 (eB (sealB b)) v := by
  refine call_E (fn := f16) rfl ?_
  simp only [f16]
  generalize hs0 : ([u] ++ List.replicate _ VV.undef : List VV) = s
  have hs : s.length = 28 := by rw [← hs0]; rfl
  have h0 : s.getD 0 .undef = u := by rw [← hs0]; rfl
  clear hs0
  obtain ⟨w, h1, hc, hw, e1, hsrc⟩ := hu.cl
  obtain ⟨hx, n28⟩ := rsum_f28 hw (by omega)
  have hlt := crc_lt b
  generalize hn : crc b = n at *
  simp only [go_sem, Nat.reduceLT, Nat.reduceEqDiff, reduceCtorEq, Int.reduceLT, Int.reduceEq, hs, h0]
  refine XO_callP (h1 := h1) (by simp only [List.map, go_sem, Nat.reduceLT, Nat.reduceEqDiff, reduceCtorEq, Int.reduceLT, Int.reduceEq, hs]; exact hc) n28 rfl ?_
  simp only [go_sem, Nat.reduceLT, Nat.reduceEqDiff, reduceCtorEq, Int.reduceLT, Int.reduceEq, hs, h0]
  have B2 : NB g0 h1 1 [] nilS := ⟨e1, .inl ⟨rfl, rfl⟩⟩
  refine XO_appNB B2 (new := eB b) (by simp only [go_sem, Nat.reduceLT, Nat.reduceEqDiff, reduceCtorEq, Int.reduceLT, Int.reduceEq, hs]) (by simp only [go_sem, Nat.reduceLT, Nat.reduceEqDiff, reduceCtorEq, Int.reduceLT, Int.reduceEq, hs]; exact hsrc _ (HExt.refl _)) (by simp only [List.length_nil, eB_len]; omega) (by simp only [List.length_nil, eB_len]; omega) (fun v3 h3 B3 _ _ _ => ?_)
  have s0 : (n : Int).tmod 256 = ((n % 256 : Nat) : Int) := rfl
  have s1 : IntKind.u8.wrap ((n % 256 : Nat) : Int) = ((n % 256 : Nat) : Int) := IntWalk.u8_in _ (by omega)
  have d2 : IntKind.u32.wrap ((n : Int).tdiv 256) = ((n / 256 : Nat) : Int) := by rw [Int.tdiv_eq_ediv_of_nonneg (by omega), IntWalk.u32_in _ (by omega)]; omega
  have d3 : IntKind.u32.wrap ((n : Int).tdiv 65536) = ((n / 65536 : Nat) : Int) := by rw [Int.tdiv_eq_ediv_of_nonneg (by omega), IntWalk.u32_in _ (by omega)]; omega
  have d4 : IntKind.u32.wrap ((n : Int).tdiv 16777216) = ((n / 16777216 : Nat) : Int) := by rw [Int.tdiv_eq_ediv_of_nonneg (by omega), IntWalk.u32_in _ (by omega)]; omega
  have m2 : ((n / 256 : Nat) : Int).tmod 256 = ((n / 256 % 256 : Nat) : Int) := rfl
  have m3 : ((n / 65536 : Nat) : Int).tmod 256 = ((n / 65536 % 256 : Nat) : Int) := rfl
  have s2 : IntKind.u8.wrap ((n / 256 % 256 : Nat) : Int) = ((n / 256 % 256 : Nat) : Int) := IntWalk.u8_in _ (by omega)
  have s3 : IntKind.u8.wrap ((n / 65536 % 256 : Nat) : Int) = ((n / 65536 % 256 : Nat) : Int) := IntWalk.u8_in _ (by omega)
  have s4 : IntKind.u8.wrap ((n / 16777216 : Nat) : Int) = ((n / 16777216 : Nat) : Int) := IntWalk.u8_in _ (by omega)
  have z1 : (256 : Int) ≠ 0 := by decide
  have z2 : (65536 : Int) ≠ 0 := by decide
  have z3 : (16777216 : Int) ≠ 0 := by decide
  simp only [go_sem, Nat.reduceLT, Nat.reduceEqDiff, reduceCtorEq, Int.reduceLT, Int.reduceEq, hs, bin_rem z1, bin_quo z1, bin_quo z2, bin_quo z3, s0, s1, d2, d3, d4, m2, m3, s2, s3, s4, mk_4]
  rw [List.nil_append] at B3
  refine XO_appNB B3 (new := eB (le4 n)) (by simp only [go_sem, Nat.reduceLT, Nat.reduceEqDiff, reduceCtorEq, Int.reduceLT, Int.reduceEq, hs]) (by simp only [go_sem, Nat.reduceLT, Nat.reduceEqDiff, reduceCtorEq, Int.reduceLT, Int.reduceEq, hs]; rw [le4_e n hlt]) (by simp only [eB_len]; rw [show (le4 n).length = 4 from rfl]; omega) (by simp only [eB_len]; rw [show (le4 n).length = 4 from rfl]; omega) (fun v4 h4 B4 _ _ _ => ?_)
  simp only [go_sem, Nat.reduceLT, Nat.reduceEqDiff, reduceCtorEq, Int.reduceLT, Int.reduceEq, hs]
  unfold sealB
  rw [eB_append, hn]
  exact B4
theorem rseal_pure {b : List UInt8} {u : VV} (hu : SlV 1 (eB b) u) (hb : b.length ≤ 900000000) : RetP F 16 [u] (SlV 1 (eB (sealB b))) := by
  obtain ⟨v, h', n, B⟩ := rseal_f16 (hu.bsrc (HExt.refl [])) hb
  exact ⟨v, h', n, B.res⟩
theorem rright_f36 {b : List UInt8} {u : VV} (hu : SlV 1 (eB b) u) (hb : b.length ≤ 900000000) : Ret F 36 [u] [] fun v h' => v = vb (rightB b) := by
  refine call_E (fn := f36) rfl ?_
  simp only [f36]
  generalize hs0 : ([u] ++ List.replicate _ VV.undef : List VV) = s
  have hs : s.length = 18 := by rw [← hs0]; rfl
  have h0 : s.getD 0 .undef = u := by rw [← hs0]; rfl
  clear hs0
  have hw4 : IntKind.i64.wrap ((b.length : Int) - 4) = (b.length : Int) - 4 := IntWalk.i64_in _ (by omega)
  unfold rightB
  by_cases c : 4 ≤ b.length
  · have c1 : (4 : Int) ≤ (b.length : Int) := by omega
    have e4 : ((b.length : Int) - 4) = ((b.length - 4 : Nat) : Int) := by omega
    obtain ⟨w, hw, hsl⟩ := hu.upto (h := []) (k := .i64) (b := ((b.length - 4 : Nat) : Int)) (by omega) (by rw [eB_len]; omega)
    rw [Int.toNat_natCast, eB_take] at hw
    obtain ⟨v, h', n23, x, hx, hS⟩ := rseal_pure hw (by rw [List.length_take]; omega)
    have te : binO .eql (txt (sealB (b.take (b.length - 4)))) (txt b) = some (vb (decide (sealB (b.take (b.length - 4)) = b))) := by
      by_cases h : sealB (b.take (b.length - 4)) = b <;> simp [binO, binV, h]
    simp only [go_sem, Nat.reduceLT, Nat.reduceEqDiff, reduceCtorEq, Int.reduceLT, Int.reduceEq]
    refine X_draw rfl ?_
    simp only [go_sem, Nat.reduceLT, Nat.reduceEqDiff, reduceCtorEq, Int.reduceLT, Int.reduceEq, hs, h0, hu.ln, eB_len, hw4, ge_iff_le, c1]
    rw [e4]
    simp only [go_sem, Nat.reduceLT, Nat.reduceEqDiff, reduceCtorEq, Int.reduceLT, Int.reduceEq, hs, h0, hsl]
    refine XD_callP (by simp only [List.map, go_sem, Nat.reduceLT, Nat.reduceEqDiff, reduceCtorEq, Int.reduceLT, Int.reduceEq, hs]; exact hw.clos rfl) n23 hx ?_
    simp only [go_sem, Nat.reduceLT, Nat.reduceEqDiff, reduceCtorEq, Int.reduceLT, Int.reduceEq, hs, h0, hS.bs, hu.bs, te, c, Bool.true_and]
  · have c1 : ¬ (4 : Int) ≤ (b.length : Int) := by omega
    simp only [go_sem, Nat.reduceLT, Nat.reduceEqDiff, reduceCtorEq, Int.reduceLT, Int.reduceEq]
    refine X_draw rfl ?_
    simp only [go_sem, Nat.reduceLT, Nat.reduceEqDiff, reduceCtorEq, Int.reduceLT, Int.reduceEq, hs, h0, hu.ln, eB_len, ge_iff_le, c1, c, Bool.false_and]
end Go.V05

set_option linter.unusedSimpArgs false
set_option linter.unusedVariables false
namespace Go.V05
open Go Go.Vm

/-! ### a page: plain -/
abbrev KV := List UInt8 × List UInt8
def fitF : Nat → List KV → Nat
  | _, [] => 0
  | n, p :: r => if 30 < p.1.length ∨ 150 < p.2.length then 0 else if 250 < n + (1 + (rowB p).length) then 0 else 1 + fitF (n + (1 + (rowB p).length)) r
def sumR (l : List KV) : Nat := (l.map fun p => 1 + (rowB p).length).sum
theorem sumR_cons {p : KV} {l : List KV} : sumR (p :: l) = 1 + (rowB p).length + sumR l := by simp [sumR]
theorem fitF_le : ∀ (l : List KV) (n : Nat), fitF n l ≤ l.length
  | [], n => Nat.le_refl _
  | p :: l, n => by
    simp only [fitF]
    split
    · simp
    · split
      · simp
      · have := fitF_le l (n + (1 + (rowB p).length)); simp; omega
theorem fitF_all : ∀ (l : List KV) (n : Nat), fitF n l = l.length → n ≤ 250 → n + sumR l ≤ 250 ∧ Fits l
  | [], n, _, hn => ⟨by simp [sumR]; exact hn, fun p h => by cases h⟩
  | p :: l, n, h, hn => by
    simp only [fitF] at h
    split at h
    · simp at h
    · rename_i c1
      split at h
      · simp at h
      · have := fitF_all l (n + (1 + (rowB p).length)) (by simp at h; omega) (by omega)
        rw [sumR_cons]
        refine ⟨by omega, fun q hq => ?_⟩
        rcases List.mem_cons.1 hq with rfl | hq
        · omega
        · exact this.2 q hq
theorem fitF_of : ∀ (l : List KV) (n : Nat), n + sumR l ≤ 250 → Fits l → fitF n l = l.length
  | [], n, _, _ => rfl
  | p :: l, n, h, hf => by
    rw [sumR_cons] at h
    have hp := hf p (List.mem_cons_self ..)
    simp only [fitF]
    rw [if_neg (by omega), if_neg (by omega), fitF_of l _ (by omega) (fun q hq => hf q (List.mem_cons_of_mem _ hq))]
    simp; omega
/-- As many as fit do fit; one more does not. -/
theorem fitF_take : ∀ (l : List KV) (n : Nat), fitF n (l.take (fitF n l)) = fitF n l
  | [], n => rfl
  | p :: l, n => by
    simp only [fitF]
    split
    · rfl
    · rename_i c1
      split
      · rfl
      · rename_i c2
        rw [Nat.add_comm 1, List.take_succ_cons]
        simp only [fitF]
        rw [if_neg c1, if_neg c2, fitF_take l]
        omega
theorem fitF_more : ∀ (l : List KV) (n : Nat), fitF n l < l.length → fitF n (l.take (fitF n l + 1)) = fitF n l
  | [], n, h => by simp at h
  | p :: l, n, h => by
    simp only [fitF] at h ⊢
    split
    · rename_i c1
      rw [List.take_succ_cons]; simp only [fitF]; rw [if_pos c1]
    · rename_i c1
      split
      · rename_i c2
        rw [List.take_succ_cons]; simp only [fitF]; rw [if_neg c1, if_pos c2]
      · rename_i c2
        rw [if_neg c1, if_neg c2] at h
        rw [Nat.add_comm 1 (fitF _ l), List.take_succ_cons]
        simp only [fitF]
        rw [if_neg c1, if_neg c2, fitF_more l _ (by simp at h; omega)]
        omega

def putR : List UInt8 → Nat → Nat → List KV → List UInt8
  | pg, _, _, [] => pg
  | pg, i, a, p :: r => putR (splice (pg.set (2 + i) (UInt8.ofNat (a - (rowB p).length))) (a - (rowB p).length) (rowB p)) (i + 1) (a - (rowB p).length) r
def page0 (level n : Nat) : List UInt8 := UInt8.ofNat level :: UInt8.ofNat n :: List.replicate 250 0
theorem page0_len {a b : Nat} : (page0 a b).length = 252 := by unfold page0; rw [List.length_cons, List.length_cons, List.length_replicate]
def pageR (level : Nat) (l : List KV) : List UInt8 := putR (page0 level l.length) 0 252 l
def pageB (level : Nat) (l : List KV) : List UInt8 := sealB (pageR level l)
def encF (level : Int) (l : List KV) : Option (List UInt8) := if level < 0 ∨ 4 < level ∨ fitF 0 l < l.length then none else some (pageB level.toNat l)

theorem putR_len : ∀ (l : List KV) (pg : List UInt8) (i a : Nat), sumR l ≤ a → a ≤ pg.length → (putR pg i a l).length = pg.length
  | [], pg, i, a, _, _ => rfl
  | p :: l, pg, i, a, h, ha => by
    rw [sumR_cons] at h
    have hl : (splice (pg.set (2 + i) (UInt8.ofNat (a - (rowB p).length))) (a - (rowB p).length) (rowB p)).length = pg.length := by
      rw [splice_len (by rw [List.length_set]; omega), List.length_set]
    simp only [putR]
    rw [putR_len l _ _ _ (by omega) (by rw [hl]; omega), hl]
theorem pageR_len {level : Nat} {l : List KV} (h : sumR l ≤ 250) : (pageR level l).length = 252 := by
  unfold pageR
  rw [putR_len _ _ _ _ (by omega) (by rw [page0_len]; omega), page0_len]
theorem splice_out {α : Type} {l c : List α} {off j : Nat} (h : off + c.length ≤ l.length) (hj : j < off ∨ off + c.length ≤ j) : (splice l off c)[j]? = l[j]? := by
  unfold splice
  have ht : (l.take off).length = off := by simp; omega
  rcases hj with hj | hj
  · rw [List.append_assoc, List.getElem?_append_left (by omega), List.getElem?_take_of_lt hj]
  · rw [List.getElem?_append_right (by simp; omega), List.getElem?_drop]
    congr 1
    simp; omega
theorem splice_in {α : Type} {l c : List α} {off j : Nat} (h : off + c.length ≤ l.length) (hj : j < c.length) : (splice l off c)[off + j]? = c[j]? := by
  unfold splice
  have ht : (l.take off).length = off := by simp; omega
  rw [List.append_assoc, List.getElem?_append_right (by omega), ht, Nat.add_sub_cancel_left, List.getElem?_append_left hj]
/-- What is before the places, and what is behind, stays. -/
theorem putR_frame : ∀ (l : List KV) (pg : List UInt8) (i a : Nat), 2 + i + sumR l ≤ a → a ≤ pg.length → ∀ j, j < 2 + i ∨ a ≤ j → (putR pg i a l)[j]? = pg[j]?
  | [], pg, i, a, _, _, j, _ => rfl
  | p :: l, pg, i, a, h, ha, j, hj => by
    rw [sumR_cons] at h
    have hl : (splice (pg.set (2 + i) (UInt8.ofNat (a - (rowB p).length))) (a - (rowB p).length) (rowB p)).length = pg.length := by
      rw [splice_len (by rw [List.length_set]; omega), List.length_set]
    simp only [putR]
    rw [putR_frame l _ (i + 1) _ (by omega) (by rw [hl]; omega) j (by omega), splice_out (by rw [List.length_set]; omega) (by omega), List.getElem?_set_ne (by omega)]

/-! ### the way back -/
def lastF (b : List UInt8) (a to : Nat) : Option KV :=
  if to ≤ a then none else
  if (getText (b.take to) a 30).2.2 ≠ 0 then none else
  if (getText (b.take to) (getText (b.take to) a 30).2.1 150).2.2 = 0 ∧ (getText (b.take to) (getText (b.take to) a 30).2.1 150).2.1 = to then some ((getText (b.take to) a 30).1, (getText (b.take to) (getText (b.take to) a 30).2.1 150).1) else none
def decL (b : List UInt8) : Nat → Nat → Nat → Option (List KV)
  | 0, _, _ => some []
  | n + 1, i, to => if to ≤ 2 + i then none else match lastF b (b.getD (2 + i) 0).toNat to with
    | none => none
    | some p => (decL b n (i + 1) (b.getD (2 + i) 0).toNat).map (p :: ·)
def decF (b : List UInt8) : Nat × List KV × Nat :=
  if b.length ≠ 256 then (0, [], 11) else if rightB b = false then (0, [], 12) else
  match decL b (b.getD 1 0).toNat 0 252 with
  | none => (0, [], 11)
  | some l => if encF ((b.getD 0 0).toNat : Int) l = some b then ((b.getD 0 0).toNat, l, 0) else (0, [], 11)

theorem lastF_row {b : List UInt8} {a : Nat} {p : KV} (h1 : p.1.length ≤ 30) (h2 : p.2.length ≤ 150) (hb : b.take (a + (rowB p).length) = b.take a ++ rowB p) (ha : (b.take a).length = a) : lastF b a (a + (rowB p).length) = some p := by
  have hne : 0 < (rowB p).length := by
    unfold rowB
    have hn : text p.1 ≠ [] := fun e => text_ne p.1 (by rw [e]; rfl)
    have := List.length_pos_iff.2 hn
    simp; omega
  have e1 : getText (b.take a ++ rowB p) a 30 = (p.1, a + (text p.1).length, 0) := by
    have := getText_text (b.take a) (text p.2) p.1 30 (by omega)
    rw [ha, if_neg (by omega)] at this
    rw [← this]; unfold rowB; rw [List.append_assoc]
  have e2 : getText (b.take a ++ rowB p) ((a + (text p.1).length : Nat) : Int) 150 = (p.2, a + (rowB p).length, 0) := by
    have := getText_text (b.take a ++ text p.1) [] p.2 150 (by omega)
    rw [List.length_append, ha, if_neg (by omega)] at this
    unfold rowB
    rw [List.append_nil, List.append_assoc] at this
    rw [this, List.length_append]
    simp; omega
  unfold lastF
  rw [if_neg (by omega), hb, e1]
  simp only [ne_eq, not_true_eq_false, if_false, e2, and_self, if_true]

theorem decL_put : ∀ (l : List KV) (pg b : List UInt8) (i a : Nat), Fits l → 2 + i + sumR l ≤ a → a ≤ pg.length → a ≤ 252 → (∀ j, j < pg.length → b[j]? = (putR pg i a l)[j]?) → decL b l.length i a = some l
  | [], pg, b, i, a, _, _, _, _, _ => rfl
  | p :: l, pg, b, i, a, hf, h, ha, ha2, hb => by
    rw [sumR_cons] at h
    have hp := hf p (List.mem_cons_self ..)
    have hl : (splice (pg.set (2 + i) (UInt8.ofNat (a - (rowB p).length))) (a - (rowB p).length) (rowB p)).length = pg.length := by
      rw [splice_len (by rw [List.length_set]; omega), List.length_set]
    simp only [putR] at hb
    have hfr := putR_frame l (splice (pg.set (2 + i) (UInt8.ofNat (a - (rowB p).length))) (a - (rowB p).length) (rowB p)) (i + 1) (a - (rowB p).length) (by omega) (by rw [hl]; omega)
    have hslot : b.getD (2 + i) 0 = UInt8.ofNat (a - (rowB p).length) := by
      rw [List.getD_eq_getElem?_getD, hb _ (by omega), hfr _ (by omega), splice_out (by rw [List.length_set]; omega) (by omega), List.getElem?_set_self (by omega)]
      rfl
    have hslot' : (b.getD (2 + i) 0).toNat = a - (rowB p).length := by rw [hslot]; exact toNat_of (by omega)
    have hbl : a ≤ b.length := by
      apply Nat.le_of_not_lt
      intro hlt
      have h1 := hb b.length (by omega)
      rw [List.getElem?_eq_none (Nat.le_refl _)] at h1
      have h2 := putR_len l (splice (pg.set (2 + i) (UInt8.ofNat (a - (rowB p).length))) (a - (rowB p).length) (rowB p)) (i + 1) (a - (rowB p).length) (by omega) (by rw [hl]; omega)
      have := List.getElem?_eq_none_iff.1 h1.symm
      omega
    have htake : b.take (a - (rowB p).length + (rowB p).length) = b.take (a - (rowB p).length) ++ rowB p := by
      apply List.ext_getElem?
      intro j
      by_cases hj : j < a - (rowB p).length
      · rw [List.getElem?_take_of_lt (by omega), List.getElem?_append_left (by simp; omega), List.getElem?_take_of_lt hj]
      · by_cases hj2 : j < a
        · rw [List.getElem?_take_of_lt (by omega), List.getElem?_append_right (by simp; omega), List.length_take, Nat.min_eq_left (by omega)]
          rw [hb _ (by omega), hfr _ (by omega)]
          have := splice_in (l := pg.set (2 + i) (UInt8.ofNat (a - (rowB p).length))) (c := rowB p) (off := a - (rowB p).length) (j := j - (a - (rowB p).length)) (by rw [List.length_set]; omega) (by omega)
          rw [← this]; congr 1; omega
        · rw [List.getElem?_eq_none (by simp; omega), List.getElem?_eq_none (by simp; omega)]
    have hlast := lastF_row (b := b) (a := a - (rowB p).length) hp.1 hp.2 htake (by simp; omega)
    rw [Nat.sub_add_cancel (by omega)] at hlast
    simp only [List.length_cons, decL]
    rw [if_neg (by omega), hslot', hlast, decL_put l _ b (i + 1) (a - (rowB p).length) (fun q hq => hf q (List.mem_cons_of_mem _ hq)) (by omega) (by rw [hl]; omega) (by omega) (fun j hj => hb j (by rw [hl] at hj; exact hj))]
    rfl

theorem rightB_seal {b : List UInt8} : rightB (sealB b) = true := by
  unfold rightB
  have h1 : (sealB b).take ((sealB b).length - 4) = b := by
    rw [sealB_len, Nat.add_sub_cancel]; unfold sealB; exact List.take_left
  rw [h1]
  simp [sealB_len]
/-- A page is read as it was made. -/
theorem decF_page {level : Nat} {l : List KV} (hl : level ≤ 4) (hf : fitF 0 l = l.length) : decF (pageB level l) = (level, l, 0) := by
  obtain ⟨hs, hF⟩ := fitF_all l 0 hf (by omega)
  rw [Nat.zero_add] at hs
  have hcount : l.length ≤ 250 := by
    have : ∀ l : List KV, l.length ≤ sumR l := by
      intro l
      induction l with
      | nil => simp [sumR]
      | cons p l ih => rw [sumR_cons]; simp; omega
    have := this l; omega
  have hlen := pageR_len (level := level) hs
  have hplen : (pageB level l).length = 256 := by unfold pageB; rw [sealB_len, hlen]
  have hget : ∀ j, j < 252 → (pageB level l)[j]? = (pageR level l)[j]? := by
    intro j hj
    unfold pageB sealB
    rw [List.getElem?_append_left (by omega)]
  have hfr := putR_frame l (page0 level l.length) 0 252 (by omega) (by rw [page0_len]; omega)
  have h0 : (pageB level l).getD 0 0 = UInt8.ofNat level := by
    rw [List.getD_eq_getElem?_getD, hget 0 (by omega)]
    unfold pageR
    rw [hfr 0 (by omega)]; rfl
  have h1 : (pageB level l).getD 1 0 = UInt8.ofNat l.length := by
    rw [List.getD_eq_getElem?_getD, hget 1 (by omega)]
    unfold pageR
    rw [hfr 1 (by omega)]; rfl
  have hdec : decL (pageB level l) l.length 0 252 = some l := decL_put l (page0 level l.length) (pageB level l) 0 252 hF (by omega) (by rw [page0_len]; omega) (by omega) (fun j hj => hget j (by rw [page0_len] at hj; exact hj))
  have henc : encF (level : Int) l = some (pageB level l) := by
    unfold encF
    rw [if_neg (by omega), Int.toNat_natCast]
  unfold decF
  rw [if_neg (by rw [hplen]; simp), if_neg (by unfold pageB; rw [rightB_seal]; simp), h1, toNat_of (by omega), hdec]
  simp only [h0, toNat_of (show level < 256 by omega), henc, if_true]
/-- With another byte, it is none. -/
theorem rightB_other {b : List UInt8} {i : Nat} (hi : i < b.length + 4) {v : UInt8} (hv : (sealB b)[i]? ≠ some v) : rightB ((sealB b).set i v) = false := by
  have hlen : ((sealB b).set i v).length = b.length + 4 := by rw [List.length_set, sealB_len]
  unfold rightB
  rw [hlen, Nat.add_sub_cancel]
  have : ¬ sealB (((sealB b).set i v).take b.length) = (sealB b).set i v := by
    intro h
    by_cases hlt : i < b.length
    · have e1 : ((sealB b).set i v).take b.length = b.set i v := by
        unfold sealB
        rw [List.set_append_left _ _ hlt, List.take_left' (by rw [List.length_set])]
      rw [e1] at h
      unfold sealB at h
      rw [List.set_append_left _ _ hlt] at h
      have e2 := List.append_cancel_left h
      have e3 := le4_inj (crc_lt _) (crc_lt _) e2
      refine crc_other hlt ?_ e3
      intro e
      apply hv
      unfold sealB
      rw [List.getElem?_append_left hlt, List.getElem?_eq_getElem hlt, e]
    · have e1 : ((sealB b).set i v).take b.length = b := by
        unfold sealB
        rw [List.set_append_right _ _ (by omega), List.take_left]
      rw [e1] at h
      apply hv
      rw [h, List.getElem?_set_self (by rw [sealB_len]; exact hi)]
  rw [decide_eq_false this, Bool.and_false]
end Go.V05

set_option linter.unusedSimpArgs false
set_option linter.unusedVariables false
namespace Go.V05
open Go Go.Vm

theorem Buf.nb {h0 h : Heap} {z : Nat} {els : List (List CV)} {v : VV} (b : Buf h0 z els v h) : NB h0 h z els v := by
  rcases b with ⟨rfl, rfl, rfl⟩ | ⟨g, rfl, rfl⟩
  · exact NB.nil _ _
  · exact ⟨HExt.push _ _, .inr ⟨h0.length, g, Nat.le_refl _, rfl, at_last⟩⟩

/-! ### a row's bytes -/
theorem row_f22 (h : Heap) {k l : List UInt8} {c : CV} (hc : SlV 1 (eB l) (.cv c)) (hk : k.length ≤ 100000000) (hl : l.length ≤ 100000000) : Ret F 22 [.agg [txt k, .cv c]] h fun v h' => NB h h' 1 (eB (rowB (k, l))) v := by
  refine call_E (fn := f22) rfl ?_
  simp only [f22]
  generalize hs0 : ([.agg [txt k, .cv c]] ++ List.replicate _ VV.undef : List VV) = s
  have hs : s.length = 11 := by rw [← hs0]; rfl
  have h0 : s.getD 0 .undef = .agg [txt k, .cv c] := by rw [← hs0]; rfl
  clear hs0
  simp only [go_sem, Nat.reduceLT, Nat.reduceEqDiff, reduceCtorEq, Int.reduceLT, Int.reduceEq, hs, h0]
  rw [bx_agg (n := 2) rfl]
  simp only [go_sem, Nat.reduceLT, Nat.reduceEqDiff, reduceCtorEq, Int.reduceLT, Int.reduceEq, hs]
  have x1 := HExt.push h (VO.box [txt k, .cv c] false)
  have q1 : (h ++ [VO.box [txt k, .cv c] false])[h.length]? = some (.box [txt k, .cv c] false) := at_last
  generalize h ++ [VO.box [txt k, .cv c] false] = g1 at x1 q1
  obtain ⟨v5, g5, n5, b5⟩ := text_f31 k g1 (by omega)
  obtain ⟨v9, g9, n9, b9⟩ := text_f31 l g5 (by omega)
  have B5 := Buf.nb b5
  have B9 := Buf.nb b9
  have q5 := B5.ext.get q1
  have q9 := B9.ext.get q5
  refine X_drawA 7 (fun g => g[h.length]? = some (.box [txt k, .cv c] false)) q1 rfl rfl ?_
  simp only [List.take_succ_cons, List.take_zero]
  refine XDA_p (v := .ptr h.length 0) rfl (by rw [st_fad]; simp only [go_sem, Nat.reduceLT, Nat.reduceEqDiff, reduceCtorEq, Int.reduceLT, Int.reduceEq, hs]) ?_
  refine XDA_req (v := txt k) rfl (by rw [st_ldq]; simp only [go_sem, Nat.reduceLT, Nat.reduceEqDiff, reduceCtorEq, Int.reduceLT, Int.reduceEq, hs]; exact ld_ptr q1 rfl) ?_
  refine XDA_callR (by simp only [List.map, go_sem, Nat.reduceLT, Nat.reduceEqDiff, reduceCtorEq, Int.reduceLT, Int.reduceEq, hs]; exact n5) q5 ?_
  refine XDA_p (v := .ptr h.length 1) rfl (by rw [st_fad]; simp only [go_sem, Nat.reduceLT, Nat.reduceEqDiff, reduceCtorEq, Int.reduceLT, Int.reduceEq, hs]) ?_
  refine XDA_r (v := .cv c) rfl q5 (fun g hg => by rw [st_ldq]; simp only [go_sem, Nat.reduceLT, Nat.reduceEqDiff, reduceCtorEq, Int.reduceLT, Int.reduceEq, hs]; exact ld_ptr hg rfl) ?_
  refine XDA_r (v := txt l) rfl q5 (fun g hg => by rw [st_cvBS]; simp only [go_sem, Nat.reduceLT, Nat.reduceEqDiff, reduceCtorEq, Int.reduceLT, Int.reduceEq, hs, hc.bs]) ?_
  refine XDA_callR (by simp only [List.map, go_sem, Nat.reduceLT, Nat.reduceEqDiff, reduceCtorEq, Int.reduceLT, Int.reduceEq, hs]; exact n9) q9 ?_
  simp only [XDA, List.drop_succ_cons, List.drop_zero]
  have ht1 : (eB (text k)).length ≤ 200000000 := by
    rw [eB_len]; unfold text; rw [List.length_append]
    have := num_len (k.length : Int); omega
  have ht2 : (eB (text l)).length ≤ 200000000 := by
    rw [eB_len]; unfold text; rw [List.length_append]
    have := num_len (l.length : Int); omega
  have BB : NB h g9 1 (eB (text k)) v5 := by
    have := (B5.then B9.ext)
    exact ⟨x1.trans this.ext, this.v.imp id (fun ⟨id, g, a1, a2⟩ => ⟨id, g, Nat.le_trans x1.len a1, a2⟩)⟩
  refine XD_appNB BB (new := eB (text l)) (by simp only [go_sem, Nat.reduceLT, Nat.reduceEqDiff, reduceCtorEq, Int.reduceLT, Int.reduceEq, hs]) (by simp only [go_sem, Nat.reduceLT, Nat.reduceEqDiff, reduceCtorEq, Int.reduceLT, Int.reduceEq, hs]; exact B9.src) (by omega) (by omega) (fun v' h' B' _ _ _ => ?_)
  simp only [go_sem, Nat.reduceLT, Nat.reduceEqDiff, reduceCtorEq, Int.reduceLT, Int.reduceEq, hs]
  rw [← eB_append] at B'
  exact B'
theorem row_pure {k l : List UInt8} {c : CV} (hc : SlV 1 (eB l) (.cv c)) (hk : k.length ≤ 100000000) (hl : l.length ≤ 100000000) : RetP F 22 [.agg [txt k, .cv c]] (SlV 1 (eB (rowB (k, l)))) := by
  obtain ⟨v, h', n, B⟩ := row_f22 [] hc hk hl
  exact ⟨v, h', n, B.res⟩

theorem rjoin_f41 (h : Heap) {a b : List UInt8} {va vb_ : VV} (ha : SlV 1 (eB a) va) (hb : SlV 1 (eB b) vb_) (hl : a.length + b.length ≤ 1000000000) : Ret F 41 [va, vb_] h fun v h' => NB h h' 1 (eB (a ++ b)) v := by
  refine call_E (fn := f41) rfl ?_
  simp only [f41]
  generalize hs0 : ([va, vb_] ++ List.replicate _ VV.undef : List VV) = s
  have hs : s.length = 13 := by rw [← hs0]; rfl
  have h0 : s.getD 0 .undef = va := by rw [← hs0]; rfl
  have h1 : s.getD 1 .undef = vb_ := by rw [← hs0]; rfl
  clear hs0
  simp only [go_sem, Nat.reduceLT, Nat.reduceEqDiff, reduceCtorEq, Int.reduceLT, Int.reduceEq, hs, h0]
  refine XO_appNB (NB.nil h 1) (new := eB a) (by simp only [go_sem, Nat.reduceLT, Nat.reduceEqDiff, reduceCtorEq, Int.reduceLT, Int.reduceEq, hs]) (by simp only [go_sem, Nat.reduceLT, Nat.reduceEqDiff, reduceCtorEq, Int.reduceLT, Int.reduceEq, hs, h0]; exact ha.src) (by simp only [eB_len, List.length_nil]; omega) (by simp only [eB_len, List.length_nil]; omega) (fun v5 h5 B5 _ _ _ => ?_)
  rw [List.nil_append] at B5
  simp only [go_sem, Nat.reduceLT, Nat.reduceEqDiff, reduceCtorEq, Int.reduceLT, Int.reduceEq, hs, h1]
  refine XO_appNB B5 (new := eB b) (by simp only [go_sem, Nat.reduceLT, Nat.reduceEqDiff, reduceCtorEq, Int.reduceLT, Int.reduceEq, hs]) (by simp only [go_sem, Nat.reduceLT, Nat.reduceEqDiff, reduceCtorEq, Int.reduceLT, Int.reduceEq, hs, h1]; exact hb.src) (by simp only [eB_len]; omega) (by simp only [eB_len]; omega) (fun v6 h6 B6 _ _ _ => ?_)
  rw [← eB_append] at B6
  simp only [go_sem, Nat.reduceLT, Nat.reduceEqDiff, reduceCtorEq, Int.reduceLT, Int.reduceEq, hs]
  exact B6
theorem rtext_f34 (h : Heap) (l : List UInt8) (hl : l.length ≤ 900000000) : Ret F 34 [txt l] h fun v h' => NB h h' 1 (eB (text l)) v := by
  refine call_E (fn := f34) rfl ?_
  simp only [f34]
  generalize hs0 : ([txt l] ++ List.replicate _ VV.undef : List VV) = s
  have hs : s.length = 9 := by rw [← hs0]; rfl
  have h0 : s.getD 0 .undef = txt l := by rw [← hs0]; rfl
  clear hs0
  obtain ⟨v5, h5, n5, r5⟩ := rnum_pure (l.length : Int)
  have hn := num_len (l.length : Int)
  simp only [go_sem, Nat.reduceLT, Nat.reduceEqDiff, reduceCtorEq, Int.reduceLT, Int.reduceEq, hs, h0]
  refine XO_callP (h1 := h) (by simp only [List.map, go_sem, Nat.reduceLT, Nat.reduceEqDiff, reduceCtorEq, Int.reduceLT, Int.reduceEq, hs]; rfl) n5 r5 ?_
  simp only [go_sem, Nat.reduceLT, Nat.reduceEqDiff, reduceCtorEq, Int.reduceLT, Int.reduceEq, hs, h0]
  obtain ⟨v8, h8, n8, B8⟩ := rjoin_f41 h (a := num (clamp l.length)) (b := l) (va := .cv (.sl 1 (eB (num (clamp l.length))) false)) (vb_ := .cv (.sl 1 (eB l) false)) (.inr ⟨false, rfl⟩) (.inr ⟨false, rfl⟩) (by omega)
  refine XO_callR (by simp only [List.map, go_sem, Nat.reduceLT, Nat.reduceEqDiff, reduceCtorEq, Int.reduceLT, Int.reduceEq, hs]; exact n8) ?_
  simp only [go_sem, Nat.reduceLT, Nat.reduceEqDiff, reduceCtorEq, Int.reduceLT, Int.reduceEq, hs]
  exact B8
theorem rbytes_f27 (h : Heap) {k l : List UInt8} {c : CV} (hc : SlV 1 (eB l) (.cv c)) (hk : k.length ≤ 100000000) (hl : l.length ≤ 100000000) : Ret F 27 [.agg [txt k, .cv c]] h fun v h' => NB h h' 1 (eB (rowB (k, l))) v := by
  refine call_E (fn := f27) rfl ?_
  simp only [f27]
  generalize hs0 : ([.agg [txt k, .cv c]] ++ List.replicate _ VV.undef : List VV) = s
  have hs : s.length = 16 := by rw [← hs0]; rfl
  have h0 : s.getD 0 .undef = .agg [txt k, .cv c] := by rw [← hs0]; rfl
  clear hs0
  simp only [go_sem, Nat.reduceLT, Nat.reduceEqDiff, reduceCtorEq, Int.reduceLT, Int.reduceEq, hs, h0]
  rw [bx_agg (n := 2) rfl]
  simp only [go_sem, Nat.reduceLT, Nat.reduceEqDiff, reduceCtorEq, Int.reduceLT, Int.reduceEq, hs]
  have x1 := HExt.push h (VO.box [txt k, .cv c] false)
  have q1 : (h ++ [VO.box [txt k, .cv c] false])[h.length]? = some (.box [txt k, .cv c] false) := at_last
  generalize h ++ [VO.box [txt k, .cv c] false] = g1 at x1 q1
  obtain ⟨v5, g5, n5, B5⟩ := rtext_f34 g1 k (by omega)
  have q5 := B5.ext.get q1
  have l0 : ldO g1 false 1 (.ptr h.length 0) = some (txt k, g1) := ld_ptr q1 rfl
  have l1 : ldO g5 false 1 (.ptr h.length 1) = some (.cv c, g5) := ld_ptr q5 rfl
  simp only [go_sem, Nat.reduceLT, Nat.reduceEqDiff, reduceCtorEq, Int.reduceLT, Int.reduceEq, hs, l0]
  refine XO_callR (by simp only [List.map, go_sem, Nat.reduceLT, Nat.reduceEqDiff, reduceCtorEq, Int.reduceLT, Int.reduceEq, hs]; exact n5) ?_
  obtain ⟨v9, g9, n9, B9⟩ := rtext_f34 g5 l (by omega)
  simp only [go_sem, Nat.reduceLT, Nat.reduceEqDiff, reduceCtorEq, Int.reduceLT, Int.reduceEq, hs, l1, hc.bs]
  refine XO_callR (by simp only [List.map, go_sem, Nat.reduceLT, Nat.reduceEqDiff, reduceCtorEq, Int.reduceLT, Int.reduceEq, hs]; exact n9) ?_
  have ht1 : (eB (text k)).length ≤ 200000000 := by
    rw [eB_len]; unfold text; rw [List.length_append]
    have := num_len (k.length : Int); omega
  have ht2 : (eB (text l)).length ≤ 200000000 := by
    rw [eB_len]; unfold text; rw [List.length_append]
    have := num_len (l.length : Int); omega
  have BB : NB h g9 1 (eB (text k)) v5 := by
    have := (B5.then B9.ext)
    exact ⟨x1.trans this.ext, this.v.imp id (fun ⟨id, g, a1, a2⟩ => ⟨id, g, Nat.le_trans x1.len a1, a2⟩)⟩
  simp only [go_sem, Nat.reduceLT, Nat.reduceEqDiff, reduceCtorEq, Int.reduceLT, Int.reduceEq, hs]
  refine XO_appNB BB (new := eB (text l)) (by simp only [go_sem, Nat.reduceLT, Nat.reduceEqDiff, reduceCtorEq, Int.reduceLT, Int.reduceEq, hs]) (by simp only [go_sem, Nat.reduceLT, Nat.reduceEqDiff, reduceCtorEq, Int.reduceLT, Int.reduceEq, hs]; exact B9.src) (by omega) (by omega) (fun v' h' B' _ _ _ => ?_)
  simp only [go_sem, Nat.reduceLT, Nat.reduceEqDiff, reduceCtorEq, Int.reduceLT, Int.reduceEq, hs]
  rw [← eB_append] at B'
  exact B'
theorem rbytes_pure {k l : List UInt8} {c : CV} (hc : SlV 1 (eB l) (.cv c)) (hk : k.length ≤ 100000000) (hl : l.length ≤ 100000000) : RetP F 27 [.agg [txt k, .cv c]] (SlV 1 (eB (rowB (k, l)))) := by
  obtain ⟨v, h', n, B⟩ := rbytes_f27 [] hc hk hl
  exact ⟨v, h', n, B.res⟩
end Go.V05

set_option linter.unusedSimpArgs false
set_option linter.unusedVariables false
namespace Go.V05
open Go Go.Vm

/-! ### Fit -/
theorem fit_step {kv : List KV} {k n : Nat} {p : KV} (hp : kv[k]? = some p) : fitF n (kv.drop k) = if 30 < p.1.length ∨ 150 < p.2.length then 0 else if 250 < n + (1 + (rowB p).length) then 0 else 1 + fitF (n + (1 + (rowB p).length)) (kv.drop (k + 1)) := by
  obtain ⟨hlt, e⟩ := List.getElem?_eq_some_iff.1 hp
  rw [List.drop_eq_getElem_cons hlt, e]
  rfl
theorem rowB_le {p : KV} (h : p.1.length ≤ 30 ∧ p.2.length ≤ 150) : (rowB p).length ≤ 200 := rowB_len p h

theorem f11_loop {els : List (List CV)} {kv : List KV} {u : VV} (hS : SlV 2 els u) (hR : RowsE els kv) (hn : kv.length ≤ 9223372036854775807) :
    ∀ (r k n : Nat) (s : List VV) (h : Heap) (Q : Pst), k + r = kv.length → n ≤ 250 → s.length = 36 → s.getD 0 .undef = u → s.getD 3 .undef = vi .i64 n → s.getD 6 .undef = u → s.getD 7 .undef = vi .i64 kv.length → s.getD 8 .undef = vi .i64 k →
      (fitF n (kv.drop k) = r → ∀ s' h', s'.length = 36 → s'.getD 0 .undef = u → Q (.exit 0) ⟨s', h'⟩) → (∀ s' h', s'.length = 36 → s'.getD 2 .undef = vi .i64 ((k + fitF n (kv.drop k) : Nat) : Int) → Q .ret ⟨s', h'⟩) → X F (.loop f11_2) ⟨s, h⟩ Q := by
  intro r
  induction r with
  | zero =>
    intro k n s h Q hk hn2 hs h0 h3 h6 h7 h8 hE hQ
    rw [X_loop, X_eq f11_2.eq_1]
    have c : ¬ (k : Int) < (kv.length : Int) := by omega
    simp only [go_sem, Nat.reduceLT, Nat.reduceEqDiff, reduceCtorEq, Int.reduceLT, Int.reduceEq, hs, h7, h8, c]
    rw [X_eq f11_0.eq_1]
    simp only [go_sem, Nat.reduceLT, Nat.reduceEqDiff, reduceCtorEq, Int.reduceLT, Int.reduceEq, hs]
    refine hE ?_ _ _ (by simp only [slot_len, hs]) (by simp only [go_sem, Nat.reduceLT, Nat.reduceEqDiff, reduceCtorEq, Int.reduceLT, Int.reduceEq, h0])
    rw [List.drop_eq_nil_of_le (by omega)]; rfl
  | succ r ih =>
    intro k n s h Q hk hn2 hs h0 h3 h6 h7 h8 hE hQ
    obtain ⟨e, p, he, hp, c, rfl, hc⟩ := hR.get (i := k) (by omega)
    obtain ⟨key, val⟩ := p
    simp only at hc
    have hfit := fit_step (n := n) hp
    rw [X_loop, X_eq f11_2.eq_1]
    have c1 : (k : Int) < (kv.length : Int) := by omega
    have hw : IntKind.i64.wrap ((k : Int) + 1) = ((k + 1 : Nat) : Int) := by rw [IntWalk.i64_in _ (by omega)]; omega
    have hia := hS.ia (h := h) (k := .i64) (j := (k : Int)) (by omega) he
    simp only [go_sem, Nat.reduceLT, Nat.reduceEqDiff, reduceCtorEq, Int.reduceLT, Int.reduceEq, hs, h7, h8, c1]
    rw [X_eq f11_0.eq_1]
    simp only [go_sem, Nat.reduceLT, Nat.reduceEqDiff, reduceCtorEq, Int.reduceLT, Int.reduceEq, hs, h6, h8, hia, ld_rN (n := 2) (show [CV.sc (.string ⟨key.toArray⟩), c].length = 2 from rfl), List.map]
    rw [X_eq f11_1.eq_1]
    have q1 : (h ++ [VO.box [txt key, .cv c] false])[h.length]? = some (.box [txt key, .cv c] false) := at_last
    generalize h ++ [VO.box [txt key, .cv c] false] = g at q1
    have l0 : ldO g false 1 (.ptr h.length 0) = some (txt key, g) := ld_ptr q1 rfl
    have l1 : ldO g false 1 (.ptr h.length 1) = some (.cv c, g) := ld_ptr q1 rfl
    have l2 : ldO g true 2 (.ptr h.length 0) = some (.agg [txt key, .cv c], g) := ld_bxN q1 rfl
    by_cases d1 : (30 : Int) < (key.length : Int)
    · have d1' : 30 < key.length := by omega
      simp only [go_sem, Nat.reduceLT, Nat.reduceEqDiff, reduceCtorEq, Int.reduceLT, Int.reduceEq, hs, l0, gt_iff_lt, d1]
      rw [if_pos (.inl d1')] at hfit
      exact hQ _ _ (by simp only [slot_len, hs]) (by simp only [go_sem, Nat.reduceLT, Nat.reduceEqDiff, reduceCtorEq, Int.reduceLT, Int.reduceEq, hs, hfit]; rfl)
    · have d1' : ¬ 30 < key.length := by omega
      by_cases d2 : (150 : Int) < (val.length : Int)
      · have d2' : 150 < val.length := by omega
        simp only [go_sem, Nat.reduceLT, Nat.reduceEqDiff, reduceCtorEq, Int.reduceLT, Int.reduceEq, hs, l0, l1, hc.ln, eB_len, gt_iff_lt, d1, d2]
        rw [if_pos (.inr d2')] at hfit
        exact hQ _ _ (by simp only [slot_len, hs]) (by simp only [go_sem, Nat.reduceLT, Nat.reduceEqDiff, reduceCtorEq, Int.reduceLT, Int.reduceEq, hs, hfit]; rfl)
      · have d2' : ¬ 150 < val.length := by omega
        rw [if_neg (by simp only; omega)] at hfit
        obtain ⟨v, h', n22, w, hw2, hS2⟩ := row_pure (k := key) (l := val) hc (by omega) (by omega)
        have hrl := rowB_le (p := (key, val)) ⟨by simp only; omega, by simp only; omega⟩
        have ea : IntKind.i64.wrap (1 + ((rowB (key, val)).length : Int)) = ((1 + (rowB (key, val)).length : Nat) : Int) := by rw [IntWalk.i64_in _ (by omega)]; omega
        have eb : IntKind.i64.wrap ((n : Int) + ((1 + (rowB (key, val)).length : Nat) : Int)) = ((n + (1 + (rowB (key, val)).length) : Nat) : Int) := by rw [IntWalk.i64_in _ (by omega)]; omega
        simp only [go_sem, Nat.reduceLT, Nat.reduceEqDiff, reduceCtorEq, Int.reduceLT, Int.reduceEq, hs, l0, l1, l2, hc.ln, eB_len, gt_iff_lt, d1, d2]
        refine XO_callP (h1 := g) (by simp only [List.map, go_sem, Nat.reduceLT, Nat.reduceEqDiff, reduceCtorEq, Int.reduceLT, Int.reduceEq, hs]; rfl) n22 hw2 ?_
        by_cases d3 : (250 : Int) < ((n + (1 + (rowB (key, val)).length) : Nat) : Int)
        · simp only [go_sem, Nat.reduceLT, Nat.reduceEqDiff, reduceCtorEq, Int.reduceLT, Int.reduceEq, hs, h3, hS2.ln, eB_len, ea, eb, gt_iff_lt, d3]
          rw [if_pos (by omega)] at hfit
          exact hQ _ _ (by simp only [slot_len, hs]) (by simp only [go_sem, Nat.reduceLT, Nat.reduceEqDiff, reduceCtorEq, Int.reduceLT, Int.reduceEq, hs, hfit]; rfl)
        · simp only [go_sem, Nat.reduceLT, Nat.reduceEqDiff, reduceCtorEq, Int.reduceLT, Int.reduceEq, hs, h3, hS2.ln, eB_len, ea, eb, gt_iff_lt, d3, h8, hw]
          rw [if_neg (by omega)] at hfit
          refine ih (k + 1) (n + (1 + (rowB (key, val)).length)) _ _ Q (by omega) (by omega) (by simp only [slot_len, hs]) (by simp only [go_sem, Nat.reduceLT, Nat.reduceEqDiff, reduceCtorEq, Int.reduceLT, Int.reduceEq, h0]) (by simp only [go_sem, Nat.reduceLT, Nat.reduceEqDiff, reduceCtorEq, Int.reduceLT, Int.reduceEq, hs]) (by simp only [go_sem, Nat.reduceLT, Nat.reduceEqDiff, reduceCtorEq, Int.reduceLT, Int.reduceEq, h6]) (by simp only [go_sem, Nat.reduceLT, Nat.reduceEqDiff, reduceCtorEq, Int.reduceLT, Int.reduceEq, h7]) (by simp only [go_sem, Nat.reduceLT, Nat.reduceEqDiff, reduceCtorEq, Int.reduceLT, Int.reduceEq, hs]) (fun hh => hE (by rw [hfit, hh]; omega)) (fun s' h' a1 a2 => hQ s' h' a1 ?_)
          rw [a2, hfit, Nat.add_assoc]

theorem fit_f11 {els : List (List CV)} {kv : List KV} {u : VV} (hS : SlV 2 els u) (hR : RowsE els kv) (hn : kv.length ≤ 9223372036854775807) : ∃ h', call F 11 [u] [] = some (.ret (vi .i64 (fitF 0 kv : Nat)), h') := by
  have : Ret F 11 [u] [] fun v h' => v = vi .i64 (fitF 0 kv : Nat) := by
    refine call_E (fn := f11) rfl ?_
    simp only [f11]
    generalize hs0 : ([u] ++ List.replicate _ VV.undef : List VV) = s
    have hs : s.length = 36 := by rw [← hs0]; rfl
    have h0 : s.getD 0 .undef = u := by rw [← hs0]; rfl
    clear hs0
    have hl := hR.len
    simp only [go_sem, Nat.reduceLT, Nat.reduceEqDiff, reduceCtorEq, Int.reduceLT, Int.reduceEq, hs, h0, hS.ln]
    refine f11_loop hS hR hn kv.length 0 0 _ _ _ (by omega) (by omega) (by simp only [slot_len, hs]) (by simp only [go_sem, Nat.reduceLT, Nat.reduceEqDiff, reduceCtorEq, Int.reduceLT, Int.reduceEq, h0]) (by simp only [go_sem, Nat.reduceLT, Nat.reduceEqDiff, reduceCtorEq, Int.reduceLT, Int.reduceEq, hs]; rfl) (by simp only [go_sem, Nat.reduceLT, Nat.reduceEqDiff, reduceCtorEq, Int.reduceLT, Int.reduceEq, hs]) (by simp only [go_sem, Nat.reduceLT, Nat.reduceEqDiff, reduceCtorEq, Int.reduceLT, Int.reduceEq, hs, hl]) (by simp only [go_sem, Nat.reduceLT, Nat.reduceEqDiff, reduceCtorEq, Int.reduceLT, Int.reduceEq, hs]; rfl) (fun hh s' h' a1 a0 => ?_) (fun s' h' a1 a2 => ?_)
    · simp only [go_sem, Nat.reduceLT, Nat.reduceEqDiff, reduceCtorEq, Int.reduceLT, Int.reduceEq, a1, a0, hS.ln, hl]
      rw [List.drop_zero] at hh
      rw [hh]
    · rw [List.drop_zero, Nat.zero_add] at a2
      simp only [go_sem, Nat.reduceLT, Nat.reduceEqDiff, reduceCtorEq, Int.reduceLT, Int.reduceEq, a1, a2]
  obtain ⟨v, h', e1, rfl⟩ := this
  exact ⟨h', e1⟩

theorem f15_loop {els : List (List CV)} {kv : List KV} {u : VV} (hS : SlV 2 els u) (hR : RowsE els kv) (hn : kv.length ≤ 9223372036854775807) :
    ∀ (r k n : Nat) (s : List VV) (h : Heap) (Q : Pst), k + r = kv.length → n ≤ 250 → s.length = 42 → s.getD 0 .undef = u → s.getD 3 .undef = vi .i64 n → s.getD 4 .undef = vi .i64 k →
      (fitF n (kv.drop k) = r → ∀ s' h', s'.length = 42 → s'.getD 0 .undef = u → Q (.exit 0) ⟨s', h'⟩) → (∀ s' h', s'.length = 42 → s'.getD 2 .undef = vi .i64 ((k + fitF n (kv.drop k) : Nat) : Int) → Q .ret ⟨s', h'⟩) → X F (.loop f15_1) ⟨s, h⟩ Q := by
  have hl := hR.len
  intro r
  induction r with
  | zero =>
    intro k n s h Q hk hn2 hs h0 h3 h4 hE hQ
    rw [X_loop, X_eq f15_1.eq_1]
    have c : ¬ (k : Int) < (kv.length : Int) := by omega
    simp only [go_sem, Nat.reduceLT, Nat.reduceEqDiff, reduceCtorEq, Int.reduceLT, Int.reduceEq, hs, h0, h4, hS.ln, hl, c]
    refine hE ?_ _ _ (by simp only [slot_len, hs]) (by simp only [go_sem, Nat.reduceLT, Nat.reduceEqDiff, reduceCtorEq, Int.reduceLT, Int.reduceEq, h0])
    rw [List.drop_eq_nil_of_le (by omega)]; rfl
  | succ r ih =>
    intro k n s h Q hk hn2 hs h0 h3 h4 hE hQ
    obtain ⟨e, p, he, hp, c, rfl, hc⟩ := hR.get (i := k) (by omega)
    obtain ⟨key, val⟩ := p
    simp only at hc
    have hfit := fit_step (n := n) hp
    rw [X_loop, X_eq f15_1.eq_1]
    have c1 : (k : Int) < (kv.length : Int) := by omega
    have hw : IntKind.i64.wrap ((k : Int) + 1) = ((k + 1 : Nat) : Int) := by rw [IntWalk.i64_in _ (by omega)]; omega
    have hia := hS.ia (h := h) (k := .i64) (j := (k : Int)) (by omega) he
    simp only [go_sem, Nat.reduceLT, Nat.reduceEqDiff, reduceCtorEq, Int.reduceLT, Int.reduceEq, hs, h0, h4, hS.ln, hl, c1]
    rw [X_eq f15_0.eq_1]
    by_cases d1 : (30 : Int) < (key.length : Int)
    · have d1' : 30 < key.length := by omega
      simp only [go_sem, Nat.reduceLT, Nat.reduceEqDiff, reduceCtorEq, Int.reduceLT, Int.reduceEq, hs, h0, h4, hia, gt_iff_lt, d1]
      rw [if_pos (.inl d1')] at hfit
      exact hQ _ _ (by simp only [slot_len, hs]) (by simp only [go_sem, Nat.reduceLT, Nat.reduceEqDiff, reduceCtorEq, Int.reduceLT, Int.reduceEq, hs, hfit]; rfl)
    · have d1' : ¬ 30 < key.length := by omega
      by_cases d2 : (150 : Int) < (val.length : Int)
      · have d2' : 150 < val.length := by omega
        simp only [go_sem, Nat.reduceLT, Nat.reduceEqDiff, reduceCtorEq, Int.reduceLT, Int.reduceEq, hs, h0, h4, hia, hc.ln, eB_len, gt_iff_lt, d1, d2]
        rw [if_pos (.inr d2')] at hfit
        exact hQ _ _ (by simp only [slot_len, hs]) (by simp only [go_sem, Nat.reduceLT, Nat.reduceEqDiff, reduceCtorEq, Int.reduceLT, Int.reduceEq, hs, hfit]; rfl)
      · have d2' : ¬ 150 < val.length := by omega
        rw [if_neg (by simp only; omega)] at hfit
        obtain ⟨v, h', n22, w, hw2, hS2⟩ := rbytes_pure (k := key) (l := val) hc (by omega) (by omega)
        have hrl := rowB_le (p := (key, val)) ⟨by simp only; omega, by simp only; omega⟩
        have ea : IntKind.i64.wrap (1 + ((rowB (key, val)).length : Int)) = ((1 + (rowB (key, val)).length : Nat) : Int) := by rw [IntWalk.i64_in _ (by omega)]; omega
        have eb : IntKind.i64.wrap ((n : Int) + ((1 + (rowB (key, val)).length : Nat) : Int)) = ((n + (1 + (rowB (key, val)).length) : Nat) : Int) := by rw [IntWalk.i64_in _ (by omega)]; omega
        have l2 : ldO h true 2 (.rptr [CV.sc (.string ⟨key.toArray⟩), c]) = some (.agg [txt key, .cv c], h) := ld_rN rfl
        simp only [go_sem, Nat.reduceLT, Nat.reduceEqDiff, reduceCtorEq, Int.reduceLT, Int.reduceEq, hs, h0, h4, hia, l2, hc.ln, eB_len, gt_iff_lt, d1, d2]
        refine XO_callP (h1 := h) (by simp only [List.map, go_sem, Nat.reduceLT, Nat.reduceEqDiff, reduceCtorEq, Int.reduceLT, Int.reduceEq, hs]; rfl) n22 hw2 ?_
        by_cases d3 : (250 : Int) < ((n + (1 + (rowB (key, val)).length) : Nat) : Int)
        · simp only [go_sem, Nat.reduceLT, Nat.reduceEqDiff, reduceCtorEq, Int.reduceLT, Int.reduceEq, hs, h3, hS2.ln, eB_len, ea, eb, gt_iff_lt, d3]
          rw [if_pos (by omega)] at hfit
          exact hQ _ _ (by simp only [slot_len, hs]) (by simp only [go_sem, Nat.reduceLT, Nat.reduceEqDiff, reduceCtorEq, Int.reduceLT, Int.reduceEq, hs, h4, hfit]; rfl)
        · simp only [go_sem, Nat.reduceLT, Nat.reduceEqDiff, reduceCtorEq, Int.reduceLT, Int.reduceEq, hs, h3, hS2.ln, eB_len, ea, eb, gt_iff_lt, d3, h4, hw]
          rw [if_neg (by omega)] at hfit
          refine ih (k + 1) (n + (1 + (rowB (key, val)).length)) _ _ Q (by omega) (by omega) (by simp only [slot_len, hs]) (by simp only [go_sem, Nat.reduceLT, Nat.reduceEqDiff, reduceCtorEq, Int.reduceLT, Int.reduceEq, h0]) (by simp only [go_sem, Nat.reduceLT, Nat.reduceEqDiff, reduceCtorEq, Int.reduceLT, Int.reduceEq, hs]) (by simp only [go_sem, Nat.reduceLT, Nat.reduceEqDiff, reduceCtorEq, Int.reduceLT, Int.reduceEq, hs]) (fun hh => hE (by rw [hfit, hh]; omega)) (fun s' h' a1 a2 => hQ s' h' a1 ?_)
          rw [a2, hfit, Nat.add_assoc]

theorem rfit_f15 {els : List (List CV)} {kv : List KV} {u : VV} (hS : SlV 2 els u) (hR : RowsE els kv) (hn : kv.length ≤ 9223372036854775807) : ∃ h', call F 15 [u] [] = some (.ret (vi .i64 (fitF 0 kv : Nat)), h') := by
  have : Ret F 15 [u] [] fun v h' => v = vi .i64 (fitF 0 kv : Nat) := by
    refine call_E (fn := f15) rfl ?_
    simp only [f15]
    generalize hs0 : ([u] ++ List.replicate _ VV.undef : List VV) = s
    have hs : s.length = 42 := by rw [← hs0]; rfl
    have h0 : s.getD 0 .undef = u := by rw [← hs0]; rfl
    clear hs0
    have hl := hR.len
    simp only [go_sem, Nat.reduceLT, Nat.reduceEqDiff, reduceCtorEq, Int.reduceLT, Int.reduceEq, hs]
    refine f15_loop hS hR hn kv.length 0 0 _ _ _ (by omega) (by omega) (by simp only [slot_len, hs]) (by simp only [go_sem, Nat.reduceLT, Nat.reduceEqDiff, reduceCtorEq, Int.reduceLT, Int.reduceEq, h0]) (by simp only [go_sem, Nat.reduceLT, Nat.reduceEqDiff, reduceCtorEq, Int.reduceLT, Int.reduceEq, hs]; rfl) (by simp only [go_sem, Nat.reduceLT, Nat.reduceEqDiff, reduceCtorEq, Int.reduceLT, Int.reduceEq, hs]; rfl) (fun hh s' h' a1 a0 => ?_) (fun s' h' a1 a2 => ?_)
    · simp only [go_sem, Nat.reduceLT, Nat.reduceEqDiff, reduceCtorEq, Int.reduceLT, Int.reduceEq, a1, a0, hS.ln, hl]
      rw [List.drop_zero] at hh
      rw [hh]
    · rw [List.drop_zero, Nat.zero_add] at a2
      simp only [go_sem, Nat.reduceLT, Nat.reduceEqDiff, reduceCtorEq, Int.reduceLT, Int.reduceEq, a1, a2]
  obtain ⟨v, h', e1, rfl⟩ := this
  exact ⟨h', e1⟩
end Go.V05

set_option linter.unusedSimpArgs false
set_option linter.unusedVariables false
namespace Go.V05
open Go Go.Vm

/-! ### Encode -/
theorem drop_cons {kv : List KV} {k : Nat} {p : KV} (hp : kv[k]? = some p) : kv.drop k = p :: kv.drop (k + 1) := by
  obtain ⟨hlt, e⟩ := List.getElem?_eq_some_iff.1 hp
  rw [List.drop_eq_getElem_cons hlt, e]

theorem f10_loop {els : List (List CV)} {kv : List KV} {u : VV} (hS : SlV 2 els u) (hR : RowsE els kv) (hn : kv.length ≤ 250) {g0 : Heap} {p : Nat} (hp0 : g0.length ≤ p) :
    ∀ (r k a : Nat) (pg : List UInt8) (s : List VV) (h : Heap) (Q : Pst), k + r = kv.length → Fits (kv.drop k) → 2 + k + sumR (kv.drop k) ≤ a → a ≤ 252 → pg.length = 252 → HExt g0 h → h[p]? = some (bBox pg) →
      s.length = 56 → s.getD 6 .undef = .ptr p 0 → s.getD 7 .undef = vi .i64 a → s.getD 31 .undef = u → s.getD 32 .undef = vi .i64 kv.length → s.getD 33 .undef = vi .i64 k →
      (∀ s' h', s'.length = 56 → s'.getD 6 .undef = .ptr p 0 → HExt g0 h' → h'[p]? = some (bBox (putR pg k a (kv.drop k))) → Q (.exit 0) ⟨s', h'⟩) → X F (.loop f10_2) ⟨s, h⟩ Q := by
  intro r
  induction r with
  | zero =>
    intro k a pg s h Q hk hf hsum ha hpl x hp hs h6 h7 h31 h32 h33 hE
    rw [X_loop, X_eq f10_2.eq_1]
    have c : ¬ (k : Int) < (kv.length : Int) := by omega
    simp only [go_sem, Nat.reduceLT, Nat.reduceEqDiff, reduceCtorEq, Int.reduceLT, Int.reduceEq, hs, h32, h33, c]
    rw [X_eq f10_1.eq_1]
    simp only [go_sem, Nat.reduceLT, Nat.reduceEqDiff, reduceCtorEq, Int.reduceLT, Int.reduceEq, hs]
    refine hE _ _ (by simp only [slot_len, hs]) (by simp only [go_sem, Nat.reduceLT, Nat.reduceEqDiff, reduceCtorEq, Int.reduceLT, Int.reduceEq, h6]) x ?_
    rw [List.drop_eq_nil_of_le (by omega)]; exact hp
  | succ r ih =>
    intro k a pg s h Q hk hf hsum ha hpl x hp hs h6 h7 h31 h32 h33 hE
    obtain ⟨e, q, he, hq, c, rfl, hc⟩ := hR.get (i := k) (by omega)
    obtain ⟨key, val⟩ := q
    simp only at hc
    have hd := drop_cons hq
    rw [hd] at hf hsum
    rw [sumR_cons] at hsum
    have hfp : key.length ≤ 30 ∧ val.length ≤ 150 := hf (key, val) (List.mem_cons_self ..)
    have hf' : Fits (kv.drop (k + 1)) := fun q hq => hf q (List.mem_cons_of_mem _ hq)
    rw [X_loop, X_eq f10_2.eq_1]
    have c1 : (k : Int) < (kv.length : Int) := by omega
    have hw : IntKind.i64.wrap ((k : Int) + 1) = ((k + 1 : Nat) : Int) := by rw [IntWalk.i64_in _ (by omega)]; omega
    have hia := hS.ia (h := h) (k := .i64) (j := (k : Int)) (by omega) he
    simp only [go_sem, Nat.reduceLT, Nat.reduceEqDiff, reduceCtorEq, Int.reduceLT, Int.reduceEq, hs, h32, h33, c1]
    rw [X_eq f10_1.eq_1]
    simp only [go_sem, Nat.reduceLT, Nat.reduceEqDiff, reduceCtorEq, Int.reduceLT, Int.reduceEq, hs, h31, h33, hia, ld_rN (n := 2) (show [CV.sc (.string ⟨key.toArray⟩), c].length = 2 from rfl), List.map]
    have q1 : (h ++ [VO.box [txt key, .cv c] false])[h.length]? = some (.box [txt key, .cv c] false) := at_last
    have x1 := x.then (VO.box [txt key, .cv c] false)
    have hpp := (HExt.push h (VO.box [txt key, .cv c] false)).get hp
    generalize h ++ [VO.box [txt key, .cv c] false] = g at q1 x1 hpp
    have l2 : ldO g true 2 (.ptr h.length 0) = some (.agg [txt key, .cv c], g) := ld_bxN q1 rfl
    obtain ⟨v, h', n22, w, hw2, hS2⟩ := row_pure (k := key) (l := val) hc (by omega) (by omega)
    generalize hrb : rowB (key, val) = rb at *
    have e1 : IntKind.i64.wrap ((a : Int) - (rb.length : Int)) = ((a - rb.length : Nat) : Int) := by rw [IntWalk.i64_in _ (by omega)]; omega
    have e2 : IntKind.i64.wrap (2 + (k : Int)) = ((2 + k : Nat) : Int) := by rw [IntWalk.i64_in _ (by omega)]; omega
    have e3 : IntKind.u8.wrap ((a - rb.length : Nat) : Int) = ((UInt8.ofNat (a - rb.length)).toNat : Int) := by
      rw [toNat_of (by omega)]; exact IntWalk.u8_in _ (by omega)
    have s1 := st_bB (x := UInt8.ofNat (a - rb.length)) hpp (show 2 + k < pg.length by omega)
    have hp2 : (g.set p (bBox (pg.set (2 + k) (UInt8.ofNat (a - rb.length)))))[p]? = some (bBox (pg.set (2 + k) (UInt8.ofNat (a - rb.length)))) := by rw [List.getElem?_set_self (lt_at hpp)]
    have x2 := x1.set hp0 (bBox (pg.set (2 + k) (UInt8.ofNat (a - rb.length))))
    refine XO_callP (h1 := g) (by simp only [List.map, go_sem, Nat.reduceLT, Nat.reduceEqDiff, reduceCtorEq, Int.reduceLT, Int.reduceEq, hs]; rfl) n22 hw2 ?_
    simp only [go_sem, Nat.reduceLT, Nat.reduceEqDiff, reduceCtorEq, Int.reduceLT, Int.reduceEq, hs, h6, h7, h33, hS2.ln, eB_len, e1, e2, e3, iaA_p (show 2 + k < 252 by omega), Nat.mul_one, s1]
    generalize g.set p (bBox (pg.set (2 + k) (UInt8.ofNat (a - rb.length)))) = g2 at hp2 x2
    have hl2 : (pg.set (2 + k) (UInt8.ofNat (a - rb.length))).length = 252 := by rw [List.length_set, hpl]
    have s2 := sa_from (n := 252) (a := a - rb.length) (k := .i64) hp2 (by rw [List.length_map, bC_len, hl2]; omega) (by omega)
    have s3 := cp_bB (ex := true) (off := a - rb.length) (len := 252 - (a - rb.length)) hp2 (by omega) hS2.src (by omega)
    simp only [go_sem, Nat.reduceLT, Nat.reduceEqDiff, reduceCtorEq, Int.reduceLT, Int.reduceEq, hs, h6, s2, s3, h33, hw]
    refine ih (k + 1) (a - rb.length) (splice (pg.set (2 + k) (UInt8.ofNat (a - rb.length))) (a - rb.length) rb) _ _ Q (by omega) hf' (by omega) (by omega) (by rw [splice_len (by omega), hl2]) (x2.set hp0 _) (by rw [List.getElem?_set_self (lt_at hp2)]) (by simp only [slot_len, hs]) (by simp only [go_sem, Nat.reduceLT, Nat.reduceEqDiff, reduceCtorEq, Int.reduceLT, Int.reduceEq, h6]) (by simp only [go_sem, Nat.reduceLT, Nat.reduceEqDiff, reduceCtorEq, Int.reduceLT, Int.reduceEq, hs]) (by simp only [go_sem, Nat.reduceLT, Nat.reduceEqDiff, reduceCtorEq, Int.reduceLT, Int.reduceEq, h31]) (by simp only [go_sem, Nat.reduceLT, Nat.reduceEqDiff, reduceCtorEq, Int.reduceLT, Int.reduceEq, h32]) (by simp only [go_sem, Nat.reduceLT, Nat.reduceEqDiff, reduceCtorEq, Int.reduceLT, Int.reduceEq, hs])
      (fun s' h' b1 b2 b3 b4 => hE s' h' b1 b2 b3 ?_)
    rw [hd]
    simp only [putR, hrb]
    exact b4

/-- What Encode tells. -/
def EncP (h : Heap) (x : Option (List UInt8)) (v : VV) (h' : Heap) : Prop := match x with
  | none => v = .tup [nilS, vb false]
  | some b => ∃ w, v = .tup [w, vb true] ∧ NB h h' 1 (eB b) w

theorem sum_len : ∀ l : List KV, 3 * l.length ≤ sumR l
  | [] => by simp [sumR]
  | p :: l => by
    have := sum_len l
    rw [sumR_cons]
    have h1 : text p.1 ≠ [] := fun e => text_ne p.1 (by rw [e]; rfl)
    have h2 : text p.2 ≠ [] := fun e => text_ne p.2 (by rw [e]; rfl)
    have h3 := List.length_pos_iff.2 h1
    have h4 := List.length_pos_iff.2 h2
    have : (rowB p).length = (text p.1).length + (text p.2).length := by unfold rowB; simp
    simp; omega

theorem encode_f10 (h : Heap) (level : Int) {els : List (List CV)} {kv : List KV} {u : VV} (hS : SlV 2 els u) (hR : RowsE els kv) (hn : kv.length ≤ 9223372036854775807) : Ret F 10 [vi .i64 level, u] h fun v h' => EncP h (encF level kv) v h' := by
  refine call_E (fn := f10) rfl ?_
  simp only [f10]
  generalize hs0 : ([vi .i64 level, u] ++ List.replicate _ VV.undef : List VV) = s
  have hs : s.length = 56 := by rw [← hs0]; rfl
  have h0 : s.getD 0 .undef = vi .i64 level := by rw [← hs0]; rfl
  have h1 : s.getD 1 .undef = u := by rw [← hs0]; rfl
  clear hs0
  generalize hZ : (List.replicate 252 (VV.cv (.sc (.int .u8 0)))) = Z
  have hZb : Z = (bC (List.replicate 252 0)).map .cv := by rw [← hZ]; exact bC_replicate 252
  have hl := hR.len
  simp only [go_sem, Nat.reduceLT, Nat.reduceEqDiff, reduceCtorEq, Int.reduceLT, Int.reduceEq, hs]
  rw [X_eq f10_0.eq_1]
  unfold encF
  by_cases c1 : level < 0
  · simp only [go_sem, Nat.reduceLT, Nat.reduceEqDiff, reduceCtorEq, Int.reduceLT, Int.reduceEq, hs, h0, c1, true_or]
    rfl
  · by_cases c2 : 4 < level
    · simp only [go_sem, Nat.reduceLT, Nat.reduceEqDiff, reduceCtorEq, Int.reduceLT, Int.reduceEq, hs, h0, c1, gt_iff_lt, c2, true_or, or_true]
      rfl
    · obtain ⟨h11, n11⟩ := fit_f11 hS hR hn
      have hle := fitF_le kv 0
      simp only [go_sem, Nat.reduceLT, Nat.reduceEqDiff, reduceCtorEq, Int.reduceLT, Int.reduceEq, hs, h0, h1, c1, gt_iff_lt, c2]
      refine XO_callP (h1 := h) (by simp only [List.map, go_sem, Nat.reduceLT, Nat.reduceEqDiff, reduceCtorEq, Int.reduceLT, Int.reduceEq, hs]; exact hS.clos rfl) n11 rfl ?_
      by_cases c3 : ((fitF 0 kv : Nat) : Int) < (kv.length : Int)
      · have c3' : fitF 0 kv < kv.length := by omega
        simp only [go_sem, Nat.reduceLT, Nat.reduceEqDiff, reduceCtorEq, Int.reduceLT, Int.reduceEq, hs, h1, hS.ln, hl, c3, c3', or_true]
        rfl
      · have c3' : ¬ fitF 0 kv < kv.length := by omega
        obtain ⟨hsum, hF⟩ := fitF_all kv 0 (by omega) (by omega)
        have hcount := sum_len kv
        have elv : IntKind.u8.wrap level = ((UInt8.ofNat level.toNat).toNat : Int) := by
          rw [toNat_of (by omega), IntWalk.u8_in _ (by omega)]; omega
        have eln : IntKind.u8.wrap (kv.length : Int) = ((UInt8.ofNat kv.length).toNat : Int) := by
          rw [toNat_of (by omega), IntWalk.u8_in _ (by omega)]
        simp only [go_sem, Nat.reduceLT, Nat.reduceEqDiff, reduceCtorEq, Int.reduceLT, Int.reduceEq, hs, h0, h1, hS.ln, hl, c3, elv, eln]
        have q1 : (h ++ [VO.box Z false])[h.length]? = some (bBox (List.replicate 252 0)) := by rw [hZb]; exact at_last
        have x1 := HExt.push h (VO.box Z false)
        generalize h ++ [VO.box Z false] = g1 at q1 x1
        have s1 := st_bB (x := UInt8.ofNat level.toNat) (j := 0) q1 (by rw [List.length_replicate]; omega)
        have q2 : (g1.set h.length (bBox ((List.replicate 252 0).set 0 (UInt8.ofNat level.toNat))))[h.length]? = some (bBox ((List.replicate 252 0).set 0 (UInt8.ofNat level.toNat))) := by rw [List.getElem?_set_self (lt_at q1)]
        have x2 := x1.set (Nat.le_refl _) (bBox ((List.replicate 252 0).set 0 (UInt8.ofNat level.toNat)))
        generalize g1.set h.length (bBox ((List.replicate 252 0).set 0 (UInt8.ofNat level.toNat))) = g2 at s1 q2 x2
        have s2 := st_bB (x := UInt8.ofNat kv.length) (j := 1) q2 (by rw [List.length_set, List.length_replicate]; omega)
        have epg : ((List.replicate 252 (0 : UInt8)).set 0 (UInt8.ofNat level.toNat)).set 1 (UInt8.ofNat kv.length) = page0 level.toNat kv.length := rfl
        rw [epg] at s2
        have q3 : (g2.set h.length (bBox (page0 level.toNat kv.length)))[h.length]? = some (bBox (page0 level.toNat kv.length)) := by rw [List.getElem?_set_self (lt_at q2)]
        have x3 := x2.set (Nat.le_refl _) (bBox (page0 level.toNat kv.length))
        generalize g2.set h.length (bBox (page0 level.toNat kv.length)) = g3 at s2 q3 x3
        have i0 : iaAO 252 1 (.ptr h.length 0) (vi .i64 0) = some (.ptr h.length 0) := iaA_p (j := 0) (by decide)
        have i1 : iaAO 252 1 (.ptr h.length 0) (vi .i64 1) = some (.ptr h.length 1) := iaA_p (j := 1) (by decide)
        simp only [go_sem, Nat.reduceLT, Nat.reduceEqDiff, reduceCtorEq, Int.reduceLT, Int.reduceEq, hs, h1, hS.ln, hl, i0, i1, s1, s2]
        refine f10_loop hS hR (by omega) (Nat.le_refl h.length) kv.length 0 252 _ _ _ _ (by omega) hF (by rw [List.drop_zero]; omega) (by omega) page0_len x3 q3 (by simp only [slot_len, hs]) (by simp only [go_sem, Nat.reduceLT, Nat.reduceEqDiff, reduceCtorEq, Int.reduceLT, Int.reduceEq, hs]) (by simp only [go_sem, Nat.reduceLT, Nat.reduceEqDiff, reduceCtorEq, Int.reduceLT, Int.reduceEq, hs]; rfl) (by simp only [go_sem, Nat.reduceLT, Nat.reduceEqDiff, reduceCtorEq, Int.reduceLT, Int.reduceEq, hs]) (by simp only [go_sem, Nat.reduceLT, Nat.reduceEqDiff, reduceCtorEq, Int.reduceLT, Int.reduceEq, hs]) (by simp only [go_sem, Nat.reduceLT, Nat.reduceEqDiff, reduceCtorEq, Int.reduceLT, Int.reduceEq, hs]; rfl) (fun s' h' a1 a6 x4 q4 => ?_)
        rw [List.drop_zero] at q4
        have hpl : (putR (page0 level.toNat kv.length) 0 252 kv).length = 252 := pageR_len (by omega)
        have ss := sa_box (n := 252) (z := 1) (off := 0) q4 (by rw [List.length_map, bC_len, hpl]; omega)
        have Bs := bsrc_ob (ex := true) x4 q4 (Nat.le_refl _)
        rw [hpl] at Bs
        obtain ⟨v5, h5, n5, B5⟩ := seal_f23 Bs (by rw [hpl]; omega)
        simp only [go_sem, Nat.reduceLT, Nat.reduceEqDiff, reduceCtorEq, Int.reduceLT, Int.reduceEq, a1, a6, ss]
        refine XO_callR (by simp only [List.map, go_sem, Nat.reduceLT, Nat.reduceEqDiff, reduceCtorEq, Int.reduceLT, Int.reduceEq, a1]; exact n5) ?_
        have hneg : ¬ (level < 0 ∨ 4 < level ∨ fitF 0 kv < kv.length) := by omega
        simp only [go_sem, Nat.reduceLT, Nat.reduceEqDiff, reduceCtorEq, Int.reduceLT, Int.reduceEq, a1, c3', or_self]
        exact ⟨v5, rfl, B5⟩
end Go.V05

set_option linter.unusedSimpArgs false
set_option linter.unusedVariables false
namespace Go.V05
open Go Go.Vm

/-! ### the document's Encode -/
theorem f14_copy {rb : List UInt8} {w : VV} (hw : SlV 1 (eB rb) w) {pg : List UInt8} {a id : Nat} (ha : a + rb.length ≤ pg.length) (hpl : pg.length = 252) {ex : Bool} :
    ∀ (r k : Nat) (s : List VV) (h : Heap) (Q : Pst), k + r = rb.length → h[id]? = some (.arr 1 (eB (splice pg a (rb.take k))) 0 false) → s.length = 72 → s.getD 6 .undef = .own id 0 0 252 ex → s.getD 7 .undef = vi .i64 a → s.getD 9 .undef = w → s.getD 10 .undef = vi .i64 k →
      (∀ s' h', s'.length = 72 → (∀ i, i < 9 → s'.getD i .undef = s.getD i .undef) → h' = h.set id (.arr 1 (eB (splice pg a rb)) 0 false) → Q (.exit 2) ⟨s', h'⟩) → X F (.loop f14_1) ⟨s, h⟩ Q := by
  intro r
  induction r with
  | zero =>
    intro k s h Q hk hA hs h6 h7 h9 h10 hE
    rw [X_loop, X_eq f14_1.eq_1]
    have c : ¬ (k : Int) < (rb.length : Int) := by omega
    simp only [go_sem, Nat.reduceLT, Nat.reduceEqDiff, reduceCtorEq, Int.reduceLT, Int.reduceEq, hs, h9, h10, hw.ln, eB_len, c]
    refine hE _ _ (by simp only [slot_len, hs]) (fun i hi => ?_) ?_
    · have : ∀ j, 9 ≤ j → j ≠ i := by omega
      rw [slot_ne (this _ (by decide)), slot_ne (this _ (by decide)), slot_ne (this _ (by decide)), slot_ne (this _ (by decide))]
    · rw [List.take_of_length_le (by omega)] at hA
      apply List.ext_getElem?
      intro i
      by_cases hi : id = i
      · subst hi; rw [List.getElem?_set_self (lt_at hA), hA]
      · rw [List.getElem?_set_ne hi]
  | succ r ih =>
    intro k s h Q hk hA hs h6 h7 h9 h10 hE
    rw [X_loop, X_eq f14_1.eq_1]
    have hkl : k < rb.length := by omega
    have c : (k : Int) < (rb.length : Int) := by omega
    have hw1 : IntKind.i64.wrap ((k : Int) + 1) = ((k + 1 : Nat) : Int) := by rw [IntWalk.i64_in _ (by omega)]; omega
    have ea : IntKind.i64.wrap ((a : Int) + (k : Int)) = ((a + k : Nat) : Int) := by rw [IntWalk.i64_in _ (by omega)]; omega
    have hia := hw.ia (h := h) (k := .i64) (j := (k : Int)) (by omega) (eB_get (List.getElem?_eq_getElem hkl))
    have hlk : (rb.take k).length = k := by simp; omega
    have hsl : (splice pg a (rb.take k)).length = 252 := by rw [splice_len (by omega), hpl]
    have i2 := ia_bA (n := 252) (ex := ex) (k := .i64) (j := a + k) hA (by omega)
    have st2 := st_bA (x := rb[k]) (j := a + k) hA (by omega)
    rw [splice_step (by rw [hlk]; omega) hlk] at st2
    have etake : rb.take k ++ [rb[k]] = rb.take (k + 1) := by rw [List.take_succ_eq_append_getElem hkl]
    rw [etake] at st2
    have hA' : (h.set id (.arr 1 (eB (splice pg a (rb.take (k + 1)))) 0 false))[id]? = some (.arr 1 (eB (splice pg a (rb.take (k + 1)))) 0 false) := by rw [List.getElem?_set_self (lt_at hA)]
    simp only [go_sem, Nat.reduceLT, Nat.reduceEqDiff, reduceCtorEq, Int.reduceLT, Int.reduceEq, hs, h6, h7, h9, h10, hw.ln, eB_len, c, hia, byteCell, ea, i2, st2, hw1]
    refine ih (k + 1) _ _ Q (by omega) hA' (by simp only [slot_len, hs]) (by simp only [go_sem, Nat.reduceLT, Nat.reduceEqDiff, reduceCtorEq, Int.reduceLT, Int.reduceEq, h6]) (by simp only [go_sem, Nat.reduceLT, Nat.reduceEqDiff, reduceCtorEq, Int.reduceLT, Int.reduceEq, h7]) (by simp only [go_sem, Nat.reduceLT, Nat.reduceEqDiff, reduceCtorEq, Int.reduceLT, Int.reduceEq, h9]) (by simp only [go_sem, Nat.reduceLT, Nat.reduceEqDiff, reduceCtorEq, Int.reduceLT, Int.reduceEq, hs]) (fun s' h' b1 b2 b3 => hE s' h' b1 (fun i hi => ?_) (by rw [b3, List.set_set]))
    rw [b2 i hi]
    have : ∀ j, 9 ≤ j → j ≠ i := by omega
    simp (disch := first | omega | exact this _ (by decide)) only [slot_ne]

theorem f14_loop {els : List (List CV)} {kv : List KV} {u : VV} (hS : SlV 2 els u) (hR : RowsE els kv) (hn : kv.length ≤ 250) {g0 : Heap} {id : Nat} (hp0 : g0.length ≤ id) {ex : Bool} :
    ∀ (r k a : Nat) (pg : List UInt8) (s : List VV) (h : Heap) (Q : Pst), k + r = kv.length → Fits (kv.drop k) → 2 + k + sumR (kv.drop k) ≤ a → a ≤ 252 → pg.length = 252 → HExt g0 h → h[id]? = some (.arr 1 (eB pg) 0 false) →
      s.length = 72 → s.getD 1 .undef = u → s.getD 6 .undef = .own id 0 0 252 ex → s.getD 7 .undef = vi .i64 a → s.getD 8 .undef = vi .i64 k →
      (∀ s' h', s'.length = 72 → s'.getD 6 .undef = .own id 0 0 252 ex → HExt g0 h' → h'[id]? = some (.arr 1 (eB (putR pg k a (kv.drop k))) 0 false) → Q (.exit 0) ⟨s', h'⟩) → X F (.loop f14_2) ⟨s, h⟩ Q := by
  have hl := hR.len
  intro r
  induction r with
  | zero =>
    intro k a pg s h Q hk hf hsum ha hpl x hp hs h1 h6 h7 h8 hE
    rw [X_loop, X_eq f14_2.eq_1]
    have c : ¬ (k : Int) < (kv.length : Int) := by omega
    simp only [go_sem, Nat.reduceLT, Nat.reduceEqDiff, reduceCtorEq, Int.reduceLT, Int.reduceEq, hs, h1, h8, hS.ln, hl, c]
    refine hE _ _ (by simp only [slot_len, hs]) (by simp only [go_sem, Nat.reduceLT, Nat.reduceEqDiff, reduceCtorEq, Int.reduceLT, Int.reduceEq, h6]) x ?_
    rw [List.drop_eq_nil_of_le (by omega)]; exact hp
  | succ r ih =>
    intro k a pg s h Q hk hf hsum ha hpl x hp hs h1 h6 h7 h8 hE
    obtain ⟨e, q, he, hq, c, rfl, hc⟩ := hR.get (i := k) (by omega)
    obtain ⟨key, val⟩ := q
    simp only at hc
    have hd := drop_cons hq
    rw [hd] at hf hsum
    rw [sumR_cons] at hsum
    have hfp : key.length ≤ 30 ∧ val.length ≤ 150 := hf (key, val) (List.mem_cons_self ..)
    have hf' : Fits (kv.drop (k + 1)) := fun q hq => hf q (List.mem_cons_of_mem _ hq)
    rw [X_loop, X_eq f14_2.eq_1]
    have c1 : (k : Int) < (kv.length : Int) := by omega
    have hw : IntKind.i64.wrap ((k : Int) + 1) = ((k + 1 : Nat) : Int) := by rw [IntWalk.i64_in _ (by omega)]; omega
    have hia := hS.ia (h := h) (k := .i64) (j := (k : Int)) (by omega) he
    have l2 : ldO h true 2 (.rptr [CV.sc (.string ⟨key.toArray⟩), c]) = some (.agg [txt key, .cv c], h) := ld_rN rfl
    obtain ⟨v, h', n22, w, hw2, hS2⟩ := rbytes_pure (k := key) (l := val) hc (by omega) (by omega)
    generalize hrb : rowB (key, val) = rb at *
    have e1 : IntKind.i64.wrap ((a : Int) - (rb.length : Int)) = ((a - rb.length : Nat) : Int) := by rw [IntWalk.i64_in _ (by omega)]; omega
    have e2 : IntKind.i64.wrap (2 + (k : Int)) = ((2 + k : Nat) : Int) := by rw [IntWalk.i64_in _ (by omega)]; omega
    have e3 : IntKind.u8.wrap ((a - rb.length : Nat) : Int) = ((UInt8.ofNat (a - rb.length)).toNat : Int) := by
      rw [toNat_of (by omega)]; exact IntWalk.u8_in _ (by omega)
    have i1 := ia_bA (n := 252) (ex := ex) (k := .i64) (j := 2 + k) hp (by omega)
    have s1 := st_bA (x := UInt8.ofNat (a - rb.length)) hp (show 2 + k < pg.length by omega)
    have hp2 : (h.set id (.arr 1 (eB (pg.set (2 + k) (UInt8.ofNat (a - rb.length)))) 0 false))[id]? = some (.arr 1 (eB (pg.set (2 + k) (UInt8.ofNat (a - rb.length)))) 0 false) := by rw [List.getElem?_set_self (lt_at hp)]
    have x2 := x.set hp0 (.arr 1 (eB (pg.set (2 + k) (UInt8.ofNat (a - rb.length)))) 0 false)
    have hl2 : (pg.set (2 + k) (UInt8.ofNat (a - rb.length))).length = 252 := by rw [List.length_set, hpl]
    simp only [go_sem, Nat.reduceLT, Nat.reduceEqDiff, reduceCtorEq, Int.reduceLT, Int.reduceEq, hs, h1, h8, hS.ln, hl, c1, hia, l2]
    refine XO_callP (h1 := h) (by simp only [List.map, go_sem, Nat.reduceLT, Nat.reduceEqDiff, reduceCtorEq, Int.reduceLT, Int.reduceEq, hs]; rfl) n22 hw2 ?_
    simp only [go_sem, Nat.reduceLT, Nat.reduceEqDiff, reduceCtorEq, Int.reduceLT, Int.reduceEq, hs, h6, h7, h8, hS2.ln, eB_len, e1, e2, e3, i1, s1]
    generalize h.set id (.arr 1 (eB (pg.set (2 + k) (UInt8.ofNat (a - rb.length)))) 0 false) = g2 at hp2 x2
    refine f14_copy (ex := ex) hS2 (a := a - rb.length) (pg := pg.set (2 + k) (UInt8.ofNat (a - rb.length))) (by omega) hl2 rb.length 0 _ _ _ (by omega) (by rw [List.take_zero, splice_none]; exact hp2) (by simp only [slot_len, hs]) (by simp only [go_sem, Nat.reduceLT, Nat.reduceEqDiff, reduceCtorEq, Int.reduceLT, Int.reduceEq, h6]) (by simp only [go_sem, Nat.reduceLT, Nat.reduceEqDiff, reduceCtorEq, Int.reduceLT, Int.reduceEq, hs]) (by simp only [go_sem, Nat.reduceLT, Nat.reduceEqDiff, reduceCtorEq, Int.reduceLT, Int.reduceEq, hs]) (by simp only [go_sem, Nat.reduceLT, Nat.reduceEqDiff, reduceCtorEq, Int.reduceLT, Int.reduceEq, hs]; rfl) (fun s' h' a1 ao hh => ?_)
    have b1 : s'.getD 1 .undef = u := by rw [ao 1 (by decide)]; simp only [go_sem, Nat.reduceLT, Nat.reduceEqDiff, reduceCtorEq, Int.reduceLT, Int.reduceEq, h1]
    have b6 : s'.getD 6 .undef = .own id 0 0 252 ex := by rw [ao 6 (by decide)]; simp only [go_sem, Nat.reduceLT, Nat.reduceEqDiff, reduceCtorEq, Int.reduceLT, Int.reduceEq, h6]
    have b7 : s'.getD 7 .undef = vi .i64 ((a - rb.length : Nat) : Int) := by rw [ao 7 (by decide)]; simp only [go_sem, Nat.reduceLT, Nat.reduceEqDiff, reduceCtorEq, Int.reduceLT, Int.reduceEq, hs]
    have b8 : s'.getD 8 .undef = vi .i64 k := by rw [ao 8 (by decide)]; simp only [go_sem, Nat.reduceLT, Nat.reduceEqDiff, reduceCtorEq, Int.reduceLT, Int.reduceEq, h8]
    simp only [go_sem, Nat.reduceLT, Nat.reduceEqDiff, reduceCtorEq, Int.reduceLT, Int.reduceEq, a1, b8, hw]
    refine ih (k + 1) (a - rb.length) (splice (pg.set (2 + k) (UInt8.ofNat (a - rb.length))) (a - rb.length) rb) _ _ Q (by omega) hf' (by omega) (by omega) (by rw [splice_len (by omega), hl2]) (by rw [hh]; exact x2.set hp0 _) (by rw [hh, List.getElem?_set_self (lt_at hp2)]) (by simp only [slot_len, a1]) (by simp only [go_sem, Nat.reduceLT, Nat.reduceEqDiff, reduceCtorEq, Int.reduceLT, Int.reduceEq, b1]) (by simp only [go_sem, Nat.reduceLT, Nat.reduceEqDiff, reduceCtorEq, Int.reduceLT, Int.reduceEq, b6]) (by simp only [go_sem, Nat.reduceLT, Nat.reduceEqDiff, reduceCtorEq, Int.reduceLT, Int.reduceEq, b7]) (by simp only [go_sem, Nat.reduceLT, Nat.reduceEqDiff, reduceCtorEq, Int.reduceLT, Int.reduceEq, a1])
      (fun s' h' b1 b2 b3 b4 => hE s' h' b1 b2 b3 ?_)
    rw [hd]
    simp only [putR, hrb]
    exact b4

theorem rencode_f14 (h : Heap) (level : Int) {els : List (List CV)} {kv : List KV} {u : VV} (hS : SlV 2 els u) (hR : RowsE els kv) (hn : kv.length ≤ 9223372036854775807) : Ret F 14 [vi .i64 level, u] h fun v h' => EncP h (encF level kv) v h' := by
  refine call_E (fn := f14) rfl ?_
  simp only [f14]
  generalize hs0 : ([vi .i64 level, u] ++ List.replicate _ VV.undef : List VV) = s
  have hs : s.length = 72 := by rw [← hs0]; rfl
  have h0 : s.getD 0 .undef = vi .i64 level := by rw [← hs0]; rfl
  have h1 : s.getD 1 .undef = u := by rw [← hs0]; rfl
  clear hs0
  have hl := hR.len
  simp only [go_sem, Nat.reduceLT, Nat.reduceEqDiff, reduceCtorEq, Int.reduceLT, Int.reduceEq, hs]
  rw [X_eq f14_0.eq_1]
  unfold encF
  by_cases c1 : level < 0
  · simp only [go_sem, Nat.reduceLT, Nat.reduceEqDiff, reduceCtorEq, Int.reduceLT, Int.reduceEq, hs, h0, c1, true_or]
    rfl
  · by_cases c2 : 4 < level
    · simp only [go_sem, Nat.reduceLT, Nat.reduceEqDiff, reduceCtorEq, Int.reduceLT, Int.reduceEq, hs, h0, c1, gt_iff_lt, c2, true_or, or_true]
      rfl
    · obtain ⟨h11, n11⟩ := rfit_f15 hS hR hn
      have hle := fitF_le kv 0
      simp only [go_sem, Nat.reduceLT, Nat.reduceEqDiff, reduceCtorEq, Int.reduceLT, Int.reduceEq, hs, h0, h1, c1, gt_iff_lt, c2]
      refine XO_callP (h1 := h) (by simp only [List.map, go_sem, Nat.reduceLT, Nat.reduceEqDiff, reduceCtorEq, Int.reduceLT, Int.reduceEq, hs]; exact hS.clos rfl) n11 rfl ?_
      by_cases c3 : ((fitF 0 kv : Nat) : Int) < (kv.length : Int)
      · have c3' : fitF 0 kv < kv.length := by omega
        simp only [go_sem, Nat.reduceLT, Nat.reduceEqDiff, reduceCtorEq, Int.reduceLT, Int.reduceEq, hs, h1, hS.ln, hl, c3, c3', or_true]
        rfl
      · have c3' : ¬ fitF 0 kv < kv.length := by omega
        obtain ⟨hsum, hF⟩ := fitF_all kv 0 (by omega) (by omega)
        have hcount := sum_len kv
        have elv : IntKind.u8.wrap level = ((UInt8.ofNat level.toNat).toNat : Int) := by
          rw [toNat_of (by omega), IntWalk.u8_in _ (by omega)]; omega
        have eln : IntKind.u8.wrap (kv.length : Int) = ((UInt8.ofNat kv.length).toNat : Int) := by
          rw [toNat_of (by omega), IntWalk.u8_in _ (by omega)]
        simp only [go_sem, Nat.reduceLT, Nat.reduceEqDiff, reduceCtorEq, Int.reduceLT, Int.reduceEq, hs, h1, hS.ln, hl, c3]
        refine XO_mks (k := .i64) (k' := .i64) (a := 252) (by simp only [go_sem, Nat.reduceLT, Nat.reduceEqDiff, reduceCtorEq, Int.reduceLT, Int.reduceEq]; rfl) (by simp only [go_sem, Nat.reduceLT, Nat.reduceEqDiff, reduceCtorEq, Int.reduceLT, Int.reduceEq]; rfl) (by decide) (by decide) ?_
        have eZ : List.replicate 252 [CV.sc (.int .u8 0)] = eB (List.replicate 252 0) := by simp only [eB, List.map_replicate]; rfl
        rw [eZ]
        have q1 : (h ++ [VO.arr 1 (eB (List.replicate 252 0)) 0 false])[h.length]? = some (.arr 1 (eB (List.replicate 252 0)) 0 false) := at_last
        have x1 := HExt.push h (VO.arr 1 (eB (List.replicate 252 0)) 0 false)
        generalize h ++ [VO.arr 1 (eB (List.replicate 252 0)) 0 false] = g1 at q1 x1
        have i0 := ia_bA (n := 252) (ex := true) (k := .i64) (j := 0) q1 (by decide)
        have s1 := st_bA (x := UInt8.ofNat level.toNat) (j := 0) q1 (by rw [List.length_replicate]; omega)
        have q2 : (g1.set h.length (.arr 1 (eB ((List.replicate 252 0).set 0 (UInt8.ofNat level.toNat))) 0 false))[h.length]? = some (.arr 1 (eB ((List.replicate 252 0).set 0 (UInt8.ofNat level.toNat))) 0 false) := by rw [List.getElem?_set_self (lt_at q1)]
        have x2 := x1.set (Nat.le_refl _) (.arr 1 (eB ((List.replicate 252 0).set 0 (UInt8.ofNat level.toNat))) 0 false)
        generalize g1.set h.length (.arr 1 (eB ((List.replicate 252 0).set 0 (UInt8.ofNat level.toNat))) 0 false) = g2 at s1 q2 x2
        have i1 := ia_bA (n := 252) (ex := true) (k := .i64) (j := 1) q2 (by decide)
        have s2 := st_bA (x := UInt8.ofNat kv.length) (j := 1) q2 (by rw [List.length_set, List.length_replicate]; omega)
        have epg : ((List.replicate 252 (0 : UInt8)).set 0 (UInt8.ofNat level.toNat)).set 1 (UInt8.ofNat kv.length) = page0 level.toNat kv.length := rfl
        rw [epg] at s2
        have q3 : (g2.set h.length (.arr 1 (eB (page0 level.toNat kv.length)) 0 false))[h.length]? = some (.arr 1 (eB (page0 level.toNat kv.length)) 0 false) := by rw [List.getElem?_set_self (lt_at q2)]
        have x3 := x2.set (Nat.le_refl _) (.arr 1 (eB (page0 level.toNat kv.length)) 0 false)
        generalize g2.set h.length (.arr 1 (eB (page0 level.toNat kv.length)) 0 false) = g3 at s2 q3 x3
        have i0' : iaO g1 1 (.own h.length 0 0 252 true) (vi .i64 0) = some (.eptr h.length 0 0 0, g1) := i0
        have i1' : iaO g2 1 (.own h.length 0 0 252 true) (vi .i64 1) = some (.eptr h.length 0 1 0, g2) := i1
        simp only [go_sem, Nat.reduceLT, Nat.reduceEqDiff, reduceCtorEq, Int.reduceLT, Int.reduceEq, hs, h0, h1, hS.ln, hl, elv, eln, i0', i1', s1, s2]
        refine f14_loop (ex := true) hS hR (by omega) (Nat.le_refl h.length) kv.length 0 252 _ _ _ _ (by omega) hF (by rw [List.drop_zero]; omega) (by omega) page0_len x3 q3 (by simp only [slot_len, hs]) (by simp only [go_sem, Nat.reduceLT, Nat.reduceEqDiff, reduceCtorEq, Int.reduceLT, Int.reduceEq, h1]) (by simp only [go_sem, Nat.reduceLT, Nat.reduceEqDiff, reduceCtorEq, Int.reduceLT, Int.reduceEq, hs]) (by simp only [go_sem, Nat.reduceLT, Nat.reduceEqDiff, reduceCtorEq, Int.reduceLT, Int.reduceEq, hs]; rfl) (by simp only [go_sem, Nat.reduceLT, Nat.reduceEqDiff, reduceCtorEq, Int.reduceLT, Int.reduceEq, hs]; rfl) (fun s' h' a1 a6 x4 q4 => ?_)
        rw [List.drop_zero] at q4
        have hpl : (putR (page0 level.toNat kv.length) 0 252 kv).length = 252 := pageR_len (by omega)
        have Bs := bsrc_own (ex := true) x4 q4 (Nat.le_refl _)
        rw [hpl] at Bs
        obtain ⟨v5, h5, n5, B5⟩ := rseal_f16 Bs (by rw [hpl]; omega)
        simp only [go_sem, Nat.reduceLT, Nat.reduceEqDiff, reduceCtorEq, Int.reduceLT, Int.reduceEq, a1, a6]
        refine XO_callR (by simp only [List.map, go_sem, Nat.reduceLT, Nat.reduceEqDiff, reduceCtorEq, Int.reduceLT, Int.reduceEq, a1]; exact n5) ?_
        simp only [go_sem, Nat.reduceLT, Nat.reduceEqDiff, reduceCtorEq, Int.reduceLT, Int.reduceEq, a1, c3', or_self]
        exact ⟨v5, rfl, B5⟩
end Go.V05

set_option linter.unusedSimpArgs false
set_option linter.unusedVariables false
namespace Go.V05
open Go Go.Vm

/-! ### a row that ends at a place -/
def LastP (b : List UInt8) (a to : Nat) (e : List CV) : Prop := (∃ c1 c2, e = [c1, c2]) ∧ ∀ p, lastF b a to = some p → e = rowC p.1 p.2

theorem last_f25 {b : List UInt8} {u : VV} (hu : SlV 1 (eB b) u) (hb : b.length ≤ 1000000) {a to : Nat} (hto : to ≤ b.length) (ha : a ≤ 1000000) : Ret F 25 [u, vi .i64 a, vi .i64 to] [] fun v h' => ∃ e, closRes h' v = some (.tup [.agg (e.map .cv), vb (lastF b a to).isSome]) ∧ LastP b a to e := by
  refine call_E (fn := f25) rfl ?_
  simp only [f25]
  generalize hs0 : ([u, vi .i64 a, vi .i64 to] ++ List.replicate _ VV.undef : List VV) = s
  have hs : s.length = 48 := by rw [← hs0]; rfl
  have h0 : s.getD 0 .undef = u := by rw [← hs0]; rfl
  have h1 : s.getD 1 .undef = vi .i64 a := by rw [← hs0]; rfl
  have h2 : s.getD 2 .undef = vi .i64 to := by rw [← hs0]; rfl
  clear hs0
  have q0 : ([] ++ [VO.box [.cv (.sc (.string ⟨#[]⟩)), nilS] false] : Heap)[0]? = some (.box [.cv (.sc (.string ⟨#[]⟩)), nilS] false) := rfl
  have l0 : ldO ([] ++ [VO.box [.cv (.sc (.string ⟨#[]⟩)), nilS] false] : Heap) true 2 (.ptr 0 0) = some (.agg [.cv (.sc (.string ⟨#[]⟩)), nilS], ([] ++ [VO.box [.cv (.sc (.string ⟨#[]⟩)), nilS] false] : Heap)) := ld_bxN q0 rfl
  have s0 : ∀ x y : VV, stO ([] ++ [VO.box [.cv (.sc (.string ⟨#[]⟩)), nilS] false] : Heap) 2 (.ptr 0 0) (.agg [x, y]) = some (.undef, [VO.box [x, y] false]) := fun x y => st_agg rfl q0 rfl
  have s0' : ∀ x y : VV, ([VO.box [x, y] false] : Heap)[0]? = some (.box [x, y] false) := fun _ _ => rfl
  simp only [go_sem, Nat.reduceLT, Nat.reduceEqDiff, reduceCtorEq, Int.reduceLT, Int.reduceEq, hs, List.length_nil]
  rw [X_eq f25_0.eq_1]
  have fin : ∀ {s' : List VV} {c1 c2 : CV} {ok : Bool}, s'.length = 48 → s'.getD 6 .undef = .ptr 0 0 → s'.getD 7 .undef = vb ok → ok = (lastF b a to).isSome → (∀ p, lastF b a to = some p → [c1, c2] = rowC p.1 p.2) →
      RQ [.cell 6 true 2, .t 7] (fun v h' => ∃ e, closRes h' v = some (.tup [.agg (e.map .cv), vb (lastF b a to).isSome]) ∧ LastP b a to e) .ret ⟨s', [VO.box [.cv c1, .cv c2] false]⟩ := by
    intro s' c1 c2 ok a1 a6 a7 hok hp
    refine RQ_cell1 (id := 0) a6 rfl rfl (by omega) ?_
    rw [a7, hok]
    exact ⟨[c1, c2], rfl, ⟨c1, c2, rfl⟩, hp⟩
  by_cases c1 : (to : Int) ≤ (a : Int)
  · have e : lastF b a to = none := by unfold lastF; rw [if_pos (by omega)]
    simp only [go_sem, Nat.reduceLT, Nat.reduceEqDiff, reduceCtorEq, Int.reduceLT, Int.reduceEq, hs, h1, h2, ge_iff_le, c1, l0, s0]
    exact fin (by simp only [slot_len, hs]) (by simp only [go_sem, Nat.reduceLT, Nat.reduceEqDiff, reduceCtorEq, Int.reduceLT, Int.reduceEq, hs]) (by simp only [go_sem, Nat.reduceLT, Nat.reduceEqDiff, reduceCtorEq, Int.reduceLT, Int.reduceEq, hs]; rfl) (by simp [e]) (fun p hp => by rw [e] at hp; cases hp)
  · have c1' : ¬ to ≤ a := by omega
    obtain ⟨w, hw, hsl⟩ := hu.upto (h := ([] ++ [VO.box [.cv (.sc (.string ⟨#[]⟩)), nilS] false])) (k := .i64) (b := (to : Int)) (by omega) (by rw [eB_len]; omega)
    rw [Int.toNat_natCast, eB_take] at hw
    have hwl : (b.take to).length ≤ 1000000000 := by rw [List.length_take]; omega
    have n1 := text_f33 (b.take to) w hw (a : Int) 30 [] hwl
    generalize hx : getText (b.take to) (a : Int) 30 = x at *
    have r1 : closRes [] (.tup [txt x.1, vi .i64 x.2.1, vi .u16 x.2.2]) = some (.tup [txt x.1, vi .i64 x.2.1, vi .u16 x.2.2]) := rfl
    simp only [go_sem, Nat.reduceLT, Nat.reduceEqDiff, reduceCtorEq, Int.reduceLT, Int.reduceEq, hs, h0, h1, h2, ge_iff_le, c1, hsl]
    refine XO_callP (h1 := ([] ++ [VO.box [.cv (.sc (.string ⟨#[]⟩)), nilS] false])) (by simp only [List.map, go_sem, Nat.reduceLT, Nat.reduceEqDiff, reduceCtorEq, Int.reduceLT, Int.reduceEq, hs]; exact hw.clos rfl) n1 r1 ?_
    simp only [go_sem, Nat.reduceLT, Nat.reduceEqDiff, reduceCtorEq, Int.reduceLT, Int.reduceEq, hs]
    rw [X_eq f25_1.eq_1]
    by_cases c2 : (x.2.2 : Int) = 0
    · have c2' : x.2.2 = 0 := by omega
      have n2 := text_f33 (b.take to) w hw (x.2.1 : Int) 150 [] hwl
      generalize hy : getText (b.take to) (x.2.1 : Int) 150 = y at *
      have r2 : closRes [] (.tup [txt y.1, vi .i64 y.2.1, vi .u16 y.2.2]) = some (.tup [txt y.1, vi .i64 y.2.1, vi .u16 y.2.2]) := rfl
      simp only [go_sem, Nat.reduceLT, Nat.reduceEqDiff, reduceCtorEq, Int.reduceLT, Int.reduceEq, hs, h0, h2, eq_true c2, hsl]
      refine XO_callP (h1 := ([] ++ [VO.box [.cv (.sc (.string ⟨#[]⟩)), nilS] false])) (by simp only [List.map, go_sem, Nat.reduceLT, Nat.reduceEqDiff, reduceCtorEq, Int.reduceLT, Int.reduceEq, hs]; exact hw.clos rfl) n2 r2 ?_
      have eL : lastF b a to = if y.2.2 = 0 ∧ y.2.1 = to then some (x.1, y.1) else none := by
        unfold lastF
        rw [if_neg c1', hx, if_neg (by rw [c2']; simp), hy]
      by_cases c3 : (y.2.2 : Int) = 0
      · by_cases c4 : (y.2.1 : Int) = (to : Int)
        · rw [if_pos ⟨by omega, by omega⟩] at eL
          simp only [go_sem, Nat.reduceLT, Nat.reduceEqDiff, reduceCtorEq, Int.reduceLT, Int.reduceEq, hs, h2, eq_true c3, eq_true c4, s0]
          exact fin (by simp only [slot_len, hs]) (by simp only [go_sem, Nat.reduceLT, Nat.reduceEqDiff, reduceCtorEq, Int.reduceLT, Int.reduceEq, hs]) (by simp only [go_sem, Nat.reduceLT, Nat.reduceEqDiff, reduceCtorEq, Int.reduceLT, Int.reduceEq, hs]; rfl) (by simp [eL]) (fun p hp => by rw [eL] at hp; cases hp; rfl)
        · rw [if_neg (by omega)] at eL
          simp only [go_sem, Nat.reduceLT, Nat.reduceEqDiff, reduceCtorEq, Int.reduceLT, Int.reduceEq, hs, h2, eq_true c3, c4, s0]
          exact fin (by simp only [slot_len, hs]) (by simp only [go_sem, Nat.reduceLT, Nat.reduceEqDiff, reduceCtorEq, Int.reduceLT, Int.reduceEq, hs]) (by simp only [go_sem, Nat.reduceLT, Nat.reduceEqDiff, reduceCtorEq, Int.reduceLT, Int.reduceEq, hs]; rfl) (by simp [eL]) (fun p hp => by rw [eL] at hp; cases hp)
      · rw [if_neg (by omega)] at eL
        simp only [go_sem, Nat.reduceLT, Nat.reduceEqDiff, reduceCtorEq, Int.reduceLT, Int.reduceEq, hs, h2, c3, s0]
        exact fin (by simp only [slot_len, hs]) (by simp only [go_sem, Nat.reduceLT, Nat.reduceEqDiff, reduceCtorEq, Int.reduceLT, Int.reduceEq, hs]) (by simp only [go_sem, Nat.reduceLT, Nat.reduceEqDiff, reduceCtorEq, Int.reduceLT, Int.reduceEq, hs]; rfl) (by simp [eL]) (fun p hp => by rw [eL] at hp; cases hp)
    · have e : lastF b a to = none := by
        unfold lastF
        rw [if_neg c1', hx, if_pos (by omega)]
      simp only [go_sem, Nat.reduceLT, Nat.reduceEqDiff, reduceCtorEq, Int.reduceLT, Int.reduceEq, hs, c2, l0, s0]
      exact fin (by simp only [slot_len, hs]) (by simp only [go_sem, Nat.reduceLT, Nat.reduceEqDiff, reduceCtorEq, Int.reduceLT, Int.reduceEq, hs]) (by simp only [go_sem, Nat.reduceLT, Nat.reduceEqDiff, reduceCtorEq, Int.reduceLT, Int.reduceEq, hs]; rfl) (by simp [e]) (fun p hp => by rw [e] at hp; cases hp)

/-- The document's: the place is read, too. -/
def rowF (b : List UInt8) (i to : Nat) : Option (KV × Nat) := if to ≤ 2 + i then none else (lastF b (b.getD (2 + i) 0).toNat to).map fun p => (p, (b.getD (2 + i) 0).toNat)
def RowP (b : List UInt8) (i to : Nat) (e : List CV) (n : Int) : Prop := (∃ c1 c2, e = [c1, c2]) ∧ ∀ p m, rowF b i to = some (p, m) → e = rowC p.1 p.2 ∧ n = (m : Nat)

theorem rrow_f37 {b : List UInt8} {u : VV} (hu : SlV 1 (eB b) u) (hb : b.length ≤ 1000000) {i to : Nat} (hto : to ≤ b.length) (hi : i ≤ 1000000) : Ret F 37 [u, vi .i64 i, vi .i64 to] [] fun v h' => ∃ e n, closRes h' v = some (.tup [.agg (e.map .cv), vi .i64 n, vb (rowF b i to).isSome]) ∧ RowP b i to e n := by
  refine call_E (fn := f37) rfl ?_
  simp only [f37]
  generalize hs0 : ([u, vi .i64 i, vi .i64 to] ++ List.replicate _ VV.undef : List VV) = s
  have hs : s.length = 70 := by rw [← hs0]; rfl
  have h0 : s.getD 0 .undef = u := by rw [← hs0]; rfl
  have h1 : s.getD 1 .undef = vi .i64 i := by rw [← hs0]; rfl
  have h2 : s.getD 2 .undef = vi .i64 to := by rw [← hs0]; rfl
  clear hs0
  have q0 : ([] ++ [VO.box [.cv (.sc (.string ⟨#[]⟩)), nilS] false] : Heap)[0]? = some (.box [.cv (.sc (.string ⟨#[]⟩)), nilS] false) := rfl
  have s0 : ∀ x y : VV, stO ([] ++ [VO.box [.cv (.sc (.string ⟨#[]⟩)), nilS] false] : Heap) 2 (.ptr 0 0) (.agg [x, y]) = some (.undef, [VO.box [x, y] false]) := fun x y => st_agg rfl q0 rfl
  simp only [go_sem, Nat.reduceLT, Nat.reduceEqDiff, reduceCtorEq, Int.reduceLT, Int.reduceEq, hs, List.length_nil]
  rw [X_eq f37_0.eq_1]
  have fin : ∀ {s' : List VV} {c1 c2 : CV} {n : Int} {ok : Bool}, s'.length = 70 → s'.getD 6 .undef = .ptr 0 0 → s'.getD 7 .undef = vi .i64 n → s'.getD 8 .undef = vb ok → ok = (rowF b i to).isSome → (∀ p m, rowF b i to = some (p, m) → [c1, c2] = rowC p.1 p.2 ∧ n = (m : Nat)) →
      RQ [.cell 6 true 2, .t 7, .t 8] (fun v h' => ∃ e n, closRes h' v = some (.tup [.agg (e.map .cv), vi .i64 n, vb (rowF b i to).isSome]) ∧ RowP b i to e n) .ret ⟨s', [VO.box [.cv c1, .cv c2] false]⟩ := by
    intro s' c1 c2 n ok a1 a6 a7 a8 hok hp
    refine ⟨trivial, [.agg [.cv c1, .cv c2], vi .i64 n, vb ok], ?_, [c1, c2], n, ?_, ⟨c1, c2, rfl⟩, hp⟩
    · have g7 := slot_get (s := s') (n := 7) (by omega)
      have g8 := slot_get (s := s') (n := 8) (by omega)
      rw [a7] at g7
      rw [a8] at g8
      simp [resAll, resOf, g7, g8, ← List.getD_eq_getElem?_getD, a6, ldCells]
    · rw [hok]; rfl
  have eb : bdO [.cv (.sc (.string ⟨#[]⟩)), nilS] [] = some (.agg [.cv (.sc (.string ⟨#[]⟩)), nilS]) := rfl
  have e2 : IntKind.i64.wrap (2 + (i : Int)) = ((2 + i : Nat) : Int) := by rw [IntWalk.i64_in _ (by omega)]; omega
  by_cases c0 : (to : Int) ≤ ((2 + i : Nat) : Int)
  · have e : rowF b i to = none := by unfold rowF; rw [if_pos (by omega)]
    simp only [go_sem, Nat.reduceLT, Nat.reduceEqDiff, reduceCtorEq, Int.reduceLT, Int.reduceEq, hs, h1, h2, e2, ge_iff_le, c0, eb, s0]
    exact fin (by simp only [slot_len, hs]) (by simp only [go_sem, Nat.reduceLT, Nat.reduceEqDiff, reduceCtorEq, Int.reduceLT, Int.reduceEq, hs]) (by simp only [go_sem, Nat.reduceLT, Nat.reduceEqDiff, reduceCtorEq, Int.reduceLT, Int.reduceEq, hs]; rfl) (by simp only [go_sem, Nat.reduceLT, Nat.reduceEqDiff, reduceCtorEq, Int.reduceLT, Int.reduceEq, hs]; rfl) (by simp [e]) (fun p m hp => by rw [e] at hp; cases hp)
  have hlt : 2 + i < b.length := by omega
  have hia := hu.ia (h := ([] ++ [VO.box [.cv (.sc (.string ⟨#[]⟩)), nilS] false])) (k := .i64) (j := ((2 + i : Nat) : Int)) (by omega) (eB_get (List.getElem?_eq_getElem hlt))
  have hbd : b.getD (2 + i) 0 = b[2 + i] := by rw [List.getD_eq_getElem?_getD, List.getElem?_eq_getElem hlt]; rfl
  have hR : rowF b i to = (lastF b b[2 + i].toNat to).map fun p => (p, b[2 + i].toNat) := by unfold rowF; rw [if_neg (by omega), hbd]
  have hx8 := (b[2 + i]).toNat_lt
  have ew : IntKind.i64.wrap ((b[2 + i].toNat : Nat) : Int) = ((b[2 + i].toNat : Nat) : Int) := IntWalk.i64_in _ (by omega)
  generalize ha' : b[2 + i].toNat = a at *
  have hia' : iaO ([] ++ [VO.box [.cv (.sc (.string ⟨#[]⟩)), nilS] false]) 1 u (vi .i64 ((2 + i : Nat) : Int)) = some (.rptr [.sc (.int .u8 (a : Int))], [] ++ [VO.box [.cv (.sc (.string ⟨#[]⟩)), nilS] false]) := by
    first | exact hia | (rw [hia]; simp only [byteCell, ha'])
  by_cases c1 : (to : Int) ≤ (a : Int)
  · have e : rowF b i to = none := by rw [hR]; unfold lastF; rw [if_pos (by omega)]; rfl
    simp only [go_sem, Nat.reduceLT, Nat.reduceEqDiff, reduceCtorEq, Int.reduceLT, Int.reduceEq, hs, h0, h1, h2, e2, ge_iff_le, c0, hia', ew, c1, eb, s0]
    exact fin (by simp only [slot_len, hs]) (by simp only [go_sem, Nat.reduceLT, Nat.reduceEqDiff, reduceCtorEq, Int.reduceLT, Int.reduceEq, hs]) (by simp only [go_sem, Nat.reduceLT, Nat.reduceEqDiff, reduceCtorEq, Int.reduceLT, Int.reduceEq, hs]; rfl) (by simp only [go_sem, Nat.reduceLT, Nat.reduceEqDiff, reduceCtorEq, Int.reduceLT, Int.reduceEq, hs]; rfl) (by simp [e]) (fun p m hp => by rw [e] at hp; cases hp)
  · have c1' : ¬ to ≤ a := by omega
    obtain ⟨w, hw, hsl⟩ := hu.upto (h := ([] ++ [VO.box [.cv (.sc (.string ⟨#[]⟩)), nilS] false])) (k := .i64) (b := (to : Int)) (by omega) (by rw [eB_len]; omega)
    rw [Int.toNat_natCast, eB_take] at hw
    have hwl : (b.take to).length ≤ 1000000000 := by rw [List.length_take]; omega
    have n1 := rtext_f43 (b.take to) w hw (a : Int) 30 [] hwl
    generalize hx : getText (b.take to) (a : Int) 30 = x at *
    have r1 : closRes [] (.tup [txt x.1, vi .i64 x.2.1, vi .i64 x.2.2]) = some (.tup [txt x.1, vi .i64 x.2.1, vi .i64 x.2.2]) := rfl
    simp only [go_sem, Nat.reduceLT, Nat.reduceEqDiff, reduceCtorEq, Int.reduceLT, Int.reduceEq, hs, h0, h1, h2, e2, ge_iff_le, c0, hia', ew, c1, hsl]
    refine XO_callP (h1 := ([] ++ [VO.box [.cv (.sc (.string ⟨#[]⟩)), nilS] false])) (by simp only [List.map, go_sem, Nat.reduceLT, Nat.reduceEqDiff, reduceCtorEq, Int.reduceLT, Int.reduceEq, hs]; exact hw.clos rfl) n1 r1 ?_
    simp only [go_sem, Nat.reduceLT, Nat.reduceEqDiff, reduceCtorEq, Int.reduceLT, Int.reduceEq, hs]
    rw [X_eq f37_1.eq_1]
    by_cases c2 : (x.2.2 : Int) = 0
    · have c2' : x.2.2 = 0 := by omega
      have n2 := rtext_f43 (b.take to) w hw (x.2.1 : Int) 150 [] hwl
      generalize hy : getText (b.take to) (x.2.1 : Int) 150 = y at *
      have r2 : closRes [] (.tup [txt y.1, vi .i64 y.2.1, vi .i64 y.2.2]) = some (.tup [txt y.1, vi .i64 y.2.1, vi .i64 y.2.2]) := rfl
      simp only [go_sem, Nat.reduceLT, Nat.reduceEqDiff, reduceCtorEq, Int.reduceLT, Int.reduceEq, hs, h0, h2, eq_true c2, hsl]
      refine XO_callP (h1 := ([] ++ [VO.box [.cv (.sc (.string ⟨#[]⟩)), nilS] false])) (by simp only [List.map, go_sem, Nat.reduceLT, Nat.reduceEqDiff, reduceCtorEq, Int.reduceLT, Int.reduceEq, hs]; exact hw.clos rfl) n2 r2 ?_
      have eL : lastF b a to = if y.2.2 = 0 ∧ y.2.1 = to then some (x.1, y.1) else none := by
        unfold lastF
        rw [if_neg c1', hx, if_neg (by rw [c2']; simp), hy]
      rw [eL] at hR
      by_cases c3 : (y.2.2 : Int) = 0
      · by_cases c4 : (y.2.1 : Int) = (to : Int)
        · rw [if_pos ⟨by omega, by omega⟩] at hR
          simp only [go_sem, Nat.reduceLT, Nat.reduceEqDiff, reduceCtorEq, Int.reduceLT, Int.reduceEq, hs, h2, eq_true c3, eq_true c4, s0]
          exact fin (by simp only [slot_len, hs]) (by simp only [go_sem, Nat.reduceLT, Nat.reduceEqDiff, reduceCtorEq, Int.reduceLT, Int.reduceEq, hs]) (by simp only [go_sem, Nat.reduceLT, Nat.reduceEqDiff, reduceCtorEq, Int.reduceLT, Int.reduceEq, hs]; rfl) (by simp only [go_sem, Nat.reduceLT, Nat.reduceEqDiff, reduceCtorEq, Int.reduceLT, Int.reduceEq, hs]; rfl) (by simp [hR]) (fun p m hp => by rw [hR] at hp; cases hp; exact ⟨rfl, rfl⟩)
        · rw [if_neg (by omega)] at hR
          simp only [go_sem, Nat.reduceLT, Nat.reduceEqDiff, reduceCtorEq, Int.reduceLT, Int.reduceEq, hs, h2, eq_true c3, c4, s0]
          exact fin (by simp only [slot_len, hs]) (by simp only [go_sem, Nat.reduceLT, Nat.reduceEqDiff, reduceCtorEq, Int.reduceLT, Int.reduceEq, hs]) (by simp only [go_sem, Nat.reduceLT, Nat.reduceEqDiff, reduceCtorEq, Int.reduceLT, Int.reduceEq, hs]; rfl) (by simp only [go_sem, Nat.reduceLT, Nat.reduceEqDiff, reduceCtorEq, Int.reduceLT, Int.reduceEq, hs]; rfl) (by simp [hR]) (fun p m hp => by rw [hR] at hp; cases hp)
      · rw [if_neg (by omega)] at hR
        simp only [go_sem, Nat.reduceLT, Nat.reduceEqDiff, reduceCtorEq, Int.reduceLT, Int.reduceEq, hs, h2, c3, s0]
        exact fin (by simp only [slot_len, hs]) (by simp only [go_sem, Nat.reduceLT, Nat.reduceEqDiff, reduceCtorEq, Int.reduceLT, Int.reduceEq, hs]) (by simp only [go_sem, Nat.reduceLT, Nat.reduceEqDiff, reduceCtorEq, Int.reduceLT, Int.reduceEq, hs]; rfl) (by simp only [go_sem, Nat.reduceLT, Nat.reduceEqDiff, reduceCtorEq, Int.reduceLT, Int.reduceEq, hs]; rfl) (by simp [hR]) (fun p m hp => by rw [hR] at hp; cases hp)
    · have e : lastF b a to = none := by
        unfold lastF
        rw [if_neg c1', hx, if_pos (by omega)]
      rw [e] at hR
      simp only [go_sem, Nat.reduceLT, Nat.reduceEqDiff, reduceCtorEq, Int.reduceLT, Int.reduceEq, hs, c2, eb, s0]
      exact fin (by simp only [slot_len, hs]) (by simp only [go_sem, Nat.reduceLT, Nat.reduceEqDiff, reduceCtorEq, Int.reduceLT, Int.reduceEq, hs]) (by simp only [go_sem, Nat.reduceLT, Nat.reduceEqDiff, reduceCtorEq, Int.reduceLT, Int.reduceEq, hs]; rfl) (by simp only [go_sem, Nat.reduceLT, Nat.reduceEqDiff, reduceCtorEq, Int.reduceLT, Int.reduceEq, hs]; rfl) (by simp [hR]) (fun p m hp => by rw [hR] at hp; cases hp)
end Go.V05

set_option linter.unusedSimpArgs false
set_option linter.unusedVariables false
namespace Go.V05
open Go Go.Vm

/-! ### Decode -/
theorem NB.snoc {h0 h : Heap} {els : List (List CV)} {kv : List KV} {v : VV} (hR : RowsE els kv) (p : KV) : RowsE (els ++ [rowC p.1 p.2]) (kv ++ [p]) :=
  hR.snoc ⟨.sl 1 (eB p.2) false, rfl, .inr ⟨false, rfl⟩⟩

theorem decL_succ {b : List UInt8} {n i to : Nat} (h1 : ¬ to ≤ 2 + i) : decL b (n + 1) i to = match lastF b (b.getD (2 + i) 0).toNat to with | none => none | some p => (decL b n (i + 1) (b.getD (2 + i) 0).toNat).map (p :: ·) := by
  simp only [decL]; rw [if_neg h1]
  all_goals (cases lastF b (b.getD (2 + i) 0).toNat to <;> rfl)

theorem f12_loop {b : List UInt8} {u : VV} (hu : SlV 1 (eB b) u) (hb : b.length = 256) {n : Nat} (hn : n ≤ 255) {g0 : Heap} :
    ∀ (r i to : Nat) (els : List (List CV)) (kv : List KV) (v : VV) (s : List VV) (h : Heap) (Q : Pst), i + r = n → to ≤ 252 → kv.length = i → NB g0 h 2 els v → RowsE els kv → s.length = 75 → s.getD 0 .undef = u → s.getD 5 .undef = v → s.getD 6 .undef = vi .i64 to → s.getD 24 .undef = vi .i64 n → s.getD 25 .undef = vi .i64 i →
      (∀ rest, decL b r i to = some rest → ∀ s' h' els' v', s'.length = 75 → s'.getD 0 .undef = u → s'.getD 5 .undef = v' → NB g0 h' 2 els' v' → RowsE els' (kv ++ rest) → Q (.exit 1) ⟨s', h'⟩) →
      (decL b r i to = none → ∀ s' h', s'.length = 75 → s'.getD 2 .undef = vi .i64 0 → s'.getD 3 .undef = nilS → s'.getD 4 .undef = vi .u16 11 → HExt g0 h' → Q .ret ⟨s', h'⟩) → X F (.loop f12_3) ⟨s, h⟩ Q := by
  intro r
  induction r with
  | zero =>
    intro i to els kv v s h Q hi hto hkv hB hR hs h0 h5 h6 h24 h25 hE hN
    rw [X_loop, X_eq f12_3.eq_1]
    have c : ¬ (i : Int) < (n : Int) := by omega
    simp only [go_sem, Nat.reduceLT, Nat.reduceEqDiff, reduceCtorEq, Int.reduceLT, Int.reduceEq, hs, h24, h25, c]
    rw [X_eq f12_0.eq_1]
    simp only [go_sem, Nat.reduceLT, Nat.reduceEqDiff, reduceCtorEq, Int.reduceLT, Int.reduceEq, hs]
    exact hE [] rfl _ _ els v (by simp only [slot_len, hs]) (by simp only [go_sem, Nat.reduceLT, Nat.reduceEqDiff, reduceCtorEq, Int.reduceLT, Int.reduceEq, h0]) (by simp only [go_sem, Nat.reduceLT, Nat.reduceEqDiff, reduceCtorEq, Int.reduceLT, Int.reduceEq, h5]) hB (by rw [List.append_nil]; exact hR)
  | succ r ih =>
    intro i to els kv v s h Q hi hto hkv hB hR hs h0 h5 h6 h24 h25 hE hN
    rw [X_loop, X_eq f12_3.eq_1]
    have c : (i : Int) < (n : Int) := by omega
    have hw : IntKind.i64.wrap ((i : Int) + 1) = ((i + 1 : Nat) : Int) := by rw [IntWalk.i64_in _ (by omega)]; omega
    have e2 : IntKind.i64.wrap (2 + (i : Int)) = ((2 + i : Nat) : Int) := by rw [IntWalk.i64_in _ (by omega)]; omega
    simp only [go_sem, Nat.reduceLT, Nat.reduceEqDiff, reduceCtorEq, Int.reduceLT, Int.reduceEq, hs, h24, h25, c]
    rw [X_eq f12_0.eq_1]
    simp only [go_sem, Nat.reduceLT, Nat.reduceEqDiff, reduceCtorEq, Int.reduceLT, Int.reduceEq, hs, h25]
    rw [X_eq f12_1.eq_1]
    by_cases c1 : (to : Int) ≤ ((2 + i : Nat) : Int)
    · simp only [go_sem, Nat.reduceLT, Nat.reduceEqDiff, reduceCtorEq, Int.reduceLT, Int.reduceEq, hs, h6, e2, ge_iff_le, c1]
      refine hN (by simp only [decL]; rw [if_pos (by omega)]) _ _ (by simp only [slot_len, hs]) (by simp only [go_sem, Nat.reduceLT, Nat.reduceEqDiff, reduceCtorEq, Int.reduceLT, Int.reduceEq, hs]) (by simp only [go_sem, Nat.reduceLT, Nat.reduceEqDiff, reduceCtorEq, Int.reduceLT, Int.reduceEq, hs]) (by simp only [go_sem, Nat.reduceLT, Nat.reduceEqDiff, reduceCtorEq, Int.reduceLT, Int.reduceEq, hs]) hB.ext
    · have c1' : ¬ to ≤ 2 + i := by omega
      have hlt : 2 + i < b.length := by omega
      have hia := hu.ia (h := h) (k := .i64) (j := ((2 + i : Nat) : Int)) (by omega) (eB_get (List.getElem?_eq_getElem hlt))
      have hbd : b.getD (2 + i) 0 = b[2 + i] := by rw [List.getD_eq_getElem?_getD, List.getElem?_eq_getElem hlt]; rfl
      have hdec := decL_succ (b := b) (n := r) c1'
      have hx8 := (b[2 + i]).toNat_lt
      have ew : IntKind.i64.wrap ((b[2 + i].toNat : Nat) : Int) = ((b[2 + i].toNat : Nat) : Int) := IntWalk.i64_in _ (by omega)
      rw [hbd] at hdec
      obtain ⟨v25, g25, n25, e, r25, ⟨x1, x2, rfl⟩, hp⟩ := last_f25 hu (by omega) (a := b[2 + i].toNat) (to := to) (by omega) (by omega)
      generalize ha : b[2 + i].toNat = a at *
      simp only [go_sem, Nat.reduceLT, Nat.reduceEqDiff, reduceCtorEq, Int.reduceLT, Int.reduceEq, hs, h0, h6, e2, ge_iff_le, c1, hia, byteCell, ha, ew]
      refine XO_callP (h1 := h) (by simp only [List.map, go_sem, Nat.reduceLT, Nat.reduceEqDiff, reduceCtorEq, Int.reduceLT, Int.reduceEq, hs]; exact hu.clos rfl) n25 r25 ?_
      simp only [go_sem, Nat.reduceLT, Nat.reduceEqDiff, reduceCtorEq, Int.reduceLT, Int.reduceEq, hs, List.map]
      rw [X_eq f12_2.eq_1]
      cases hL : lastF b a to with
      | none =>
        rw [hL] at hdec
        simp only [go_sem, Nat.reduceLT, Nat.reduceEqDiff, reduceCtorEq, Int.reduceLT, Int.reduceEq, hs, Option.isSome_none]
        exact hN hdec _ _ (by simp only [slot_len, hs]) (by simp only [go_sem, Nat.reduceLT, Nat.reduceEqDiff, reduceCtorEq, Int.reduceLT, Int.reduceEq, hs]) (by simp only [go_sem, Nat.reduceLT, Nat.reduceEqDiff, reduceCtorEq, Int.reduceLT, Int.reduceEq, hs]) (by simp only [go_sem, Nat.reduceLT, Nat.reduceEqDiff, reduceCtorEq, Int.reduceLT, Int.reduceEq, hs]) (hB.ext.then _)
      | some p =>
        rw [hL] at hdec
        have he := hp p hL
        have hto' : a ≤ 252 := by
          unfold lastF at hL
          split at hL
          · cases hL
          · omega
        have q1 : (h ++ [VO.box [.cv x1, .cv x2] false])[h.length]? = some (.box [.cv x1, .cv x2] false) := at_last
        have B1 := hB.then (HExt.push h (VO.box [.cv x1, .cv x2] false))
        simp only [go_sem, Nat.reduceLT, Nat.reduceEqDiff, reduceCtorEq, Int.reduceLT, Int.reduceEq, hs, h5, Option.isSome_some]
        have hlen := hR.len
        refine XO_appNB B1 (new := [[x1, x2]]) (by simp only [go_sem, Nat.reduceLT, Nat.reduceEqDiff, reduceCtorEq, Int.reduceLT, Int.reduceEq, hs]) (by simp only [go_sem, Nat.reduceLT, Nat.reduceEqDiff, reduceCtorEq, Int.reduceLT, Int.reduceEq, hs]) (by simp only [List.length_singleton]; omega) (by simp only [List.length_singleton]; omega) (fun v' h' B' _ _ _ => ?_)
        simp only [go_sem, Nat.reduceLT, Nat.reduceEqDiff, reduceCtorEq, Int.reduceLT, Int.reduceEq, hs, h25, hw]
        rw [he] at B'
        refine ih (i + 1) a _ (kv ++ [p]) v' _ h' Q (by omega) hto' (by simp; omega) B' (NB.snoc (h0 := []) (h := []) (v := .undef) hR p) (by simp only [slot_len, hs]) (by simp only [go_sem, Nat.reduceLT, Nat.reduceEqDiff, reduceCtorEq, Int.reduceLT, Int.reduceEq, h0]) (by simp only [go_sem, Nat.reduceLT, Nat.reduceEqDiff, reduceCtorEq, Int.reduceLT, Int.reduceEq, hs]) (by simp only [go_sem, Nat.reduceLT, Nat.reduceEqDiff, reduceCtorEq, Int.reduceLT, Int.reduceEq, hs]) (by simp only [go_sem, Nat.reduceLT, Nat.reduceEqDiff, reduceCtorEq, Int.reduceLT, Int.reduceEq, h24]) (by simp only [go_sem, Nat.reduceLT, Nat.reduceEqDiff, reduceCtorEq, Int.reduceLT, Int.reduceEq, hs])
          (fun rest hr s' h' els' v' a1 a0 a5 B2 R2 => hE (p :: rest) (by rw [hdec, hr]; rfl) s' h' els' v' a1 a0 a5 B2 (by rw [List.append_assoc] at R2; exact R2)) (fun hr s' h' a1 a2 a3 a4 a5 => hN (by rw [hdec, hr]; rfl) s' h' a1 a2 a3 a4 a5)

/-- What Decode tells. -/
def DecP (b : List UInt8) (w : VV) (k : IntKind) : Prop := ∃ els x, w = .tup [vi .i64 (decF b).1, x, vi k (decF b).2.2] ∧ SlV 2 els x ∧ RowsE els (decF b).2.1

theorem EncP.pure {b : Option (List UInt8)} {v : VV} {h' : Heap} (h : EncP [] b v h') : ∃ w, closRes h' v = some (.tup [w, vb b.isSome]) ∧ ∀ c, b = some c → SlV 1 (eB c) w := by
  cases b with
  | none =>
    have : v = .tup [nilS, vb false] := h
    subst this
    exact ⟨nilS, rfl, fun c hc => by cases hc⟩
  | some c =>
    obtain ⟨w, rfl, B⟩ := h
    obtain ⟨x, h1, e1, e2⟩ := B.clos
    refine ⟨x, ?_, fun c' hc => by cases hc; exact e2⟩
    have : closAs h' [w, vb true] = some ([x, vb true], h1) := closAs_cons e1 rfl
    simp only [closRes, this, Option.map_some, Option.isSome_some]
theorem decode_f12 {b : List UInt8} {u : VV} (hu : SlV 1 (eB b) u) (hb : b.length ≤ 1000000) : RetP F 12 [u] fun w => DecP b w .u16 := by
  have : Ret F 12 [u] [] fun v h' => ∃ w, closRes h' v = some w ∧ DecP b w .u16 := by
    refine call_E (fn := f12) rfl ?_
    simp only [f12]
    generalize hs0 : ([u] ++ List.replicate _ VV.undef : List VV) = s
    have hs : s.length = 75 := by rw [← hs0]; rfl
    have h0 : s.getD 0 .undef = u := by rw [← hs0]; rfl
    clear hs0
    have no : ∀ (e : Nat), decF b = (0, [], e) → DecP b (.tup [vi .i64 0, nilS, vi .u16 e]) .u16 := fun e he => ⟨[], nilS, by rw [he]; rfl, .inl ⟨rfl, rfl⟩, by rw [he]; exact RowsE.nil⟩
    have fin : ∀ (s' : List VV) (h' : Heap) (e : Nat), s'.length = 75 → s'.getD 2 .undef = vi .i64 0 → s'.getD 3 .undef = nilS → s'.getD 4 .undef = vi .u16 e → decF b = (0, [], e) → RQ [.t 2, .t 3, .t 4] (fun v h' => ∃ w, closRes h' v = some w ∧ DecP b w .u16) .ret ⟨s', h'⟩ := by
      intro s' h' e a1 a2 a3 a4 he
      simp only [go_sem, Nat.reduceLT, Nat.reduceEqDiff, reduceCtorEq, Int.reduceLT, Int.reduceEq, a1, a2, a3, a4]
      exact ⟨_, rfl, no e he⟩
    by_cases c1 : (b.length : Int) = 256
    · have c1' : b.length = 256 := by omega
      obtain ⟨v24, h24, n24, rfl⟩ := right_f24 hu (by omega)
      simp only [go_sem, Nat.reduceLT, Nat.reduceEqDiff, reduceCtorEq, Int.reduceLT, Int.reduceEq, hs, h0, hu.ln, eB_len, eq_true c1, ne_eq, not_true_eq_false]
      refine XO_callP (h1 := []) (by simp only [List.map, go_sem, Nat.reduceLT, Nat.reduceEqDiff, reduceCtorEq, Int.reduceLT, Int.reduceEq, hs]; exact hu.clos rfl) n24 rfl ?_
      cases hr : rightB b with
      | false =>
        simp only [go_sem, Nat.reduceLT, Nat.reduceEqDiff, reduceCtorEq, Int.reduceLT, Int.reduceEq, hs]
        exact ⟨_, rfl, no 12 (by unfold decF; rw [if_neg (by rw [c1']; simp), hr, if_pos rfl])⟩
      | true =>
        have g1 : (1 : Nat) < b.length := by omega
        have g0 : (0 : Nat) < b.length := by omega
        have hia1 : iaO [] 1 u (vi .i64 1) = some (.rptr (byteCell b[1]), []) := hu.ia (h := []) (k := .i64) (j := ((1 : Nat) : Int)) (by omega) (eB_get (List.getElem?_eq_getElem g1))
        have hia0 : ∀ h : Heap, iaO h 1 u (vi .i64 0) = some (.rptr (byteCell b[0]), h) := fun h => hu.ia (h := h) (k := .i64) (j := ((0 : Nat) : Int)) (by omega) (eB_get (List.getElem?_eq_getElem g0))
        have b1 : b.getD 1 0 = b[1] := by rw [List.getD_eq_getElem?_getD, List.getElem?_eq_getElem g1]; rfl
        have b0 : b.getD 0 0 = b[0] := by rw [List.getD_eq_getElem?_getD, List.getElem?_eq_getElem g0]; rfl
        have x1 := (b[1]).toNat_lt
        have x0 := (b[0]).toNat_lt
        have w1 : IntKind.i64.wrap (b[1].toNat : Int) = (b[1].toNat : Int) := IntWalk.i64_in _ (by omega)
        have w0 : IntKind.i64.wrap (b[0].toNat : Int) = (b[0].toNat : Int) := IntWalk.i64_in _ (by omega)
        have hdF : decF b = match decL b b[1].toNat 0 252 with | none => (0, [], 11) | some l => if encF (b[0].toNat : Int) l = some b then (b[0].toNat, l, 0) else (0, [], 11) := by
          unfold decF
          rw [if_neg (by rw [c1']; simp), hr, if_neg (by simp), b1, b0]
          all_goals (cases decL b b[1].toNat 0 252 <;> rfl)
        simp only [go_sem, Nat.reduceLT, Nat.reduceEqDiff, reduceCtorEq, Int.reduceLT, Int.reduceEq, hs, h0, hia1, byteCell, w1]
        refine f12_loop hu c1' (n := b[1].toNat) (by omega) (g0 := []) b[1].toNat 0 252 [] [] nilS _ _ _ (by omega) (by omega) rfl (NB.nil _ _) RowsE.nil (by simp only [slot_len, hs]) (by simp only [go_sem, Nat.reduceLT, Nat.reduceEqDiff, reduceCtorEq, Int.reduceLT, Int.reduceEq, h0]) (by simp only [go_sem, Nat.reduceLT, Nat.reduceEqDiff, reduceCtorEq, Int.reduceLT, Int.reduceEq, hs]) (by simp only [go_sem, Nat.reduceLT, Nat.reduceEqDiff, reduceCtorEq, Int.reduceLT, Int.reduceEq, hs]; rfl) (by simp only [go_sem, Nat.reduceLT, Nat.reduceEqDiff, reduceCtorEq, Int.reduceLT, Int.reduceEq, hs]) (by simp only [go_sem, Nat.reduceLT, Nat.reduceEqDiff, reduceCtorEq, Int.reduceLT, Int.reduceEq, hs]; rfl)
          (fun rest hr2 s' h' els' v' a1 a0 a5 B R => ?_) (fun hr2 s' h' a1 a2 a3 a4 _ => ?_)
        · replace hdF : decF b = if encF (b[0].toNat : Int) rest = some b then (b[0].toNat, rest, 0) else (0, [], 11) := by rw [hdF, hr2]
          rw [List.nil_append] at R
          have hlen : rest.length ≤ 9223372036854775807 := by
            have : ∀ (n i to : Nat) (l : List KV), decL b n i to = some l → l.length = n := by
              intro n
              induction n with
              | zero => intro i to l h; simp only [decL] at h; cases h; rfl
              | succ n ih =>
                intro i to l h
                simp only [decL] at h
                split at h
                · cases h
                · split at h
                  · cases h
                  · cases hd : decL b n (i + 1) (b.getD (2 + i) 0).toNat with
                    | none => rw [hd] at h; cases h
                    | some l' => rw [hd] at h; cases h; simp [ih _ _ _ hd]
            have := this _ _ _ _ hr2; omega
          obtain ⟨x, h1, e1, e2⟩ := B.clos
          obtain ⟨v10, h10, n10, P10⟩ := encode_f10 [] (b[0].toNat : Int) e2 R hlen
          obtain ⟨y, r10, hy⟩ := P10.pure
          simp only [go_sem, Nat.reduceLT, Nat.reduceEqDiff, reduceCtorEq, Int.reduceLT, Int.reduceEq, a1, a0, a5, hia0, byteCell, w0]
          have ec : closAs h' [vi .i64 (b[0].toNat : Int), v'] = some ([vi .i64 (b[0].toNat : Int), x], h1) := closAs_cons rfl (by simp only [closAs, e1])
          refine XO_callP (h1 := h1) (by simp only [List.map, go_sem, Nat.reduceLT, Nat.reduceEqDiff, reduceCtorEq, Int.reduceLT, Int.reduceEq, a1]; exact ec) n10 r10 ?_
          have B1 : elsOf h1 2 v' = some els' ∧ ∃ z, closA h1 v' = some (z, h1) ∧ SlV 2 els' z := by
            rcases B.v with ⟨rfl, rfl⟩ | ⟨id, g, _, rfl, a4⟩
            · simp [closA, Go.Vm.clos] at e1
              exact ⟨rfl, nilS, rfl, .inl ⟨rfl, rfl⟩⟩
            · simp [closA, Go.Vm.clos, a4] at e1
              obtain ⟨_, rfl⟩ := e1
              have hg : (h'.set id (VO.arr 2 els' g true))[id]? = some (.arr 2 els' g true) := by rw [List.getElem?_set_self (lt_at a4)]
              refine ⟨by simp [elsOf, hg], .cv (.sl 2 els' false), ?_, .inr ⟨false, rfl⟩⟩
              simp [closA, Go.Vm.clos, hg]
          obtain ⟨z, ez, hz⟩ := B1.2
          have e12 : closRes h1 (.tup [vi .i64 (b[0].toNat : Int), v', vi .u16 0]) = some (.tup [vi .i64 (b[0].toNat : Int), z, vi .u16 0]) := by
            have : closAs h1 [vi .i64 (b[0].toNat : Int), v', vi .u16 0] = some ([vi .i64 (b[0].toNat : Int), z, vi .u16 0], h1) := closAs_cons rfl (closAs_cons ez rfl)
            simp only [closRes, this, Option.map_some]
          cases hE : encF (b[0].toNat : Int) rest with
          | none =>
            rw [hE] at hdF
            simp only [go_sem, Nat.reduceLT, Nat.reduceEqDiff, reduceCtorEq, Int.reduceLT, Int.reduceEq, a1, Option.isSome_none]
            exact ⟨_, rfl, no 11 (by rw [hdF]; simp)⟩
          | some c =>
            have hS := hy c hE
            have n26 := equal_f26 hS hu
            rw [hE] at hdF
            simp only [go_sem, Nat.reduceLT, Nat.reduceEqDiff, reduceCtorEq, Int.reduceLT, Int.reduceEq, a1, a0, Option.isSome_some]
            refine XO_callP (h1 := h1) (by simp only [List.map, go_sem, Nat.reduceLT, Nat.reduceEqDiff, reduceCtorEq, Int.reduceLT, Int.reduceEq, a1]; exact hS.clos (hu.clos rfl)) n26 rfl ?_
            by_cases hc : c = b
            · rw [hc] at hdF
              rw [if_pos rfl] at hdF
              simp only [go_sem, Nat.reduceLT, Nat.reduceEqDiff, reduceCtorEq, Int.reduceLT, Int.reduceEq, a1, a0, a5, hc, hia0, byteCell, w0]
              exact ⟨_, e12, els', z, by rw [hdF]; rfl, hz, by rw [hdF]; exact R⟩
            · have hc' : ¬ some c = some b := fun e => hc (by cases e; rfl)
              rw [if_neg hc'] at hdF
              simp only [go_sem, Nat.reduceLT, Nat.reduceEqDiff, reduceCtorEq, Int.reduceLT, Int.reduceEq, a1, hc]
              exact ⟨_, rfl, no 11 hdF⟩
        · rw [hr2] at hdF
          simp only [go_sem, Nat.reduceLT, Nat.reduceEqDiff, reduceCtorEq, Int.reduceLT, Int.reduceEq, a1, a2, a3, a4]
          exact ⟨_, rfl, no 11 hdF⟩
    · simp only [go_sem, Nat.reduceLT, Nat.reduceEqDiff, reduceCtorEq, Int.reduceLT, Int.reduceEq, hs, h0, hu.ln, eB_len, c1]
      exact ⟨_, rfl, no 11 (by unfold decF; rw [if_pos (by omega)])⟩
  exact this
end Go.V05

set_option linter.unusedSimpArgs false
set_option linter.unusedVariables false
namespace Go.V05
open Go Go.Vm

/-! ### the document's Decode -/
theorem decL_row {b : List UInt8} {n i to : Nat} : decL b (n + 1) i to = match rowF b i to with | none => none | some (p, m) => (decL b n (i + 1) m).map (p :: ·) := by
  simp only [decL, rowF]
  by_cases h : to ≤ 2 + i
  · rw [if_pos h, if_pos h]
  · rw [if_neg h, if_neg h]
    all_goals (cases lastF b (b.getD (2 + i) 0).toNat to <;> rfl)
theorem rowF_le {b : List UInt8} {i to m : Nat} {p : KV} (h : rowF b i to = some (p, m)) : m ≤ to := by
  unfold rowF at h
  split at h
  · cases h
  · cases hl : lastF b (b.getD (2 + i) 0).toNat to with
    | none => rw [hl] at h; cases h
    | some q =>
      rw [hl] at h
      simp only [Option.map_some, Option.some.injEq, Prod.mk.injEq] at h
      unfold lastF at hl
      split at hl
      · cases hl
      · omega

theorem f29_loop {b : List UInt8} {u : VV} (hu : SlV 1 (eB b) u) (hb : b.length = 256) (hb1 : 1 < b.length) {g0 : Heap} :
    ∀ (r i to : Nat) (els : List (List CV)) (kv : List KV) (v : VV) (s : List VV) (h : Heap) (Q : Pst), i + r = b[1].toNat → to ≤ 252 → kv.length = i → NB g0 h 2 els v → RowsE els kv → s.length = 65 → s.getD 0 .undef = u → s.getD 5 .undef = v → s.getD 6 .undef = vi .i64 to → s.getD 7 .undef = vi .i64 i →
      (∀ rest, decL b r i to = some rest → ∀ s' h' els' v', s'.length = 65 → s'.getD 0 .undef = u → s'.getD 5 .undef = v' → NB g0 h' 2 els' v' → RowsE els' (kv ++ rest) → Q (.exit 0) ⟨s', h'⟩) →
      (decL b r i to = none → ∀ s' h', s'.length = 65 → s'.getD 2 .undef = vi .i64 0 → s'.getD 3 .undef = nilS → s'.getD 4 .undef = vi .i64 11 → Q .ret ⟨s', h'⟩) → X F (.loop f29_3) ⟨s, h⟩ Q := by
  have x1 := (b[1]).toNat_lt
  have w1 : IntKind.i64.wrap (b[1].toNat : Int) = (b[1].toNat : Int) := IntWalk.i64_in _ (by omega)
  have hia1 : ∀ h : Heap, iaO h 1 u (vi .i64 1) = some (.rptr (byteCell b[1]), h) := fun h => hu.ia (h := h) (k := .i64) (j := ((1 : Nat) : Int)) (by omega) (eB_get (List.getElem?_eq_getElem hb1))
  intro r
  induction r with
  | zero =>
    intro i to els kv v s h Q hi hto hkv hB hR hs h0 h5 h6 h7 hE hN
    rw [X_loop, X_eq f29_3.eq_1]
    have c : ¬ (i : Int) < (b[1].toNat : Int) := by omega
    simp only [go_sem, Nat.reduceLT, Nat.reduceEqDiff, reduceCtorEq, Int.reduceLT, Int.reduceEq, hs, h0, h7, hia1, byteCell, w1, c]
    exact hE [] rfl _ _ els v (by simp only [slot_len, hs]) (by simp only [go_sem, Nat.reduceLT, Nat.reduceEqDiff, reduceCtorEq, Int.reduceLT, Int.reduceEq, h0]) (by simp only [go_sem, Nat.reduceLT, Nat.reduceEqDiff, reduceCtorEq, Int.reduceLT, Int.reduceEq, h5]) hB (by rw [List.append_nil]; exact hR)
  | succ r ih =>
    intro i to els kv v s h Q hi hto hkv hB hR hs h0 h5 h6 h7 hE hN
    rw [X_loop, X_eq f29_3.eq_1]
    have c : (i : Int) < (b[1].toNat : Int) := by omega
    have hw : IntKind.i64.wrap ((i : Int) + 1) = ((i + 1 : Nat) : Int) := by rw [IntWalk.i64_in _ (by omega)]; omega
    obtain ⟨v37, g37, n37, e, n, r37, ⟨y1, y2, rfl⟩, hp⟩ := rrow_f37 hu (by omega) (i := i) (to := to) (by omega) (by omega)
    have hdec := decL_row (b := b) (n := r) (i := i) (to := to)
    simp only [go_sem, Nat.reduceLT, Nat.reduceEqDiff, reduceCtorEq, Int.reduceLT, Int.reduceEq, hs, h0, h6, h7, hia1, byteCell, w1, c]
    refine XO_callP (h1 := h) (by simp only [List.map, go_sem, Nat.reduceLT, Nat.reduceEqDiff, reduceCtorEq, Int.reduceLT, Int.reduceEq, hs]; exact hu.clos rfl) n37 r37 ?_
    simp only [go_sem, Nat.reduceLT, Nat.reduceEqDiff, reduceCtorEq, Int.reduceLT, Int.reduceEq, hs, List.map]
    rw [X_eq f29_2.eq_1]
    cases hL : rowF b i to with
    | none =>
      replace hdec : decL b (r + 1) i to = none := by rw [hdec, hL]
      simp only [go_sem, Nat.reduceLT, Nat.reduceEqDiff, reduceCtorEq, Int.reduceLT, Int.reduceEq, hs, Option.isSome_none]
      exact hN hdec _ _ (by simp only [slot_len, hs]) (by simp only [go_sem, Nat.reduceLT, Nat.reduceEqDiff, reduceCtorEq, Int.reduceLT, Int.reduceEq, hs]) (by simp only [go_sem, Nat.reduceLT, Nat.reduceEqDiff, reduceCtorEq, Int.reduceLT, Int.reduceEq, hs]) (by simp only [go_sem, Nat.reduceLT, Nat.reduceEqDiff, reduceCtorEq, Int.reduceLT, Int.reduceEq, hs])
    | some pm =>
      obtain ⟨p, m⟩ := pm
      replace hdec : decL b (r + 1) i to = (decL b r (i + 1) m).map (p :: ·) := by rw [hdec, hL]
      obtain ⟨he, hnm⟩ := hp p m hL
      have hm := rowF_le hL
      have B1 := hB.then (HExt.push h (VO.box [.cv y1, .cv y2] false))
      simp only [go_sem, Nat.reduceLT, Nat.reduceEqDiff, reduceCtorEq, Int.reduceLT, Int.reduceEq, hs, h5, Option.isSome_some]
      have hlen := hR.len
      refine XO_appNB B1 (new := [[y1, y2]]) (by simp only [go_sem, Nat.reduceLT, Nat.reduceEqDiff, reduceCtorEq, Int.reduceLT, Int.reduceEq, hs]) (by simp only [go_sem, Nat.reduceLT, Nat.reduceEqDiff, reduceCtorEq, Int.reduceLT, Int.reduceEq, hs]) (by simp only [List.length_singleton]; omega) (by simp only [List.length_singleton]; omega) (fun v' h' B' _ _ _ => ?_)
      simp only [go_sem, Nat.reduceLT, Nat.reduceEqDiff, reduceCtorEq, Int.reduceLT, Int.reduceEq, hs, h7, hw]
      rw [he] at B'
      refine ih (i + 1) m _ (kv ++ [p]) v' _ h' Q (by omega) (by omega) (by simp; omega) B' (NB.snoc (h0 := []) (h := []) (v := .undef) hR p) (by simp only [slot_len, hs]) (by simp only [go_sem, Nat.reduceLT, Nat.reduceEqDiff, reduceCtorEq, Int.reduceLT, Int.reduceEq, h0]) (by simp only [go_sem, Nat.reduceLT, Nat.reduceEqDiff, reduceCtorEq, Int.reduceLT, Int.reduceEq, hs]) (by simp only [go_sem, Nat.reduceLT, Nat.reduceEqDiff, reduceCtorEq, Int.reduceLT, Int.reduceEq, hs, hnm]) (by simp only [go_sem, Nat.reduceLT, Nat.reduceEqDiff, reduceCtorEq, Int.reduceLT, Int.reduceEq, hs])
        (fun rest hr s' h' els' v' a1 a0 a5 B2 R2 => hE (p :: rest) (by rw [hdec, hr]; rfl) s' h' els' v' a1 a0 a5 B2 (by rw [List.append_assoc] at R2; exact R2)) (fun hr s' h' a1 a2 a3 a4 => hN (by rw [hdec, hr]; rfl) s' h' a1 a2 a3 a4)

theorem decL_len : ∀ {b : List UInt8} (n i to : Nat) (l : List KV), decL b n i to = some l → l.length = n := by
  intro b n
  induction n with
  | zero => intro i to l h; simp only [decL] at h; cases h; rfl
  | succ n ih =>
    intro i to l h
    simp only [decL] at h
    split at h
    · cases h
    · split at h
      · cases h
      · cases hd : decL b n (i + 1) (b.getD (2 + i) 0).toNat with
        | none => rw [hd] at h; cases h
        | some l' => rw [hd] at h; cases h; simp [ih _ _ _ hd]

theorem rdecode_f29 {b : List UInt8} {u : VV} (hu : SlV 1 (eB b) u) (hb : b.length ≤ 1000000) : RetP F 29 [u] fun w => DecP b w .i64 := by
  have : Ret F 29 [u] [] fun v h' => ∃ w, closRes h' v = some w ∧ DecP b w .i64 := by
    refine call_E (fn := f29) rfl ?_
    simp only [f29]
    generalize hs0 : ([u] ++ List.replicate _ VV.undef : List VV) = s
    have hs : s.length = 65 := by rw [← hs0]; rfl
    have h0 : s.getD 0 .undef = u := by rw [← hs0]; rfl
    clear hs0
    have no : ∀ (e : Nat), decF b = (0, [], e) → DecP b (.tup [vi .i64 0, nilS, vi .i64 e]) .i64 := fun e he => ⟨[], nilS, by rw [he]; rfl, .inl ⟨rfl, rfl⟩, by rw [he]; exact RowsE.nil⟩
    simp only [go_sem, Nat.reduceLT, Nat.reduceEqDiff, reduceCtorEq, Int.reduceLT, Int.reduceEq, hs]
    rw [X_eq f29_0.eq_1]
    by_cases c1 : (b.length : Int) = 256
    · have c1' : b.length = 256 := by omega
      obtain ⟨v36, h36, n36, rfl⟩ := rright_f36 hu (by omega)
      simp only [go_sem, Nat.reduceLT, Nat.reduceEqDiff, reduceCtorEq, Int.reduceLT, Int.reduceEq, hs, h0, hu.ln, eB_len, eq_true c1, ne_eq, not_true_eq_false]
      rw [X_eq f29_1.eq_1]
      simp only [go_sem, Nat.reduceLT, Nat.reduceEqDiff, reduceCtorEq, Int.reduceLT, Int.reduceEq, hs, h0]
      refine XO_callP (h1 := []) (by simp only [List.map, go_sem, Nat.reduceLT, Nat.reduceEqDiff, reduceCtorEq, Int.reduceLT, Int.reduceEq, hs]; exact hu.clos rfl) n36 rfl ?_
      cases hr : rightB b with
      | false =>
        simp only [go_sem, Nat.reduceLT, Nat.reduceEqDiff, reduceCtorEq, Int.reduceLT, Int.reduceEq, hs]
        exact ⟨_, rfl, no 12 (by unfold decF; rw [if_neg (by rw [c1']; simp), hr, if_pos rfl])⟩
      | true =>
        have g1 : (1 : Nat) < b.length := by omega
        have g0 : (0 : Nat) < b.length := by omega
        have hia0 : ∀ h : Heap, iaO h 1 u (vi .i64 0) = some (.rptr (byteCell b[0]), h) := fun h => hu.ia (h := h) (k := .i64) (j := ((0 : Nat) : Int)) (by omega) (eB_get (List.getElem?_eq_getElem g0))
        have b1 : b.getD 1 0 = b[1] := by rw [List.getD_eq_getElem?_getD, List.getElem?_eq_getElem g1]; rfl
        have b0 : b.getD 0 0 = b[0] := by rw [List.getD_eq_getElem?_getD, List.getElem?_eq_getElem g0]; rfl
        have x1 := (b[1]).toNat_lt
        have x0 := (b[0]).toNat_lt
        have w0 : IntKind.i64.wrap (b[0].toNat : Int) = (b[0].toNat : Int) := IntWalk.i64_in _ (by omega)
        have hdF : decF b = match decL b b[1].toNat 0 252 with | none => (0, [], 11) | some l => if encF (b[0].toNat : Int) l = some b then (b[0].toNat, l, 0) else (0, [], 11) := by
          unfold decF
          rw [if_neg (by rw [c1']; simp), hr, if_neg (by simp), b1, b0]
          all_goals (cases decL b b[1].toNat 0 252 <;> rfl)
        simp only [go_sem, Nat.reduceLT, Nat.reduceEqDiff, reduceCtorEq, Int.reduceLT, Int.reduceEq, hs]
        refine f29_loop hu c1' g1 (g0 := []) b[1].toNat 0 252 [] [] nilS _ _ _ (by omega) (by omega) rfl (NB.nil _ _) RowsE.nil (by simp only [slot_len, hs]) (by simp only [go_sem, Nat.reduceLT, Nat.reduceEqDiff, reduceCtorEq, Int.reduceLT, Int.reduceEq, h0]) (by simp only [go_sem, Nat.reduceLT, Nat.reduceEqDiff, reduceCtorEq, Int.reduceLT, Int.reduceEq, hs]) (by simp only [go_sem, Nat.reduceLT, Nat.reduceEqDiff, reduceCtorEq, Int.reduceLT, Int.reduceEq, hs]; rfl) (by simp only [go_sem, Nat.reduceLT, Nat.reduceEqDiff, reduceCtorEq, Int.reduceLT, Int.reduceEq, hs]; rfl)
          (fun rest hr2 s' h' els' v' a1 a0 a5 B R => ?_) (fun hr2 s' h' a1 a2 a3 a4 => ?_)
        · replace hdF : decF b = if encF (b[0].toNat : Int) rest = some b then (b[0].toNat, rest, 0) else (0, [], 11) := by rw [hdF, hr2]
          rw [List.nil_append] at R
          have hlen : rest.length ≤ 9223372036854775807 := by
            have := decL_len _ _ _ _ hr2; omega
          obtain ⟨x, h1, e1, e2⟩ := B.clos
          obtain ⟨v10, h10, n10, P10⟩ := rencode_f14 [] (b[0].toNat : Int) e2 R hlen
          obtain ⟨y, r10, hy⟩ := P10.pure
          have ec : closAs h' [vi .i64 (b[0].toNat : Int), v'] = some ([vi .i64 (b[0].toNat : Int), x], h1) := closAs_cons rfl (by simp only [closAs, e1])
          simp only [go_sem, Nat.reduceLT, Nat.reduceEqDiff, reduceCtorEq, Int.reduceLT, Int.reduceEq, a1, a0, a5, hia0, byteCell, w0]
          refine XO_callP (h1 := h1) (by simp only [List.map, go_sem, Nat.reduceLT, Nat.reduceEqDiff, reduceCtorEq, Int.reduceLT, Int.reduceEq, a1]; exact ec) n10 r10 ?_
          have B1 : ∃ z, closA h1 v' = some (z, h1) ∧ SlV 2 els' z := by
            rcases B.v with ⟨rfl, rfl⟩ | ⟨id, g, _, rfl, a4⟩
            · simp [closA, Go.Vm.clos] at e1
              exact ⟨nilS, rfl, .inl ⟨rfl, rfl⟩⟩
            · simp [closA, Go.Vm.clos, a4] at e1
              obtain ⟨_, rfl⟩ := e1
              have hg : (h'.set id (VO.arr 2 els' g true))[id]? = some (.arr 2 els' g true) := by rw [List.getElem?_set_self (lt_at a4)]
              refine ⟨.cv (.sl 2 els' false), ?_, .inr ⟨false, rfl⟩⟩
              simp [closA, Go.Vm.clos, hg]
          obtain ⟨z, ez, hz⟩ := B1
          have e12 : closRes h1 (.tup [vi .i64 (b[0].toNat : Int), v', vi .i64 0]) = some (.tup [vi .i64 (b[0].toNat : Int), z, vi .i64 0]) := by
            have : closAs h1 [vi .i64 (b[0].toNat : Int), v', vi .i64 0] = some ([vi .i64 (b[0].toNat : Int), z, vi .i64 0], h1) := closAs_cons rfl (closAs_cons ez rfl)
            simp only [closRes, this, Option.map_some]
          simp only [go_sem, Nat.reduceLT, Nat.reduceEqDiff, reduceCtorEq, Int.reduceLT, Int.reduceEq, a1]
          rw [X_eq f29_4.eq_1]
          cases hE : encF (b[0].toNat : Int) rest with
          | none =>
            rw [hE] at hdF
            simp only [go_sem, Nat.reduceLT, Nat.reduceEqDiff, reduceCtorEq, Int.reduceLT, Int.reduceEq, a1, Option.isSome_none]
            exact ⟨_, rfl, no 11 (by rw [hdF]; simp)⟩
          | some c =>
            have hS := hy c hE
            rw [hE] at hdF
            have te : binO .neq (txt c) (txt b) = some (vb (decide (¬ c = b))) := by
              by_cases h : c = b <;> simp [binO, binV, h]
            simp only [go_sem, Nat.reduceLT, Nat.reduceEqDiff, reduceCtorEq, Int.reduceLT, Int.reduceEq, a1, a0, Option.isSome_some, hS.bs, hu.bs, te]
            by_cases hc : c = b
            · rw [hc, if_pos rfl] at hdF
              simp only [go_sem, Nat.reduceLT, Nat.reduceEqDiff, reduceCtorEq, Int.reduceLT, Int.reduceEq, a1, a0, a5, eq_true hc, hia0, byteCell, w0]
              exact ⟨_, e12, els', z, by rw [hdF]; rfl, hz, by rw [hdF]; exact R⟩
            · have hc' : ¬ some c = some b := fun e => hc (by cases e; rfl)
              rw [if_neg hc'] at hdF
              simp only [go_sem, Nat.reduceLT, Nat.reduceEqDiff, reduceCtorEq, Int.reduceLT, Int.reduceEq, a1, hc]
              exact ⟨_, rfl, no 11 hdF⟩
        · replace hdF : decF b = (0, [], 11) := by rw [hdF, hr2]
          simp only [go_sem, Nat.reduceLT, Nat.reduceEqDiff, reduceCtorEq, Int.reduceLT, Int.reduceEq, a1, a2, a3, a4]
          exact ⟨_, rfl, no 11 hdF⟩
    · simp only [go_sem, Nat.reduceLT, Nat.reduceEqDiff, reduceCtorEq, Int.reduceLT, Int.reduceEq, hs, h0, hu.ln, eB_len, c1]
      exact ⟨_, rfl, no 11 (by unfold decF; rw [if_pos (by omega)])⟩
  exact this

/-! ### Find -/
def above (p : KV) (key : List UInt8) : Bool := !(Op.bytesLess p.1 key || p.1 == key)
/-- The place of the first that is above, less one. -/
def findF (key : List UInt8) : Nat → List KV → Int
  | i, [] => (i : Int) - 1
  | i, p :: l => if above p key = true then (i : Int) - 1 else findF key (i + 1) l
theorem bl_gtr {a b : List UInt8} : binO .gtr (txt a) (txt b) = some (vb (!(Op.bytesLess a b || a == b))) := rfl
theorem bl_leq {a b : List UInt8} : binO .leq (txt a) (txt b) = some (vb (Op.bytesLess a b || a == b)) := rfl

theorem f21_loop {els : List (List CV)} {kv : List KV} {u : VV} (hS : SlV 2 els u) (hR : RowsE els kv) (hn : kv.length ≤ 9223372036854775807) (key : List UInt8) :
    ∀ (r k : Nat) (s : List VV) (h : Heap) (Q : Pst), k + r = kv.length → s.length = 24 → s.getD 0 .undef = u → s.getD 1 .undef = txt key → s.getD 7 .undef = u → s.getD 8 .undef = vi .i64 kv.length → s.getD 9 .undef = vi .i64 k →
      (findF key k (kv.drop k) = (kv.length : Int) - 1 → ∀ s' h', s'.length = 24 → s'.getD 0 .undef = u → Q (.exit 0) ⟨s', h'⟩) → (∀ s' h', s'.length = 24 → s'.getD 4 .undef = vi .i64 (findF key k (kv.drop k)) → Q .ret ⟨s', h'⟩) → X F (.loop f21_1) ⟨s, h⟩ Q := by
  intro r
  induction r with
  | zero =>
    intro k s h Q hk hs h0 h1 h7 h8 h9 hE hQ
    rw [X_loop, X_eq f21_1.eq_1]
    have c : ¬ (k : Int) < (kv.length : Int) := by omega
    simp only [go_sem, Nat.reduceLT, Nat.reduceEqDiff, reduceCtorEq, Int.reduceLT, Int.reduceEq, hs, h8, h9, c]
    rw [X_eq f21_0.eq_1]
    simp only [go_sem, Nat.reduceLT, Nat.reduceEqDiff, reduceCtorEq, Int.reduceLT, Int.reduceEq, hs]
    refine hE ?_ _ _ (by simp only [slot_len, hs]) (by simp only [go_sem, Nat.reduceLT, Nat.reduceEqDiff, reduceCtorEq, Int.reduceLT, Int.reduceEq, h0])
    rw [List.drop_eq_nil_of_le (by omega)]; simp only [findF]; omega
  | succ r ih =>
    intro k s h Q hk hs h0 h1 h7 h8 h9 hE hQ
    obtain ⟨e, p, he, hp, c, rfl, hc⟩ := hR.get (i := k) (by omega)
    obtain ⟨ky, val⟩ := p
    have hd := drop_cons hp
    rw [X_loop, X_eq f21_1.eq_1]
    have c1 : (k : Int) < (kv.length : Int) := by omega
    have hw : IntKind.i64.wrap ((k : Int) + 1) = ((k + 1 : Nat) : Int) := by rw [IntWalk.i64_in _ (by omega)]; omega
    have hw2 : IntKind.i64.wrap ((k : Int) - 1) = (k : Int) - 1 := IntWalk.i64_in _ (by omega)
    have hia := hS.ia (h := h) (k := .i64) (j := (k : Int)) (by omega) he
    simp only [go_sem, Nat.reduceLT, Nat.reduceEqDiff, reduceCtorEq, Int.reduceLT, Int.reduceEq, hs, h8, h9, c1]
    rw [X_eq f21_0.eq_1]
    simp only [go_sem, Nat.reduceLT, Nat.reduceEqDiff, reduceCtorEq, Int.reduceLT, Int.reduceEq, hs, h7, h9, hia, ld_rN (n := 2) (show [CV.sc (.string ⟨ky.toArray⟩), c].length = 2 from rfl), List.map]
    have q1 : (h ++ [VO.box [txt ky, .cv c] false])[h.length]? = some (.box [txt ky, .cv c] false) := at_last
    generalize h ++ [VO.box [txt ky, .cv c] false] = g at q1
    have l0 : ldO g false 1 (.ptr h.length 0) = some (txt ky, g) := ld_ptr q1 rfl
    have hf : findF key k (kv.drop k) = if above (ky, val) key = true then (k : Int) - 1 else findF key (k + 1) (kv.drop (k + 1)) := by rw [hd]; rfl
    have ha : above (ky, val) key = !(Op.bytesLess ky key || ky == key) := rfl
    cases hab : above (ky, val) key with
    | true =>
      rw [hab, if_pos rfl] at hf
      rw [ha] at hab
      simp only [go_sem, Nat.reduceLT, Nat.reduceEqDiff, reduceCtorEq, Int.reduceLT, Int.reduceEq, hs, l0, h1, bl_gtr, hab, hw2]
      exact hQ _ _ (by simp only [slot_len, hs]) (by simp only [go_sem, Nat.reduceLT, Nat.reduceEqDiff, reduceCtorEq, Int.reduceLT, Int.reduceEq, hs, hf])
    | false =>
      rw [hab, if_neg (by simp)] at hf
      rw [ha] at hab
      simp only [go_sem, Nat.reduceLT, Nat.reduceEqDiff, reduceCtorEq, Int.reduceLT, Int.reduceEq, hs, l0, h1, bl_gtr, hab, h9, hw]
      exact ih (k + 1) _ _ Q (by omega) (by simp only [slot_len, hs]) (by simp only [go_sem, Nat.reduceLT, Nat.reduceEqDiff, reduceCtorEq, Int.reduceLT, Int.reduceEq, h0]) (by simp only [go_sem, Nat.reduceLT, Nat.reduceEqDiff, reduceCtorEq, Int.reduceLT, Int.reduceEq, h1]) (by simp only [go_sem, Nat.reduceLT, Nat.reduceEqDiff, reduceCtorEq, Int.reduceLT, Int.reduceEq, h7]) (by simp only [go_sem, Nat.reduceLT, Nat.reduceEqDiff, reduceCtorEq, Int.reduceLT, Int.reduceEq, h8]) (by simp only [go_sem, Nat.reduceLT, Nat.reduceEqDiff, reduceCtorEq, Int.reduceLT, Int.reduceEq, hs]) (fun hh => hE (by rw [hf, hh])) (fun s' h' a1 a2 => hQ s' h' a1 (by rw [a2, hf]))
theorem find_f21 {els : List (List CV)} {kv : List KV} {u : VV} (hS : SlV 2 els u) (hR : RowsE els kv) (hn : kv.length ≤ 9223372036854775807) (key : List UInt8) : ∃ h', call F 21 [u, txt key] [] = some (.ret (vi .i64 (findF key 0 kv)), h') := by
  have : Ret F 21 [u, txt key] [] fun v h' => v = vi .i64 (findF key 0 kv) := by
    refine call_E (fn := f21) rfl ?_
    simp only [f21]
    generalize hs0 : ([u, txt key] ++ List.replicate _ VV.undef : List VV) = s
    have hs : s.length = 24 := by rw [← hs0]; rfl
    have h0 : s.getD 0 .undef = u := by rw [← hs0]; rfl
    have h1 : s.getD 1 .undef = txt key := by rw [← hs0]; rfl
    clear hs0
    have hl := hR.len
    have hw2 : IntKind.i64.wrap ((kv.length : Int) - 1) = (kv.length : Int) - 1 := IntWalk.i64_in _ (by omega)
    simp only [go_sem, Nat.reduceLT, Nat.reduceEqDiff, reduceCtorEq, Int.reduceLT, Int.reduceEq, hs, h0, hS.ln]
    refine f21_loop hS hR hn key kv.length 0 _ _ _ (by omega) (by simp only [slot_len, hs]) (by simp only [go_sem, Nat.reduceLT, Nat.reduceEqDiff, reduceCtorEq, Int.reduceLT, Int.reduceEq, h0]) (by simp only [go_sem, Nat.reduceLT, Nat.reduceEqDiff, reduceCtorEq, Int.reduceLT, Int.reduceEq, h1]) (by simp only [go_sem, Nat.reduceLT, Nat.reduceEqDiff, reduceCtorEq, Int.reduceLT, Int.reduceEq, hs]) (by simp only [go_sem, Nat.reduceLT, Nat.reduceEqDiff, reduceCtorEq, Int.reduceLT, Int.reduceEq, hs, hl]) (by simp only [go_sem, Nat.reduceLT, Nat.reduceEqDiff, reduceCtorEq, Int.reduceLT, Int.reduceEq, hs]; rfl) (fun hh s' h' a1 a0 => ?_) (fun s' h' a1 a2 => ?_)
    · rw [List.drop_zero] at hh
      simp only [go_sem, Nat.reduceLT, Nat.reduceEqDiff, reduceCtorEq, Int.reduceLT, Int.reduceEq, a1, a0, hS.ln, hl, hw2, hh]
    · rw [List.drop_zero] at a2
      simp only [go_sem, Nat.reduceLT, Nat.reduceEqDiff, reduceCtorEq, Int.reduceLT, Int.reduceEq, a1, a2]
  obtain ⟨v, h', e1, rfl⟩ := this
  exact ⟨h', e1⟩

theorem f30_loop {els : List (List CV)} {kv : List KV} {u : VV} (hS : SlV 2 els u) (hR : RowsE els kv) (hn : kv.length ≤ 9223372036854775807) (key : List UInt8) :
    ∀ (r k : Nat) (s : List VV) (h : Heap) (Q : Pst), k + r = kv.length → s.length = 24 → s.getD 0 .undef = u → s.getD 1 .undef = txt key → s.getD 5 .undef = vi .i64 ((k : Int) - 1) → s.getD 6 .undef = vi .i64 k →
      (∀ s', s'.length = 24 → s'.getD 5 .undef = vi .i64 (findF key k (kv.drop k)) → Q (.exit 0) ⟨s', h⟩) → X F (.loop f30_0) ⟨s, h⟩ Q := by
  have hl := hR.len
  intro r
  induction r with
  | zero =>
    intro k s h Q hk hs h0 h1 h5 h6 hE
    rw [X_loop, X_eq f30_0.eq_1]
    have c : ¬ (k : Int) < (kv.length : Int) := by omega
    simp only [go_sem, Nat.reduceLT, Nat.reduceEqDiff, reduceCtorEq, Int.reduceLT, Int.reduceEq, hs, h0, h6, hS.ln, hl, c]
    refine hE _ (by simp only [slot_len, hs]) ?_
    rw [List.drop_eq_nil_of_le (by omega)]
    simp only [go_sem, Nat.reduceLT, Nat.reduceEqDiff, reduceCtorEq, Int.reduceLT, Int.reduceEq, h5, findF]
  | succ r ih =>
    intro k s h Q hk hs h0 h1 h5 h6 hE
    obtain ⟨e, p, he, hp, c, rfl, hc⟩ := hR.get (i := k) (by omega)
    obtain ⟨ky, val⟩ := p
    have hd := drop_cons hp
    rw [X_loop, X_eq f30_0.eq_1]
    have c1 : (k : Int) < (kv.length : Int) := by omega
    have hw : IntKind.i64.wrap ((k : Int) + 1) = ((k + 1 : Nat) : Int) := by rw [IntWalk.i64_in _ (by omega)]; omega
    have hia := hS.ia (h := h) (k := .i64) (j := (k : Int)) (by omega) he
    have hf : findF key k (kv.drop k) = if above (ky, val) key = true then (k : Int) - 1 else findF key (k + 1) (kv.drop (k + 1)) := by rw [hd]; rfl
    have ha : above (ky, val) key = !(Op.bytesLess ky key || ky == key) := rfl
    cases hab : (Op.bytesLess ky key || ky == key) with
    | false =>
      have hab' : above (ky, val) key = true := by rw [ha, hab]; rfl
      rw [hab', if_pos rfl] at hf
      simp only [go_sem, Nat.reduceLT, Nat.reduceEqDiff, reduceCtorEq, Int.reduceLT, Int.reduceEq, hs, h0, h1, h6, hS.ln, hl, c1, hia, bl_leq, hab]
      exact hE _ (by simp only [slot_len, hs]) (by simp only [go_sem, Nat.reduceLT, Nat.reduceEqDiff, reduceCtorEq, Int.reduceLT, Int.reduceEq, h5, hf])
    | true =>
      have hab' : above (ky, val) key = false := by rw [ha, hab]; rfl
      rw [hab', if_neg (by simp)] at hf
      simp only [go_sem, Nat.reduceLT, Nat.reduceEqDiff, reduceCtorEq, Int.reduceLT, Int.reduceEq, hs, h0, h1, h6, hS.ln, hl, c1, hia, bl_leq, hab, hw]
      refine ih (k + 1) _ _ Q (by omega) (by simp only [slot_len, hs]) (by simp only [go_sem, Nat.reduceLT, Nat.reduceEqDiff, reduceCtorEq, Int.reduceLT, Int.reduceEq, h0]) (by simp only [go_sem, Nat.reduceLT, Nat.reduceEqDiff, reduceCtorEq, Int.reduceLT, Int.reduceEq, h1]) ?_ (by simp only [go_sem, Nat.reduceLT, Nat.reduceEqDiff, reduceCtorEq, Int.reduceLT, Int.reduceEq, hs]) (fun s' a1 a2 => hE s' a1 (by rw [a2, hf]))
      simp only [go_sem, Nat.reduceLT, Nat.reduceEqDiff, reduceCtorEq, Int.reduceLT, Int.reduceEq, hs]
      congr 3; omega
theorem rfind_f30 {els : List (List CV)} {kv : List KV} {u : VV} (hS : SlV 2 els u) (hR : RowsE els kv) (hn : kv.length ≤ 9223372036854775807) (key : List UInt8) : ∃ h', call F 30 [u, txt key] [] = some (.ret (vi .i64 (findF key 0 kv)), h') := by
  have : Ret F 30 [u, txt key] [] fun v h' => v = vi .i64 (findF key 0 kv) := by
    refine call_E (fn := f30) rfl ?_
    simp only [f30]
    generalize hs0 : ([u, txt key] ++ List.replicate _ VV.undef : List VV) = s
    have hs : s.length = 24 := by rw [← hs0]; rfl
    have h0 : s.getD 0 .undef = u := by rw [← hs0]; rfl
    have h1 : s.getD 1 .undef = txt key := by rw [← hs0]; rfl
    clear hs0
    simp only [go_sem, Nat.reduceLT, Nat.reduceEqDiff, reduceCtorEq, Int.reduceLT, Int.reduceEq, hs]
    refine f30_loop hS hR hn key kv.length 0 _ _ _ (by omega) (by simp only [slot_len, hs]) (by simp only [go_sem, Nat.reduceLT, Nat.reduceEqDiff, reduceCtorEq, Int.reduceLT, Int.reduceEq, h0]) (by simp only [go_sem, Nat.reduceLT, Nat.reduceEqDiff, reduceCtorEq, Int.reduceLT, Int.reduceEq, h1]) (by simp only [go_sem, Nat.reduceLT, Nat.reduceEqDiff, reduceCtorEq, Int.reduceLT, Int.reduceEq, hs]; rfl) (by simp only [go_sem, Nat.reduceLT, Nat.reduceEqDiff, reduceCtorEq, Int.reduceLT, Int.reduceEq, hs]; rfl) (fun s' a1 a2 => ?_)
    rw [List.drop_zero] at a2
    simp only [go_sem, Nat.reduceLT, Nat.reduceEqDiff, reduceCtorEq, Int.reduceLT, Int.reduceEq, a1, a2]
  obtain ⟨v, h', e1, rfl⟩ := this
  exact ⟨h', e1⟩
end Go.V05

set_option linter.unusedSimpArgs false
set_option linter.unusedVariables false
namespace Go.V05
open Go Go.Vm

/-! ### the chapter's example -/
theorem known_f13 : ∃ h', call F 13 [] [] = some (.ret (vb true), h') := by
  have : Ret F 13 [] [] fun v h' => v = vb true := by
    refine call_E (fn := f13) rfl ?_
    simp only [f13]
    generalize hs0 : ([] ++ List.replicate _ VV.undef : List VV) = s
    have hs : s.length = 41 := by rw [← hs0]; rfl
    clear hs0
    have hnil : SlV 2 [] nilS := .inl ⟨rfl, rfl⟩
    obtain ⟨v10, h10, n10, P10⟩ := encode_f10 [] 0 hnil RowsE.nil (by simp)
    obtain ⟨y, r10, hy⟩ := P10.pure
    have hE : encF 0 [] = some (pageB 0 []) := rfl
    rw [hE] at r10 hy
    have hS := hy _ rfl
    have hlen : (pageB 0 []).length = 256 := by unfold pageB; rw [sealB_len, pageR_len (by simp [sumR])]
    obtain ⟨v12, h12, n12, w, r12, els, x, rfl, hx, hR⟩ := decode_f12 hS (by omega)
    rw [decF_page (by omega) rfl] at hR r12
    have hels : els = [] := by cases hR; rfl
    subst hels
    have g1 : (pageB 0 [])[1]? = some 0 := rfl
    have hia : ∀ h : Heap, iaO h 1 y (vi .i64 1) = some (.rptr (byteCell 0), h) := fun h => hS.ia (h := h) (k := .i64) (j := ((1 : Nat) : Int)) (by omega) (eB_get g1)
    simp only [go_sem, Nat.reduceLT, Nat.reduceEqDiff, reduceCtorEq, Int.reduceLT, Int.reduceEq, hs]
    refine XO_callP (h1 := []) (by simp only [List.map]; rfl) n10 r10 ?_
    simp only [go_sem, Nat.reduceLT, Nat.reduceEqDiff, reduceCtorEq, Int.reduceLT, Int.reduceEq, hs]
    refine XO_callP (h1 := []) (by simp only [List.map, go_sem, Nat.reduceLT, Nat.reduceEqDiff, reduceCtorEq, Int.reduceLT, Int.reduceEq, hs]; exact hS.clos rfl) n12 r12 ?_
    have l256 : lnO false y = some (vi .i64 256) := by rw [hS.ln, eB_len, hlen]; rfl
    have z0 : ((0 : UInt8).toNat : Int) = 0 := rfl
    have l0 : lnO false x = some (vi .i64 0) := by rw [hx.ln]; rfl
    have hn0 : ((0 : Nat) : Int) = 0 := rfl
    simp only [go_sem, Nat.reduceLT, Nat.reduceEqDiff, reduceCtorEq, Int.reduceLT, Int.reduceEq, hs, l256, l0, hia, byteCell, z0, hn0, Option.isSome_some]
  obtain ⟨v, h', e1, rfl⟩ := this
  exact ⟨h', e1⟩

/-! ### both tell the same -/
theorem decF_e (b : List UInt8) : (decF b).2.2 ≤ 12 ∧ (decF b).1 ≤ 255 := by
  unfold decF
  split
  · simp
  · split
    · simp
    · split
      · simp
      · split
        · have := (b.getD 0 0).toNat_lt
          refine ⟨by simp, ?_⟩
          show (b.getD 0 0).toNat ≤ 255
          omega
        · simp
theorem decF_len (b : List UInt8) : (decF b).2.1.length ≤ 255 := by
  unfold decF
  split
  · simp
  · split
    · simp
    · split
      · simp
      · rename_i l hl
        have := decL_len _ _ _ _ hl
        have h2 := (b.getD 1 0).toNat_lt
        split
        · simp only; omega
        · simp

theorem reads_f17 {b : List UInt8} {u : VV} (hu : SlV 1 (eB b) u) (hb : b.length ≤ 1000000) : ∃ h', call F 17 [u] [] = some (.ret (vb true), h') := by
  have : Ret F 17 [u] [] fun v h' => v = vb true := by
    refine call_E (fn := f17) rfl ?_
    simp only [f17]
    generalize hs0 : ([u] ++ List.replicate _ VV.undef : List VV) = s
    have hs : s.length = 37 := by rw [← hs0]; rfl
    have h0 : s.getD 0 .undef = u := by rw [← hs0]; rfl
    clear hs0
    obtain ⟨v12, h12, n12, w, r12, els, x, rfl, hx, hR⟩ := decode_f12 hu hb
    obtain ⟨v29, h29, n29, w2, r29, els2, x2, rfl, hx2, hR2⟩ := rdecode_f29 hu hb
    obtain ⟨v18, h18, n18, rfl⟩ := same_f18 els els2 (decF b).2.1 x x2 hx hx2 hR hR2 (by have := decF_len b; omega) []
    have he := decF_e b
    have hw : IntKind.i64.wrap ((decF b).2.2 : Int) = ((decF b).2.2 : Int) := IntWalk.i64_in _ (by omega)
    have e1 : ∀ n : Int, binO .eql (vi .i64 n) (vi .i64 n) = some (vb true) := fun n => by simp [binO, binV]
    simp only [go_sem, Nat.reduceLT, Nat.reduceEqDiff, reduceCtorEq, Int.reduceLT, Int.reduceEq, hs, h0]
    refine XO_callP (h1 := []) (by simp only [List.map, go_sem, Nat.reduceLT, Nat.reduceEqDiff, reduceCtorEq, Int.reduceLT, Int.reduceEq, hs]; exact hu.clos rfl) n12 r12 ?_
    simp only [go_sem, Nat.reduceLT, Nat.reduceEqDiff, reduceCtorEq, Int.reduceLT, Int.reduceEq, hs, h0]
    refine XO_callP (h1 := []) (by simp only [List.map, go_sem, Nat.reduceLT, Nat.reduceEqDiff, reduceCtorEq, Int.reduceLT, Int.reduceEq, hs]; exact hu.clos rfl) n29 r29 ?_
    simp only [go_sem, Nat.reduceLT, Nat.reduceEqDiff, reduceCtorEq, Int.reduceLT, Int.reduceEq, hs]
    refine XO_callP (h1 := []) (by simp only [List.map, go_sem, Nat.reduceLT, Nat.reduceEqDiff, reduceCtorEq, Int.reduceLT, Int.reduceEq, hs]; exact hx.clos (hx2.clos rfl)) n18 rfl ?_
    simp only [go_sem, Nat.reduceLT, Nat.reduceEqDiff, reduceCtorEq, Int.reduceLT, Int.reduceEq, hs, hw, e1]
  obtain ⟨v, h', e1, rfl⟩ := this
  exact ⟨h', e1⟩

theorem puts_f20 (level : Int) {els : List (List CV)} {kv : List KV} {u : VV} (hS : SlV 2 els u) (hR : RowsE els kv) (hn : kv.length ≤ 9223372036854775807) (key : List UInt8) : ∃ h', call F 20 [vi .i64 level, u, txt key] [] = some (.ret (vb true), h') := by
  have : Ret F 20 [vi .i64 level, u, txt key] [] fun v h' => v = vb true := by
    refine call_E (fn := f20) rfl ?_
    simp only [f20]
    generalize hs0 : ([vi .i64 level, u, txt key] ++ List.replicate _ VV.undef : List VV) = s
    have hs : s.length = 49 := by rw [← hs0]; rfl
    have h0 : s.getD 0 .undef = vi .i64 level := by rw [← hs0]; rfl
    have h1 : s.getD 1 .undef = u := by rw [← hs0]; rfl
    have h2 : s.getD 2 .undef = txt key := by rw [← hs0]; rfl
    clear hs0
    obtain ⟨v10, h10, n10, P10⟩ := encode_f10 [] level hS hR hn
    obtain ⟨y, r10, hy⟩ := P10.pure
    obtain ⟨v14, h14, n14, P14⟩ := rencode_f14 [] level hS hR hn
    obtain ⟨z, r14, hz⟩ := P14.pure
    obtain ⟨h11, n11⟩ := fit_f11 hS hR hn
    obtain ⟨h15, n15⟩ := rfit_f15 hS hR hn
    obtain ⟨h21, n21⟩ := find_f21 hS hR hn key
    obtain ⟨h30, n30⟩ := rfind_f30 hS hR hn key
    have e1 : ∀ n : Int, binO .eql (vi .i64 n) (vi .i64 n) = some (vb true) := fun n => by simp [binO, binV]
    have e2 : ∀ b : List UInt8, binO .eql (txt b) (txt b) = some (vb true) := fun b => by simp [binO, binV]
    have e3 : ∀ b : Bool, (b == b) = true := fun b => by cases b <;> rfl
    have hbs : ∃ c, ∀ h : Heap, bsO h y = some (txt c) ∧ bsO h z = some (txt c) := by
      cases hE : encF level kv with
      | none =>
        have hy' : y = nilS := by
          have : EncP [] (encF level kv) v10 h10 := P10
          rw [hE] at this r10
          have hv : v10 = .tup [nilS, vb false] := this
          subst hv
          have : closRes h10 (.tup [nilS, vb false]) = some (.tup [nilS, vb false]) := rfl
          rw [this] at r10
          cases r10; rfl
        have hz' : z = nilS := by
          have : EncP [] (encF level kv) v14 h14 := P14
          rw [hE] at this r14
          have hv : v14 = .tup [nilS, vb false] := this
          subst hv
          have : closRes h14 (.tup [nilS, vb false]) = some (.tup [nilS, vb false]) := rfl
          rw [this] at r14
          cases r14; rfl
        subst hy' hz'
        exact ⟨[], fun h => ⟨rfl, rfl⟩⟩
      | some c => exact ⟨c, fun h => ⟨(hy c hE).bs, (hz c hE).bs⟩⟩
    obtain ⟨c, hc⟩ := hbs
    have clY : ∀ h : Heap, True := fun _ => trivial
    simp only [go_sem, Nat.reduceLT, Nat.reduceEqDiff, reduceCtorEq, Int.reduceLT, Int.reduceEq, hs, h0, h1]
    refine XO_callP (h1 := []) (by simp only [List.map, go_sem, Nat.reduceLT, Nat.reduceEqDiff, reduceCtorEq, Int.reduceLT, Int.reduceEq, hs]; exact clos_cv (hS.clos rfl)) n10 r10 ?_
    simp only [go_sem, Nat.reduceLT, Nat.reduceEqDiff, reduceCtorEq, Int.reduceLT, Int.reduceEq, hs, h0, h1]
    refine XO_callP (h1 := []) (by simp only [List.map, go_sem, Nat.reduceLT, Nat.reduceEqDiff, reduceCtorEq, Int.reduceLT, Int.reduceEq, hs]; exact clos_cv (hS.clos rfl)) n14 r14 ?_
    simp only [go_sem, Nat.reduceLT, Nat.reduceEqDiff, reduceCtorEq, Int.reduceLT, Int.reduceEq, hs, h1]
    refine XO_callP (h1 := []) (by simp only [List.map, go_sem, Nat.reduceLT, Nat.reduceEqDiff, reduceCtorEq, Int.reduceLT, Int.reduceEq, hs]; exact hS.clos rfl) n11 rfl ?_
    simp only [go_sem, Nat.reduceLT, Nat.reduceEqDiff, reduceCtorEq, Int.reduceLT, Int.reduceEq, hs, h1]
    refine XO_callP (h1 := []) (by simp only [List.map, go_sem, Nat.reduceLT, Nat.reduceEqDiff, reduceCtorEq, Int.reduceLT, Int.reduceEq, hs]; exact hS.clos rfl) n15 rfl ?_
    simp only [go_sem, Nat.reduceLT, Nat.reduceEqDiff, reduceCtorEq, Int.reduceLT, Int.reduceEq, hs, h1, h2, e1, e2, e3, (hc []).1, (hc []).2]
    refine XO_callP (h1 := []) (by simp only [List.map, go_sem, Nat.reduceLT, Nat.reduceEqDiff, reduceCtorEq, Int.reduceLT, Int.reduceEq, hs]; exact hS.clos rfl) n21 rfl ?_
    simp only [go_sem, Nat.reduceLT, Nat.reduceEqDiff, reduceCtorEq, Int.reduceLT, Int.reduceEq, hs, h1, h2]
    refine XO_callP (h1 := []) (by simp only [List.map, go_sem, Nat.reduceLT, Nat.reduceEqDiff, reduceCtorEq, Int.reduceLT, Int.reduceEq, hs]; exact hS.clos rfl) n30 rfl ?_
    simp only [go_sem, Nat.reduceLT, Nat.reduceEqDiff, reduceCtorEq, Int.reduceLT, Int.reduceEq, hs, e1]
  obtain ⟨v, h', e1, rfl⟩ := this
  exact ⟨h', e1⟩

/-! ### rows, as they are read -/
theorem row_of {H : Type} {d : DataW H} {el : List CV} (h : DR Proofs.Try.prog 7 35 d el) (hlen : el.length = 2) : ∃ p, rowE el p := by
  obtain ⟨ds, rfl, hd, hc, hf⟩ := DR_struct Proofs.Try.underlying35 h
  match ds, hd with
  | [d1, d2], _ =>
    match el, hlen with
    | [c1, c2], _ =>
      have f1 : DR Proofs.Try.prog 6 9 d1 (([c1, c2].drop 0).take (Proofs.Try.prog.cellsOf 9)) := hf 0 _ d1 rfl rfl
      have f2 : DR Proofs.Try.prog 6 22 d2 (([c1, c2].drop 1).take (Proofs.Try.prog.cellsOf 22)) := hf 1 _ d2 rfl rfl
      have k1 : Proofs.Try.prog.cellsOf 9 = 1 := by kernel_rfl
      have k2 : Proofs.Try.prog.cellsOf 22 = 1 := by kernel_rfl
      rw [k1] at f1
      rw [k2] at f2
      obtain ⟨s, rfl, e1, _⟩ := DR_string Proofs.Try.underlying9 f1
      obtain ⟨l, c, e2, hl, hb, _⟩ := DR_bytes Proofs.Try.underlying22 Proofs.Try.underlying5 (by kernel_rfl) f2
      simp at e1 e2
      subst e1 e2
      exact ⟨(s.data.toList, l), _, rfl, hl⟩
theorem rows_of {H : Type} {d : DataW H} {u : VV} (h : DV Proofs.Try.prog 24 d u) : ∃ els kv, SlV 2 els u ∧ RowsE els kv ∧ kv.length ≤ 9223372036854775807 := by
  obtain ⟨c, h1, rfl⟩ := DV_plain (by simp only [isStr, Proofs.Try.underlying24]) h
  have k2 : Proofs.Try.prog.cellsOf 35 = 2 := by kernel_rfl
  rcases DR_slice Proofs.Try.underlying24 h1 with ⟨rfl, e⟩ | ⟨ds, rest, els, rfl, e, h2, h3, h4⟩
  · cases e
    exact ⟨[], [], .inl ⟨rfl, rfl⟩, .nil, by simp⟩
  · cases e
    rw [k2] at h4 ⊢
    have key : ∀ (els : List (List CV)) (ds : List (DataW H)), els.length = ds.length → (∀ (i : Nat) (el : List CV) (y : DataW H), els[i]? = some el → ds[i]? = some y → el.length = 2 ∧ DR Proofs.Try.prog 7 35 y el) → ∃ kv, RowsE els kv := by
      intro els
      induction els with
      | nil => intro ds _ _; exact ⟨[], .nil⟩
      | cons el r ih =>
        intro ds hl hh
        match ds, hl with
        | y :: ys, hl =>
          obtain ⟨a1, a2⟩ := hh 0 el y rfl rfl
          obtain ⟨p, b1⟩ := row_of a2 a1
          obtain ⟨kv, c1⟩ := ih ys (by simpa using hl) (fun i el y h1 h2 => hh (i + 1) el y (by simpa using h1) (by simpa using h2))
          exact ⟨p :: kv, .cons b1 c1⟩
    obtain ⟨kv, c1⟩ := key els ds h2 h4
    have hm : maxLen = 9223372036854775807 := rfl
    exact ⟨els, kv, .inr ⟨false, rfl⟩, c1, by rw [← c1.len]; omega⟩
end Go.V05

set_option linter.unusedSimpArgs false
set_option linter.unusedVariables false
namespace Go.V05
open Go Go.Vm

/-! ### PagePuts -/
theorem f19_loop {els : List (List CV)} {kv : List KV} {u : VV} (hS : SlV 2 els u) (hR : RowsE els kv) (hn : kv.length ≤ 9223372036854775807) (h : Heap) :
    ∀ (r k : Nat) (n : Int) (s : List VV) (Q : Pst), k + r = kv.length → s.length = 30 → s.getD 0 .undef = u → s.getD 3 .undef = vi .i64 n → s.getD 4 .undef = vi .i64 k →
      (∀ s' n', s'.length = 30 → s'.getD 3 .undef = vi .i64 n' → Q (.exit 0) ⟨s', h⟩) → X F (.loop f19_0) ⟨s, h⟩ Q := by
  have hl := hR.len
  intro r
  induction r with
  | zero =>
    intro k n s Q hk hs h0 h3 h4 hQ
    rw [X_loop, X_eq f19_0.eq_1]
    have c : ¬ (k : Int) < (kv.length : Int) := by omega
    simp only [go_sem, Nat.reduceLT, Nat.reduceEqDiff, reduceCtorEq, Int.reduceLT, Int.reduceEq, hs, h0, h4, hS.ln, hl, c]
    exact hQ _ n (by simp only [slot_len, hs]) (by simp only [go_sem, Nat.reduceLT, Nat.reduceEqDiff, reduceCtorEq, Int.reduceLT, Int.reduceEq, h3])
  | succ r ih =>
    intro k n s Q hk hs h0 h3 h4 hQ
    rw [X_loop, X_eq f19_0.eq_1]
    have c : (k : Int) < (kv.length : Int) := by omega
    obtain ⟨e, p, he, hp, cc, rfl, hc⟩ := hR.get (i := k) (by omega)
    have hia := hS.ia (h := h) (k := .i64) (j := (k : Int)) (by omega) he
    have hw : IntKind.i64.wrap ((k : Int) + 1) = ((k + 1 : Nat) : Int) := by rw [IntWalk.i64_in _ (by omega)]; omega
    simp only [go_sem, Nat.reduceLT, Nat.reduceEqDiff, reduceCtorEq, Int.reduceLT, Int.reduceEq, hs, h0, h4, hS.ln, hl, c]
    refine X_draw rfl ?_
    simp only [go_sem, Nat.reduceLT, Nat.reduceEqDiff, reduceCtorEq, Int.reduceLT, Int.reduceEq, hs, h0, h3, h4, hia, hc.ln, hw]
    exact ih (k + 1) _ _ Q (by omega) (by simp only [slot_len, hs]) (by simp only [go_sem, Nat.reduceLT, Nat.reduceEqDiff, reduceCtorEq, Int.reduceLT, Int.reduceEq, h0]) (by simp only [go_sem, Nat.reduceLT, Nat.reduceEqDiff, reduceCtorEq, Int.reduceLT, Int.reduceEq, hs]; rfl) (by simp only [go_sem, Nat.reduceLT, Nat.reduceEqDiff, reduceCtorEq, Int.reduceLT, Int.reduceEq, hs]) hQ
theorem much_f19 {els : List (List CV)} {kv : List KV} {u : VV} (hS : SlV 2 els u) (hR : RowsE els kv) (hn : kv.length ≤ 9223372036854775807) : ∃ h' m, call F 19 [u] [] = some (.ret (vb m), h') := by
  have : Ret F 19 [u] [] fun v h' => ∃ m, v = vb m := by
    refine call_E (fn := f19) rfl ?_
    simp only [f19]
    generalize hs0 : ([u] ++ List.replicate _ VV.undef : List VV) = s
    have hs : s.length = 30 := by rw [← hs0]; rfl
    have h0 : s.getD 0 .undef = u := by rw [← hs0]; rfl
    clear hs0
    simp only [go_sem, Nat.reduceLT, Nat.reduceEqDiff, reduceCtorEq, Int.reduceLT, Int.reduceEq, hs, h0, hS.ln]
    refine f19_loop hS hR hn _ kv.length 0 _ _ _ (by omega) (by simp only [slot_len, hs]) (by simp only [go_sem, Nat.reduceLT, Nat.reduceEqDiff, reduceCtorEq, Int.reduceLT, Int.reduceEq, h0]) (by simp only [go_sem, Nat.reduceLT, Nat.reduceEqDiff, reduceCtorEq, Int.reduceLT, Int.reduceEq, hs]; rfl) (by simp only [go_sem, Nat.reduceLT, Nat.reduceEqDiff, reduceCtorEq, Int.reduceLT, Int.reduceEq, hs]; rfl) (fun s' n' a1 a3 => ?_)
    simp only [go_sem, Nat.reduceLT, Nat.reduceEqDiff, reduceCtorEq, Int.reduceLT, Int.reduceEq, a1, a3]
    exact ⟨_, rfl⟩
  obtain ⟨v, h', e1, m, rfl⟩ := this
  exact ⟨h', m, e1⟩

theorem take_rows {els : List (List CV)} {kv : List KV} (hR : RowsE els kv) (n : Nat) : RowsE (els.take n) (kv.take n) := by
  induction hR generalizing n with
  | nil => simp; exact .nil
  | cons h _ ih =>
    cases n with
    | zero => exact .nil
    | succ n => exact .cons h (ih n)

theorem law_puts (level : Int) {els : List (List CV)} {kv : List KV} {u : VV} (hS : SlV 2 els u) (hR : RowsE els kv) (hn : kv.length ≤ 9223372036854775807) (c : List UInt8) (vc : VV) (hc : SlV 1 (eB c) vc) (key : List UInt8) (k : UInt8) : ∃ h', call F 7 [vi .i64 level, u, vc, txt key, vi .u8 k.toNat] [] = some (.ret (vb true), h') := by
  have : Ret F 7 [vi .i64 level, u, vc, txt key, vi .u8 k.toNat] [] fun v h' => v = vb true := by
    refine call_E (fn := f7) rfl ?_
    simp only [f7]
    generalize hs0 : ([vi .i64 level, u, vc, txt key, vi .u8 k.toNat] ++ List.replicate _ VV.undef : List VV) = s
    have hs : s.length = 56 := by rw [← hs0]; rfl
    have h0 : s.getD 0 .undef = vi .i64 level := by rw [← hs0]; rfl
    have h1 : s.getD 1 .undef = u := by rw [← hs0]; rfl
    have h2 : s.getD 2 .undef = vc := by rw [← hs0]; rfl
    have h3 : s.getD 3 .undef = txt key := by rw [← hs0]; rfl
    have h4 : s.getD 4 .undef = vi .u8 k.toNat := by rw [← hs0]; rfl
    clear hs0
    obtain ⟨h19, m, n19⟩ := much_f19 hS hR hn
    obtain ⟨h13, n13⟩ := known_f13
    have hl := hR.len
    simp only [go_sem, Nat.reduceLT, Nat.reduceEqDiff, reduceCtorEq, Int.reduceLT, Int.reduceEq, hs]
    rw [X_eq f7_0.eq_1]
    simp only [go_sem, Nat.reduceLT, Nat.reduceEqDiff, reduceCtorEq, Int.reduceLT, Int.reduceEq, hs, h1]
    refine XO_callP (h1 := []) (by simp only [List.map, go_sem, Nat.reduceLT, Nat.reduceEqDiff, reduceCtorEq, Int.reduceLT, Int.reduceEq, hs]; exact hS.clos rfl) n19 rfl ?_
    cases m with
    | true =>
      simp only [go_sem, Nat.reduceLT, Nat.reduceEqDiff, reduceCtorEq, Int.reduceLT, Int.reduceEq, hs]
      refine XO_callP (h1 := []) (by simp only [List.map]; rfl) n13 rfl ?_
      simp only [go_sem, Nat.reduceLT, Nat.reduceEqDiff, reduceCtorEq, Int.reduceLT, Int.reduceEq, hs]
    | false =>
      simp only [go_sem, Nat.reduceLT, Nat.reduceEqDiff, reduceCtorEq, Int.reduceLT, Int.reduceEq, hs]
      refine XO_callP (h1 := []) (by simp only [List.map]; rfl) n13 rfl ?_
      obtain ⟨v9, h9, els9, n9, r9, R9⟩ := list_pure c vc hc 12 (by omega)
      have hS9 : SlV 2 els9 (slV 2 els9) := slV_SlV
      have hl9 := rowL_len 12 c
      have hk := k.toNat_lt
      obtain ⟨hp1, np1⟩ := puts_f20 level hS hR hn key
      have e7 : IntKind.i64.wrap (IntKind.i64.wrap ((k.toNat : Int).tmod 7) - 1) = ((k.toNat % 7 : Nat) : Int) - 1 := by
        have e : (k.toNat : Int).tmod 7 = ((k.toNat % 7 : Nat) : Int) := rfl
        rw [e, show IntKind.i64.wrap ((k.toNat % 7 : Nat) : Int) = ((k.toNat % 7 : Nat) : Int) from IntWalk.i64_in _ (by omega)]
        exact IntWalk.i64_in _ (by omega)
      have e5 : IntKind.i64.wrap ((k.toNat : Int).tmod 5) = ((k.toNat % 5 : Nat) : Int) := by
        have e : (k.toNat : Int).tmod 5 = ((k.toNat % 5 : Nat) : Int) := rfl
        rw [e]; exact IntWalk.i64_in _ (by omega)
      have e16 : IntKind.u8.wrap (97 + (k.toNat : Int).tmod 16) = ((UInt8.ofNat (97 + k.toNat % 16)).toNat : Int) := by
        have e : (k.toNat : Int).tmod 16 = ((k.toNat % 16 : Nat) : Int) := rfl
        rw [e, toNat_of (by omega), IntWalk.u8_in _ (by omega)]; omega
      obtain ⟨hp2, np2⟩ := puts_f20 (((k.toNat % 7 : Nat) : Int) - 1) hS9 R9 (by omega) [UInt8.ofNat (97 + k.toNat % 16)]
      obtain ⟨h15, n15⟩ := rfit_f15 hS9 R9 (by omega)
      obtain ⟨h15', n15'⟩ := rfit_f15 hS hR hn
      have hf9 := fitF_le (rowL 12 c) 0
      have hf := fitF_le kv 0
      have hl9' := R9.len
      obtain ⟨w9, hw9, hsl9⟩ := hS9.upto (h := []) (k := .i64) (b := ((fitF 0 (rowL 12 c) : Nat) : Int)) (by omega) (by omega)
      rw [Int.toNat_natCast] at hw9
      obtain ⟨w1, hw1, hsl1⟩ := hS.upto (h := []) (k := .i64) (b := ((fitF 0 kv : Nat) : Int)) (by omega) (by omega)
      rw [Int.toNat_natCast] at hw1
      obtain ⟨hp3, np3⟩ := puts_f20 ((k.toNat % 5 : Nat) : Int) hw9 (take_rows R9 _) (by rw [List.length_take]; omega) [98]
      obtain ⟨hp4, np4⟩ := puts_f20 0 hw1 (take_rows hR _) (by rw [List.length_take]; omega) key
      have z7 : (7 : Int) ≠ 0 := by decide
      have z16 : (16 : Int) ≠ 0 := by decide
      have z5 : (5 : Int) ≠ 0 := by decide
      have bs1 : ∀ (x : UInt8) (h : Heap), bsO h (.cv (.sl 1 [[.sc (.int .u8 x.toNat)]] true)) = some (txt [x]) := fun x h => (show SlV 1 (eB [x]) (.cv (.sl 1 [[.sc (.int .u8 x.toNat)]] true)) from .inr ⟨true, rfl⟩).bs
      simp only [go_sem, Nat.reduceLT, Nat.reduceEqDiff, reduceCtorEq, Int.reduceLT, Int.reduceEq, hs, h2]
      refine XO_callP (h1 := []) (by simp only [List.map, go_sem, Nat.reduceLT, Nat.reduceEqDiff, reduceCtorEq, Int.reduceLT, Int.reduceEq, hs]; exact hc.clos rfl) n9 r9 ?_
      simp only [go_sem, Nat.reduceLT, Nat.reduceEqDiff, reduceCtorEq, Int.reduceLT, Int.reduceEq, hs, h0, h1, h3]
      refine XO_callP (h1 := []) (by simp only [List.map, go_sem, Nat.reduceLT, Nat.reduceEqDiff, reduceCtorEq, Int.reduceLT, Int.reduceEq, hs]; exact clos_cv (hS.clos rfl)) np1 rfl ?_
      simp only [go_sem, Nat.reduceLT, Nat.reduceEqDiff, reduceCtorEq, Int.reduceLT, Int.reduceEq, hs, h4, bin_rem z7, bin_rem z16, e7, e16, bs1]
      refine XO_callP (h1 := []) (by simp only [List.map, go_sem, Nat.reduceLT, Nat.reduceEqDiff, reduceCtorEq, Int.reduceLT, Int.reduceEq, hs]; exact clos_cv (hS9.clos rfl)) np2 rfl ?_
      simp only [go_sem, Nat.reduceLT, Nat.reduceEqDiff, reduceCtorEq, Int.reduceLT, Int.reduceEq, hs, h4, bin_rem z5, e5]
      refine XO_callP (h1 := []) (by simp only [List.map, go_sem, Nat.reduceLT, Nat.reduceEqDiff, reduceCtorEq, Int.reduceLT, Int.reduceEq, hs]; exact hS9.clos rfl) n15 rfl ?_
      simp only [go_sem, Nat.reduceLT, Nat.reduceEqDiff, reduceCtorEq, Int.reduceLT, Int.reduceEq, hs, hsl9]
      refine XO_callP (h1 := []) (by simp only [List.map, go_sem, Nat.reduceLT, Nat.reduceEqDiff, reduceCtorEq, Int.reduceLT, Int.reduceEq, hs]; exact clos_cv (hw9.clos rfl)) np3 rfl ?_
      simp only [go_sem, Nat.reduceLT, Nat.reduceEqDiff, reduceCtorEq, Int.reduceLT, Int.reduceEq, hs, h1]
      refine XO_callP (h1 := []) (by simp only [List.map, go_sem, Nat.reduceLT, Nat.reduceEqDiff, reduceCtorEq, Int.reduceLT, Int.reduceEq, hs]; exact hS.clos rfl) n15' rfl ?_
      simp only [go_sem, Nat.reduceLT, Nat.reduceEqDiff, reduceCtorEq, Int.reduceLT, Int.reduceEq, hs, h3, hsl1]
      refine XO_callP (h1 := []) (by simp only [List.map, go_sem, Nat.reduceLT, Nat.reduceEqDiff, reduceCtorEq, Int.reduceLT, Int.reduceEq, hs]; exact clos_cv (hw1.clos rfl)) np4 rfl ?_
      simp only [go_sem, Nat.reduceLT, Nat.reduceEqDiff, reduceCtorEq, Int.reduceLT, Int.reduceEq, hs]
  obtain ⟨v, h', e1, rfl⟩ := this
  exact ⟨h', e1⟩
theorem puts_in {H : Type} {d0 d1 d2 d3 d4 : DataW H} {u0 u1 u2 u3 u4 : VV} (h0 : DV Proofs.Try.prog 3 d0 u0) (h1 : DV Proofs.Try.prog 24 d1 u1) (h2 : DV Proofs.Try.prog 22 d2 u2) (h3 : DV Proofs.Try.prog 9 d3 u3) (h4 : DV Proofs.Try.prog 5 d4 u4) :
    ∃ h', call F 7 [u0, u1, u2, u3, u4] [] = some (.ret (vb true), h') := by
  obtain ⟨n, rfl, _⟩ := DV_i64 (by kernel_rfl) h0
  obtain ⟨els, kv, hS, hR, hn⟩ := rows_of h1
  obtain ⟨c, hc, _⟩ := DV_bytes (e := 5) (by kernel_rfl) (by kernel_rfl) (by kernel_rfl) h2
  obtain ⟨s, rfl, _⟩ := DV_str (by kernel_rfl) h3
  obtain ⟨k, rfl⟩ := DV_u8 (by kernel_rfl) h4
  exact law_puts n hS hR hn c u2 hc s k
end Go.V05

set_option linter.unusedSimpArgs false
set_option linter.unusedVariables false
namespace Go.V05
open Go Go.Vm

/-! ### PageBack -/
theorem law_back (c : List UInt8) (vc : VV) (hc : SlV 1 (eB c) vc) (k : UInt8) : ∃ h', call F 6 [vc, vi .u8 k.toNat] [] = some (.ret (vb true), h') := by
  have : Ret F 6 [vc, vi .u8 k.toNat] [] fun v h' => v = vb true := by
    refine call_E (fn := f6) rfl ?_
    simp only [f6]
    generalize hs0 : ([vc, vi .u8 k.toNat] ++ List.replicate _ VV.undef : List VV) = s
    have hs : s.length = 88 := by rw [← hs0]; rfl
    have h0 : s.getD 0 .undef = vc := by rw [← hs0]; rfl
    have h1 : s.getD 1 .undef = vi .u8 k.toNat := by rw [← hs0]; rfl
    clear hs0
    obtain ⟨h13, n13⟩ := known_f13
    obtain ⟨v9, h9, els, n9, r9, R⟩ := list_pure c vc hc 20 (by omega)
    have hS : SlV 2 els (slV 2 els) := slV_SlV
    have hln := rowL_len 20 c
    generalize hkv : rowL 20 c = kv at *
    generalize hu : slV 2 els = u at *
    have hl := R.len
    obtain ⟨h11, n11⟩ := fit_f11 hS R (by omega)
    have hf := fitF_le kv 0
    have htk := fitF_take kv 0
    have hmore := fitF_more kv 0
    generalize hm : fitF 0 kv = m at *
    obtain ⟨w, hw, hsl⟩ := hS.upto (h := []) (k := .i64) (b := (m : Int)) (by omega) (by omega)
    rw [Int.toNat_natCast] at hw
    have Rw := take_rows R m
    have hk5 : ((k.toNat : Int).tmod 5) = ((k.toNat % 5 : Nat) : Int) := rfl
    have e5 : IntKind.i64.wrap ((k.toNat % 5 : Nat) : Int) = ((k.toNat % 5 : Nat) : Int) := IntWalk.i64_in _ (by omega)
    have hfa : fitF 0 (kv.take m) = (kv.take m).length := by rw [htk, List.length_take]; omega
    have hE : encF ((k.toNat % 5 : Nat) : Int) (kv.take m) = some (pageB (k.toNat % 5) (kv.take m)) := by
      unfold encF
      rw [if_neg (by omega), Int.toNat_natCast]
    obtain ⟨v10, h10, n10, P10⟩ := encode_f10 [] ((k.toNat % 5 : Nat) : Int) hw Rw (by rw [List.length_take]; omega)
    obtain ⟨y, r10, hy⟩ := P10.pure
    rw [hE] at r10 hy
    have hy' := hy _ rfl
    have hsum := (fitF_all _ 0 hfa (by omega)).1
    have hpl : (pageB (k.toNat % 5) (kv.take m)).length = 256 := by unfold pageB; rw [sealB_len, pageR_len (by omega)]
    obtain ⟨v12, h12, n12, w12, r12, els12, x12, rfl, hx12, R12⟩ := decode_f12 hy' (by omega)
    rw [decF_page (by omega) hfa] at R12 r12
    obtain ⟨v18, h18, n18, rfl⟩ := same_f18 (els.take m) els12 (kv.take m) w x12 hw hx12 Rw R12 (by rw [List.length_take]; omega) []
    have z5 : (5 : Int) ≠ 0 := by decide
    have c1 : ¬ (m : Int) < 0 := by omega
    have c2 : ¬ (els.length : Int) < (m : Int) := by omega
    simp only [go_sem, Nat.reduceLT, Nat.reduceEqDiff, reduceCtorEq, Int.reduceLT, Int.reduceEq, hs, h0]
    refine XO_callP (h1 := []) (by simp only [List.map, go_sem, Nat.reduceLT, Nat.reduceEqDiff, reduceCtorEq, Int.reduceLT, Int.reduceEq, hs]; exact hc.clos rfl) n9 r9 ?_
    simp only [go_sem, Nat.reduceLT, Nat.reduceEqDiff, reduceCtorEq, Int.reduceLT, Int.reduceEq, hs]
    refine XO_callP (h1 := []) (by simp only [List.map, go_sem, Nat.reduceLT, Nat.reduceEqDiff, reduceCtorEq, Int.reduceLT, Int.reduceEq, hs]; exact hS.clos rfl) n11 rfl ?_
    simp only [go_sem, Nat.reduceLT, Nat.reduceEqDiff, reduceCtorEq, Int.reduceLT, Int.reduceEq, hs]
    rw [X_eq f6_0.eq_1]
    simp only [go_sem, Nat.reduceLT, Nat.reduceEqDiff, reduceCtorEq, Int.reduceLT, Int.reduceEq, hs, hS.ln, c1, gt_iff_lt, c2, h1, bin_rem z5, hk5, e5, hsl]
    refine XO_callP (h1 := []) (by simp only [List.map, go_sem, Nat.reduceLT, Nat.reduceEqDiff, reduceCtorEq, Int.reduceLT, Int.reduceEq, hs]; exact clos_cv (hw.clos rfl)) n10 r10 ?_
    simp only [go_sem, Nat.reduceLT, Nat.reduceEqDiff, reduceCtorEq, Int.reduceLT, Int.reduceEq, hs]
    refine XO_callP (h1 := []) (by simp only [List.map, go_sem, Nat.reduceLT, Nat.reduceEqDiff, reduceCtorEq, Int.reduceLT, Int.reduceEq, hs]; exact hy'.clos rfl) n12 r12 ?_
    simp only [go_sem, Nat.reduceLT, Nat.reduceEqDiff, reduceCtorEq, Int.reduceLT, Int.reduceEq, hs, hsl]
    refine XO_callP (h1 := []) (by simp only [List.map, go_sem, Nat.reduceLT, Nat.reduceEqDiff, reduceCtorEq, Int.reduceLT, Int.reduceEq, hs]; exact hw.clos (hx12.clos rfl)) n18 rfl ?_
    simp only [go_sem, Nat.reduceLT, Nat.reduceEqDiff, reduceCtorEq, Int.reduceLT, Int.reduceEq, hs]
    rw [X_eq f6_1.eq_1]
    have l256 : lnO false y = some (vi .i64 256) := by rw [hy'.ln, eB_len, hpl]; rfl
    have nn : ∀ (kd : IntKind) (n : Int), binO .neq (vi kd n) (vi kd n) = some (vb false) := fun kd n => by simp [binO, binV]
    have hz : ((0 : Nat) : Int) = 0 := rfl
    simp only [go_sem, Nat.reduceLT, Nat.reduceEqDiff, reduceCtorEq, Int.reduceLT, Int.reduceEq, hs, l256, nn, hz, h1, bin_rem z5, hk5, e5, Option.isSome_some]
    rw [X_eq f6_2.eq_1]
    by_cases c3 : (m : Int) < (els.length : Int)
    · have e1 : IntKind.i64.wrap ((m : Int) + 1) = ((m + 1 : Nat) : Int) := by rw [IntWalk.i64_in _ (by omega)]; omega
      obtain ⟨w2, hw2, hsl2⟩ := hS.upto (h := []) (k := .i64) (b := ((m + 1 : Nat) : Int)) (by omega) (by omega)
      rw [Int.toNat_natCast] at hw2
      have Rw2 := take_rows R (m + 1)
      have hE2 : encF 0 (kv.take (m + 1)) = none := by
        unfold encF
        rw [if_pos (by right; right; rw [hmore (by omega), List.length_take]; omega)]
      obtain ⟨v2, h2', n2, P2⟩ := encode_f10 [] 0 hw2 Rw2 (by rw [List.length_take]; omega)
      obtain ⟨y2, r2, hy2⟩ := P2.pure
      rw [hE2] at r2
      simp only [go_sem, Nat.reduceLT, Nat.reduceEqDiff, reduceCtorEq, Int.reduceLT, Int.reduceEq, hs, hS.ln, c3, e1, hsl2]
      refine XO_callP (h1 := []) (by simp only [List.map, go_sem, Nat.reduceLT, Nat.reduceEqDiff, reduceCtorEq, Int.reduceLT, Int.reduceEq, hs]; exact clos_cv (hw2.clos rfl)) n2 r2 ?_
      simp only [go_sem, Nat.reduceLT, Nat.reduceEqDiff, reduceCtorEq, Int.reduceLT, Int.reduceEq, hs]
      refine XO_callP (h1 := []) (by simp only [List.map]; rfl) n13 rfl ?_
      simp only [go_sem, Nat.reduceLT, Nat.reduceEqDiff, reduceCtorEq, Int.reduceLT, Int.reduceEq, hs, Option.isSome_none]
    · simp only [go_sem, Nat.reduceLT, Nat.reduceEqDiff, reduceCtorEq, Int.reduceLT, Int.reduceEq, hs, hS.ln, c3]
      refine XO_callP (h1 := []) (by simp only [List.map]; rfl) n13 rfl ?_
      simp only [go_sem, Nat.reduceLT, Nat.reduceEqDiff, reduceCtorEq, Int.reduceLT, Int.reduceEq, hs]
  obtain ⟨v, h', e1, rfl⟩ := this
  exact ⟨h', e1⟩
theorem back_in {H : Type} {d0 d1 : DataW H} {u0 u1 : VV} (h0 : DV Proofs.Try.prog 22 d0 u0) (h1 : DV Proofs.Try.prog 5 d1 u1) : ∃ h', call F 6 [u0, u1] [] = some (.ret (vb true), h') := by
  obtain ⟨c, hc, _⟩ := DV_bytes (e := 5) (by kernel_rfl) (by kernel_rfl) (by kernel_rfl) h0
  obtain ⟨k, rfl⟩ := DV_u8 (by kernel_rfl) h1
  exact law_back c u0 hc k
end Go.V05

set_option linter.unusedSimpArgs false
set_option linter.unusedVariables false
namespace Go.V05
open Go Go.Vm

/-! ### PageFinds -/
def keyN (i : Nat) : List UInt8 := [UInt8.ofNat (97 + i)]
def keysL (n : Nat) : List KV := (List.range n).map fun i => (keyN i, [])
theorem keysL_len {n : Nat} : (keysL n).length = n := by simp [keysL]
theorem keysL_get {n i : Nat} (h : i < n) : (keysL n)[i]? = some (keyN i, []) := by simp [keysL, h]
theorem keysL_snoc {n : Nat} : keysL n ++ [(keyN n, [])] = keysL (n + 1) := by simp [keysL, List.range_succ]

theorem findF_at (key : List UInt8) : ∀ (l : List KV) (i m : Nat), m ≤ l.length → (∀ j p, j < m → l[j]? = some p → above p key = false) → (∀ p, l[m]? = some p → above p key = true) → findF key i l = ((i + m : Nat) : Int) - 1
  | [], i, m, hm, _, _ => by
    have : m = 0 := by simpa using hm
    subst this; rfl
  | p :: l, i, m, hm, h1, h2 => by
    simp only [findF]
    cases m with
    | zero => rw [if_pos (h2 p rfl)]; rfl
    | succ m =>
      rw [if_neg (by rw [h1 0 p (by omega) rfl]; simp), findF_at key l (i + 1) m (by simpa using hm) (fun j p hj hp => h1 (j + 1) p (by omega) (by simpa using hp)) (fun p hp => h2 p (by simpa using hp))]
      congr 2; omega
theorem above_key {i j : Nat} (hi : i < 100) (hj : j < 100) (s : List UInt8) : above (keyN j, []) (keyN i ++ s) = decide (i < j) := by
  have e1 : (UInt8.ofNat (97 + j) < UInt8.ofNat (97 + i)) ↔ j < i := by
    rw [UInt8.lt_iff_toNat_lt, toNat_of (by omega), toNat_of (by omega)]; omega
  have e2 : (UInt8.ofNat (97 + j) = UInt8.ofNat (97 + i)) ↔ j = i := by
    rw [← UInt8.toNat_inj, toNat_of (by omega), toNat_of (by omega)]; omega
  unfold above keyN
  simp only [List.singleton_append, Op.bytesLess]
  by_cases h1 : j < i
  · simp only [decide_eq_true (e1.2 h1), Bool.true_or, Bool.not_true]
    simp; omega
  · by_cases h2 : j = i
    · subst h2
      have : decide (UInt8.ofNat (97 + j) < UInt8.ofNat (97 + j)) = false := by simp
      rw [this]
      cases s with
      | nil => simp [Op.bytesLess]
      | cons c s => simp [Op.bytesLess]
    · have a1 : decide (UInt8.ofNat (97 + j) < UInt8.ofNat (97 + i)) = false := decide_eq_false (fun h => h1 (e1.1 h))
      have a2 : (UInt8.ofNat (97 + j) == UInt8.ofNat (97 + i)) = false := by rw [beq_eq_false_iff_ne]; exact fun h => h2 (e2.1 h)
      have a3 : ([UInt8.ofNat (97 + j)] == UInt8.ofNat (97 + i) :: s) = false := by
        rw [beq_eq_false_iff_ne]; intro h; exact h2 (e2.1 (List.cons.inj h).1)
      rw [a1, a2, a3]
      simp; omega
theorem find_key {n i : Nat} (hn : n ≤ 26) (hi : i < n) (s : List UInt8) : findF (keyN i ++ s) 0 (keysL n) = (i : Int) := by
  rw [findF_at (keyN i ++ s) (keysL n) 0 (i + 1) (by rw [keysL_len]; omega) (fun j p hj hp => ?_) (fun p hp => ?_)]
  · omega
  · rw [keysL_get (by omega)] at hp; cases hp
    rw [above_key (by omega) (by omega)]; simp; omega
  · have hlt : i + 1 < n := by
      have := (List.getElem?_eq_some_iff.1 hp).1
      rw [keysL_len] at this; exact this
    rw [keysL_get hlt] at hp; cases hp
    rw [above_key (by omega) (by omega)]; simp
theorem find_A {n : Nat} (hn : n ≤ 26) : findF [65] 0 (keysL n) = -1 := by
  rw [findF_at [65] (keysL n) 0 0 (by omega) (fun j p hj _ => by omega) (fun p hp => ?_)]
  · rfl
  · have hlt : 0 < n := by
      have := (List.getElem?_eq_some_iff.1 hp).1
      rw [keysL_len] at this; exact this
    rw [keysL_get hlt] at hp; cases hp; decide

theorem keyE (n : Nat) : rowE [.sc (.string ⟨(keyN n).toArray⟩), .sc (.slice none 0 0)] (keyN n, []) := ⟨_, rfl, .inl ⟨rfl, rfl⟩⟩

theorem f8_loop1 {n : UInt8} {g0 : Heap} : ∀ (r k : Nat) (els : List (List CV)) (v : VV) (s : List VV) (h : Heap) (Q : Pst), k + r = n.toNat % 26 → NB g0 h 2 els v → RowsE els (keysL k) → s.length = 67 → s.getD 0 .undef = vi .u8 n.toNat → s.getD 5 .undef = v → s.getD 6 .undef = vi .i64 k →
    (∀ s' h' els' v', s'.length = 67 → s'.getD 1 .undef = s.getD 1 .undef → s'.getD 5 .undef = v' → NB g0 h' 2 els' v' → RowsE els' (keysL (n.toNat % 26)) → Q (.exit 0) ⟨s', h'⟩) → X F (.loop f8_1) ⟨s, h⟩ Q := by
  have z26 : (26 : Int) ≠ 0 := by decide
  have e26 : IntKind.i64.wrap ((n.toNat : Int).tmod 26) = ((n.toNat % 26 : Nat) : Int) := by
    have e : (n.toNat : Int).tmod 26 = ((n.toNat % 26 : Nat) : Int) := rfl
    rw [e]; exact IntWalk.i64_in _ (by omega)
  intro r
  induction r with
  | zero =>
    intro k els v s h Q hk hB hR hs h0 h5 h6 hE
    rw [X_loop, X_eq f8_1.eq_1]
    have c : ¬ (k : Int) < ((n.toNat % 26 : Nat) : Int) := by omega
    simp only [go_sem, Nat.reduceLT, Nat.reduceEqDiff, reduceCtorEq, Int.reduceLT, Int.reduceEq, hs, h0, h6, bin_rem z26, e26, c]
    have : k = n.toNat % 26 := by omega
    exact hE _ _ els v (by simp only [slot_len, hs]) (by simp only [go_sem, Nat.reduceLT, Nat.reduceEqDiff, reduceCtorEq, Int.reduceLT, Int.reduceEq]) (by simp only [go_sem, Nat.reduceLT, Nat.reduceEqDiff, reduceCtorEq, Int.reduceLT, Int.reduceEq, h5]) hB (by rw [← this]; exact hR)
  | succ r ih =>
    intro k els v s h Q hk hB hR hs h0 h5 h6 hE
    rw [X_loop, X_eq f8_1.eq_1]
    have c : (k : Int) < ((n.toNat % 26 : Nat) : Int) := by omega
    have hw : IntKind.i64.wrap ((k : Int) + 1) = ((k + 1 : Nat) : Int) := by rw [IntWalk.i64_in _ (by omega)]; omega
    have e1 : IntKind.u8.wrap (k : Int) = (k : Int) := IntWalk.u8_in _ (by omega)
    have e2 : IntKind.u8.wrap (97 + (k : Int)) = ((UInt8.ofNat (97 + k)).toNat : Int) := by
      rw [toNat_of (by omega), IntWalk.u8_in _ (by omega)]; omega
    have bs1 : bsO h (.cv (.sl 1 [[.sc (.int .u8 (UInt8.ofNat (97 + k)).toNat)]] true)) = some (txt (keyN k)) := (show SlV 1 (eB (keyN k)) (.cv (.sl 1 [[.sc (.int .u8 (UInt8.ofNat (97 + k)).toNat)]] true)) from .inr ⟨true, rfl⟩).bs
    have b1 : bdO [.cv (.sc (.string ⟨#[]⟩)), nilS] [(0, 1, txt (keyN k))] = some (.agg [txt (keyN k), nilS]) := rfl
    have hl := hR.len
    rw [keysL_len] at hl
    simp only [go_sem, Nat.reduceLT, Nat.reduceEqDiff, reduceCtorEq, Int.reduceLT, Int.reduceEq, hs, h0, h6, bin_rem z26, e26, c, h5, e1, e2, bs1, b1]
    refine XO_appNB hB (new := [[.sc (.string ⟨(keyN k).toArray⟩), .sc (.slice none 0 0)]]) (by simp only [go_sem, Nat.reduceLT, Nat.reduceEqDiff, reduceCtorEq, Int.reduceLT, Int.reduceEq, hs]) (by simp only [go_sem, Nat.reduceLT, Nat.reduceEqDiff, reduceCtorEq, Int.reduceLT, Int.reduceEq, hs]) (by simp only [List.length_singleton]; omega) (by simp only [List.length_singleton]; omega) (fun v' h' B' _ _ _ => ?_)
    simp only [go_sem, Nat.reduceLT, Nat.reduceEqDiff, reduceCtorEq, Int.reduceLT, Int.reduceEq, hs, h6, hw]
    exact ih (k + 1) _ v' _ h' Q (by omega) B' (by rw [← keysL_snoc]; exact hR.snoc (keyE k)) (by simp only [slot_len, hs]) (by simp only [go_sem, Nat.reduceLT, Nat.reduceEqDiff, reduceCtorEq, Int.reduceLT, Int.reduceEq, h0]) (by simp only [go_sem, Nat.reduceLT, Nat.reduceEqDiff, reduceCtorEq, Int.reduceLT, Int.reduceEq, hs]) (by simp only [go_sem, Nat.reduceLT, Nat.reduceEqDiff, reduceCtorEq, Int.reduceLT, Int.reduceEq, hs]) (fun s' h' els' v' a1 a2 a3 a4 a5 => hE s' h' els' v' a1 (by rw [a2]; simp only [go_sem, Nat.reduceLT, Nat.reduceEqDiff, reduceCtorEq, Int.reduceLT, Int.reduceEq]) a3 a4 a5)

theorem f8_loop2 {n : Nat} (hn : n ≤ 26) {els : List (List CV)} (hR : RowsE els (keysL n)) {v : VV} (sx : List UInt8) (hsx : sx.length ≤ 1000) : ∀ (r k : Nat) (s : List VV) (h : Heap) (Q : Pst), k + r = n → NF h 2 els v → s.length = 67 → s.getD 1 .undef = txt sx → s.getD 5 .undef = v → s.getD 7 .undef = vi .i64 k →
    (∀ s' h', s'.length = 67 → s'.getD 1 .undef = txt sx → s'.getD 5 .undef = v → NF h' 2 els v → Q (.exit 2) ⟨s', h'⟩) → X F (.loop f8_2) ⟨s, h⟩ Q := by
  have hl := hR.len
  rw [keysL_len] at hl
  intro r
  induction r with
  | zero =>
    intro k s h Q hk hB hs h1 h5 h7 hE
    rw [X_loop, X_eq f8_2.eq_1]
    have c : ¬ (k : Int) < (els.length : Int) := by omega
    simp only [go_sem, Nat.reduceLT, Nat.reduceEqDiff, reduceCtorEq, Int.reduceLT, Int.reduceEq, hs, h5, h7, hB.ln, c]
    exact hE _ _ (by simp only [slot_len, hs]) (by simp only [go_sem, Nat.reduceLT, Nat.reduceEqDiff, reduceCtorEq, Int.reduceLT, Int.reduceEq, h1]) (by simp only [go_sem, Nat.reduceLT, Nat.reduceEqDiff, reduceCtorEq, Int.reduceLT, Int.reduceEq, h5]) hB
  | succ r ih =>
    intro k s h Q hk hB hs h1 h5 h7 hE
    rw [X_loop, X_eq f8_2.eq_1]
    have c : (k : Int) < (els.length : Int) := by omega
    have hw : IntKind.i64.wrap ((k : Int) + 1) = ((k + 1 : Nat) : Int) := by rw [IntWalk.i64_in _ (by omega)]; omega
    obtain ⟨e, p, he, hp, cc, rfl, hcc⟩ := hR.get (i := k) (by rw [keysL_len]; omega)
    rw [keysL_get (by omega)] at hp
    cases hp
    obtain ⟨q, q1, q2, q3, _⟩ := hB.cell (k := .i64) he
    obtain ⟨q', q4, q5⟩ := q3 0 _ rfl
    obtain ⟨w, g, w1, w2, w3⟩ := hB.clos
    have hB2 := hB.froze w3
    obtain ⟨p', p1, p2, p3, _⟩ := hB2.cell (k := .i64) he
    obtain ⟨p'', p4, p5⟩ := p3 0 _ rfl
    obtain ⟨w', g', x1, x2, x3⟩ := hB2.clos
    obtain ⟨h21, n21⟩ := find_f21 w2 hR (by rw [keysL_len]; omega) (keyN k)
    have ek := find_key hn (show k < n by omega) []
    rw [List.append_nil] at ek
    rw [ek] at n21
    obtain ⟨h22, n22⟩ := find_f21 x2 hR (by rw [keysL_len]; omega) (keyN k ++ sx)
    rw [find_key hn (show k < n by omega) sx] at n22
    have nn : ∀ (n : Int), binO .neq (vi .i64 n) (vi .i64 n) = some (vb false) := fun n => by simp [binO, binV]
    have ad : binO .add (txt (keyN k)) (txt sx) = some (txt (keyN k ++ sx)) := by
      have e1 : (keyN k).length = 1 := rfl
      have e2 : ((⟨(keyN k).toArray⟩ : ByteArray).size + (⟨sx.toArray⟩ : ByteArray).size) ≤ 9223372036854775807 := by
        simp only [ByteArray.size, List.size_toArray]; omega
      simp only [binO, binV, e2, if_true]
      rfl
    simp only [go_sem, Nat.reduceLT, Nat.reduceEqDiff, reduceCtorEq, Int.reduceLT, Int.reduceEq, hs, h5, h7, hB.ln, c, q1, q4, q5]
    refine XO_callP (h1 := g) (by simp only [List.map, go_sem, Nat.reduceLT, Nat.reduceEqDiff, reduceCtorEq, Int.reduceLT, Int.reduceEq, hs]; exact closAs_cons w1 rfl) n21 rfl ?_
    simp only [go_sem, Nat.reduceLT, Nat.reduceEqDiff, reduceCtorEq, Int.reduceLT, Int.reduceEq, hs, h1, h5, h7, nn, p1, p4, p5, ad]
    refine XO_callP (h1 := g') (by simp only [List.map, go_sem, Nat.reduceLT, Nat.reduceEqDiff, reduceCtorEq, Int.reduceLT, Int.reduceEq, hs]; exact closAs_cons x1 rfl) n22 rfl ?_
    simp only [go_sem, Nat.reduceLT, Nat.reduceEqDiff, reduceCtorEq, Int.reduceLT, Int.reduceEq, hs, h7, nn, hw]
    exact ih (k + 1) _ g' Q (by omega) (hB2.froze x3) (by simp only [slot_len, hs]) (by simp only [go_sem, Nat.reduceLT, Nat.reduceEqDiff, reduceCtorEq, Int.reduceLT, Int.reduceEq, h1]) (by simp only [go_sem, Nat.reduceLT, Nat.reduceEqDiff, reduceCtorEq, Int.reduceLT, Int.reduceEq, h5]) (by simp only [go_sem, Nat.reduceLT, Nat.reduceEqDiff, reduceCtorEq, Int.reduceLT, Int.reduceEq, hs]) hE

theorem law_finds (n : UInt8) (sx : List UInt8) : ∃ h', call F 8 [vi .u8 n.toNat, txt sx] [] = some (.ret (vb true), h') := by
  have : Ret F 8 [vi .u8 n.toNat, txt sx] [] fun v h' => v = vb true := by
    refine call_E (fn := f8) rfl ?_
    simp only [f8]
    generalize hs0 : ([vi .u8 n.toNat, txt sx] ++ List.replicate _ VV.undef : List VV) = s
    have hs : s.length = 67 := by rw [← hs0]; rfl
    have h0 : s.getD 0 .undef = vi .u8 n.toNat := by rw [← hs0]; rfl
    have h1 : s.getD 1 .undef = txt sx := by rw [← hs0]; rfl
    clear hs0
    obtain ⟨h13, n13⟩ := known_f13
    simp only [go_sem, Nat.reduceLT, Nat.reduceEqDiff, reduceCtorEq, Int.reduceLT, Int.reduceEq, hs]
    rw [X_eq f8_0.eq_1]
    by_cases c : (40 : Int) < (sx.length : Int)
    · simp only [go_sem, Nat.reduceLT, Nat.reduceEqDiff, reduceCtorEq, Int.reduceLT, Int.reduceEq, hs, h1, gt_iff_lt, c]
      refine XO_callP (h1 := []) (by simp only [List.map]; rfl) n13 rfl ?_
      simp only [go_sem, Nat.reduceLT, Nat.reduceEqDiff, reduceCtorEq, Int.reduceLT, Int.reduceEq, hs]
    · simp only [go_sem, Nat.reduceLT, Nat.reduceEqDiff, reduceCtorEq, Int.reduceLT, Int.reduceEq, hs, h1, gt_iff_lt, c]
      refine f8_loop1 (n := n) (g0 := []) (n.toNat % 26) 0 [] nilS _ _ _ (by omega) (NB.nil _ _) RowsE.nil (by simp only [slot_len, hs]) (by simp only [go_sem, Nat.reduceLT, Nat.reduceEqDiff, reduceCtorEq, Int.reduceLT, Int.reduceEq, h0]) (by simp only [go_sem, Nat.reduceLT, Nat.reduceEqDiff, reduceCtorEq, Int.reduceLT, Int.reduceEq, hs]) (by simp only [go_sem, Nat.reduceLT, Nat.reduceEqDiff, reduceCtorEq, Int.reduceLT, Int.reduceEq, hs]; rfl) (fun s' h' els v a1 b1 a5 B R => ?_)
      have b1' : s'.getD 1 .undef = txt sx := by rw [b1]; simp only [go_sem, Nat.reduceLT, Nat.reduceEqDiff, reduceCtorEq, Int.reduceLT, Int.reduceEq, h1]
      simp only [go_sem, Nat.reduceLT, Nat.reduceEqDiff, reduceCtorEq, Int.reduceLT, Int.reduceEq, a1]
      refine f8_loop2 (by omega) R sx (by omega) (n.toNat % 26) 0 _ _ _ (by omega) B.nf (by simp only [slot_len, a1]) (by simp only [go_sem, Nat.reduceLT, Nat.reduceEqDiff, reduceCtorEq, Int.reduceLT, Int.reduceEq, b1']) (by simp only [go_sem, Nat.reduceLT, Nat.reduceEqDiff, reduceCtorEq, Int.reduceLT, Int.reduceEq, a5]) (by simp only [go_sem, Nat.reduceLT, Nat.reduceEqDiff, reduceCtorEq, Int.reduceLT, Int.reduceEq, a1]; rfl) (fun s2 h2 d1 e1 d5 B2 => ?_)
      obtain ⟨w, g, w1, w2, w3⟩ := B2.clos
      obtain ⟨h21, n21⟩ := find_f21 w2 R (by rw [keysL_len]; omega) [65]
      rw [find_A (by omega)] at n21
      obtain ⟨h22, n22⟩ := find_f21 (u := nilS) (.inl ⟨rfl, rfl⟩) RowsE.nil (by simp) sx
      have ee : ∀ (n : Int), binO .eql (vi .i64 n) (vi .i64 n) = some (vb true) := fun n => by simp [binO, binV]
      have em : findF sx 0 [] = -1 := rfl
      rw [em] at n22
      simp only [go_sem, Nat.reduceLT, Nat.reduceEqDiff, reduceCtorEq, Int.reduceLT, Int.reduceEq, d1]
      refine XO_callP (h1 := h2) (by simp only [List.map]; rfl) n13 rfl ?_
      simp only [go_sem, Nat.reduceLT, Nat.reduceEqDiff, reduceCtorEq, Int.reduceLT, Int.reduceEq, d1, d5]
      refine XO_callP (h1 := g) (by simp only [List.map, go_sem, Nat.reduceLT, Nat.reduceEqDiff, reduceCtorEq, Int.reduceLT, Int.reduceEq, d1]; exact closAs_cons w1 rfl) n21 rfl ?_
      simp only [go_sem, Nat.reduceLT, Nat.reduceEqDiff, reduceCtorEq, Int.reduceLT, Int.reduceEq, d1, e1, ee]
      refine XO_callP (h1 := g) (by simp only [List.map, go_sem, Nat.reduceLT, Nat.reduceEqDiff, reduceCtorEq, Int.reduceLT, Int.reduceEq, d1]; rfl) n22 rfl ?_
      simp only [go_sem, Nat.reduceLT, Nat.reduceEqDiff, reduceCtorEq, Int.reduceLT, Int.reduceEq, d1, ee]
  obtain ⟨v, h', e1, rfl⟩ := this
  exact ⟨h', e1⟩
theorem finds_in {H : Type} {d0 d1 : DataW H} {u0 u1 : VV} (h0 : DV Proofs.Try.prog 5 d0 u0) (h1 : DV Proofs.Try.prog 9 d1 u1) : ∃ h', call F 8 [u0, u1] [] = some (.ret (vb true), h') := by
  obtain ⟨k, rfl⟩ := DV_u8 (by kernel_rfl) h0
  obtain ⟨s, rfl, _⟩ := DV_str (by kernel_rfl) h1
  exact law_finds k s
end Go.V05

set_option linter.unusedSimpArgs false
set_option linter.unusedVariables false
namespace Go.V05
open Go Go.Vm

/-! ### PageReads -/
theorem law_reads (b : List UInt8) (u : VV) (hu : SlV 1 (eB b) u) (c : List UInt8) (vc : VV) (hc : SlV 1 (eB c) vc) (at_ v k : UInt8) (sealed : Bool) : ∃ h', call F 5 [u, vc, vi .u8 at_.toNat, vi .u8 v.toNat, vi .u8 k.toNat, vb sealed] [] = some (.ret (vb true), h') := by
  have : Ret F 5 [u, vc, vi .u8 at_.toNat, vi .u8 v.toNat, vi .u8 k.toNat, vb sealed] [] fun v h' => v = vb true := by
    refine call_E (fn := f5) rfl ?_
    simp only [f5]
    generalize hs0 : ([u, vc, vi .u8 at_.toNat, vi .u8 v.toNat, vi .u8 k.toNat, vb sealed] ++ List.replicate _ VV.undef : List VV) = s
    have hs : s.length = 60 := by rw [← hs0]; rfl
    have h0 : s.getD 0 .undef = u := by rw [← hs0]; rfl
    have h1 : s.getD 1 .undef = vc := by rw [← hs0]; rfl
    have h2 : s.getD 2 .undef = vi .u8 at_.toNat := by rw [← hs0]; rfl
    have h3 : s.getD 3 .undef = vi .u8 v.toNat := by rw [← hs0]; rfl
    have h4 : s.getD 4 .undef = vi .u8 k.toNat := by rw [← hs0]; rfl
    have h5 : s.getD 5 .undef = vb sealed := by rw [← hs0]; rfl
    clear hs0
    obtain ⟨h13, n13⟩ := known_f13
    simp only [go_sem, Nat.reduceLT, Nat.reduceEqDiff, reduceCtorEq, Int.reduceLT, Int.reduceEq, hs]
    rw [X_eq f5_0.eq_1]
    by_cases c1 : (300 : Int) < (b.length : Int)
    · simp only [go_sem, Nat.reduceLT, Nat.reduceEqDiff, reduceCtorEq, Int.reduceLT, Int.reduceEq, hs, h0, hu.ln, eB_len, gt_iff_lt, c1]
      refine XO_callP (h1 := []) (by simp only [List.map]; rfl) n13 rfl ?_
      simp only [go_sem, Nat.reduceLT, Nat.reduceEqDiff, reduceCtorEq, Int.reduceLT, Int.reduceEq, hs]
    · simp only [go_sem, Nat.reduceLT, Nat.reduceEqDiff, reduceCtorEq, Int.reduceLT, Int.reduceEq, hs, h0, hu.ln, eB_len, gt_iff_lt, c1]
      refine XO_callP (h1 := []) (by simp only [List.map]; rfl) n13 rfl ?_
      obtain ⟨v9, h9, els, n9, r9, R⟩ := list_pure c vc hc 10 (by omega)
      have hS : SlV 2 els (slV 2 els) := slV_SlV
      have hln := rowL_len 10 c
      generalize hkv : rowL 10 c = kv at *
      generalize hu : slV 2 els = u9 at *
      have hl := R.len
      obtain ⟨h15, n15⟩ := rfit_f15 hS R (by omega)
      have hf := fitF_le kv 0
      have htk := fitF_take kv 0
      generalize hm : fitF 0 kv = m at *
      obtain ⟨w, hw, hsl⟩ := hS.upto (h := []) (k := .i64) (b := (m : Int)) (by omega) (by omega)
      rw [Int.toNat_natCast] at hw
      have Rw := take_rows R m
      have z5 : (5 : Int) ≠ 0 := by decide
      have z3 : (3 : Int) ≠ 0 := by decide
      have hk5 : ((k.toNat : Int).tmod 5) = ((k.toNat % 5 : Nat) : Int) := rfl
      have hk3 : ((k.toNat : Int).tmod 3) = ((k.toNat % 3 : Nat) : Int) := rfl
      have e5 : IntKind.i64.wrap ((k.toNat % 5 : Nat) : Int) = ((k.toNat % 5 : Nat) : Int) := IntWalk.i64_in _ (by omega)
      have hfa : fitF 0 (kv.take m) = (kv.take m).length := by rw [htk, List.length_take]; omega
      have hE : encF ((k.toNat % 5 : Nat) : Int) (kv.take m) = some (pageB (k.toNat % 5) (kv.take m)) := by
        unfold encF
        rw [if_neg (by omega), Int.toNat_natCast]
      obtain ⟨v14, h14, n14, P14⟩ := rencode_f14 [] ((k.toNat % 5 : Nat) : Int) hw Rw (by rw [List.length_take]; omega)
      rw [hE] at P14
      obtain ⟨y, rfl, B⟩ : ∃ w, v14 = .tup [w, vb true] ∧ NB [] h14 1 (eB (pageB (k.toNat % 5) (kv.take m))) w := P14
      have hsum := (fitF_all _ 0 hfa (by omega)).1
      have hpl : (pageB (k.toNat % 5) (kv.take m)).length = 256 := by unfold pageB; rw [sealB_len, pageR_len (by omega)]
      generalize pageB (k.toNat % 5) (kv.take m) = pg at B hpl
      simp only [go_sem, Nat.reduceLT, Nat.reduceEqDiff, reduceCtorEq, Int.reduceLT, Int.reduceEq, hs, h1]
      refine XO_callP (h1 := []) (by simp only [List.map, go_sem, Nat.reduceLT, Nat.reduceEqDiff, reduceCtorEq, Int.reduceLT, Int.reduceEq, hs]; exact hc.clos rfl) n9 r9 ?_
      simp only [go_sem, Nat.reduceLT, Nat.reduceEqDiff, reduceCtorEq, Int.reduceLT, Int.reduceEq, hs, h4, bin_rem z5, hk5, e5]
      refine XO_callP (h1 := []) (by simp only [List.map, go_sem, Nat.reduceLT, Nat.reduceEqDiff, reduceCtorEq, Int.reduceLT, Int.reduceEq, hs]; exact hS.clos rfl) n15 rfl ?_
      simp only [go_sem, Nat.reduceLT, Nat.reduceEqDiff, reduceCtorEq, Int.reduceLT, Int.reduceEq, hs, hsl]
      refine XO_callR (by simp only [List.map, go_sem, Nat.reduceLT, Nat.reduceEqDiff, reduceCtorEq, Int.reduceLT, Int.reduceEq, hs]; exact n14) ?_
      simp only [go_sem, Nat.reduceLT, Nat.reduceEqDiff, reduceCtorEq, Int.reduceLT, Int.reduceEq, hs]
      have rd := reads_f17 ‹SlV 1 (eB b) u› (by omega : b.length ≤ 1000000)
      have fin : ∀ (pg : List UInt8) (s : List VV) (h : Heap) (y : VV), pg.length = 256 → NB [] h 1 (eB pg) y → s.length = 60 → s.getD 0 .undef = u → s.getD 2 .undef = vi .u8 at_.toNat → s.getD 14 .undef = y →
          X F (.seq (.reg [
  ⟨none, (some 48), (.mv (.t 0))⟩,
  ⟨none, (some 49), (.call 17 true [(.t 48)])⟩,
  ⟨none, (some 50), (.mv (.t 49))⟩,
  ⟨(some (50, true)), (some 51), (.mv (.t 14))⟩,
  ⟨(some (50, true)), (some 52), (.call 17 true [(.t 51)])⟩,
  ⟨none, (some 53), (.pick (.t 50) (.t 52) (.c (.cv (.sc (.bool false)))))⟩,
  ⟨none, (some 54), (.mv (.t 53))⟩,
  ⟨(some (54, true)), (some 55), (.mv (.t 14))⟩,
  ⟨(some (54, true)), (some 56), (.mv (.t 2))⟩,
  ⟨(some (54, true)), (some 57), (.slL 1 (.t 55) none (some (.t 56)) none)⟩,
  ⟨(some (54, true)), (some 58), (.call 17 true [(.t 57)])⟩,
  ⟨none, (some 59), (.pick (.t 54) (.t 58) (.c (.cv (.sc (.bool false)))))⟩,
  ⟨none, (some 12), (.mv (.t 59))⟩])
  .ret) ⟨s, h⟩ (RQ [.t 12] fun v h' => v = vb true) := by
        intro pg s h y hpl B hs h0 h2 h14
        obtain ⟨h17, n17⟩ := rd
        obtain ⟨id, g, hv, ha⟩ : ∃ id g, y = .own id g 0 256 false ∧ h[id]? = some (.arr 1 (eB pg) g false) := by
          rcases B.v with ⟨e, _⟩ | ⟨id, g, _, e, a⟩
          · have := eB_len (l := pg); rw [e, hpl] at this; simp at this
          · rw [eB_len, hpl] at e; exact ⟨id, g, e, a⟩
        subst hv
        have hE : (eB pg).length = 256 := by rw [eB_len, hpl]
        have hcl := clos_pre (n := 256) (ex := false) ha (by omega)
        rw [List.take_of_length_le (by omega)] at hcl
        have ha1 : (h.set id (.arr 1 (eB pg) g true))[id]? = some (.arr 1 (eB pg) g true) := List.getElem?_set_self (lt_at ha)
        generalize h.set id (.arr 1 (eB pg) g true) = hh at hcl ha1
        have hat := at_.toNat_lt
        obtain ⟨ex', hsl⟩ := sl_own_upto (len := 256) (b := at_.toNat) (ex := false) (k := .u8) ha1 (by omega)
        have hcl2 := clos_pre (n := at_.toNat) (ex := ex') ha1 (by omega)
        have et : (eB pg).take at_.toNat = eB (pg.take at_.toNat) := by unfold eB; rw [List.map_take]
        rw [et] at hcl2
        obtain ⟨g17, m17⟩ := reads_f17 (b := pg) (u := .cv (.sl 1 (eB pg) false)) (.inr ⟨false, rfl⟩) (by omega)
        obtain ⟨k17, l17⟩ := reads_f17 (b := pg.take at_.toNat) (u := .cv (.sl 1 (eB (pg.take at_.toNat)) ex')) (.inr ⟨ex', rfl⟩) (by rw [List.length_take]; omega)
        simp only [go_sem, Nat.reduceLT, Nat.reduceEqDiff, reduceCtorEq, Int.reduceLT, Int.reduceEq, hs, h0]
        refine XO_callP (h1 := h) (by simp only [List.map, go_sem, Nat.reduceLT, Nat.reduceEqDiff, reduceCtorEq, Int.reduceLT, Int.reduceEq, hs]; exact (‹SlV 1 (eB b) u›).clos rfl) n17 rfl ?_
        simp only [go_sem, Nat.reduceLT, Nat.reduceEqDiff, reduceCtorEq, Int.reduceLT, Int.reduceEq, hs, h14]
        refine XO_callP (h1 := hh) (by simp only [List.map, go_sem, Nat.reduceLT, Nat.reduceEqDiff, reduceCtorEq, Int.reduceLT, Int.reduceEq, hs]; simp only [closAs, hcl]) m17 rfl ?_
        simp only [go_sem, Nat.reduceLT, Nat.reduceEqDiff, reduceCtorEq, Int.reduceLT, Int.reduceEq, hs, h2, h14, hsl]
        refine XO_callP (by simp only [List.map, go_sem, Nat.reduceLT, Nat.reduceEqDiff, reduceCtorEq, Int.reduceLT, Int.reduceEq, hs]; simp only [closAs, hcl2]; rfl) l17 rfl ?_
        simp only [go_sem, Nat.reduceLT, Nat.reduceEqDiff, reduceCtorEq, Int.reduceLT, Int.reduceEq, hs]
      have mid : ∀ (pg : List UInt8) (s : List VV) (h : Heap) (y : VV), pg.length = 256 → NB [] h 1 (eB pg) y → s.length = 60 → s.getD 0 .undef = u → s.getD 2 .undef = vi .u8 at_.toNat → s.getD 5 .undef = vb sealed → s.getD 14 .undef = y → ∀ Q : Pst,
          (∀ (pg : List UInt8) (s : List VV) (h : Heap) (y : VV), pg.length = 256 → NB [] h 1 (eB pg) y → s.length = 60 → s.getD 0 .undef = u → s.getD 2 .undef = vi .u8 at_.toNat → s.getD 14 .undef = y → Q .norm ⟨s, h⟩) → X F f5_2 ⟨s, h⟩ Q := by
        intro pg s h y hpl B hs h0 h2 h5 h14 Q hQ
        rw [X_eq f5_2.eq_1]
        cases sealed with
        | false =>
          simp only [go_sem, Nat.reduceLT, Nat.reduceEqDiff, reduceCtorEq, Int.reduceLT, Int.reduceEq, hs, h5]
          exact hQ pg _ h y hpl B (by simp only [slot_len, hs]) (by simp only [go_sem, Nat.reduceLT, Nat.reduceEqDiff, reduceCtorEq, Int.reduceLT, Int.reduceEq, h0]) (by simp only [go_sem, Nat.reduceLT, Nat.reduceEqDiff, reduceCtorEq, Int.reduceLT, Int.reduceEq, h2]) (by simp only [go_sem, Nat.reduceLT, Nat.reduceEqDiff, reduceCtorEq, Int.reduceLT, Int.reduceEq, h14])
        | true =>
          obtain ⟨id, g, hv, ha⟩ : ∃ id g, y = .own id g 0 256 false ∧ h[id]? = some (.arr 1 (eB pg) g false) := by
            rcases B.v with ⟨e, _⟩ | ⟨id, g, _, e, a⟩
            · have := eB_len (l := pg); rw [e, hpl] at this; simp at this
            · rw [eB_len, hpl] at e; exact ⟨id, g, e, a⟩
          subst hv
          obtain ⟨ex', hsl⟩ := sl_own_upto (len := 256) (b := 252) (ex := false) (k := .i64) ha (by omega)
          have hsl' : slO h 1 (.own id g 0 256 false) none (some (vi .i64 252)) none = some (.own id g 0 252 ex', h) := hsl
          have bs := bsrc_pre (n := 252) (ex := ex') (HExt.nil h) ha (by simp) (by omega)
          obtain ⟨v16, h16, n16, B16⟩ := rseal_f16 bs (by rw [List.length_take]; omega)
          simp only [go_sem, Nat.reduceLT, Nat.reduceEqDiff, reduceCtorEq, Int.reduceLT, Int.reduceEq, hs, h5, h14, hsl']
          refine XO_callR (by simp only [List.map, go_sem, Nat.reduceLT, Nat.reduceEqDiff, reduceCtorEq, Int.reduceLT, Int.reduceEq, hs]; exact n16) ?_
          simp only [go_sem, Nat.reduceLT, Nat.reduceEqDiff, reduceCtorEq, Int.reduceLT, Int.reduceEq, hs]
          exact hQ _ _ h16 v16 (by rw [sealB_len, List.length_take]; omega) B16 (by simp only [slot_len, hs]) (by simp only [go_sem, Nat.reduceLT, Nat.reduceEqDiff, reduceCtorEq, Int.reduceLT, Int.reduceEq, h0]) (by simp only [go_sem, Nat.reduceLT, Nat.reduceEqDiff, reduceCtorEq, Int.reduceLT, Int.reduceEq, h2]) (by simp only [go_sem, Nat.reduceLT, Nat.reduceEqDiff, reduceCtorEq, Int.reduceLT, Int.reduceEq, hs])
      rw [X_eq f5_1.eq_1]
      by_cases c3 : (0 : Int) < ((k.toNat % 3 : Nat) : Int)
      · obtain ⟨p, hp, q1, q2, B2⟩ := B.put (j := at_.toNat) v (k := .u8) (by have := at_.toNat_lt; omega)
        simp only [go_sem, Nat.reduceLT, Nat.reduceEqDiff, reduceCtorEq, Int.reduceLT, Int.reduceEq, hs, h4, bin_rem z3, hk3, gt_iff_lt, c3, h2, h3, q1, q2]
        refine mid (pg.set at_.toNat v) _ hp y (by rw [List.length_set, hpl]) B2 (by simp only [slot_len, hs]) (by simp only [go_sem, Nat.reduceLT, Nat.reduceEqDiff, reduceCtorEq, Int.reduceLT, Int.reduceEq, h0]) (by simp only [go_sem, Nat.reduceLT, Nat.reduceEqDiff, reduceCtorEq, Int.reduceLT, Int.reduceEq, h2]) (by simp only [go_sem, Nat.reduceLT, Nat.reduceEqDiff, reduceCtorEq, Int.reduceLT, Int.reduceEq, h5]) (by simp only [go_sem, Nat.reduceLT, Nat.reduceEqDiff, reduceCtorEq, Int.reduceLT, Int.reduceEq, hs]) _ (fun pg s h y a1 a2 a3 a4 a5 a6 => ?_)
        rw [K_norm]
        exact fin pg s h y a1 a2 a3 a4 a5 a6
      · simp only [go_sem, Nat.reduceLT, Nat.reduceEqDiff, reduceCtorEq, Int.reduceLT, Int.reduceEq, hs, h4, bin_rem z3, hk3, gt_iff_lt, c3]
        refine mid pg _ h14 y hpl B (by simp only [slot_len, hs]) (by simp only [go_sem, Nat.reduceLT, Nat.reduceEqDiff, reduceCtorEq, Int.reduceLT, Int.reduceEq, h0]) (by simp only [go_sem, Nat.reduceLT, Nat.reduceEqDiff, reduceCtorEq, Int.reduceLT, Int.reduceEq, h2]) (by simp only [go_sem, Nat.reduceLT, Nat.reduceEqDiff, reduceCtorEq, Int.reduceLT, Int.reduceEq, h5]) (by simp only [go_sem, Nat.reduceLT, Nat.reduceEqDiff, reduceCtorEq, Int.reduceLT, Int.reduceEq, hs]) _ (fun pg s h y a1 a2 a3 a4 a5 a6 => ?_)
        rw [K_norm]
        exact fin pg s h y a1 a2 a3 a4 a5 a6
  obtain ⟨v, h', e1, rfl⟩ := this
  exact ⟨h', e1⟩
theorem reads_in {H : Type} {d0 d1 d2 d3 d4 d5 : DataW H} {u0 u1 u2 u3 u4 u5 : VV} (h0 : DV Proofs.Try.prog 22 d0 u0) (h1 : DV Proofs.Try.prog 22 d1 u1) (h2 : DV Proofs.Try.prog 5 d2 u2) (h3 : DV Proofs.Try.prog 5 d3 u3) (h4 : DV Proofs.Try.prog 5 d4 u4) (h5 : DV Proofs.Try.prog 4 d5 u5) :
    ∃ h', call F 5 [u0, u1, u2, u3, u4, u5] [] = some (.ret (vb true), h') := by
  obtain ⟨b, hb, _⟩ := DV_bytes (e := 5) (by kernel_rfl) (by kernel_rfl) (by kernel_rfl) h0
  obtain ⟨c, hc, _⟩ := DV_bytes (e := 5) (by kernel_rfl) (by kernel_rfl) (by kernel_rfl) h1
  obtain ⟨a, rfl⟩ := DV_u8 (by kernel_rfl) h2
  obtain ⟨v, rfl⟩ := DV_u8 (by kernel_rfl) h3
  obtain ⟨k, rfl⟩ := DV_u8 (by kernel_rfl) h4
  obtain ⟨t, rfl⟩ := DV_bool (by kernel_rfl) h5
  exact law_reads b u0 hb c u1 hc a v k t
end Go.V05

set_option linter.unusedSimpArgs false
set_option linter.unusedVariables false
namespace Go.V05
open Go Go.Vm

/-! ### PageSpoilt -/
theorem decode_short {b : List UInt8} {u : VV} (hu : SlV 1 (eB b) u) (hb : b.length < 256) : RetP F 12 [u] fun w => w = .tup [vi .i64 0, nilS, vi .u16 11] := by
  have : Ret F 12 [u] [] fun v h' => v = .tup [vi .i64 0, nilS, vi .u16 11] := by
    refine call_E (fn := f12) rfl ?_
    simp only [f12]
    generalize hs0 : ([u] ++ List.replicate _ VV.undef : List VV) = s
    have hs : s.length = 75 := by rw [← hs0]; rfl
    have h0 : s.getD 0 .undef = u := by rw [← hs0]; rfl
    clear hs0
    have c1 : ¬ (b.length : Int) = 256 := by omega
    simp only [go_sem, Nat.reduceLT, Nat.reduceEqDiff, reduceCtorEq, Int.reduceLT, Int.reduceEq, hs, h0, hu.ln, eB_len, eq_false c1]
  obtain ⟨v, h', e1, rfl⟩ := this
  exact ⟨_, h', e1, _, rfl, rfl⟩

theorem NB.some {h0 h : Heap} {b : List UInt8} {v : VV} (B : NB h0 h 1 (eB b) v) (hb : b ≠ []) : ∃ id g, h0.length ≤ id ∧ v = .own id g 0 b.length false ∧ h[id]? = some (.arr 1 (eB b) g false) := by
  rcases B.v with ⟨e, _⟩ | ⟨id, g, hid, e, a⟩
  · have := eB_len (l := b); rw [e] at this; exact absurd (List.eq_nil_of_length_eq_zero this.symm) hb
  · rw [eB_len] at e; exact ⟨id, g, hid, e, a⟩

theorem law_spoilt (c : List UInt8) (vc : VV) (hc : SlV 1 (eB c) vc) (at_ v : UInt8) (n : Nat) (hn : n < 65536) : ∃ h', call F 3 [vc, vi .u8 at_.toNat, vi .u8 v.toNat, vi .u16 n] [] = some (.ret (vb true), h') := by
  have : Ret F 3 [vc, vi .u8 at_.toNat, vi .u8 v.toNat, vi .u16 n] [] fun v h' => v = vb true := by
    refine call_E (fn := f3) rfl ?_
    simp only [f3]
    generalize hs0 : ([vc, vi .u8 at_.toNat, vi .u8 v.toNat, vi .u16 n] ++ List.replicate _ VV.undef : List VV) = s
    have hs : s.length = 81 := by rw [← hs0]; rfl
    have h0 : s.getD 0 .undef = vc := by rw [← hs0]; rfl
    have h1 : s.getD 1 .undef = vi .u8 at_.toNat := by rw [← hs0]; rfl
    have h2 : s.getD 2 .undef = vi .u8 v.toNat := by rw [← hs0]; rfl
    have h3 : s.getD 3 .undef = vi .u16 n := by rw [← hs0]; rfl
    clear hs0
    obtain ⟨h13, n13⟩ := known_f13
    obtain ⟨v9, h9, els, n9, r9, R⟩ := list_pure c vc hc 12 (by omega)
    have hS : SlV 2 els (slV 2 els) := slV_SlV
    have hln := rowL_len 12 c
    generalize hkv : rowL 12 c = kv at *
    generalize hu : slV 2 els = u9 at *
    have hl := R.len
    obtain ⟨h11, n11⟩ := fit_f11 hS R (by omega)
    have hf := fitF_le kv 0
    have htk := fitF_take kv 0
    generalize hm : fitF 0 kv = m at *
    obtain ⟨w, hw, hsl⟩ := hS.upto (h := []) (k := .i64) (b := (m : Int)) (by omega) (by omega)
    rw [Int.toNat_natCast] at hw
    have Rw := take_rows R m
    have hfa : fitF 0 (kv.take m) = (kv.take m).length := by rw [htk, List.length_take]; omega
    have hE : encF 0 (kv.take m) = some (pageB 0 (kv.take m)) := by
      unfold encF
      rw [if_neg (by omega)]; rfl
    obtain ⟨v10, h10, n10, P10⟩ := encode_f10 [] 0 hw Rw (by rw [List.length_take]; omega)
    rw [hE] at P10
    obtain ⟨y, rfl, B⟩ : ∃ w, v10 = .tup [w, vb true] ∧ NB [] h10 1 (eB (pageB 0 (kv.take m))) w := P10
    have hsum := (fitF_all _ 0 hfa (by omega)).1
    have hpr : (pageR 0 (kv.take m)).length = 252 := pageR_len (by omega)
    have hpl : (pageB 0 (kv.take m)).length = 256 := by unfold pageB; rw [sealB_len, hpr]
    have hdec := decF_page (level := 0) (l := kv.take m) (by omega) hfa
    have hoth : ∀ v : UInt8, (pageB 0 (kv.take m))[at_.toNat]? ≠ some v → rightB ((pageB 0 (kv.take m)).set at_.toNat v) = false := fun v hv => rightB_other (by rw [hpr]; have := at_.toNat_lt; omega) hv
    generalize pageB 0 (kv.take m) = pg at *
    have hat := at_.toNat_lt
    have hvl := v.toNat_lt
    obtain ⟨id, g, hid, rfl, a1⟩ := NB.some B (by intro e; rw [e] at hpl; cases hpl)
    rw [hpl] at B n10
    have hE1 : (eB pg).length = 256 := by rw [eB_len, hpl]
    -- was
    have hget : pg[at_.toNat]? = some pg[at_.toNat] := List.getElem?_eq_getElem (by omega)
    have ia1 := ia_bA (k := .u8) (ex := false) (n := 256) a1 (show at_.toNat < 256 by omega)
    have ld1 : ldO h10 false 1 (.eptr id g at_.toNat 0) = some (vi .u8 (pg[at_.toNat]).toNat, h10) := ld_eptr a1 (eB_get hget) rfl
    -- Decode of less
    have en : IntKind.i64.wrap (n : Int) = (n : Int) := IntWalk.i64_in _ (by omega)
    have z256 : (256 : Int) ≠ 0 := by decide
    have en2 : ((n : Int).tmod 256) = ((n % 256 : Nat) : Int) := rfl
    obtain ⟨ex', hsl1⟩ := sl_own_upto (len := 256) (b := n % 256) (ex := false) (k := .i64) a1 (by omega)
    have hcl1 := clos_pre (n := n % 256) (ex := ex') a1 (by omega)
    have et : (eB pg).take (n % 256) = eB (pg.take (n % 256)) := by unfold eB; rw [List.map_take]
    rw [et] at hcl1
    obtain ⟨v12, h12, n12, w12, r12, rfl⟩ := decode_short (b := pg.take (n % 256)) (u := .cv (.sl 1 (eB (pg.take (n % 256))) ex')) (.inr ⟨ex', rfl⟩) (by rw [List.length_take]; omega)
    -- the byte
    have st1 := st_bA (x := v) a1 (show at_.toNat < pg.length by omega)
    have a2 : (h10.set id (.arr 1 (eB (pg.set at_.toNat v)) g false))[id]? = some (.arr 1 (eB (pg.set at_.toNat v)) g false) := List.getElem?_set_self (lt_at a1)
    generalize h10.set id (.arr 1 (eB (pg.set at_.toNat v)) g false) = hB at st1 a2
    have hE2 : (eB (pg.set at_.toNat v)).length = 256 := by rw [eB_len, List.length_set, hpl]
    have hcl2 := clos_pre (n := 256) (ex := false) a2 (by omega)
    rw [List.take_of_length_le (by omega)] at hcl2
    obtain ⟨v12', h12', n12', w12', r12', els', x', rfl, hx', R'⟩ := decode_f12 (b := pg.set at_.toNat v) (u := .cv (.sl 1 (eB (pg.set at_.toNat v)) false)) (.inr ⟨false, rfl⟩) (by rw [List.length_set]; omega)
    have he : (decF (pg.set at_.toNat v)).2.2 = (if v = pg[at_.toNat] then 0 else 12) := by
      by_cases hv : v = pg[at_.toNat]
      · rw [if_pos hv, hv, List.set_getElem_self, hdec]
      · rw [if_neg hv]
        unfold decF
        rw [if_neg (by rw [List.length_set, hpl]; simp), if_pos (hoth v (by rw [hget]; intro e; exact hv (Option.some.inj e).symm))]
    generalize (decF (pg.set at_.toNat v)).2.2 = e at he n12' r12'
    generalize (decF (pg.set at_.toNat v)).1 = nn at n12' r12'
    have hvv : (v = pg[at_.toNat]) ↔ ((v.toNat : Int) = ((pg[at_.toNat]).toNat : Int)) := by
      rw [← UInt8.toNat_inj]; omega
    simp only [go_sem, Nat.reduceLT, Nat.reduceEqDiff, reduceCtorEq, Int.reduceLT, Int.reduceEq, hs, h0]
    refine XO_callP (h1 := []) (by simp only [List.map, go_sem, Nat.reduceLT, Nat.reduceEqDiff, reduceCtorEq, Int.reduceLT, Int.reduceEq, hs]; exact hc.clos rfl) n9 r9 ?_
    simp only [go_sem, Nat.reduceLT, Nat.reduceEqDiff, reduceCtorEq, Int.reduceLT, Int.reduceEq, hs]
    refine XO_callP (h1 := []) (by simp only [List.map, go_sem, Nat.reduceLT, Nat.reduceEqDiff, reduceCtorEq, Int.reduceLT, Int.reduceEq, hs]; exact hS.clos rfl) n11 rfl ?_
    simp only [go_sem, Nat.reduceLT, Nat.reduceEqDiff, reduceCtorEq, Int.reduceLT, Int.reduceEq, hs, hsl]
    refine XO_callR (by simp only [List.map, go_sem, Nat.reduceLT, Nat.reduceEqDiff, reduceCtorEq, Int.reduceLT, Int.reduceEq, hs]; exact n10) ?_
    simp only [go_sem, Nat.reduceLT, Nat.reduceEqDiff, reduceCtorEq, Int.reduceLT, Int.reduceEq, hs]
    rw [X_eq f3_0.eq_1]
    have l256 : lnO false (.own id g 0 256 false) = some (vi .i64 256) := rfl
    have nn256 : binO .neq (vi .i64 256) (vi .i64 256) = some (vb false) := by simp [binO, binV]
    simp only [go_sem, Nat.reduceLT, Nat.reduceEqDiff, reduceCtorEq, Int.reduceLT, Int.reduceEq, hs, l256, nn256, h1, ia1, ld1, h3, en, bin_rem z256, en2, hsl1]
    refine XO_callS (by simp only [List.map, go_sem, Nat.reduceLT, Nat.reduceEqDiff, reduceCtorEq, Int.reduceLT, Int.reduceEq, hs]; simp only [closAs, hcl1]; rfl) n12 r12 rfl ?_
    simp only [go_sem, Nat.reduceLT, Nat.reduceEqDiff, reduceCtorEq, Int.reduceLT, Int.reduceEq, hs, h1, h2, ia1, st1]
    have tail : ∀ (h3 : Heap) (s : List VV), s.length = 81 → s.getD 2 .undef = vi .u8 v.toNat → s.getD 12 .undef = vi .u8 (pg[at_.toNat]).toNat → s.getD 15 .undef = vi .u16 11 → s.getD 56 .undef = .tup [vi .i64 nn, x', vi .u16 e] →
        XO F [⟨none, (some 54), (.mv (.t 56))⟩,
  ⟨none, (some 57), (.ext (.t 54) 0)⟩,
  ⟨none, (some 58), (.ext (.t 54) 1)⟩,
  ⟨none, (some 59), (.ext (.t 54) 2)⟩,
  ⟨none, (some 16), (.mv (.t 57))⟩,
  ⟨none, (some 17), (.mv (.t 58))⟩,
  ⟨none, (some 18), (.mv (.t 59))⟩] ⟨s, h3⟩ (K F (.seq (.reg [
  ⟨none, (some 60), (.call 13 true [])⟩,
  ⟨none, (some 61), (.mv (.t 60))⟩,
  ⟨(some (61, true)), (some 62), (.mv (.t 18))⟩,
  ⟨(some (61, true)), (some 63), (.bin .eql (.t 62) (.c (.cv (.sc (.int .u16 0)))))⟩,
  ⟨(some (61, true)), (some 64), (.mv (.t 2))⟩,
  ⟨(some (61, true)), (some 65), (.mv (.t 12))⟩,
  ⟨(some (61, true)), (some 66), (.bin .eql (.t 64) (.t 65))⟩,
  ⟨(some (61, true)), (some 67), (.eqb false (.t 63) (.t 66))⟩,
  ⟨none, (some 68), (.pick (.t 61) (.t 67) (.c (.cv (.sc (.bool false)))))⟩,
  ⟨none, (some 69), (.mv (.t 68))⟩,
  ⟨(some (69, true)), (some 70), (.mv (.t 18))⟩,
  ⟨(some (69, true)), (some 71), (.bin .eql (.t 70) (.c (.cv (.sc (.int .u16 0)))))⟩,
  ⟨(some (69, true)), (some 72), (.mv (.t 71))⟩,
  ⟨(some (72, false)), (some 73), (.mv (.t 18))⟩,
  ⟨(some (72, false)), (some 74), (.bin .eql (.t 73) (.c (.cv (.sc (.int .u16 12)))))⟩,
  ⟨(some (69, true)), (some 75), (.pick (.t 72) (.c (.cv (.sc (.bool true)))) (.t 74))⟩,
  ⟨none, (some 76), (.pick (.t 69) (.t 75) (.c (.cv (.sc (.bool false)))))⟩,
  ⟨none, (some 77), (.mv (.t 76))⟩,
  ⟨(some (77, true)), (some 78), (.mv (.t 15))⟩,
  ⟨(some (77, true)), (some 79), (.bin .eql (.t 78) (.c (.cv (.sc (.int .u16 11)))))⟩,
  ⟨none, (some 80), (.pick (.t 77) (.t 79) (.c (.cv (.sc (.bool false)))))⟩,
  ⟨none, (some 8), (.mv (.t 80))⟩])
  .ret) (RQ [.t 8] fun v h' => v = vb true)) := by
      intro h3 s hs h2 h12 h15 h56
      simp only [go_sem, Nat.reduceLT, Nat.reduceEqDiff, reduceCtorEq, Int.reduceLT, Int.reduceEq, hs, h56]
      refine XO_callP (h1 := h3) (by simp only [List.map]; rfl) n13 rfl ?_
      by_cases hv : v = pg[at_.toNat]
      · rw [if_pos hv] at he
        have hv2 := hvv.1 hv
        subst he
        simp only [go_sem, Nat.reduceLT, Nat.reduceEqDiff, reduceCtorEq, Int.reduceLT, Int.reduceEq, hs, h2, h12, h15, eq_true hv2, Int.ofNat_zero, eqb_eq, beq_self_eq_true]
      · rw [if_neg hv] at he
        have hv2 : ¬ ((v.toNat : Int) = ((pg[at_.toNat]).toNat : Int)) := fun e => hv (hvv.2 e)
        subst he
        have e12 : ((12 : Nat) : Int) = 12 := rfl
        simp only [go_sem, Nat.reduceLT, Nat.reduceEqDiff, reduceCtorEq, Int.reduceLT, Int.reduceEq, hs, h2, h12, h15, eq_false hv2, e12, eqb_eq, beq_self_eq_true]
    cases hsc : scalV (.tup [vi .i64 nn, x', vi .u16 e]) with
    | true =>
      refine XO_callS (by simp only [List.map, go_sem, Nat.reduceLT, Nat.reduceEqDiff, reduceCtorEq, Int.reduceLT, Int.reduceEq, hs]; simp only [closAs, hcl2]; rfl) n12' r12' hsc ?_
      simp only [putD_some]
      exact tail _ _ (by simp only [slot_len, hs]) (by simp only [go_sem, Nat.reduceLT, Nat.reduceEqDiff, reduceCtorEq, Int.reduceLT, Int.reduceEq, h2]) (by simp only [go_sem, Nat.reduceLT, Nat.reduceEqDiff, reduceCtorEq, Int.reduceLT, Int.reduceEq, hs]) (by simp only [go_sem, Nat.reduceLT, Nat.reduceEqDiff, reduceCtorEq, Int.reduceLT, Int.reduceEq, hs]) (by simp only [go_sem, Nat.reduceLT, Nat.reduceEqDiff, reduceCtorEq, Int.reduceLT, Int.reduceEq, hs])
    | false =>
      refine XO_callSP (by simp only [List.map, go_sem, Nat.reduceLT, Nat.reduceEqDiff, reduceCtorEq, Int.reduceLT, Int.reduceEq, hs]; simp only [closAs, hcl2]; rfl) n12' r12' hsc ?_
      simp only [putD_some]
      exact tail _ _ (by simp only [slot_len, hs]) (by simp only [go_sem, Nat.reduceLT, Nat.reduceEqDiff, reduceCtorEq, Int.reduceLT, Int.reduceEq, h2]) (by simp only [go_sem, Nat.reduceLT, Nat.reduceEqDiff, reduceCtorEq, Int.reduceLT, Int.reduceEq, hs]) (by simp only [go_sem, Nat.reduceLT, Nat.reduceEqDiff, reduceCtorEq, Int.reduceLT, Int.reduceEq, hs]) (by simp only [go_sem, Nat.reduceLT, Nat.reduceEqDiff, reduceCtorEq, Int.reduceLT, Int.reduceEq, hs])
  obtain ⟨v, h', e1, rfl⟩ := this
  exact ⟨h', e1⟩
theorem spoilt_in {H : Type} {d0 d1 d2 d3 : DataW H} {u0 u1 u2 u3 : VV} (h0 : DV Proofs.Try.prog 22 d0 u0) (h1 : DV Proofs.Try.prog 5 d1 u1) (h2 : DV Proofs.Try.prog 5 d2 u2) (h3 : DV Proofs.Try.prog 23 d3 u3) : ∃ h', call F 3 [u0, u1, u2, u3] [] = some (.ret (vb true), h') := by
  obtain ⟨c, hc, _⟩ := DV_bytes (e := 5) (by kernel_rfl) (by kernel_rfl) (by kernel_rfl) h0
  obtain ⟨a, rfl⟩ := DV_u8 (by kernel_rfl) h1
  obtain ⟨v, rfl⟩ := DV_u8 (by kernel_rfl) h2
  obtain ⟨n, rfl, hn⟩ := DV_u16 (by kernel_rfl) h3
  exact law_spoilt c u0 hc a v n hn
end Go.V05

set_option linter.unusedSimpArgs false
set_option linter.unusedVariables false
namespace Go.V05
open Go Go.Vm

/-! ### PageRoom -/
theorem fit_rep (p : KV) (h1 : p.1.length ≤ 30) (h2 : p.2.length ≤ 150) (c : Nat) (hc : 1 + (rowB p).length = c) : ∀ (r n : Nat), n ≤ 250 → fitF n (List.replicate r p) = min r ((250 - n) / c)
  | 0, n, _ => by simp [fitF]
  | r + 1, n, hn => by
    have hc0 : 0 < c := by omega
    rw [List.replicate_succ]
    simp only [fitF]
    rw [if_neg (by omega), hc]
    by_cases h : 250 < n + c
    · rw [if_pos h, Nat.div_eq_of_lt (by omega)]; omega
    · rw [if_neg h, fit_rep p h1 h2 c hc r (n + c) (by omega)]
      have : (250 - n) / c = (250 - (n + c)) / c + 1 := by
        rw [Nat.div_eq_sub_div hc0 (by omega)]
        congr 2; omega
      omega

theorem mk_own2 {h h1 : Heap} {z0 z1 : VV} {u : CV} {v : VV} {c : CV} (hc : isCell v = true) (hcl : clos h v = some (c, h1)) : mkO h 2 1 [z0, z1] [(0, 2, .agg [.cv u, v])] = some (.cv (.sl 2 [[u, c]] true), h1) := by
  have e : fill [z0, z1] [(0, 2, VV.agg [.cv u, v])] = some [.cv u, v] := rfl
  have e2 : clos h (.cv u) = some (u, h) := rfl
  simp only [mkO, e, closL, e2, hcl]
  rfl

theorem f4_loop {n : UInt8} {m : Nat} (hm : n.toNat % 100 = m) : ∀ (r k : Nat) (els : List (List CV)) (v : VV) (s : List VV) (h : Heap) (Q : Pst), k + r = 90 → NB [] h 2 els v → RowsE els (List.replicate k ([107], List.replicate m 0)) → s.length = 48 → s.getD 0 .undef = vi .u8 n.toNat → s.getD 5 .undef = v → s.getD 6 .undef = vi .i64 k →
    (∀ s' h' els' v', s'.length = 48 → s'.getD 0 .undef = s.getD 0 .undef → s'.getD 1 .undef = s.getD 1 .undef → s'.getD 5 .undef = v' → NB [] h' 2 els' v' → RowsE els' (List.replicate 90 ([107], List.replicate m 0)) → Q (.exit 0) ⟨s', h'⟩) → X F (.loop f4_0) ⟨s, h⟩ Q := by
  have z100 : (100 : Int) ≠ 0 := by decide
  have e100 : IntKind.i64.wrap ((n.toNat : Int).tmod 100) = ((m : Nat) : Int) := by
    have e : (n.toNat : Int).tmod 100 = ((n.toNat % 100 : Nat) : Int) := rfl
    rw [e, hm]; exact IntWalk.i64_in _ (by omega)
  intro r
  induction r with
  | zero =>
    intro k els v s h Q hk hB hR hs h0 h5 h6 hE
    rw [X_loop, X_eq f4_0.eq_1]
    have c : ¬ (k : Int) < 90 := by omega
    simp only [go_sem, Nat.reduceLT, Nat.reduceEqDiff, reduceCtorEq, Int.reduceLT, Int.reduceEq, hs, h6, c]
    have : k = 90 := by omega
    subst this
    exact hE _ _ els v (by simp only [slot_len, hs]) (by simp only [go_sem, Nat.reduceLT, Nat.reduceEqDiff, reduceCtorEq, Int.reduceLT, Int.reduceEq]) (by simp only [go_sem, Nat.reduceLT, Nat.reduceEqDiff, reduceCtorEq, Int.reduceLT, Int.reduceEq]) (by simp only [go_sem, Nat.reduceLT, Nat.reduceEqDiff, reduceCtorEq, Int.reduceLT, Int.reduceEq, h5]) hB hR
  | succ r ih =>
    intro k els v s h Q hk hB hR hs h0 h5 h6 hE
    rw [X_loop, X_eq f4_0.eq_1]
    have c : (k : Int) < 90 := by omega
    have hw : IntKind.i64.wrap ((k : Int) + 1) = ((k + 1 : Nat) : Int) := by rw [IntWalk.i64_in _ (by omega)]; omega
    have hl := hR.len
    rw [List.length_replicate] at hl
    have hmk : ∀ (s : List VV), evalO s (.t 16) = vi .i64 m → stepI h (evalO s) (.mks 1 1 [(.sc (.int .u8 0))] (.t 16) (.t 16) true) = some (.own h.length 0 0 m true, h ++ [.arr 1 (eB (List.replicate m 0)) 0 false]) := by
      intro s hx
      have hmx : maxBytes = 35184372088832 := rfl
      have er : List.replicate m [CV.sc (.int .u8 0)] = eB (List.replicate m 0) := by unfold eB; rw [List.map_replicate]; rfl
      simp only [stepI, hx, intV, hmx]
      rw [if_pos ⟨by omega, by omega, by omega, by omega⟩]
      simp only [if_true, Int.toNat_natCast, er, decide_true]
    simp only [go_sem, Nat.reduceLT, Nat.reduceEqDiff, reduceCtorEq, Int.reduceLT, Int.reduceEq, hs, h0, h5, h6, bin_rem z100, e100, c]
    rw [XO_ins rfl, hmk _ (by simp only [go_sem, Nat.reduceLT, Nat.reduceEqDiff, reduceCtorEq, Int.reduceLT, Int.reduceEq, hs]), XV_some]
    have a1 : (h ++ [VO.arr 1 (eB (List.replicate m 0)) 0 false])[h.length]? = some (.arr 1 (eB (List.replicate m 0)) 0 false) := at_last
    have hcl : clos (h ++ [VO.arr 1 (eB (List.replicate m 0)) 0 false]) (.own h.length 0 0 m true) = some (.sl 1 (eB (List.replicate m 0)) true, h ++ [VO.arr 1 (eB (List.replicate m 0)) 0 true]) := by
      have el : (eB (List.replicate m (0 : UInt8))).length = m := by rw [eB_len, List.length_replicate]
      have et : (eB (List.replicate m (0 : UInt8))).take m = eB (List.replicate m 0) := List.take_of_length_le (by omega)
      simp [Go.Vm.clos, el, et]
    have hmo := fun z0 z1 => mk_own2 (z0 := z0) (z1 := z1) (u := .sc (.string ⟨#[107]⟩)) rfl hcl
    have b1 : bdO [.cv (.sc (.string ⟨#[]⟩)), nilS] [(0, 1, .cv (.sc (.string ⟨#[107]⟩))), (1, 1, .own h.length 0 0 m true)] = some (.agg [.cv (.sc (.string ⟨#[107]⟩)), .own h.length 0 0 m true]) := rfl
    have b2 : bdO [.cv (.sc (.string ⟨#[]⟩)), .cv (.sc (.slice none 0 0))] [(0, 1, .cv (.sc (.string ⟨#[107]⟩))), (1, 1, .own h.length 0 0 m true)] = some (.agg [.cv (.sc (.string ⟨#[107]⟩)), .own h.length 0 0 m true]) := rfl
    simp only [go_sem, Nat.reduceLT, Nat.reduceEqDiff, reduceCtorEq, Int.reduceLT, Int.reduceEq, hs, b2, hmo]
    refine XO_appNB (hB.then (HExt.push h _)) (new := [[.sc (.string ⟨#[107]⟩), .sl 1 (eB (List.replicate m 0)) true]]) (by simp only [go_sem, Nat.reduceLT, Nat.reduceEqDiff, reduceCtorEq, Int.reduceLT, Int.reduceEq, hs, h5]) (by simp only [go_sem, Nat.reduceLT, Nat.reduceEqDiff, reduceCtorEq, Int.reduceLT, Int.reduceEq, hs]) (by simp only [List.length_singleton]; omega) (by simp only [List.length_singleton]; omega) (fun v' h' B' _ _ _ => ?_)
    simp only [go_sem, Nat.reduceLT, Nat.reduceEqDiff, reduceCtorEq, Int.reduceLT, Int.reduceEq, hs, h6, hw]
    refine ih (k + 1) _ v' _ h' Q (by omega) B' ?_ (by simp only [slot_len, hs]) (by simp only [go_sem, Nat.reduceLT, Nat.reduceEqDiff, reduceCtorEq, Int.reduceLT, Int.reduceEq, h0]) (by simp only [go_sem, Nat.reduceLT, Nat.reduceEqDiff, reduceCtorEq, Int.reduceLT, Int.reduceEq, hs]) (by simp only [go_sem, Nat.reduceLT, Nat.reduceEqDiff, reduceCtorEq, Int.reduceLT, Int.reduceEq, hs]) (fun s' h' els' v' a1 a2 a2' a3 a4 a5 => hE s' h' els' v' a1 (by rw [a2]; simp only [go_sem, Nat.reduceLT, Nat.reduceEqDiff, reduceCtorEq, Int.reduceLT, Int.reduceEq]) (by rw [a2']; simp only [go_sem, Nat.reduceLT, Nat.reduceEqDiff, reduceCtorEq, Int.reduceLT, Int.reduceEq]) a3 a4 a5)
    rw [List.replicate_succ']
    exact hR.snoc ⟨.sl 1 (eB (List.replicate m 0)) true, rfl, .inr ⟨true, rfl⟩⟩

theorem law_room (n : UInt8) (level : Int) : ∃ h', call F 4 [vi .u8 n.toNat, vi .i64 level] [] = some (.ret (vb true), h') := by
  have : Ret F 4 [vi .u8 n.toNat, vi .i64 level] [] fun v h' => v = vb true := by
    refine call_E (fn := f4) rfl ?_
    simp only [f4]
    generalize hs0 : ([vi .u8 n.toNat, vi .i64 level] ++ List.replicate _ VV.undef : List VV) = s
    have hs : s.length = 48 := by rw [← hs0]; rfl
    have h0 : s.getD 0 .undef = vi .u8 n.toNat := by rw [← hs0]; rfl
    have h1 : s.getD 1 .undef = vi .i64 level := by rw [← hs0]; rfl
    clear hs0
    obtain ⟨h13, n13⟩ := known_f13
    have hnil : SlV 2 [] nilS := .inl ⟨rfl, rfl⟩
    obtain ⟨v10, h10, n10, P10⟩ := encode_f10 [] level hnil RowsE.nil (by simp)
    obtain ⟨y, r10, hy⟩ := P10.pure
    generalize hm : n.toNat % 100 = m
    have hm100 : m < 100 := by omega
    have z100 : (100 : Int) ≠ 0 := by decide
    have e100 : IntKind.i64.wrap ((n.toNat : Int).tmod 100) = ((m : Nat) : Int) := by
      have e : (n.toNat : Int).tmod 100 = ((n.toNat % 100 : Nat) : Int) := rfl
      rw [e, hm]; exact IntWalk.i64_in _ (by omega)
    have e4 : IntKind.i64.wrap (4 + (m : Int)) = ((4 + m : Nat) : Int) := by rw [IntWalk.i64_in _ (by omega)]; omega
    have z4 : ((4 + m : Nat) : Int) ≠ 0 := by omega
    have hq : (250 / (4 + m) : Nat) ≤ 250 := Nat.div_le_self _ _
    have eq : IntKind.i64.wrap ((250 : Int).tdiv ((4 + m : Nat) : Int)) = ((250 / (4 + m) : Nat) : Int) := by
      have : (250 : Int).tdiv ((4 + m : Nat) : Int) = ((250 / (4 + m) : Nat) : Int) := rfl
      rw [this]
      generalize 250 / (4 + m) = q at hq
      exact IntWalk.i64_in _ (by omega)
    have hcost : 1 + (rowB ([107], List.replicate m 0)).length = 4 + m := by
      have hnum : ∀ k : Nat, k < 128 → (num (clamp (k : Int))).length = 1 := by
        intro k hk
        have : clamp (k : Int) = k := by unfold clamp; omega
        rw [this]
        unfold num
        simp only [numF]
        rw [if_neg (by omega)]; rfl
      have h1 := hnum 1 (by omega)
      have h2 := hnum m (by omega)
      unfold rowB text
      simp only [List.length_append, List.length_replicate, List.length_singleton]
      have : clamp ((1 : Nat) : Int) = clamp 1 := rfl
      omega
    have hfit : fitF 0 (List.replicate 90 (([107], List.replicate m 0) : KV)) = min 90 (250 / (4 + m)) := by
      rw [fit_rep ([107], List.replicate m 0) (by simp) (by simp; omega) (4 + m) hcost 90 0 (by omega)]
    simp only [go_sem, Nat.reduceLT, Nat.reduceEqDiff, reduceCtorEq, Int.reduceLT, Int.reduceEq, hs]
    refine f4_loop hm 90 0 [] nilS _ _ _ (by omega) (NB.nil _ _) RowsE.nil (by simp only [slot_len, hs]) (by simp only [go_sem, Nat.reduceLT, Nat.reduceEqDiff, reduceCtorEq, Int.reduceLT, Int.reduceEq, h0]) (by simp only [go_sem, Nat.reduceLT, Nat.reduceEqDiff, reduceCtorEq, Int.reduceLT, Int.reduceEq, hs]) (by simp only [go_sem, Nat.reduceLT, Nat.reduceEqDiff, reduceCtorEq, Int.reduceLT, Int.reduceEq, hs]; rfl) (fun s' h' els v a1 a0 a2 a5 B R => ?_)
    have a0' : s'.getD 0 .undef = vi .u8 n.toNat := by rw [a0]; simp only [go_sem, Nat.reduceLT, Nat.reduceEqDiff, reduceCtorEq, Int.reduceLT, Int.reduceEq, h0]
    have a2' : s'.getD 1 .undef = vi .i64 level := by rw [a2]; simp only [go_sem, Nat.reduceLT, Nat.reduceEqDiff, reduceCtorEq, Int.reduceLT, Int.reduceEq, h1]
    simp only [go_sem, Nat.reduceLT, Nat.reduceEqDiff, reduceCtorEq, Int.reduceLT, Int.reduceEq, a1, a2']
    refine XO_callP (h1 := h') (by simp only [List.map, go_sem, Nat.reduceLT, Nat.reduceEqDiff, reduceCtorEq, Int.reduceLT, Int.reduceEq, a1]; rfl) n10 r10 ?_
    simp only [go_sem, Nat.reduceLT, Nat.reduceEqDiff, reduceCtorEq, Int.reduceLT, Int.reduceEq, a1]
    refine X_draw rfl ?_
    refine XD_callP (by simp only [List.map]; rfl) n13 rfl ?_
    obtain ⟨w, g, w1, w2, w3⟩ := B.nf.clos
    obtain ⟨h11, n11⟩ := fit_f11 w2 R (by rw [List.length_replicate]; omega)
    rw [hfit] at n11
    simp only [go_sem, Nat.reduceLT, Nat.reduceEqDiff, reduceCtorEq, Int.reduceLT, Int.reduceEq, a1, a5]
    refine XD_callS (by simp only [List.map, go_sem, Nat.reduceLT, Nat.reduceEqDiff, reduceCtorEq, Int.reduceLT, Int.reduceEq, a1]; exact closAs_cons w1 rfl) n11 rfl rfl ?_
    have emin : min (90 : Int) ((250 / (4 + m) : Nat) : Int) = ((min 90 (250 / (4 + m)) : Nat) : Int) := by omega
    simp only [go_sem, Nat.reduceLT, Nat.reduceEqDiff, reduceCtorEq, Int.reduceLT, Int.reduceEq, a1, a0', a2', bin_rem z100, e100, e4, bin_quo z4, eq, emin]
    have ee : ∀ (n : Int), binO .eql (vi .i64 n) (vi .i64 n) = some (vb true) := fun n => by simp [binO, binV]
    have hok : (encF level []).isSome = (decide (0 ≤ level) && decide (level ≤ 4)) := by
      unfold encF
      by_cases c1 : level < 0
      · rw [if_pos (.inl c1)]; simp; omega
      · by_cases c2 : 4 < level
        · rw [if_pos (.inr (.inl c2))]; simp; omega
        · rw [if_neg (by simp [fitF]; omega)]; simp; omega
    rw [hok]
    by_cases c1 : level < 0
    · have d1 : ¬ 0 ≤ level := by omega
      simp only [go_sem, Nat.reduceLT, Nat.reduceEqDiff, reduceCtorEq, Int.reduceLT, Int.reduceEq, a1, a0', a2', ee, d1, ge_iff_le, Bool.false_and, beq_self_eq_true]
    · have d1 : 0 ≤ level := by omega
      by_cases c2 : level ≤ 4
      · simp only [go_sem, Nat.reduceLT, Nat.reduceEqDiff, reduceCtorEq, Int.reduceLT, Int.reduceEq, a1, a0', a2', ee, d1, c2, ge_iff_le, Bool.and_self, beq_self_eq_true]
      · simp only [go_sem, Nat.reduceLT, Nat.reduceEqDiff, reduceCtorEq, Int.reduceLT, Int.reduceEq, a1, a0', a2', ee, d1, c2, ge_iff_le, Bool.and_false, beq_self_eq_true]
  obtain ⟨v, h', e1, rfl⟩ := this
  exact ⟨h', e1⟩
theorem room_in {H : Type} {d0 d1 : DataW H} {u0 u1 : VV} (h0 : DV Proofs.Try.prog 5 d0 u0) (h1 : DV Proofs.Try.prog 3 d1 u1) : ∃ h', call F 4 [u0, u1] [] = some (.ret (vb true), h') := by
  obtain ⟨n, rfl⟩ := DV_u8 (by kernel_rfl) h0
  obtain ⟨l, rfl, _⟩ := DV_i64 (by kernel_rfl) h1
  exact law_room n l
end Go.V05
