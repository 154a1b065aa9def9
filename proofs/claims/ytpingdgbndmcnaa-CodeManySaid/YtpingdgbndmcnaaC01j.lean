/- Part of a proof: of what it says, and when, each theorem tells itself. -/
import Derived.Test.YtpingdgbndmcnaaC01i
set_option linter.unusedSimpArgs false
namespace Go.V01
open Go Go.Vm

/-! ### rows of choices -/

def rowK (x : UInt8) : List UInt8 := [u8 (97 + x.toNat % 16), u8 (97 + x.toNat / 16 % 4)]
def valF (y : UInt8) (n : Nat) : List UInt8 := (List.range n).map fun j => u8 ((y.toNat + j) % 256)
def rowV (x y : UInt8) : List UInt8 := valF y (if 230 < x.toNat then 100 + y.toNat % 50 else y.toNat % 40)
def rowL : Nat → List UInt8 → List (List UInt8 × List UInt8)
  | n + 1, x :: y :: r => (rowK x, rowV x y) :: rowL n r
  | _, _ => []

theorem valF_len (y : UInt8) (n : Nat) : (valF y n).length = n := by simp [valF]
theorem rowV_len (x y : UInt8) : (rowV x y).length ≤ 149 := by
  unfold rowV
  rw [valF_len]
  split <;> omega
theorem rowL_len : ∀ n c, (rowL n c).length ≤ n
  | 0, _ => by simp [rowL]
  | n + 1, [] => by simp [rowL]
  | n + 1, [_] => by simp [rowL]
  | n + 1, x :: y :: r => by simp only [rowL, List.length_cons]; have := rowL_len n r; omega

theorem wrap_u8_nat (n : Nat) : IntKind.u8.wrap (n : Int) = ((n % 256 : Nat) : Int) := by
  rw [IntKind.wrap_u8]; omega

theorem f17_fill (c : List UInt8) (vc : VV) (hc : SlV 1 (eB c) vc) (i : Nat) (y : UInt8) (hy : c[i + 1]? = some y) (hi : i ≤ 100) (h0 : Heap) : ∀ (d k : Nat) (vl : List UInt8) (s : List VV) (Q : Pst),
    vl.length = k + d → vl.length ≤ 200 → (∀ j, j < k → vl[j]? = some (u8 ((y.toNat + j) % 256))) → s.length = 82 → s.getD 0 .undef = vc → s.getD 6 .undef = vi .i64 i → s.getD 7 .undef = .own h0.length 0 0 vl.length true → s.getD 8 .undef = vi .i64 k →
    (∀ s', s'.length = 82 → (∀ j, j < 8 → s'.getD j .undef = s.getD j .undef) → Q (.exit 2) ⟨s', h0 ++ [.arr 1 (eB (valF y vl.length)) 0 false]⟩) →
    X F (.loop f17_0) ⟨s, h0 ++ [.arr 1 (eB vl) 0 false]⟩ Q := by
  intro d
  induction d with
  | zero =>
    intro k vl s Q hl hl2 hv hs h_0 h6 h7 h8 hQ
    rw [X_loop, X_eq f17_0.eq_1]
    have hlt : ¬ (k : Int) < (vl.length : Int) := by omega
    simp only [go_sem, Nat.reduceLT, Nat.reduceEqDiff, reduceCtorEq, Int.reduceLT, Int.reduceEq, hs, h7, h8, hlt]
    have e : vl = valF y vl.length := by
      apply List.ext_getElem?
      intro j
      by_cases hj : j < k
      · rw [hv j hj]
        unfold valF
        rw [List.getElem?_map, List.getElem?_range (by omega)]
        rfl
      · rw [List.getElem?_eq_none (by omega), List.getElem?_eq_none (by rw [valF_len]; omega)]
    rw [← e] at hQ
    refine hQ _ (by simp only [slot_len, hs]) (fun j hj => ?_)
    have : ∀ m, 8 ≤ m → m ≠ j := by omega
    rw [slot_ne (this _ (by decide)), slot_ne (this _ (by decide)), slot_ne (this _ (by decide)), slot_ne (this _ (by decide))]
  | succ d ih =>
    intro k vl s Q hl hl2 hv hs h_0 h6 h7 h8 hQ
    rw [X_loop, X_eq f17_0.eq_1]
    have hlt : (k : Int) < (vl.length : Int) := by omega
    have e1 : IntKind.i64.wrap ((i : Int) + 1) = ((i + 1 : Nat) : Int) := by rw [IntWalk.i64_in _ (by omega)]; omega
    have e2 : IntKind.i64.wrap ((k : Int) + 1) = ((k + 1 : Nat) : Int) := by rw [IntWalk.i64_in _ (by omega)]; omega
    simp only [go_sem, Nat.reduceLT, Nat.reduceEqDiff, reduceCtorEq, Int.reduceLT, Int.reduceEq, hs, h_0, h6, h7, h8, hlt, e1, e2]
    rw [hc.ia (e := byteCell y) (by omega) (by exact eB_get hy)]
    have e3 : IntKind.u8.wrap ((y.toNat : Int) + IntKind.u8.wrap (k : Int)) = (((u8 ((y.toNat + k) % 256)).toNat : Nat) : Int) := by
      rw [u8_toNat _ (by omega), wrap_u8_nat, ← Int.natCast_add, wrap_u8_nat]; omega
    simp only [go_sem, Nat.reduceLT, Nat.reduceEqDiff, reduceCtorEq, Int.reduceLT, Int.reduceEq, hs, h_0, h6, h7, h8, byteCell, e3]
    rw [ia_last (by omega)]
    simp only [go_sem, Nat.reduceLT, Nat.reduceEqDiff, reduceCtorEq, Int.reduceLT, Int.reduceEq, hs, h_0, h6, h7, h8, byteCell, e3]
    rw [st_last (by omega)]
    simp only [go_sem, Nat.reduceLT, Nat.reduceEqDiff, reduceCtorEq, Int.reduceLT, Int.reduceEq, hs, h_0, h6, h7, h8, e2]
    have hl3 : (vl.set k (u8 ((y.toNat + k) % 256))).length = vl.length := List.length_set
    rw [← hl3] at hQ
    refine ih (k + 1) _ _ Q (by rw [hl3]; omega) (by rw [hl3]; omega) ?_ (by simp only [slot_len, hs]) (by simp only [go_sem, Nat.reduceLT, Nat.reduceEqDiff, reduceCtorEq, Int.reduceLT, Int.reduceEq, h_0]) (by simp only [go_sem, Nat.reduceLT, Nat.reduceEqDiff, reduceCtorEq, Int.reduceLT, Int.reduceEq, h6]) (by simp only [go_sem, Nat.reduceLT, Nat.reduceEqDiff, reduceCtorEq, Int.reduceLT, Int.reduceEq, h7, hl3]) (by simp only [go_sem, Nat.reduceLT, Nat.reduceEqDiff, reduceCtorEq, Int.reduceLT, Int.reduceEq, hs]) ?_
    · intro j hj
      by_cases hjk : j = k
      · subst hjk
        rw [List.getElem?_set_self (by omega)]
      · rw [List.getElem?_set_ne (by omega)]
        exact hv j (by omega)
    · intro s' hs' hj'
      refine hQ s' hs' (fun j hj => ?_)
      rw [hj' j hj]
      have : ∀ m, 8 ≤ m → m ≠ j := by omega
      simp only [slot_ne (this _ (by decide : 8 ≤ 44)), slot_ne (this _ (by decide : 8 ≤ 45)), slot_ne (this _ (by decide : 8 ≤ 46)), slot_ne (this _ (by decide : 8 ≤ 47)), slot_ne (this _ (by decide : 8 ≤ 48)), slot_ne (this _ (by decide : 8 ≤ 49)), slot_ne (this _ (by decide : 8 ≤ 50)), slot_ne (this _ (by decide : 8 ≤ 51)),
        slot_ne (this _ (by decide : 8 ≤ 52)), slot_ne (this _ (by decide : 8 ≤ 53)), slot_ne (this _ (by decide : 8 ≤ 54)), slot_ne (this _ (by decide : 8 ≤ 55)), slot_ne (this _ (by decide : 8 ≤ 56)), slot_ne (this _ (by decide : 8 ≤ 57)), slot_ne (this _ (by decide : 8 ≤ 58)), slot_ne (this _ (by decide : 8 ≤ 59)), slot_ne (this _ (by decide : 8 ≤ 60)), slot_ne (this _ (by decide : 8 ≤ 8))]

end Go.V01
