/- Part of a proof: of what it says, and when, each theorem tells itself. -/
import Derived.Test.YtlnbhfokhbmhdaaDoorProg
import Derived.Test.YtlnbhfokhbmhdaaDoorC09fn
import Derived.WalkKit
import Derived.Laws.RangeAny
import Derived.Lib.Walk
import Derived.Laws.Externs
import Derived.Lib.Bytealg
import Derived.Test.YtlnbhfokhbmhdaaDoorC09Ir
import Derived.Test.YtlnbhfokhbmhdaaDoorC09All5
import Derived.Test.YtlnbhfokhbmhdaaDoorVmAll2
import Derived.SizedLaws
import Derived.Test.YtlnbhfokhbmhdaaDoorRows
/-
  Chapter 09: three of Go's library's functions, and topic.word, told by hand (walks over the model).
-/
set_option linter.unusedVariables false
set_option linter.unusedSimpArgs false
namespace Go.V09
open Go Go.Lib Go.RowKit

theorem word_at {s : ByteArray} {pos : Nat} (h : pos < s.size) : s.data.toList[pos]? = some (s[pos]'h) := by
  have : pos < s.data.toList.length := h
  rw [List.getElem?_eq_getElem this]; rfl
theorem word_bad {s : ByteArray} {pos : Nat} (h : pos < s.size) (hb : isW (s[pos]'h) = false) : wordB s.data.toList = false := by
  unfold wordB
  have hm : (s[pos]'h) ∈ s.data.toList := List.mem_of_getElem? (word_at h)
  have : s.data.toList.all isW = false := by
    rw [← Bool.not_eq_true, List.all_eq_true]
    intro hc
    rw [hc _ hm] at hb; cases hb
  rw [this]; rfl
theorem word_ok {s : ByteArray} {pos : Nat} (h : pos < s.size) (hb : isW (s[pos]'h) = true) (ha : (s.data.toList.take pos).all isW = true) : (s.data.toList.take (pos + 1)).all isW = true := by
  rw [List.take_succ_eq_append_getElem h, List.all_append, ha]
  simp only [List.all_cons, List.all_nil, Bool.and_true, Bool.true_and]
  exact hb

set_option maxRecDepth 100000 in
set_option maxHeartbeats 1000000 in
/-- topic.word. -/
theorem word_walk (s : ByteArray) (w : World) : Calls Proofs.Tryd.prog 23 #[.string s] w fun e w' => e = .returned (.bool (wordB s.data.toList)) ∧ Below w.heap.size w w' := by
  have mixed : Proofs.Tryd.prog.follows .mixedOrders = true := by kernel_rfl
  have hbel : ∀ p, Below w.heap.size w (w.iter s p) := fun p => (Below.refl _ _).alloc (Nat.le_refl _) _
  go_enter Proofs.Tryd.func23, Proofs.Tryd.ntmps23
  go_wp2
  go_loopw [] (fun wr => ∃ pos, wr = w.iter s pos ∧ pos ≤ s.size ∧ (s.data.toList.take pos).all isW = true) (fun wr => s.size - wr.iterPos w.heap.size)
  case atStart => exact ⟨0, rfl, by omega, by simp⟩
  case round =>
    obtain ⟨pos, rfl, hp, hall⟩ := hrel
    by_cases h : pos < s.size
    · by_cases ha : (s[pos]'h).toNat < 128
      · have hnx : ∀ ty, (Instr.next (.pointer (some ⟨w.heap.size, 0, none⟩)) true ty).run Proofs.Tryd.prog (w.iter s pos) = _ := fun ty => run_next_ascii w s pos ty h ha
        have bad : ((s[pos]'h).toNat < 97 ∨ 122 < (s[pos]'h).toNat) → ((s[pos]'h).toNat < 48 ∨ 57 < (s[pos]'h).toNat) → wordB s.data.toList = false := fun h1 h2 => word_bad h (by unfold isW; simp; omega)
        have good : ¬(((s[pos]'h).toNat < 97 ∨ 122 < (s[pos]'h).toNat) ∧ ((s[pos]'h).toNat < 48 ∨ 57 < (s[pos]'h).toNat)) → (∃ q, w.iter s (pos + 1) = w.iter s q ∧ q ≤ s.size ∧ (List.take q s.data.toList).all isW = true) ∧
            s.size - (w.iter s (pos + 1)).iterPos w.heap.size < s.size - (w.iter s pos).iterPos w.heap.size := fun h1 => ⟨⟨pos + 1, rfl, h, word_ok h (by unfold isW; simp; omega) hall⟩, by simp only [World.iterPos_iter]; omega⟩
        go_wp2
        all_goals first
          | (refine good ?_; omega)
          | (go_ret; exact ⟨by rw [bad (by omega) (by omega)]; rfl, hbel _⟩)
          | (exfalso; omega)
      · have hnx : ∀ ty, (Instr.next (.pointer (some ⟨w.heap.size, 0, none⟩)) true ty).run Proofs.Tryd.prog (w.iter s pos) = _ := fun ty => run_next_any w s pos ty h
        have bad : wordB s.data.toList = false := word_bad h (by unfold isW; simp; omega)
        have hi := (decode_high s pos h (by omega)).1
        go_wp2
        all_goals first
          | (go_ret; exact ⟨by rw [bad]; rfl, hbel _⟩)
          | (exfalso; omega)
    · have hnx : ∀ ty, (Instr.next (.pointer (some ⟨w.heap.size, 0, none⟩)) true ty).run Proofs.Tryd.prog (w.iter s pos) = _ := fun ty => run_next_end w s pos ty h
      have hps : pos = s.size := by omega
      subst hps
      have he : s.data.toList.take s.size = s.data.toList := List.take_of_length_le (Nat.le_refl _)
      rw [he] at hall
      go_wp2
      go_ret
      refine ⟨?_, hbel _⟩
      unfold wordB
      rw [hall]
      rw [← ByteArray.toList_eq]; rfl

set_option maxRecDepth 100000 in
/-- internal/stringslite.IndexByte. -/
theorem indexByte_walk (s : ByteArray) (c : Int) (w : World) : Calls Proofs.Tryd.prog 52 #[.string s, .int .u8 c] w fun e w' => e = .returned (.int .i64 (Lib.indexByte s.data.toList c.toNat.toUInt8)) ∧ w' = w := by
  have mixed : Proofs.Tryd.prog.follows .mixedOrders = true := by kernel_rfl
  go_enter Proofs.Tryd.func52, Proofs.Tryd.ntmps52
  go_wp2
  rw [run_callFunc_extern Proofs.Tryd.func56 (by kernel_rfl) (by kernel_rfl) (by kernel_rfl) (e := Extern.BytealgIndexByte.indexByte) (by kernel_rfl), Lib.run_indexByteString]
  simp only [Result.andThen]
  rw [Oper.upon_value]
  go_wp2
  go_ret
  exact ⟨rfl, rfl⟩

set_option maxRecDepth 100000 in
/-- strings.Count of one byte. -/
theorem count_walk (s : ByteArray) (c : UInt8) (w : World) : Calls Proofs.Tryd.prog 45 #[.string s, .string ⟨#[c]⟩] w fun e w' => e = .returned (.int .i64 (Lib.countByte s.data.toList c)) ∧ w' = w := by
  have mixed : Proofs.Tryd.prog.follows .mixedOrders = true := by kernel_rfl
  go_enter Proofs.Tryd.func45, Proofs.Tryd.ntmps45
  go_wp2
  rw [run_callFunc_extern Proofs.Tryd.func51 (by kernel_rfl) (by kernel_rfl) (by kernel_rfl) (e := Extern.BytealgCount.count) (by kernel_rfl), Lib.run_countString]
  simp only [Result.andThen]
  rw [Oper.upon_value]
  go_wp2
  go_ret
  exact ⟨rfl, rfl⟩
end Go.V09

/-
  Chapter 09: what is told by hand, as small code.
-/
namespace Go.V09
open Go Go.Vm Go.RowKit

theorem nat23 : NatOK Proofs.Tryd.prog 23 f23x := by
  refine natOK_pf (by decide) ⟨_, Proofs.Tryd.func23, by kernel_rfl, by kernel_rfl⟩ fun l v w h => ?_
  unfold φ23 at h
  split at h
  · cases h; exact word_walk _ w
  · cases h
theorem nat52 : NatOK Proofs.Tryd.prog 52 f52x := by
  refine natOK_pf (by decide) ⟨_, Proofs.Tryd.func52, by kernel_rfl, by kernel_rfl⟩ fun l v w h => ?_
  unfold φ52 at h
  split at h
  · cases h
    refine (indexByte_walk _ _ w).mono ?_
    rintro e w' ⟨rfl, rfl⟩
    exact ⟨rfl, Below.refl _ _⟩
  · cases h
theorem nat45 : NatOK Proofs.Tryd.prog 45 f45x := by
  refine natOK_pf (by decide) ⟨_, Proofs.Tryd.func45, by kernel_rfl, by kernel_rfl⟩ fun l v w h => ?_
  unfold φ45 at h
  split at h
  · rename_i s t
    split at h
    · rename_i c hc
      cases h
      have e : t = ⟨#[c]⟩ := by
        obtain ⟨⟨t⟩⟩ := t
        have : t = [c] := hc
        rw [this]
      subst e
      refine (count_walk s c w).mono ?_
      rintro e w' ⟨rfl, rfl⟩
      exact ⟨rfl, Below.refl _ _⟩
    · cases h
  · cases h

theorem tbl : TblOK Proofs.Tryd.prog F := tbl0 nat23 nat52 nat45
end Go.V09

/-
  Chapter 09: the law TopicParts; how the laws' arguments come in.
-/
set_option linter.unusedSimpArgs false
set_option linter.unusedVariables false
namespace Go.V09
open Go Go.Vm Go.Lib

/-- The flag, and what is behind. -/
theorem parts_f5 {n m odd : UInt8} : Ret F 5 [vi .u8 n.toNat, vi .u8 m.toNat, vi .u8 odd.toNat] [] fun v g => v = vb true := by
  obtain ⟨vk, gk, nk, _, rk, rfl⟩ := known_f9
  obtain ⟨o1, o2, o3⟩ := odd_one odd
  have ha8 : n.toNat % 8 < 8 := by omega
  have hb8 : m.toNat % 8 < 8 := by omega
  have hpl : (apL (n.toNat % 8) [43] [47, 43]).length ≤ 1000000000 := by rw [apL_len]; simp; omega
  have htl : (apL (m.toNat % 8) [97] [47, 98]).length ≤ 1000000000 := by rw [apL_len]; simp; omega
  obtain ⟨v1, g1, n1, _, r1, rfl⟩ := match_f13 hpl htl
  obtain ⟨v2, g2, n2, _, r2, rfl⟩ := right_f12 (l := [odd]) (by simp)
  obtain ⟨v3, g3, n3, _, r3, rfl⟩ := attrs_f15 (l := [odd] ++ [61, 97]) (by simp)
  obtain ⟨v4, g4, n4, _, r4, rfl⟩ := pat_f14 (l := [odd]) (by simp)
  rw [parts_match ha8 hb8] at r1
  rw [o1] at r2; rw [o2] at r3; rw [o3] at r4
  refine call_E (fn := f5) rfl ?_
  simp only [f5]
  generalize hs0 : ([vi .u8 n.toNat, vi .u8 m.toNat, vi .u8 odd.toNat] ++ List.replicate _ VV.undef : List VV) = s
  have hs : s.length = 87 := by rw [← hs0]; rfl
  have h0 : s.getD 0 .undef = vi .u8 n.toNat := by rw [← hs0]; rfl
  have h1 : s.getD 1 .undef = vi .u8 m.toNat := by rw [← hs0]; rfl
  have h2 : s.getD 2 .undef = vi .u8 odd.toNat := by rw [← hs0]; rfl
  clear hs0
  simp only [go_sem, Nat.reduceLT, Nat.reduceEqDiff, reduceCtorEq, Int.reduceLT, Int.reduceEq, hs]
  refine f5_loop0 (n := n) (n.toNat % 8) 0 _ (by omega) (by simp only [slot_len, hs]) (by simp only [go_sem, Nat.reduceLT, Nat.reduceEqDiff, reduceCtorEq, Int.reduceLT, Int.reduceEq, h0]) (by simp only [go_sem, Nat.reduceLT, Nat.reduceEqDiff, reduceCtorEq, Int.reduceLT, Int.reduceEq, hs]; rfl) (by simp only [go_sem, Nat.reduceLT, Nat.reduceEqDiff, reduceCtorEq, Int.reduceLT, Int.reduceEq, hs]; rfl) (fun s1 b0 b1 b2 b3 b4 b5 => ?_)
  have q0 : s1.getD 0 .undef = vi .u8 n.toNat := by rw [b1]; simp only [go_sem, Nat.reduceLT, Nat.reduceEqDiff, reduceCtorEq, Int.reduceLT, Int.reduceEq, h0]
  have q1 : s1.getD 1 .undef = vi .u8 m.toNat := by rw [b2]; simp only [go_sem, Nat.reduceLT, Nat.reduceEqDiff, reduceCtorEq, Int.reduceLT, Int.reduceEq, h1]
  have q2 : s1.getD 2 .undef = vi .u8 odd.toNat := by rw [b3]; simp only [go_sem, Nat.reduceLT, Nat.reduceEqDiff, reduceCtorEq, Int.reduceLT, Int.reduceEq, h2]
  have q8 : s1.getD 8 .undef = txt [97] := by rw [b4]; simp only [go_sem, Nat.reduceLT, Nat.reduceEqDiff, reduceCtorEq, Int.reduceLT, Int.reduceEq, hs]
  simp only [go_sem, Nat.reduceLT, Nat.reduceEqDiff, reduceCtorEq, Int.reduceLT, Int.reduceEq, b0]
  refine f5_loop1 (n := m) (m.toNat % 8) 0 _ (by omega) (by simp only [slot_len, b0]) (by simp only [go_sem, Nat.reduceLT, Nat.reduceEqDiff, reduceCtorEq, Int.reduceLT, Int.reduceEq, q1]) (by simp only [go_sem, Nat.reduceLT, Nat.reduceEqDiff, reduceCtorEq, Int.reduceLT, Int.reduceEq, q8]; rfl) (by simp only [go_sem, Nat.reduceLT, Nat.reduceEqDiff, reduceCtorEq, Int.reduceLT, Int.reduceEq, b0]; rfl) (fun s2 c0 c1 c2 c3 c4 c5 => ?_)
  have p0 : s2.getD 0 .undef = vi .u8 n.toNat := by rw [c1]; simp only [go_sem, Nat.reduceLT, Nat.reduceEqDiff, reduceCtorEq, Int.reduceLT, Int.reduceEq, q0]
  have p1 : s2.getD 1 .undef = vi .u8 m.toNat := by rw [c2]; simp only [go_sem, Nat.reduceLT, Nat.reduceEqDiff, reduceCtorEq, Int.reduceLT, Int.reduceEq, q1]
  have p2 : s2.getD 2 .undef = vi .u8 odd.toNat := by rw [c3]; simp only [go_sem, Nat.reduceLT, Nat.reduceEqDiff, reduceCtorEq, Int.reduceLT, Int.reduceEq, q2]
  have p7 : s2.getD 7 .undef = txt (apL (n.toNat % 8) [43] [47, 43]) := by rw [c4]; simp only [go_sem, Nat.reduceLT, Nat.reduceEqDiff, reduceCtorEq, Int.reduceLT, Int.reduceEq, b5]
  simp only [go_sem, Nat.reduceLT, Nat.reduceEqDiff, reduceCtorEq, Int.reduceLT, Int.reduceEq, c0]
  have rn : (n.toNat : Int).tmod 8 = ((n.toNat % 8 : Nat) : Int) := rfl
  have rm : (m.toNat : Int).tmod 8 = ((m.toNat % 8 : Nat) : Int) := rfl
  have hbs : ∀ h : Heap, bsO h (.cv (.sl 1 [[.sc (.int .u8 (odd.toNat : Int))]] true)) = some (txt [odd]) := fun h => bs_sl (l := [odd])
  have had : binO .add (txt [odd]) (txt [61, 97]) = some (txt ([odd] ++ [61, 97])) := bin_sadd (by simp)
  have he : decide ((((n.toNat % 8 : Nat) : Int)) = ((m.toNat % 8 : Nat) : Int)) = decide (n.toNat % 8 = m.toNat % 8) := by congr 1; apply propext; omega
  have e43 : decide ((odd.toNat : Int) = 43) = decide (odd = 43) := by
    congr 1; apply propext
    constructor
    · intro h; exact UInt8.toNat_inj.1 (by have : (43 : UInt8).toNat = 43 := rfl; omega)
    · rintro rfl; rfl
  have e35 : decide ((odd.toNat : Int) = 35) = decide (odd = 35) := by
    congr 1; apply propext
    constructor
    · intro h; exact UInt8.toNat_inj.1 (by have : (35 : UInt8).toNat = 35 := rfl; omega)
    · rintro rfl; rfl
  rw [← e43, ← e35] at r4
  have flag : (97 : Int) ≤ (odd.toNat : Int) ∧ (odd.toNat : Int) ≤ 122 ∧ isW odd = true ∨ (97 : Int) ≤ (odd.toNat : Int) ∧ ¬ (odd.toNat : Int) ≤ 122 ∧ (48 : Int) ≤ (odd.toNat : Int) ∧ ¬ (odd.toNat : Int) ≤ 57 ∧ isW odd = false ∨
      ¬ (97 : Int) ≤ (odd.toNat : Int) ∧ (48 : Int) ≤ (odd.toNat : Int) ∧ (odd.toNat : Int) ≤ 57 ∧ isW odd = true ∨ ¬ (97 : Int) ≤ (odd.toNat : Int) ∧ (48 : Int) ≤ (odd.toNat : Int) ∧ ¬ (odd.toNat : Int) ≤ 57 ∧ isW odd = false ∨ ¬ (97 : Int) ≤ (odd.toNat : Int) ∧ ¬ (48 : Int) ≤ (odd.toNat : Int) ∧ isW odd = false := by
    unfold isW
    by_cases a1 : 97 ≤ odd.toNat
    · by_cases a2 : odd.toNat ≤ 122
      · left; exact ⟨by omega, by omega, by simp [a1, a2]⟩
      · right; left; exact ⟨by omega, by omega, by omega, by omega, by simp [a2]; omega⟩
    · by_cases a3 : 48 ≤ odd.toNat
      · by_cases a4 : odd.toNat ≤ 57
        · right; right; left; exact ⟨by omega, by omega, by omega, by simp [a3, a4]⟩
        · right; right; right; left; exact ⟨by omega, by omega, by omega, by simp [a1, a4]⟩
      · right; right; right; right; exact ⟨by omega, by omega, by simp [a1, a3]⟩
  rcases flag with ⟨a1, a2, hw⟩ | ⟨a1, a2, a3, a4, hw⟩ | ⟨a1, a3, a4, hw⟩ | ⟨a1, a3, a4, hw⟩ | ⟨a1, a3, hw⟩
  all_goals
    rw [hw] at r2 r3 r4
    simp only [go_sem, Nat.reduceLT, Nat.reduceEqDiff, reduceCtorEq, Int.reduceLT, Int.reduceEq, c0, p2, ge_iff_le, *]
    refine XO_callP (by simp only [List.map, go_sem, Nat.reduceLT, Nat.reduceEqDiff, reduceCtorEq, Int.reduceLT, Int.reduceEq, c0]; rfl) nk rk ?_
    simp only [go_sem, Nat.reduceLT, Nat.reduceEqDiff, reduceCtorEq, Int.reduceLT, Int.reduceEq, c0, p7, c5]
    refine XO_callP (by simp only [List.map, go_sem, Nat.reduceLT, Nat.reduceEqDiff, reduceCtorEq, Int.reduceLT, Int.reduceEq, c0]; rfl) n1 r1 ?_
    simp only [go_sem, Nat.reduceLT, Nat.reduceEqDiff, reduceCtorEq, Int.reduceLT, Int.reduceEq, c0, p0, p1, rn, rm, he, beq_self_eq_true]
    refine XO_callP (by simp only [List.map, go_sem, Nat.reduceLT, Nat.reduceEqDiff, reduceCtorEq, Int.reduceLT, Int.reduceEq, c0]; rfl) n2 r2 ?_
    simp only [go_sem, Nat.reduceLT, Nat.reduceEqDiff, reduceCtorEq, Int.reduceLT, Int.reduceEq, c0, beq_self_eq_true, had]
    refine XO_callP (by simp only [List.map, go_sem, Nat.reduceLT, Nat.reduceEqDiff, reduceCtorEq, Int.reduceLT, Int.reduceEq, c0]; rfl) n3 r3 ?_
    simp only [go_sem, Nat.reduceLT, Nat.reduceEqDiff, reduceCtorEq, Int.reduceLT, Int.reduceEq, c0, beq_self_eq_true]
    refine XO_callP (by simp only [List.map, go_sem, Nat.reduceLT, Nat.reduceEqDiff, reduceCtorEq, Int.reduceLT, Int.reduceEq, c0]; rfl) n4 r4 ?_
    by_cases q43 : (odd.toNat : Int) = 43
    · simp only [go_sem, Nat.reduceLT, Nat.reduceEqDiff, reduceCtorEq, Int.reduceLT, Int.reduceEq, c0, p2, q43]
      first | done | rfl | simp
    · by_cases q35 : (odd.toNat : Int) = 35
      · simp only [go_sem, Nat.reduceLT, Nat.reduceEqDiff, reduceCtorEq, Int.reduceLT, Int.reduceEq, c0, p2, q43, q35]
        first | done | rfl | simp
      · simp only [go_sem, Nat.reduceLT, Nat.reduceEqDiff, reduceCtorEq, Int.reduceLT, Int.reduceEq, c0, p2, q43, q35]
        first | done | rfl | simp
end Go.V09

/-
  Chapter 09: how the laws' arguments come in.
-/
set_option linter.unusedSimpArgs false
set_option linter.unusedVariables false
namespace Go.V09
open Go Go.Vm Go.Lib Go.Proofs.YtlnbhfokhbmhdaaDoor

section
variable {H : Type} {d0 d1 d2 d3 : DataW H} {u0 u1 u2 u3 : VV}
theorem parts_in (hz : (DataW.weightsEach Proofs.Tryd.prog [5, 5, 5] [d0, d1, d2]).all (· ≤ reachBytes) = true) (h0 : DV Proofs.Tryd.prog 5 d0 u0) (h1 : DV Proofs.Tryd.prog 5 d1 u1) (h2 : DV Proofs.Tryd.prog 5 d2 u2) : ∃ h', call F 5 [u0, u1, u2] [] = some (.ret (vb true), h') := by
  obtain ⟨a, rfl⟩ := DV_u8 (by kernel_rfl) h0
  obtain ⟨b, rfl⟩ := DV_u8 (by kernel_rfl) h1
  obtain ⟨c, rfl⟩ := DV_u8 (by kernel_rfl) h2
  obtain ⟨v, g, n, rfl⟩ := parts_f5 (n := a) (m := b) (odd := c)
  exact ⟨g, n⟩
end
end Go.V09
