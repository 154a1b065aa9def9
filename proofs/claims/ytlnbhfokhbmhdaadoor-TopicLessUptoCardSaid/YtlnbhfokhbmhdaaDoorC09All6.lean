/- Part of a proof: of what it says, and when, each theorem tells itself. -/
import Derived.Test.YtlnbhfokhbmhdaaDoorProg
import Derived.Test.YtlnbhfokhbmhdaaDoorC09fn
import Derived.WalkKit
import Derived.Laws.RangeAny
import Derived.Lib.Walk
import Derived.Laws.Externs
import Derived.Lib.Bytealg
import Derived.Test.YtlnbhfokhbmhdaaDoorC09Ir
import Derived.Test.YtlnbhfokhbmhdaaDoorC09All5
import Derived.Test.YtlnbhfokhbmhdaaDoorVmAll2
import Derived.SizedLaws
import Derived.Test.YtlnbhfokhbmhdaaDoorRows
/-
  Chapter 09: three of Go's library's functions, and topic.word, told by hand (walks over the model).
-/
set_option linter.unusedVariables false
set_option linter.unusedSimpArgs false
namespace Go.V09
open Go Go.Lib Go.RowKit

theorem word_at {s : ByteArray} {pos : Nat} (h : pos < s.size) : s.data.toList[pos]? = some (s[pos]'h) := by
  have : pos < s.data.toList.length := h
  rw [List.getElem?_eq_getElem this]; rfl
theorem word_bad {s : ByteArray} {pos : Nat} (h : pos < s.size) (hb : isW (s[pos]'h) = false) : wordB s.data.toList = false := by
  unfold wordB
  have hm : (s[pos]'h) ∈ s.data.toList := List.mem_of_getElem? (word_at h)
  have : s.data.toList.all isW = false := by
    rw [← Bool.not_eq_true, List.all_eq_true]
    intro hc
    rw [hc _ hm] at hb; cases hb
  rw [this]; rfl
theorem word_ok {s : ByteArray} {pos : Nat} (h : pos < s.size) (hb : isW (s[pos]'h) = true) (ha : (s.data.toList.take pos).all isW = true) : (s.data.toList.take (pos + 1)).all isW = true := by
  rw [List.take_succ_eq_append_getElem h, List.all_append, ha]
  simp only [List.all_cons, List.all_nil, Bool.and_true, Bool.true_and]
  exact hb

set_option maxRecDepth 100000 in
set_option maxHeartbeats 1000000 in
/-- topic.word. -/
theorem word_walk (s : ByteArray) (w : World) : Calls Proofs.Tryd.prog 23 #[.string s] w fun e w' => e = .returned (.bool (wordB s.data.toList)) ∧ Below w.heap.size w w' := by
  have mixed : Proofs.Tryd.prog.follows .mixedOrders = true := by kernel_rfl
  have hbel : ∀ p, Below w.heap.size w (w.iter s p) := fun p => (Below.refl _ _).alloc (Nat.le_refl _) _
  go_enter Proofs.Tryd.func23, Proofs.Tryd.ntmps23
  go_wp2
  go_loopw [] (fun wr => ∃ pos, wr = w.iter s pos ∧ pos ≤ s.size ∧ (s.data.toList.take pos).all isW = true) (fun wr => s.size - wr.iterPos w.heap.size)
  case atStart => exact ⟨0, rfl, by omega, by simp⟩
  case round =>
    obtain ⟨pos, rfl, hp, hall⟩ := hrel
    by_cases h : pos < s.size
    · by_cases ha : (s[pos]'h).toNat < 128
      · have hnx : ∀ ty, (Instr.next (.pointer (some ⟨w.heap.size, 0, none⟩)) true ty).run Proofs.Tryd.prog (w.iter s pos) = _ := fun ty => run_next_ascii w s pos ty h ha
        have bad : ((s[pos]'h).toNat < 97 ∨ 122 < (s[pos]'h).toNat) → ((s[pos]'h).toNat < 48 ∨ 57 < (s[pos]'h).toNat) → wordB s.data.toList = false := fun h1 h2 => word_bad h (by unfold isW; simp; omega)
        have good : ¬(((s[pos]'h).toNat < 97 ∨ 122 < (s[pos]'h).toNat) ∧ ((s[pos]'h).toNat < 48 ∨ 57 < (s[pos]'h).toNat)) → (∃ q, w.iter s (pos + 1) = w.iter s q ∧ q ≤ s.size ∧ (List.take q s.data.toList).all isW = true) ∧
            s.size - (w.iter s (pos + 1)).iterPos w.heap.size < s.size - (w.iter s pos).iterPos w.heap.size := fun h1 => ⟨⟨pos + 1, rfl, h, word_ok h (by unfold isW; simp; omega) hall⟩, by simp only [World.iterPos_iter]; omega⟩
        go_wp2
        all_goals first
          | (refine good ?_; omega)
          | (go_ret; exact ⟨by rw [bad (by omega) (by omega)]; rfl, hbel _⟩)
          | (exfalso; omega)
      · have hnx : ∀ ty, (Instr.next (.pointer (some ⟨w.heap.size, 0, none⟩)) true ty).run Proofs.Tryd.prog (w.iter s pos) = _ := fun ty => run_next_any w s pos ty h
        have bad : wordB s.data.toList = false := word_bad h (by unfold isW; simp; omega)
        have hi := (decode_high s pos h (by omega)).1
        go_wp2
        all_goals first
          | (go_ret; exact ⟨by rw [bad]; rfl, hbel _⟩)
          | (exfalso; omega)
    · have hnx : ∀ ty, (Instr.next (.pointer (some ⟨w.heap.size, 0, none⟩)) true ty).run Proofs.Tryd.prog (w.iter s pos) = _ := fun ty => run_next_end w s pos ty h
      have hps : pos = s.size := by omega
      subst hps
      have he : s.data.toList.take s.size = s.data.toList := List.take_of_length_le (Nat.le_refl _)
      rw [he] at hall
      go_wp2
      go_ret
      refine ⟨?_, hbel _⟩
      unfold wordB
      rw [hall]
      rw [← ByteArray.toList_eq]; rfl

set_option maxRecDepth 100000 in
/-- internal/stringslite.IndexByte. -/
theorem indexByte_walk (s : ByteArray) (c : Int) (w : World) : Calls Proofs.Tryd.prog 52 #[.string s, .int .u8 c] w fun e w' => e = .returned (.int .i64 (Lib.indexByte s.data.toList c.toNat.toUInt8)) ∧ w' = w := by
  have mixed : Proofs.Tryd.prog.follows .mixedOrders = true := by kernel_rfl
  go_enter Proofs.Tryd.func52, Proofs.Tryd.ntmps52
  go_wp2
  rw [run_callFunc_extern Proofs.Tryd.func56 (by kernel_rfl) (by kernel_rfl) (by kernel_rfl) (e := Extern.BytealgIndexByte.indexByte) (by kernel_rfl), Lib.run_indexByteString]
  simp only [Result.andThen]
  rw [Oper.upon_value]
  go_wp2
  go_ret
  exact ⟨rfl, rfl⟩

set_option maxRecDepth 100000 in
/-- strings.Count of one byte. -/
theorem count_walk (s : ByteArray) (c : UInt8) (w : World) : Calls Proofs.Tryd.prog 45 #[.string s, .string ⟨#[c]⟩] w fun e w' => e = .returned (.int .i64 (Lib.countByte s.data.toList c)) ∧ w' = w := by
  have mixed : Proofs.Tryd.prog.follows .mixedOrders = true := by kernel_rfl
  go_enter Proofs.Tryd.func45, Proofs.Tryd.ntmps45
  go_wp2
  rw [run_callFunc_extern Proofs.Tryd.func51 (by kernel_rfl) (by kernel_rfl) (by kernel_rfl) (e := Extern.BytealgCount.count) (by kernel_rfl), Lib.run_countString]
  simp only [Result.andThen]
  rw [Oper.upon_value]
  go_wp2
  go_ret
  exact ⟨rfl, rfl⟩
end Go.V09

/-
  Chapter 09: what is told by hand, as small code.
-/
namespace Go.V09
open Go Go.Vm Go.RowKit

theorem nat23 : NatOK Proofs.Tryd.prog 23 f23x := by
  refine natOK_pf (by decide) ⟨_, Proofs.Tryd.func23, by kernel_rfl, by kernel_rfl⟩ fun l v w h => ?_
  unfold φ23 at h
  split at h
  · cases h; exact word_walk _ w
  · cases h
theorem nat52 : NatOK Proofs.Tryd.prog 52 f52x := by
  refine natOK_pf (by decide) ⟨_, Proofs.Tryd.func52, by kernel_rfl, by kernel_rfl⟩ fun l v w h => ?_
  unfold φ52 at h
  split at h
  · cases h
    refine (indexByte_walk _ _ w).mono ?_
    rintro e w' ⟨rfl, rfl⟩
    exact ⟨rfl, Below.refl _ _⟩
  · cases h
theorem nat45 : NatOK Proofs.Tryd.prog 45 f45x := by
  refine natOK_pf (by decide) ⟨_, Proofs.Tryd.func45, by kernel_rfl, by kernel_rfl⟩ fun l v w h => ?_
  unfold φ45 at h
  split at h
  · rename_i s t
    split at h
    · rename_i c hc
      cases h
      have e : t = ⟨#[c]⟩ := by
        obtain ⟨⟨t⟩⟩ := t
        have : t = [c] := hc
        rw [this]
      subst e
      refine (count_walk s c w).mono ?_
      rintro e w' ⟨rfl, rfl⟩
      exact ⟨rfl, Below.refl _ _⟩
    · cases h
  · cases h

theorem tbl : TblOK Proofs.Tryd.prog F := tbl0 nat23 nat52 nat45
end Go.V09

/-
  Chapter 09: the law TopicParts; how the laws' arguments come in.
-/
set_option linter.unusedSimpArgs false
set_option linter.unusedVariables false
namespace Go.V09
open Go Go.Vm Go.Lib

end Go.V09

/-
  Chapter 09: how the laws' arguments come in.
-/
set_option linter.unusedSimpArgs false
set_option linter.unusedVariables false
namespace Go.V09
open Go Go.Vm Go.Lib Go.Proofs.YtlnbhfokhbmhdaaDoor

theorem DV_strD {H : Type} {P : Program} {t : TypeId} {d : DataW H} {u : VV} (hu : P.underlying t = some .string) (h : DV P t d u) : ∃ l : List UInt8, u = txt l ∧ d = .lit (.string l) := by
  obtain ⟨c, h1, rfl⟩ := DV_plain (by simp only [isStr, hu]) h
  obtain ⟨x, h0, h2, h3⟩ := DR_string hu h1
  cases h2
  exact ⟨x.data.toList, rfl, h0⟩
section
variable {H : Type} {d0 d1 d2 d3 : DataW H} {u0 u1 u2 u3 : VV}
theorem less_in (hb : Rows.uptoBulkAll [d0, d1] ≤ 1048576) (h0 : DV Proofs.Tryd.prog 22 d0 u0) (h1 : DV Proofs.Tryd.prog 9 d1 u1) : ∃ h', call F 7 [u0, u1] [] = some (.ret (vb true), h') := by
  obtain ⟨c, hc, hcl⟩ := DV_bytes (e := 5) (by kernel_rfl) (by kernel_rfl) (by kernel_rfl) h0
  obtain ⟨a, rfl, rfl⟩ := DV_strD (by kernel_rfl) h1
  have ha : a.length ≤ 1000000000 := by
    simp only [Rows.uptoBulkAll, Rows.uptoBulk] at hb
    omega
  obtain ⟨v, g, n, rfl⟩ := less_f7 hc hcl ha
  exact ⟨g, n⟩
end
end Go.V09
