/-
  Vm: what the arguments of a law are (own work).
-/
import Derived.Test.YtpingdgbndmcnaaVmEntry
import Derived.OpenShut
import Derived.Test.YtpingdgbndmcnaaVmVal
namespace Go.Vm
open Go Go.RowKit

section
variable {H : Type} {P : Program} {t e : TypeId} {d : DataW H} {u : VV} {cs : List CV} {n : Nat}

theorem DR_int {k : IntKind} (hu : P.underlying t = some (.int k)) (h : DR P (n + 1) t d cs) : ∃ x, d = .lit (.int k x) ∧ cs = [.sc (.int k x)] ∧ (Lit.int k x).wf = true := by
  simpa only [DR, hu] using h
theorem DR_bool (hu : P.underlying t = some .bool) (h : DR P (n + 1) t d cs) : ∃ b, d = .lit (.bool b) ∧ cs = [.sc (.bool b)] := by
  simpa only [DR, hu] using h
theorem DR_string (hu : P.underlying t = some .string) (h : DR P (n + 1) t d cs) : ∃ s : ByteArray, d = .lit (.string s.data.toList) ∧ cs = [.sc (.string s)] ∧ s.size ≤ maxLen := by
  simpa only [DR, hu] using h
theorem DR_slice (hu : P.underlying t = some (.slice e)) (h : DR P (n + 1) t d cs) : (d = .nil ∧ cs = [.sc (.slice none 0 0)]) ∨ ∃ ds rest els, d = .slice ds rest ∧ cs = [.sl (P.cellsOf e) els false] ∧ els.length = ds.length ∧ els.length ≤ maxLen ∧
    ∀ (i : Nat) (el : List CV) (y : DataW H), els[i]? = some el → ds[i]? = some y → el.length = P.cellsOf e ∧ DR P n e y el := by
  simpa only [DR, hu] using h
theorem DR_struct {fs : Array Field} (hu : P.underlying t = some (.struct fs)) (h : DR P (n + 1) t d cs) : ∃ ds, d = .agg ds ∧ ds.length = fs.size ∧ cs.length = P.cellsOf t ∧
    ∀ (i : Nat) (f : Field) (y : DataW H), fs[i]? = some f → ds[i]? = some y → DR P n f.type y ((cs.drop f.offset).take (P.cellsOf f.type)) := by
  simpa only [DR, hu] using h

theorem wf_u8 {x : Int} (h : (Lit.int .u8 x).wf = true) : ∃ b : UInt8, x = b.toNat := by
  have := bounds_u8 h
  refine ⟨UInt8.ofNat x.toNat, ?_⟩
  rw [UInt8.toNat_ofNat']
  omega
theorem wf_u16 {x : Int} (h : (Lit.int .u16 x).wf = true) : ∃ n : Nat, x = n ∧ n < 65536 := by
  have := bounds_u16 h
  exact ⟨x.toNat, by omega, by omega⟩
theorem wf_u64 {x : Int} (h : (Lit.int .u64 x).wf = true) : ∃ n : Nat, x = n ∧ n < 18446744073709551616 := by
  have := bounds_u64 h
  exact ⟨x.toNat, by omega, by omega⟩
theorem wf_i64 {x : Int} (h : (Lit.int .i64 x).wf = true) : -9223372036854775808 ≤ x ∧ x ≤ 9223372036854775807 := by
  simp [Lit.wf, IntKind.min, IntKind.max, IntKind.signed, IntKind.bits] at h
  omega

/-- Bytes in a cell. -/
theorem DR_bytes (hu : P.underlying t = some (.slice e)) (he : P.underlying e = some (.int .u8)) (hc : P.cellsOf e = 1) (h : DR P (n + 2) t d cs) : ∃ (l : List UInt8) (c : CV), cs = [c] ∧ SlV 1 (eB l) (.cv c) ∧ l.length ≤ maxLen ∧
    ((d = .nil ∧ l = []) ∨ ∃ ds rest, d = .slice ds rest ∧ ds.length = l.length) := by
  rcases DR_slice hu h with ⟨rfl, rfl⟩ | ⟨ds, rest, els, rfl, rfl, h1, h2, h3⟩
  · exact ⟨[], _, rfl, .inl ⟨rfl, rfl⟩, by simp, .inl ⟨rfl, rfl⟩⟩
  · have key : ∀ el ∈ els, ∃ b : UInt8, el = byteCell b := by
      intro el hel
      obtain ⟨i, hi⟩ := List.getElem?_of_mem hel
      have hlt : i < ds.length := by rw [← h1]; exact (List.getElem?_eq_some_iff.1 hi).1
      obtain ⟨h4, h5⟩ := h3 i el _ hi (List.getElem?_eq_getElem hlt)
      obtain ⟨x, _, rfl, hw⟩ := DR_int he h5
      obtain ⟨b, rfl⟩ := wf_u8 hw
      exact ⟨b, rfl⟩
    have all : ∀ els : List (List CV), (∀ el ∈ els, ∃ b : UInt8, el = byteCell b) → ∃ l : List UInt8, els = eB l := by
      intro els
      induction els with
      | nil => exact fun _ => ⟨[], rfl⟩
      | cons x r ih =>
        intro hk
        obtain ⟨b, rfl⟩ := hk x (by simp)
        obtain ⟨l, rfl⟩ := ih fun el hel => hk el (by simp [hel])
        exact ⟨b :: l, rfl⟩
    obtain ⟨l, rfl⟩ := all els key
    rw [eB_len] at h1 h2
    rw [hc]
    exact ⟨l, _, rfl, .inr ⟨_, rfl⟩, h2, .inr ⟨ds, rest, rfl, h1.symm⟩⟩

theorem DV_plain (hs : isStr P t = false) (h : DV P t d u) : ∃ c, DR P 8 t d [c] ∧ u = .cv c := by
  obtain ⟨ccs, h1, h2⟩ := h
  rw [hs] at h2
  obtain ⟨c, rfl, rfl⟩ := by simpa using h2
  exact ⟨c, h1, rfl⟩
theorem DV_int {k : IntKind} (hu : P.underlying t = some (.int k)) (h : DV P t d u) : ∃ x, u = vi k x ∧ (Lit.int k x).wf = true := by
  obtain ⟨c, h1, rfl⟩ := DV_plain (by simp only [isStr, hu]) h
  obtain ⟨x, _, h2, h3⟩ := DR_int hu h1
  cases h2
  exact ⟨x, rfl, h3⟩
theorem DV_u8 (hu : P.underlying t = some (.int .u8)) (h : DV P t d u) : ∃ b : UInt8, u = vi .u8 b.toNat := by
  obtain ⟨x, rfl, hw⟩ := DV_int hu h
  obtain ⟨b, rfl⟩ := wf_u8 hw
  exact ⟨b, rfl⟩
theorem DV_u16 (hu : P.underlying t = some (.int .u16)) (h : DV P t d u) : ∃ n : Nat, u = vi .u16 n ∧ n < 65536 := by
  obtain ⟨x, rfl, hw⟩ := DV_int hu h
  obtain ⟨b, rfl, hb⟩ := wf_u16 hw
  exact ⟨b, rfl, hb⟩
theorem DV_u64 (hu : P.underlying t = some (.int .u64)) (h : DV P t d u) : ∃ n : Nat, u = vi .u64 n ∧ n < 18446744073709551616 := by
  obtain ⟨x, rfl, hw⟩ := DV_int hu h
  obtain ⟨b, rfl, hb⟩ := wf_u64 hw
  exact ⟨b, rfl, hb⟩
theorem DV_i64 (hu : P.underlying t = some (.int .i64)) (h : DV P t d u) : ∃ x : Int, u = vi .i64 x ∧ -9223372036854775808 ≤ x ∧ x ≤ 9223372036854775807 := by
  obtain ⟨x, rfl, hw⟩ := DV_int hu h
  exact ⟨x, rfl, wf_i64 hw⟩
theorem DV_bool (hu : P.underlying t = some .bool) (h : DV P t d u) : ∃ b, u = vb b := by
  obtain ⟨c, h1, rfl⟩ := DV_plain (by simp only [isStr, hu]) h
  obtain ⟨x, _, h2⟩ := DR_bool hu h1
  cases h2
  exact ⟨x, rfl⟩
theorem DV_str (hu : P.underlying t = some .string) (h : DV P t d u) : ∃ l : List UInt8, u = txt l ∧ l.length ≤ maxLen := by
  obtain ⟨c, h1, rfl⟩ := DV_plain (by simp only [isStr, hu]) h
  obtain ⟨x, _, h2, h3⟩ := DR_string hu h1
  cases h2
  exact ⟨x.data.toList, rfl, h3⟩
theorem DV_bytes (hu : P.underlying t = some (.slice e)) (he : P.underlying e = some (.int .u8)) (hc : P.cellsOf e = 1) (h : DV P t d u) : ∃ l : List UInt8, SlV 1 (eB l) u ∧ l.length ≤ maxLen := by
  obtain ⟨c, h1, rfl⟩ := DV_plain (by simp only [isStr, hu]) h
  obtain ⟨l, c', h2, h3, h4, _⟩ := DR_bytes hu he hc h1
  cases h2
  exact ⟨l, h3, h4⟩
end

/-- One argument's relation, and the rest's. -/
theorem rel_nil {σ : Stab} {β : Nat → Option Loc} : ∀ (i : Nat) (v : Value) (u : VV), (#[] : Array Value)[i]? = some v → ([] : List VV)[i]? = some u → VR σ β v u := fun i v u hv => by simp at hv
theorem rel_list {σ : Stab} {β : Nat → Option Loc} {vs : List Value} {us : List VV} (h : ∀ (i : Nat) (v : Value) (u : VV), vs[i]? = some v → us[i]? = some u → VR σ β v u) : ∀ (i : Nat) (v : Value) (u : VV), vs.toArray[i]? = some v → us[i]? = some u → VR σ β v u :=
  fun i v u hv hu => h i v u (by simpa using hv) hu
theorem rel_cons {σ : Stab} {β : Nat → Option Loc} {v0 : Value} {u0 : VV} {vs : List Value} {us : List VV} (h0 : VR σ β v0 u0) (h : ∀ (i : Nat) (v : Value) (u : VV), vs[i]? = some v → us[i]? = some u → VR σ β v u) :
    ∀ (i : Nat) (v : Value) (u : VV), (v0 :: vs)[i]? = some v → (u0 :: us)[i]? = some u → VR σ β v u := by
  intro i v u hv hu
  cases i with
  | zero => simp at hv hu; subst hv hu; exact h0
  | succ i => exact h i v u (by simpa using hv) (by simpa using hu)
theorem rel_none {σ : Stab} {β : Nat → Option Loc} : ∀ (i : Nat) (v : Value) (u : VV), ([] : List Value)[i]? = some v → ([] : List VV)[i]? = some u → VR σ β v u := fun i v u hv => by simp at hv

end Go.Vm
