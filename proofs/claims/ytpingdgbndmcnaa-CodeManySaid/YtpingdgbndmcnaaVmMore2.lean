/-
  Vm: more ways to go on, 2 (own work).
-/
import Derived.Test.YtpingdgbndmcnaaVmMore
namespace Go.Vm
open Go

section
variable {F : Nat → Option FnIR} {d : Option Nat} {x y : Opd} {r : List Op1} {c : Cl} {q : List (Op1 × Cl)} {s : List VV} {h : Heap} {Q : Pst}

theorem st_mks {z by_ : Nat} {zero : List CV} {k k' : IntKind} {a : Nat} (hx : evalO s x = vi k a) (hy : evalO s y = vi k' a) (h1 : a * by_ ≤ 35184372088832) (h2 : a ≤ 35184372088832) :
    stepI h (evalO s) (.mks z by_ zero x y true) = some (.own h.length 0 0 a true, h ++ [.arr z (List.replicate a zero) 0 false]) := by
  have hm : maxBytes = 35184372088832 := rfl
  have h3 : (a : Int) * (by_ : Int) ≤ 35184372088832 := by
    rw [← Int.natCast_mul]; omega
  have h4 : (a : Int) ≤ 35184372088832 := by omega
  simp [stepI, hx, hy, intV, hm, h3, h4]
theorem XO_mks {z by_ : Nat} {zero : List CV} {k k' : IntKind} {a : Nat} (hx : evalO s x = vi k a) (hy : evalO s y = vi k' a) (h1 : a * by_ ≤ 35184372088832) (h2 : a ≤ 35184372088832)
    (hk : XO F r ⟨putD s d (.own h.length 0 0 a true), h ++ [.arr z (List.replicate a zero) 0 false]⟩ Q) : XO F (⟨none, d, .mks z by_ zero x y true⟩ :: r) ⟨s, h⟩ Q := by
  rw [XO_ins rfl, st_mks hx hy h1 h2, XV_some]
  exact hk

theorem st_app {z by_ : Nat} {zero : List CV} {els new : List (List CV)} {v : VV}
    (hb : BufG h z els v) (hx : evalO s x = v) (hy : srcOf h z (evalO s y) = some new) (h1 : (els.length + new.length) * by_ ≤ 35184372088832) (h2 : els.length + new.length ≤ 35184372088832) :
    ∃ v' h', stepI h (evalO s) (.app z by_ zero x y) = some (v', h') ∧ BufG h' z (els ++ new) v' ∧ h.length ≤ h'.length ∧ (∀ (j : Nat) (o : VO), h[j]? = some o → (∀ e g, o ≠ VO.arr z e g false) → h'[j]? = some o) := by
  have hm : maxBytes = 35184372088832 := rfl
  have hl : lenV (evalO s x) = some els.length := by rw [hx]; exact hb.len
  have hE : elsOf h z (evalO s x) = some els := by rw [hx]; exact hb.els
  simp only [stepI, hy, hl, hm, h1, h2, and_self, if_true]
  by_cases hn : new = []
  · subst hn
    simp only [if_true, hE]
    refine ⟨_, _, rfl, ?_, Nat.le_refl _, (fun j o ho _ => ho)⟩
    rw [hx, List.append_nil]; exact hb
  · simp only [if_neg hn]
    rcases hb with ⟨rfl, rfl⟩ | ⟨id, g, hne, rfl, h3⟩
    · rw [hx]
      refine ⟨_, _, rfl, .inr ⟨h.length, 0, by simpa using hn, ?_, ?_⟩, by simp, (fun j o ho _ => ?_)⟩
      · simp
      · simp
      · rw [List.getElem?_append_left (List.getElem?_eq_some_iff.1 ho).1]; exact ho
    · rw [hx]
      simp only [h3, Nat.zero_add, Nat.le_refl, and_self, if_true, Bool.false_eq_true, if_false, List.drop_zero, List.take_length]
      have hid : id < h.length := (List.getElem?_eq_some_iff.1 h3).1
      refine ⟨_, _, rfl, .inr ⟨id, g + 1, by simp [hne], ?_, ?_⟩, by simp, (fun j o ho hno => ?_)⟩
      · rw [List.length_append]
      · rw [List.getElem?_set_self hid]
      · have : id ≠ j := by
          rintro rfl
          rw [h3] at ho
          cases ho
          exact hno _ _ rfl
        rw [List.getElem?_set_ne this]; exact ho

theorem XD_appG {z by_ : Nat} {zero : List CV} {els new : List (List CV)} {v : VV}
    (hb : BufG h z els v) (hx : evalO s x = v) (hy : srcOf h z (evalO s y) = some new) (h1 : (els.length + new.length) * by_ ≤ 35184372088832) (h2 : els.length + new.length ≤ 35184372088832)
    (hk : ∀ v' h', BufG h' z (els ++ new) v' → h.length ≤ h'.length → (∀ (j : Nat) (o : VO), h[j]? = some o → (∀ e g, o ≠ VO.arr z e g false) → h'[j]? = some o) → XD F q ⟨putD s d v', h'⟩ Q) :
    XD F ((⟨none, d, .app z by_ zero x y⟩, .k) :: q) ⟨s, h⟩ Q := by
  obtain ⟨v', h', e, a1, a2, a3⟩ := st_app (zero := zero) hb hx hy h1 h2
  rw [XD_ins rfl, e, XVD_k]
  exact hk v' h' a1 a2 a3
end

theorem eB_replicate (n : Nat) : List.replicate n [CV.sc (.int .u8 0)] = eB (List.replicate n 0) := by
  simp [eB, byteCell]

/-- What the last object's value is, closed. -/
theorem clos_last {h : Heap} {z : Nat} {els : List (List CV)} {g n : Nat} {ex : Bool} (hn : els.length = n) :
    clos (h ++ [.arr z els g false]) (.own h.length g 0 n ex) = some (.sl z els ex, h ++ [.arr z els g true]) := by
  subst hn
  simp [clos]

/-- The last object's element. -/
theorem ia_last {h : Heap} {z : Nat} {els : List (List CV)} {g n i : Nat} {ex : Bool} {k : IntKind} (hi : i < n) : iaO (h ++ [.arr z els g false]) z (.own h.length g 0 n ex) (vi k (i : Int)) = some (.eptr h.length g i 0, h ++ [.arr z els g false]) := by
  rw [ia_own (els := els) (fr := false) (by omega) (by simp) (by simpa using hi)]
  simp
theorem st_last {h : Heap} {l : List UInt8} {g i : Nat} {b : UInt8} (hi : i < l.length) : stO (h ++ [.arr 1 (eB l) g false]) 1 (.eptr h.length g i 0) (vi .u8 b.toNat) = some (.undef, h ++ [.arr 1 (eB (l.set i b)) g false]) := by
  have he : (eB l)[i]? = some [.sc (.int .u8 (l[i]'hi).toNat)] := eB_get (List.getElem?_eq_getElem hi)
  have e2 : eB (l.set i b) = (eB l).set i (byteCell b) := by simp [eB, List.map_set]
  rw [e2]
  simp [stO, stepI, rhoO, cellsOf, closL, clos, he, splice, byteCell]
theorem ld_last {h : Heap} {l : List UInt8} {g i : Nat} {b : UInt8} (hi : l[i]? = some b) : ldO (h ++ [.arr 1 (eB l) g false]) false 1 (.eptr h.length g i 0) = some (vi .u8 b.toNat, h ++ [.arr 1 (eB l) g false]) :=
  ld_eptr (z := 1) (fr := false) (by simp) (eB_get hi) rfl

/-- It ends here, and so: of the slots and the heap. -/
def NM2 (Mid : List VV → Heap → Prop) : Pst := fun o st => o = .norm ∧ Mid st.s st.h
theorem NM2_norm {Mid : List VV → Heap → Prop} {s : List VV} {h : Heap} : NM2 Mid .norm ⟨s, h⟩ ↔ Mid s h := ⟨fun h => h.2, fun h => ⟨rfl, h⟩⟩
theorem NM2_to {F : Nat → Option FnIR} {Mid : List VV → Heap → Prop} {tail : IR} {Q : Pst} (hr : ∀ s h, Mid s h → X F tail ⟨s, h⟩ Q) : ∀ o st, NM2 Mid o st → K F tail Q o st := by
  rintro o ⟨s, h⟩ ⟨rfl, hm⟩
  exact hr s h hm
theorem XB_cut2 {F : Nat → Option FnIR} {p : Prop} [Decidable p] {a b tail : IR} {st : St} {Q : Pst} (Mid : List VV → Heap → Prop) (hp : p → X F a st (NM2 Mid)) (hq : ¬p → X F b st (NM2 Mid)) (hr : ∀ s h, Mid s h → X F tail ⟨s, h⟩ Q) :
    XB F (.cv (.sc (.bool (decide p)))) a b st (K F tail Q) :=
  XB_dec (fun h => (hp h).mono (NM2_to hr)) (fun h => (hq h).mono (NM2_to hr))
/-- It ends here, or it goes out with a result. -/
def NR2 (Mid : List VV → Heap → Prop) (Q : Pst) : Pst := fun o st => match o with
  | .norm => Mid st.s st.h
  | o => Q o st
theorem NR2_norm {Mid : List VV → Heap → Prop} {Q : Pst} {s : List VV} {h : Heap} : NR2 Mid Q .norm ⟨s, h⟩ ↔ Mid s h := Iff.rfl
theorem NR2_ret {Mid : List VV → Heap → Prop} {Q : Pst} {st : St} : NR2 Mid Q .ret st ↔ Q .ret st := Iff.rfl
theorem NR2_exit {Mid : List VV → Heap → Prop} {Q : Pst} {st : St} {i : Nat} : NR2 Mid Q (.exit i) st ↔ Q (.exit i) st := Iff.rfl
theorem NR2_goto {Mid : List VV → Heap → Prop} {Q : Pst} {st : St} {i : Nat} : NR2 Mid Q (.goto i) st ↔ Q (.goto i) st := Iff.rfl
theorem NR2_to {F : Nat → Option FnIR} {Mid : List VV → Heap → Prop} {tail : IR} {Q : Pst} (hr : ∀ s h, Mid s h → X F tail ⟨s, h⟩ Q) : ∀ o st, NR2 Mid Q o st → K F tail Q o st := by
  rintro o ⟨s, h⟩ hm
  cases o with
  | norm => exact hr s h hm
  | _ => exact hm

end Go.Vm
