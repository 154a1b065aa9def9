/- Part of a proof: of what it says, and when, each theorem tells itself. -/
import Derived.Test.YtjggjjplnbjcpaaVmAll2
/-
  Vm: what is written no more; slices that grow, step by step (own work).
-/
set_option linter.unusedSimpArgs false
set_option linter.unusedVariables false
namespace Go.Vm
open Go

/-- A slice that is read, written no more. -/
def VZ (h : Heap) (z : Nat) (els : List (List CV)) (v : VV) : Prop :=
  SlV z els v ∨ ∃ id g off ex full, v = .own id g off els.length ex ∧ h[id]? = some (.arr z full g true) ∧ off + els.length ≤ full.length ∧ els = (full.drop off).take els.length
/-- What is written no more stays. -/
def KZ (h h' : Heap) : Prop := ∀ (j z : Nat) (e : List (List CV)) (g : Nat), h[j]? = some (.arr z e g true) → h'[j]? = some (.arr z e g true)
/-- All but what grows stays. -/
def KG (z : Nat) (h h' : Heap) : Prop := h.length ≤ h'.length ∧ ∀ (j : Nat) (o : VO), h[j]? = some o → (∀ e g, o ≠ VO.arr z e g false) → h'[j]? = some o
theorem KZ.refl (h : Heap) : KZ h h := fun _ _ _ _ e => e
theorem KZ.trans {a b c : Heap} (x : KZ a b) (y : KZ b c) : KZ a c := fun j z e g hj => y j z e g (x j z e g hj)
theorem KG.kz {z : Nat} {h h' : Heap} (k : KG z h h') : KZ h h' := fun j z' e g hj => k.2 j _ hj (fun e' g' hh => by cases hh)
theorem KG.box {z : Nat} {h h' : Heap} (k : KG z h h') {j : Nat} {cells : List VV} {fr : Bool} (hj : h[j]? = some (.box cells fr)) : h'[j]? = some (.box cells fr) := k.2 j _ hj (fun e' g' hh => by cases hh)
theorem KG.loop {z : Nat} {h h' : Heap} (k : KG z h h') {j : Nat} {ps : List Nat} {a b : IR} {s : List VV} {t : LoopState} {p : Option Jmp} (hj : h[j]? = some (.loop ps a b s t p)) : h'[j]? = some (.loop ps a b s t p) := k.2 j _ hj (fun e' g' hh => by cases hh)
theorem HExt.kz {h h' : Heap} (e : HExt h h') : KZ h h' := fun j z l g hj => e.get hj
theorem KZ.setBox (h : Heap) {i : Nat} {cells : List VV} {fr : Bool} (hb : h[i]? = some (.box cells fr)) (o : VO) : KZ h (h.set i o) := fun j z e g hj => by
  rw [List.getElem?_set_ne (by rintro rfl; rw [hb] at hj; cases hj)]; exact hj
theorem KZ.setLoop (h : Heap) {i : Nat} {ps : List Nat} {a b : IR} {s : List VV} {t : LoopState} {p : Option Jmp} (hb : h[i]? = some (.loop ps a b s t p)) (o : VO) : KZ h (h.set i o) := fun j z e g hj => by
  rw [List.getElem?_set_ne (by rintro rfl; rw [hb] at hj; cases hj)]; exact hj
theorem BufG.kg {h h' : Heap} {z z' : Nat} {els : List (List CV)} {v : VV} (b : BufG h z els v) (k : KG z' h h') (hz : z ≠ z') : BufG h' z els v := by
  rcases b with b | ⟨id, g, hne, h1, h2⟩
  · exact .inl b
  · exact .inr ⟨id, g, hne, h1, k.2 id _ h2 (fun e g' hh => by cases hh; exact hz rfl)⟩
theorem BufG.hext {h h' : Heap} {z : Nat} {els : List (List CV)} {v : VV} (b : BufG h z els v) (k : HExt h h') : BufG h' z els v := by
  rcases b with b | ⟨id, g, hne, h1, h2⟩
  · exact .inl b
  · exact .inr ⟨id, g, hne, h1, k.get h2⟩
theorem BufG.setLoop {h : Heap} {z : Nat} {els : List (List CV)} {v : VV} (hb : BufG h z els v) {i : Nat} {ps : List Nat} {a b : IR} {s : List VV} {t : LoopState} {p : Option Jmp} (ho : h[i]? = some (.loop ps a b s t p)) (o : VO) : BufG (h.set i o) z els v := by
  rcases hb with b | ⟨id, g, hne, h1, h2⟩
  · exact .inl b
  · exact .inr ⟨id, g, hne, h1, by rw [List.getElem?_set_ne (by rintro rfl; rw [ho] at h2; cases h2)]; exact h2⟩
theorem BufG.vf {h : Heap} {z : Nat} {els : List (List CV)} {v : VV} (b : BufG h z els v) : VF h z els v := by
  rcases b with ⟨rfl, rfl⟩ | ⟨id, g, hne, rfl, h2⟩
  · exact VF.nil
  · exact .inr ⟨id, g, 0, false, false, els, rfl, h2, by omega, by simp⟩
theorem ld_p0 {h : Heap} {id : Nat} {v : VV} {fr : Bool} (ho : h[id]? = some (.box [v] fr)) : ldO h false 1 (.ptr id 0) = some (v, h) := ld_ptr ho rfl
theorem BufG.vf_cell {h : Heap} {z : Nat} {els : List (List CV)} {v : VV} (b : BufG h z els v) : isCell v = true := by
  rcases b with ⟨_, rfl⟩ | ⟨_, _, _, rfl, _⟩ <;> rfl
theorem BufG.lnO' {h : Heap} {z : Nat} {els : List (List CV)} {v : VV} (b : BufG h z els v) : lnO false v = some (vi .i64 els.length) := b.vf.ln

theorem app_BG {h : Heap} {z by_ : Nat} {zero : List CV} {els new : List (List CV)} {v : VV} {x y : Opd} {s : List VV} (b : BufG h z els v) (hx : evalO s x = v) (hy : srcOf h z (evalO s y) = some new) (h1 : (els.length + new.length) * by_ ≤ 35184372088832) (h2 : els.length + new.length ≤ 35184372088832) :
    ∃ v' h', stepI h (evalO s) (.app z by_ zero x y) = some (v', h') ∧ BufG h' z (els ++ new) v' ∧ KG z h h' := by
  have hm : maxBytes = 35184372088832 := rfl
  by_cases hn : new = []
  · subst hn
    have e1 := b.els
    simp only [List.length_nil, Nat.add_zero] at h1 h2
    refine ⟨v, h, ?_, by rw [List.append_nil]; exact b, Nat.le_refl _, fun _ _ e _ => e⟩
    simp [stepI, hy, hx, b.len, hm, h1, h2, e1]
  · rcases b with ⟨rfl, rfl⟩ | ⟨id, g, hne, rfl, h3⟩
    · simp only [List.length_nil, Nat.zero_add] at h1 h2
      refine ⟨.own h.length 0 0 new.length false, h ++ [.arr z new 0 false], ?_, .inr ⟨h.length, 0, by simpa using hn, by simp, by simp⟩, by simp, fun j o ho _ => by rw [List.getElem?_append_left (lt_at ho)]; exact ho⟩
      simp only [stepI, hy, hx, lenV, hm, Nat.zero_add, h1, h2, and_self, if_true, hn, if_false]
    · have hid := lt_at h3
      refine ⟨.own id (g + 1) 0 (els.length + new.length) false, h.set id (.arr z (els ++ new) (g + 1) false), ?_, .inr ⟨id, g + 1, by simp [hne], by simp, by rw [List.getElem?_set_self hid]⟩, by simp, fun j o ho hno => ?_⟩
      · simp only [stepI, hy, hx, lenV, hm, h1, h2, and_self, if_true, h3, Nat.zero_add, Nat.le_refl, Bool.false_eq_true, if_false, List.drop_zero, List.take_length, hn]
      · rw [List.getElem?_set_ne (by rintro rfl; rw [h3] at ho; cases ho; exact hno _ _ rfl)]; exact ho
theorem XO_appBG {F : Nat → Option FnIR} {h : Heap} {z by_ : Nat} {zero : List CV} {els new : List (List CV)} {v : VV} {x y : Opd} {s : List VV} {d : Option Nat} {r : List Op1} {Q : Pst} (b : BufG h z els v) (hx : evalO s x = v) (hy : srcOf h z (evalO s y) = some new) (h1 : (els.length + new.length) * by_ ≤ 35184372088832) (h2 : els.length + new.length ≤ 35184372088832)
    (hk : ∀ v' h', BufG h' z (els ++ new) v' → KG z h h' → XO F r ⟨putD s d v', h'⟩ Q) : XO F (⟨none, d, .app z by_ zero x y⟩ :: r) ⟨s, h⟩ Q := by
  obtain ⟨v', h', e1, e2, e3⟩ := app_BG (zero := zero) b hx hy h1 h2
  rw [XO_ins rfl, e1, XV_some]
  exact hk v' h' e2 e3

section
variable {h h' : Heap} {z : Nat} {els : List (List CV)} {v : VV}
theorem VZ.vf (b : VZ h z els v) : VF h z els v := by
  rcases b with b | ⟨id, g, off, ex, full, h1, h2, h3⟩
  · exact .inl b
  · exact .inr ⟨id, g, off, ex, true, full, h1, h2, h3⟩
theorem VZ.kz (b : VZ h z els v) (k : KZ h h') : VZ h' z els v := by
  rcases b with b | ⟨id, g, off, ex, full, h1, h2, h3⟩
  · exact .inl b
  · exact .inr ⟨id, g, off, ex, full, h1, k _ _ _ _ h2, h3⟩
theorem set_at_same {h : Heap} {i : Nat} {o : VO} (e : h[i]? = some o) : h.set i o = h := by
  apply List.ext_getElem?
  intro j
  by_cases hj : i = j
  · subst hj; rw [List.getElem?_set_self (lt_at e), e]
  · rw [List.getElem?_set_ne hj]
theorem VZ.clos (b : VZ h z els v) : ∃ w, closA h v = some (w, h) ∧ SlV z els w := by
  rcases b with b | ⟨id, g, off, ex, full, rfl, a, a2, a3⟩
  · refine ⟨v, ?_, b⟩
    rcases b with ⟨rfl, rfl⟩ | ⟨ex, rfl⟩ <;> rfl
  · refine ⟨.cv (.sl z els ex), ?_, .inr ⟨ex, rfl⟩⟩
    have hs := set_at_same a
    simp [closA, Go.Vm.clos, a, a2, hs]
    exact a3.symm
theorem VZ.upto (b : VZ h z els v) {k : IntKind} {n : Nat} (hn : n ≤ els.length) : ∃ w, slO h z v none (some (vi k (n : Int))) none = some (w, h) ∧ VZ h z (els.take n) w := by
  rcases b with b | ⟨id, g, off, ex, full, rfl, a, a2, a3⟩
  · obtain ⟨w, h1, h2⟩ := b.upto (h := h) (k := k) (b := (n : Int)) (by omega) (by omega)
    rw [Int.toNat_natCast] at h1
    exact ⟨w, h2, .inl h1⟩
  · have c1 : (n : Int) ≤ (els.length : Int) := by omega
    have hl : (els.take n).length = n := by rw [List.length_take]; omega
    refine ⟨_, by simp [slO, stepI, rhoO, lenV, bnd, intV, c1, a]; rfl, .inr ⟨id, g, off, _, full, by rw [hl], a, by omega, ?_⟩⟩
    rw [hl]
    conv => lhs; rw [a3]
    rw [List.take_take]
    congr 1; omega
theorem VZ.from_ (b : VZ h z els v) {k : IntKind} {n : Nat} (hn : n ≤ els.length) : ∃ w, slO h z v (some (vi k (n : Int))) none none = some (w, h) ∧ VZ h z (els.drop n) w := by
  rcases b with b | ⟨id, g, off, ex, full, rfl, a, a2, a3⟩
  · obtain ⟨w, h1, h2⟩ := b.from_ (h := h) (k := k) (a := (n : Int)) (by omega) (by omega)
    rw [Int.toNat_natCast] at h1
    exact ⟨w, h2, .inl h1⟩
  · have c1 : (n : Int) ≤ (els.length : Int) := by omega
    have hl : (els.drop n).length = els.length - n := by rw [List.length_drop]
    refine ⟨_, by simp [slO, stepI, rhoO, lenV, bnd, intV, c1, a]; rfl, .inr ⟨id, g, off + n, _, full, by rw [hl], a, by omega, ?_⟩⟩
    rw [hl]
    conv => lhs; rw [a3]
    rw [List.drop_take, List.drop_drop]
/-- It is closed for the first time. -/
theorem VF.closZ (b : VF h z els v) : ∃ w h1, closA h v = some (w, h1) ∧ SlV z els w ∧ Froze h h1 ∧ VZ h1 z els v ∧ KZ h h1 ∧ (∀ z' elsB u, BufG h z' elsB u → (z ≠ z' ∨ elsB = [] ∨ VZ h z els v) → BufG h1 z' elsB u) := by
  rcases b with b | ⟨id, g, off, ex, fr, full, rfl, a, a2, a3⟩
  · refine ⟨v, h, ?_, b, Froze.refl h, .inl b, KZ.refl h, fun _ _ _ hb _ => hb⟩
    rcases b with ⟨rfl, rfl⟩ | ⟨ex, rfl⟩ <;> rfl
  · have hf : Froze h (h.set id (.arr z full g true)) := by
      refine ⟨by simp, fun j o e hn => ?_, fun j z' e' g' fr' hj => ?_⟩
      · rw [List.getElem?_set_ne (by rintro rfl; rw [a] at e; cases e; exact hn _ _ _ _ rfl)]; exact e
      · by_cases hij : id = j
        · subst hij
          rw [a] at hj; cases hj
          exact ⟨true, by rw [List.getElem?_set_self (lt_at a)]⟩
        · exact ⟨fr', by rw [List.getElem?_set_ne hij]; exact hj⟩
    refine ⟨.cv (.sl z els ex), h.set id (.arr z full g true), by simp [closA, Go.Vm.clos, a, a2]; exact a3.symm, .inr ⟨ex, rfl⟩, hf, .inr ⟨id, g, off, ex, full, rfl, by rw [List.getElem?_set_self (lt_at a)], a2, a3⟩, fun j z' e' g' hj => ?_, fun z' elsB u hb hc => ?_⟩
    · by_cases hij : id = j
      · subst hij
        rw [a] at hj; cases hj
        rw [List.getElem?_set_self (lt_at a)]
      · rw [List.getElem?_set_ne hij]; exact hj
    · rcases hb with hb | ⟨id', g', hne, rfl, h2⟩
      · exact .inl hb
      · refine .inr ⟨id', g', hne, rfl, ?_⟩
        have : id ≠ id' := by
          rintro rfl
          rw [a] at h2
          cases h2
          rcases hc with hc | hc | hc
          · exact hc rfl
          · exact hne hc
          · rcases hc with hc | ⟨id2, g2, off2, ex2, full2, e, e2, _⟩
            · rcases hc with ⟨e, _⟩ | ⟨_, e⟩ <;> cases e
            · cases e; rw [a] at e2; cases e2
        rw [List.getElem?_set_ne this]; exact h2
end
theorem Froze.box' {h h1 : Heap} (f : Froze h h1) {j : Nat} {cells : List VV} {fr : Bool} (hj : h[j]? = some (.box cells fr)) : h1[j]? = some (.box cells fr) := f.box j _ hj (fun _ _ _ _ e => by cases e)
theorem Froze.loop' {h h1 : Heap} (f : Froze h h1) {j : Nat} {ps : List Nat} {a b : IR} {s : List VV} {t : LoopState} {p : Option Jmp} (hj : h[j]? = some (.loop ps a b s t p)) : h1[j]? = some (.loop ps a b s t p) := f.box j _ hj (fun _ _ _ _ e => by cases e)
theorem VZ.cellv {h : Heap} {z : Nat} {els : List (List CV)} {v : VV} (b : VZ h z els v) : isCell v = true := by
  rcases b with (⟨rfl, _⟩ | ⟨_, rfl⟩) | ⟨_, _, _, _, _, rfl, _⟩ <;> rfl
theorem VF.cellv {h : Heap} {z : Nat} {els : List (List CV)} {v : VV} (b : VF h z els v) : isCell v = true := by
  rcases b with (⟨rfl, _⟩ | ⟨_, rfl⟩) | ⟨_, _, _, _, _, _, rfl, _⟩ <;> rfl

end Go.Vm
