/-
  Vm: more ways to go on (own work).
-/
import Derived.Test.YtpingdgbndmcnaaVmVal
namespace Go.Vm
open Go

section
variable {F : Nat → Option FnIR}

/-- It ends here, and so. -/
def NM (Mid : St → Prop) : Pst := fun o st => o = .norm ∧ Mid st
theorem NM_norm {Mid : St → Prop} {st : St} : NM Mid .norm st ↔ Mid st := ⟨fun h => h.2, fun h => ⟨rfl, h⟩⟩
theorem NM_to {Mid : St → Prop} {tail : IR} {Q : Pst} (hr : ∀ s h, Mid ⟨s, h⟩ → X F tail ⟨s, h⟩ Q) : ∀ o st, NM Mid o st → K F tail Q o st := by
  rintro o ⟨s, h⟩ ⟨rfl, hm⟩
  exact hr s h hm

/-- A branch behind which all is one. -/
theorem XB_cut {p : Prop} [Decidable p] {a b tail : IR} {st : St} {Q : Pst} (Mid : St → Prop) (hp : p → X F a st (NM Mid)) (hq : ¬p → X F b st (NM Mid)) (hr : ∀ s h, Mid ⟨s, h⟩ → X F tail ⟨s, h⟩ Q) :
    XB F (.cv (.sc (.bool (decide p)))) a b st (K F tail Q) :=
  XB_dec (fun h => (hp h).mono (NM_to hr)) (fun h => (hq h).mono (NM_to hr))
theorem XB_cutb {t : Bool} {a b tail : IR} {st : St} {Q : Pst} (Mid : St → Prop) (hp : t = true → X F a st (NM Mid)) (hq : t = false → X F b st (NM Mid)) (hr : ∀ s h, Mid ⟨s, h⟩ → X F tail ⟨s, h⟩ Q) :
    XB F (.cv (.sc (.bool t))) a b st (K F tail Q) :=
  XB_bool (fun h => (hp h).mono (NM_to hr)) (fun h => (hq h).mono (NM_to hr))

def ValIs' (v : VV) (v' : VV) (_ : Heap) : Prop := v' = v
theorem ValIs'.refl (v : VV) (h : Heap) : ValIs' v v h := rfl

/-- A law's call. -/
theorem call_V {f : Nat} {fn : FnIR} (hf : F f = some fn) {a : List VV} {v : VV}
    (hx : X F fn.body ⟨a ++ List.replicate (fn.nt - a.length) .undef, []⟩ (RQ fn.res (ValIs' v))) : ∃ h', call F f a [] = some (.ret v, h') := by
  obtain ⟨v1, h1, hc, e1⟩ := call_E hf hx
  exact ⟨h1, by rw [hc, e1]⟩

theorem bo_eqb {neg s t : Bool} : (.cv (.sc (.bool (if neg then !(s == t) else s == t))) : VV) = vb (if neg then !(s == t) else s == t) := rfl
def eqbO (neg : Bool) : VV → VV → Option VV
  | .cv (.sc (.bool a)), .cv (.sc (.bool b)) => some (vb (if neg then !(a == b) else a == b))
  | _, _ => none
theorem eqb_eq {a b : Bool} : eqbO false (vb a) (vb b) = some (vb (a == b)) := rfl
theorem eqb_ne {a b : Bool} : eqbO true (vb a) (vb b) = some (vb (!(a == b))) := rfl
variable {d : Option Nat} {x y z : Opd} {r : List Op1} {c : Cl} {q : List (Op1 × Cl)} {s : List VV} {h : Heap} {Q : Pst}
theorem st_eqb {neg : Bool} : stepI h (evalO s) (.eqb neg x y) = (eqbO neg (evalO s x) (evalO s y)).map (·, h) := by
  simp only [stepI]
  generalize evalO s x = a
  generalize evalO s y = b
  cases a with
  | cv c => cases c with
    | sc u =>
      cases u with
      | bool t =>
        cases b with
        | cv c' => cases c' with
          | sc u' => cases u' <;> rfl
          | sl _ _ _ => rfl
        | _ => rfl
      | _ => rfl
    | sl _ _ _ => rfl
  | _ => rfl
theorem XO_eqb {neg : Bool} : XO F (⟨none, d, .eqb neg x y⟩ :: r) ⟨s, h⟩ Q ↔ XW F (eqbO neg (evalO s x) (evalO s y)) h d r s Q := XW_of rfl st_eqb
theorem XD_eqb {neg : Bool} : XD F ((⟨none, d, .eqb neg x y⟩, c) :: q) ⟨s, h⟩ Q ↔ XWD F (eqbO neg (evalO s x) (evalO s y)) h d q s Q := XWD_of rfl st_eqb

def unO (op : UnOp) : VV → Option VV
  | .cv (.sc a) => (unV op a).map fun v => .cv (.sc v)
  | _ => none
theorem un_not {b : Bool} : unO .not (vb b) = some (vb (!b)) := rfl
theorem st_un {op : UnOp} : stepI h (evalO s) (.un op x) = (unO op (evalO s x)).map (·, h) := by
  simp only [stepI]
  generalize evalO s x = a
  cases a with
  | cv c => cases c with
    | sc u => simp only [unO]; cases unV op u <;> rfl
    | sl _ _ _ => rfl
  | _ => rfl
theorem XO_un {op : UnOp} : XO F (⟨none, d, .un op x⟩ :: r) ⟨s, h⟩ Q ↔ XW F (unO op (evalO s x)) h d r s Q := XW_of rfl st_un
theorem XD_un {op : UnOp} : XD F ((⟨none, d, .un op x⟩, c) :: q) ⟨s, h⟩ Q ↔ XWD F (unO op (evalO s x)) h d q s Q := XWD_of rfl st_un

/-- A guard's truth, and its other. -/
theorem XGD_t {t b : Bool} {i : Ins} (hp : t = b → XD F ((⟨none, d, i⟩, c) :: q) ⟨s, h⟩ Q) (hq : t = (!b) → XD F q ⟨putD s d .undef, h⟩ Q) : XGD F (.cv (.sc (.bool t))) b d i c q s h Q := by
  refine ⟨t, rfl, ?_⟩
  by_cases e : t = b
  · rw [if_pos e]; exact hp e
  · rw [if_neg e]; exact hq (by cases t <;> cases b <;> simp_all)

theorem tmod_nat {a m : Nat} : (a : Int).tmod (m : Int) = ((a % m : Nat) : Int) := rfl
theorem tdiv_nat {a m : Nat} : (a : Int).tdiv (m : Int) = ((a / m : Nat) : Int) := rfl
end

/-! ### arrays of the frame's own -/

/-- v is a whole array of the frame's own. -/
def OwnV (ex : Bool) (h : Heap) (z : Nat) (els : List (List CV)) (v : VV) : Prop := ∃ id g, v = .own id g 0 els.length ex ∧ h[id]? = some (.arr z els g false)

theorem BufG.own {h : Heap} {z : Nat} {els : List (List CV)} {v : VV} (hb : BufG h z els v) (hn : els ≠ []) : OwnV false h z els v := by
  rcases hb with ⟨e, _⟩ | ⟨id, g, _, h1, h2⟩
  · exact absurd e hn
  · exact ⟨id, g, h1, h2⟩
theorem OwnV.ln {ex : Bool} {h : Heap} {z : Nat} {els : List (List CV)} {v : VV} (hb : OwnV ex h z els v) : lnO false v = some (vi .i64 els.length) := by
  obtain ⟨id, g, rfl, _⟩ := hb; rfl
theorem BufG.ln {h : Heap} {z : Nat} {els : List (List CV)} {v : VV} (hb : BufG h z els v) : lnO false v = some (vi .i64 els.length) := by
  unfold lnO; simp only [Bool.false_eq_true, if_false, hb.len]; rfl
theorem OwnV.els {ex : Bool} {h : Heap} {z : Nat} {els : List (List CV)} {v : VV} (hb : OwnV ex h z els v) : elsOf h z v = some els := by
  obtain ⟨id, g, rfl, h2⟩ := hb
  simp [elsOf, h2]
theorem OwnV.src {ex : Bool} {h : Heap} {z : Nat} {els : List (List CV)} {v : VV} (hb : OwnV ex h z els v) : srcOf h z v = some els := by
  have := hb.els
  obtain ⟨id, g, rfl, h2⟩ := hb
  exact this
theorem BufG.src {h : Heap} {z : Nat} {els : List (List CV)} {v : VV} (hb : BufG h z els v) : srcOf h z v = some els := by
  have := hb.els
  rcases hb with ⟨rfl, rfl⟩ | ⟨id, g, _, rfl, h2⟩
  · rfl
  · exact this

/-- An element's place. -/
theorem OwnV.at_ {ex : Bool} {h : Heap} {z : Nat} {els : List (List CV)} {v : VV} (hb : OwnV ex h z els v) {i : Nat} (hi : i < els.length) :
    ∃ p, (∀ k, iaO h z v (vi k (i : Int)) = some (p, h)) ∧ (∀ e c off, els[i]? = some e → e[off]? = some c → ∃ p', fdO off p = some p' ∧ ldO h false 1 p' = some (.cv c, h)) ∧
      (∀ e off, els[i]? = some e → off < e.length → ∃ p', fdO off p = some p' ∧ ∀ c : CV, ∃ h', stO h 1 p' (.cv c) = some (.undef, h') ∧ OwnV ex h' z (els.set i (e.set off c)) v) := by
  obtain ⟨id, g, rfl, h2⟩ := hb
  refine ⟨.eptr id g i 0, fun k => ?_, fun e c off he hc => ⟨.eptr id g i off, by rw [fd_e, Nat.zero_add], ld_eptr h2 he hc⟩, fun e off he ho => ⟨.eptr id g i off, by rw [fd_e, Nat.zero_add], fun c => ?_⟩⟩
  · rw [ia_own (by omega) h2 (by simpa using hi)]
    simp
  · have hid : id < h.length := (List.getElem?_eq_some_iff.1 h2).1
    have hsp : splice e off [c] = e.set off c := by
      unfold splice
      simp only [List.length_singleton]
      rw [List.set_eq_take_append_cons_drop, if_pos ho, List.append_assoc, List.singleton_append]
    refine ⟨h.set id (.arr z (els.set i (e.set off c)) g false), ?_, id, g, by rw [List.length_set], by rw [List.getElem?_set_self hid]⟩
    have ho' : off + 1 ≤ e.length := ho
    simp [stO, stepI, rhoO, cellsOf, closL, clos, h2, he, ho', hsp]

/-- Of bytes: an element's place. -/
theorem OwnV.byte {ex : Bool} {h : Heap} {l : List UInt8} {v : VV} (hb : OwnV ex h 1 (eB l) v) {i : Nat} {b : UInt8} (hi : l[i]? = some b) :
    ∃ p, (∀ k, iaO h 1 v (vi k (i : Int)) = some (p, h)) ∧ ldO h false 1 p = some (vi .u8 b.toNat, h) ∧ ∀ c : UInt8, ∃ h', stO h 1 p (vi .u8 c.toNat) = some (.undef, h') ∧ OwnV ex h' 1 (eB (l.set i c)) v := by
  have hlt : i < (eB l).length := by rw [eB_len]; exact (List.getElem?_eq_some_iff.1 hi).1
  obtain ⟨p, h1, h2, h3⟩ := hb.at_ hlt
  refine ⟨p, h1, ?_, fun c => ?_⟩
  · obtain ⟨p', e1, e2⟩ := h2 _ _ 0 (eB_get hi) rfl
    have : p' = p := by
      cases p <;> simp [fdO] at e1 <;> exact e1.symm
    rw [this] at e2; exact e2
  · obtain ⟨p', e1, e2⟩ := h3 _ 0 (eB_get hi) (Nat.zero_lt_one)
    have : p' = p := by
      cases p <;> simp [fdO] at e1 <;> exact e1.symm
    rw [this] at e2
    obtain ⟨h', e3, e4⟩ := e2 (.sc (.int .u8 c.toNat))
    refine ⟨h', e3, ?_⟩
    have : (eB l).set i [.sc (.int .u8 c.toNat)] = eB (l.set i c) := by
      simp only [eB, List.map_set, byteCell]
    rw [← this]; exact e4

theorem OwnV.close {ex : Bool} {h : Heap} {z : Nat} {els : List (List CV)} {v : VV} (hb : OwnV ex h z els v) : ∃ h1, closA h v = some (.cv (.sl z els ex), h1) ∧ CloseTo (.cv (.sl z els ex)) v h := by
  obtain ⟨id, g, rfl, h2⟩ := hb
  refine ⟨_, by simp [closA, clos, h2]; rfl, ?_⟩
  simp [CloseTo, closRes, closA, clos, h2]

/-- A slice that may be appended to. -/
theorem OwnV.bufG {h : Heap} {z : Nat} {els : List (List CV)} {v : VV} (hb : OwnV false h z els v) (hn : els ≠ []) : BufG h z els v := by
  obtain ⟨id, g, h1, h2⟩ := hb
  exact .inr ⟨id, g, hn, h1, h2⟩

theorem closAs_cons {h h1 h2 : Heap} {v c : VV} {l as : List VV} (hv : closA h v = some (c, h1)) (hl : closAs h1 l = some (as, h2)) : closAs h (v :: l) = some (c :: as, h2) := by
  simp [closAs, hv, hl]

section
variable {z : Nat} {es : List (List CV)} {v : VV} {h : Heap}
theorem SlV.upto (hv : SlV z es v) {k : IntKind} {b : Int} (h2 : 0 ≤ b) (h3 : b ≤ es.length) :
    ∃ v', SlV z (es.take b.toNat) v' ∧ slO h z v none (some (vi k b)) none = some (v', h) := by
  rcases hv with ⟨rfl, rfl⟩ | ⟨ex, rfl⟩
  · have hb : b = 0 := by simp at h3; omega
    subst hb
    exact ⟨nilS, .inl ⟨rfl, by simp⟩, by simp [slO, stepI, rhoO, lenV, bnd, intV]⟩
  · refine ⟨.cv (.sl z (es.take b.toNat) (ex && b.toNat == es.length)), .inr ⟨_, rfl⟩, ?_⟩
    simp [slO, stepI, rhoO, lenV, bnd, intV, h2, h3]
theorem SlV.from_ (hv : SlV z es v) {k : IntKind} {a : Int} (h2 : 0 ≤ a) (h3 : a ≤ es.length) :
    ∃ v', SlV z (es.drop a.toNat) v' ∧ slO h z v (some (vi k a)) none none = some (v', h) := by
  rcases hv with ⟨rfl, rfl⟩ | ⟨ex, rfl⟩
  · have hb : a = 0 := by simp at h3; omega
    subst hb
    exact ⟨nilS, .inl ⟨rfl, by simp⟩, by simp [slO, stepI, rhoO, lenV, bnd, intV]⟩
  · refine ⟨.cv (.sl z (es.drop a.toNat) ex), .inr ⟨_, rfl⟩, ?_⟩
    have e : (es.drop a.toNat).take (es.length - a.toNat) = es.drop a.toNat := List.take_of_length_le (by simp)
    simp [slO, stepI, rhoO, lenV, bnd, intV, h2, h3, e]
end

end Go.Vm
