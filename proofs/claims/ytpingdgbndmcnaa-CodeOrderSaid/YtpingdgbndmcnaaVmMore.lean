/-
  Vm: more ways to go on (own work).
-/
import Derived.Test.YtpingdgbndmcnaaVmVal
namespace Go.Vm
open Go

section
variable {F : Nat → Option FnIR}

/-- It ends here, and so. -/
def NM (Mid : St → Prop) : Pst := fun o st => o = .norm ∧ Mid st
theorem NM_norm {Mid : St → Prop} {st : St} : NM Mid .norm st ↔ Mid st := ⟨fun h => h.2, fun h => ⟨rfl, h⟩⟩
theorem NM_to {Mid : St → Prop} {tail : IR} {Q : Pst} (hr : ∀ s h, Mid ⟨s, h⟩ → X F tail ⟨s, h⟩ Q) : ∀ o st, NM Mid o st → K F tail Q o st := by
  rintro o ⟨s, h⟩ ⟨rfl, hm⟩
  exact hr s h hm

/-- A branch behind which all is one. -/
theorem XB_cut {p : Prop} [Decidable p] {a b tail : IR} {st : St} {Q : Pst} (Mid : St → Prop) (hp : p → X F a st (NM Mid)) (hq : ¬p → X F b st (NM Mid)) (hr : ∀ s h, Mid ⟨s, h⟩ → X F tail ⟨s, h⟩ Q) :
    XB F (.cv (.sc (.bool (decide p)))) a b st (K F tail Q) :=
  XB_dec (fun h => (hp h).mono (NM_to hr)) (fun h => (hq h).mono (NM_to hr))
theorem XB_cutb {t : Bool} {a b tail : IR} {st : St} {Q : Pst} (Mid : St → Prop) (hp : t = true → X F a st (NM Mid)) (hq : t = false → X F b st (NM Mid)) (hr : ∀ s h, Mid ⟨s, h⟩ → X F tail ⟨s, h⟩ Q) :
    XB F (.cv (.sc (.bool t))) a b st (K F tail Q) :=
  XB_bool (fun h => (hp h).mono (NM_to hr)) (fun h => (hq h).mono (NM_to hr))

def ValIs' (v : VV) (v' : VV) (_ : Heap) : Prop := v' = v
theorem ValIs'.refl (v : VV) (h : Heap) : ValIs' v v h := rfl

/-- A law's call. -/
theorem call_V {f : Nat} {fn : FnIR} (hf : F f = some fn) {a : List VV} {v : VV}
    (hx : X F fn.body ⟨a ++ List.replicate (fn.nt - a.length) .undef, []⟩ (RQ fn.res (ValIs' v))) : ∃ h', call F f a [] = some (.ret v, h') := by
  obtain ⟨v1, h1, hc, e1⟩ := call_E hf hx
  exact ⟨h1, by rw [hc, e1]⟩

theorem bo_eqb {neg s t : Bool} : (.cv (.sc (.bool (if neg then !(s == t) else s == t))) : VV) = vb (if neg then !(s == t) else s == t) := rfl
def eqbO (neg : Bool) : VV → VV → Option VV
  | .cv (.sc (.bool a)), .cv (.sc (.bool b)) => some (vb (if neg then !(a == b) else a == b))
  | _, _ => none
theorem eqb_eq {a b : Bool} : eqbO false (vb a) (vb b) = some (vb (a == b)) := rfl
theorem eqb_ne {a b : Bool} : eqbO true (vb a) (vb b) = some (vb (!(a == b))) := rfl
variable {d : Option Nat} {x y z : Opd} {r : List Op1} {c : Cl} {q : List (Op1 × Cl)} {s : List VV} {h : Heap} {Q : Pst}
theorem st_eqb {neg : Bool} : stepI h (evalO s) (.eqb neg x y) = (eqbO neg (evalO s x) (evalO s y)).map (·, h) := by
  simp only [stepI]
  generalize evalO s x = a
  generalize evalO s y = b
  cases a with
  | cv c => cases c with
    | sc u =>
      cases u with
      | bool t =>
        cases b with
        | cv c' => cases c' with
          | sc u' => cases u' <;> rfl
          | sl _ _ _ => rfl
        | _ => rfl
      | _ => rfl
    | sl _ _ _ => rfl
  | _ => rfl
theorem XO_eqb {neg : Bool} : XO F (⟨none, d, .eqb neg x y⟩ :: r) ⟨s, h⟩ Q ↔ XW F (eqbO neg (evalO s x) (evalO s y)) h d r s Q := XW_of rfl st_eqb
theorem XD_eqb {neg : Bool} : XD F ((⟨none, d, .eqb neg x y⟩, c) :: q) ⟨s, h⟩ Q ↔ XWD F (eqbO neg (evalO s x) (evalO s y)) h d q s Q := XWD_of rfl st_eqb

def unO (op : UnOp) : VV → Option VV
  | .cv (.sc a) => (unV op a).map fun v => .cv (.sc v)
  | _ => none
theorem un_not {b : Bool} : unO .not (vb b) = some (vb (!b)) := rfl
theorem st_un {op : UnOp} : stepI h (evalO s) (.un op x) = (unO op (evalO s x)).map (·, h) := by
  simp only [stepI]
  generalize evalO s x = a
  cases a with
  | cv c => cases c with
    | sc u => simp only [unO]; cases unV op u <;> rfl
    | sl _ _ _ => rfl
  | _ => rfl
theorem XO_un {op : UnOp} : XO F (⟨none, d, .un op x⟩ :: r) ⟨s, h⟩ Q ↔ XW F (unO op (evalO s x)) h d r s Q := XW_of rfl st_un
theorem XD_un {op : UnOp} : XD F ((⟨none, d, .un op x⟩, c) :: q) ⟨s, h⟩ Q ↔ XWD F (unO op (evalO s x)) h d q s Q := XWD_of rfl st_un

/-- A guard's truth, and its other. -/
theorem XGD_t {t b : Bool} {i : Ins} (hp : t = b → XD F ((⟨none, d, i⟩, c) :: q) ⟨s, h⟩ Q) (hq : t = (!b) → XD F q ⟨putD s d .undef, h⟩ Q) : XGD F (.cv (.sc (.bool t))) b d i c q s h Q := by
  refine ⟨t, rfl, ?_⟩
  by_cases e : t = b
  · rw [if_pos e]; exact hp e
  · rw [if_neg e]; exact hq (by cases t <;> cases b <;> simp_all)

theorem tmod_nat {a m : Nat} : (a : Int).tmod (m : Int) = ((a % m : Nat) : Int) := rfl
theorem tdiv_nat {a m : Nat} : (a : Int).tdiv (m : Int) = ((a / m : Nat) : Int) := rfl
end

end Go.Vm
