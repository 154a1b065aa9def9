/- Part of a proof: of what it says, and when, each theorem tells itself. -/
import Derived.Test.YtlbhpkgbbnhfcaaVmAll2
import Derived.Test.YtlbhpkgbbnhfcaaC04Ir
namespace Go.V04
open Go Go.Vm

/-! ### whole numbers as doubles -/

/-- A whole number as a double's bits. -/
def fl (n : Nat) : Nat := FloatKind.f64.nearest n
def one64 : Nat := 4607182418800017408
theorem fl0 : fl 0 = 0 := by decide +kernel
theorem fl_add (n : Nat) (h : n < 300) : FloatKind.f64.format.add (fl n) 4607182418800017408 = some (fl (n + 1)) := by
  have : ∀ m : Fin 300, FloatKind.f64.format.add (fl m.val) 4607182418800017408 = some (fl (m.val + 1)) := by decide +kernel
  exact this ⟨n, h⟩
theorem fl_add0 (n : Nat) (h : n < 300) : FloatKind.f64.format.add (fl n) 0 = some (fl n) := by
  have : ∀ m : Fin 300, FloatKind.f64.format.add (fl m.val) 0 = some (fl m.val) := by decide +kernel
  exact this ⟨n, h⟩
theorem fl_ord (n : Nat) (h : n < 300) : FloatKind.f64.format.order (fl n) (fl n) = some .eq := by
  have : ∀ m : Fin 300, FloatKind.f64.format.order (fl m.val) (fl m.val) = some .eq := by decide +kernel
  exact this ⟨n, h⟩


end Go.V04

set_option linter.unusedSimpArgs false
set_option linter.unusedVariables false
namespace Go.V04
open Go Go.Vm

/-! ### a device, in the heap -/

def cB (b : List UInt8) : List CV := b.map fun x => .sc (.int .u8 x.toNat)
theorem cB_len {b : List UInt8} : (cB b).length = b.length := by simp [cB]
abbrev cpx (a b : Nat) : VV := .cv (.sc (.complex .f64 (fl a) (fl b)))

structure D where
  firm : List (List UInt8)
  loose : List (Nat × List UInt8)
  w : Nat
  f : Nat
  fused : Bool
  left : Int

def lE (l : List (Nat × List UInt8)) : List (List CV) := l.map fun o => .sc (.int .i64 o.1) :: cB o.2
def fE (l : List (List UInt8)) : List (List CV) := l.map cB

/-- What may be: sectors are of 64 bytes; writes are to sectors that there are. -/
structure D.OK (d : D) : Prop where
  f64 : ∀ b ∈ d.firm, b.length = 64
  l64 : ∀ o ∈ d.loose, o.2.length = 64 ∧ o.1 < d.firm.length
  n : d.firm.length ≤ 4096
  lw : d.loose.length ≤ 200
  w : d.w < 290
  f : d.f < 290

/-- The array of the sectors: its place, if there is one. -/
def FirmV (h : Heap) (els : List (List CV)) (v : VV) (f : Option Nat) : Prop :=
  (∃ id g ex, f = some id ∧ v = .own id g 0 els.length ex ∧ h[id]? = some (.arr 64 els g false)) ∨ (f = none ∧ els = [] ∧ ∃ ex, v = .cv (.sl 64 [] ex))
def LooseV (h : Heap) (els : List (List CV)) (v : VV) (l : Option Nat) : Prop :=
  (∃ id g, l = some id ∧ els ≠ [] ∧ v = .own id g 0 els.length false ∧ h[id]? = some (.arr 65 els g false)) ∨ (l = none ∧ els = [] ∧ v = nilS)
def DevAt (h : Heap) (p : Nat) (f l : Option Nat) (d : D) : Prop := ∃ vf vl, h[p]? = some (.box [vf, vl, cpx d.w d.f, vb d.fused, vi .i64 d.left] false) ∧ FirmV h (fE d.firm) vf f ∧ LooseV h (lE d.loose) vl l

/-- All else is as it was. -/
structure Kept (h h' : Heap) (p : Nat) (f l : Option Nat) : Prop where
  len : h.length ≤ h'.length
  same : ∀ j, j < h.length → j ≠ p → f ≠ some j → l ≠ some j → h'[j]? = h[j]?
theorem Kept.refl (h : Heap) (p : Nat) (f l : Option Nat) : Kept h h p f l := ⟨Nat.le_refl _, fun _ _ _ _ _ => rfl⟩
theorem Kept.trans {h h1 h2 : Heap} {p : Nat} {f l l1 : Option Nat} (k : Kept h h1 p f l) (k1 : Kept h1 h2 p f l1) (hl : ∀ i, l1 = some i → l = some i ∨ h.length ≤ i) : Kept h h2 p f l := by
  refine ⟨Nat.le_trans k.len k1.len, fun j hj h1 h2 h3 => ?_⟩
  rw [k1.same j (Nat.lt_of_lt_of_le hj k.len) h1 h2 (fun e => ?_), k.same j hj h1 h2 h3]
  rcases hl j e with e' | e'
  · exact h3 e'
  · omega
/-- The place of the writes: as it was, or new, or none. -/
def LNew (h : Heap) (l l' : Option Nat) : Prop := ∀ i, l' = some i → l = some i ∨ h.length ≤ i
theorem LNew.refl (h : Heap) (l : Option Nat) : LNew h l l := fun _ e => .inl e
theorem LNew.trans {h h1 : Heap} {l l1 l2 : Option Nat} (a : LNew h l l1) (b : LNew h1 l1 l2) (hl : h.length ≤ h1.length) : LNew h l l2 := by
  intro i e
  rcases b i e with e' | e'
  · exact a i e'
  · exact .inr (Nat.le_trans hl e')

theorem lt_of_get {h : Heap} {i : Nat} {o : VO} (e : h[i]? = some o) : i < h.length := (List.getElem?_eq_some_iff.1 e).1

/-- A box persists. -/
theorem Kept.box {h h' : Heap} {p : Nat} {f l : Option Nat} {d : D} (hD : DevAt h p f l d) (k : Kept h h' p f l) {j : Nat} {cells : List VV} {fr : Bool} (hj : h[j]? = some (.box cells fr)) (hp : j ≠ p) : h'[j]? = some (.box cells fr) := by
  obtain ⟨vf, vl, h1, h2, h3⟩ := hD
  rw [k.same j (lt_of_get hj) hp ?_ ?_, hj]
  · rintro e
    rcases h2 with ⟨id, g, ex, e1, _, e2⟩ | ⟨e1, _⟩
    · rw [e] at e1; cases e1; rw [hj] at e2; cases e2
    · rw [e] at e1; cases e1
  · rintro e
    rcases h3 with ⟨id, g, e1, _, _, e2⟩ | ⟨e1, _⟩
    · rw [e] at e1; cases e1; rw [hj] at e2; cases e2
    · rw [e] at e1; cases e1

/-- Another device persists. -/
theorem Kept.dev {h h' : Heap} {p : Nat} {f l : Option Nat} {d : D} (hD : DevAt h p f l d) (k : Kept h h' p f l) {p2 : Nat} {f2 l2 : Option Nat} {d2 : D} (hD2 : DevAt h p2 f2 l2 d2)
    (hp : p2 ≠ p) (hf : ∀ i, f = some i → f2 ≠ some i) (hl : ∀ i, l = some i → l2 ≠ some i) : DevAt h' p2 f2 l2 d2 := by
  have hB := @Kept.box h h' p f l d hD k
  obtain ⟨vf, vl, h1, h2, h3⟩ := hD2
  refine ⟨vf, vl, hB h1 hp, ?_, ?_⟩
  · rcases h2 with ⟨id, g, ex, e1, e2, e3⟩ | e
    · refine .inl ⟨id, g, ex, e1, e2, ?_⟩
      obtain ⟨vf', vl', a1, a2, a3⟩ := hD
      rw [k.same id (lt_of_get e3) ?_ ?_ ?_, e3]
      · rintro rfl; rw [e3] at a1; cases a1
      · exact fun e => hf id e e1
      · rintro e
        rcases a3 with ⟨id', g', b1, _, _, b2⟩ | ⟨b1, _⟩
        · rw [e] at b1; cases b1; rw [e3] at b2; cases b2
        · rw [e] at b1; cases b1
    · exact .inr e
  · rcases h3 with ⟨id, g, e1, e2, e4, e3⟩ | e
    · refine .inl ⟨id, g, e1, e2, e4, ?_⟩
      obtain ⟨vf', vl', a1, a2, a3⟩ := hD
      rw [k.same id (lt_of_get e3) ?_ ?_ ?_, e3]
      · rintro rfl; rw [e3] at a1; cases a1
      · rintro e
        rcases a2 with ⟨id', g', ex', b1, _, b2⟩ | ⟨b1, _⟩
        · rw [e] at b1; cases b1; rw [e3] at b2; cases b2
        · rw [e] at b1; cases b1
      · exact fun e => hl id e e1
    · exact .inr e

theorem FirmV.ln {h : Heap} {els : List (List CV)} {v : VV} {f : Option Nat} (hF : FirmV h els v f) : lnO false v = some (vi .i64 els.length) := by
  rcases hF with ⟨id, g, ex, _, rfl, _⟩ | ⟨_, rfl, ex, rfl⟩ <;> rfl
theorem LooseV.ln {h : Heap} {els : List (List CV)} {v : VV} {l : Option Nat} (hL : LooseV h els v l) : lnO false v = some (vi .i64 els.length) := by
  rcases hL with ⟨id, g, _, _, rfl, _⟩ | ⟨_, rfl, rfl⟩ <;> rfl
theorem LooseV.buf {h : Heap} {els : List (List CV)} {v : VV} {l : Option Nat} (hL : LooseV h els v l) : BufG h 65 els v := by
  rcases hL with ⟨id, g, _, h1, rfl, h2⟩ | ⟨_, rfl, rfl⟩
  · exact .inr ⟨id, g, h1, rfl, h2⟩
  · exact .inl ⟨rfl, rfl⟩
theorem fE_len {l : List (List UInt8)} : (fE l).length = l.length := by simp [fE]
theorem lE_len {l : List (Nat × List UInt8)} : (lE l).length = l.length := by simp [lE]

/-! ### loads and stores of a device's cells -/
section
variable {h : Heap} {p : Nat} {a b c e g : VV}
theorem ldp (hp : h[p]? = some (.box [a, b, c, e, g] false)) :
    ldO h false 1 (.ptr p 0) = some (a, h) ∧ ldO h false 1 (.ptr p 1) = some (b, h) ∧ ldO h false 1 (.ptr p 2) = some (c, h) ∧ ldO h false 1 (.ptr p 3) = some (e, h) ∧ ldO h false 1 (.ptr p 4) = some (g, h) :=
  ⟨ld_ptr hp rfl, ld_ptr hp rfl, ld_ptr hp rfl, ld_ptr hp rfl, ld_ptr hp rfl⟩
theorem stp (hp : h[p]? = some (.box [a, b, c, e, g] false)) {v : VV} (hv : isCell v = true) :
    stO h 1 (.ptr p 1) v = some (.undef, h.set p (.box [a, v, c, e, g] false)) ∧ stO h 1 (.ptr p 2) v = some (.undef, h.set p (.box [a, b, v, e, g] false)) ∧
    stO h 1 (.ptr p 3) v = some (.undef, h.set p (.box [a, b, c, v, g] false)) ∧ stO h 1 (.ptr p 4) v = some (.undef, h.set p (.box [a, b, c, e, v] false)) :=
  ⟨st_1 hv hp (by decide : 1 < 5), st_1 hv hp (by decide : 2 < 5), st_1 hv hp (by decide : 3 < 5), st_1 hv hp (by decide : 4 < 5)⟩
end

/-- The device's box is turned. -/
theorem DevAt.turn {h : Heap} {p : Nat} {f l : Option Nat} {d d' : D} {vf vl : VV} (h1 : h[p]? = some (.box [vf, vl, cpx d.w d.f, vb d.fused, vi .i64 d.left] false)) (h2 : FirmV h (fE d.firm) vf f) (h3 : LooseV h (lE d.loose) vl l)
    (e1 : d'.firm = d.firm) (e2 : d'.loose = d.loose) : DevAt (h.set p (.box [vf, vl, cpx d'.w d'.f, vb d'.fused, vi .i64 d'.left] false)) p f l d' ∧ Kept h (h.set p (.box [vf, vl, cpx d'.w d'.f, vb d'.fused, vi .i64 d'.left] false)) p f l := by
  have hp := lt_of_get h1
  refine ⟨⟨vf, vl, by rw [List.getElem?_set_self hp], ?_, ?_⟩, ⟨by simp, fun j _ hj _ _ => by rw [List.getElem?_set_ne (fun e => hj e.symm)]⟩⟩
  · rcases h2 with ⟨id, g, ex, a1, a2, a3⟩ | e
    · refine .inl ⟨id, g, ex, a1, by rw [e1]; exact a2, ?_⟩
      rw [List.getElem?_set_ne (by rintro rfl; rw [a3] at h1; cases h1), e1]; exact a3
    · exact .inr (by rw [e1]; exact e)
  · rcases h3 with ⟨id, g, a1, a2, a4, a3⟩ | e
    · refine .inl ⟨id, g, a1, by rw [e2]; exact a2, by rw [e2]; exact a4, ?_⟩
      rw [List.getElem?_set_ne (by rintro rfl; rw [a3] at h1; cases h1), e2]; exact a3
    · exact .inr (by rw [e2]; exact e)

theorem dark_f31 {h : Heap} {p : Nat} {f l : Option Nat} {d : D} (hD : DevAt h p f l d) : call F 31 [.ptr p 0] h = some (.ret (vb (d.fused && decide (d.left = 0))), h) := by
  obtain ⟨vf, vl, h1, h2, h3⟩ := hD
  obtain ⟨l0, l1, l2, l3, l4⟩ := ldp h1
  refine call_P (fn := f31) rfl ?_
  simp only [f31]
  generalize hs0 : ([.ptr p 0] ++ List.replicate _ VV.undef : List VV) = s
  have hs : s.length = 14 := by rw [← hs0]; rfl
  have h0 : s.getD 0 .undef = .ptr p 0 := by rw [← hs0]; rfl
  clear hs0
  cases hf : d.fused with
  | true =>
    rw [hf] at l3
    simp only [go_sem, Nat.reduceLT, Nat.reduceEqDiff, reduceCtorEq, Int.reduceLT, Int.reduceEq, hs, h0, l3, l4]
    exact ⟨rfl, rfl⟩
  | false =>
    rw [hf] at l3
    simp only [go_sem, Nat.reduceLT, Nat.reduceEqDiff, reduceCtorEq, Int.reduceLT, Int.reduceEq, hs, h0, l3, l4]
    exact ⟨rfl, rfl⟩

def D.dark (d : D) : Bool := d.fused && decide (d.left = 0)
def D.burnt (d : D) : D := if d.dark then d else { d with left := IntKind.i64.wrap (d.left - 1) }

theorem burn_f27 {h : Heap} {p : Nat} {f l : Option Nat} {d : D} (hD : DevAt h p f l d) : ∃ h', call F 27 [.ptr p 0] h = some (.ret (vb (!d.dark)), h') ∧ DevAt h' p f l d.burnt ∧ Kept h h' p f l := by
  have : ∃ v h', call F 27 [.ptr p 0] h = some (.ret v, h') ∧ (fun v h' => v = vb (!d.dark) ∧ DevAt h' p f l d.burnt ∧ Kept h h' p f l) v h' := by
    refine call_E (fn := f27) rfl ?_
    simp only [f27]
    generalize hs0 : ([.ptr p 0] ++ List.replicate _ VV.undef : List VV) = s
    have hs : s.length = 12 := by rw [← hs0]; rfl
    have h0 : s.getD 0 .undef = .ptr p 0 := by rw [← hs0]; rfl
    clear hs0
    simp only [go_sem, Nat.reduceLT, Nat.reduceEqDiff, reduceCtorEq, Int.reduceLT, Int.reduceEq, hs]
    rw [X_eq f27_0.eq_1]
    simp only [go_sem, Nat.reduceLT, Nat.reduceEqDiff, reduceCtorEq, Int.reduceLT, Int.reduceEq, hs, h0]
    refine XO_callR (by simp only [List.map, go_sem, Nat.reduceLT, Nat.reduceEqDiff, reduceCtorEq, Int.reduceLT, Int.reduceEq, hs]; exact dark_f31 hD) ?_
    have hdk : d.dark = (d.fused && decide (d.left = 0)) := rfl
    rw [← hdk]
    cases hdark : d.dark with
    | true =>
      simp only [go_sem, Nat.reduceLT, Nat.reduceEqDiff, reduceCtorEq, Int.reduceLT, Int.reduceEq, hs]
      refine ⟨trivial, ?_, Kept.refl _ _ _ _⟩
      unfold D.burnt; rw [if_pos hdark]; exact hD
    | false =>
      obtain ⟨vf, vl, h1, h2, h3⟩ := hD
      obtain ⟨l0, l1, l2, l3, l4⟩ := ldp h1
      obtain ⟨s1, s2, s3, s4⟩ := stp h1 (v := vi .i64 (IntKind.i64.wrap (d.left - 1))) rfl
      simp only [go_sem, Nat.reduceLT, Nat.reduceEqDiff, reduceCtorEq, Int.reduceLT, Int.reduceEq, hs, h0, l4, s4]
      have := DevAt.turn (d' := d.burnt) h1 h2 h3 (by unfold D.burnt; split <;> rfl) (by unfold D.burnt; split <;> rfl)
      have e : d.burnt = { d with left := IntKind.i64.wrap (d.left - 1) } := by unfold D.burnt; rw [if_neg (by rw [hdark]; simp)]
      rw [e] at this ⊢
      exact ⟨trivial, this⟩
  obtain ⟨v, h', e1, rfl, e2⟩ := this
  exact ⟨h', e1, e2⟩

theorem len_f17 {h : Heap} {p : Nat} {f l : Option Nat} {d : D} (hD : DevAt h p f l d) : call F 17 [.ptr p 0] h = some (.ret (vi .i64 d.firm.length), h) := by
  obtain ⟨vf, vl, h1, h2, h3⟩ := hD
  obtain ⟨l0, l1, l2, l3, l4⟩ := ldp h1
  refine call_P (fn := f17) rfl ?_
  simp only [f17]
  generalize hs0 : ([.ptr p 0] ++ List.replicate _ VV.undef : List VV) = s
  have hs : s.length = 10 := by rw [← hs0]; rfl
  have h0 : s.getD 0 .undef = .ptr p 0 := by rw [← hs0]; rfl
  clear hs0
  simp only [go_sem, Nat.reduceLT, Nat.reduceEqDiff, reduceCtorEq, Int.reduceLT, Int.reduceEq, hs]
  rw [X_eq f17_0.eq_1]
  simp only [go_sem, Nat.reduceLT, Nat.reduceEqDiff, reduceCtorEq, Int.reduceLT, Int.reduceEq, hs, h0, l0, h2.ln, fE_len]
  exact ⟨rfl, rfl⟩

def D.has (d : D) (i : Int) : Bool := decide (0 ≤ i) && decide (i < (d.firm.length : Int))
theorem has_f26 {h : Heap} {p : Nat} {f l : Option Nat} {d : D} (hD : DevAt h p f l d) (i : Int) : call F 26 [.ptr p 0, vi .i64 i] h = some (.ret (vb (d.has i)), h) := by
  refine call_P (fn := f26) rfl ?_
  simp only [f26]
  generalize hs0 : ([.ptr p 0, vi .i64 i] ++ List.replicate _ VV.undef : List VV) = s
  have hs : s.length = 13 := by rw [← hs0]; rfl
  have h0 : s.getD 0 .undef = .ptr p 0 := by rw [← hs0]; rfl
  have h1 : s.getD 1 .undef = vi .i64 i := by rw [← hs0]; rfl
  clear hs0
  unfold D.has
  by_cases c : 0 ≤ i
  · simp only [go_sem, Nat.reduceLT, Nat.reduceEqDiff, reduceCtorEq, Int.reduceLT, Int.reduceEq, hs, h0, h1, c]
    refine XO_callR (by simp only [List.map, go_sem, Nat.reduceLT, Nat.reduceEqDiff, reduceCtorEq, Int.reduceLT, Int.reduceEq, hs]; exact len_f17 hD) ?_
    simp only [go_sem, Nat.reduceLT, Nat.reduceEqDiff, reduceCtorEq, Int.reduceLT, Int.reduceEq, hs, h0, h1]
    exact ⟨by simp, rfl⟩
  · simp only [go_sem, Nat.reduceLT, Nat.reduceEqDiff, reduceCtorEq, Int.reduceLT, Int.reduceEq, hs, h0, h1, c]
    exact ⟨by simp, rfl⟩

theorem traffic_f21 {h : Heap} {p : Nat} {f l : Option Nat} {d : D} (hD : DevAt h p f l d) : call F 21 [.ptr p 0] h = some (.ret (cpx d.w d.f), h) := by
  obtain ⟨vf, vl, h1, h2, h3⟩ := hD
  obtain ⟨l0, l1, l2, l3, l4⟩ := ldp h1
  refine call_P (fn := f21) rfl ?_
  simp only [f21]
  generalize hs0 : ([.ptr p 0] ++ List.replicate _ VV.undef : List VV) = s
  have hs : s.length = 9 := by rw [← hs0]; rfl
  have h0 : s.getD 0 .undef = .ptr p 0 := by rw [← hs0]; rfl
  clear hs0
  simp only [go_sem, Nat.reduceLT, Nat.reduceEqDiff, reduceCtorEq, Int.reduceLT, Int.reduceEq, hs]
  rw [X_eq f21_0.eq_1]
  simp only [go_sem, Nat.reduceLT, Nat.reduceEqDiff, reduceCtorEq, Int.reduceLT, Int.reduceEq, hs, h0, l2]
  exact ⟨rfl, rfl⟩

def z64 : List UInt8 := List.replicate 64 0
def newD (n : Nat) : D := ⟨List.replicate n z64, [], 0, 0, false, 0⟩
theorem cB_z : List.replicate 64 (CV.sc (.int .u8 0)) = cB z64 := by simp [cB, z64]
theorem fE_new (n : Nat) : List.replicate n (List.replicate 64 (CV.sc (.int .u8 0))) = fE (newD n).firm := by rw [cB_z]; simp [fE, newD]

theorem new_f11 (n : Nat) (hn : n ≤ 4096) (h : Heap) : ∃ h', call F 11 [vi .i64 n] h = some (.ret (.ptr (h.length + 1) 0), h') ∧ DevAt h' (h.length + 1) (some h.length) none (newD n) ∧ h.length ≤ h'.length ∧ ∀ j, j < h.length → h'[j]? = h[j]? := by
  have : ∃ v h', call F 11 [vi .i64 n] h = some (.ret v, h') ∧ (fun v h' => v = .ptr (h.length + 1) 0 ∧ DevAt h' (h.length + 1) (some h.length) none (newD n) ∧ h.length ≤ h'.length ∧ ∀ j, j < h.length → h'[j]? = h[j]?) v h' := by
    refine call_E (fn := f11) rfl ?_
    simp only [f11]
    generalize hs0 : ([vi .i64 n] ++ List.replicate _ VV.undef : List VV) = s
    have hs : s.length = 13 := by rw [← hs0]; rfl
    have h0 : s.getD 0 .undef = vi .i64 n := by rw [← hs0]; rfl
    clear hs0
    have c1 : ¬ (n : Int) < 0 := by omega
    have c2 : ¬ (4096 : Int) < (n : Int) := by omega
    simp only [go_sem, Nat.reduceLT, Nat.reduceEqDiff, reduceCtorEq, Int.reduceLT, Int.reduceEq, hs]
    rw [X_eq f11_0.eq_1]
    simp only [go_sem, Nat.reduceLT, Nat.reduceEqDiff, reduceCtorEq, Int.reduceLT, Int.reduceEq, hs, h0, c1, c2]
    refine XO_mks (k := .i64) (k' := .i64) (a := n) (by simp only [go_sem, Nat.reduceLT, Nat.reduceEqDiff, reduceCtorEq, Int.reduceLT, Int.reduceEq, hs]) (by simp only [go_sem, Nat.reduceLT, Nat.reduceEqDiff, reduceCtorEq, Int.reduceLT, Int.reduceEq, hs]) (by omega) (by omega) ?_
    rw [fE_new]
    simp only [go_sem, Nat.reduceLT, Nat.reduceEqDiff, reduceCtorEq, Int.reduceLT, Int.reduceEq, hs]
    have e1 : bdO [nilS, nilS, .cv (.sc (.complex .f64 0 0)), vb false, vi .i64 0] [(0, 1, .own h.length 0 0 n true)] = some (.agg [.own h.length 0 0 n true, nilS, .cv (.sc (.complex .f64 0 0)), vb false, vi .i64 0]) := rfl
    simp only [go_sem, Nat.reduceLT, Nat.reduceEqDiff, reduceCtorEq, Int.reduceLT, Int.reduceEq, hs, e1]
    rw [bx_agg (n := 5) rfl]
    simp only [go_sem, Nat.reduceLT, Nat.reduceEqDiff, reduceCtorEq, Int.reduceLT, Int.reduceEq, hs]
    have el : (h ++ [VO.arr 64 (fE (newD n).firm) 0 false]).length = h.length + 1 := by simp
    refine ⟨by rw [el], ⟨.own h.length 0 0 n true, nilS, ?_, .inl ⟨h.length, 0, true, rfl, ?_, ?_⟩, .inr ⟨rfl, rfl, rfl⟩⟩, by simp only [List.length_append, List.length_singleton]; omega, fun j hj => ?_⟩
    · rw [← el]
      simp [newD, cpx, fl0]
    · rw [fE_len]; simp [newD]
    · simp
    · rw [List.append_assoc, List.getElem?_append_left hj]
  obtain ⟨v, h', e1, rfl, e2⟩ := this
  exact ⟨h', e1, e2⟩

theorem new_none (n : Int) (hn : n < 0 ∨ 4096 < n) (h : Heap) : call F 11 [vi .i64 n] h = some (.ret (.cv (.sc (.pointer none))), h) := by
  refine call_P (fn := f11) rfl ?_
  simp only [f11]
  generalize hs0 : ([vi .i64 n] ++ List.replicate _ VV.undef : List VV) = s
  have hs : s.length = 13 := by rw [← hs0]; rfl
  have h0 : s.getD 0 .undef = vi .i64 n := by rw [← hs0]; rfl
  clear hs0
  simp only [go_sem, Nat.reduceLT, Nat.reduceEqDiff, reduceCtorEq, Int.reduceLT, Int.reduceEq, hs]
  rw [X_eq f11_0.eq_1]
  by_cases c1 : n < 0
  · simp only [go_sem, Nat.reduceLT, Nat.reduceEqDiff, reduceCtorEq, Int.reduceLT, Int.reduceEq, hs, h0, c1]
    exact ⟨rfl, rfl⟩
  · have c2 : 4096 < n := by omega
    simp only [go_sem, Nat.reduceLT, Nat.reduceEqDiff, reduceCtorEq, Int.reduceLT, Int.reduceEq, hs, h0, c1, c2]
    exact ⟨rfl, rfl⟩

end Go.V04

set_option linter.unusedSimpArgs false
set_option linter.unusedVariables false
namespace Go.V04
open Go Go.Vm

theorem bd_first {a : VV} {l : List VV} {c : CV} : bdO (a :: l) [(0, 1, .cv c)] = some (.agg (.cv c :: l)) := by
  simp [bdO, fill, cellsOf, splice]
theorem mk_cells {h : Heap} {n : Nat} {zero : List VV} {l : List CV} (hz : zero.length = n) (hl : l.length = n) : mkO h n 1 zero [(0, n, .agg (l.map .cv))] = some (.cv (.sl n [l] true), h) := by
  have e1 : fill zero [(0, n, .agg (l.map .cv))] = some (l.map .cv) := by
    have : splice zero 0 (l.map VV.cv) = l.map VV.cv := splice_all (by simp; omega)
    simp [fill, cellsOf, hl, hz, this]
  simp only [mkO, e1, closL_cv]
  have : chunk n 1 l = [l] := by
    show [(l.drop (0 * n)).take n] = [l]
    rw [Nat.zero_mul, List.drop_zero, List.take_of_length_le (by omega)]
  rw [this]

def pad (b : List UInt8) : List UInt8 := b ++ List.replicate (64 - b.length) 0
theorem pad_len {b : List UInt8} (h : b.length ≤ 64) : (pad b).length = 64 := by unfold pad; simp; omega

theorem splice_pad {c : VV} {b : List UInt8} (h : b.length ≤ 64) : splice (c :: List.replicate 64 (VV.cv (.sc (.int .u8 0)))) 1 ((cB b).map .cv) = c :: (cB (pad b)).map .cv := by
  unfold splice pad cB
  simp only [List.take_succ_cons, List.take_zero, List.length_map, List.map_append, List.map_map, List.cons_append, List.nil_append, List.append_assoc]
  congr 2
  rw [Nat.add_comm, List.drop_succ_cons, List.drop_replicate]
  simp

theorem flat_eB (b : List UInt8) : (eB b).flatten = cB b := by
  induction b with
  | nil => rfl
  | cons x b ih =>
    simp only [eB, cB, List.map_cons, List.flatten_cons, byteCell] at ih ⊢
    rw [ih]; rfl

/-- A write more. -/
theorem loose_app {F : Nat → Option FnIR} {h : Heap} {els : List (List CV)} {v : VV} {l : Option Nat} {by_ : Nat} {zero : List CV} {x y : Opd} {s : List VV} {e : List CV} (hL : LooseV h els v l) (hx : evalO s x = v) (hy : srcOf h 65 (evalO s y) = some [e]) (hb : by_ ≤ 100) (hl : els.length ≤ 1000) :
    ∃ v' h' l', stepI h (evalO s) (.app 65 by_ zero x y) = some (v', h') ∧ LooseV h' (els ++ [e]) v' l' ∧ LNew h l l' ∧ h.length ≤ h'.length ∧ isCell v' = true ∧ ∀ j, j < h.length → l ≠ some j → h'[j]? = h[j]? := by
  have hm : maxBytes = 35184372088832 := rfl
  have hmul : (els.length + 1) * by_ ≤ 35184372088832 := by
    have : (els.length + 1) * by_ ≤ 1001 * 100 := Nat.mul_le_mul (by omega) hb
    omega
  have h2 : els.length + 1 ≤ 35184372088832 := by omega
  rcases hL with ⟨id, g, e1, hne, rfl, h3⟩ | ⟨e1, rfl, rfl⟩
  · have hid := lt_of_get h3
    refine ⟨.own id (g + 1) 0 (els.length + 1) false, h.set id (.arr 65 (els ++ [e]) (g + 1) false), some id, ?_, .inl ⟨id, g + 1, rfl, by simp, by simp, by rw [List.getElem?_set_self hid]⟩, fun i e => .inl (by rw [e1]; exact e), by simp, rfl, fun j hj hn => ?_⟩
    · simp only [stepI, hy, hx, lenV, hm, List.length_singleton, hmul, h2, and_self, if_true, h3, Nat.zero_add, Nat.le_refl, Bool.false_eq_true, if_false, List.drop_zero, List.take_length, List.cons_ne_nil]
    · rw [List.getElem?_set_ne]
      rintro rfl
      exact hn e1
  · refine ⟨.own h.length 0 0 1 false, h ++ [.arr 65 [e] 0 false], some h.length, ?_, .inl ⟨h.length, 0, rfl, by simp, by simp, by simp⟩, fun i e => .inr (by cases e; exact Nat.le_refl _), by simp, rfl, fun j hj _ => by rw [List.getElem?_append_left hj]⟩
    simp only [List.length_nil, Nat.zero_add] at hmul h2
    simp only [stepI, hy, hx, lenV, hm, List.length_singleton, Nat.zero_add, hmul, h2, and_self, if_true, List.cons_ne_nil, if_false]

theorem XD_loose {F : Nat → Option FnIR} {h : Heap} {els : List (List CV)} {v : VV} {l : Option Nat} {by_ : Nat} {zero : List CV} {x y : Opd} {s : List VV} {e : List CV} {d : Option Nat} {q : List (Op1 × Cl)} {Q : Pst} (hL : LooseV h els v l) (hx : evalO s x = v) (hy : srcOf h 65 (evalO s y) = some [e]) (hb : by_ ≤ 100) (hl : els.length ≤ 1000)
    (hk : ∀ v' h' l', LooseV h' (els ++ [e]) v' l' → LNew h l l' → h.length ≤ h'.length → isCell v' = true → (∀ j, j < h.length → l ≠ some j → h'[j]? = h[j]?) → XD F q ⟨putD s d v', h'⟩ Q) :
    XD F ((⟨none, d, .app 65 by_ zero x y⟩, .k) :: q) ⟨s, h⟩ Q := by
  obtain ⟨v', h', l', e1, e2, e3, e4, e5, e6⟩ := loose_app (F := F) (zero := zero) hL hx hy hb hl
  rw [XD_ins rfl, e1, XVD_k]
  exact hk v' h' l' e2 e3 e4 e5 e6

/-- A device in a greater heap. -/
theorem DevAt.push {h : Heap} {p : Nat} {f l : Option Nat} {d : D} (hD : DevAt h p f l d) (o : VO) : DevAt (h ++ [o]) p f l d := by
  obtain ⟨vf, vl, h1, h2, h3⟩ := hD
  refine ⟨vf, vl, by rw [List.getElem?_append_left (lt_of_get h1)]; exact h1, ?_, ?_⟩
  · rcases h2 with ⟨id, g, ex, a1, a2, a3⟩ | e
    · exact .inl ⟨id, g, ex, a1, a2, by rw [List.getElem?_append_left (lt_of_get a3)]; exact a3⟩
    · exact .inr e
  · rcases h3 with ⟨id, g, a1, a2, a4, a3⟩ | e
    · exact .inl ⟨id, g, a1, a2, a4, by rw [List.getElem?_append_left (lt_of_get a3)]; exact a3⟩
    · exact .inr e
theorem FirmV.push {h : Heap} {els : List (List CV)} {v : VV} {f : Option Nat} (hF : FirmV h els v f) (o : VO) : FirmV (h ++ [o]) els v f := by
  rcases hF with ⟨id, g, ex, a1, a2, a3⟩ | e
  · exact .inl ⟨id, g, ex, a1, a2, by rw [List.getElem?_append_left (lt_of_get a3)]; exact a3⟩
  · exact .inr e
theorem LooseV.push {h : Heap} {els : List (List CV)} {v : VV} {f : Option Nat} (hF : LooseV h els v f) (o : VO) : LooseV (h ++ [o]) els v f := by
  rcases hF with ⟨id, g, a1, a2, a4, a3⟩ | e
  · exact .inl ⟨id, g, a1, a2, a4, by rw [List.getElem?_append_left (lt_of_get a3)]; exact a3⟩
  · exact .inr e
theorem Kept.push (h : Heap) (o : VO) (p : Nat) (f l : Option Nat) : Kept h (h ++ [o]) p f l := ⟨by simp, fun j hj _ _ _ => by rw [List.getElem?_append_left hj]⟩

def D.write (d : D) (i : Int) (b : List UInt8) : D × Nat :=
  if d.has i = false then (d, 20) else if 64 < b.length then (d, 3) else if d.dark = true then (d, 0) else
  ({ d.burnt with loose := d.loose ++ [(i.toNat, pad b)], w := d.w + 1 }, 0)

structure Moved (h h' : Heap) (p : Nat) (f l l' : Option Nat) (d' : D) : Prop where
  dev : DevAt h' p f l' d'
  kept : Kept h h' p f l
  new : LNew h l l'
theorem Moved.refl {h : Heap} {p : Nat} {f l : Option Nat} {d : D} (hD : DevAt h p f l d) : Moved h h p f l l d := ⟨hD, Kept.refl _ _ _ _, LNew.refl _ _⟩
theorem Moved.trans {h h1 h2 : Heap} {p : Nat} {f l l1 l2 : Option Nat} {d1 d2 : D} (a : Moved h h1 p f l l1 d1) (b : Moved h1 h2 p f l1 l2 d2) : Moved h h2 p f l l2 d2 :=
  ⟨b.dev, a.kept.trans b.kept a.new, a.new.trans b.new a.kept.len⟩

structure WriteP (h : Heap) (p : Nat) (f l : Option Nat) (x : D × Nat) (v : VV) (h' : Heap) : Prop where
  v : v = vi .u16 x.2
  m : ∃ l', Moved h h' p f l l' x.1

theorem burnt_firm (d : D) : d.burnt.firm = d.firm := by unfold D.burnt; split <;> rfl
theorem burnt_loose (d : D) : d.burnt.loose = d.loose := by unfold D.burnt; split <;> rfl
theorem burnt_w (d : D) : d.burnt.w = d.w := by unfold D.burnt; split <;> rfl
theorem burnt_f (d : D) : d.burnt.f = d.f := by unfold D.burnt; split <;> rfl

theorem write_f12 {h : Heap} {p : Nat} {f l : Option Nat} {d : D} (hD : DevAt h p f l d) (hO : d.OK) (hw : d.w < 280) (hll : d.loose.length < 190) (i : Int) (b : List UInt8) (vb_ : VV) (hb : SlV 1 (eB b) vb_) : ∃ v h', call F 12 [.ptr p 0, vi .i64 i, vb_] h = some (.ret v, h') ∧ WriteP h p f l (d.write i b) v h' := by
  refine call_E (fn := f12) rfl ?_
  simp only [f12]
  generalize hs0 : ([.ptr p 0, vi .i64 i, vb_] ++ List.replicate _ VV.undef : List VV) = s
  have hs : s.length = 43 := by rw [← hs0]; rfl
  have h0 : s.getD 0 .undef = .ptr p 0 := by rw [← hs0]; rfl
  have h1 : s.getD 1 .undef = vi .i64 i := by rw [← hs0]; rfl
  have h2 : s.getD 2 .undef = vb_ := by rw [← hs0]; rfl
  clear hs0
  simp only [go_sem, Nat.reduceLT, Nat.reduceEqDiff, reduceCtorEq, Int.reduceLT, Int.reduceEq, hs, h0, h1]
  refine XO_callR (by simp only [List.map, go_sem, Nat.reduceLT, Nat.reduceEqDiff, reduceCtorEq, Int.reduceLT, Int.reduceEq, hs]; exact has_f26 hD i) ?_
  unfold D.write
  cases hh : d.has i with
  | false =>
    simp only [go_sem, Nat.reduceLT, Nat.reduceEqDiff, reduceCtorEq, Int.reduceLT, Int.reduceEq, hs]
    exact ⟨rfl, l, Moved.refl hD⟩
  | true =>
    by_cases c1 : (64 : Int) < (b.length : Int)
    · have c1' : 64 < b.length := by omega
      simp only [go_sem, Nat.reduceLT, Nat.reduceEqDiff, reduceCtorEq, Int.reduceLT, Int.reduceEq, hs, h2, hb.ln, eB_len, c1, c1', Bool.true_eq_false]
      exact ⟨rfl, l, Moved.refl hD⟩
    · have c1' : ¬ 64 < b.length := by omega
      simp only [go_sem, Nat.reduceLT, Nat.reduceEqDiff, reduceCtorEq, Int.reduceLT, Int.reduceEq, hs, h2, hb.ln, eB_len, c1, c1', Bool.true_eq_false]
      rw [X_eq f12_0.eq_1]
      obtain ⟨g1, hc1, hD1, hK1⟩ := burn_f27 hD
      simp only [go_sem, Nat.reduceLT, Nat.reduceEqDiff, reduceCtorEq, Int.reduceLT, Int.reduceEq, hs, h0]
      refine XO_callR (by simp only [List.map, go_sem, Nat.reduceLT, Nat.reduceEqDiff, reduceCtorEq, Int.reduceLT, Int.reduceEq, hs]; exact hc1) ?_
      cases hdk : d.dark with
      | true =>
        have e : d.burnt = d := by unfold D.burnt; rw [if_pos hdk]
        rw [e] at hD1
        simp only [go_sem, Nat.reduceLT, Nat.reduceEqDiff, reduceCtorEq, Int.reduceLT, Int.reduceEq, hs]
        exact ⟨rfl, l, ⟨hD1, hK1, LNew.refl _ _⟩⟩
      | false =>
        have hi : 0 ≤ i ∧ i < (d.firm.length : Int) := by
          unfold D.has at hh
          simpa using hh
        obtain ⟨k, rfl⟩ : ∃ k : Nat, i = (k : Int) := ⟨i.toNat, by omega⟩
        simp only [go_sem, Nat.reduceLT, Nat.reduceEqDiff, reduceCtorEq, Int.reduceLT, Int.reduceEq, hs, h1, bd_first]
        rw [st_agg (n := 65) (cells := .cv (.sc (.int .i64 0)) :: List.replicate 64 (.cv (.sc (.int .u8 0)))) (by simp) at_last (by simp), set_last']
        simp only [go_sem, Nat.reduceLT, Nat.reduceEqDiff, reduceCtorEq, Int.reduceLT, Int.reduceEq, hs, h2]
        rw [sa_box at_last (by simp)]
        simp only [go_sem, Nat.reduceLT, Nat.reduceEqDiff, reduceCtorEq, Int.reduceLT, Int.reduceEq, hs, h2]
        rw [cp_ob (src := eB b) at_last (by simp) hb.src, set_last']
        have em : min (eB b).length 64 = b.length := by rw [eB_len]; omega
        have et : (eB b).take b.length = eB b := List.take_of_length_le (by rw [eB_len]; exact Nat.le_refl _)
        rw [em, et, flat_eB, splice_pad (by omega)]
        have ec : (VV.cv (.sc (.int .i64 (k : Int))) :: (cB (pad b)).map .cv) = ((CV.sc (.int .i64 (k : Int)) :: cB (pad b)).map .cv) := rfl
        rw [ec]
        have hpl : (CV.sc (.int .i64 (k : Int)) :: cB (pad b)).length = 65 := by simp only [List.length_cons, cB_len, pad_len (show b.length ≤ 64 by omega)]
        generalize hcell : (CV.sc (.int .i64 (k : Int)) :: cB (pad b)) = cells at hpl ⊢
        generalize hbox : VO.box (cells.map .cv) false = bx
        have hD2 := hD1.push bx
        obtain ⟨vf, vl, a1, a2, a3⟩ := hD2
        obtain ⟨k0, k1, k2, k3, k4⟩ := ldp a1
        have hlb : ldO (g1 ++ [bx]) true 65 (.ptr g1.length 0) = some (.agg (cells.map .cv), g1 ++ [bx]) := by rw [← hbox]; exact ld_box at_last (by simp; omega)
        simp only [go_sem, Nat.reduceLT, Nat.reduceEqDiff, reduceCtorEq, Int.reduceLT, Int.reduceEq, hs]
        refine X_draw rfl ?_
        simp only [go_sem, Nat.reduceLT, Nat.reduceEqDiff, reduceCtorEq, Int.reduceLT, Int.reduceEq, hs, h0, k1, hlb]
        rw [mk_cells (by simp) hpl]
        simp only [go_sem, Nat.reduceLT, Nat.reduceEqDiff, reduceCtorEq, Int.reduceLT, Int.reduceEq, hs, h0]
        refine XD_loose (els := lE d.burnt.loose) (e := cells) a3 (by simp only [go_sem, Nat.reduceLT, Nat.reduceEqDiff, reduceCtorEq, Int.reduceLT, Int.reduceEq, hs]) (by simp only [go_sem, Nat.reduceLT, Nat.reduceEqDiff, reduceCtorEq, Int.reduceLT, Int.reduceEq, hs]) (by decide) (by rw [lE_len, burnt_loose]; omega) (fun v3 g3 l3 hL3 hN3 hlen3 hcell3 hsame3 => ?_)
        have hpl3 : l ≠ some p := by
          rcases a3 with ⟨id, g, b1, _, _, b2⟩ | ⟨b1, _⟩
          · rintro e; rw [e] at b1; cases b1; rw [a1] at b2; cases b2
          · rw [b1]; simp
        have a1' : g3[p]? = some (.box [vf, vl, cpx d.burnt.w d.burnt.f, vb d.burnt.fused, vi .i64 d.burnt.left] false) := by rw [hsame3 p (lt_of_get a1) hpl3]; exact a1
        have a2' : FirmV g3 (fE d.burnt.firm) vf f := by
          rcases a2 with ⟨id, g, ex, b1, b2, b3⟩ | e
          · refine .inl ⟨id, g, ex, b1, b2, ?_⟩
            rw [hsame3 id (lt_of_get b3) ?_]; exact b3
            rintro e
            rcases a3 with ⟨id', g', c1, _, _, c2⟩ | ⟨c1, _⟩
            · rw [e] at c1; cases c1; rw [b3] at c2; cases c2
            · rw [e] at c1; cases c1
          · exact .inr e
        obtain ⟨s1, _, _, _⟩ := stp a1' hcell3
        simp only [go_sem, Nat.reduceLT, Nat.reduceEqDiff, reduceCtorEq, Int.reduceLT, Int.reduceEq, hs, h0, s1]
        have hp3 := lt_of_get a1'
        generalize hg4 : g3.set p (.box [vf, v3, cpx d.burnt.w d.burnt.f, vb d.burnt.fused, vi .i64 d.burnt.left] false) = g4
        have a4 : g4[p]? = some (.box [vf, v3, cpx d.burnt.w d.burnt.f, vb d.burnt.fused, vi .i64 d.burnt.left] false) := by rw [← hg4, List.getElem?_set_self hp3]
        have ne4 : ∀ j, j ≠ p → g4[j]? = g3[j]? := fun j hj => by rw [← hg4, List.getElem?_set_ne (fun e => hj e.symm)]
        have len4 : g4.length = g3.length := by rw [← hg4]; simp
        obtain ⟨_, _, m2, _, _⟩ := ldp a4
        have hadd : binO .add (cpx d.burnt.w d.burnt.f) (.cv (.sc (.complex .f64 4607182418800017408 0))) = some (cpx (d.w + 1) d.f) := by
          rw [burnt_w, burnt_f]
          have x1 := fl_add d.w (by omega)
          have x2 := fl_add0 d.f (by have := hO.f; omega)
          simp [binO, binV, x1, x2]
        obtain ⟨_, s2, _, _⟩ := stp a4 (v := cpx (d.w + 1) d.f) rfl
        simp only [go_sem, Nat.reduceLT, Nat.reduceEqDiff, reduceCtorEq, Int.reduceLT, Int.reduceEq, hs, h0, m2, hadd, s2]
        refine ⟨rfl, l3, ⟨⟨vf, v3, ?_, ?_, ?_⟩, ?_, ?_⟩⟩
        · rw [List.getElem?_set_self (by omega)]
          simp only [burnt_f]
        · rcases a2' with ⟨id, g, ex, b1, b2, b3⟩ | e
          · have hne : id ≠ p := by rintro rfl; rw [b3] at a1'; cases a1'
            exact .inl ⟨id, g, ex, b1, b2, by rw [List.getElem?_set_ne (fun e => hne e.symm), ne4 id hne]; exact b3⟩
          · exact .inr e
        · have e3 : lE d.burnt.loose ++ [cells] = lE (d.loose ++ [((k : Int).toNat, pad b)]) := by
            rw [← hcell, burnt_loose]; simp [lE]
          rw [e3] at hL3
          rcases hL3 with ⟨id, g, b1, b2, b4, b3⟩ | e
          · have hne : id ≠ p := by rintro rfl; rw [b3] at a1'; cases a1'
            exact .inl ⟨id, g, b1, b2, b4, by rw [List.getElem?_set_ne (fun e => hne e.symm), ne4 id hne]; exact b3⟩
          · exact .inr e
        · refine ⟨?_, fun j hj h1 h2 h3 => ?_⟩
          · have := hK1.len
            rw [List.length_append, List.length_singleton] at hlen3
            rw [List.length_set]; omega
          · have hj1 : j < g1.length := Nat.lt_of_lt_of_le hj hK1.len
            rw [List.getElem?_set_ne (fun e => h1 e.symm), ne4 j h1, hsame3 j (by rw [List.length_append]; omega) h3, List.getElem?_append_left hj1, hK1.same j hj h1 h2 h3]
        · intro j e
          rcases hN3 j e with e' | e'
          · exact .inl e'
          · right
            have := hK1.len
            rw [List.length_append] at e'
            omega

end Go.V04

set_option linter.unusedSimpArgs false
set_option linter.unusedVariables false
namespace Go.V04
open Go Go.Vm

/-- A greater heap, of which the old part is as it was. -/
structure Ext (h h' : Heap) : Prop where
  len : h.length ≤ h'.length
  same : ∀ j, j < h.length → h'[j]? = h[j]?
theorem Ext.refl (h : Heap) : Ext h h := ⟨Nat.le_refl _, fun _ _ => rfl⟩
theorem Ext.trans {h h1 h2 : Heap} (a : Ext h h1) (b : Ext h1 h2) : Ext h h2 := ⟨Nat.le_trans a.len b.len, fun j hj => by rw [b.same j (Nat.lt_of_lt_of_le hj a.len), a.same j hj]⟩
theorem Ext.push (h : Heap) (o : VO) : Ext h (h ++ [o]) := ⟨by simp, fun j hj => by rw [List.getElem?_append_left hj]⟩
theorem Ext.kept {h h' : Heap} (e : Ext h h') (p : Nat) (f l : Option Nat) : Kept h h' p f l := ⟨e.len, fun j hj _ _ _ => e.same j hj⟩
theorem Ext.get {h h' : Heap} (e : Ext h h') {j : Nat} {o : VO} (hj : h[j]? = some o) : h'[j]? = some o := by rw [e.same j (lt_of_get hj), hj]
theorem FirmV.ext {h h' : Heap} {els : List (List CV)} {v : VV} {f : Option Nat} (hF : FirmV h els v f) (e : Ext h h') : FirmV h' els v f := by
  rcases hF with ⟨id, g, ex, a1, a2, a3⟩ | e1
  · exact .inl ⟨id, g, ex, a1, a2, e.get a3⟩
  · exact .inr e1
theorem LooseV.ext {h h' : Heap} {els : List (List CV)} {v : VV} {f : Option Nat} (hF : LooseV h els v f) (e : Ext h h') : LooseV h' els v f := by
  rcases hF with ⟨id, g, a1, a2, a4, a3⟩ | e1
  · exact .inl ⟨id, g, a1, a2, a4, e.get a3⟩
  · exact .inr e1
theorem DevAt.ext {h h' : Heap} {p : Nat} {f l : Option Nat} {d : D} (hD : DevAt h p f l d) (e : Ext h h') : DevAt h' p f l d := by
  obtain ⟨vf, vl, h1, h2, h3⟩ := hD
  exact ⟨vf, vl, e.get h1, h2.ext e, h3.ext e⟩

theorem FirmV.at_ {h : Heap} {els : List (List CV)} {v : VV} {f : Option Nat} (hF : FirmV h els v f) {j : Nat} {e : List CV} (hj : els[j]? = some e) :
    ∃ id g, f = some id ∧ iaO h 64 v (vi .i64 j) = some (.eptr id g j 0, h) ∧ h[id]? = some (.arr 64 els g false) := by
  have hl := (List.getElem?_eq_some_iff.1 hj).1
  rcases hF with ⟨id, g, ex, a1, rfl, a3⟩ | ⟨_, rfl, _⟩
  · exact ⟨id, g, a1, by rw [ia_own (by omega) a3 (by simpa using hl)]; simp, a3⟩
  · cases hj
theorem LooseV.at_ {h : Heap} {els : List (List CV)} {v : VV} {f : Option Nat} (hF : LooseV h els v f) {j : Nat} {e : List CV} (hj : els[j]? = some e) :
    ∃ id g, f = some id ∧ iaO h 65 v (vi .i64 j) = some (.eptr id g j 0, h) ∧ h[id]? = some (.arr 65 els g false) := by
  have hl := (List.getElem?_eq_some_iff.1 hj).1
  rcases hF with ⟨id, g, a1, _, rfl, a3⟩ | ⟨_, rfl, _⟩
  · exact ⟨id, g, a1, by rw [ia_own (by omega) a3 (by simpa using hl)]; simp, a3⟩
  · cases hj

/-! ### Read -/
def lastF (i : Int) (x : List UInt8) (l : List (Nat × List UInt8)) : List UInt8 := l.foldl (fun x o => if (o.1 : Int) = i then o.2 else x) x
def D.cell (d : D) (i : Nat) : List UInt8 := lastF i (d.firm.getD i []) d.loose

/-- Bytes in a box of its own. -/
def ObV (h : Heap) (b : List UInt8) (v : VV) : Prop := ∃ id, v = .ob id 0 b.length 1 true ∧ h[id]? = some (.box ((cB b).map .cv) false)
theorem ObV.ext {h h' : Heap} {b : List UInt8} {v : VV} (o : ObV h b v) (e : Ext h h') : ObV h' b v := by
  obtain ⟨id, e1, e2⟩ := o
  exact ⟨id, e1, e.get e2⟩
theorem ObV.ln {h : Heap} {b : List UInt8} {v : VV} (o : ObV h b v) : lnO false v = some (vi .i64 b.length) := by
  obtain ⟨id, rfl, e2⟩ := o; rfl

theorem mapM_cv (l : List CV) (f : VV → Option CV) (hf : ∀ c, f (.cv c) = some c) : (l.map VV.cv).mapM f = some l := by
  induction l with
  | nil => rfl
  | cons c l ih => simp only [List.map_cons, List.mapM_cons, ih, hf]; rfl
theorem chunk_one : ∀ (n : Nat) (l : List CV), l.length = n → chunk 1 n l = l.map fun c => [c] := by
  intro n l h
  subst h
  unfold chunk
  apply List.ext_getElem
  · simp
  · intro i h1 h2
    simp only [List.length_map, List.length_range] at h1
    simp only [List.getElem_map, List.getElem_range, Nat.mul_one]
    rw [List.drop_eq_getElem_cons h1]
    rfl
theorem ObV.els {h : Heap} {b : List UInt8} {v : VV} (o : ObV h b v) : elsOf h 1 v = some (eB b) := by
  obtain ⟨id, rfl, e2⟩ := o
  have hl : (cB b).length = b.length := cB_len
  have e1 : ((cB b).map VV.cv).take (b.length * 1) = (cB b).map VV.cv := List.take_of_length_le (by rw [List.length_map, hl]; omega)
  unfold elsOf
  simp only [e2, List.drop_zero]
  rw [e1]
  rw [mapM_cv (cB b) _ (fun _ => rfl)]
  simp only [hl, Nat.mul_one, and_self, if_true]
  rw [chunk_one _ _ hl]
  simp [cB, eB, byteCell]
theorem ObV.bs {h : Heap} {b : List UInt8} {v : VV} (o : ObV h b v) : bsO h v = some (txt b) := by
  unfold bsO
  rw [o.els]
  simp only [bytesOf_eB, Option.map_some]
theorem ObV.at_ {h : Heap} {b : List UInt8} {v : VV} (o : ObV h b v) {j : Nat} {x : UInt8} (hj : b[j]? = some x) : ∃ r, iaO h 1 v (vi .i64 j) = some (r, h) ∧ ldO h false 1 r = some (vi .u8 x.toNat, h) := by
  obtain ⟨id, rfl, e2⟩ := o
  have hl := (List.getElem?_eq_some_iff.1 hj).1
  refine ⟨.ptr id j, ?_, ld_ptr e2 ?_⟩
  · simp [iaO, stepI, rhoO, intV, hl]
  · simp [cB, hj]

structure ReadP (h : Heap) (d : D) (i : Int) (v : VV) (h' : Heap) : Prop where
  ext : Ext h h'
  no : d.has i = false → v = .tup [nilS, vi .u16 20]
  yes : d.has i = true → ∃ o, v = .tup [o, vi .u16 0] ∧ ObV h' (d.cell i.toNat) o

theorem cell_len {l : List (Nat × List UInt8)} {i : Int} (hl : ∀ o ∈ l, o.2.length = 64 ∧ True) : ∀ {x : List UInt8}, x.length = 64 → (lastF i x l).length = 64 := by
  induction l with
  | nil => intro x h; exact h
  | cons o l ih =>
    intro x h
    show (lastF i (if (o.1 : Int) = i then o.2 else x) l).length = 64
    refine ih (fun o ho => hl o (List.mem_cons_of_mem _ ho)) ?_
    split
    · exact (hl o List.mem_cons_self).1
    · exact h

structure ReadI (h : Heap) (x : List UInt8) (g : Heap) : Prop where
  ext : Ext h g
  box : g[h.length]? = some (.box ((cB x).map .cv) false)

theorem lE_get {l : List (Nat × List UInt8)} {done rest : List (Nat × List UInt8)} {o : Nat × List UInt8} (h : l = done ++ o :: rest) : (lE l)[done.length]? = some (.sc (.int .i64 o.1) :: cB o.2) := by
  subst h; simp [lE]

theorem f15_loop {h : Heap} {vl : VV} {lp : Option Nat} {l : List (Nat × List UInt8)} (hL : LooseV h (lE l) vl lp) (hl : ∀ o ∈ l, o.2.length = 64) (hn : l.length ≤ 1000) (i : Int) :
    ∀ (rest done : List (Nat × List UInt8)) (x : List UInt8) (s : List VV) (g : Heap) (Q : Pst), l = done ++ rest → x.length = 64 → s.length = 37 → s.getD 1 .undef = vi .i64 i → s.getD 6 .undef = .ptr h.length 0 →
      s.getD 23 .undef = vl → s.getD 24 .undef = vi .i64 l.length → s.getD 25 .undef = vi .i64 done.length → ReadI h x g →
      (∀ s' g', s'.length = 37 → s'.getD 6 .undef = .ptr h.length 0 → ReadI h (lastF i x rest) g' → Q (.exit 0) ⟨s', g'⟩) → X F (.loop f15_2) ⟨s, g⟩ Q := by
  intro rest
  induction rest with
  | nil =>
    intro done x s g Q hdr hx hs h1 h6 h23 h24 h25 hI hQ
    rw [X_loop, X_eq f15_2.eq_1]
    have c : ¬ (done.length : Int) < (l.length : Int) := by rw [hdr]; simp
    simp only [go_sem, Nat.reduceLT, Nat.reduceEqDiff, reduceCtorEq, Int.reduceLT, Int.reduceEq, hs, h24, h25, c]
    rw [X_eq f15_1.eq_1]
    simp only [go_sem, Nat.reduceLT, Nat.reduceEqDiff, reduceCtorEq, Int.reduceLT, Int.reduceEq, hs]
    exact hQ _ _ (by simp only [slot_len, hs]) (by simp only [go_sem, Nat.reduceLT, Nat.reduceEqDiff, reduceCtorEq, Int.reduceLT, Int.reduceEq, h6]) hI
  | cons o rest ih =>
    intro done x s g Q hdr hx hs h1 h6 h23 h24 h25 hI hQ
    rw [X_loop, X_eq f15_2.eq_1]
    have c : (done.length : Int) < (l.length : Int) := by rw [hdr]; simp; omega
    obtain ⟨id, gg, e1, e2, e3⟩ := (hL.ext hI.ext).at_ (lE_get hdr)
    have ho : o.2.length = 64 := hl o (by rw [hdr]; simp)
    have hel : (CV.sc (.int .i64 o.1) :: cB o.2).length = 65 := by simp only [List.length_cons, cB_len, ho]
    have hld := ld_ecells (n := 65) e3 (lE_get hdr) hel
    simp only [go_sem, Nat.reduceLT, Nat.reduceEqDiff, reduceCtorEq, Int.reduceLT, Int.reduceEq, hs, h24, h25, c]
    rw [X_eq f15_1.eq_1]
    simp only [go_sem, Nat.reduceLT, Nat.reduceEqDiff, reduceCtorEq, Int.reduceLT, Int.reduceEq, hs, h23, h25, e2, hld]
    rw [st_agg (n := 65) (cells := .cv (.sc (.int .i64 0)) :: List.replicate 64 (.cv (.sc (.int .u8 0)))) (by simp [hel, cB_len, ho]) at_last (by simp), set_last']
    have hl1 : ldO (g ++ [VO.box ((CV.sc (.int .i64 o.1) :: cB o.2).map .cv) false]) false 1 (.ptr g.length 0) = some (vi .i64 o.1, g ++ [VO.box ((CV.sc (.int .i64 o.1) :: cB o.2).map .cv) false]) := ld_ptr at_last rfl
    simp only [go_sem, Nat.reduceLT, Nat.reduceEqDiff, reduceCtorEq, Int.reduceLT, Int.reduceEq, hs, h1, hl1]
    have hx2 := hI.ext.trans (Ext.push g (VO.box ((CV.sc (.int .i64 o.1) :: cB o.2).map .cv) false))
    have hb2 := (Ext.push g (VO.box ((CV.sc (.int .i64 o.1) :: cB o.2).map .cv) false)).get hI.box
    have hnx : ((done.length : Int) + 1) = ((done ++ [o]).length : Int) := by simp
    have hdn : done.length < 1000 := by have := congrArg List.length hdr; simp at this; omega
    have hw : IntKind.i64.wrap ((done.length : Int) + 1) = ((done ++ [o]).length : Int) := by rw [hnx, IntWalk.i64_in _ (by simp; omega)]
    by_cases ci : (o.1 : Int) = i
    · have hl2 : ldO (g ++ [VO.box ((CV.sc (.int .i64 o.1) :: cB o.2).map .cv) false]) true 64 (.ptr g.length 1) = some (.agg ((cB o.2).map .cv), g ++ [VO.box ((CV.sc (.int .i64 o.1) :: cB o.2).map .cv) false]) := by
        rw [ld_cells at_last (by simp [cB_len, ho])]
        have : (((CV.sc (.int .i64 o.1) :: cB o.2).map VV.cv).drop 1).take 64 = (cB o.2).map VV.cv := by
          simp only [List.map_cons, List.drop_succ_cons, List.drop_zero]
          exact List.take_of_length_le (by simp [cB_len, ho])
        rw [this]
      generalize hg2 : g ++ [VO.box ((CV.sc (.int .i64 o.1) :: cB o.2).map .cv) false] = g2 at hl1 hl2 hx2 hb2
      have hst : stO g2 64 (.ptr h.length 0) (.agg ((cB o.2).map .cv)) = some (.undef, g2.set h.length (.box ((cB o.2).map .cv) false)) := by
        rw [st_cells (by simp [cB_len, ho]) hb2 (by simp [cB_len, hx]), splice_all (by simp [cB_len, hx, ho])]
      simp only [go_sem, Nat.reduceLT, Nat.reduceEqDiff, reduceCtorEq, Int.reduceLT, Int.reduceEq, hs, ci, h1, h6, hl2, hst, h25, hw]
      refine ih (done ++ [o]) o.2 _ _ Q (by rw [hdr]; simp) ho (by simp only [slot_len, hs]) (by simp only [go_sem, Nat.reduceLT, Nat.reduceEqDiff, reduceCtorEq, Int.reduceLT, Int.reduceEq, h1]) (by simp only [go_sem, Nat.reduceLT, Nat.reduceEqDiff, reduceCtorEq, Int.reduceLT, Int.reduceEq, h6]) (by simp only [go_sem, Nat.reduceLT, Nat.reduceEqDiff, reduceCtorEq, Int.reduceLT, Int.reduceEq, h23]) (by simp only [go_sem, Nat.reduceLT, Nat.reduceEqDiff, reduceCtorEq, Int.reduceLT, Int.reduceEq, h24]) (by simp only [go_sem, Nat.reduceLT, Nat.reduceEqDiff, reduceCtorEq, Int.reduceLT, Int.reduceEq, hs]) ⟨⟨?_, fun j hj => ?_⟩, ?_⟩ (fun s' g' a1 a2 a3 => hQ s' g' a1 a2 ?_)
      · rw [List.length_set]; exact hx2.len
      · rw [List.getElem?_set_ne (by omega), hx2.same j hj]
      · rw [List.getElem?_set_self (lt_of_get hb2)]
      · have : lastF i x (o :: rest) = lastF i o.2 rest := by
          show lastF i (if (o.1 : Int) = i then o.2 else x) rest = _
          rw [if_pos ci]
        rw [this]; exact a3
    · simp only [go_sem, Nat.reduceLT, Nat.reduceEqDiff, reduceCtorEq, Int.reduceLT, Int.reduceEq, hs, ci, h25, hw]
      refine ih (done ++ [o]) x _ _ Q (by rw [hdr]; simp) hx (by simp only [slot_len, hs]) (by simp only [go_sem, Nat.reduceLT, Nat.reduceEqDiff, reduceCtorEq, Int.reduceLT, Int.reduceEq, h1]) (by simp only [go_sem, Nat.reduceLT, Nat.reduceEqDiff, reduceCtorEq, Int.reduceLT, Int.reduceEq, h6]) (by simp only [go_sem, Nat.reduceLT, Nat.reduceEqDiff, reduceCtorEq, Int.reduceLT, Int.reduceEq, h23]) (by simp only [go_sem, Nat.reduceLT, Nat.reduceEqDiff, reduceCtorEq, Int.reduceLT, Int.reduceEq, h24]) (by simp only [go_sem, Nat.reduceLT, Nat.reduceEqDiff, reduceCtorEq, Int.reduceLT, Int.reduceEq, hs]) ⟨hx2, hb2⟩ (fun s' g' a1 a2 a3 => hQ s' g' a1 a2 ?_)
      have : lastF i x (o :: rest) = lastF i x rest := by
        show lastF i (if (o.1 : Int) = i then o.2 else x) rest = _
        rw [if_neg ci]
      rw [this]; exact a3

theorem read_f15 {h : Heap} {p : Nat} {f l : Option Nat} {d : D} (hD : DevAt h p f l d) (hO : d.OK) (i : Int) : ∃ v h', call F 15 [.ptr p 0, vi .i64 i] h = some (.ret v, h') ∧ ReadP h d i v h' := by
  refine call_E (fn := f15) rfl ?_
  simp only [f15]
  generalize hs0 : ([.ptr p 0, vi .i64 i] ++ List.replicate _ VV.undef : List VV) = s
  have hs : s.length = 37 := by rw [← hs0]; rfl
  have h0 : s.getD 0 .undef = .ptr p 0 := by rw [← hs0]; rfl
  have h1 : s.getD 1 .undef = vi .i64 i := by rw [← hs0]; rfl
  clear hs0
  simp only [go_sem, Nat.reduceLT, Nat.reduceEqDiff, reduceCtorEq, Int.reduceLT, Int.reduceEq, hs]
  rw [X_eq f15_0.eq_1]
  simp only [go_sem, Nat.reduceLT, Nat.reduceEqDiff, reduceCtorEq, Int.reduceLT, Int.reduceEq, hs, h0, h1]
  refine XO_callR (by simp only [List.map, go_sem, Nat.reduceLT, Nat.reduceEqDiff, reduceCtorEq, Int.reduceLT, Int.reduceEq, hs]; exact has_f26 hD i) ?_
  cases hh : d.has i with
  | false =>
    simp only [go_sem, Nat.reduceLT, Nat.reduceEqDiff, reduceCtorEq, Int.reduceLT, Int.reduceEq, hs]
    exact ⟨Ext.refl _, fun _ => rfl, fun e => by rw [hh] at e; cases e⟩
  | true =>
    have hi : 0 ≤ i ∧ i < (d.firm.length : Int) := by
      unfold D.has at hh
      simpa using hh
    obtain ⟨k, rfl⟩ : ∃ k : Nat, i = (k : Int) := ⟨i.toNat, by omega⟩
    obtain ⟨vf, vl, a1, a2, a3⟩ := hD
    obtain ⟨k0, k1, _, _, _⟩ := ldp a1
    have hk : d.firm[k]? = some (d.firm.getD k []) := by
      rw [List.getD_eq_getElem?_getD, List.getElem?_eq_getElem (by omega)]; rfl
    have hke : (fE d.firm)[k]? = some (cB (d.firm.getD k [])) := by simp only [fE, List.getElem?_map, hk, Option.map_some]
    have h64 : (d.firm.getD k []).length = 64 := hO.f64 _ (List.mem_of_getElem? hk)
    obtain ⟨id, gg, e1, e2, e3⟩ := a2.at_ hke
    have hld := ld_ecells (n := 64) e3 hke (by rw [cB_len, h64])
    simp only [go_sem, Nat.reduceLT, Nat.reduceEqDiff, reduceCtorEq, Int.reduceLT, Int.reduceEq, hs, h0, h1, k0, e2, hld]
    rw [st_agg (n := 64) (cells := List.replicate 64 (.cv (.sc (.int .u8 0)))) (by rw [List.length_map, cB_len, h64]) at_last (by simp), set_last']
    have hx := Ext.push h (VO.box ((cB (d.firm.getD k [])).map .cv) false)
    obtain ⟨_, k1, _, _, _⟩ := ldp (hx.get a1)
    simp only [go_sem, Nat.reduceLT, Nat.reduceEqDiff, reduceCtorEq, Int.reduceLT, Int.reduceEq, hs, h0, k1, a3.ln, lE_len]
    refine f15_loop a3 (fun o ho => (hO.l64 o ho).1) (by have := hO.lw; omega) (k : Int) d.loose [] (d.firm.getD k []) _ _ _ rfl h64 (by simp only [slot_len, hs]) (by simp only [go_sem, Nat.reduceLT, Nat.reduceEqDiff, reduceCtorEq, Int.reduceLT, Int.reduceEq, h1]) (by simp only [go_sem, Nat.reduceLT, Nat.reduceEqDiff, reduceCtorEq, Int.reduceLT, Int.reduceEq, hs]) (by simp only [go_sem, Nat.reduceLT, Nat.reduceEqDiff, reduceCtorEq, Int.reduceLT, Int.reduceEq, hs]) (by simp only [go_sem, Nat.reduceLT, Nat.reduceEqDiff, reduceCtorEq, Int.reduceLT, Int.reduceEq, hs]) (by simp only [go_sem, Nat.reduceLT, Nat.reduceEqDiff, reduceCtorEq, Int.reduceLT, Int.reduceEq, hs]; rfl) ⟨hx, at_last⟩ (fun s' g' b1 b2 b3 => ?_)
    have hcl : (d.cell k).length = 64 := cell_len (fun o ho => ⟨(hO.l64 o ho).1, trivial⟩) h64
    simp only [go_sem, Nat.reduceLT, Nat.reduceEqDiff, reduceCtorEq, Int.reduceLT, Int.reduceEq, b1, b2]
    rw [sa_box b3.box (by simp only [List.length_map, cB_len]; show _ ≤ (d.cell k).length; omega)]
    simp only [go_sem, Nat.reduceLT, Nat.reduceEqDiff, reduceCtorEq, Int.reduceLT, Int.reduceEq, b1]
    exact ⟨b3.ext, fun e => (by rw [hh] at e; cases e), fun _ => ⟨_, rfl, h.length, by rw [show ((k : Int).toNat) = k from rfl, hcl], b3.box⟩⟩
end Go.V04

set_option linter.unusedSimpArgs false
set_option linter.unusedVariables false
namespace Go.V04
open Go Go.Vm

def settleF (kf : Nat → Bool) : Nat → List (List UInt8) → List (Nat × List UInt8) → List (List UInt8)
  | _, firm, [] => firm
  | k, firm, o :: l => settleF kf (k + 1) (if kf k then firm.set o.1 o.2 else firm) l

theorem settle_len {kf : Nat → Bool} : ∀ {l : List (Nat × List UInt8)} {k : Nat} {firm : List (List UInt8)}, (settleF kf k firm l).length = firm.length
  | [], _, _ => rfl
  | o :: l, k, firm => by
    show (settleF kf (k + 1) (if kf k then firm.set o.1 o.2 else firm) l).length = _
    rw [settle_len]
    split <;> simp

structure SetI (h : Heap) (f : Option Nat) (vf : VV) (firm : List (List UInt8)) (g : Heap) : Prop where
  len : h.length ≤ g.length
  same : ∀ j, j < h.length → f ≠ some j → g[j]? = h[j]?
  firm : FirmV g (fE firm) vf f

theorem SetI.push {h : Heap} {f : Option Nat} {vf : VV} {firm : List (List UInt8)} {g : Heap} (i : SetI h f vf firm g) (o : VO) : SetI h f vf firm (g ++ [o]) :=
  ⟨by have := i.len; simp; omega, fun j hj hf => by rw [List.getElem?_append_left (Nat.lt_of_lt_of_le hj i.len), i.same j hj hf], i.firm.push o⟩

theorem f28_loop {h : Heap} {p : Nat} {vf vl a b c3 : VV} {f lp : Option Nat} {l : List (Nat × List UInt8)} {firm0 : List (List UInt8)} (hp : h[p]? = some (.box [vf, vl, a, b, c3] false)) (hF : FirmV h (fE firm0) vf f) (hL : LooseV h (lE l) vl lp)
    (hl : ∀ o ∈ l, o.2.length = 64 ∧ o.1 < firm0.length) (hn : l.length ≤ 1000)
    {fi : Nat} {caps : List VV} {kf : Nat → Bool} (hkf : ∀ (k : Nat) g, k < 1000 → (∀ j, j < h.length → f ≠ some j → g[j]? = h[j]?) → call F fi ([vi .i64 k] ++ caps) g = some (.ret (vb (kf k)), g)) :
    ∀ (rest done : List (Nat × List UInt8)) (firm : List (List UInt8)) (s : List VV) (g : Heap) (Q : Pst), l = done ++ rest → firm.length = firm0.length → (∀ b ∈ firm, b.length = 64) → s.length = 32 → s.getD 0 .undef = .ptr p 0 → s.getD 1 .undef = .func fi caps →
      s.getD 9 .undef = vl → s.getD 10 .undef = vi .i64 l.length → s.getD 11 .undef = vi .i64 done.length → SetI h f vf firm g →
      (∀ s' g', s'.length = 32 → s'.getD 0 .undef = .ptr p 0 → SetI h f vf (settleF kf done.length firm rest) g' → Q (.exit 0) ⟨s', g'⟩) → X F (.loop f28_1) ⟨s, g⟩ Q := by
  have hpf : f ≠ some p := by
    rcases hF with ⟨id, gg, ex, a1, _, a3⟩ | ⟨a1, _⟩
    · rintro e; rw [e] at a1; cases a1; rw [hp] at a3; cases a3
    · rw [a1]; simp
  have hlf : ∀ i, lp = some i → f ≠ some i := by
    intro i hi
    rcases hF with ⟨id, gg, ex, a1, _, a3⟩ | ⟨a1, _⟩
    · rintro e; rw [e] at a1; cases a1
      rcases hL with ⟨id', g', b1, _, _, b3⟩ | ⟨b1, _⟩
      · rw [hi] at b1; cases b1; rw [a3] at b3; cases b3
      · rw [hi] at b1; cases b1
    · rw [a1]; simp
  intro rest
  induction rest with
  | nil =>
    intro done firm s g Q hdr hfl hx hs h0 h1 h9 h10 h11 hI hQ
    rw [X_loop, X_eq f28_1.eq_1]
    have c : ¬ (done.length : Int) < (l.length : Int) := by rw [hdr]; simp
    simp only [go_sem, Nat.reduceLT, Nat.reduceEqDiff, reduceCtorEq, Int.reduceLT, Int.reduceEq, hs, h10, h11, c]
    rw [X_eq f28_0.eq_1]
    simp only [go_sem, Nat.reduceLT, Nat.reduceEqDiff, reduceCtorEq, Int.reduceLT, Int.reduceEq, hs]
    exact hQ _ _ (by simp only [slot_len, hs]) (by simp only [go_sem, Nat.reduceLT, Nat.reduceEqDiff, reduceCtorEq, Int.reduceLT, Int.reduceEq, h0]) hI
  | cons o rest ih =>
    intro done firm s g Q hdr hfl hx hs h0 h1 h9 h10 h11 hI hQ
    rw [X_loop, X_eq f28_1.eq_1]
    have c : (done.length : Int) < (l.length : Int) := by rw [hdr]; simp; omega
    have hLg : LooseV g (lE l) vl lp := by
      rcases hL with ⟨id', g', b1, b2, b4, b3⟩ | e
      · exact .inl ⟨id', g', b1, b2, b4, by rw [hI.same id' (lt_of_get b3) (hlf id' b1)]; exact b3⟩
      · exact .inr e
    obtain ⟨id, gg, e1, e2, e3⟩ := hLg.at_ (lE_get hdr)
    have hom := hl o (by rw [hdr]; simp)
    have ho : o.2.length = 64 := hom.1
    have hel : (CV.sc (.int .i64 o.1) :: cB o.2).length = 65 := by simp only [List.length_cons, cB_len, ho]
    have hld := ld_ecells (n := 65) e3 (lE_get hdr) hel
    simp only [go_sem, Nat.reduceLT, Nat.reduceEqDiff, reduceCtorEq, Int.reduceLT, Int.reduceEq, hs, h10, h11, c]
    rw [X_eq f28_0.eq_1]
    simp only [go_sem, Nat.reduceLT, Nat.reduceEqDiff, reduceCtorEq, Int.reduceLT, Int.reduceEq, hs, h9, h11, e2, hld]
    rw [st_agg (n := 65) (cells := .cv (.sc (.int .i64 0)) :: List.replicate 64 (.cv (.sc (.int .u8 0)))) (by simp [hel, cB_len, ho]) at_last (by simp), set_last']
    have hI2 := hI.push (VO.box ((CV.sc (.int .i64 o.1) :: cB o.2).map .cv) false)
    have hl1 : ldO (g ++ [VO.box ((CV.sc (.int .i64 o.1) :: cB o.2).map .cv) false]) false 1 (.ptr g.length 0) = some (vi .i64 o.1, g ++ [VO.box ((CV.sc (.int .i64 o.1) :: cB o.2).map .cv) false]) := ld_ptr at_last rfl
    have hl2 : ldO (g ++ [VO.box ((CV.sc (.int .i64 o.1) :: cB o.2).map .cv) false]) true 64 (.ptr g.length 1) = some (.agg ((cB o.2).map .cv), g ++ [VO.box ((CV.sc (.int .i64 o.1) :: cB o.2).map .cv) false]) := by
      rw [ld_cells at_last (by simp [cB_len, ho])]
      have : (((CV.sc (.int .i64 o.1) :: cB o.2).map VV.cv).drop 1).take 64 = (cB o.2).map VV.cv := by
        simp only [List.map_cons, List.drop_succ_cons, List.drop_zero]
        exact List.take_of_length_le (by simp [cB_len, ho])
      rw [this]
    generalize hg2 : g ++ [VO.box ((CV.sc (.int .i64 o.1) :: cB o.2).map .cv) false] = g2 at hl1 hl2 hI2
    have hdn : done.length < 1000 := by have := congrArg List.length hdr; simp at this; omega
    have hnx : ((done.length : Int) + 1) = ((done ++ [o]).length : Int) := by simp
    have hw : IntKind.i64.wrap ((done.length : Int) + 1) = ((done ++ [o]).length : Int) := by rw [hnx, IntWalk.i64_in _ (by simp; omega)]
    simp only [go_sem, Nat.reduceLT, Nat.reduceEqDiff, reduceCtorEq, Int.reduceLT, Int.reduceEq, hs, h1]
    refine XO_callvR (f := fi) (caps := caps) (by simp only [go_sem, Nat.reduceLT, Nat.reduceEqDiff, reduceCtorEq, Int.reduceLT, Int.reduceEq, hs]) (by simp only [List.map, go_sem, Nat.reduceLT, Nat.reduceEqDiff, reduceCtorEq, Int.reduceLT, Int.reduceEq, hs]; exact hkf done.length g2 hdn hI2.same) ?_
    have hsu : settleF kf done.length firm (o :: rest) = settleF kf (done ++ [o]).length (if kf done.length then firm.set o.1 o.2 else firm) rest := by
      rw [List.length_append]; rfl
    rw [hsu] at hQ
    cases hk : kf done.length with
    | true =>
      rw [hk, if_pos rfl] at hQ
      have hpg : g2[p]? = some (.box [vf, vl, a, b, c3] false) := by rw [hI2.same p (lt_of_get hp) hpf]; exact hp
      obtain ⟨k0, _, _, _, _⟩ := ldp hpg
      have hof : o.1 < firm.length := by rw [hfl]; exact hom.2
      have hke : (fE firm)[o.1]? = some (cB (firm[o.1])) := by simp only [fE, List.getElem?_map, List.getElem?_eq_getElem hof, Option.map_some]
      obtain ⟨fid, g3, q1, q2, q3⟩ := hI2.firm.at_ hke
      have hst := st_ecells (n := 64) (cs := cB o.2) (by rw [cB_len, ho]) q3 hke (by rw [cB_len]; exact hx _ (List.getElem_mem hof))
      simp only [go_sem, Nat.reduceLT, Nat.reduceEqDiff, reduceCtorEq, Int.reduceLT, Int.reduceEq, hs]
      refine X_draw rfl ?_
      simp only [go_sem, Nat.reduceLT, Nat.reduceEqDiff, reduceCtorEq, Int.reduceLT, Int.reduceEq, hs, h0, k0, hl1, hl2, q2, hst, h11, hw]
      refine ih (done ++ [o]) (firm.set o.1 o.2) _ _ Q (by rw [hdr]; simp) (by simp [hfl]) ?_ (by simp only [slot_len, hs]) (by simp only [go_sem, Nat.reduceLT, Nat.reduceEqDiff, reduceCtorEq, Int.reduceLT, Int.reduceEq, h0]) (by simp only [go_sem, Nat.reduceLT, Nat.reduceEqDiff, reduceCtorEq, Int.reduceLT, Int.reduceEq, h1]) (by simp only [go_sem, Nat.reduceLT, Nat.reduceEqDiff, reduceCtorEq, Int.reduceLT, Int.reduceEq, h9]) (by simp only [go_sem, Nat.reduceLT, Nat.reduceEqDiff, reduceCtorEq, Int.reduceLT, Int.reduceEq, h10]) (by simp only [go_sem, Nat.reduceLT, Nat.reduceEqDiff, reduceCtorEq, Int.reduceLT, Int.reduceEq, hs]) ⟨?_, fun j hj hf => ?_, ?_⟩ hQ
      · intro b hb
        rcases List.mem_or_eq_of_mem_set hb with e | e
        · exact hx b e
        · rw [e]; exact ho
      · rw [List.length_set]; exact hI2.len
      · rw [List.getElem?_set_ne (by rintro rfl; exact hf q1), hI2.same j hj hf]
      · rcases hI2.firm with ⟨id', g', ex, b1, b2, b3⟩ | ⟨b1, _⟩
        · rw [q1] at b1; cases b1
          rw [q3] at b3; cases b3
          refine .inl ⟨fid, g3, ex, q1, ?_, ?_⟩
          · rw [b2, fE_len, fE_len, List.length_set]
          · rw [List.getElem?_set_self (lt_of_get q3)]
            simp [fE, List.map_set]
        · rw [q1] at b1; cases b1
    | false =>
      rw [hk, if_neg (by simp)] at hQ
      simp only [go_sem, Nat.reduceLT, Nat.reduceEqDiff, reduceCtorEq, Int.reduceLT, Int.reduceEq, hs, h11, hw]
      exact ih (done ++ [o]) firm _ _ Q (by rw [hdr]; simp) hfl hx (by simp only [slot_len, hs]) (by simp only [go_sem, Nat.reduceLT, Nat.reduceEqDiff, reduceCtorEq, Int.reduceLT, Int.reduceEq, h0]) (by simp only [go_sem, Nat.reduceLT, Nat.reduceEqDiff, reduceCtorEq, Int.reduceLT, Int.reduceEq, h1]) (by simp only [go_sem, Nat.reduceLT, Nat.reduceEqDiff, reduceCtorEq, Int.reduceLT, Int.reduceEq, h9]) (by simp only [go_sem, Nat.reduceLT, Nat.reduceEqDiff, reduceCtorEq, Int.reduceLT, Int.reduceEq, h10]) (by simp only [go_sem, Nat.reduceLT, Nat.reduceEqDiff, reduceCtorEq, Int.reduceLT, Int.reduceEq, hs]) hI2 hQ

def D.settle (d : D) (kf : Nat → Bool) : D := { d with firm := settleF kf 0 d.firm d.loose, loose := [] }

structure SettleP (h : Heap) (p : Nat) (f l : Option Nat) (d : D) (v : VV) (h' : Heap) : Prop where
  v : v = .tup []
  dev : DevAt h' p f none d
  kept : Kept h h' p f l

theorem settle_f28 {h : Heap} {p : Nat} {f l : Option Nat} {d : D} (hD : DevAt h p f l d) (hO : d.OK) {fi : Nat} {caps : List VV} {kf : Nat → Bool}
    (hkf : ∀ (k : Nat) g, k < 1000 → (∀ j, j < h.length → f ≠ some j → g[j]? = h[j]?) → call F fi ([vi .i64 k] ++ caps) g = some (.ret (vb (kf k)), g)) :
    ∃ v h', call F 28 [.ptr p 0, .func fi caps] h = some (.ret v, h') ∧ SettleP h p f l (d.settle kf) v h' := by
  obtain ⟨vf, vl, a1, a2, a3⟩ := hD
  refine call_E (fn := f28) rfl ?_
  simp only [f28]
  generalize hs0 : ([.ptr p 0, .func fi caps] ++ List.replicate _ VV.undef : List VV) = s
  have hs : s.length = 32 := by rw [← hs0]; rfl
  have h0 : s.getD 0 .undef = .ptr p 0 := by rw [← hs0]; rfl
  have h1 : s.getD 1 .undef = .func fi caps := by rw [← hs0]; rfl
  clear hs0
  obtain ⟨_, k1, _, _, _⟩ := ldp a1
  simp only [go_sem, Nat.reduceLT, Nat.reduceEqDiff, reduceCtorEq, Int.reduceLT, Int.reduceEq, hs, h0, k1, a3.ln, lE_len]
  refine f28_loop a1 a2 a3 (fun o ho => hO.l64 o ho) (by have := hO.lw; omega) hkf d.loose [] d.firm _ _ _ rfl rfl hO.f64 (by simp only [slot_len, hs]) (by simp only [go_sem, Nat.reduceLT, Nat.reduceEqDiff, reduceCtorEq, Int.reduceLT, Int.reduceEq, h0]) (by simp only [go_sem, Nat.reduceLT, Nat.reduceEqDiff, reduceCtorEq, Int.reduceLT, Int.reduceEq, h1]) (by simp only [go_sem, Nat.reduceLT, Nat.reduceEqDiff, reduceCtorEq, Int.reduceLT, Int.reduceEq, hs]) (by simp only [go_sem, Nat.reduceLT, Nat.reduceEqDiff, reduceCtorEq, Int.reduceLT, Int.reduceEq, hs]) (by simp only [go_sem, Nat.reduceLT, Nat.reduceEqDiff, reduceCtorEq, Int.reduceLT, Int.reduceEq, hs]; rfl) ⟨Nat.le_refl _, fun _ _ _ => rfl, a2⟩ (fun s' g' b1 b2 b3 => ?_)
  have hpf : f ≠ some p := by
    rcases a2 with ⟨id, gg, ex, c1, _, c3⟩ | ⟨c1, _⟩
    · rintro e; rw [e] at c1; cases c1; rw [a1] at c3; cases c3
    · rw [c1]; simp
  have a1' : g'[p]? = some (.box [vf, vl, cpx d.w d.f, vb d.fused, vi .i64 d.left] false) := by rw [b3.same p (lt_of_get a1) hpf]; exact a1
  obtain ⟨s1, _, _, _⟩ := stp a1' (v := nilS) rfl
  simp only [go_sem, Nat.reduceLT, Nat.reduceEqDiff, reduceCtorEq, Int.reduceLT, Int.reduceEq, b1, b2, s1]
  refine ⟨rfl, ⟨vf, nilS, ?_, ?_, .inr ⟨rfl, rfl, rfl⟩⟩, ⟨by rw [List.length_set]; exact b3.len, fun j hj x1 x2 _ => ?_⟩⟩
  · rw [List.getElem?_set_self (lt_of_get a1')]; rfl
  · rcases b3.firm with ⟨id, gg, ex, c1, c2, c3⟩ | e
    · exact .inl ⟨id, gg, ex, c1, c2, by rw [List.getElem?_set_ne (by rintro rfl; exact hpf c1)]; exact c3⟩
    · exact .inr e
  · rw [List.getElem?_set_ne (fun e => x1 e.symm), b3.same j hj x2]

theorem true_f29 (v : VV) (g : Heap) : call F 29 [v] g = some (.ret (vb true), g) := by
  refine call_P (fn := f29) rfl ?_
  simp only [f29]
  generalize hs0 : ([v] ++ List.replicate _ VV.undef : List VV) = s
  have hs : s.length = 3 := by rw [← hs0]; rfl
  clear hs0
  simp only [go_sem, Nat.reduceLT, Nat.reduceEqDiff, reduceCtorEq, Int.reduceLT, Int.reduceEq, hs]
  exact ⟨rfl, rfl⟩

/-! ### Flush -/
def D.flush (d : D) : D := if d.dark then d else { d.burnt.settle (fun _ => true) with w := d.w, f := d.f + 1 }

theorem burnt_OK {d : D} (h : d.OK) : d.burnt.OK := by
  refine ⟨?_, ?_, ?_, ?_, ?_, ?_⟩
  · rw [burnt_firm]; exact h.f64
  · rw [burnt_firm, burnt_loose]; exact h.l64
  · rw [burnt_firm]; exact h.n
  · rw [burnt_loose]; exact h.lw
  · rw [burnt_w]; exact h.w
  · rw [burnt_f]; exact h.f

structure FlushP (h : Heap) (p : Nat) (f l : Option Nat) (d : D) (v : VV) (h' : Heap) : Prop where
  v : v = .tup []
  m : ∃ l', Moved h h' p f l l' d

theorem flush_f13 {h : Heap} {p : Nat} {f l : Option Nat} {d : D} (hD : DevAt h p f l d) (hO : d.OK) (hf : d.f < 280) : ∃ v h', call F 13 [.ptr p 0] h = some (.ret v, h') ∧ FlushP h p f l d.flush v h' := by
  refine call_E (fn := f13) rfl ?_
  simp only [f13]
  generalize hs0 : ([.ptr p 0] ++ List.replicate _ VV.undef : List VV) = s
  have hs : s.length = 18 := by rw [← hs0]; rfl
  have h0 : s.getD 0 .undef = .ptr p 0 := by rw [← hs0]; rfl
  clear hs0
  simp only [go_sem, Nat.reduceLT, Nat.reduceEqDiff, reduceCtorEq, Int.reduceLT, Int.reduceEq, hs]
  rw [X_eq f13_0.eq_1]
  obtain ⟨g1, hc1, hD1, hK1⟩ := burn_f27 hD
  simp only [go_sem, Nat.reduceLT, Nat.reduceEqDiff, reduceCtorEq, Int.reduceLT, Int.reduceEq, hs, h0, en_p]
  refine XO_callR (by simp only [List.map, go_sem, Nat.reduceLT, Nat.reduceEqDiff, reduceCtorEq, Int.reduceLT, Int.reduceEq, hs]; exact hc1) ?_
  unfold D.flush
  cases hdk : d.dark with
  | true =>
    have e : d.burnt = d := by unfold D.burnt; rw [if_pos hdk]
    rw [e] at hD1
    simp only [go_sem, Nat.reduceLT, Nat.reduceEqDiff, reduceCtorEq, Int.reduceLT, Int.reduceEq, hs]
    exact ⟨rfl, l, hD1, hK1, LNew.refl _ _⟩
  | false =>
    obtain ⟨v2, g2, hc2, hP2⟩ := settle_f28 hD1 (burnt_OK hO) (fi := 29) (caps := []) (kf := fun _ => true) (fun k g _ _ => true_f29 _ g)
    simp only [go_sem, Nat.reduceLT, Nat.reduceEqDiff, reduceCtorEq, Int.reduceLT, Int.reduceEq, hs, h0]
    refine XO_callR (by simp only [List.map, go_sem, Nat.reduceLT, Nat.reduceEqDiff, reduceCtorEq, Int.reduceLT, Int.reduceEq, hs]; exact hc2) ?_
    obtain ⟨vf, vl, b1, b2, b3⟩ := hP2.dev
    obtain ⟨_, _, m2, _, _⟩ := ldp b1
    have hadd : binO .add (cpx (d.burnt.settle fun _ => true).w (d.burnt.settle fun _ => true).f) (.cv (.sc (.complex .f64 0 4607182418800017408))) = some (cpx d.w (d.f + 1)) := by
      have x1 := fl_add d.f (by omega)
      have x2 := fl_add0 d.w (by have := hO.w; omega)
      have y1 : (d.burnt.settle fun _ => true).w = d.w := burnt_w d
      have y2 : (d.burnt.settle fun _ => true).f = d.f := burnt_f d
      rw [y1, y2]
      simp [binO, binV, x1, x2]
    obtain ⟨_, s2, _, _⟩ := stp b1 (v := cpx d.w (d.f + 1)) rfl
    simp only [go_sem, Nat.reduceLT, Nat.reduceEqDiff, reduceCtorEq, Int.reduceLT, Int.reduceEq, hs, h0, m2, hadd, s2]
    obtain ⟨t1, t2⟩ := DevAt.turn (d' := { d.burnt.settle (fun _ => true) with w := d.w, f := d.f + 1 }) b1 b2 b3 rfl rfl
    have y1 : (d.burnt.settle fun _ => true).w = d.w := burnt_w d
    simp only [y1] at t1 t2
    exact ⟨rfl, none, t1, (hK1.trans hP2.kept (fun _ e => .inl e)).trans t2 (fun _ e => by cases e), fun _ e => by cases e⟩

/-! ### Crash -/
def eBool (b : List Bool) : List (List CV) := b.map fun x => [.sc (.bool x)]
theorem eBool_len {b : List Bool} : (eBool b).length = b.length := by simp [eBool]
def keepF (b : List Bool) (k : Nat) : Bool := b.getD k false

theorem keep_f30 {b : List Bool} {v : VV} (hb : SlV 1 (eBool b) v) (hl : b.length ≤ maxLen) (kb k : Nat) (g : Heap) (hg : g[kb]? = some (.box [v] false)) : call F 30 [vi .i64 k, .ptr kb 0] g = some (.ret (vb (keepF b k)), g) := by
  refine call_P (fn := f30) rfl ?_
  simp only [f30]
  generalize hs0 : ([vi .i64 k, .ptr kb 0] ++ List.replicate _ VV.undef : List VV) = s
  have hs : s.length = 14 := by rw [← hs0]; rfl
  have h0 : s.getD 0 .undef = vi .i64 k := by rw [← hs0]; rfl
  have h1 : s.getD 1 .undef = .ptr kb 0 := by rw [← hs0]; rfl
  clear hs0
  have hld : ldO g false 1 (.ptr kb 0) = some (v, g) := ld_ptr hg rfl
  by_cases c : (k : Int) < (b.length : Int)
  · have hk : k < b.length := by omega
    have hke : (eBool b)[(k : Int).toNat]? = some [.sc (.bool (b[k]))] := by
      show (eBool b)[k]? = _
      simp [eBool, hk]
    have e1 := hb.ia (h := g) (k := .i64) (j := (k : Int)) (by omega) hke
    simp only [go_sem, Nat.reduceLT, Nat.reduceEqDiff, reduceCtorEq, Int.reduceLT, Int.reduceEq, hs, h0, h1, hld, hb.ln, eBool_len, c, e1]
    refine ⟨?_, rfl⟩
    unfold keepF
    rw [List.getD_eq_getElem?_getD, List.getElem?_eq_getElem hk]; rfl
  · have hk : ¬ k < b.length := by omega
    simp only [go_sem, Nat.reduceLT, Nat.reduceEqDiff, reduceCtorEq, Int.reduceLT, Int.reduceEq, hs, h0, h1, hld, hb.ln, eBool_len, c]
    refine ⟨?_, rfl⟩
    unfold keepF
    rw [List.getD_eq_getElem?_getD, List.getElem?_eq_none (by omega)]; rfl

def D.crash (d : D) (b : List Bool) : D := { d.settle (keepF b) with fused := false, left := 0 }

theorem crash_f14 {h : Heap} {p : Nat} {f l : Option Nat} {d : D} (hD : DevAt h p f l d) (hO : d.OK) {b : List Bool} {v : VV} (hb : SlV 1 (eBool b) v) (hl : b.length ≤ maxLen) : ∃ w h', call F 14 [.ptr p 0, v] h = some (.ret w, h') ∧ FlushP h p f l (d.crash b) w h' := by
  refine call_E (fn := f14) rfl ?_
  simp only [f14]
  generalize hs0 : ([.ptr p 0, v] ++ List.replicate _ VV.undef : List VV) = s
  have hs : s.length = 15 := by rw [← hs0]; rfl
  have h0 : s.getD 0 .undef = .ptr p 0 := by rw [← hs0]; rfl
  have h1 : s.getD 1 .undef = v := by rw [← hs0]; rfl
  clear hs0
  have hcell : isCell v = true := by rcases hb with ⟨rfl, _⟩ | ⟨ex, rfl⟩ <;> rfl
  simp only [go_sem, Nat.reduceLT, Nat.reduceEqDiff, reduceCtorEq, Int.reduceLT, Int.reduceEq, hs, h1, bx_1 hcell]
  rw [X_eq f14_0.eq_1]
  simp only [go_sem, Nat.reduceLT, Nat.reduceEqDiff, reduceCtorEq, Int.reduceLT, Int.reduceEq, hs, h0, en_p]
  have hD1 := hD.push (.box [v] false)
  obtain ⟨v2, g2, hc2, hP2⟩ := settle_f28 hD1 hO (fi := 30) (caps := [.ptr h.length 0]) (kf := keepF b) (fun k g _ hg => keep_f30 hb hl h.length k g (by
    rw [hg h.length (by simp) ?_]
    · exact at_last
    · obtain ⟨vf, vl, _, x2, _⟩ := hD
      rcases x2 with ⟨id, gg, ex, c1, _, c3⟩ | ⟨c1, _⟩
      · rintro e; rw [e] at c1; cases c1; have := lt_of_get c3; omega
      · rw [c1]; simp))
  simp only [go_sem, Nat.reduceLT, Nat.reduceEqDiff, reduceCtorEq, Int.reduceLT, Int.reduceEq, hs, h0, h1, XO_mkfn, List.map]
  refine XO_callR (by simp only [List.map, go_sem, Nat.reduceLT, Nat.reduceEqDiff, reduceCtorEq, Int.reduceLT, Int.reduceEq, hs]; exact hc2) ?_
  obtain ⟨vf, vl, b1, b2, b3⟩ := hP2.dev
  obtain ⟨_, _, s3, _⟩ := stp b1 (v := vb false) rfl
  have b1' : (g2.set p (.box [vf, vl, cpx (d.settle (keepF b)).w (d.settle (keepF b)).f, vb false, vi .i64 (d.settle (keepF b)).left] false))[p]? = some (.box [vf, vl, cpx (d.settle (keepF b)).w (d.settle (keepF b)).f, vb false, vi .i64 (d.settle (keepF b)).left] false) := by rw [List.getElem?_set_self (lt_of_get b1)]
  obtain ⟨_, _, _, s4⟩ := stp b1' (v := vi .i64 0) rfl
  simp only [go_sem, Nat.reduceLT, Nat.reduceEqDiff, reduceCtorEq, Int.reduceLT, Int.reduceEq, hs, h0, s3, s4]
  rw [List.set_set]
  obtain ⟨t1, t2⟩ := DevAt.turn (d' := d.crash b) b1 b2 b3 rfl rfl
  exact ⟨rfl, none, t1, ((Kept.push h _ p f l).trans hP2.kept (fun _ e => .inl e)).trans t2 (fun _ e => by cases e), fun _ e => by cases e⟩
end Go.V04

set_option linter.unusedSimpArgs false
set_option linter.unusedVariables false
namespace Go.V04
open Go Go.Vm

/-- A slice that grows behind a heap. -/
structure NewB (h0 h : Heap) (z : Nat) (els : List (List CV)) (v : VV) : Prop where
  ext : Ext h0 h
  v : (els = [] ∧ v = nilS) ∨ ∃ id g, h0.length ≤ id ∧ els ≠ [] ∧ v = .own id g 0 els.length false ∧ h[id]? = some (.arr z els g false)
theorem NewB.nil (h : Heap) (z : Nat) : NewB h h z [] nilS := ⟨Ext.refl h, .inl ⟨rfl, rfl⟩⟩
theorem NewB.then {h0 h h' : Heap} {z : Nat} {els : List (List CV)} {v : VV} (b : NewB h0 h z els v) (e : Ext h h') : NewB h0 h' z els v := by
  refine ⟨b.ext.trans e, ?_⟩
  rcases b.v with x | ⟨id, g, a1, a2, a3, a4⟩
  · exact .inl x
  · exact .inr ⟨id, g, a1, a2, a3, e.get a4⟩
theorem NewB.buf {h0 h : Heap} {z : Nat} {els : List (List CV)} {v : VV} (b : NewB h0 h z els v) : BufG h z els v := by
  rcases b.v with ⟨rfl, rfl⟩ | ⟨id, g, _, h1, rfl, h2⟩
  · exact .inl ⟨rfl, rfl⟩
  · exact .inr ⟨id, g, h1, rfl, h2⟩

theorem app_N {h0 h : Heap} {z by_ : Nat} {zero : List CV} {x y : Opd} {s : List VV} {els new : List (List CV)} {v : VV} (b : NewB h0 h z els v) (hx : evalO s x = v) (hy : srcOf h z (evalO s y) = some new) (hne : new ≠ []) (h1 : (els.length + new.length) * by_ ≤ 35184372088832) (h2 : els.length + new.length ≤ 35184372088832) :
    ∃ v' h', stepI h (evalO s) (.app z by_ zero x y) = some (v', h') ∧ NewB h0 h' z (els ++ new) v' ∧ (∀ (j : Nat) (o : VO), h[j]? = some o → (∀ e g, o ≠ VO.arr z e g false) → h'[j]? = some o) := by
  have hm : maxBytes = 35184372088832 := rfl
  rcases b.v with ⟨rfl, rfl⟩ | ⟨id, g, a1, hne1, rfl, h3⟩
  · refine ⟨.own h.length 0 0 new.length false, h ++ [.arr z new 0 false], ?_, ⟨b.ext.trans (Ext.push h _), .inr ⟨h.length, 0, b.ext.len, by simpa using hne, by simp, by simp⟩⟩, fun j o hj _ => (Ext.push h _).get hj⟩
    simp only [List.length_nil, Nat.zero_add] at h1 h2
    simp only [stepI, hy, hx, lenV, hm, Nat.zero_add, h1, h2, and_self, if_true, hne, if_false]
  · have hid := lt_of_get h3
    refine ⟨.own id (g + 1) 0 (els.length + new.length) false, h.set id (.arr z (els ++ new) (g + 1) false), ?_, ⟨⟨by rw [List.length_set]; exact b.ext.len, fun j hj => by rw [List.getElem?_set_ne (by omega)]; exact b.ext.same j hj⟩, .inr ⟨id, g + 1, a1, by simp [hne], by simp, by rw [List.getElem?_set_self hid]⟩⟩, fun j o hj ho => (by rw [List.getElem?_set_ne (by rintro rfl; rw [h3] at hj; cases hj; exact ho _ _ rfl)]; exact hj)⟩
    simp only [stepI, hy, hx, lenV, hm, h1, h2, and_self, if_true, h3, Nat.zero_add, Nat.le_refl, Bool.false_eq_true, if_false, List.drop_zero, List.take_length, hne]

theorem XO_appN {F : Nat → Option FnIR} {h0 h : Heap} {z by_ : Nat} {zero : List CV} {x y : Opd} {s : List VV} {els new : List (List CV)} {v : VV} {d : Option Nat} {r : List Op1} {Q : Pst} (b : NewB h0 h z els v) (hx : evalO s x = v) (hy : srcOf h z (evalO s y) = some new) (hne : new ≠ []) (h1 : (els.length + new.length) * by_ ≤ 35184372088832) (h2 : els.length + new.length ≤ 35184372088832)
    (hk : ∀ v' h', NewB h0 h' z (els ++ new) v' → (∀ (j : Nat) (o : VO), h[j]? = some o → (∀ e g, o ≠ VO.arr z e g false) → h'[j]? = some o) → XO F r ⟨putD s d v', h'⟩ Q) : XO F (⟨none, d, .app z by_ zero x y⟩ :: r) ⟨s, h⟩ Q := by
  obtain ⟨v', h', e1, e2, e3⟩ := app_N (zero := zero) b hx hy hne h1 h2
  rw [XO_ins rfl, e1, XV_some]
  exact hk v' h' e2 e3
theorem XD_appN {F : Nat → Option FnIR} {h0 h : Heap} {z by_ : Nat} {zero : List CV} {x y : Opd} {s : List VV} {els new : List (List CV)} {v : VV} {d : Option Nat} {q : List (Op1 × Cl)} {Q : Pst} (b : NewB h0 h z els v) (hx : evalO s x = v) (hy : srcOf h z (evalO s y) = some new) (hne : new ≠ []) (h1 : (els.length + new.length) * by_ ≤ 35184372088832) (h2 : els.length + new.length ≤ 35184372088832)
    (hk : ∀ v' h', NewB h0 h' z (els ++ new) v' → (∀ (j : Nat) (o : VO), h[j]? = some o → (∀ e g, o ≠ VO.arr z e g false) → h'[j]? = some o) → XD F q ⟨putD s d v', h'⟩ Q) : XD F ((⟨none, d, .app z by_ zero x y⟩, .k) :: q) ⟨s, h⟩ Q := by
  obtain ⟨v', h', e1, e2, e3⟩ := app_N (zero := zero) b hx hy hne h1 h2
  rw [XD_ins rfl, e1, XVD_k]
  exact hk v' h' e2 e3

/-! ### Loose -/
def eI (l : List Nat) : List (List CV) := l.map fun (n : Nat) => [CV.sc (.int .i64 (n : Int))]
theorem eI_len {l : List Nat} : (eI l).length = l.length := by simp [eI]

theorem f18_loop {h : Heap} {vl : VV} {lp : Option Nat} {l : List (Nat × List UInt8)} (hL : LooseV h (lE l) vl lp) (hl : ∀ o ∈ l, o.2.length = 64) (hn : l.length ≤ 1000) :
    ∀ (rest done : List (Nat × List UInt8)) (s : List VV) (g : Heap) (v : VV) (Q : Pst), l = done ++ rest → s.length = 24 → s.getD 3 .undef = v → s.getD 11 .undef = vl → s.getD 12 .undef = vi .i64 l.length → s.getD 13 .undef = vi .i64 done.length → NewB h g 1 (eI (done.map (·.1))) v →
      (∀ s' g' v', s'.length = 24 → s'.getD 3 .undef = v' → NewB h g' 1 (eI (l.map (·.1))) v' → Q (.exit 0) ⟨s', g'⟩) → X F (.loop f18_2) ⟨s, g⟩ Q := by
  intro rest
  induction rest with
  | nil =>
    intro done s g v Q hdr hs h3 h11 h12 h13 hI hQ
    rw [X_loop, X_eq f18_2.eq_1]
    have c : ¬ (done.length : Int) < (l.length : Int) := by rw [hdr]; simp
    simp only [go_sem, Nat.reduceLT, Nat.reduceEqDiff, reduceCtorEq, Int.reduceLT, Int.reduceEq, hs, h12, h13, c]
    rw [X_eq f18_1.eq_1]
    simp only [go_sem, Nat.reduceLT, Nat.reduceEqDiff, reduceCtorEq, Int.reduceLT, Int.reduceEq, hs]
    exact hQ _ _ v (by simp only [slot_len, hs]) (by simp only [go_sem, Nat.reduceLT, Nat.reduceEqDiff, reduceCtorEq, Int.reduceLT, Int.reduceEq, h3]) (by rw [hdr]; simpa using hI)
  | cons o rest ih =>
    intro done s g v Q hdr hs h3 h11 h12 h13 hI hQ
    rw [X_loop, X_eq f18_2.eq_1]
    have c : (done.length : Int) < (l.length : Int) := by rw [hdr]; simp; omega
    obtain ⟨id, gg, e1, e2, e3⟩ := (hL.ext hI.ext).at_ (lE_get hdr)
    have ho : o.2.length = 64 := hl o (by rw [hdr]; simp)
    have hel : (CV.sc (.int .i64 o.1) :: cB o.2).length = 65 := by simp only [List.length_cons, cB_len, ho]
    have hld := ld_ecells (n := 65) e3 (lE_get hdr) hel
    simp only [go_sem, Nat.reduceLT, Nat.reduceEqDiff, reduceCtorEq, Int.reduceLT, Int.reduceEq, hs, h12, h13, c]
    rw [X_eq f18_1.eq_1]
    simp only [go_sem, Nat.reduceLT, Nat.reduceEqDiff, reduceCtorEq, Int.reduceLT, Int.reduceEq, hs, h11, h13, e2, hld]
    rw [st_agg (n := 65) (cells := .cv (.sc (.int .i64 0)) :: List.replicate 64 (.cv (.sc (.int .u8 0)))) (by simp [hel, cB_len, ho]) at_last (by simp), set_last']
    have hl1 : ldO (g ++ [VO.box ((CV.sc (.int .i64 o.1) :: cB o.2).map .cv) false]) false 1 (.ptr g.length 0) = some (vi .i64 o.1, g ++ [VO.box ((CV.sc (.int .i64 o.1) :: cB o.2).map .cv) false]) := ld_ptr at_last rfl
    simp only [go_sem, Nat.reduceLT, Nat.reduceEqDiff, reduceCtorEq, Int.reduceLT, Int.reduceEq, hs, h3, hl1, mk1_eq]
    have hdn : done.length < 1000 := by have := congrArg List.length hdr; simp at this; omega
    have hnx : ((done.length : Int) + 1) = ((done ++ [o]).length : Int) := by simp
    have hw : IntKind.i64.wrap ((done.length : Int) + 1) = ((done ++ [o]).length : Int) := by rw [hnx, IntWalk.i64_in _ (by simp; omega)]
    refine XO_appN (els := eI (done.map (·.1))) (new := [[.sc (.int .i64 o.1)]]) (hI.then (Ext.push g _)) (by simp only [go_sem, Nat.reduceLT, Nat.reduceEqDiff, reduceCtorEq, Int.reduceLT, Int.reduceEq, hs, h3]) (by simp only [go_sem, Nat.reduceLT, Nat.reduceEqDiff, reduceCtorEq, Int.reduceLT, Int.reduceEq, hs]) (by simp) (by rw [eI_len, List.length_map]; simp only [List.length_singleton]; omega) (by rw [eI_len, List.length_map]; simp only [List.length_singleton]; omega) (fun v' h' hB _ => ?_)
    simp only [go_sem, Nat.reduceLT, Nat.reduceEqDiff, reduceCtorEq, Int.reduceLT, Int.reduceEq, hs, h13, hw]
    exact ih (done ++ [o]) _ _ v' Q (by rw [hdr]; simp) (by simp only [slot_len, hs]) (by simp only [go_sem, Nat.reduceLT, Nat.reduceEqDiff, reduceCtorEq, Int.reduceLT, Int.reduceEq, hs]) (by simp only [go_sem, Nat.reduceLT, Nat.reduceEqDiff, reduceCtorEq, Int.reduceLT, Int.reduceEq, h11]) (by simp only [go_sem, Nat.reduceLT, Nat.reduceEqDiff, reduceCtorEq, Int.reduceLT, Int.reduceEq, h12]) (by simp only [go_sem, Nat.reduceLT, Nat.reduceEqDiff, reduceCtorEq, Int.reduceLT, Int.reduceEq, hs]) (by simpa [eI] using hB) hQ

theorem loose_f18 {h : Heap} {p : Nat} {f l : Option Nat} {d : D} (hD : DevAt h p f l d) (hO : d.OK) : ∃ v h', call F 18 [.ptr p 0] h = some (.ret v, h') ∧ NewB h h' 1 (eI (d.loose.map (·.1))) v := by
  have : ∃ v h', call F 18 [.ptr p 0] h = some (.ret v, h') ∧ (fun v h' => NewB h h' 1 (eI (d.loose.map (·.1))) v) v h' := by
    refine call_E (fn := f18) rfl ?_
    simp only [f18]
    generalize hs0 : ([.ptr p 0] ++ List.replicate _ VV.undef : List VV) = s
    have hs : s.length = 24 := by rw [← hs0]; rfl
    have h0 : s.getD 0 .undef = .ptr p 0 := by rw [← hs0]; rfl
    clear hs0
    obtain ⟨vf, vl, a1, a2, a3⟩ := hD
    obtain ⟨_, k1, _, _, _⟩ := ldp a1
    simp only [go_sem, Nat.reduceLT, Nat.reduceEqDiff, reduceCtorEq, Int.reduceLT, Int.reduceEq, hs]
    rw [X_eq f18_0.eq_1]
    simp only [go_sem, Nat.reduceLT, Nat.reduceEqDiff, reduceCtorEq, Int.reduceLT, Int.reduceEq, hs, h0, en_p, k1, a3.ln, lE_len]
    refine f18_loop a3 (fun o ho => (hO.l64 o ho).1) (by have := hO.lw; omega) d.loose [] _ _ nilS _ rfl (by simp only [slot_len, hs]) (by simp only [go_sem, Nat.reduceLT, Nat.reduceEqDiff, reduceCtorEq, Int.reduceLT, Int.reduceEq, hs]) (by simp only [go_sem, Nat.reduceLT, Nat.reduceEqDiff, reduceCtorEq, Int.reduceLT, Int.reduceEq, hs]) (by simp only [go_sem, Nat.reduceLT, Nat.reduceEqDiff, reduceCtorEq, Int.reduceLT, Int.reduceEq, hs]) (by simp only [go_sem, Nat.reduceLT, Nat.reduceEqDiff, reduceCtorEq, Int.reduceLT, Int.reduceEq, hs]; rfl) (NewB.nil h 1) (fun s' g' v' b1 b2 b3 => ?_)
    simp only [go_sem, Nat.reduceLT, Nat.reduceEqDiff, reduceCtorEq, Int.reduceLT, Int.reduceEq, b1, b2]
    exact b3
  exact this

/-! ### Fuse -/
def D.fuse (d : D) (n : Int) : D := if d.dark then d else { d with fused := decide (n ≥ 0), left := n }
theorem fuse_f19 {h : Heap} {p : Nat} {f l : Option Nat} {d : D} (hD : DevAt h p f l d) (n : Int) : ∃ v h', call F 19 [.ptr p 0, vi .i64 n] h = some (.ret v, h') ∧ FlushP h p f l (d.fuse n) v h' := by
  refine call_E (fn := f19) rfl ?_
  simp only [f19]
  generalize hs0 : ([.ptr p 0, vi .i64 n] ++ List.replicate _ VV.undef : List VV) = s
  have hs : s.length = 20 := by rw [← hs0]; rfl
  have h0 : s.getD 0 .undef = .ptr p 0 := by rw [← hs0]; rfl
  have h1 : s.getD 1 .undef = vi .i64 n := by rw [← hs0]; rfl
  clear hs0
  simp only [go_sem, Nat.reduceLT, Nat.reduceEqDiff, reduceCtorEq, Int.reduceLT, Int.reduceEq, hs, h0, en_p]
  refine XO_callR (by simp only [List.map, go_sem, Nat.reduceLT, Nat.reduceEqDiff, reduceCtorEq, Int.reduceLT, Int.reduceEq, hs]; exact dark_f31 hD) ?_
  have hdk : d.dark = (d.fused && decide (d.left = 0)) := rfl
  rw [← hdk]
  unfold D.fuse
  cases hdark : d.dark with
  | true =>
    simp only [go_sem, Nat.reduceLT, Nat.reduceEqDiff, reduceCtorEq, Int.reduceLT, Int.reduceEq, hs]
    exact ⟨rfl, l, hD, Kept.refl _ _ _ _, LNew.refl _ _⟩
  | false =>
    obtain ⟨vf, vl, b1, b2, b3⟩ := hD
    obtain ⟨_, _, s3, _⟩ := stp b1 (v := vb (decide (n ≥ 0))) rfl
    have b1' : (h.set p (.box [vf, vl, cpx d.w d.f, vb (decide (n ≥ 0)), vi .i64 d.left] false))[p]? = some (.box [vf, vl, cpx d.w d.f, vb (decide (n ≥ 0)), vi .i64 d.left] false) := by rw [List.getElem?_set_self (lt_of_get b1)]
    obtain ⟨_, _, _, s4⟩ := stp b1' (v := vi .i64 n) rfl
    simp only [go_sem, Nat.reduceLT, Nat.reduceEqDiff, reduceCtorEq, Int.reduceLT, Int.reduceEq, hs, h0, h1, s3, s4]
    rw [List.set_set]
    obtain ⟨t1, t2⟩ := DevAt.turn (d' := { d with fused := decide (n ≥ 0), left := n }) b1 b2 b3 rfl rfl
    exact ⟨rfl, l, t1, t2, LNew.refl _ _⟩

/-! ### Spoil -/
def D.spoil (d : D) (i a : Int) (v : UInt8) : D × Bool :=
  if d.has i && (decide (0 ≤ a) && decide (a < 64)) then ({ d with firm := d.firm.set i.toNat ((d.firm.getD i.toNat []).set a.toNat v) }, true) else (d, false)

structure SpoilP (h : Heap) (p : Nat) (f l : Option Nat) (x : D × Bool) (v : VV) (h' : Heap) : Prop where
  v : v = vb x.2
  dev : DevAt h' p f l x.1
  kept : Kept h h' p f l

theorem spoil_f20 {h : Heap} {p : Nat} {f l : Option Nat} {d : D} (hD : DevAt h p f l d) (hO : d.OK) (i a : Int) (x : UInt8) : ∃ v h', call F 20 [.ptr p 0, vi .i64 i, vi .i64 a, vi .u8 x.toNat] h = some (.ret v, h') ∧ SpoilP h p f l (d.spoil i a x) v h' := by
  refine call_E (fn := f20) rfl ?_
  simp only [f20]
  generalize hs0 : ([.ptr p 0, vi .i64 i, vi .i64 a, vi .u8 x.toNat] ++ List.replicate _ VV.undef : List VV) = s
  have hs : s.length = 30 := by rw [← hs0]; rfl
  have h0 : s.getD 0 .undef = .ptr p 0 := by rw [← hs0]; rfl
  have h1 : s.getD 1 .undef = vi .i64 i := by rw [← hs0]; rfl
  have h2 : s.getD 2 .undef = vi .i64 a := by rw [← hs0]; rfl
  have h3 : s.getD 3 .undef = vi .u8 x.toNat := by rw [← hs0]; rfl
  clear hs0
  simp only [go_sem, Nat.reduceLT, Nat.reduceEqDiff, reduceCtorEq, Int.reduceLT, Int.reduceEq, hs]
  rw [X_eq f20_0.eq_1]
  simp only [go_sem, Nat.reduceLT, Nat.reduceEqDiff, reduceCtorEq, Int.reduceLT, Int.reduceEq, hs, h0, h1]
  refine XO_callR (by simp only [List.map, go_sem, Nat.reduceLT, Nat.reduceEqDiff, reduceCtorEq, Int.reduceLT, Int.reduceEq, hs]; exact has_f26 hD i) ?_
  unfold D.spoil
  cases hh : d.has i with
  | false =>
    simp only [go_sem, Nat.reduceLT, Nat.reduceEqDiff, reduceCtorEq, Int.reduceLT, Int.reduceEq, hs]
    exact ⟨rfl, hD, Kept.refl _ _ _ _⟩
  | true =>
    by_cases c1 : a < 0
    · have c1' : ¬ 0 ≤ a := by omega
      simp only [go_sem, Nat.reduceLT, Nat.reduceEqDiff, reduceCtorEq, Int.reduceLT, Int.reduceEq, hs, h2, c1, c1', Bool.true_and, Bool.false_and]
      exact ⟨rfl, hD, Kept.refl _ _ _ _⟩
    · by_cases c2 : 64 ≤ a
      · have c1' : 0 ≤ a := by omega
        have c2' : ¬ a < 64 := by omega
        simp only [go_sem, Nat.reduceLT, Nat.reduceEqDiff, reduceCtorEq, Int.reduceLT, Int.reduceEq, hs, h2, c1, c1', c2, c2', Bool.true_and, Bool.false_and, ge_iff_le]
        exact ⟨rfl, hD, Kept.refl _ _ _ _⟩
      · have hi : 0 ≤ i ∧ i < (d.firm.length : Int) := by
          unfold D.has at hh
          simpa using hh
        obtain ⟨k, rfl⟩ : ∃ k : Nat, i = (k : Int) := ⟨i.toNat, by omega⟩
        obtain ⟨j, rfl⟩ : ∃ k : Nat, a = (k : Int) := ⟨a.toNat, by omega⟩
        have c1' : 0 ≤ (j : Int) := by omega
        have c2' : (j : Int) < 64 := by omega
        obtain ⟨vf, vl, a1, a2, a3⟩ := hD
        obtain ⟨k0, _, _, _, _⟩ := ldp a1
        have hk : d.firm[k]? = some (d.firm.getD k []) := by
          rw [List.getD_eq_getElem?_getD, List.getElem?_eq_getElem (by omega)]; rfl
        have hke : (fE d.firm)[k]? = some (cB (d.firm.getD k [])) := by simp only [fE, List.getElem?_map, hk, Option.map_some]
        have h64 : (d.firm.getD k []).length = 64 := hO.f64 _ (List.mem_of_getElem? hk)
        obtain ⟨id, gg, e1, e2, e3⟩ := a2.at_ hke
        have hst := st_e1 (off := 0 + j * 1) (c := .sc (.int .u8 x.toNat)) e3 hke (by rw [cB_len, h64]; omega)
        have hia := iaA_e (n := 64) (z := 1) (id := id) (g := gg) (i := k) (o := 0) (k := .i64) (j := j) (by omega)
        simp only [Nat.zero_add, Nat.mul_one] at hst hia
        simp only [go_sem, Nat.reduceLT, Nat.reduceEqDiff, reduceCtorEq, Int.reduceLT, Int.reduceEq, hs, h0, h1, h2, h3, c1, c2, c1', c2', ge_iff_le, Bool.true_and, k0, e2, hia, hst]
        refine ⟨rfl, ?_, ?_⟩
        · have hne : id ≠ p := by rintro rfl; rw [e3] at a1; cases a1
          refine ⟨vf, vl, by rw [List.getElem?_set_ne hne]; exact a1, ?_, ?_⟩
          · rcases a2 with ⟨id', g', ex, b1, b2, b3⟩ | ⟨b1, _⟩
            · rw [e1] at b1; cases b1
              rw [e3] at b3; cases b3
              refine .inl ⟨id, gg, ex, e1, ?_, ?_⟩
              · rw [b2, fE_len, fE_len, List.length_set]
              · rw [List.getElem?_set_self (lt_of_get e3)]
                simp [fE, List.map_set, cB]
            · rw [e1] at b1; cases b1
          · rcases a3 with ⟨id', g', b1, b2, b4, b3⟩ | e
            · refine .inl ⟨id', g', b1, b2, b4, ?_⟩
              rw [List.getElem?_set_ne (by rintro rfl; rw [e3] at b3; cases b3)]; exact b3
            · exact .inr e
        · exact ⟨by simp, fun j hj _ x2 _ => by rw [List.getElem?_set_ne (by rintro rfl; exact x2 e1)]⟩
end Go.V04

set_option linter.unusedSimpArgs false
set_option linter.unusedVariables false
namespace Go.V04
open Go Go.Vm

/-! ### what may be stays so -/
theorem new_OK {n : Nat} (hn : n ≤ 4096) : (newD n).OK := by
  refine ⟨fun b hb => ?_, fun o ho => (by cases ho), by simp [newD]; exact hn, by simp [newD], by simp [newD], by simp [newD]⟩
  have := List.eq_of_mem_replicate hb
  rw [this]; rfl
theorem has_lt {d : D} {i : Int} (h : d.has i = true) : 0 ≤ i ∧ i.toNat < d.firm.length := by
  unfold D.has at h
  have : 0 ≤ i ∧ i < (d.firm.length : Int) := by simpa using h
  omega
theorem write_OK {d : D} (h : d.OK) (hw : d.w < 280) (hl : d.loose.length < 190) (i : Int) (b : List UInt8) : (d.write i b).1.OK := by
  unfold D.write
  split
  · exact h
  · split
    · exact h
    · split
      · exact h
      · rename_i c1 c2 c3
        have hh := has_lt (d := d) (i := i) (by simpa using c1)
        refine ⟨?_, ?_, ?_, ?_, ?_, ?_⟩
        · show ∀ b ∈ d.burnt.firm, b.length = 64
          rw [burnt_firm]; exact h.f64
        · show ∀ o ∈ d.loose ++ [(i.toNat, pad b)], o.2.length = 64 ∧ o.1 < d.burnt.firm.length
          rw [burnt_firm]
          intro o ho
          rcases List.mem_append.1 ho with e | e
          · exact h.l64 o e
          · rw [List.mem_singleton.1 e]
            exact ⟨pad_len (by omega), hh.2⟩
        · show d.burnt.firm.length ≤ 4096
          rw [burnt_firm]; exact h.n
        · show (d.loose ++ [(i.toNat, pad b)]).length ≤ 200
          simp; omega
        · show d.w + 1 < 290
          omega
        · show d.burnt.f < 290
          rw [burnt_f]; exact h.f
theorem settle_mem {kf : Nat → Bool} : ∀ {l : List (Nat × List UInt8)} {k : Nat} {firm : List (List UInt8)}, (∀ b ∈ firm, b.length = 64) → (∀ o ∈ l, o.2.length = 64) → ∀ b ∈ settleF kf k firm l, b.length = 64
  | [], _, _, h, _ => h
  | o :: l, k, firm, h, hl => by
    show ∀ b ∈ settleF kf (k + 1) (if kf k then firm.set o.1 o.2 else firm) l, b.length = 64
    refine settle_mem ?_ (fun o ho => hl o (List.mem_cons_of_mem _ ho))
    split
    · intro b hb
      rcases List.mem_or_eq_of_mem_set hb with e | e
      · exact h b e
      · rw [e]; exact hl o List.mem_cons_self
    · exact h
theorem settle_OK {d : D} (h : d.OK) (kf : Nat → Bool) : (d.settle kf).OK := by
  refine ⟨settle_mem h.f64 (fun o ho => (h.l64 o ho).1), fun o ho => (by cases ho), ?_, by simp [D.settle], h.w, h.f⟩
  show (settleF kf 0 d.firm d.loose).length ≤ 4096
  rw [settle_len]; exact h.n
theorem flush_OK {d : D} (h : d.OK) (hf : d.f < 280) : d.flush.OK := by
  unfold D.flush
  split
  · exact h
  · have := settle_OK (burnt_OK h) (fun _ => true)
    exact ⟨this.f64, this.l64, this.n, this.lw, h.w, by show d.f + 1 < 290; omega⟩
theorem crash_OK {d : D} (h : d.OK) (b : List Bool) : (d.crash b).OK := by
  have := settle_OK h (keepF b)
  exact ⟨this.f64, this.l64, this.n, this.lw, this.w, this.f⟩
theorem fuse_OK {d : D} (h : d.OK) (n : Int) : (d.fuse n).OK := by
  unfold D.fuse
  split
  · exact h
  · exact ⟨h.f64, h.l64, h.n, h.lw, h.w, h.f⟩
theorem spoil_OK {d : D} (h : d.OK) (i a : Int) (v : UInt8) : (d.spoil i a v).1.OK := by
  unfold D.spoil
  split
  · rename_i c
    refine ⟨fun b hb => ?_, ?_, ?_, h.lw, h.w, h.f⟩
    · rcases List.mem_or_eq_of_mem_set hb with e | e
      · exact h.f64 b e
      · have hh := has_lt (d := d) (i := i) (by simp at c; exact c.1)
        rw [e, List.length_set]
        exact h.f64 _ (by rw [List.getD_eq_getElem?_getD, List.getElem?_eq_getElem hh.2]; exact List.getElem_mem hh.2)
    · show ∀ o ∈ d.loose, o.2.length = 64 ∧ o.1 < (d.firm.set _ _).length
      rw [List.length_set]; exact h.l64
    · show (d.firm.set _ _).length ≤ 4096
      rw [List.length_set]; exact h.n
  · exact h

theorem ObV.kept {h h' : Heap} {p : Nat} {f l : Option Nat} {d : D} {b : List UInt8} {v : VV} (o : ObV h b v) (hD : DevAt h p f l d) (k : Kept h h' p f l) (hb : b.length = 64) : ObV h' b v := by
  obtain ⟨id, e1, e2⟩ := o
  refine ⟨id, e1, k.box hD e2 ?_⟩
  rintro rfl
  obtain ⟨vf, vl, h1, _, _⟩ := hD
  rw [h1] at e2
  injection e2 with e3
  injection e3 with e4
  have := congrArg List.length e4
  rw [List.length_map, cB_len, hb] at this
  cases this

theorem cpx_same {a b : Nat} (ha : a < 300) (hb : b < 300) : binO .eql (cpx a b) (cpx a b) = some (vb true) ∧ binO .neq (cpx a b) (cpx a b) = some (vb false) := by
  have x1 := fl_ord a ha
  have x2 := fl_ord b hb
  have e : (some Ordering.eq == some Ordering.eq) = true := rfl
  constructor <;> simp [binO, binV, x1, x2, e]

theorem sl1 (x : UInt8) : SlV 1 (eB [x]) (.cv (.sl 1 [[.sc (.int .u8 x.toNat)]] true)) := .inr ⟨true, rfl⟩

/-! ### the chapter's examples -/
theorem known_f10 : ∃ hc, call F 10 [] [] = some (.ret (vb true), hc) := by
  have : ∃ v h', call F 10 [] [] = some (.ret v, h') ∧ (fun v _ => v = vb true) v h' := by
    refine call_E (fn := f10) rfl ?_
    simp only [f10]
    generalize hs0 : ([] ++ List.replicate _ VV.undef : List VV) = s
    have hs : s.length = 64 := by rw [← hs0]; rfl
    clear hs0
    obtain ⟨g1, c1, D1, L1, S1⟩ := new_f11 2 (by decide) []
    have O1 : (newD 2).OK := new_OK (by decide)
    simp only [go_sem, Nat.reduceLT, Nat.reduceEqDiff, reduceCtorEq, Int.reduceLT, Int.reduceEq, hs]
    refine XO_callR (by simp only [List.map, go_sem, Nat.reduceLT, Nat.reduceEqDiff, reduceCtorEq, Int.reduceLT, Int.reduceEq, hs]; exact c1) ?_
    simp only [go_sem, Nat.reduceLT, Nat.reduceEqDiff, reduceCtorEq, Int.reduceLT, Int.reduceEq, hs]
    rw [X_eq f10_0.eq_1]
    obtain ⟨v2, g2, c2, w2, l2, m2⟩ := write_f12 D1 O1 (by decide) (by decide) 0 [1] _ (sl1 1)
    have O2 := write_OK O1 (by decide) (by decide) 0 [1]
    simp only [go_sem, Nat.reduceLT, Nat.reduceEqDiff, reduceCtorEq, Int.reduceLT, Int.reduceEq, hs, en_p, mk1_eq]
    refine XO_callR (by simp only [List.map, go_sem, Nat.reduceLT, Nat.reduceEqDiff, reduceCtorEq, Int.reduceLT, Int.reduceEq, hs]; exact c2) ?_
    generalize hd2 : ((newD 2).write 0 [1]).1 = d2 at m2 O2
    obtain ⟨v3, g3, c3, w3, l3, m3⟩ := crash_f14 m2.dev O2 (b := []) (.inl ⟨rfl, rfl⟩) (by decide)
    have O3 := crash_OK O2 []
    simp only [go_sem, Nat.reduceLT, Nat.reduceEqDiff, reduceCtorEq, Int.reduceLT, Int.reduceEq, hs, en_p, mk1_eq]
    refine XO_callR (by simp only [List.map, go_sem, Nat.reduceLT, Nat.reduceEqDiff, reduceCtorEq, Int.reduceLT, Int.reduceEq, hs]; exact c3) ?_
    generalize hd3 : d2.crash [] = d3 at m3 O3
    obtain ⟨v4, g4, c4, r4⟩ := read_f15 m3.dev O3 0
    obtain ⟨o4, w4, b4⟩ := r4.yes (by rw [← hd3, ← hd2]; decide)
    subst w4
    simp only [go_sem, Nat.reduceLT, Nat.reduceEqDiff, reduceCtorEq, Int.reduceLT, Int.reduceEq, hs, en_p, mk1_eq]
    refine XO_callR (by simp only [List.map, go_sem, Nat.reduceLT, Nat.reduceEqDiff, reduceCtorEq, Int.reduceLT, Int.reduceEq, hs]; exact c4) ?_
    have e4 : d3.cell (0 : Int).toNat = z64 := by rw [← hd3, ← hd2]; decide
    rw [e4] at b4
    obtain ⟨v5, g5, c5, w5, l5, m5⟩ := write_f12 (m3.dev.ext r4.ext) O3 (by rw [← hd3, ← hd2]; decide) (by rw [← hd3, ← hd2]; decide) 0 [1] _ (sl1 1)
    have O5 := write_OK O3 (by rw [← hd3, ← hd2]; decide) (by rw [← hd3, ← hd2]; decide) 0 [1]
    simp only [go_sem, Nat.reduceLT, Nat.reduceEqDiff, reduceCtorEq, Int.reduceLT, Int.reduceEq, hs, en_p, mk1_eq]
    refine XO_callR (by simp only [List.map, go_sem, Nat.reduceLT, Nat.reduceEqDiff, reduceCtorEq, Int.reduceLT, Int.reduceEq, hs]; exact c5) ?_
    obtain ⟨v6, g6, c6, w6, l6, m6⟩ := flush_f13 m5.dev O5 (by rw [← hd3, ← hd2]; decide)
    have O6 := flush_OK O5 (by rw [← hd3, ← hd2]; decide)
    simp only [go_sem, Nat.reduceLT, Nat.reduceEqDiff, reduceCtorEq, Int.reduceLT, Int.reduceEq, hs, en_p, mk1_eq]
    refine XO_callR (by simp only [List.map, go_sem, Nat.reduceLT, Nat.reduceEqDiff, reduceCtorEq, Int.reduceLT, Int.reduceEq, hs]; exact c6) ?_
    obtain ⟨v7, g7, c7, w7, l7, m7⟩ := crash_f14 m6.dev O6 (b := []) (.inl ⟨rfl, rfl⟩) (by decide)
    have O7 := crash_OK O6 []
    simp only [go_sem, Nat.reduceLT, Nat.reduceEqDiff, reduceCtorEq, Int.reduceLT, Int.reduceEq, hs, en_p, mk1_eq]
    refine XO_callR (by simp only [List.map, go_sem, Nat.reduceLT, Nat.reduceEqDiff, reduceCtorEq, Int.reduceLT, Int.reduceEq, hs]; exact c7) ?_
    generalize hd7 : ((d3.write 0 [1]).1.flush.crash []) = d7 at m7 O7
    obtain ⟨v8, g8, c8, r8⟩ := read_f15 m7.dev O7 0
    obtain ⟨o8, w8, b8⟩ := r8.yes (by rw [← hd7, ← hd3, ← hd2]; decide)
    subst w8
    simp only [go_sem, Nat.reduceLT, Nat.reduceEqDiff, reduceCtorEq, Int.reduceLT, Int.reduceEq, hs, en_p, mk1_eq]
    refine XO_callR (by simp only [List.map, go_sem, Nat.reduceLT, Nat.reduceEqDiff, reduceCtorEq, Int.reduceLT, Int.reduceEq, hs]; exact c8) ?_
    have e8 : d7.cell (0 : Int).toNat = pad [1] := by rw [← hd7, ← hd3, ← hd2]; decide
    rw [e8] at b8
    have bb4 := ((b4.kept (m3.dev.ext r4.ext) m5.kept (by decide)).kept m5.dev m6.kept (by decide)).kept m6.dev m7.kept (by decide) |>.ext r8.ext
    obtain ⟨x4, y4, z4⟩ := bb4.at_ (j := 0) (x := 0) (by decide)
    obtain ⟨x8, y8, z8⟩ := b8.at_ (j := 0) (x := 1) (by decide)
    have ln4 : lnO false o4 = some (vi .i64 64) := bb4.ln
    have ln8 : lnO false o8 = some (vi .i64 64) := b8.ln
    have tr := traffic_f21 (m7.dev.ext r8.ext)
    have ew : d7.w = 2 := by rw [← hd7, ← hd3, ← hd2]; decide
    have ef : d7.f = 1 := by rw [← hd7, ← hd3, ← hd2]; decide
    have f2 : fl 2 = 4611686018427387904 := by decide
    have f1 : fl 1 = 4607182418800017408 := by decide
    rw [ew, ef, cpx, f2, f1] at tr
    have y4' : iaO g8 1 o4 (vi .i64 0) = some (x4, g8) := y4
    have y8' : iaO g8 1 o8 (vi .i64 0) = some (x8, g8) := y8
    have z4' : ldO g8 false 1 x4 = some (vi .u8 0, g8) := z4
    have z8' : ldO g8 false 1 x8 = some (vi .u8 1, g8) := z8
    simp only [go_sem, Nat.reduceLT, Nat.reduceEqDiff, reduceCtorEq, Int.reduceLT, Int.reduceEq, hs, ln4, ln8, y4', y8', z4', z8']
    refine XO_callR (by simp only [List.map, go_sem, Nat.reduceLT, Nat.reduceEqDiff, reduceCtorEq, Int.reduceLT, Int.reduceEq, hs]; exact tr) ?_
    have hb := (cpx_same (a := 2) (b := 1) (by decide) (by decide)).1
    rw [cpx, f2, f1] at hb
    simp only [go_sem, Nat.reduceLT, Nat.reduceEqDiff, reduceCtorEq, Int.reduceLT, Int.reduceEq, hs, hb]
  obtain ⟨v, h', e1, rfl⟩ := this
  exact ⟨h', e1⟩
end Go.V04

set_option linter.unusedSimpArgs false
set_option linter.unusedVariables false
namespace Go.V04
open Go Go.Vm

/-! ### the document's New -/
theorem XD_mks64 {F : Nat → Option FnIR} {d : Option Nat} {q : List (Op1 × Cl)} {s : List VV} {h : Heap} {Q : Pst} {c : Cl} :
    XD F ((⟨none, d, .mks 1 1 [.sc (.int .u8 0)] (.c (vi .i64 64)) (.c (vi .i64 64)) false⟩, c) :: q) ⟨s, h⟩ Q ↔ XD F q ⟨putD s d (.cv (.sl 1 (eB z64) true)), h⟩ Q := by
  rw [XD_ins rfl]
  have : stepI h (evalO s) (.mks 1 1 [.sc (.int .u8 0)] (.c (vi .i64 64)) (.c (vi .i64 64)) false) = some (.cv (.sl 1 (eB z64) true), h) := by
    have e : List.replicate 64 [CV.sc (.int .u8 0)] = eB z64 := eB_replicate 64
    have hm : maxBytes = 35184372088832 := rfl
    simp [stepI, evalO, intV, hm, e]
  rw [this, XVD_same]

theorem NewB.setBox {h0 h : Heap} {z : Nat} {els : List (List CV)} {v : VV} (b : NewB h0 h z els v) {i : Nat} {cells : List VV} {fr : Bool} (hi : h0.length ≤ i) (hb : h[i]? = some (.box cells fr)) (o : VO) : NewB h0 (h.set i o) z els v := by
  refine ⟨⟨by rw [List.length_set]; exact b.ext.len, fun j hj => by rw [List.getElem?_set_ne (by omega)]; exact b.ext.same j hj⟩, ?_⟩
  rcases b.v with x | ⟨id, g, a1, a2, a3, a4⟩
  · exact .inl x
  · exact .inr ⟨id, g, a1, a2, a3, by rw [List.getElem?_set_ne (by rintro rfl; rw [hb] at a4; cases a4)]; exact a4⟩

/-- A device of noughts. -/
def sE (n : Nat) : List (List CV) := List.replicate n [.sl 1 (eB z64) true]

theorem f16_loop {n : Nat} (hn : n ≤ 4096) {h0 : Heap} : ∀ (r k : Nat) (s : List VV) (g : Heap) (vS : VV) (Q : Pst), k + r = n → s.length = 26 → s.getD 0 .undef = vi .i64 n → s.getD 4 .undef = .ptr h0.length 0 → s.getD 5 .undef = vi .i64 k →
      NewB h0 g 1 (sE k) vS → g[h0.length]? = some (.box [vS, nilS, vi .i64 0, vi .i64 0, vb false, vi .i64 0] false) →
      (∀ s' g' vS', s'.length = 26 → s'.getD 2 .undef = s.getD 2 .undef → s'.getD 4 .undef = .ptr h0.length 0 → NewB h0 g' 1 (sE n) vS' → g'[h0.length]? = some (.box [vS', nilS, vi .i64 0, vi .i64 0, vb false, vi .i64 0] false) → Q (.exit 0) ⟨s', g'⟩) → X F (.loop f16_1) ⟨s, g⟩ Q := by
  intro r
  induction r with
  | zero =>
    intro k s g vS Q hk hs h0' h4 h5 hB hb hQ
    rw [X_loop, X_eq f16_1.eq_1]
    have c : ¬ (k : Int) < (n : Int) := by omega
    simp only [go_sem, Nat.reduceLT, Nat.reduceEqDiff, reduceCtorEq, Int.reduceLT, Int.reduceEq, hs, h0', h5, c]
    refine hQ _ _ vS (by simp only [slot_len, hs]) (by simp only [go_sem, Nat.reduceLT, Nat.reduceEqDiff, reduceCtorEq, Int.reduceLT, Int.reduceEq]) (by simp only [go_sem, Nat.reduceLT, Nat.reduceEqDiff, reduceCtorEq, Int.reduceLT, Int.reduceEq, h4]) ?_ hb
    rw [← hk]; exact hB
  | succ r ih =>
    intro k s g vS Q hk hs h0' h4 h5 hB hb hQ
    rw [X_loop, X_eq f16_1.eq_1]
    have c : (k : Int) < (n : Int) := by omega
    simp only [go_sem, Nat.reduceLT, Nat.reduceEqDiff, reduceCtorEq, Int.reduceLT, Int.reduceEq, hs, h0', h5, c]
    refine X_draw rfl ?_
    have hld : ldO g false 1 (.ptr h0.length 0) = some (vS, g) := ld_ptr hb rfl
    simp only [go_sem, Nat.reduceLT, Nat.reduceEqDiff, reduceCtorEq, Int.reduceLT, Int.reduceEq, hs, h4, hld, XD_mks64, mkO_1]
    refine XD_appN (els := sE k) (new := [[.sl 1 (eB z64) true]]) hB (by simp only [go_sem, Nat.reduceLT, Nat.reduceEqDiff, reduceCtorEq, Int.reduceLT, Int.reduceEq, hs]) (by simp only [go_sem, Nat.reduceLT, Nat.reduceEqDiff, reduceCtorEq, Int.reduceLT, Int.reduceEq, hs]) (by simp) (by simp [sE]; omega) (by simp [sE]; omega) (fun v' h' hB' hK => ?_)
    have hb' := hK _ _ hb (by intro e g h; cases h)
    have hcell : isCell v' = true := by rcases hB'.v with ⟨_, rfl⟩ | ⟨id, g, _, _, rfl, _⟩ <;> rfl
    have hst : stO h' 1 (.ptr h0.length 0) v' = some (.undef, h'.set h0.length (.box [v', nilS, vi .i64 0, vi .i64 0, vb false, vi .i64 0] false)) := st_1 hcell hb' (by decide : 0 < 6)
    have hw : IntKind.i64.wrap ((k : Int) + 1) = ((k + 1 : Nat) : Int) := by rw [IntWalk.i64_in _ (by omega)]; omega
    have hE : sE k ++ [[.sl 1 (eB z64) true]] = sE (k + 1) := by unfold sE; rw [List.replicate_succ']
    rw [hE] at hB'
    simp only [go_sem, Nat.reduceLT, Nat.reduceEqDiff, reduceCtorEq, Int.reduceLT, Int.reduceEq, hs, h4, hst, h5, hw]
    refine ih (k + 1) _ _ v' Q (by omega) (by simp only [slot_len, hs]) (by simp only [go_sem, Nat.reduceLT, Nat.reduceEqDiff, reduceCtorEq, Int.reduceLT, Int.reduceEq, h0']) (by simp only [go_sem, Nat.reduceLT, Nat.reduceEqDiff, reduceCtorEq, Int.reduceLT, Int.reduceEq, h4]) (by simp only [go_sem, Nat.reduceLT, Nat.reduceEqDiff, reduceCtorEq, Int.reduceLT, Int.reduceEq, hs]) (hB'.setBox (Nat.le_refl _) hb' _) (by rw [List.getElem?_set_self (lt_of_get hb')]) (fun s' g' vS' a1 a2 a3 a4 a5 => hQ s' g' vS' a1 ?_ a3 a4 a5)
    rw [a2]; simp only [go_sem, Nat.reduceLT, Nat.reduceEqDiff, reduceCtorEq, Int.reduceLT, Int.reduceEq]

/-- The document's device, as a value. -/
def tV (S L : VV) (w f : Int) (fu : Bool) (le : Int) : VV := .agg [S, L, vi .i64 w, vi .i64 f, vb fu, vi .i64 le]

theorem clA_cv {h : Heap} {c : CV} : clos h (.cv c) = some (c, h) := rfl
theorem buf_clos {h : Heap} {z : Nat} {els : List (List CV)} {v : VV} (b : BufG h z els v) : ∃ c h1, clos h v = some (c, h1) ∧ VV.cv c = slV z els := by
  unfold slV
  rcases b with ⟨rfl, rfl⟩ | ⟨id, g, hne, rfl, h2⟩
  · exact ⟨_, h, rfl, rfl⟩
  · refine ⟨.sl z els false, h.set id (.arr z els g true), by simp [Vm.clos, h2], ?_⟩
    rw [if_neg hne]

theorem RQ_c1 {P : VV → Heap → Prop} {s : List VV} {h : Heap} {a m n id : Nat} {cells : List VV} {fr : Bool} (ha : s.getD a .undef = .ptr id 0) (ho : h[id]? = some (.box cells fr)) (hn : cells.length = n) (hm : m < s.length)
    (hP : P (.tup [.agg cells, s.getD m .undef]) h) : RQ [.cell a true n, .t m] P .ret ⟨s, h⟩ := by
  subst hn
  refine ⟨trivial, [.agg cells, s.getD m .undef], ?_, hP⟩
  simp only [resAll, resOf, slot_get hm, ha, ho, List.drop_zero, List.take_length, ldCells, if_true]

theorem st_l_n {h : Heap} {a b c d e f a' b' c' d' e' f' : VV} : stO (h ++ [.box [a, b, c, d, e, f] false]) 6 (.ptr h.length 0) (.agg [a', b', c', d', e', f']) = some (.undef, h ++ [.box [a', b', c', d', e', f'] false]) := by
  rw [st_agg (n := 6) (cs := [a', b', c', d', e', f']) (cells := [a, b, c, d, e, f]) rfl at_last rfl, set_last']

theorem refnew_no (n : Int) (hn : n < 0 ∨ 4096 < n) : ∃ v h', call F 16 [vi .i64 n] [] = some (.ret v, h') ∧ closRes h' v = some (.tup [tV nilS nilS 0 0 false 0, vb false]) := by
  have : ∀ h : Heap, ∃ v h', call F 16 [vi .i64 n] h = some (.ret v, h') ∧ (fun v h' => closRes h' v = some (.tup [tV nilS nilS 0 0 false 0, vb false])) v h' := by
    intro h
    refine call_E (fn := f16) rfl ?_
    simp only [f16]
    generalize hs0 : ([vi .i64 n] ++ List.replicate _ VV.undef : List VV) = s
    have hs : s.length = 26 := by rw [← hs0]; rfl
    have h0 : s.getD 0 .undef = vi .i64 n := by rw [← hs0]; rfl
    clear hs0
    simp only [go_sem, Nat.reduceLT, Nat.reduceEqDiff, reduceCtorEq, Int.reduceLT, Int.reduceEq, hs]
    rw [X_eq f16_0.eq_1]
    by_cases c1 : n < 0
    · simp only [go_sem, Nat.reduceLT, Nat.reduceEqDiff, reduceCtorEq, Int.reduceLT, Int.reduceEq, hs, h0, c1]
      rw [st_l_n]
      simp only [go_sem, Nat.reduceLT, Nat.reduceEqDiff, reduceCtorEq, Int.reduceLT, Int.reduceEq, hs, h0, c1]
      refine RQ_c1 (id := h.length) (by simp only [go_sem, Nat.reduceLT, Nat.reduceEqDiff, reduceCtorEq, Int.reduceLT, Int.reduceEq, hs]) at_last rfl (by simp only [go_sem, Nat.reduceLT, Nat.reduceEqDiff, reduceCtorEq, Int.reduceLT, Int.reduceEq, hs]) ?_
      simp only [go_sem, Nat.reduceLT, Nat.reduceEqDiff, reduceCtorEq, Int.reduceLT, Int.reduceEq, hs]
      rfl
    · have c2 : 4096 < n := by omega
      simp only [go_sem, Nat.reduceLT, Nat.reduceEqDiff, reduceCtorEq, Int.reduceLT, Int.reduceEq, hs, h0, c1, c2, gt_iff_lt]
      rw [st_l_n]
      simp only [go_sem, Nat.reduceLT, Nat.reduceEqDiff, reduceCtorEq, Int.reduceLT, Int.reduceEq, hs, h0, c1]
      refine RQ_c1 (id := h.length) (by simp only [go_sem, Nat.reduceLT, Nat.reduceEqDiff, reduceCtorEq, Int.reduceLT, Int.reduceEq, hs]) at_last rfl (by simp only [go_sem, Nat.reduceLT, Nat.reduceEqDiff, reduceCtorEq, Int.reduceLT, Int.reduceEq, hs]) ?_
      simp only [go_sem, Nat.reduceLT, Nat.reduceEqDiff, reduceCtorEq, Int.reduceLT, Int.reduceEq, hs]
      rfl
  exact this []

theorem refnew_yes (n : Nat) (hn : n ≤ 4096) : ∃ v h', call F 16 [vi .i64 n] [] = some (.ret v, h') ∧ closRes h' v = some (.tup [tV (slV 1 (sE n)) nilS 0 0 false 0, vb true]) := by
  have : ∀ h : Heap, ∃ v h', call F 16 [vi .i64 n] h = some (.ret v, h') ∧ (fun v h' => closRes h' v = some (.tup [tV (slV 1 (sE n)) nilS 0 0 false 0, vb true])) v h' := by
    intro h
    refine call_E (fn := f16) rfl ?_
    simp only [f16]
    generalize hs0 : ([vi .i64 n] ++ List.replicate _ VV.undef : List VV) = s
    have hs : s.length = 26 := by rw [← hs0]; rfl
    have h0 : s.getD 0 .undef = vi .i64 n := by rw [← hs0]; rfl
    clear hs0
    simp only [go_sem, Nat.reduceLT, Nat.reduceEqDiff, reduceCtorEq, Int.reduceLT, Int.reduceEq, hs]
    rw [X_eq f16_0.eq_1]
    have c1 : ¬ (n : Int) < 0 := by omega
    have c2 : ¬ 4096 < (n : Int) := by omega
    simp only [go_sem, Nat.reduceLT, Nat.reduceEqDiff, reduceCtorEq, Int.reduceLT, Int.reduceEq, hs, h0, c1, c2, gt_iff_lt]
    rw [st_l_n]
    generalize hg : h ++ [VO.box [nilS, nilS, vi .i64 0, vi .i64 0, vb false, vi .i64 0] false] = g
    have hg0 : g[h.length]? = some (.box [nilS, nilS, vi .i64 0, vi .i64 0, vb false, vi .i64 0] false) := by rw [← hg]; exact at_last
    simp only [go_sem, Nat.reduceLT, Nat.reduceEqDiff, reduceCtorEq, Int.reduceLT, Int.reduceEq, hs]
    refine f16_loop hn (h0 := g) n 0 _ _ nilS _ (by omega) (by simp only [slot_len, hs]) (by simp only [go_sem, Nat.reduceLT, Nat.reduceEqDiff, reduceCtorEq, Int.reduceLT, Int.reduceEq, h0]) (by simp only [go_sem, Nat.reduceLT, Nat.reduceEqDiff, reduceCtorEq, Int.reduceLT, Int.reduceEq, hs]) (by simp only [go_sem, Nat.reduceLT, Nat.reduceEqDiff, reduceCtorEq, Int.reduceLT, Int.reduceEq, hs]; rfl) ((NewB.nil g 1).then (Ext.push g _)) at_last (fun s' g' vS a1 a2 a3 a4 a5 => ?_)
    have ht : (s'.getD 2 .undef) = .ptr h.length 0 := by rw [a2]; simp only [go_sem, Nat.reduceLT, Nat.reduceEqDiff, reduceCtorEq, Int.reduceLT, Int.reduceEq, hs]
    have hld : ldO g' true 6 (.ptr g.length 0) = some (.agg [vS, nilS, vi .i64 0, vi .i64 0, vb false, vi .i64 0], g') := ld_box a5 rfl
    have hg1 := a4.ext.get hg0
    have hst := st_agg (n := 6) (cs := [vS, nilS, vi .i64 0, vi .i64 0, vb false, vi .i64 0]) rfl hg1 rfl
    simp only [go_sem, Nat.reduceLT, Nat.reduceEqDiff, reduceCtorEq, Int.reduceLT, Int.reduceEq, a1, a3, ht, hld, hst]
    refine RQ_c1 (id := h.length) (by simp only [go_sem, Nat.reduceLT, Nat.reduceEqDiff, reduceCtorEq, Int.reduceLT, Int.reduceEq, a1, ht]) (by rw [List.getElem?_set_self (lt_of_get hg1)]) rfl (by simp only [go_sem, Nat.reduceLT, Nat.reduceEqDiff, reduceCtorEq, Int.reduceLT, Int.reduceEq, a1]) ?_
    simp only [go_sem, Nat.reduceLT, Nat.reduceEqDiff, reduceCtorEq, Int.reduceLT, Int.reduceEq, a1]
    obtain ⟨c, h1, e1, e2⟩ := buf_clos (a4.buf.setBox hg1 (.box [vS, nilS, vi .i64 0, vi .i64 0, vb false, vi .i64 0] false))
    rw [← e2]
    simp only [closRes, closAs, closA, closL, e1, clA_cv, tV]
    rfl
  exact this []

theorem known_res {hc : Heap} : closRes hc (vb true) = some (vb true) := rfl

/-- DevNew. -/
theorem devnew_in {H : Type} {d0 : DataW H} {u0 : VV} (hd : DV Proofs.Try.prog 3 d0 u0) : ∃ h', call F 4 [u0] [] = some (.ret (vb true), h') := by
  obtain ⟨n, rfl, b1, b2⟩ := DV_i64 (by kernel_rfl) hd
  have : ∀ h : Heap, ∃ v h', call F 4 [vi .i64 n] h = some (.ret v, h') ∧ (fun v _ => v = vb true) v h' := by
    intro h
    refine call_E (fn := f4) rfl ?_
    simp only [f4]
    generalize hs0 : ([vi .i64 n] ++ List.replicate _ VV.undef : List VV) = s
    have hs : s.length = 31 := by rw [← hs0]; rfl
    have h0 : s.getD 0 .undef = vi .i64 n := by rw [← hs0]; rfl
    clear hs0
    obtain ⟨hk, kn⟩ := known_f10
    simp only [go_sem, Nat.reduceLT, Nat.reduceEqDiff, reduceCtorEq, Int.reduceLT, Int.reduceEq, hs, h0]
    by_cases c : n < 0 ∨ 4096 < n
    · obtain ⟨v, h', c1, c2⟩ := refnew_no (min n 4097) (by omega)
      refine XO_callP (h1 := h) (by simp only [List.map, go_sem, Nat.reduceLT, Nat.reduceEqDiff, reduceCtorEq, Int.reduceLT, Int.reduceEq, hs]; rfl) c1 c2 ?_
      unfold tV
      simp only [go_sem, Nat.reduceLT, Nat.reduceEqDiff, reduceCtorEq, Int.reduceLT, Int.reduceEq, hs, h0]
      rw [st_l_n]
      simp only [go_sem, Nat.reduceLT, Nat.reduceEqDiff, reduceCtorEq, Int.reduceLT, Int.reduceEq, hs, h0]
      refine XO_callR (by simp only [List.map, go_sem, Nat.reduceLT, Nat.reduceEqDiff, reduceCtorEq, Int.reduceLT, Int.reduceEq, hs]; exact new_none n c _) ?_
      simp only [go_sem, Nat.reduceLT, Nat.reduceEqDiff, reduceCtorEq, Int.reduceLT, Int.reduceEq, hs, h0]
      refine XO_callP (h1 := _) (by simp only [List.map, go_sem, Nat.reduceLT, Nat.reduceEqDiff, reduceCtorEq, Int.reduceLT, Int.reduceEq, hs]; rfl) kn known_res ?_
      simp only [go_sem, Nat.reduceLT, Nat.reduceEqDiff, reduceCtorEq, Int.reduceLT, Int.reduceEq, hs, h0, en_pn, eqb_eq, Bool.not_true, Bool.not_false, beq_self_eq_true]
    · obtain ⟨k, rfl⟩ : ∃ k : Nat, n = (k : Int) := ⟨n.toNat, by omega⟩
      obtain ⟨v, h', c1, c2⟩ := refnew_yes k (by omega)
      have hm : min (k : Int) 4097 = (k : Int) := by omega
      refine XO_callP (h1 := h) (by simp only [List.map, go_sem, Nat.reduceLT, Nat.reduceEqDiff, reduceCtorEq, Int.reduceLT, Int.reduceEq, hs, hm]; rfl) c1 c2 ?_
      unfold tV
      simp only [go_sem, Nat.reduceLT, Nat.reduceEqDiff, reduceCtorEq, Int.reduceLT, Int.reduceEq, hs, h0]
      rw [st_l_n]
      simp only [go_sem, Nat.reduceLT, Nat.reduceEqDiff, reduceCtorEq, Int.reduceLT, Int.reduceEq, hs, h0]
      generalize h ++ [VO.box _ false] = g
      obtain ⟨g1, n1, D1, _, _⟩ := new_f11 k (by omega) g
      refine XO_callR (by simp only [List.map, go_sem, Nat.reduceLT, Nat.reduceEqDiff, reduceCtorEq, Int.reduceLT, Int.reduceEq, hs]; exact n1) ?_
      simp only [go_sem, Nat.reduceLT, Nat.reduceEqDiff, reduceCtorEq, Int.reduceLT, Int.reduceEq, hs, h0]
      refine XO_callP (h1 := _) (by simp only [List.map, go_sem, Nat.reduceLT, Nat.reduceEqDiff, reduceCtorEq, Int.reduceLT, Int.reduceEq, hs]; rfl) kn known_res ?_
      simp only [go_sem, Nat.reduceLT, Nat.reduceEqDiff, reduceCtorEq, Int.reduceLT, Int.reduceEq, hs, h0, en_p, eqb_eq, Bool.not_true, Bool.not_false, beq_self_eq_true]
      refine XO_callR (by simp only [List.map, go_sem, Nat.reduceLT, Nat.reduceEqDiff, reduceCtorEq, Int.reduceLT, Int.reduceEq, hs]; exact len_f17 D1) ?_
      have e1 : (newD k).firm.length = k := by simp [newD]
      simp only [go_sem, Nat.reduceLT, Nat.reduceEqDiff, reduceCtorEq, Int.reduceLT, Int.reduceEq, hs, h0, e1]
  obtain ⟨v, h', e1, rfl⟩ := this []
  exact ⟨h', e1⟩
end Go.V04

set_option linter.unusedSimpArgs false
set_option linter.unusedVariables false
namespace Go.V04
open Go Go.Vm

/-! ### two devices -/
structure Two (h : Heap) (p1 : Nat) (f1 l1 : Option Nat) (d1 : D) (p2 : Nat) (f2 l2 : Option Nat) (d2 : D) : Prop where
  a : DevAt h p1 f1 l1 d1
  b : DevAt h p2 f2 l2 d2
  p : p1 ≠ p2
  f : ∀ i, f1 = some i → f2 ≠ some i
  l : ∀ i, l1 = some i → l2 ≠ some i

theorem Two.swap {h : Heap} {p1 p2 : Nat} {f1 l1 f2 l2 : Option Nat} {d1 d2 : D} (t : Two h p1 f1 l1 d1 p2 f2 l2 d2) : Two h p2 f2 l2 d2 p1 f1 l1 d1 :=
  ⟨t.b, t.a, t.p.symm, fun i e e' => t.f i e' e, fun i e e' => t.l i e' e⟩
theorem Two.step {h h' : Heap} {p1 p2 : Nat} {f1 l1 f2 l2 l1' : Option Nat} {d1 d2 d1' : D} (t : Two h p1 f1 l1 d1 p2 f2 l2 d2) (m : Moved h h' p1 f1 l1 l1' d1') : Two h' p1 f1 l1' d1' p2 f2 l2 d2 := by
  refine ⟨m.dev, m.kept.dev t.a t.b t.p.symm t.f t.l, t.p, t.f, fun i e e' => ?_⟩
  rcases m.new i e with x | x
  · exact t.l i x e'
  · obtain ⟨vf, vl, _, _, h3⟩ := t.b
    rcases h3 with ⟨id, g, a1, _, _, a3⟩ | ⟨a1, _⟩
    · rw [e'] at a1; cases a1
      have := lt_of_get a3
      omega
    · rw [e'] at a1; cases a1
theorem Two.ext {h h' : Heap} {p1 p2 : Nat} {f1 l1 f2 l2 : Option Nat} {d1 d2 : D} (t : Two h p1 f1 l1 d1 p2 f2 l2 d2) (e : Ext h h') : Two h' p1 f1 l1 d1 p2 f2 l2 d2 := ⟨t.a.ext e, t.b.ext e, t.p, t.f, t.l⟩
theorem DevAt.lt {h : Heap} {p : Nat} {f l : Option Nat} {d : D} (hD : DevAt h p f l d) : p < h.length ∧ (∀ i, f = some i → i < h.length) ∧ ∀ i, l = some i → i < h.length := by
  obtain ⟨vf, vl, h1, h2, h3⟩ := hD
  refine ⟨lt_of_get h1, fun i e => ?_, fun i e => ?_⟩
  · rcases h2 with ⟨id, g, ex, a1, _, a3⟩ | ⟨a1, _⟩
    · rw [e] at a1; cases a1; exact lt_of_get a3
    · rw [e] at a1; cases a1
  · rcases h3 with ⟨id, g, a1, _, _, a3⟩ | ⟨a1, _⟩
    · rw [e] at a1; cases a1; exact lt_of_get a3
    · rw [e] at a1; cases a1

/-! ### what a device without a fuse is, step by step -/
structure Pl (d : D) (firm : List (List UInt8)) (loose : List (Nat × List UInt8)) (w f : Nat) : Prop where
  firm : d.firm = firm
  loose : d.loose = loose
  w : d.w = w
  f : d.f = f
  fused : d.fused = false
theorem burnt_fused (d : D) : d.burnt.fused = d.fused := by unfold D.burnt; split <;> rfl
theorem Pl.dark {d : D} {firm : List (List UInt8)} {loose : List (Nat × List UInt8)} {w f : Nat} (h : Pl d firm loose w f) : d.dark = false := by
  unfold D.dark; rw [h.fused]; rfl
theorem Pl.has {d : D} {firm : List (List UInt8)} {loose : List (Nat × List UInt8)} {w f : Nat} (h : Pl d firm loose w f) {i : Nat} (hi : i < firm.length) : d.has (i : Int) = true := by
  unfold D.has; rw [h.firm]; simp; omega
theorem Pl.new (n : Nat) : Pl (newD n) (List.replicate n z64) [] 0 0 := ⟨rfl, rfl, rfl, rfl, rfl⟩
theorem Pl.write {d : D} {firm : List (List UInt8)} {loose : List (Nat × List UInt8)} {w f : Nat} (h : Pl d firm loose w f) {i : Nat} (hi : i < firm.length) {b : List UInt8} (hb : b.length ≤ 64) :
    Pl (d.write (i : Int) b).1 firm (loose ++ [(i, pad b)]) (w + 1) f := by
  unfold D.write
  rw [if_neg (by rw [h.has hi]; simp), if_neg (by omega), if_neg (by rw [h.dark]; simp)]
  exact ⟨by show d.burnt.firm = _; rw [burnt_firm, h.firm], by show d.loose ++ _ = _; rw [h.loose]; rfl, by show d.w + 1 = _; rw [h.w], by show d.burnt.f = _; rw [burnt_f, h.f], by show d.burnt.fused = _; rw [burnt_fused, h.fused]⟩
theorem Pl.flush {d : D} {firm : List (List UInt8)} {loose : List (Nat × List UInt8)} {w f : Nat} (h : Pl d firm loose w f) : Pl d.flush (settleF (fun _ => true) 0 firm loose) [] w (f + 1) := by
  unfold D.flush
  rw [if_neg (by rw [h.dark]; simp)]
  exact ⟨by show settleF _ 0 d.burnt.firm d.burnt.loose = _; rw [burnt_firm, burnt_loose, h.firm, h.loose], rfl, h.w, by show d.f + 1 = _; rw [h.f], by show d.burnt.fused = _; rw [burnt_fused, h.fused]⟩
theorem Pl.crash {d : D} {firm : List (List UInt8)} {loose : List (Nat × List UInt8)} {w f : Nat} (h : Pl d firm loose w f) (b : List Bool) : Pl (d.crash b) (settleF (keepF b) 0 firm loose) [] w f :=
  ⟨by show settleF _ 0 d.firm d.loose = _; rw [h.firm, h.loose], rfl, h.w, h.f, rfl⟩

theorem bin_tneq {l : List UInt8} : binO .neq (txt l) (txt l) = some (vb false) := by simp [binO, binV]

theorem order_loop {p1 p2 : Nat} {f1 l1 f2 l2 : Option Nat} {d1 d2 : D} (hO1 : d1.OK) (hO2 : d2.OK) (hn1 : d1.firm.length = 8) (hn2 : d2.firm.length = 8) (he : ∀ k, k < 8 → d1.cell k = d2.cell k) :
    ∀ (r k : Nat) (s : List VV) (g : Heap) (Q : Pst), k + r = 8 → s.length = 90 → s.getD 13 .undef = .ptr p1 0 → s.getD 14 .undef = .ptr p2 0 → s.getD 15 .undef = vi .i64 k → Two g p1 f1 l1 d1 p2 f2 l2 d2 →
      (∀ s' g', s'.length = 90 → Q (.exit 0) ⟨s', g'⟩) → X F (.loop f3_3) ⟨s, g⟩ Q := by
  intro r
  induction r with
  | zero =>
    intro k s g Q hk hs h13 h14 h15 hT hQ
    rw [X_loop, X_eq f3_3.eq_1]
    have c : ¬ (k : Int) < 8 := by omega
    simp only [go_sem, Nat.reduceLT, Nat.reduceEqDiff, reduceCtorEq, Int.reduceLT, Int.reduceEq, hs, h15, c]
    exact hQ _ _ (by simp only [slot_len, hs])
  | succ r ih =>
    intro k s g Q hk hs h13 h14 h15 hT hQ
    rw [X_loop, X_eq f3_3.eq_1]
    have c : (k : Int) < 8 := by omega
    simp only [go_sem, Nat.reduceLT, Nat.reduceEqDiff, reduceCtorEq, Int.reduceLT, Int.reduceEq, hs, h13, h15, c]
    obtain ⟨v1, g1, c1, r1⟩ := read_f15 hT.a hO1 (k : Int)
    obtain ⟨o1, w1, b1⟩ := r1.yes (by unfold D.has; rw [hn1]; simp; omega)
    subst w1
    refine XO_callR (by simp only [List.map, go_sem, Nat.reduceLT, Nat.reduceEqDiff, reduceCtorEq, Int.reduceLT, Int.reduceEq, hs]; exact c1) ?_
    simp only [go_sem, Nat.reduceLT, Nat.reduceEqDiff, reduceCtorEq, Int.reduceLT, Int.reduceEq, hs, h14, h15]
    obtain ⟨v2, g2, c2, r2⟩ := read_f15 (hT.ext r1.ext).b hO2 (k : Int)
    obtain ⟨o2, w2, b2⟩ := r2.yes (by unfold D.has; rw [hn2]; simp; omega)
    subst w2
    refine XO_callR (by simp only [List.map, go_sem, Nat.reduceLT, Nat.reduceEqDiff, reduceCtorEq, Int.reduceLT, Int.reduceEq, hs]; exact c2) ?_
    have e1 := (b1.ext r2.ext).bs
    have e2 := b2.bs
    rw [show (k : Int).toNat = k from rfl] at e1 e2
    rw [he k (by omega)] at e1
    have hw : IntKind.i64.wrap ((k : Int) + 1) = ((k + 1 : Nat) : Int) := by rw [IntWalk.i64_in _ (by omega)]; omega
    simp only [go_sem, Nat.reduceLT, Nat.reduceEqDiff, reduceCtorEq, Int.reduceLT, Int.reduceEq, hs, e1, e2, bin_tneq, h15, hw]
    exact ih (k + 1) _ _ Q (by omega) (by simp only [slot_len, hs]) (by simp only [go_sem, Nat.reduceLT, Nat.reduceEqDiff, reduceCtorEq, Int.reduceLT, Int.reduceEq, h13]) (by simp only [go_sem, Nat.reduceLT, Nat.reduceEqDiff, reduceCtorEq, Int.reduceLT, Int.reduceEq, h14]) (by simp only [go_sem, Nat.reduceLT, Nat.reduceEqDiff, reduceCtorEq, Int.reduceLT, Int.reduceEq, hs]) ((hT.ext r1.ext).ext r2.ext) hQ

/-- DevOrder. -/
theorem devorder_f3 (a b v w : UInt8) (cr : Bool) : ∃ h', call F 3 [vi .u8 a.toNat, vi .u8 b.toNat, vi .u8 v.toNat, vi .u8 w.toNat, vb cr] [] = some (.ret (vb true), h') := by
  have : ∀ h : Heap, ∃ x h', call F 3 [vi .u8 a.toNat, vi .u8 b.toNat, vi .u8 v.toNat, vi .u8 w.toNat, vb cr] h = some (.ret x, h') ∧ (fun x _ => x = vb true) x h' := by
    intro h
    refine call_E (fn := f3) rfl ?_
    simp only [f3]
    generalize hs0 : ([vi .u8 a.toNat, vi .u8 b.toNat, vi .u8 v.toNat, vi .u8 w.toNat, vb cr] ++ List.replicate _ VV.undef : List VV) = s
    have hs : s.length = 90 := by rw [← hs0]; rfl
    have h0 : s.getD 0 .undef = vi .u8 a.toNat := by rw [← hs0]; rfl
    have h1 : s.getD 1 .undef = vi .u8 b.toNat := by rw [← hs0]; rfl
    have h2 : s.getD 2 .undef = vi .u8 v.toNat := by rw [← hs0]; rfl
    have h3 : s.getD 3 .undef = vi .u8 w.toNat := by rw [← hs0]; rfl
    have h4 : s.getD 4 .undef = vb cr := by rw [← hs0]; rfl
    clear hs0
    obtain ⟨hk, kn⟩ := known_f10
    have ra : (a.toNat : Int).tmod 8 = ((a.toNat % 8 : Nat) : Int) := rfl
    have ra' : IntKind.i64.wrap ((a.toNat % 8 : Nat) : Int) = ((a.toNat % 8 : Nat) : Int) := IntWalk.i64_in _ (by omega)
    have rb : (b.toNat : Int).tmod 8 = ((b.toNat % 8 : Nat) : Int) := rfl
    have rb' : IntKind.i64.wrap ((b.toNat % 8 : Nat) : Int) = ((b.toNat % 8 : Nat) : Int) := IntWalk.i64_in _ (by omega)
    generalize hi : a.toNat % 8 = i at ra ra'
    generalize hj : b.toNat % 8 = j at rb rb'
    have hi8 : i < 8 := by omega
    have hj8 : j < 8 := by omega
    simp only [go_sem, Nat.reduceLT, Nat.reduceEqDiff, reduceCtorEq, Int.reduceLT, Int.reduceEq, hs, h0, h1, ra, ra', rb, rb']
    rw [X_eq f3_0.eq_1]
    by_cases c : (i : Int) = (j : Int)
    · simp only [go_sem, Nat.reduceLT, Nat.reduceEqDiff, reduceCtorEq, Int.reduceLT, Int.reduceEq, hs, c]
      refine XO_callP (h1 := h) (by simp only [List.map, go_sem, Nat.reduceLT, Nat.reduceEqDiff, reduceCtorEq, Int.reduceLT, Int.reduceEq, hs]; rfl) kn known_res ?_
      simp only [go_sem, Nat.reduceLT, Nat.reduceEqDiff, reduceCtorEq, Int.reduceLT, Int.reduceEq, hs]
    · simp only [go_sem, Nat.reduceLT, Nat.reduceEqDiff, reduceCtorEq, Int.reduceLT, Int.reduceEq, hs, c]
      obtain ⟨g1, n1, D1, L1, S1⟩ := new_f11 8 (by decide) h
      refine XO_callR (by simp only [List.map, go_sem, Nat.reduceLT, Nat.reduceEqDiff, reduceCtorEq, Int.reduceLT, Int.reduceEq, hs]; exact n1) ?_
      obtain ⟨g2, n2, D2, L2, S2⟩ := new_f11 8 (by decide) g1
      simp only [go_sem, Nat.reduceLT, Nat.reduceEqDiff, reduceCtorEq, Int.reduceLT, Int.reduceEq, hs]
      refine XO_callR (by simp only [List.map, go_sem, Nat.reduceLT, Nat.reduceEqDiff, reduceCtorEq, Int.reduceLT, Int.reduceEq, hs]; exact n2) ?_
      simp only [go_sem, Nat.reduceLT, Nat.reduceEqDiff, reduceCtorEq, Int.reduceLT, Int.reduceEq, hs]
      rw [X_eq f3_1.eq_1]
      have lt1 := D1.lt
      have T0 : Two g2 (h.length + 1) (some h.length) none (newD 8) (g1.length + 1) (some g1.length) none (newD 8) := by
        refine ⟨D1.ext ⟨L2, S2⟩, D2, by omega, fun i e e' => ?_, fun i e => (by cases e)⟩
        have := lt1.2.1 i e
        have e2 : g1.length = i := Option.some.inj e'
        omega
      have On : (newD 8).OK := new_OK (by decide)
      have P0 := Pl.new 8
      have l8 : (List.replicate 8 z64).length = 8 := by simp
      -- c
      obtain ⟨v3, g3, n3, w3, l3, m3⟩ := write_f12 T0.a On (by decide) (by decide) i [v] _ (sl1 v)
      have O3 := write_OK On (by decide) (by decide) i [v]
      have P3 := P0.write (i := i) (b := [v]) (by omega) (by simp)
      have T3 := T0.step m3
      simp only [go_sem, Nat.reduceLT, Nat.reduceEqDiff, reduceCtorEq, Int.reduceLT, Int.reduceEq, hs, en_p, h2]
      refine XO_callR (by simp only [List.map, go_sem, Nat.reduceLT, Nat.reduceEqDiff, reduceCtorEq, Int.reduceLT, Int.reduceEq, hs]; exact n3) ?_
      generalize hd3 : ((newD 8).write i [v]).1 = d3 at T3 O3 P3
      obtain ⟨v4, g4, n4, w4, l4, m4⟩ := write_f12 T3.a O3 (by rw [P3.w]; decide) (by rw [P3.loose]; simp) j [w] _ (sl1 w)
      have O4 := write_OK O3 (by rw [P3.w]; decide) (by rw [P3.loose]; simp) j [w]
      have P4 := P3.write (i := j) (b := [w]) (by omega) (by simp)
      have T4 := T3.step m4
      simp only [go_sem, Nat.reduceLT, Nat.reduceEqDiff, reduceCtorEq, Int.reduceLT, Int.reduceEq, hs, en_p, h3]
      refine XO_callR (by simp only [List.map, go_sem, Nat.reduceLT, Nat.reduceEqDiff, reduceCtorEq, Int.reduceLT, Int.reduceEq, hs]; exact n4) ?_
      generalize hd4 : (d3.write j [w]).1 = d4 at T4 O4 P4
      -- d
      obtain ⟨v5, g5, n5, w5, l5, m5⟩ := write_f12 T4.b On (by decide) (by decide) j [w] _ (sl1 w)
      have O5 := write_OK On (by decide) (by decide) j [w]
      have P5 := P0.write (i := j) (b := [w]) (by omega) (by simp)
      have T5 := T4.swap.step m5
      simp only [go_sem, Nat.reduceLT, Nat.reduceEqDiff, reduceCtorEq, Int.reduceLT, Int.reduceEq, hs, en_p, h3]
      refine XO_callR (by simp only [List.map, go_sem, Nat.reduceLT, Nat.reduceEqDiff, reduceCtorEq, Int.reduceLT, Int.reduceEq, hs]; exact n5) ?_
      generalize hd5 : ((newD 8).write j [w]).1 = d5 at T5 O5 P5
      obtain ⟨v6, g6, n6, w6, l6, m6⟩ := write_f12 T5.a O5 (by rw [P5.w]; decide) (by rw [P5.loose]; simp) i [v] _ (sl1 v)
      have O6 := write_OK O5 (by rw [P5.w]; decide) (by rw [P5.loose]; simp) i [v]
      have P6 := P5.write (i := i) (b := [v]) (by omega) (by simp)
      have T6 := (T5.step m6).swap
      simp only [go_sem, Nat.reduceLT, Nat.reduceEqDiff, reduceCtorEq, Int.reduceLT, Int.reduceEq, hs, en_p, h2]
      refine XO_callR (by simp only [List.map, go_sem, Nat.reduceLT, Nat.reduceEqDiff, reduceCtorEq, Int.reduceLT, Int.reduceEq, hs]; exact n6) ?_
      generalize hd6 : (d5.write i [v]).1 = d6 at T6 O6 P6
      -- flush
      obtain ⟨v7, g7, n7, w7, l7, m7⟩ := flush_f13 T6.a O4 (by rw [P4.f]; decide)
      have O7 := flush_OK O4 (by rw [P4.f]; decide)
      have P7 := P4.flush
      have T7 := T6.step m7
      simp only [go_sem, Nat.reduceLT, Nat.reduceEqDiff, reduceCtorEq, Int.reduceLT, Int.reduceEq, hs, en_p]
      refine XO_callR (by simp only [List.map, go_sem, Nat.reduceLT, Nat.reduceEqDiff, reduceCtorEq, Int.reduceLT, Int.reduceEq, hs]; exact n7) ?_
      obtain ⟨v8, g8, n8, w8, l8, m8⟩ := flush_f13 T7.b O6 (by rw [P6.f]; decide)
      have O8 := flush_OK O6 (by rw [P6.f]; decide)
      have P8 := P6.flush
      have T8 := (T7.swap.step m8).swap
      simp only [go_sem, Nat.reduceLT, Nat.reduceEqDiff, reduceCtorEq, Int.reduceLT, Int.reduceEq, hs, en_p]
      refine XO_callR (by simp only [List.map, go_sem, Nat.reduceLT, Nat.reduceEqDiff, reduceCtorEq, Int.reduceLT, Int.reduceEq, hs]; exact n8) ?_
      simp only [go_sem, Nat.reduceLT, Nat.reduceEqDiff, reduceCtorEq, Int.reduceLT, Int.reduceEq, hs]
      rw [X_eq f3_2.eq_1]
      have eF : settleF (fun _ => true) 0 (List.replicate 8 z64) ([] ++ [(i, pad [v])] ++ [(j, pad [w])]) = settleF (fun _ => true) 0 (List.replicate 8 z64) ([] ++ [(j, pad [w])] ++ [(i, pad [v])]) := by
        show ((List.replicate 8 z64).set i (pad [v])).set j (pad [w]) = ((List.replicate 8 z64).set j (pad [w])).set i (pad [v])
        exact List.set_comm _ _ (by omega)
      have cellP : ∀ {d : D} {firm : List (List UInt8)} {w f : Nat}, Pl d firm [] w f → ∀ k, d.cell k = firm.getD k [] := by
        intro d firm w f hP k
        unfold D.cell; rw [hP.loose, hP.firm]; rfl
      have len8 : ∀ l, (settleF (fun _ => true) 0 (List.replicate 8 z64) l).length = 8 := by
        intro l; rw [settle_len]; simp
      cases cr with
      | false =>
        simp only [go_sem, Nat.reduceLT, Nat.reduceEqDiff, reduceCtorEq, Int.reduceLT, Int.reduceEq, hs, h4]
        refine order_loop O7 O8 (by rw [P7.firm, len8]) (by rw [P8.firm, len8]) (fun k _ => by rw [cellP P7, cellP P8, eF]) 8 0 _ _ _ rfl (by simp only [slot_len, hs]) (by simp only [go_sem, Nat.reduceLT, Nat.reduceEqDiff, reduceCtorEq, Int.reduceLT, Int.reduceEq, hs]) (by simp only [go_sem, Nat.reduceLT, Nat.reduceEqDiff, reduceCtorEq, Int.reduceLT, Int.reduceEq, hs]) (by simp only [go_sem, Nat.reduceLT, Nat.reduceEqDiff, reduceCtorEq, Int.reduceLT, Int.reduceEq, hs]; rfl) T8 (fun s' g' hs' => ?_)
        simp only [go_sem, Nat.reduceLT, Nat.reduceEqDiff, reduceCtorEq, Int.reduceLT, Int.reduceEq, hs']
        refine XO_callP (h1 := _) (by simp only [List.map, go_sem, Nat.reduceLT, Nat.reduceEqDiff, reduceCtorEq, Int.reduceLT, Int.reduceEq, hs]; rfl) kn known_res ?_
        simp only [go_sem, Nat.reduceLT, Nat.reduceEqDiff, reduceCtorEq, Int.reduceLT, Int.reduceEq, hs']
      | true =>
        simp only [go_sem, Nat.reduceLT, Nat.reduceEqDiff, reduceCtorEq, Int.reduceLT, Int.reduceEq, hs, h4]
        obtain ⟨v9, g9, n9, w9, l9, m9⟩ := flush_f13 T8.a O7 (by rw [P7.f]; decide)
        have O9 := flush_OK O7 (by rw [P7.f]; decide)
        have P9 := P7.flush
        have T9 := T8.step m9
        refine XO_callR (by simp only [List.map, go_sem, Nat.reduceLT, Nat.reduceEqDiff, reduceCtorEq, Int.reduceLT, Int.reduceEq, hs]; exact n9) ?_
        obtain ⟨v10, g10, n10, w10, l10, m10⟩ := crash_f14 T9.a O9 (b := [true]) (v := .cv (.sl 1 [[.sc (.bool true)]] true)) (.inr ⟨true, rfl⟩) (by decide)
        have O10 := crash_OK O9 [true]
        have P10 := P9.crash [true]
        have T10 := T9.step m10
        simp only [go_sem, Nat.reduceLT, Nat.reduceEqDiff, reduceCtorEq, Int.reduceLT, Int.reduceEq, hs]
        refine XO_callR (by simp only [List.map, go_sem, Nat.reduceLT, Nat.reduceEqDiff, reduceCtorEq, Int.reduceLT, Int.reduceEq, hs]; exact n10) ?_
        simp only [go_sem, Nat.reduceLT, Nat.reduceEqDiff, reduceCtorEq, Int.reduceLT, Int.reduceEq, hs]
        refine order_loop O10 O8 (by rw [P10.firm]; exact len8 _) (by rw [P8.firm, len8]) (fun k _ => by rw [cellP P10, cellP P8, ← eF]; rfl) 8 0 _ _ _ rfl (by simp only [slot_len, hs]) (by simp only [go_sem, Nat.reduceLT, Nat.reduceEqDiff, reduceCtorEq, Int.reduceLT, Int.reduceEq, hs]) (by simp only [go_sem, Nat.reduceLT, Nat.reduceEqDiff, reduceCtorEq, Int.reduceLT, Int.reduceEq, hs]) (by simp only [go_sem, Nat.reduceLT, Nat.reduceEqDiff, reduceCtorEq, Int.reduceLT, Int.reduceEq, hs]; rfl) T10 (fun s' g' hs' => ?_)
        simp only [go_sem, Nat.reduceLT, Nat.reduceEqDiff, reduceCtorEq, Int.reduceLT, Int.reduceEq, hs']
        refine XO_callP (h1 := _) (by simp only [List.map, go_sem, Nat.reduceLT, Nat.reduceEqDiff, reduceCtorEq, Int.reduceLT, Int.reduceEq, hs]; rfl) kn known_res ?_
        simp only [go_sem, Nat.reduceLT, Nat.reduceEqDiff, reduceCtorEq, Int.reduceLT, Int.reduceEq, hs']
  obtain ⟨x, h', e1, rfl⟩ := this []
  exact ⟨h', e1⟩
theorem devorder_in {H : Type} {d0 d1 d2 d3 d4 : DataW H} {u0 u1 u2 u3 u4 : VV} (h0 : DV Proofs.Try.prog 5 d0 u0) (h1 : DV Proofs.Try.prog 5 d1 u1) (h2 : DV Proofs.Try.prog 5 d2 u2) (h3 : DV Proofs.Try.prog 5 d3 u3) (h4 : DV Proofs.Try.prog 4 d4 u4) : ∃ h', call F 3 [u0, u1, u2, u3, u4] [] = some (.ret (vb true), h') := by
  obtain ⟨a, rfl⟩ := DV_u8 (by kernel_rfl) h0
  obtain ⟨b, rfl⟩ := DV_u8 (by kernel_rfl) h1
  obtain ⟨v, rfl⟩ := DV_u8 (by kernel_rfl) h2
  obtain ⟨w, rfl⟩ := DV_u8 (by kernel_rfl) h3
  obtain ⟨cr, rfl⟩ := DV_bool (by kernel_rfl) h4
  exact devorder_f3 a b v w cr
end Go.V04

set_option linter.unusedSimpArgs false
set_option linter.unusedVariables false
namespace Go.V04
open Go Go.Vm

theorem XO_mksF {F : Nat → Option FnIR} {d : Option Nat} {r : List Op1} {s : List VV} {h : Heap} {Q : Pst} {x y : Opd} {k k' : IntKind} {a : Nat} (hx : evalO s x = vi k a) (hy : evalO s y = vi k' a) (h1 : a ≤ 35184372088832)
    (hk : XO F r ⟨putD s d (.cv (.sl 1 (eB (List.replicate a 0)) true)), h⟩ Q) : XO F (⟨none, d, .mks 1 1 [.sc (.int .u8 0)] x y false⟩ :: r) ⟨s, h⟩ Q := by
  rw [XO_ins rfl]
  have : stepI h (evalO s) (.mks 1 1 [.sc (.int .u8 0)] x y false) = some (.cv (.sl 1 (eB (List.replicate a 0)) true), h) := by
    have hm : maxBytes = 35184372088832 := rfl
    have h3 : (a : Int) ≤ 35184372088832 := by omega
    rw [← eB_replicate]
    simp [stepI, hx, hy, intV, hm, h3]
  rw [this, XV_some]
  exact hk

theorem spoil_w (d : D) (i a : Int) (v : UInt8) : (d.spoil i a v).1.w = d.w ∧ (d.spoil i a v).1.f = d.f ∧ (d.spoil i a v).1.loose = d.loose ∧ (d.spoil i a v).1.firm.length = d.firm.length := by
  unfold D.spoil
  split <;> simp

/-- DevRange. -/
theorem devrange_f7 (n : UInt8) (i : Int) (m : UInt8) : ∃ h', call F 7 [vi .u8 n.toNat, vi .i64 i, vi .u8 m.toNat] [] = some (.ret (vb true), h') := by
  have : ∀ h : Heap, ∃ x h', call F 7 [vi .u8 n.toNat, vi .i64 i, vi .u8 m.toNat] h = some (.ret x, h') ∧ (fun x _ => x = vb true) x h' := by
    intro h
    refine call_E (fn := f7) rfl ?_
    simp only [f7]
    generalize hs0 : ([vi .u8 n.toNat, vi .i64 i, vi .u8 m.toNat] ++ List.replicate _ VV.undef : List VV) = s
    have hs : s.length = 105 := by rw [← hs0]; rfl
    have h0 : s.getD 0 .undef = vi .u8 n.toNat := by rw [← hs0]; rfl
    have h1 : s.getD 1 .undef = vi .i64 i := by rw [← hs0]; rfl
    have h2 : s.getD 2 .undef = vi .u8 m.toNat := by rw [← hs0]; rfl
    clear hs0
    obtain ⟨hk, kn⟩ := known_f10
    have rn : (n.toNat : Int).tmod 20 = ((n.toNat % 20 : Nat) : Int) := rfl
    have rn' : IntKind.i64.wrap ((n.toNat % 20 : Nat) : Int) = ((n.toNat % 20 : Nat) : Int) := IntWalk.i64_in _ (by omega)
    generalize hq : n.toNat % 20 = q at rn rn'
    have hq8 : q < 20 := by omega
    have hm8 := m.toNat_lt
    have rm : IntKind.i64.wrap (m.toNat : Int) = (m.toNat : Int) := IntWalk.i64_in _ (by omega)
    have rm' : IntKind.i64.wrap (65 + (m.toNat : Int)) = ((65 + m.toNat : Nat) : Int) := by rw [IntWalk.i64_in _ (by omega)]; omega
    obtain ⟨g1, n1, D1, L1, S1⟩ := new_f11 q (by omega) h
    have O1 : (newD q).OK := new_OK (by omega)
    have P1 := Pl.new q
    simp only [go_sem, Nat.reduceLT, Nat.reduceEqDiff, reduceCtorEq, Int.reduceLT, Int.reduceEq, hs, h0, rn, rn']
    refine XO_callR (by simp only [List.map, go_sem, Nat.reduceLT, Nat.reduceEqDiff, reduceCtorEq, Int.reduceLT, Int.reduceEq, hs]; exact n1) ?_
    simp only [go_sem, Nat.reduceLT, Nat.reduceEqDiff, reduceCtorEq, Int.reduceLT, Int.reduceEq, hs]
    rw [X_eq f7_0.eq_1]
    have hhas : (newD q).has i = (decide (0 ≤ i) && decide (i < (q : Int))) := by unfold D.has; simp [newD]
    have wz : (newD q).w < 280 := (by decide : 0 < 280)
    have lz : (newD q).loose.length < 190 := (by decide : 0 < 190)
    obtain ⟨v2, g2, n2, r2⟩ := read_f15 D1 O1 i
    have D2 := D1.ext r2.ext
    obtain ⟨v3, g3, n3, w3, l3, m3⟩ := write_f12 D2 O1 wz lz i (List.replicate (65 + m.toNat) 0) _ (.inr ⟨true, rfl⟩)
    by_cases c : 0 ≤ i ∧ i < (q : Int)
    · obtain ⟨k, rfl⟩ : ∃ k : Nat, i = (k : Int) := ⟨i.toNat, by omega⟩
      have ht : (newD q).has (k : Int) = true := by rw [hhas]; simp; omega
      obtain ⟨o2, w2, b2⟩ := r2.yes ht
      subst w2
      have e3 : (newD q).write (k : Int) (List.replicate (65 + m.toNat) 0) = (newD q, 3) := by
        unfold D.write
        rw [if_neg (by rw [ht]; simp), if_pos (by simp; omega)]
      rw [e3] at w3 m3
      subst w3
      obtain ⟨v4, g4, n4, w4, l4, m4⟩ := write_f12 m3.dev O1 wz lz k [] nilS (.inl ⟨rfl, rfl⟩)
      have O4 := write_OK O1 wz lz k []
      have P4 := P1.write (i := k) (b := []) (by simp; omega) (by simp)
      have e4 : ((newD q).write (k : Int) []).2 = 0 := by
        unfold D.write
        rw [if_neg (by rw [ht]; simp), if_neg (by simp), if_neg (by rw [P1.dark]; simp)]
      rw [e4] at w4
      subst w4
      generalize hd4 : ((newD q).write (k : Int) []).1 = d4 at *
      obtain ⟨v5, g5, n5, w5, D5, K5⟩ := spoil_f20 m4.dev O4 k 3 1
      have O5 := spoil_OK O4 k 3 1
      obtain ⟨q1, q2, q3, q4⟩ := spoil_w d4 k 3 1
      have e5 : (d4.spoil k 3 1).2 = true := by
        unfold D.spoil
        rw [if_pos (by rw [P4.has (by simp; omega)]; decide)]
      rw [e5] at w5
      subst w5
      generalize hd5 : (d4.spoil (k : Int) 3 1).1 = d5 at *
      rw [P4.w] at q1
      rw [P4.f] at q2
      rw [P4.loose] at q3
      have tr := traffic_f21 D5
      rw [q1, q2] at tr
      obtain ⟨v6, g6, n6, B6⟩ := loose_f18 D5 O5
      have ln6 : lnO false v6 = some (vi .i64 1) := by rw [B6.buf.ln, eI_len, q3]; rfl
      have c1 : 0 ≤ (k : Int) := by omega
      have c2 : (k : Int) < (q : Int) := c.2
      simp only [go_sem, Nat.reduceLT, Nat.reduceEqDiff, reduceCtorEq, Int.reduceLT, Int.reduceEq, hs, en_p, h1, c1, c2, h0, rn, rn']
      refine XO_callR (by simp only [List.map, go_sem, Nat.reduceLT, Nat.reduceEqDiff, reduceCtorEq, Int.reduceLT, Int.reduceEq, hs]; exact n2) ?_
      simp only [go_sem, Nat.reduceLT, Nat.reduceEqDiff, reduceCtorEq, Int.reduceLT, Int.reduceEq, hs, en_p, h1, h2, rm, rm']
      refine XO_mksF (k := .i64) (k' := .i64) (a := 65 + m.toNat) (by simp only [go_sem, Nat.reduceLT, Nat.reduceEqDiff, reduceCtorEq, Int.reduceLT, Int.reduceEq, hs]) (by simp only [go_sem, Nat.reduceLT, Nat.reduceEqDiff, reduceCtorEq, Int.reduceLT, Int.reduceEq, hs]) (by omega) ?_
      refine XO_callR (by simp only [List.map, go_sem, Nat.reduceLT, Nat.reduceEqDiff, reduceCtorEq, Int.reduceLT, Int.reduceEq, hs, h1]; exact n3) ?_
      simp only [go_sem, Nat.reduceLT, Nat.reduceEqDiff, reduceCtorEq, Int.reduceLT, Int.reduceEq, hs, h1]
      refine XO_callR (by simp only [List.map, go_sem, Nat.reduceLT, Nat.reduceEqDiff, reduceCtorEq, Int.reduceLT, Int.reduceEq, hs, h1]; exact n4) ?_
      simp only [go_sem, Nat.reduceLT, Nat.reduceEqDiff, reduceCtorEq, Int.reduceLT, Int.reduceEq, hs, h1]
      refine XO_callR (by simp only [List.map, go_sem, Nat.reduceLT, Nat.reduceEqDiff, reduceCtorEq, Int.reduceLT, Int.reduceEq, hs, h1]; exact n5) ?_
      simp only [go_sem, Nat.reduceLT, Nat.reduceEqDiff, reduceCtorEq, Int.reduceLT, Int.reduceEq, hs, h1]
      rw [X_eq f7_1.eq_1]
      simp only [go_sem, Nat.reduceLT, Nat.reduceEqDiff, reduceCtorEq, Int.reduceLT, Int.reduceEq, hs, Bool.not_true]
      refine XO_callP (h1 := _) (by simp only [List.map, go_sem, Nat.reduceLT, Nat.reduceEqDiff, reduceCtorEq, Int.reduceLT, Int.reduceEq, hs]; rfl) kn known_res ?_
      have hb := (cpx_same (a := 1) (b := 0) (by decide) (by decide)).1
      have f1 : fl 1 = 4607182418800017408 := by decide
      simp only [cpx, fl0, f1, Nat.zero_add] at hb tr
      simp only [go_sem, Nat.reduceLT, Nat.reduceEqDiff, reduceCtorEq, Int.reduceLT, Int.reduceEq, hs, Int.cast_ofNat_Int]
      refine XO_callR (by simp only [List.map, go_sem, Nat.reduceLT, Nat.reduceEqDiff, reduceCtorEq, Int.reduceLT, Int.reduceEq, hs, h1]; exact tr) ?_
      simp only [go_sem, Nat.reduceLT, Nat.reduceEqDiff, reduceCtorEq, Int.reduceLT, Int.reduceEq, hs, hb]
      refine XO_callR (by simp only [List.map, go_sem, Nat.reduceLT, Nat.reduceEqDiff, reduceCtorEq, Int.reduceLT, Int.reduceEq, hs, h1]; exact n6) ?_
      simp only [go_sem, Nat.reduceLT, Nat.reduceEqDiff, reduceCtorEq, Int.reduceLT, Int.reduceEq, hs, hb, ln6]
    · have hf : (newD q).has i = false := by rw [hhas]; simp; omega
      have w2 := r2.no hf
      subst w2
      have e3 : ∀ b, (newD q).write i b = (newD q, 20) := by
        intro b
        unfold D.write
        rw [if_pos hf]
      rw [e3] at w3 m3
      subst w3
      obtain ⟨v4, g4, n4, w4, l4, m4⟩ := write_f12 m3.dev O1 wz lz i [] nilS (.inl ⟨rfl, rfl⟩)
      rw [e3] at w4 m4
      subst w4
      obtain ⟨v5, g5, n5, w5, D5, K5⟩ := spoil_f20 m4.dev O1 i 3 1
      have e5 : (newD q).spoil i 3 1 = (newD q, false) := by
        unfold D.spoil
        rw [if_neg (by rw [hf]; simp)]
      rw [e5] at w5 D5
      subst w5
      have tr := traffic_f21 D5
      obtain ⟨v6, g6, n6, B6⟩ := loose_f18 D5 O1
      have ln6 : lnO false v6 = some (vi .i64 0) := by rw [B6.buf.ln]; rfl
      have c3 : (decide (0 ≤ i) && decide (i < (q : Int))) = false := by rw [← hhas]; exact hf
      by_cases c1 : 0 ≤ i
      · have c2 : ¬ i < (q : Int) := by omega
        simp only [go_sem, Nat.reduceLT, Nat.reduceEqDiff, reduceCtorEq, Int.reduceLT, Int.reduceEq, hs, en_p, h1, c1, c2, h0, rn, rn']
        refine XO_callR (by simp only [List.map, go_sem, Nat.reduceLT, Nat.reduceEqDiff, reduceCtorEq, Int.reduceLT, Int.reduceEq, hs]; exact n2) ?_
        simp only [go_sem, Nat.reduceLT, Nat.reduceEqDiff, reduceCtorEq, Int.reduceLT, Int.reduceEq, hs, en_p, h1, h2, rm, rm']
        refine XO_mksF (k := .i64) (k' := .i64) (a := 65 + m.toNat) (by simp only [go_sem, Nat.reduceLT, Nat.reduceEqDiff, reduceCtorEq, Int.reduceLT, Int.reduceEq, hs]) (by simp only [go_sem, Nat.reduceLT, Nat.reduceEqDiff, reduceCtorEq, Int.reduceLT, Int.reduceEq, hs]) (by omega) ?_
        refine XO_callR (by simp only [List.map, go_sem, Nat.reduceLT, Nat.reduceEqDiff, reduceCtorEq, Int.reduceLT, Int.reduceEq, hs, h1]; exact n3) ?_
        simp only [go_sem, Nat.reduceLT, Nat.reduceEqDiff, reduceCtorEq, Int.reduceLT, Int.reduceEq, hs, h1]
        refine XO_callR (by simp only [List.map, go_sem, Nat.reduceLT, Nat.reduceEqDiff, reduceCtorEq, Int.reduceLT, Int.reduceEq, hs, h1]; exact n4) ?_
        simp only [go_sem, Nat.reduceLT, Nat.reduceEqDiff, reduceCtorEq, Int.reduceLT, Int.reduceEq, hs, h1]
        refine XO_callR (by simp only [List.map, go_sem, Nat.reduceLT, Nat.reduceEqDiff, reduceCtorEq, Int.reduceLT, Int.reduceEq, hs, h1]; exact n5) ?_
        simp only [go_sem, Nat.reduceLT, Nat.reduceEqDiff, reduceCtorEq, Int.reduceLT, Int.reduceEq, hs, h1]
        rw [X_eq f7_1.eq_1]
        simp only [go_sem, Nat.reduceLT, Nat.reduceEqDiff, reduceCtorEq, Int.reduceLT, Int.reduceEq, hs, Bool.not_false]
        refine XO_callP (h1 := _) (by simp only [List.map, go_sem, Nat.reduceLT, Nat.reduceEqDiff, reduceCtorEq, Int.reduceLT, Int.reduceEq, hs]; rfl) kn known_res ?_
        have hb := (cpx_same (a := 0) (b := 0) (by decide) (by decide)).1
        have tr' : call F 21 [.ptr (h.length + 1) 0] g5 = some (.ret (cpx 0 0), g5) := tr
        simp only [cpx, fl0] at hb tr'
        simp only [go_sem, Nat.reduceLT, Nat.reduceEqDiff, reduceCtorEq, Int.reduceLT, Int.reduceEq, hs, Int.cast_ofNat_Int, Bool.not_false]
        refine XO_callR (by simp only [List.map, go_sem, Nat.reduceLT, Nat.reduceEqDiff, reduceCtorEq, Int.reduceLT, Int.reduceEq, hs, h1]; exact tr') ?_
        simp only [go_sem, Nat.reduceLT, Nat.reduceEqDiff, reduceCtorEq, Int.reduceLT, Int.reduceEq, hs, hb]
        refine XO_callR (by simp only [List.map, go_sem, Nat.reduceLT, Nat.reduceEqDiff, reduceCtorEq, Int.reduceLT, Int.reduceEq, hs, h1]; exact n6) ?_
        simp only [go_sem, Nat.reduceLT, Nat.reduceEqDiff, reduceCtorEq, Int.reduceLT, Int.reduceEq, hs, hb, ln6]
      · simp only [go_sem, Nat.reduceLT, Nat.reduceEqDiff, reduceCtorEq, Int.reduceLT, Int.reduceEq, hs, en_p, h1, c1, h0, rn, rn']
        refine XO_callR (by simp only [List.map, go_sem, Nat.reduceLT, Nat.reduceEqDiff, reduceCtorEq, Int.reduceLT, Int.reduceEq, hs]; exact n2) ?_
        simp only [go_sem, Nat.reduceLT, Nat.reduceEqDiff, reduceCtorEq, Int.reduceLT, Int.reduceEq, hs, en_p, h1, h2, rm, rm']
        refine XO_mksF (k := .i64) (k' := .i64) (a := 65 + m.toNat) (by simp only [go_sem, Nat.reduceLT, Nat.reduceEqDiff, reduceCtorEq, Int.reduceLT, Int.reduceEq, hs]) (by simp only [go_sem, Nat.reduceLT, Nat.reduceEqDiff, reduceCtorEq, Int.reduceLT, Int.reduceEq, hs]) (by omega) ?_
        refine XO_callR (by simp only [List.map, go_sem, Nat.reduceLT, Nat.reduceEqDiff, reduceCtorEq, Int.reduceLT, Int.reduceEq, hs, h1]; exact n3) ?_
        simp only [go_sem, Nat.reduceLT, Nat.reduceEqDiff, reduceCtorEq, Int.reduceLT, Int.reduceEq, hs, h1]
        refine XO_callR (by simp only [List.map, go_sem, Nat.reduceLT, Nat.reduceEqDiff, reduceCtorEq, Int.reduceLT, Int.reduceEq, hs, h1]; exact n4) ?_
        simp only [go_sem, Nat.reduceLT, Nat.reduceEqDiff, reduceCtorEq, Int.reduceLT, Int.reduceEq, hs, h1]
        refine XO_callR (by simp only [List.map, go_sem, Nat.reduceLT, Nat.reduceEqDiff, reduceCtorEq, Int.reduceLT, Int.reduceEq, hs, h1]; exact n5) ?_
        simp only [go_sem, Nat.reduceLT, Nat.reduceEqDiff, reduceCtorEq, Int.reduceLT, Int.reduceEq, hs, h1]
        rw [X_eq f7_1.eq_1]
        simp only [go_sem, Nat.reduceLT, Nat.reduceEqDiff, reduceCtorEq, Int.reduceLT, Int.reduceEq, hs, Bool.not_false]
        refine XO_callP (h1 := _) (by simp only [List.map, go_sem, Nat.reduceLT, Nat.reduceEqDiff, reduceCtorEq, Int.reduceLT, Int.reduceEq, hs]; rfl) kn known_res ?_
        have hb := (cpx_same (a := 0) (b := 0) (by decide) (by decide)).1
        have tr' : call F 21 [.ptr (h.length + 1) 0] g5 = some (.ret (cpx 0 0), g5) := tr
        simp only [cpx, fl0] at hb tr'
        simp only [go_sem, Nat.reduceLT, Nat.reduceEqDiff, reduceCtorEq, Int.reduceLT, Int.reduceEq, hs, Int.cast_ofNat_Int, Bool.not_false]
        refine XO_callR (by simp only [List.map, go_sem, Nat.reduceLT, Nat.reduceEqDiff, reduceCtorEq, Int.reduceLT, Int.reduceEq, hs, h1]; exact tr') ?_
        simp only [go_sem, Nat.reduceLT, Nat.reduceEqDiff, reduceCtorEq, Int.reduceLT, Int.reduceEq, hs, hb]
        refine XO_callR (by simp only [List.map, go_sem, Nat.reduceLT, Nat.reduceEqDiff, reduceCtorEq, Int.reduceLT, Int.reduceEq, hs, h1]; exact n6) ?_
        simp only [go_sem, Nat.reduceLT, Nat.reduceEqDiff, reduceCtorEq, Int.reduceLT, Int.reduceEq, hs, hb, ln6]
  obtain ⟨x, h', e1, rfl⟩ := this []
  exact ⟨h', e1⟩
theorem devrange_in {H : Type} {d0 d1 d2 : DataW H} {u0 u1 u2 : VV} (h0 : DV Proofs.Try.prog 5 d0 u0) (h1 : DV Proofs.Try.prog 3 d1 u1) (h2 : DV Proofs.Try.prog 5 d2 u2) : ∃ h', call F 7 [u0, u1, u2] [] = some (.ret (vb true), h') := by
  obtain ⟨a, rfl⟩ := DV_u8 (by kernel_rfl) h0
  obtain ⟨b, rfl, _, _⟩ := DV_i64 (by kernel_rfl) h1
  obtain ⟨v, rfl⟩ := DV_u8 (by kernel_rfl) h2
  exact devrange_f7 a b v
end Go.V04

set_option linter.unusedSimpArgs false
set_option linter.unusedVariables false
namespace Go.V04
open Go Go.Vm

/-! ### a device with a fuse -/
structure Fu (d : D) (m k : Nat) : Prop where
  ok : d.OK
  n : d.firm.length = 8
  len : d.loose.length = min k m
  left : d.left = ((m - min k m : Nat) : Int)
  w : d.w = min k m
  fused : d.fused = true
theorem Fu.write {d : D} {m k : Nat} (h : Fu d m k) (hk : k < 100) (hm70 : m < 70) {i : Nat} (hi : i < 8) {b : List UInt8} (hb : b.length ≤ 64) : Fu (d.write (i : Int) b).1 m (k + 1) ∧ (d.write (i : Int) b).2 = 0 := by
  have hh : d.has (i : Int) = true := by unfold D.has; rw [h.n]; simp; omega
  have hO := write_OK h.ok (by rw [h.w]; omega) (by rw [h.len]; omega) i b
  unfold D.write at hO ⊢
  rw [if_neg (by rw [hh]; simp), if_neg (by omega)] at hO ⊢
  by_cases hm : k < m
  · have hd : d.dark = false := by unfold D.dark; rw [h.fused, h.left]; simp; omega
    rw [if_neg (by rw [hd]; simp)] at hO ⊢
    refine ⟨⟨hO, ?_, ?_, ?_, ?_, ?_⟩, rfl⟩
    · show d.burnt.firm.length = 8
      rw [burnt_firm, h.n]
    · show (d.loose ++ _).length = _
      rw [List.length_append, h.len, List.length_singleton]; omega
    · show d.burnt.left = _
      unfold D.burnt
      rw [if_neg (by rw [hd]; simp)]
      show IntKind.i64.wrap (d.left - 1) = _
      rw [h.left]
      rw [IntWalk.i64_in _ (by omega)]; omega
    · show d.w + 1 = _
      rw [h.w]; omega
    · show d.burnt.fused = _
      rw [burnt_fused, h.fused]
  · have hd : d.dark = true := by unfold D.dark; rw [h.fused, h.left]; simp; omega
    rw [if_pos hd] at hO ⊢
    have e : min (k + 1) m = min k m := by omega
    exact ⟨⟨hO, h.n, by rw [e]; exact h.len, by rw [e]; exact h.left, by rw [e]; exact h.w, h.fused⟩, rfl⟩

theorem f6_loop {p : Nat} {f : Option Nat} {m : Nat} (hm : m < 70) (b : List UInt8) (hb : b.length ≤ 60) (u : VV) (hu : SlV 1 (eB b) u) :
    ∀ (r k : Nat) (s : List VV) (g : Heap) (l : Option Nat) (d : D) (Q : Pst), k + r = b.length → s.length = 65 → s.getD 0 .undef = u → s.getD 5 .undef = .ptr p 0 → s.getD 6 .undef = vi .i64 k → DevAt g p f l d → Fu d m k →
      (∀ s' g' l' d', s'.length = 65 → s'.getD 0 .undef = u ∧ s'.getD 1 .undef = s.getD 1 .undef ∧ s'.getD 5 .undef = .ptr p 0 → DevAt g' p f l' d' → Fu d' m b.length → Q (.exit 0) ⟨s', g'⟩) → X F (.loop f6_2) ⟨s, g⟩ Q := by
  intro r
  induction r with
  | zero =>
    intro k s g l d Q hk hs h0 h5 h6 hD hF hQ
    rw [X_loop, X_eq f6_2.eq_1]
    have c : ¬ (k : Int) < (b.length : Int) := by omega
    simp only [go_sem, Nat.reduceLT, Nat.reduceEqDiff, reduceCtorEq, Int.reduceLT, Int.reduceEq, hs, h0, h6, hu.ln, eB_len, c]
    exact hQ _ _ l d (by simp only [slot_len, hs]) ⟨by simp only [go_sem, Nat.reduceLT, Nat.reduceEqDiff, reduceCtorEq, Int.reduceLT, Int.reduceEq, h0], by simp only [go_sem, Nat.reduceLT, Nat.reduceEqDiff, reduceCtorEq, Int.reduceLT, Int.reduceEq], by simp only [go_sem, Nat.reduceLT, Nat.reduceEqDiff, reduceCtorEq, Int.reduceLT, Int.reduceEq, h5]⟩ hD (by rw [← hk]; exact hF)
  | succ r ih =>
    intro k s g l d Q hk hs h0 h5 h6 hD hF hQ
    rw [X_loop, X_eq f6_2.eq_1]
    have c : (k : Int) < (b.length : Int) := by omega
    have hkb : k < b.length := by omega
    have hke : (eB b)[(k : Int).toNat]? = some [.sc (.int .u8 (b[k]).toNat)] := eB_get (List.getElem?_eq_getElem hkb)
    have hia := hu.ia (h := g) (k := .i64) (j := (k : Int)) (by omega) hke
    obtain ⟨v', hv', hsl⟩ := hu.part (h := g) (k := .i64) (k' := .i64) (a := (k : Int)) (b := (k : Int) + 1) (by omega) (by omega) (by rw [eB_len]; omega)
    have ep : ((eB b).drop (k : Int).toNat).take (((k : Int) + 1).toNat - (k : Int).toNat) = eB [b[k]] := by
      have x1 : (k : Int).toNat = k := rfl
      have x2 : ((k : Int) + 1).toNat - (k : Int).toNat = 1 := by omega
      rw [x2, x1]
      unfold eB
      rw [← List.map_drop, List.drop_eq_getElem_cons hkb]
      rfl
    rw [ep] at hv'
    have hw : IntKind.i64.wrap ((k : Int) + 1) = ((k + 1 : Nat) : Int) := by rw [IntWalk.i64_in _ (by omega)]; omega
    have hw' : IntKind.i64.wrap ((k : Int) + 1) = (k : Int) + 1 := by rw [IntWalk.i64_in _ (by omega)]
    have rn : ((b[k]).toNat : Int).tmod 8 = (((b[k]).toNat % 8 : Nat) : Int) := rfl
    have rn' : IntKind.i64.wrap (((b[k]).toNat % 8 : Nat) : Int) = (((b[k]).toNat % 8 : Nat) : Int) := IntWalk.i64_in _ (by omega)
    have hx8 : (b[k]).toNat % 8 < 8 := by omega
    generalize hx : (b[k]).toNat % 8 = x at rn rn' hx8
    obtain ⟨F2, e2⟩ := hF.write (by omega) hm hx8 (b := [b[k]]) (by simp)
    obtain ⟨w, g2, n2, w2, l2, m2⟩ := write_f12 hD hF.ok (by rw [hF.w]; omega) (by rw [hF.len]; omega) (x : Int) [b[k]] v' hv'
    rw [e2] at w2
    subst w2
    simp only [go_sem, Nat.reduceLT, Nat.reduceEqDiff, reduceCtorEq, Int.reduceLT, Int.reduceEq, hs, h0, h5, h6, hu.ln, eB_len, c]
    refine X_draw rfl ?_
    simp only [go_sem, Nat.reduceLT, Nat.reduceEqDiff, reduceCtorEq, Int.reduceLT, Int.reduceEq, hs, h0, h5, h6, hia, rn, rn', hw']
    simp only [hsl, go_sem, Nat.reduceLT, Nat.reduceEqDiff, reduceCtorEq, Int.reduceLT, Int.reduceEq, hs]
    refine XD_callRk (by simp only [List.map, go_sem, Nat.reduceLT, Nat.reduceEqDiff, reduceCtorEq, Int.reduceLT, Int.reduceEq, hs]; exact n2) ?_
    simp only [go_sem, Nat.reduceLT, Nat.reduceEqDiff, reduceCtorEq, Int.reduceLT, Int.reduceEq, hs, h6, hw, Int.cast_ofNat_Int]
    refine ih (k + 1) _ _ l2 _ Q (by omega) (by simp only [slot_len, hs]) (by simp only [go_sem, Nat.reduceLT, Nat.reduceEqDiff, reduceCtorEq, Int.reduceLT, Int.reduceEq, h0]) (by simp only [go_sem, Nat.reduceLT, Nat.reduceEqDiff, reduceCtorEq, Int.reduceLT, Int.reduceEq, h5]) (by simp only [go_sem, Nat.reduceLT, Nat.reduceEqDiff, reduceCtorEq, Int.reduceLT, Int.reduceEq, hs]) m2.dev F2 (fun s' g' l' d' a1 a2 a3 a4 => hQ s' g' l' d' a1 ⟨a2.1, ?_, a2.2.2⟩ a3 a4)
    rw [a2.2.1]; simp only [go_sem, Nat.reduceLT, Nat.reduceEqDiff, reduceCtorEq, Int.reduceLT, Int.reduceEq]

/-- DevFuse. -/
theorem devfuse_f6 (b : List UInt8) (u : VV) (hu : SlV 1 (eB b) u) (n : UInt8) : ∃ h', call F 6 [u, vi .u8 n.toNat] [] = some (.ret (vb true), h') := by
  have : ∀ h : Heap, ∃ x h', call F 6 [u, vi .u8 n.toNat] h = some (.ret x, h') ∧ (fun x _ => x = vb true) x h' := by
    intro h
    refine call_E (fn := f6) rfl ?_
    simp only [f6]
    generalize hs0 : ([u, vi .u8 n.toNat] ++ List.replicate _ VV.undef : List VV) = s
    have hs : s.length = 65 := by rw [← hs0]; rfl
    have h0 : s.getD 0 .undef = u := by rw [← hs0]; rfl
    have h1 : s.getD 1 .undef = vi .u8 n.toNat := by rw [← hs0]; rfl
    clear hs0
    obtain ⟨hk, kn⟩ := known_f10
    simp only [go_sem, Nat.reduceLT, Nat.reduceEqDiff, reduceCtorEq, Int.reduceLT, Int.reduceEq, hs]
    rw [X_eq f6_0.eq_1]
    by_cases c : (60 : Int) < (b.length : Int)
    · simp only [go_sem, Nat.reduceLT, Nat.reduceEqDiff, reduceCtorEq, Int.reduceLT, Int.reduceEq, hs, h0, hu.ln, eB_len, c, gt_iff_lt]
      refine XO_callP (h1 := h) (by simp only [List.map, go_sem, Nat.reduceLT, Nat.reduceEqDiff, reduceCtorEq, Int.reduceLT, Int.reduceEq, hs]; rfl) kn known_res ?_
      simp only [go_sem, Nat.reduceLT, Nat.reduceEqDiff, reduceCtorEq, Int.reduceLT, Int.reduceEq, hs]
    · simp only [go_sem, Nat.reduceLT, Nat.reduceEqDiff, reduceCtorEq, Int.reduceLT, Int.reduceEq, hs, h0, hu.ln, eB_len, c, gt_iff_lt]
      obtain ⟨g1, n1, D1, L1, S1⟩ := new_f11 8 (by decide) h
      refine XO_callR (by simp only [List.map, go_sem, Nat.reduceLT, Nat.reduceEqDiff, reduceCtorEq, Int.reduceLT, Int.reduceEq, hs]; exact n1) ?_
      simp only [go_sem, Nat.reduceLT, Nat.reduceEqDiff, reduceCtorEq, Int.reduceLT, Int.reduceEq, hs]
      rw [X_eq f6_1.eq_1]
      have rn : (n.toNat : Int).tmod 70 = ((n.toNat % 70 : Nat) : Int) := rfl
      have rn' : IntKind.i64.wrap ((n.toNat % 70 : Nat) : Int) = ((n.toNat % 70 : Nat) : Int) := IntWalk.i64_in _ (by omega)
      have hm : n.toNat % 70 < 70 := by omega
      generalize hq : n.toNat % 70 = m at rn rn' hm
      simp only [go_sem, Nat.reduceLT, Nat.reduceEqDiff, reduceCtorEq, Int.reduceLT, Int.reduceEq, hs, h1, en_p, rn, rn']
      obtain ⟨v2, g2, n2, w2, l2, m2⟩ := fuse_f19 D1 (m : Int)
      refine XO_callR (by simp only [List.map, go_sem, Nat.reduceLT, Nat.reduceEqDiff, reduceCtorEq, Int.reduceLT, Int.reduceEq, hs]; exact n2) ?_
      have O2 := fuse_OK (new_OK (n := 8) (by decide)) (m : Int)
      have F2 : Fu ((newD 8).fuse m) m 0 := by
        have e : (newD 8).fuse (m : Int) = { newD 8 with fused := decide ((m : Int) ≥ 0), left := (m : Int) } := by
          unfold D.fuse; rw [if_neg (by decide)]
        rw [e] at O2 ⊢
        refine ⟨O2, by simp [newD], by simp [newD], ?_, by simp [newD], ?_⟩
        · show (m : Int) = _
          simp
        · show decide ((m : Int) ≥ 0) = true
          simp
      simp only [go_sem, Nat.reduceLT, Nat.reduceEqDiff, reduceCtorEq, Int.reduceLT, Int.reduceEq, hs]
      refine f6_loop hm b (by omega) u hu b.length 0 _ _ l2 _ _ (by omega) (by simp only [slot_len, hs]) (by simp only [go_sem, Nat.reduceLT, Nat.reduceEqDiff, reduceCtorEq, Int.reduceLT, Int.reduceEq, h0]) (by simp only [go_sem, Nat.reduceLT, Nat.reduceEqDiff, reduceCtorEq, Int.reduceLT, Int.reduceEq, hs]) (by simp only [go_sem, Nat.reduceLT, Nat.reduceEqDiff, reduceCtorEq, Int.reduceLT, Int.reduceEq, hs]; rfl) m2.dev F2 (fun s' g3 l3 d3 a1 ⟨a2, a3, a4⟩ D3 F3 => ?_)
      have a3' : s'.getD 1 .undef = vi .u8 n.toNat := by rw [a3]; simp only [go_sem, Nat.reduceLT, Nat.reduceEqDiff, reduceCtorEq, Int.reduceLT, Int.reduceEq, h1]
      clear a3
      obtain ⟨v4, g4, n4, B4⟩ := loose_f18 D3 F3.ok
      have ln4 : lnO false v4 = some (vi .i64 (min b.length m : Nat)) := by rw [B4.buf.ln, eI_len, List.length_map, F3.len]
      have D4 := D3.ext B4.ext
      obtain ⟨v5, g5, n5, w5, l5, m5⟩ := crash_f14 D4 F3.ok (b := []) (.inl ⟨rfl, rfl⟩) (by decide)
      have O5 := crash_OK F3.ok []
      have h5l : (d3.crash []).loose = [] := rfl
      have h5w : (d3.crash []).w < 280 := by show d3.w < 280; rw [F3.w]; omega
      have h5n : (d3.crash []).firm.length = 8 := by show (settleF _ 0 d3.firm d3.loose).length = 8; rw [settle_len, F3.n]
      have P5 : Pl (d3.crash []) (d3.crash []).firm [] (d3.crash []).w (d3.crash []).f := ⟨rfl, rfl, rfl, rfl, rfl⟩
      obtain ⟨v6, g6, n6, w6, l6, m6⟩ := write_f12 m5.dev O5 h5w (by rw [h5l]; decide) 0 [9] _ (sl1 9)
      have O6 := write_OK O5 h5w (by rw [h5l]; decide) 0 [9]
      have P6 := P5.write (i := 0) (b := [9]) (by omega) (by simp)
      obtain ⟨v7, g7, n7, B7⟩ := loose_f18 m6.dev O6
      have ln7 : lnO false v7 = some (vi .i64 1) := by rw [B7.buf.ln, eI_len, List.length_map]; rw [show ((d3.crash []).write 0 [9]).1.loose = _ from P6.loose]; rfl
      simp only [go_sem, Nat.reduceLT, Nat.reduceEqDiff, reduceCtorEq, Int.reduceLT, Int.reduceEq, a1, a2, a3', a4]
      refine XO_callR (by simp only [List.map, go_sem, Nat.reduceLT, Nat.reduceEqDiff, reduceCtorEq, Int.reduceLT, Int.reduceEq, a1]; exact n4) ?_
      have hmin : min (b.length : Int) (m : Int) = ((min b.length m : Nat) : Int) := by omega
      simp only [go_sem, Nat.reduceLT, Nat.reduceEqDiff, reduceCtorEq, Int.reduceLT, Int.reduceEq, a1, a2, a3', a4, ln4, hu.ln, eB_len, rn, rn', hmin]
      refine XO_callR (by simp only [List.map, go_sem, Nat.reduceLT, Nat.reduceEqDiff, reduceCtorEq, Int.reduceLT, Int.reduceEq, a1]; exact n5) ?_
      simp only [go_sem, Nat.reduceLT, Nat.reduceEqDiff, reduceCtorEq, Int.reduceLT, Int.reduceEq, a1, a2, a3', a4]
      refine XO_callR (by simp only [List.map, go_sem, Nat.reduceLT, Nat.reduceEqDiff, reduceCtorEq, Int.reduceLT, Int.reduceEq, a1]; exact n6) ?_
      simp only [go_sem, Nat.reduceLT, Nat.reduceEqDiff, reduceCtorEq, Int.reduceLT, Int.reduceEq, a1, a2, a3', a4]
      refine XO_callP (h1 := g6) (by simp only [List.map, go_sem, Nat.reduceLT, Nat.reduceEqDiff, reduceCtorEq, Int.reduceLT, Int.reduceEq, a1]; rfl) kn known_res ?_
      simp only [go_sem, Nat.reduceLT, Nat.reduceEqDiff, reduceCtorEq, Int.reduceLT, Int.reduceEq, a1, a2, a3', a4]
      refine XO_callR (by simp only [List.map, go_sem, Nat.reduceLT, Nat.reduceEqDiff, reduceCtorEq, Int.reduceLT, Int.reduceEq, a1]; exact n7) ?_
      simp only [go_sem, Nat.reduceLT, Nat.reduceEqDiff, reduceCtorEq, Int.reduceLT, Int.reduceEq, a1, ln7]
  obtain ⟨x, h', e1, rfl⟩ := this []
  exact ⟨h', e1⟩
theorem devfuse_in {H : Type} {d0 d1 : DataW H} {u0 u1 : VV} (h0 : DV Proofs.Try.prog 28 d0 u0) (h1 : DV Proofs.Try.prog 5 d1 u1) : ∃ h', call F 6 [u0, u1] [] = some (.ret (vb true), h') := by
  obtain ⟨b, hb, _⟩ := DV_bytes (e := 5) (by kernel_rfl) (by kernel_rfl) (by kernel_rfl) h0
  obtain ⟨n, rfl⟩ := DV_u8 (by kernel_rfl) h1
  exact devfuse_f6 b u0 hb n
end Go.V04

set_option linter.unusedSimpArgs false
set_option linter.unusedVariables false
namespace Go.V04
open Go Go.Vm

/-! ### what lasts -/
def pd (x : UInt8) : List UInt8 := pad [x]
def foldG (kf : Nat → Bool) (ix : UInt8 → Nat) (vl : UInt8 → UInt8) : Nat → List UInt8 → List UInt8 → List UInt8
  | _, fb, [] => fb
  | k, fb, x :: l => foldG kf ix vl (k + 1) (if kf k then fb.set (ix x) (vl x) else fb) l
theorem foldG_len {kf : Nat → Bool} {ix : UInt8 → Nat} {vl : UInt8 → UInt8} : ∀ {l : List UInt8} {k : Nat} {fb : List UInt8}, (foldG kf ix vl k fb l).length = fb.length
  | [], _, _ => rfl
  | x :: l, k, fb => by
    show (foldG kf ix vl (k + 1) (if kf k then fb.set (ix x) (vl x) else fb) l).length = _
    rw [foldG_len]
    split <;> simp
theorem foldG_snoc {kf : Nat → Bool} {ix : UInt8 → Nat} {vl : UInt8 → UInt8} {x : UInt8} : ∀ {l : List UInt8} {k : Nat} {fb : List UInt8},
    foldG kf ix vl k fb (l ++ [x]) = if kf (k + l.length) then (foldG kf ix vl k fb l).set (ix x) (vl x) else foldG kf ix vl k fb l
  | [], k, fb => rfl
  | y :: l, k, fb => by
    show foldG kf ix vl (k + 1) (if kf k then fb.set (ix y) (vl y) else fb) (l ++ [x]) = _
    rw [foldG_snoc]
    have : k + 1 + l.length = k + (y :: l).length := by simp; omega
    rw [this]
    rfl
theorem settle_fold {kf : Nat → Bool} {ix : UInt8 → Nat} {vl : UInt8 → UInt8} : ∀ {l : List UInt8} {k : Nat} {fb : List UInt8},
    settleF kf k (fb.map pd) (l.map fun x => (ix x, pd (vl x))) = (foldG kf ix vl k fb l).map pd
  | [], _, _ => rfl
  | x :: l, k, fb => by
    show settleF kf (k + 1) (if kf k then (fb.map pd).set (ix x) (pd (vl x)) else fb.map pd) (l.map fun x => (ix x, pd (vl x))) = (foldG kf ix vl (k + 1) (if kf k then fb.set (ix x) (vl x) else fb) l).map pd
    rw [← settle_fold]
    split <;> simp [List.map_set]

theorem DevAt.setBox {h : Heap} {p : Nat} {f l : Option Nat} {d : D} (hD : DevAt h p f l d) {i : Nat} {cells : List VV} {fr : Bool} (hi : h[i]? = some (.box cells fr)) (hp : i ≠ p) (o : VO) : DevAt (h.set i o) p f l d := by
  obtain ⟨vf, vl, h1, h2, h3⟩ := hD
  refine ⟨vf, vl, by rw [List.getElem?_set_ne hp]; exact h1, ?_, ?_⟩
  · rcases h2 with ⟨id, g, ex, a1, a2, a3⟩ | e
    · exact .inl ⟨id, g, ex, a1, a2, by rw [List.getElem?_set_ne (by rintro rfl; rw [hi] at a3; cases a3)]; exact a3⟩
    · exact .inr e
  · rcases h3 with ⟨id, g, a1, a2, a4, a3⟩ | e
    · exact .inl ⟨id, g, a1, a2, a4, by rw [List.getElem?_set_ne (by rintro rfl; rw [hi] at a3; cases a3)]; exact a3⟩
    · exact .inr e

theorem st_fb {h : Heap} {bx j : Nat} {fb : List UInt8} {x : UInt8} (hb : h[bx]? = some (.box ((cB fb).map .cv) false)) (hj : j < fb.length) :
    stO h 1 (.ptr bx j) (vi .u8 x.toNat) = some (.undef, h.set bx (.box ((cB (fb.set j x)).map .cv) false)) := by
  rw [st_1 rfl hb (by simp [cB_len]; exact hj)]
  simp [cB, List.map_set]

theorem ld_sl {b : List UInt8} {u : VV} (hu : SlV 1 (eB b) u) (g : Heap) {k : Nat} (hk : k < b.length) : iaO g 1 u (vi .i64 k) = some (.rptr [.sc (.int .u8 (b[k]).toNat)], g) :=
  hu.ia (h := g) (k := .i64) (j := (k : Int)) (by omega) (eB_get (List.getElem?_eq_getElem hk))

theorem xor255 (x : UInt8) : bits .xor .u8 (x.toNat : Int) 255 = ((x ^^^ 255).toNat : Int) := by
  have : ∀ n : Fin 256, bits .xor .u8 (n.val : Int) 255 = (((UInt8.ofNat n.val) ^^^ 255).toNat : Int) := by decide +kernel
  have := this ⟨x.toNat, x.toNat_lt⟩
  simpa using this

def w1 (x : UInt8) : Nat × List UInt8 := (x.toNat % 8, pd x)
def w2 (x : UInt8) : Nat × List UInt8 := (x.toNat / 8 % 8, pd (x ^^^ 255))
def fold1 (l : List UInt8) : List UInt8 := foldG (fun _ => true) (fun x => x.toNat % 8) (fun x => x) 0 (List.replicate 8 0) l
theorem fold1_len {l : List UInt8} : (fold1 l).length = 8 := by unfold fold1; rw [foldG_len]; simp
theorem fold1_snoc {l : List UInt8} {x : UInt8} : fold1 (l ++ [x]) = (fold1 l).set (x.toNat % 8) x := by
  unfold fold1; rw [foldG_snoc]; rfl

theorem f5_loop1 {p bx : Nat} (hpb : bx ≠ p) {f : Option Nat} (b : List UInt8) (hb : b.length ≤ 60) (u : VV) (hu : SlV 1 (eB b) u) :
    ∀ (r : List UInt8) (done : List UInt8) (s : List VV) (g : Heap) (l : Option Nat) (d : D) (Q : Pst), b = done ++ r → s.length = 134 → s.getD 0 .undef = u → s.getD 5 .undef = .ptr p 0 → s.getD 6 .undef = .ptr bx 0 → s.getD 7 .undef = vi .i64 done.length →
      DevAt g p f l d → d.OK → Pl d (List.replicate 8 z64) (done.map w1) done.length 0 → g[bx]? = some (.box ((cB (fold1 done)).map .cv) false) →
      (∀ s' g' l' d', s'.length = 134 → s'.getD 0 .undef = u ∧ s'.getD 1 .undef = s.getD 1 .undef ∧ s'.getD 5 .undef = .ptr p 0 ∧ s'.getD 6 .undef = .ptr bx 0 → DevAt g' p f l' d' → d'.OK → Pl d' (List.replicate 8 z64) (b.map w1) b.length 0 → g'[bx]? = some (.box ((cB (fold1 b)).map .cv) false) → Q (.exit 0) ⟨s', g'⟩) → X F (.loop f5_2) ⟨s, g⟩ Q := by
  intro r
  induction r with
  | nil =>
    intro done s g l d Q hk hs h0 h5 h6 h7 hD hO hP hB hQ
    rw [X_loop, X_eq f5_2.eq_1]
    have e : b = done := by rw [hk]; simp
    have c : ¬ (done.length : Int) < (b.length : Int) := by rw [e]; omega
    simp only [go_sem, Nat.reduceLT, Nat.reduceEqDiff, reduceCtorEq, Int.reduceLT, Int.reduceEq, hs, h0, h7, hu.ln, eB_len, c]
    exact hQ _ _ l d (by simp only [slot_len, hs]) ⟨by simp only [go_sem, Nat.reduceLT, Nat.reduceEqDiff, reduceCtorEq, Int.reduceLT, Int.reduceEq, h0], by simp only [go_sem, Nat.reduceLT, Nat.reduceEqDiff, reduceCtorEq, Int.reduceLT, Int.reduceEq], by simp only [go_sem, Nat.reduceLT, Nat.reduceEqDiff, reduceCtorEq, Int.reduceLT, Int.reduceEq, h5], by simp only [go_sem, Nat.reduceLT, Nat.reduceEqDiff, reduceCtorEq, Int.reduceLT, Int.reduceEq, h6]⟩ hD hO (by rw [e]; exact hP) (by rw [e]; exact hB)
  | cons x r ih =>
    intro done s g l d Q hk hs h0 h5 h6 h7 hD hO hP hB hQ
    rw [X_loop, X_eq f5_2.eq_1]
    have hlen : b.length = done.length + (r.length + 1) := by rw [hk]; simp
    have c : (done.length : Int) < (b.length : Int) := by omega
    have hkb : done.length < b.length := by omega
    have hbx : b[done.length] = x := by simp [hk]
    have hia : ∀ g, iaO g 1 u (vi .i64 done.length) = some (.rptr [.sc (.int .u8 x.toNat)], g) := fun g => by rw [ld_sl hu g hkb, hbx]
    have hw : IntKind.i64.wrap ((done.length : Int) + 1) = ((done ++ [x]).length : Int) := by rw [IntWalk.i64_in _ (by omega)]; simp
    have rn : (x.toNat : Int).tmod 8 = ((x.toNat % 8 : Nat) : Int) := rfl
    have rn' : IntKind.i64.wrap ((x.toNat % 8 : Nat) : Int) = ((x.toNat % 8 : Nat) : Int) := IntWalk.i64_in _ (by omega)
    have hx8 : x.toNat % 8 < 8 := by omega
    have hdw : d.w < 280 := by rw [hP.w]; omega
    have hdl : d.loose.length < 190 := by rw [hP.loose, List.length_map]; omega
    obtain ⟨w, g2, n2, w2, l2, m2⟩ := write_f12 hD hO hdw hdl ((x.toNat % 8 : Nat) : Int) [x] _ (sl1 x)
    have O2 := write_OK hO hdw hdl ((x.toNat % 8 : Nat) : Int) [x]
    have P2 := hP.write (i := x.toNat % 8) (b := [x]) (by simp; omega) (by simp)
    have B2 := m2.kept.box hD hB hpb
    have hst := st_fb (x := x) (j := x.toNat % 8) B2 (by rw [fold1_len]; omega)
    have hia2 : iaAO 8 1 (.ptr bx 0) (vi .u8 ((x.toNat % 8 : Nat) : Int)) = some (.ptr bx (x.toNat % 8)) := by
      rw [iaA_p hx8]; simp
    have D3 := m2.dev.setBox B2 hpb (.box ((cB ((fold1 done).set (x.toNat % 8) x)).map .cv) false)
    simp only [go_sem, Nat.reduceLT, Nat.reduceEqDiff, reduceCtorEq, Int.reduceLT, Int.reduceEq, hs, h0, h5, h7, hu.ln, eB_len, c]
    refine X_draw rfl ?_
    simp only [go_sem, Nat.reduceLT, Nat.reduceEqDiff, reduceCtorEq, Int.reduceLT, Int.reduceEq, hs, h0, h5, h7, hia, rn, rn']
    refine XD_callRk (by simp only [List.map, go_sem, Nat.reduceLT, Nat.reduceEqDiff, reduceCtorEq, Int.reduceLT, Int.reduceEq, hs]; exact n2) ?_
    simp only [go_sem, Nat.reduceLT, Nat.reduceEqDiff, reduceCtorEq, Int.reduceLT, Int.reduceEq, hs]
    refine X_draw rfl ?_
    simp only [go_sem, Nat.reduceLT, Nat.reduceEqDiff, reduceCtorEq, Int.reduceLT, Int.reduceEq, hs, h0, h6, h7, hia, rn, rn', hia2, hst, hw]
    refine ih (done ++ [x]) _ _ l2 _ Q (by rw [hk]; simp) (by simp only [slot_len, hs]) (by simp only [go_sem, Nat.reduceLT, Nat.reduceEqDiff, reduceCtorEq, Int.reduceLT, Int.reduceEq, h0]) (by simp only [go_sem, Nat.reduceLT, Nat.reduceEqDiff, reduceCtorEq, Int.reduceLT, Int.reduceEq, h5]) (by simp only [go_sem, Nat.reduceLT, Nat.reduceEqDiff, reduceCtorEq, Int.reduceLT, Int.reduceEq, h6]) (by simp only [go_sem, Nat.reduceLT, Nat.reduceEqDiff, reduceCtorEq, Int.reduceLT, Int.reduceEq, hs]) D3 O2 ?_ ?_ (fun s' g' l' d' a1 a2 a3 a4 => hQ s' g' l' d' a1 ⟨a2.1, ?_, a2.2.2⟩ a3 a4)
    · have : (done ++ [x]).length = done.length + 1 := by simp
      rw [this, List.map_append]; exact P2
    · rw [List.getElem?_set_self (lt_of_get B2), fold1_snoc]
    · rw [a2.2.1]; simp only [go_sem, Nat.reduceLT, Nat.reduceEqDiff, reduceCtorEq, Int.reduceLT, Int.reduceEq]
end Go.V04

set_option linter.unusedSimpArgs false
set_option linter.unusedVariables false
namespace Go.V04
open Go Go.Vm

def fold2 (kp : List Bool) (fb l : List UInt8) : List UInt8 := foldG (keepF kp) (fun x => x.toNat / 8 % 8) (fun x => x ^^^ 255) 0 fb l
theorem fold2_len {kp : List Bool} {fb l : List UInt8} : (fold2 kp fb l).length = fb.length := by unfold fold2; rw [foldG_len]
theorem fold2_snoc {kp : List Bool} {fb l : List UInt8} {x : UInt8} : fold2 kp fb (l ++ [x]) = if keepF kp l.length then (fold2 kp fb l).set (x.toNat / 8 % 8) (x ^^^ 255) else fold2 kp fb l := by
  unfold fold2; rw [foldG_snoc, Nat.zero_add]

theorem f5_loop2 {p bx : Nat} (hpb : bx ≠ p) {f : Option Nat} (b : List UInt8) (hb : b.length ≤ 60) (u : VV) (hu : SlV 1 (eB b) u) (kp : List Bool) (uk : VV) (huk : SlV 1 (eBool kp) uk) (fb : List UInt8) (hfb : fb.length = 8) (FM : List (List UInt8)) (hFM : FM.length = 8) :
    ∀ (r : List UInt8) (done : List UInt8) (s : List VV) (g : Heap) (l : Option Nat) (d : D) (Q : Pst), b = done ++ r → s.length = 134 → s.getD 0 .undef = u → s.getD 1 .undef = uk → s.getD 5 .undef = .ptr p 0 → s.getD 6 .undef = .ptr bx 0 → s.getD 8 .undef = vi .i64 done.length →
      DevAt g p f l d → d.OK → Pl d FM (done.map w2) (b.length + done.length) 1 → g[bx]? = some (.box ((cB (fold2 kp fb done)).map .cv) false) →
      (∀ s' g' l' d', s'.length = 134 → s'.getD 0 .undef = u ∧ s'.getD 1 .undef = uk ∧ s'.getD 5 .undef = .ptr p 0 ∧ s'.getD 6 .undef = .ptr bx 0 → DevAt g' p f l' d' → d'.OK → Pl d' FM (b.map w2) (b.length + b.length) 1 → g'[bx]? = some (.box ((cB (fold2 kp fb b)).map .cv) false) → Q (.exit 2) ⟨s', g'⟩) → X F (.loop f5_3) ⟨s, g⟩ Q := by
  intro r
  induction r with
  | nil =>
    intro done s g l d Q hk hs h0 h1 h5 h6 h8 hD hO hP hB hQ
    rw [X_loop, X_eq f5_3.eq_1]
    have e : b = done := by rw [hk]; simp
    have c : ¬ (done.length : Int) < (b.length : Int) := by rw [e]; omega
    simp only [go_sem, Nat.reduceLT, Nat.reduceEqDiff, reduceCtorEq, Int.reduceLT, Int.reduceEq, hs, h0, h8, hu.ln, eB_len, c]
    exact hQ _ _ l d (by simp only [slot_len, hs]) ⟨by simp only [go_sem, Nat.reduceLT, Nat.reduceEqDiff, reduceCtorEq, Int.reduceLT, Int.reduceEq, h0], by simp only [go_sem, Nat.reduceLT, Nat.reduceEqDiff, reduceCtorEq, Int.reduceLT, Int.reduceEq, h1], by simp only [go_sem, Nat.reduceLT, Nat.reduceEqDiff, reduceCtorEq, Int.reduceLT, Int.reduceEq, h5], by simp only [go_sem, Nat.reduceLT, Nat.reduceEqDiff, reduceCtorEq, Int.reduceLT, Int.reduceEq, h6]⟩ hD hO (by rw [← e] at hP; exact hP) (by rw [e]; exact hB)
  | cons x r ih =>
    intro done s g l d Q hk hs h0 h1 h5 h6 h8 hD hO hP hB hQ
    rw [X_loop, X_eq f5_3.eq_1]
    have hlen : b.length = done.length + (r.length + 1) := by rw [hk]; simp
    have c : (done.length : Int) < (b.length : Int) := by omega
    have hkb : done.length < b.length := by omega
    have hbx : b[done.length] = x := by simp [hk]
    have hia : ∀ g, iaO g 1 u (vi .i64 done.length) = some (.rptr [.sc (.int .u8 x.toNat)], g) := fun g => by rw [ld_sl hu g hkb, hbx]
    have hw : IntKind.i64.wrap ((done.length : Int) + 1) = ((done ++ [x]).length : Int) := by rw [IntWalk.i64_in _ (by omega)]; simp
    have hx := x.toNat_lt
    have rq : IntKind.u8.wrap ((x.toNat : Int).tdiv 8) = ((x.toNat / 8 : Nat) : Int) := by
      rw [show (x.toNat : Int).tdiv 8 = ((x.toNat / 8 : Nat) : Int) from rfl]; exact IntWalk.u8_in _ (by omega)
    have rn : ((x.toNat / 8 : Nat) : Int).tmod 8 = ((x.toNat / 8 % 8 : Nat) : Int) := rfl
    have rn' : IntKind.i64.wrap ((x.toNat / 8 % 8 : Nat) : Int) = ((x.toNat / 8 % 8 : Nat) : Int) := IntWalk.i64_in _ (by omega)
    have hx8 : x.toNat / 8 % 8 < 8 := by omega
    have rx := xor255 x
    have hdw : d.w < 280 := by rw [hP.w]; omega
    have hdl : d.loose.length < 190 := by rw [hP.loose, List.length_map]; omega
    obtain ⟨w, g2, n2, w2_, l2, m2⟩ := write_f12 hD hO hdw hdl ((x.toNat / 8 % 8 : Nat) : Int) [x ^^^ 255] _ (sl1 (x ^^^ 255))
    have O2 := write_OK hO hdw hdl ((x.toNat / 8 % 8 : Nat) : Int) [x ^^^ 255]
    have P2 := hP.write (i := x.toNat / 8 % 8) (b := [x ^^^ 255]) (by omega) (by simp)
    have P3 : Pl (d.write ((x.toNat / 8 % 8 : Nat) : Int) [x ^^^ 255]).1 FM ((done ++ [x]).map w2) (b.length + (done ++ [x]).length) 1 := by
      have : (done ++ [x]).length = done.length + 1 := by simp
      rw [this, List.map_append]; exact P2
    have B2 := m2.kept.box hD hB hpb
    simp only [go_sem, Nat.reduceLT, Nat.reduceEqDiff, reduceCtorEq, Int.reduceLT, Int.reduceEq, hs, h0, h5, h8, hu.ln, eB_len, c]
    refine X_draw rfl ?_
    simp only [go_sem, Nat.reduceLT, Nat.reduceEqDiff, reduceCtorEq, Int.reduceLT, Int.reduceEq, hs, h0, h5, h8, hia, rq, rn, rn', bin_xor, rx]
    refine XD_callRk (by simp only [List.map, go_sem, Nat.reduceLT, Nat.reduceEqDiff, reduceCtorEq, Int.reduceLT, Int.reduceEq, hs]; exact n2) ?_
    have no : keepF kp done.length = false → ∀ s', s'.length = 134 → s'.getD 0 .undef = u ∧ s'.getD 1 .undef = uk ∧ s'.getD 5 .undef = .ptr p 0 ∧ s'.getD 6 .undef = .ptr bx 0 ∧ s'.getD 8 .undef = vi .i64 (done ++ [x]).length → X F (.loop f5_3) ⟨s', g2⟩ Q := by
      intro hkf s' hs' ⟨a0, a1, a5, a6, a8⟩
      exact ih (done ++ [x]) s' g2 l2 _ Q (by rw [hk]; simp) hs' a0 a1 a5 a6 a8 m2.dev O2 P3 (by rw [fold2_snoc, hkf, if_neg (by simp)]; exact B2) hQ
    by_cases ck : done.length < kp.length
    · have ck' : (done.length : Int) < (kp.length : Int) := by omega
      have hka : ∀ g, iaO g 1 uk (vi .i64 done.length) = some (.rptr [.sc (.bool kp[done.length])], g) := fun g => huk.ia (h := g) (k := .i64) (j := (done.length : Int)) (by omega) (by show (eBool kp)[done.length]? = _; simp [eBool, ck])
      have hkf : keepF kp done.length = kp[done.length] := by unfold keepF; rw [List.getD_eq_getElem?_getD, List.getElem?_eq_getElem ck]; rfl
      cases hkb2 : kp[done.length] with
      | false =>
        rw [hkb2] at hka hkf
        simp only [go_sem, Nat.reduceLT, Nat.reduceEqDiff, reduceCtorEq, Int.reduceLT, Int.reduceEq, hs, h1, h8, huk.ln, eBool_len, ck', hka, hw]
        exact no hkf _ (by simp only [slot_len, hs]) ⟨by simp only [go_sem, Nat.reduceLT, Nat.reduceEqDiff, reduceCtorEq, Int.reduceLT, Int.reduceEq, h0], by simp only [go_sem, Nat.reduceLT, Nat.reduceEqDiff, reduceCtorEq, Int.reduceLT, Int.reduceEq, h1], by simp only [go_sem, Nat.reduceLT, Nat.reduceEqDiff, reduceCtorEq, Int.reduceLT, Int.reduceEq, h5], by simp only [go_sem, Nat.reduceLT, Nat.reduceEqDiff, reduceCtorEq, Int.reduceLT, Int.reduceEq, h6], by simp only [go_sem, Nat.reduceLT, Nat.reduceEqDiff, reduceCtorEq, Int.reduceLT, Int.reduceEq, hs]⟩
      | true =>
        rw [hkb2] at hka hkf
        have hst := st_fb (x := x ^^^ 255) (j := x.toNat / 8 % 8) B2 (by rw [fold2_len]; omega)
        have hia2 : iaAO 8 1 (.ptr bx 0) (vi .u8 ((x.toNat / 8 % 8 : Nat) : Int)) = some (.ptr bx (x.toNat / 8 % 8)) := by
          rw [iaA_p hx8]; simp
        have D3 := m2.dev.setBox B2 hpb (.box ((cB ((fold2 kp fb done).set (x.toNat / 8 % 8) (x ^^^ 255))).map .cv) false)
        simp only [go_sem, Nat.reduceLT, Nat.reduceEqDiff, reduceCtorEq, Int.reduceLT, Int.reduceEq, hs, h1, h8, huk.ln, eBool_len, ck', hka]
        refine X_draw rfl ?_
        simp only [go_sem, Nat.reduceLT, Nat.reduceEqDiff, reduceCtorEq, Int.reduceLT, Int.reduceEq, hs, h0, h6, h8, hia, rq, rn, bin_xor, rx, hia2, hst, hw]
        exact ih (done ++ [x]) _ _ l2 _ Q (by rw [hk]; simp) (by simp only [slot_len, hs]) (by simp only [go_sem, Nat.reduceLT, Nat.reduceEqDiff, reduceCtorEq, Int.reduceLT, Int.reduceEq, h0]) (by simp only [go_sem, Nat.reduceLT, Nat.reduceEqDiff, reduceCtorEq, Int.reduceLT, Int.reduceEq, h1]) (by simp only [go_sem, Nat.reduceLT, Nat.reduceEqDiff, reduceCtorEq, Int.reduceLT, Int.reduceEq, h5]) (by simp only [go_sem, Nat.reduceLT, Nat.reduceEqDiff, reduceCtorEq, Int.reduceLT, Int.reduceEq, h6]) (by simp only [go_sem, Nat.reduceLT, Nat.reduceEqDiff, reduceCtorEq, Int.reduceLT, Int.reduceEq, hs]) D3 O2 P3 (by rw [List.getElem?_set_self (lt_of_get B2), fold2_snoc, hkf, if_pos rfl]) hQ
    · have ck' : ¬ (done.length : Int) < (kp.length : Int) := by omega
      have hkf : keepF kp done.length = false := by unfold keepF; rw [List.getD_eq_getElem?_getD, List.getElem?_eq_none (by omega)]; rfl
      simp only [go_sem, Nat.reduceLT, Nat.reduceEqDiff, reduceCtorEq, Int.reduceLT, Int.reduceEq, hs, h1, h8, huk.ln, eBool_len, ck', hw]
      exact no hkf _ (by simp only [slot_len, hs]) ⟨by simp only [go_sem, Nat.reduceLT, Nat.reduceEqDiff, reduceCtorEq, Int.reduceLT, Int.reduceEq, h0], by simp only [go_sem, Nat.reduceLT, Nat.reduceEqDiff, reduceCtorEq, Int.reduceLT, Int.reduceEq, h1], by simp only [go_sem, Nat.reduceLT, Nat.reduceEqDiff, reduceCtorEq, Int.reduceLT, Int.reduceEq, h5], by simp only [go_sem, Nat.reduceLT, Nat.reduceEqDiff, reduceCtorEq, Int.reduceLT, Int.reduceEq, h6], by simp only [go_sem, Nat.reduceLT, Nat.reduceEqDiff, reduceCtorEq, Int.reduceLT, Int.reduceEq, hs]⟩

theorem f5_loop3 {p bx : Nat} {f l : Option Nat} {d : D} (hO : d.OK) (fb : List UInt8) (hfb : fb.length = 8) {w ff : Nat} (hP : Pl d (fb.map pd) [] w ff) :
    ∀ (r k : Nat) (s : List VV) (g : Heap) (Q : Pst), k + r = 8 → s.length = 134 → s.getD 5 .undef = .ptr p 0 → s.getD 6 .undef = .ptr bx 0 → s.getD 9 .undef = vi .i64 k →
      DevAt g p f l d → g[bx]? = some (.box ((cB fb).map .cv) false) →
      (∀ s' g', s'.length = 134 → s'.getD 5 .undef = .ptr p 0 → DevAt g' p f l d → Q (.exit 4) ⟨s', g'⟩) → X F (.loop f5_4) ⟨s, g⟩ Q := by
  intro r
  induction r with
  | zero =>
    intro k s g Q hk hs h5 h6 h9 hD hB hQ
    rw [X_loop, X_eq f5_4.eq_1]
    have c : ¬ (k : Int) < 8 := by omega
    simp only [go_sem, Nat.reduceLT, Nat.reduceEqDiff, reduceCtorEq, Int.reduceLT, Int.reduceEq, hs, h9, c]
    exact hQ _ _ (by simp only [slot_len, hs]) (by simp only [go_sem, Nat.reduceLT, Nat.reduceEqDiff, reduceCtorEq, Int.reduceLT, Int.reduceEq, h5]) hD
  | succ r ih =>
    intro k s g Q hk hs h5 h6 h9 hD hB hQ
    rw [X_loop, X_eq f5_4.eq_1]
    have c : (k : Int) < 8 := by omega
    have hk8 : k < fb.length := by omega
    obtain ⟨v1, g1, c1, r1⟩ := read_f15 hD hO (k : Int)
    obtain ⟨o1, w1, b1⟩ := r1.yes (hP.has (by simp; omega))
    subst w1
    have ecell : d.cell (k : Int).toNat = pd fb[k] := by
      show d.cell k = _
      unfold D.cell; rw [hP.loose, hP.firm]
      show (fb.map pd).getD k [] = _
      simp [hk8]
    rw [ecell] at b1
    obtain ⟨x1, y1, z1⟩ := b1.at_ (j := 0) (x := fb[k]) (by unfold pd pad; rfl)
    have y1' : iaO g1 1 o1 (vi .i64 0) = some (x1, g1) := y1
    have ln1 : lnO false o1 = some (vi .i64 64) := by rw [b1.ln, show (pd fb[k]).length = 64 from pad_len (by simp)]; rfl
    have B1 := r1.ext.get hB
    have hld : ldO g1 false 1 (.ptr bx k) = some (vi .u8 fb[k].toNat, g1) := ld_ptr B1 (by simp [cB, hk8])
    have hia2 : iaAO 8 1 (.ptr bx 0) (vi .i64 (k : Int)) = some (.ptr bx k) := by
      rw [iaA_p (by omega)]; simp
    have hw : IntKind.i64.wrap ((k : Int) + 1) = ((k + 1 : Nat) : Int) := by rw [IntWalk.i64_in _ (by omega)]; omega
    simp only [go_sem, Nat.reduceLT, Nat.reduceEqDiff, reduceCtorEq, Int.reduceLT, Int.reduceEq, hs, h5, h9, c]
    refine XO_callR (by simp only [List.map, go_sem, Nat.reduceLT, Nat.reduceEqDiff, reduceCtorEq, Int.reduceLT, Int.reduceEq, hs]; exact c1) ?_
    simp only [go_sem, Nat.reduceLT, Nat.reduceEqDiff, reduceCtorEq, Int.reduceLT, Int.reduceEq, hs]
    refine X_draw rfl ?_
    simp only [go_sem, Nat.reduceLT, Nat.reduceEqDiff, reduceCtorEq, Int.reduceLT, Int.reduceEq, hs, h6, h9, ln1, y1', z1, hia2, hld, hw, Int.cast_ofNat_Int, Int.ofNat_zero]
    exact ih (k + 1) _ _ Q (by omega) (by simp only [slot_len, hs]) (by simp only [go_sem, Nat.reduceLT, Nat.reduceEqDiff, reduceCtorEq, Int.reduceLT, Int.reduceEq, h5]) (by simp only [go_sem, Nat.reduceLT, Nat.reduceEqDiff, reduceCtorEq, Int.reduceLT, Int.reduceEq, h6]) (by simp only [go_sem, Nat.reduceLT, Nat.reduceEqDiff, reduceCtorEq, Int.reduceLT, Int.reduceEq, hs]) (hD.ext r1.ext) B1 hQ
end Go.V04

set_option linter.unusedSimpArgs false
set_option linter.unusedVariables false
namespace Go.V04
open Go Go.Vm

section
variable {H : Type} {P : Program} {t e : TypeId} {d : DataW H} {u : VV} {cs : List CV} {n : Nat}
/-- Truth values in a cell. -/
theorem DR_bools (hu : P.underlying t = some (.slice e)) (he : P.underlying e = some .bool) (hc : P.cellsOf e = 1) (h : DR P (n + 2) t d cs) : ∃ (l : List Bool) (c : CV), cs = [c] ∧ SlV 1 (eBool l) (.cv c) ∧ l.length ≤ maxLen := by
  rcases DR_slice hu h with ⟨rfl, rfl⟩ | ⟨ds, rest, els, rfl, rfl, h1, h2, h3⟩
  · exact ⟨[], _, rfl, .inl ⟨rfl, rfl⟩, by simp⟩
  · have key : ∀ el ∈ els, ∃ b : Bool, el = [.sc (.bool b)] := by
      intro el hel
      obtain ⟨i, hi⟩ := List.getElem?_of_mem hel
      have hlt : i < ds.length := by rw [← h1]; exact (List.getElem?_eq_some_iff.1 hi).1
      obtain ⟨h4, h5⟩ := h3 i el _ hi (List.getElem?_eq_getElem hlt)
      obtain ⟨x, _, rfl⟩ := DR_bool he h5
      exact ⟨x, rfl⟩
    have all : ∀ els : List (List CV), (∀ el ∈ els, ∃ b : Bool, el = [.sc (.bool b)]) → ∃ l : List Bool, els = eBool l := by
      intro els
      induction els with
      | nil => exact fun _ => ⟨[], rfl⟩
      | cons x r ih =>
        intro hk
        obtain ⟨b, rfl⟩ := hk x (by simp)
        obtain ⟨l, rfl⟩ := ih fun el hel => hk el (by simp [hel])
        exact ⟨b :: l, rfl⟩
    obtain ⟨l, rfl⟩ := all els key
    rw [eBool_len] at h1 h2
    rw [hc]
    exact ⟨l, _, rfl, .inr ⟨_, rfl⟩, h2⟩
theorem DV_bools (hu : P.underlying t = some (.slice e)) (he : P.underlying e = some .bool) (hc : P.cellsOf e = 1) (h : DV P t d u) : ∃ l : List Bool, SlV 1 (eBool l) u ∧ l.length ≤ maxLen := by
  obtain ⟨c, h1, rfl⟩ := DV_plain (by simp only [isStr, hu]) h
  obtain ⟨l, c', h2, h3, h4⟩ := DR_bools hu he hc h1
  cases h2
  exact ⟨l, h3, h4⟩
end

/-- DevLasts. -/
theorem devlasts_f5 (b : List UInt8) (u : VV) (hu : SlV 1 (eB b) u) (kp : List Bool) (uk : VV) (huk : SlV 1 (eBool kp) uk) (hkl : kp.length ≤ maxLen) : ∃ h', call F 5 [u, uk] [] = some (.ret (vb true), h') := by
  have : ∀ h : Heap, ∃ x h', call F 5 [u, uk] h = some (.ret x, h') ∧ (fun x _ => x = vb true) x h' := by
    intro h
    refine call_E (fn := f5) rfl ?_
    simp only [f5]
    generalize hs0 : ([u, uk] ++ List.replicate _ VV.undef : List VV) = s
    have hs : s.length = 134 := by rw [← hs0]; rfl
    have h0 : s.getD 0 .undef = u := by rw [← hs0]; rfl
    have h1 : s.getD 1 .undef = uk := by rw [← hs0]; rfl
    clear hs0
    obtain ⟨hk, kn⟩ := known_f10
    simp only [go_sem, Nat.reduceLT, Nat.reduceEqDiff, reduceCtorEq, Int.reduceLT, Int.reduceEq, hs]
    rw [X_eq f5_0.eq_1]
    by_cases c : (60 : Int) < (b.length : Int)
    · simp only [go_sem, Nat.reduceLT, Nat.reduceEqDiff, reduceCtorEq, Int.reduceLT, Int.reduceEq, hs, h0, hu.ln, eB_len, c, gt_iff_lt]
      refine XO_callP (h1 := h) (by simp only [List.map, go_sem, Nat.reduceLT, Nat.reduceEqDiff, reduceCtorEq, Int.reduceLT, Int.reduceEq, hs]; rfl) kn known_res ?_
      simp only [go_sem, Nat.reduceLT, Nat.reduceEqDiff, reduceCtorEq, Int.reduceLT, Int.reduceEq, hs]
    · by_cases c2 : (80 : Int) < (kp.length : Int)
      · simp only [go_sem, Nat.reduceLT, Nat.reduceEqDiff, reduceCtorEq, Int.reduceLT, Int.reduceEq, hs, h0, h1, hu.ln, huk.ln, eB_len, eBool_len, c, c2, gt_iff_lt]
        refine XO_callP (h1 := h) (by simp only [List.map, go_sem, Nat.reduceLT, Nat.reduceEqDiff, reduceCtorEq, Int.reduceLT, Int.reduceEq, hs]; rfl) kn known_res ?_
        simp only [go_sem, Nat.reduceLT, Nat.reduceEqDiff, reduceCtorEq, Int.reduceLT, Int.reduceEq, hs]
      · simp only [go_sem, Nat.reduceLT, Nat.reduceEqDiff, reduceCtorEq, Int.reduceLT, Int.reduceEq, hs, h0, h1, hu.ln, huk.ln, eB_len, eBool_len, c, c2, gt_iff_lt]
        obtain ⟨g1, n1, D1, L1, S1⟩ := new_f11 8 (by decide) h
        refine XO_callR (by simp only [List.map, go_sem, Nat.reduceLT, Nat.reduceEqDiff, reduceCtorEq, Int.reduceLT, Int.reduceEq, hs]; exact n1) ?_
        simp only [go_sem, Nat.reduceLT, Nat.reduceEqDiff, reduceCtorEq, Int.reduceLT, Int.reduceEq, hs]
        rw [X_eq f5_1.eq_1]
        have lt1 := D1.lt.1
        generalize hp : h.length + 1 = p at *
        simp only [go_sem, Nat.reduceLT, Nat.reduceEqDiff, reduceCtorEq, Int.reduceLT, Int.reduceEq, hs, en_p]
        have hpb : g1.length ≠ p := by omega
        have ez : (List.replicate 8 (0 : UInt8)).map pd = List.replicate 8 z64 := by decide
        refine f5_loop1 hpb b (by omega) u hu b [] _ _ none _ _ rfl (by simp only [slot_len, hs]) (by simp only [go_sem, Nat.reduceLT, Nat.reduceEqDiff, reduceCtorEq, Int.reduceLT, Int.reduceEq, h0]) (by simp only [go_sem, Nat.reduceLT, Nat.reduceEqDiff, reduceCtorEq, Int.reduceLT, Int.reduceEq, hs]) (by simp only [go_sem, Nat.reduceLT, Nat.reduceEqDiff, reduceCtorEq, Int.reduceLT, Int.reduceEq, hs]) (by simp only [go_sem, Nat.reduceLT, Nat.reduceEqDiff, reduceCtorEq, Int.reduceLT, Int.reduceEq, hs]; rfl) (D1.push _) (new_OK (by decide)) (Pl.new 8) at_last (fun s2 g2 l2 d2 a1 a2 D2 O2 P2 B2 => ?_)
        obtain ⟨a0, a1', a5, a6⟩ := a2
        have a1'' : s2.getD 1 .undef = uk := by rw [a1']; simp only [go_sem, Nat.reduceLT, Nat.reduceEqDiff, reduceCtorEq, Int.reduceLT, Int.reduceEq, h1]
        clear a1'
        obtain ⟨v3, g3, n3, w3, l3, m3⟩ := flush_f13 D2 O2 (by rw [P2.f]; decide)
        have O3 := flush_OK O2 (by rw [P2.f]; decide)
        have P3 := P2.flush
        have eS : settleF (fun _ => true) 0 (List.replicate 8 z64) (b.map w1) = (fold1 b).map pd := by
          rw [← ez]; exact settle_fold
        rw [eS] at P3
        have B3 := m3.kept.box D2 B2 hpb
        simp only [go_sem, Nat.reduceLT, Nat.reduceEqDiff, reduceCtorEq, Int.reduceLT, Int.reduceEq, a1, a5]
        refine XO_callR (by simp only [List.map, go_sem, Nat.reduceLT, Nat.reduceEqDiff, reduceCtorEq, Int.reduceLT, Int.reduceEq, a1]; exact n3) ?_
        simp only [go_sem, Nat.reduceLT, Nat.reduceEqDiff, reduceCtorEq, Int.reduceLT, Int.reduceEq, a1]
        refine f5_loop2 hpb b (by omega) u hu kp uk huk (fold1 b) fold1_len ((fold1 b).map pd) (by rw [List.length_map, fold1_len]) b [] _ _ l3 _ _ rfl (by simp only [slot_len, a1]) (by simp only [go_sem, Nat.reduceLT, Nat.reduceEqDiff, reduceCtorEq, Int.reduceLT, Int.reduceEq, a0]) (by simp only [go_sem, Nat.reduceLT, Nat.reduceEqDiff, reduceCtorEq, Int.reduceLT, Int.reduceEq, a1'']) (by simp only [go_sem, Nat.reduceLT, Nat.reduceEqDiff, reduceCtorEq, Int.reduceLT, Int.reduceEq, a5]) (by simp only [go_sem, Nat.reduceLT, Nat.reduceEqDiff, reduceCtorEq, Int.reduceLT, Int.reduceEq, a6]) (by simp only [go_sem, Nat.reduceLT, Nat.reduceEqDiff, reduceCtorEq, Int.reduceLT, Int.reduceEq, a1]; rfl) m3.dev O3 P3 B3 (fun s4 g4 l4 d4 b1 b2 D4 O4 P4 B4 => ?_)
        obtain ⟨b0, b1', b5, b6⟩ := b2
        obtain ⟨v5, g5, n5, w5, l5, m5⟩ := crash_f14 D4 O4 huk hkl
        have O5 := crash_OK O4 kp
        have P5 := P4.crash kp
        have eS2 : settleF (keepF kp) 0 ((fold1 b).map pd) (b.map w2) = (fold2 kp (fold1 b) b).map pd := settle_fold
        rw [eS2] at P5
        have B5 := m5.kept.box D4 B4 hpb
        simp only [go_sem, Nat.reduceLT, Nat.reduceEqDiff, reduceCtorEq, Int.reduceLT, Int.reduceEq, b1, b5, b1']
        refine XO_callR (by simp only [List.map, go_sem, Nat.reduceLT, Nat.reduceEqDiff, reduceCtorEq, Int.reduceLT, Int.reduceEq, b1]; exact n5) ?_
        simp only [go_sem, Nat.reduceLT, Nat.reduceEqDiff, reduceCtorEq, Int.reduceLT, Int.reduceEq, b1]
        refine f5_loop3 O5 (fold2 kp (fold1 b) b) (by rw [fold2_len, fold1_len]) P5 8 0 _ _ _ rfl (by simp only [slot_len, b1]) (by simp only [go_sem, Nat.reduceLT, Nat.reduceEqDiff, reduceCtorEq, Int.reduceLT, Int.reduceEq, b5]) (by simp only [go_sem, Nat.reduceLT, Nat.reduceEqDiff, reduceCtorEq, Int.reduceLT, Int.reduceEq, b6]) (by simp only [go_sem, Nat.reduceLT, Nat.reduceEqDiff, reduceCtorEq, Int.reduceLT, Int.reduceEq, b1]; rfl) m5.dev B5 (fun s6 g6 c1 c5 D6 => ?_)
        obtain ⟨v7, g7, n7, B7⟩ := loose_f18 D6 O5
        have ln7 : lnO false v7 = some (vi .i64 0) := by rw [B7.buf.ln, eI_len, List.length_map, P5.loose]; rfl
        simp only [go_sem, Nat.reduceLT, Nat.reduceEqDiff, reduceCtorEq, Int.reduceLT, Int.reduceEq, c1, c5]
        refine XO_callP (h1 := g6) (by simp only [List.map, go_sem, Nat.reduceLT, Nat.reduceEqDiff, reduceCtorEq, Int.reduceLT, Int.reduceEq, c1]; rfl) kn known_res ?_
        simp only [go_sem, Nat.reduceLT, Nat.reduceEqDiff, reduceCtorEq, Int.reduceLT, Int.reduceEq, c1, c5]
        refine XO_callR (by simp only [List.map, go_sem, Nat.reduceLT, Nat.reduceEqDiff, reduceCtorEq, Int.reduceLT, Int.reduceEq, c1]; exact n7) ?_
        simp only [go_sem, Nat.reduceLT, Nat.reduceEqDiff, reduceCtorEq, Int.reduceLT, Int.reduceEq, c1, ln7]
  obtain ⟨x, h', e1, rfl⟩ := this []
  exact ⟨h', e1⟩
theorem devlasts_in {H : Type} {d0 d1 : DataW H} {u0 u1 : VV} (h0 : DV Proofs.Try.prog 28 d0 u0) (h1 : DV Proofs.Try.prog 41 d1 u1) : ∃ h', call F 5 [u0, u1] [] = some (.ret (vb true), h') := by
  obtain ⟨b, hb, _⟩ := DV_bytes (e := 5) (by kernel_rfl) (by kernel_rfl) (by kernel_rfl) h0
  obtain ⟨kp, hk, hl⟩ := DV_bools (e := 4) (by kernel_rfl) (by kernel_rfl) (by kernel_rfl) h1
  exact devlasts_f5 b u0 hb kp u1 hk hl
end Go.V04

set_option linter.unusedSimpArgs false
set_option linter.unusedVariables false
namespace Go.V04
open Go Go.Vm

/-! ### the document's device -/
abbrev tC (S L : CV) (w f : Int) (fu : Bool) (le : Int) : List VV := [.cv S, .cv L, vi .i64 w, vi .i64 f, vb fu, vi .i64 le]

section
variable {h : Heap} {p : Nat} {a b c d e f : VV}
theorem ld6 (hp : h[p]? = some (.box [a, b, c, d, e, f] false)) :
    ldO h false 1 (.ptr p 0) = some (a, h) ∧ ldO h false 1 (.ptr p 1) = some (b, h) ∧ ldO h false 1 (.ptr p 2) = some (c, h) ∧ ldO h false 1 (.ptr p 3) = some (d, h) ∧ ldO h false 1 (.ptr p 4) = some (e, h) ∧ ldO h false 1 (.ptr p 5) = some (f, h) ∧ ldO h true 6 (.ptr p 0) = some (.agg [a, b, c, d, e, f], h) :=
  ⟨ld_ptr hp rfl, ld_ptr hp rfl, ld_ptr hp rfl, ld_ptr hp rfl, ld_ptr hp rfl, ld_ptr hp rfl, ld_box hp rfl⟩
theorem st6 (hp : h[p]? = some (.box [a, b, c, d, e, f] false)) {v : VV} (hv : isCell v = true) :
    stO h 1 (.ptr p 0) v = some (.undef, h.set p (.box [v, b, c, d, e, f] false)) ∧ stO h 1 (.ptr p 1) v = some (.undef, h.set p (.box [a, v, c, d, e, f] false)) ∧ stO h 1 (.ptr p 2) v = some (.undef, h.set p (.box [a, b, v, d, e, f] false)) ∧
    stO h 1 (.ptr p 3) v = some (.undef, h.set p (.box [a, b, c, v, e, f] false)) ∧ stO h 1 (.ptr p 4) v = some (.undef, h.set p (.box [a, b, c, d, v, f] false)) ∧ stO h 1 (.ptr p 5) v = some (.undef, h.set p (.box [a, b, c, d, e, v] false)) :=
  ⟨st_1 hv hp (by decide : 0 < 6), st_1 hv hp (by decide : 1 < 6), st_1 hv hp (by decide : 2 < 6), st_1 hv hp (by decide : 3 < 6), st_1 hv hp (by decide : 4 < 6), st_1 hv hp (by decide : 5 < 6)⟩
theorem sta6 (hp : h[p]? = some (.box [a, b, c, d, e, f] false)) {a' b' c' d' e' f' : VV} : stO h 6 (.ptr p 0) (.agg [a', b', c', d', e', f']) = some (.undef, h.set p (.box [a', b', c', d', e', f'] false)) :=
  st_agg (n := 6) (cs := [a', b', c', d', e', f']) rfl hp rfl
end
theorem RQ_c0 {P : VV → Heap → Prop} {s : List VV} {h : Heap} {a n id : Nat} {cells : List VV} {fr : Bool} (ha : s.getD a .undef = .ptr id 0) (ho : h[id]? = some (.box cells fr)) (hn : cells.length = n)
    (hP : P (.agg cells) h) : RQ [.cell a true n] P .ret ⟨s, h⟩ := by
  subst hn
  refine ⟨trivial, [.agg cells], ?_, hP⟩
  simp only [resAll, resOf, ha, ho, List.drop_zero, List.take_length, ldCells, if_true]

def rBurn (fu : Bool) (le : Int) : Int × Bool := if fu = false then (le, true) else if le = 0 then (le, false) else (IntKind.i64.wrap (le - 1), true)

theorem rburn_f41 (S L : CV) (w f : Int) (fu : Bool) (le : Int) : ∃ v h', call F 41 [.agg (tC S L w f fu le)] [] = some (.ret v, h') ∧ closRes h' v = some (.tup [.agg (tC S L w f fu (rBurn fu le).1), vb (rBurn fu le).2]) := by
  have : ∀ h : Heap, ∃ v h', call F 41 [.agg (tC S L w f fu le)] h = some (.ret v, h') ∧ (fun v h' => closRes h' v = some (.tup [.agg (tC S L w f fu (rBurn fu le).1), vb (rBurn fu le).2])) v h' := by
    intro h
    refine call_E (fn := f41) rfl ?_
    simp only [f41]
    generalize hs0 : ([.agg (tC S L w f fu le)] ++ List.replicate _ VV.undef : List VV) = s
    have hs : s.length = 17 := by rw [← hs0]; rfl
    have h0 : s.getD 0 .undef = .agg (tC S L w f fu le) := by rw [← hs0]; rfl
    clear hs0
    simp only [go_sem, Nat.reduceLT, Nat.reduceEqDiff, reduceCtorEq, Int.reduceLT, Int.reduceEq, hs, h0]
    rw [bx_agg (n := 6) rfl]
    simp only [go_sem, Nat.reduceLT, Nat.reduceEqDiff, reduceCtorEq, Int.reduceLT, Int.reduceEq, hs]
    generalize hg1 : h ++ [VO.box (tC S L w f fu le) false] = g1
    have q1 : (g1 ++ [VO.box [nilS, nilS, vi .i64 0, vi .i64 0, vb false, vi .i64 0] false])[h.length]? = some (.box (tC S L w f fu le) false) := by rw [← hg1]; simp
    have q2 : (g1 ++ [VO.box [nilS, nilS, vi .i64 0, vi .i64 0, vb false, vi .i64 0] false])[g1.length]? = some (.box [nilS, nilS, vi .i64 0, vi .i64 0, vb false, vi .i64 0] false) := at_last
    have hne : h.length ≠ g1.length := by rw [← hg1]; simp
    generalize hg2 : g1 ++ [VO.box [nilS, nilS, vi .i64 0, vi .i64 0, vb false, vi .i64 0] false] = g2 at q1 q2
    obtain ⟨_, _, _, _, k4, k5, k6⟩ := ld6 q1
    have fin : ∀ {S' L' : CV} {w' f' le' : Int} {fu' ok : Bool} {s' : List VV} {g : Heap}, s'.length = 17 → s'.getD 2 .undef = .ptr g1.length 0 → s'.getD 3 .undef = vb ok → g[g1.length]? = some (.box (tC S' L' w' f' fu' le') false) →
        RQ [.cell 2 true 6, .t 3] (fun v h' => closRes h' v = some (.tup [.agg (tC S' L' w' f' fu' le'), vb ok])) .ret ⟨s', g⟩ := by
      intro S' L' w' f' le' fu' ok s' g a1 a2 a3 a4
      refine RQ_c1 a2 a4 rfl (by omega) ?_
      rw [a3]; rfl
    rw [X_eq f41_0.eq_1]
    unfold rBurn
    cases fu with
    | false =>
      simp only [go_sem, Nat.reduceLT, Nat.reduceEqDiff, reduceCtorEq, Int.reduceLT, Int.reduceEq, hs, k4, k6, sta6 q2, Bool.not_false]
      exact fin (by simp only [slot_len, hs]) (by simp only [go_sem, Nat.reduceLT, Nat.reduceEqDiff, reduceCtorEq, Int.reduceLT, Int.reduceEq, hs]) (by simp only [go_sem, Nat.reduceLT, Nat.reduceEqDiff, reduceCtorEq, Int.reduceLT, Int.reduceEq, hs]) (by rw [List.getElem?_set_self (lt_of_get q2)])
    | true =>
      simp only [go_sem, Nat.reduceLT, Nat.reduceEqDiff, reduceCtorEq, Int.reduceLT, Int.reduceEq, hs, k4, Bool.not_true]
      rw [X_eq f41_1.eq_1]
      by_cases c : le = 0
      · simp only [go_sem, Nat.reduceLT, Nat.reduceEqDiff, reduceCtorEq, Int.reduceLT, Int.reduceEq, hs, k5, c, k6, sta6 q2]
        subst c
        exact fin (by simp only [slot_len, hs]) (by simp only [go_sem, Nat.reduceLT, Nat.reduceEqDiff, reduceCtorEq, Int.reduceLT, Int.reduceEq, hs]) (by simp only [go_sem, Nat.reduceLT, Nat.reduceEqDiff, reduceCtorEq, Int.reduceLT, Int.reduceEq, hs]) (by rw [List.getElem?_set_self (lt_of_get q2)])
      · simp only [go_sem, Nat.reduceLT, Nat.reduceEqDiff, reduceCtorEq, Int.reduceLT, Int.reduceEq, hs, k5, c]
        obtain ⟨_, _, _, _, _, m5⟩ := st6 q1 (v := vi .i64 (IntKind.i64.wrap (le - 1))) rfl
        have q3 : (g2.set h.length (.box (tC S L w f true (IntKind.i64.wrap (le - 1))) false))[h.length]? = some (.box (tC S L w f true (IntKind.i64.wrap (le - 1))) false) := by rw [List.getElem?_set_self (lt_of_get q1)]
        have q4 : (g2.set h.length (.box (tC S L w f true (IntKind.i64.wrap (le - 1))) false))[g1.length]? = some (.box [nilS, nilS, vi .i64 0, vi .i64 0, vb false, vi .i64 0] false) := by rw [List.getElem?_set_ne hne]; exact q2
        obtain ⟨_, _, _, _, _, _, n6⟩ := ld6 q3
        simp only [go_sem, Nat.reduceLT, Nat.reduceEqDiff, reduceCtorEq, Int.reduceLT, Int.reduceEq, hs, m5, n6, sta6 q4]
        exact fin (by simp only [slot_len, hs]) (by simp only [go_sem, Nat.reduceLT, Nat.reduceEqDiff, reduceCtorEq, Int.reduceLT, Int.reduceEq, hs]) (by simp only [go_sem, Nat.reduceLT, Nat.reduceEqDiff, reduceCtorEq, Int.reduceLT, Int.reduceEq, hs]) (by rw [List.getElem?_set_self (lt_of_get q4)])
  exact this []
end Go.V04

set_option linter.unusedSimpArgs false
set_option linter.unusedVariables false
namespace Go.V04
open Go Go.Vm

def SE (els : List (List CV)) (l : List (List UInt8)) : Prop := els.length = l.length ∧ ∀ (i : Nat) (b : List UInt8), l[i]? = some b → ∃ ex, els[i]? = some [.sl 1 (eB b) ex]
def LE (els : List (List CV)) (l : List (Nat × List UInt8)) : Prop := els.length = l.length ∧ ∀ (i : Nat) (o : Nat × List UInt8), l[i]? = some o → ∃ ex, els[i]? = some [.sc (.int .i64 o.1), .sl 1 (eB o.2) ex]

def rFuse (fu : Bool) (le n : Int) : Bool × Int := if (fu && decide (le = 0)) = true then (fu, le) else (decide (n ≥ 0), max n 0)

theorem rfuse_f35 (S L : CV) (w f : Int) (fu : Bool) (le n : Int) : ∃ v h', call F 35 [.agg (tC S L w f fu le), vi .i64 n] [] = some (.ret v, h') ∧ closRes h' v = some (.agg (tC S L w f (rFuse fu le n).1 (rFuse fu le n).2)) := by
  have : ∀ h : Heap, ∃ v h', call F 35 [.agg (tC S L w f fu le), vi .i64 n] h = some (.ret v, h') ∧ (fun v h' => closRes h' v = some (.agg (tC S L w f (rFuse fu le n).1 (rFuse fu le n).2))) v h' := by
    intro h
    refine call_E (fn := f35) rfl ?_
    simp only [f35]
    generalize hs0 : ([.agg (tC S L w f fu le), vi .i64 n] ++ List.replicate _ VV.undef : List VV) = s
    have hs : s.length = 20 := by rw [← hs0]; rfl
    have h0 : s.getD 0 .undef = .agg (tC S L w f fu le) := by rw [← hs0]; rfl
    have h1 : s.getD 1 .undef = vi .i64 n := by rw [← hs0]; rfl
    clear hs0
    simp only [go_sem, Nat.reduceLT, Nat.reduceEqDiff, reduceCtorEq, Int.reduceLT, Int.reduceEq, hs, h0]
    rw [bx_agg (n := 6) rfl]
    simp only [go_sem, Nat.reduceLT, Nat.reduceEqDiff, reduceCtorEq, Int.reduceLT, Int.reduceEq, hs]
    generalize hg1 : h ++ [VO.box (tC S L w f fu le) false] = g1
    have q1 : (g1 ++ [VO.box [nilS, nilS, vi .i64 0, vi .i64 0, vb false, vi .i64 0] false])[h.length]? = some (.box (tC S L w f fu le) false) := by rw [← hg1]; simp
    have q2 : (g1 ++ [VO.box [nilS, nilS, vi .i64 0, vi .i64 0, vb false, vi .i64 0] false])[g1.length]? = some (.box [nilS, nilS, vi .i64 0, vi .i64 0, vb false, vi .i64 0] false) := at_last
    have hne : h.length ≠ g1.length := by rw [← hg1]; simp
    generalize hg2 : g1 ++ [VO.box [nilS, nilS, vi .i64 0, vi .i64 0, vb false, vi .i64 0] false] = g2 at q1 q2
    obtain ⟨_, _, _, _, k4, k5, k6⟩ := ld6 q1
    have fin : ∀ {S' L' : CV} {w' f' le' : Int} {fu' : Bool} {s' : List VV} {g : Heap}, s'.getD 4 .undef = .ptr g1.length 0 → g[g1.length]? = some (.box (tC S' L' w' f' fu' le') false) →
        RQ [.cell 4 true 6] (fun v h' => closRes h' v = some (.agg (tC S' L' w' f' fu' le'))) .ret ⟨s', g⟩ := by
      intro S' L' w' f' le' fu' s' g a2 a4
      exact RQ_c0 a2 a4 rfl rfl
    rw [X_eq f35_0.eq_1]
    obtain ⟨_, _, _, _, m4, _⟩ := st6 q1 (v := vb (decide (n ≥ 0))) rfl
    have q3 : (g2.set h.length (.box (tC S L w f (decide (n ≥ 0)) le) false))[h.length]? = some (.box (tC S L w f (decide (n ≥ 0)) le) false) := by rw [List.getElem?_set_self (lt_of_get q1)]
    obtain ⟨_, _, _, _, _, m5⟩ := st6 q3 (v := vi .i64 (max n 0)) rfl
    have q4 : ((g2.set h.length (.box (tC S L w f (decide (n ≥ 0)) le) false)).set h.length (.box (tC S L w f (decide (n ≥ 0)) (max n 0)) false))[h.length]? = some (.box (tC S L w f (decide (n ≥ 0)) (max n 0)) false) := by rw [List.getElem?_set_self (lt_of_get q3)]
    have q5 : ((g2.set h.length (.box (tC S L w f (decide (n ≥ 0)) le) false)).set h.length (.box (tC S L w f (decide (n ≥ 0)) (max n 0)) false))[g1.length]? = some (.box [nilS, nilS, vi .i64 0, vi .i64 0, vb false, vi .i64 0] false) := by rw [List.getElem?_set_ne hne, List.getElem?_set_ne hne]; exact q2
    obtain ⟨_, _, _, _, _, _, n6⟩ := ld6 q4
    have e5 := sta6 q5 (a' := .cv S) (b' := .cv L) (c' := vi .i64 w) (d' := vi .i64 f) (e' := vb (decide (n ≥ 0))) (f' := vi .i64 (max n 0))
    cases fu with
    | false =>
      simp only [go_sem, Nat.reduceLT, Nat.reduceEqDiff, reduceCtorEq, Int.reduceLT, Int.reduceEq, hs, k4, h1, m4, m5, n6, e5]
      have e : rFuse false le n = (decide (n ≥ 0), max n 0) := by simp [rFuse]
      rw [e]
      exact fin (by simp only [go_sem, Nat.reduceLT, Nat.reduceEqDiff, reduceCtorEq, Int.reduceLT, Int.reduceEq, hs]) (by rw [List.getElem?_set_self (lt_of_get q5)])
    | true =>
      by_cases c : le = 0
      · simp only [go_sem, Nat.reduceLT, Nat.reduceEqDiff, reduceCtorEq, Int.reduceLT, Int.reduceEq, hs, k4, k5, c, k6, sta6 q2]
        subst c
        have e : rFuse true 0 n = (true, 0) := by simp [rFuse]
        rw [e]
        exact fin (by simp only [go_sem, Nat.reduceLT, Nat.reduceEqDiff, reduceCtorEq, Int.reduceLT, Int.reduceEq, hs]) (by rw [List.getElem?_set_self (lt_of_get q2)])
      · simp only [go_sem, Nat.reduceLT, Nat.reduceEqDiff, reduceCtorEq, Int.reduceLT, Int.reduceEq, hs, k4, k5, c, h1, m4, m5, n6, e5]
        have e : rFuse true le n = (decide (n ≥ 0), max n 0) := by simp [rFuse, c]
        rw [e]
        exact fin (by simp only [go_sem, Nat.reduceLT, Nat.reduceEqDiff, reduceCtorEq, Int.reduceLT, Int.reduceEq, hs]) (by rw [List.getElem?_set_self (lt_of_get q5)])
  exact this []

/-! ### the document's Loose -/
theorem f38_loop {h0 : Heap} {p : Nat} {S L : CV} {w f le : Int} {fu : Bool} (hp : h0[p]? = some (.box (tC S L w f fu le) false)) {els : List (List CV)} {l : List (Nat × List UInt8)} (hS : SlV 2 els (.cv L)) (hE : LE els l) (hn : l.length ≤ 1000) :
    ∀ (r k : Nat) (s : List VV) (g : Heap) (v : VV) (Q : Pst), k + r = l.length → s.length = 22 → s.getD 1 .undef = .ptr p 0 → s.getD 3 .undef = v → s.getD 4 .undef = vi .i64 k → NewB h0 g 1 (eI ((l.take k).map (·.1))) v →
      (∀ s' g' v', s'.length = 22 → s'.getD 3 .undef = v' → NewB h0 g' 1 (eI (l.map (·.1))) v' → Q (.exit 0) ⟨s', g'⟩) → X F (.loop f38_0) ⟨s, g⟩ Q := by
  intro r
  induction r with
  | zero =>
    intro k s g v Q hk hs h1 h3 h4 hI hQ
    rw [X_loop, X_eq f38_0.eq_1]
    obtain ⟨_, k1, _⟩ := ld6 (hI.ext.get hp)
    have c : ¬ (k : Int) < (els.length : Int) := by rw [hE.1]; omega
    simp only [go_sem, Nat.reduceLT, Nat.reduceEqDiff, reduceCtorEq, Int.reduceLT, Int.reduceEq, hs, h1, h4, k1, hS.ln, c]
    refine hQ _ _ v (by simp only [slot_len, hs]) (by simp only [go_sem, Nat.reduceLT, Nat.reduceEqDiff, reduceCtorEq, Int.reduceLT, Int.reduceEq, h3]) ?_
    have : l.take k = l := List.take_of_length_le (by omega)
    rw [this] at hI; exact hI
  | succ r ih =>
    intro k s g v Q hk hs h1 h3 h4 hI hQ
    rw [X_loop, X_eq f38_0.eq_1]
    obtain ⟨_, k1, _⟩ := ld6 (hI.ext.get hp)
    have c : (k : Int) < (els.length : Int) := by rw [hE.1]; omega
    have hkl : k < l.length := by omega
    obtain ⟨ex, he⟩ := hE.2 k l[k] (List.getElem?_eq_getElem hkl)
    have hia := hS.ia (h := g) (k := .i64) (j := (k : Int)) (by omega) he
    have hw : IntKind.i64.wrap ((k : Int) + 1) = ((k + 1 : Nat) : Int) := by rw [IntWalk.i64_in _ (by omega)]; omega
    simp only [go_sem, Nat.reduceLT, Nat.reduceEqDiff, reduceCtorEq, Int.reduceLT, Int.reduceEq, hs, h1, h3, h4, k1, hS.ln, c, hia]
    refine XO_appN (els := eI ((l.take k).map (·.1))) (new := [[.sc (.int .i64 l[k].1)]]) hI (by simp only [go_sem, Nat.reduceLT, Nat.reduceEqDiff, reduceCtorEq, Int.reduceLT, Int.reduceEq, hs, h3]) (by simp only [go_sem, Nat.reduceLT, Nat.reduceEqDiff, reduceCtorEq, Int.reduceLT, Int.reduceEq, hs]) (by simp) (by rw [eI_len, List.length_map]; simp only [List.length_singleton, List.length_take]; omega) (by rw [eI_len, List.length_map]; simp only [List.length_singleton, List.length_take]; omega) (fun v' h' hB _ => ?_)
    simp only [go_sem, Nat.reduceLT, Nat.reduceEqDiff, reduceCtorEq, Int.reduceLT, Int.reduceEq, hs, h4, hw]
    refine ih (k + 1) _ h' v' Q (by omega) (by simp only [slot_len, hs]) (by simp only [go_sem, Nat.reduceLT, Nat.reduceEqDiff, reduceCtorEq, Int.reduceLT, Int.reduceEq, h1]) (by simp only [go_sem, Nat.reduceLT, Nat.reduceEqDiff, reduceCtorEq, Int.reduceLT, Int.reduceEq, hs]) (by simp only [go_sem, Nat.reduceLT, Nat.reduceEqDiff, reduceCtorEq, Int.reduceLT, Int.reduceEq, hs]) ?_ hQ
    have : (l.take (k + 1)).map (·.1) = (l.take k).map (·.1) ++ [l[k].1] := by rw [List.take_succ_eq_append_getElem hkl, List.map_append]; rfl
    rw [this]
    simpa [eI] using hB

theorem rloose_f38 (S L : CV) (w f : Int) (fu : Bool) (le : Int) {els : List (List CV)} {l : List (Nat × List UInt8)} (hS : SlV 2 els (.cv L)) (hE : LE els l) (hn : l.length ≤ 1000) :
    ∃ v h', call F 38 [.agg (tC S L w f fu le)] [] = some (.ret v, h') ∧ closRes h' v = some (slV 1 (eI (l.map (·.1)))) := by
  have : ∀ h : Heap, ∃ v h', call F 38 [.agg (tC S L w f fu le)] h = some (.ret v, h') ∧ (fun v h' => closRes h' v = some (slV 1 (eI (l.map (·.1))))) v h' := by
    intro h
    refine call_E (fn := f38) rfl ?_
    simp only [f38]
    generalize hs0 : ([.agg (tC S L w f fu le)] ++ List.replicate _ VV.undef : List VV) = s
    have hs : s.length = 22 := by rw [← hs0]; rfl
    have h0 : s.getD 0 .undef = .agg (tC S L w f fu le) := by rw [← hs0]; rfl
    clear hs0
    simp only [go_sem, Nat.reduceLT, Nat.reduceEqDiff, reduceCtorEq, Int.reduceLT, Int.reduceEq, hs, h0]
    rw [bx_agg (n := 6) rfl]
    simp only [go_sem, Nat.reduceLT, Nat.reduceEqDiff, reduceCtorEq, Int.reduceLT, Int.reduceEq, hs]
    refine f38_loop (h0 := h ++ [VO.box (tC S L w f fu le) false]) (p := h.length) at_last hS hE hn l.length 0 _ _ nilS _ (by omega) (by simp only [slot_len, hs]) (by simp only [go_sem, Nat.reduceLT, Nat.reduceEqDiff, reduceCtorEq, Int.reduceLT, Int.reduceEq, hs]) (by simp only [go_sem, Nat.reduceLT, Nat.reduceEqDiff, reduceCtorEq, Int.reduceLT, Int.reduceEq, hs]) (by simp only [go_sem, Nat.reduceLT, Nat.reduceEqDiff, reduceCtorEq, Int.reduceLT, Int.reduceEq, hs]; rfl) (NewB.nil _ 1) (fun s' g' v' a1 a2 a3 => ?_)
    simp only [go_sem, Nat.reduceLT, Nat.reduceEqDiff, reduceCtorEq, Int.reduceLT, Int.reduceEq, a1, a2]
    exact a3.buf.close
  exact this []
end Go.V04

set_option linter.unusedSimpArgs false
set_option linter.unusedVariables false
namespace Go.V04
open Go Go.Vm

theorem lastF_none {i : Int} {x : List UInt8} : ∀ {l : List (Nat × List UInt8)}, (∀ (k : Nat) (h : k < l.length), ((l[k].1 : Nat) : Int) ≠ i) → lastF i x l = x
  | [], _ => rfl
  | o :: l, h => by
    show lastF i (if (o.1 : Int) = i then o.2 else x) l = x
    rw [if_neg (show ¬ ((o.1 : Nat) : Int) = i from h 0 (by simp))]
    exact lastF_none fun k hk => h (k + 1) (by simpa using hk)
theorem lastF_at {i : Int} : ∀ {l : List (Nat × List UInt8)} {x : List UInt8} {k : Nat} (hk : k < l.length), ((l[k].1 : Nat) : Int) = i → (∀ (j : Nat) (h : j < l.length), k < j → ((l[j].1 : Nat) : Int) ≠ i) → lastF i x l = l[k].2
  | o :: l, x, 0, hk, he, h => by
    show lastF i (if (o.1 : Int) = i then o.2 else x) l = o.2
    rw [if_pos (show ((o.1 : Nat) : Int) = i from he)]
    exact lastF_none fun k hk => h (k + 1) (by simpa using hk) (by omega)
  | o :: l, x, k + 1, hk, he, h => by
    show lastF i (if (o.1 : Int) = i then o.2 else x) l = (l[k]'(by simpa using hk)).2
    exact lastF_at (k := k) (by simpa using hk) he fun j hj hkj => h (j + 1) (by simpa using hj) (by omega)

theorem f37_loop {p : Nat} {g : Heap} {S L : CV} {w f le : Int} {fu : Bool} (hp : g[p]? = some (.box (tC S L w f fu le) false)) {els : List (List CV)} {l : List (Nat × List UInt8)} (hS : SlV 2 els (.cv L)) (hE : LE els l) (hn : l.length ≤ 1000) (i : Int) (x : List UInt8) :
    ∀ (k : Nat) (s : List VV) (Q : Pst), k ≤ l.length → s.length = 43 → s.getD 1 .undef = vi .i64 i → s.getD 2 .undef = .ptr p 0 → s.getD 6 .undef = vi .i64 ((k : Int) - 1) → (∀ (j : Nat) (h : j < l.length), k ≤ j → ((l[j].1 : Nat) : Int) ≠ i) →
      (∀ s' c, s'.length = 43 → s'.getD 4 .undef = .cv c → s'.getD 5 .undef = vi .i64 0 → SlV 1 (eB (lastF i x l)) (.cv c) → Q .ret ⟨s', g⟩) →
      (∀ s', s'.length = 43 → s'.getD 1 .undef = vi .i64 i → s'.getD 2 .undef = .ptr p 0 → lastF i x l = x → Q (.exit 0) ⟨s', g⟩) → X F (.loop f37_1) ⟨s, g⟩ Q := by
  intro k
  obtain ⟨_, k1, _⟩ := ld6 hp
  induction k with
  | zero =>
    intro s Q hk hs h1 h2 h6 hnone hret hQ
    rw [X_loop, X_eq f37_1.eq_1]
    have c : ¬ (0 : Int) ≤ ((0 : Nat) : Int) - 1 := by omega
    simp only [go_sem, Nat.reduceLT, Nat.reduceEqDiff, reduceCtorEq, Int.reduceLT, Int.reduceEq, hs, h6, ge_iff_le, c]
    exact hQ _ (by simp only [slot_len, hs]) (by simp only [go_sem, Nat.reduceLT, Nat.reduceEqDiff, reduceCtorEq, Int.reduceLT, Int.reduceEq, h1]) (by simp only [go_sem, Nat.reduceLT, Nat.reduceEqDiff, reduceCtorEq, Int.reduceLT, Int.reduceEq, h2]) (lastF_none fun j hj => hnone j hj (by omega))
  | succ k ih =>
    intro s Q hk hs h1 h2 h6 hnone hret hQ
    rw [X_loop, X_eq f37_1.eq_1]
    have e6 : ((k + 1 : Nat) : Int) - 1 = (k : Int) := by omega
    rw [e6] at h6
    have c : (0 : Int) ≤ (k : Int) := by omega
    have hkl : k < l.length := by omega
    obtain ⟨ex, he⟩ := hE.2 k l[k] (List.getElem?_eq_getElem hkl)
    have hia := hS.ia (h := g) (k := .i64) (j := (k : Int)) (by omega) he
    have hw : IntKind.i64.wrap ((k : Int) - 1) = (k : Int) - 1 := by rw [IntWalk.i64_in _ (by omega)]
    by_cases ci : ((l[k].1 : Nat) : Int) = i
    · simp only [go_sem, Nat.reduceLT, Nat.reduceEqDiff, reduceCtorEq, Int.reduceLT, Int.reduceEq, hs, h1, h2, h6, ge_iff_le, c, k1, hia, ci]
      refine hret _ (.sl 1 (eB l[k].2) ex) (by simp only [slot_len, hs]) (by simp only [go_sem, Nat.reduceLT, Nat.reduceEqDiff, reduceCtorEq, Int.reduceLT, Int.reduceEq, hs]) (by simp only [go_sem, Nat.reduceLT, Nat.reduceEqDiff, reduceCtorEq, Int.reduceLT, Int.reduceEq, hs]) ?_
      rw [lastF_at hkl ci (fun j hj hkj => hnone j hj (by omega))]
      exact .inr ⟨ex, rfl⟩
    · simp only [go_sem, Nat.reduceLT, Nat.reduceEqDiff, reduceCtorEq, Int.reduceLT, Int.reduceEq, hs, h1, h2, h6, ge_iff_le, c, k1, hia, ci, hw]
      refine ih _ Q (by omega) (by simp only [slot_len, hs]) (by simp only [go_sem, Nat.reduceLT, Nat.reduceEqDiff, reduceCtorEq, Int.reduceLT, Int.reduceEq, h1]) (by simp only [go_sem, Nat.reduceLT, Nat.reduceEqDiff, reduceCtorEq, Int.reduceLT, Int.reduceEq, h2]) (by simp only [go_sem, Nat.reduceLT, Nat.reduceEqDiff, reduceCtorEq, Int.reduceLT, Int.reduceEq, hs]) (fun j hj hkj => ?_) hret hQ
      by_cases hjk : j = k
      · subst hjk; exact ci
      · exact hnone j hj (by omega)

theorem rread_f37 (S L : CV) (w f : Int) (fu : Bool) (le : Int) {sE_ els : List (List CV)} {firm : List (List UInt8)} {l : List (Nat × List UInt8)} (hSS : SlV 1 sE_ (.cv S)) (hSE : SE sE_ firm) (hS : SlV 2 els (.cv L)) (hE : LE els l) (hn : l.length ≤ 1000) (i : Int) :
    ∃ v h' c e, call F 37 [.agg (tC S L w f fu le), vi .i64 i] [] = some (.ret v, h') ∧ closRes h' v = some (.tup [.cv c, vi .i64 e]) ∧
      (0 ≤ i ∧ i < (firm.length : Int) → e = 0 ∧ SlV 1 (eB (lastF i (firm.getD i.toNat []) l)) (.cv c)) ∧ (¬ (0 ≤ i ∧ i < (firm.length : Int)) → e = 20 ∧ .cv c = nilS) := by
  have : ∀ h : Heap, ∃ v h', call F 37 [.agg (tC S L w f fu le), vi .i64 i] h = some (.ret v, h') ∧ (fun v h' => ∃ c e, closRes h' v = some (.tup [.cv c, vi .i64 e]) ∧
      (0 ≤ i ∧ i < (firm.length : Int) → e = 0 ∧ SlV 1 (eB (lastF i (firm.getD i.toNat []) l)) (.cv c)) ∧ (¬ (0 ≤ i ∧ i < (firm.length : Int)) → e = 20 ∧ .cv c = nilS)) v h' := by
    intro h
    refine call_E (fn := f37) rfl ?_
    simp only [f37]
    generalize hs0 : ([.agg (tC S L w f fu le), vi .i64 i] ++ List.replicate _ VV.undef : List VV) = s
    have hs : s.length = 43 := by rw [← hs0]; rfl
    have h0 : s.getD 0 .undef = .agg (tC S L w f fu le) := by rw [← hs0]; rfl
    have h1 : s.getD 1 .undef = vi .i64 i := by rw [← hs0]; rfl
    clear hs0
    simp only [go_sem, Nat.reduceLT, Nat.reduceEqDiff, reduceCtorEq, Int.reduceLT, Int.reduceEq, hs, h0]
    rw [bx_agg (n := 6) rfl]
    simp only [go_sem, Nat.reduceLT, Nat.reduceEqDiff, reduceCtorEq, Int.reduceLT, Int.reduceEq, hs]
    have q1 : (h ++ [VO.box (tC S L w f fu le) false])[h.length]? = some (.box (tC S L w f fu le) false) := at_last
    generalize hg1 : h ++ [VO.box (tC S L w f fu le) false] = g1 at q1
    obtain ⟨k0, k1, _⟩ := ld6 q1
    rw [X_eq f37_0.eq_1]
    by_cases c1 : i < 0
    · simp only [go_sem, Nat.reduceLT, Nat.reduceEqDiff, reduceCtorEq, Int.reduceLT, Int.reduceEq, hs, h1, c1]
      exact ⟨_, 20, rfl, fun hc => absurd hc.1 (by omega), fun _ => ⟨rfl, rfl⟩⟩
    · by_cases c2 : (sE_.length : Int) ≤ i
      · simp only [go_sem, Nat.reduceLT, Nat.reduceEqDiff, reduceCtorEq, Int.reduceLT, Int.reduceEq, hs, h1, c1, k0, hSS.ln, ge_iff_le, c2]
        have := hSE.1
        exact ⟨_, 20, rfl, fun hc => absurd hc.2 (by omega), fun _ => ⟨rfl, rfl⟩⟩
      · have hfl := hSE.1
        have hlen : (els.length : Int) = (l.length : Int) := by rw [hE.1]
        have hw : IntKind.i64.wrap ((l.length : Int) - 1) = (l.length : Int) - 1 := by rw [IntWalk.i64_in _ (by omega)]
        obtain ⟨k, rfl⟩ : ∃ k : Nat, i = (k : Int) := ⟨i.toNat, by omega⟩
        have hkl : k < firm.length := by omega
        obtain ⟨ex, he⟩ := hSE.2 k firm[k] (List.getElem?_eq_getElem hkl)
        have hia := hSS.ia (h := g1) (k := .i64) (j := (k : Int)) (by omega) he
        simp only [go_sem, Nat.reduceLT, Nat.reduceEqDiff, reduceCtorEq, Int.reduceLT, Int.reduceEq, hs, h1, c1, k0, k1, hSS.ln, hS.ln, ge_iff_le, c2, hlen, hw]
        have eg : firm.getD ((k : Int).toNat) [] = firm[k] := by
          show firm.getD k [] = _
          rw [List.getD_eq_getElem?_getD, List.getElem?_eq_getElem hkl]; rfl
        refine f37_loop q1 hS hE hn (k : Int) firm[k] l.length _ _ (Nat.le_refl _) (by simp only [slot_len, hs]) (by simp only [go_sem, Nat.reduceLT, Nat.reduceEqDiff, reduceCtorEq, Int.reduceLT, Int.reduceEq, h1]) (by simp only [go_sem, Nat.reduceLT, Nat.reduceEqDiff, reduceCtorEq, Int.reduceLT, Int.reduceEq, hs]) (by simp only [go_sem, Nat.reduceLT, Nat.reduceEqDiff, reduceCtorEq, Int.reduceLT, Int.reduceEq, hs]) (fun j hj hlj => by omega) (fun s' c a1 a4 a5 hc => ?_) (fun s' a1 b1 b2 hl => ?_)
        · simp only [go_sem, Nat.reduceLT, Nat.reduceEqDiff, reduceCtorEq, Int.reduceLT, Int.reduceEq, a1, a4, a5]
          exact ⟨c, 0, rfl, fun _ => ⟨rfl, by rw [eg]; exact hc⟩, fun hc => absurd ⟨by omega, by omega⟩ hc⟩
        · simp only [go_sem, Nat.reduceLT, Nat.reduceEqDiff, reduceCtorEq, Int.reduceLT, Int.reduceEq, a1, b1, b2, k0, hia]
          exact ⟨_, 0, rfl, fun _ => ⟨rfl, by rw [eg, hl]; exact .inr ⟨ex, rfl⟩⟩, fun hc => absurd ⟨by omega, by omega⟩ hc⟩
  obtain ⟨v, h', e1, c, e, e2⟩ := this []
  exact ⟨v, h', c, e, e1, e2⟩
end Go.V04

set_option linter.unusedSimpArgs false
set_option linter.unusedVariables false
namespace Go.V04
open Go Go.Vm

theorem BufG.setArr {h : Heap} {z z' : Nat} {els : List (List CV)} {v : VV} (hb : BufG h z els v) {id : Nat} {e : List (List CV)} {g : Nat} {fr : Bool} (ho : h[id]? = some (.arr z' e g fr)) (hz : z' ≠ z) (o : VO) : BufG (h.set id o) z els v := by
  rcases hb with x | ⟨i, g', hne, rfl, h2⟩
  · exact .inl x
  · exact .inr ⟨i, g', hne, rfl, by rw [List.getElem?_set_ne (by rintro rfl; rw [ho] at h2; cases h2; exact hz rfl)]; exact h2⟩

/-- Bytes copied, one by one. -/
def cpB (b : List UInt8) (k : Nat) : List UInt8 := b.take k ++ List.replicate (64 - k) 0
theorem cpB_len {b : List UInt8} {k : Nat} (hk : k ≤ b.length) (hb : b.length ≤ 64) : (cpB b k).length = 64 := by
  unfold cpB; simp; omega
theorem cpB_set {b : List UInt8} {k : Nat} (hk : k < b.length) (hb : b.length ≤ 64) : (cpB b k).set k b[k] = cpB b (k + 1) := by
  unfold cpB
  have hl : (b.take k).length = k := by simp; omega
  rw [List.set_append_right _ _ (by omega), hl, Nat.sub_self]
  have : 64 - k = (64 - (k + 1)) + 1 := by omega
  rw [this, List.replicate_succ, List.set_cons_zero, List.take_succ_eq_append_getElem hk, List.append_assoc]
  rfl
theorem cpB_all {b : List UInt8} : cpB b b.length = pad b := by unfold cpB pad; simp

theorem f32_loop {b : List UInt8} {u : VV} (hu : SlV 1 (eB b) u) (hb : b.length ≤ 64) {id : Nat} :
    ∀ (r k : Nat) (s : List VV) (g : Heap) (Q : Pst), k + r = b.length → s.length = 66 → s.getD 2 .undef = u → s.getD 10 .undef = .own id 0 0 64 true → s.getD 11 .undef = vi .i64 k → g[id]? = some (.arr 1 (eB (cpB b k)) 0 false) →
      (∀ s' g', s'.length = 66 → (s'.getD 1 .undef = s.getD 1 .undef ∧ s'.getD 6 .undef = s.getD 6 .undef ∧ s'.getD 8 .undef = s.getD 8 .undef ∧ s'.getD 10 .undef = .own id 0 0 64 true) → g' = g.set id (.arr 1 (eB (pad b)) 0 false) → Q (.exit 0) ⟨s', g'⟩) → X F (.loop f32_3) ⟨s, g⟩ Q := by
  intro r
  induction r with
  | zero =>
    intro k s g Q hk hs h2 h10 h11 hA hQ
    rw [X_loop, X_eq f32_3.eq_1]
    have c : ¬ (k : Int) < (b.length : Int) := by omega
    simp only [go_sem, Nat.reduceLT, Nat.reduceEqDiff, reduceCtorEq, Int.reduceLT, Int.reduceEq, hs, h2, h11, hu.ln, eB_len, c]
    refine hQ _ _ (by simp only [slot_len, hs]) ⟨by simp only [go_sem, Nat.reduceLT, Nat.reduceEqDiff, reduceCtorEq, Int.reduceLT, Int.reduceEq], by simp only [go_sem, Nat.reduceLT, Nat.reduceEqDiff, reduceCtorEq, Int.reduceLT, Int.reduceEq], by simp only [go_sem, Nat.reduceLT, Nat.reduceEqDiff, reduceCtorEq, Int.reduceLT, Int.reduceEq], by simp only [go_sem, Nat.reduceLT, Nat.reduceEqDiff, reduceCtorEq, Int.reduceLT, Int.reduceEq, h10]⟩ ?_
    have e : cpB b k = pad b := by rw [show k = b.length by omega, cpB_all]
    rw [← e]
    exact (set_same hA).symm
  | succ r ih =>
    intro k s g Q hk hs h2 h10 h11 hA hQ
    rw [X_loop, X_eq f32_3.eq_1]
    have c : (k : Int) < (b.length : Int) := by omega
    have hkb : k < b.length := by omega
    have hl64 := cpB_len (b := b) (k := k) (by omega) hb
    have hia := ld_sl hu g hkb
    have hia2 : iaO g 1 (.own id 0 0 64 true) (vi .i64 (k : Int)) = some (.eptr id 0 k 0, g) := by
      rw [ia_own (els := eB (cpB b k)) (fr := false) (by omega) hA (by show k < 64; omega)]
      simp
    have hke : (eB (cpB b k))[k]? = some (byteCell ((cpB b k)[k]'(by omega))) := by
      rw [eB_get (List.getElem?_eq_getElem (by omega))]; rfl
    have hst := st_e1 (h := g) (off := 0) (c := .sc (.int .u8 (b[k]).toNat)) hA hke (by simp [byteCell])
    have eset : (eB (cpB b k)).set k ((byteCell ((cpB b k)[k]'(by omega))).set 0 (.sc (.int .u8 (b[k]).toNat))) = eB (cpB b (k + 1)) := by
      rw [← cpB_set hkb hb]
      simp [eB, List.map_set, byteCell]
    rw [eset] at hst
    have hw : IntKind.i64.wrap ((k : Int) + 1) = ((k + 1 : Nat) : Int) := by rw [IntWalk.i64_in _ (by omega)]; omega
    simp only [go_sem, Nat.reduceLT, Nat.reduceEqDiff, reduceCtorEq, Int.reduceLT, Int.reduceEq, hs, h2, h10, h11, hu.ln, eB_len, c, hia, hia2, hst, hw]
    refine ih (k + 1) _ _ Q (by omega) (by simp only [slot_len, hs]) (by simp only [go_sem, Nat.reduceLT, Nat.reduceEqDiff, reduceCtorEq, Int.reduceLT, Int.reduceEq, h2]) (by simp only [go_sem, Nat.reduceLT, Nat.reduceEqDiff, reduceCtorEq, Int.reduceLT, Int.reduceEq, h10]) (by simp only [go_sem, Nat.reduceLT, Nat.reduceEqDiff, reduceCtorEq, Int.reduceLT, Int.reduceEq, hs]) (by rw [List.getElem?_set_self (lt_of_get hA)]) (fun s' g' a1 a2 a3 => hQ s' g' a1 ⟨?_, ?_, ?_, a2.2.2.2⟩ ?_)
    · rw [a2.1]; simp only [go_sem, Nat.reduceLT, Nat.reduceEqDiff, reduceCtorEq, Int.reduceLT, Int.reduceEq]
    · rw [a2.2.1]; simp only [go_sem, Nat.reduceLT, Nat.reduceEqDiff, reduceCtorEq, Int.reduceLT, Int.reduceEq]
    · rw [a2.2.2.1]; simp only [go_sem, Nat.reduceLT, Nat.reduceEqDiff, reduceCtorEq, Int.reduceLT, Int.reduceEq]
    · rw [a3, List.set_set]
end Go.V04

set_option linter.unusedSimpArgs false
set_option linter.unusedVariables false
namespace Go.V04
open Go Go.Vm

/-- The document's device is the program's. -/
structure TIs (d : D) (S L : CV) (w f : Int) (fu : Bool) (le : Int) : Prop where
  s : ∃ e, SlV 1 e (.cv S) ∧ SE e d.firm
  l : ∃ e, SlV 2 e (.cv L) ∧ LE e d.loose
  w : w = d.w
  f : f = d.f
  fu : fu = d.fused
  le : d.fused = true → le = d.left ∧ 0 ≤ le ∧ le < 1000000

theorem TIs.burn {d : D} {S L : CV} {w f : Int} {fu : Bool} {le : Int} (h : TIs d S L w f fu le) : TIs d.burnt S L w f fu (rBurn fu le).1 ∧ (rBurn fu le).2 = !d.dark := by
  have hf := h.fu
  have hl := h.le
  unfold rBurn D.dark
  rw [hf]
  cases hfu : d.fused with
  | false =>
    refine ⟨⟨by rw [burnt_firm]; exact h.s, by rw [burnt_loose]; exact h.l, by rw [burnt_w]; exact h.w, by rw [burnt_f]; exact h.f, by rw [burnt_fused, hfu], fun e => ?_⟩, by simp⟩
    rw [burnt_fused, hfu] at e; cases e
  | true =>
    obtain ⟨e1, e2, e3⟩ := hl hfu
    by_cases c : le = 0
    · have hdk : d.dark = true := by unfold D.dark; rw [hfu, ← e1, c]; simp
      have hb : d.burnt = d := by unfold D.burnt; rw [if_pos hdk]
      rw [hb, c, ← e1, c]
      refine ⟨⟨h.s, h.l, h.w, h.f, hfu.symm, fun _ => ⟨by rw [← e1, c]; simp, by simp, by simp⟩⟩, by simp⟩
    · have hdk : d.dark = false := by unfold D.dark; rw [hfu, ← e1]; simp [c]
      have hb : d.burnt = { d with left := IntKind.i64.wrap (d.left - 1) } := by unfold D.burnt; rw [if_neg (by rw [hdk]; simp)]
      refine ⟨⟨by rw [burnt_firm]; exact h.s, by rw [burnt_loose]; exact h.l, by rw [burnt_w]; exact h.w, by rw [burnt_f]; exact h.f, by rw [burnt_fused, hfu], fun _ => ?_⟩, by simp [c, ← e1]⟩
      rw [hb]
      simp only [Bool.true_eq_false, if_false, c]
      rw [IntWalk.i64_in _ (by omega), IntWalk.i64_in _ (by omega)]
      exact ⟨by rw [e1], by omega, by omega⟩
end Go.V04

set_option linter.unusedSimpArgs false
set_option linter.unusedVariables false
namespace Go.V04
open Go Go.Vm

theorem bd_own {a0 a1 : VV} {c : CV} {id g o n : Nat} {ex : Bool} : bdO [a0, a1] [(0, 1, .cv c), (1, 1, .own id g o n ex)] = some (.agg [.cv c, .own id g o n ex]) := rfl
theorem mk_own2 {h : Heap} {id : Nat} {z0 z1 : VV} {u : CV} {els : List (List CV)} {n : Nat} (ho : h[id]? = some (.arr 1 els 0 false)) (hn : els.length = n) :
    mkO h 2 1 [z0, z1] [(0, 2, .agg [.cv u, .own id 0 0 n true])] = some (.cv (.sl 2 [[u, .sl 1 els true]] true), h.set id (.arr 1 els 0 true)) := by
  subst hn
  have e1 : fill [z0, z1] [(0, 2, .agg [.cv u, .own id 0 0 els.length true])] = some [.cv u, .own id 0 0 els.length true] := rfl
  have e2 : closL h [.cv u, .own id 0 0 els.length true] = some ([u, .sl 1 els true], h.set id (.arr 1 els 0 true)) := by
    have e3 : ∀ (h : Heap) (c : CV), clos h (.cv c) = some (c, h) := fun _ _ => rfl
    simp [closL, e3, clos, ho]
  simp only [mkO, e1, e2]
  rfl
theorem LE.snoc {els : List (List CV)} {l : List (Nat × List UInt8)} (h : LE els l) (n : Nat) (b : List UInt8) (ex : Bool) : LE (els ++ [[.sc (.int .i64 n), .sl 1 (eB b) ex]]) (l ++ [(n, b)]) := by
  refine ⟨by simp [h.1], fun i o hi => ?_⟩
  rw [List.getElem?_append] at hi ⊢
  rw [h.1]
  split at hi
  · rename_i hlt
    rw [if_pos hlt]; exact h.2 i o hi
  · rename_i hge
    rw [if_neg hge]
    rw [List.getElem?_singleton] at hi ⊢
    split at hi
    · rename_i e
      cases hi
      exact ⟨ex, by rw [if_pos e]⟩
    · cases hi

theorem rwrite_f32 {d : D} {S L : CV} {w f : Int} {fu : Bool} {le : Int} (hT : TIs d S L w f fu le) (hO : d.OK) (hll : d.loose.length ≤ 200) (i : Int) (b : List UInt8) (u : VV) (hu : SlV 1 (eB b) u) (hlb : b.length ≤ maxLen) :
    ∃ v h' L' w' le' , call F 32 [.agg (tC S L w f fu le), vi .i64 i, u] [] = some (.ret v, h') ∧ closRes h' v = some (.tup [.agg (tC S L' w' f fu le'), vi .i64 ((d.write i b).2 : Nat)]) ∧ TIs (d.write i b).1 S L' w' f fu le' := by
  have : ∀ h : Heap, ∃ v h', call F 32 [.agg (tC S L w f fu le), vi .i64 i, u] h = some (.ret v, h') ∧ (fun v h' => ∃ L' w' le', closRes h' v = some (.tup [.agg (tC S L' w' f fu le'), vi .i64 ((d.write i b).2 : Nat)]) ∧ TIs (d.write i b).1 S L' w' f fu le') v h' := by
    intro h
    refine call_E (fn := f32) rfl ?_
    simp only [f32]
    generalize hs0 : ([.agg (tC S L w f fu le), vi .i64 i, u] ++ List.replicate _ VV.undef : List VV) = s
    have hs : s.length = 66 := by rw [← hs0]; rfl
    have h0 : s.getD 0 .undef = .agg (tC S L w f fu le) := by rw [← hs0]; rfl
    have h1 : s.getD 1 .undef = vi .i64 i := by rw [← hs0]; rfl
    have h2 : s.getD 2 .undef = u := by rw [← hs0]; rfl
    clear hs0
    obtain ⟨eS, hSS, hSE⟩ := hT.s
    obtain ⟨eL, hSL, hLE⟩ := hT.l
    simp only [go_sem, Nat.reduceLT, Nat.reduceEqDiff, reduceCtorEq, Int.reduceLT, Int.reduceEq, hs, h0]
    rw [bx_agg (n := 6) rfl]
    simp only [go_sem, Nat.reduceLT, Nat.reduceEqDiff, reduceCtorEq, Int.reduceLT, Int.reduceEq, hs]
    generalize hg1 : h ++ [VO.box (tC S L w f fu le) false] = g1
    have q1 : (g1 ++ [VO.box [nilS, nilS, vi .i64 0, vi .i64 0, vb false, vi .i64 0] false])[h.length]? = some (.box (tC S L w f fu le) false) := by rw [← hg1]; simp
    have q2 : (g1 ++ [VO.box [nilS, nilS, vi .i64 0, vi .i64 0, vb false, vi .i64 0] false])[g1.length]? = some (.box [nilS, nilS, vi .i64 0, vi .i64 0, vb false, vi .i64 0] false) := at_last
    have hne : h.length ≠ g1.length := by rw [← hg1]; simp
    generalize hg2 : g1 ++ [VO.box [nilS, nilS, vi .i64 0, vi .i64 0, vb false, vi .i64 0] false] = g2 at q1 q2
    have hl2 : g2.length = g1.length + 1 := by rw [← hg2]; simp
    have hl1 : g1.length = h.length + 1 := by rw [← hg1]; simp
    obtain ⟨k0, _, _, _, _, _, k6⟩ := ld6 q1
    have e20 := sta6 q2 (a' := .cv S) (b' := .cv L) (c' := vi .i64 w) (d' := vi .i64 f) (e' := vb fu) (f' := vi .i64 le)
    have fin : ∀ {cells : List VV} {e : Int} {s' : List VV} {g : Heap} {P : VV → Heap → Prop}, s'.length = 66 → cells.length = 6 → s'.getD 6 .undef = .ptr g1.length 0 → s'.getD 7 .undef = vi .i64 e → g[g1.length]? = some (.box cells false) → P (.tup [.agg cells, vi .i64 e]) g →
        RQ [.cell 6 true 6, .t 7] P .ret ⟨s', g⟩ := by
      intro cells e s' g P a1 a6 a2 a3 a4 a5
      refine RQ_c1 a2 a4 a6 (by omega) ?_
      rw [a3]; exact a5
    rw [X_eq f32_0.eq_1]
    have hhas : d.has i = (decide (0 ≤ i) && decide (i < (d.firm.length : Int))) := rfl
    have hn1 := hSE.1
    have no : d.has i = false → (d.write i b) = (d, 20) := fun e => by unfold D.write; rw [if_pos e]
    by_cases c1 : i < 0
    · simp only [go_sem, Nat.reduceLT, Nat.reduceEqDiff, reduceCtorEq, Int.reduceLT, Int.reduceEq, hs, h1, c1, k6, e20]
      refine fin (e := 20) (by simp only [slot_len, hs]) rfl (by simp only [go_sem, Nat.reduceLT, Nat.reduceEqDiff, reduceCtorEq, Int.reduceLT, Int.reduceEq, hs]) (by simp only [go_sem, Nat.reduceLT, Nat.reduceEqDiff, reduceCtorEq, Int.reduceLT, Int.reduceEq, hs]) (by rw [List.getElem?_set_self (lt_of_get q2)]) ?_
      rw [no (by rw [hhas]; simp; omega)]
      exact ⟨L, w, le, rfl, hT⟩
    · by_cases c2 : (eS.length : Int) ≤ i
      · simp only [go_sem, Nat.reduceLT, Nat.reduceEqDiff, reduceCtorEq, Int.reduceLT, Int.reduceEq, hs, h1, c1, k0, hSS.ln, ge_iff_le, c2, k6, e20]
        refine fin (e := 20) (by simp only [slot_len, hs]) rfl (by simp only [go_sem, Nat.reduceLT, Nat.reduceEqDiff, reduceCtorEq, Int.reduceLT, Int.reduceEq, hs]) (by simp only [go_sem, Nat.reduceLT, Nat.reduceEqDiff, reduceCtorEq, Int.reduceLT, Int.reduceEq, hs]) (by rw [List.getElem?_set_self (lt_of_get q2)]) ?_
        rw [no (by rw [hhas]; simp; omega)]
        exact ⟨L, w, le, rfl, hT⟩
      · have hyes : d.has i = true := by rw [hhas]; simp; omega
        simp only [go_sem, Nat.reduceLT, Nat.reduceEqDiff, reduceCtorEq, Int.reduceLT, Int.reduceEq, hs, h1, c1, k0, hSS.ln, ge_iff_le, c2]
        rw [X_eq f32_1.eq_1]
        by_cases c3 : (64 : Int) < (b.length : Int)
        · simp only [go_sem, Nat.reduceLT, Nat.reduceEqDiff, reduceCtorEq, Int.reduceLT, Int.reduceEq, hs, h2, hu.ln, eB_len, gt_iff_lt, c3, k6, e20]
          refine fin (e := 3) (by simp only [slot_len, hs]) rfl (by simp only [go_sem, Nat.reduceLT, Nat.reduceEqDiff, reduceCtorEq, Int.reduceLT, Int.reduceEq, hs]) (by simp only [go_sem, Nat.reduceLT, Nat.reduceEqDiff, reduceCtorEq, Int.reduceLT, Int.reduceEq, hs]) (by rw [List.getElem?_set_self (lt_of_get q2)]) ?_
          have e : d.write i b = (d, 3) := by unfold D.write; rw [if_neg (by rw [hyes]; simp), if_pos (by omega)]
          rw [e]
          exact ⟨L, w, le, rfl, hT⟩
        · have c3' : ¬ 64 < b.length := by omega
          simp only [go_sem, Nat.reduceLT, Nat.reduceEqDiff, reduceCtorEq, Int.reduceLT, Int.reduceEq, hs, h2, hu.ln, eB_len, gt_iff_lt, c3, k6]
          obtain ⟨v4, h4, n4, r4⟩ := rburn_f41 S L w f fu le
          refine XO_callP (h1 := g2) (by simp only [List.map, go_sem, Nat.reduceLT, Nat.reduceEqDiff, reduceCtorEq, Int.reduceLT, Int.reduceEq, hs]; rfl) n4 r4 ?_
          obtain ⟨hTb, hok⟩ := hT.burn
          generalize hle : (rBurn fu le).1 = le1 at *
          rw [hok]
          simp only [go_sem, Nat.reduceLT, Nat.reduceEqDiff, reduceCtorEq, Int.reduceLT, Int.reduceEq, hs]
          rw [st_l_n]
          have q3 := (Ext.push g2 (VO.box (tC S L w f fu le1) false)).get q1
          have q6 := (Ext.push g2 (VO.box (tC S L w f fu le1) false)).get q2
          have q8 : (g2 ++ [VO.box (tC S L w f fu le1) false])[g2.length]? = some (.box (tC S L w f fu le1) false) := at_last
          generalize hg3 : g2 ++ [VO.box (tC S L w f fu le1) false] = g3 at q3 q6 q8
          have hl3 : g3.length = g2.length + 1 := by rw [← hg3]; simp
          obtain ⟨_, _, _, _, _, _, m6⟩ := ld6 q8
          have e60 := sta6 q6 (a' := .cv S) (b' := .cv L) (c' := vi .i64 w) (d' := vi .i64 f) (e' := vb fu) (f' := vi .i64 le1)
          simp only [go_sem, Nat.reduceLT, Nat.reduceEqDiff, reduceCtorEq, Int.reduceLT, Int.reduceEq, hs]
          rw [X_eq f32_2.eq_1]
          cases hdk : d.dark with
          | true =>
            rw [hdk] at hok
            simp only [go_sem, Nat.reduceLT, Nat.reduceEqDiff, reduceCtorEq, Int.reduceLT, Int.reduceEq, hs, Bool.not_true, Bool.not_false, m6, e60]
            refine fin (e := 0) (by simp only [slot_len, hs]) rfl (by simp only [go_sem, Nat.reduceLT, Nat.reduceEqDiff, reduceCtorEq, Int.reduceLT, Int.reduceEq, hs]) (by simp only [go_sem, Nat.reduceLT, Nat.reduceEqDiff, reduceCtorEq, Int.reduceLT, Int.reduceEq, hs]) (by rw [List.getElem?_set_self (lt_of_get q6)]) ?_
            have e : d.write i b = (d, 0) := by unfold D.write; rw [if_neg (by rw [hyes]; simp), if_neg c3', if_pos hdk]
            have eb : d.burnt = d := by unfold D.burnt; rw [if_pos hdk]
            rw [eb] at hTb
            rw [e]
            exact ⟨L, w, le1, rfl, hTb⟩
          | false =>
            simp only [go_sem, Nat.reduceLT, Nat.reduceEqDiff, reduceCtorEq, Int.reduceLT, Int.reduceEq, hs, Bool.not_true, Bool.not_false]
            have P4 : d.write i b = ({ d.burnt with loose := d.loose ++ [(i.toNat, pad b)], w := d.w + 1 }, 0) := by
              unfold D.write; rw [if_neg (by rw [hyes]; simp), if_neg c3', if_neg (by rw [hdk]; simp)]
            obtain ⟨k, rfl⟩ : ∃ k : Nat, i = (k : Int) := ⟨i.toNat, by omega⟩
            refine XO_mks (k := .i64) (k' := .i64) (a := 64) (by simp only [go_sem, Nat.reduceLT, Nat.reduceEqDiff, reduceCtorEq, Int.reduceLT, Int.reduceEq]; rfl) (by simp only [go_sem, Nat.reduceLT, Nat.reduceEqDiff, reduceCtorEq, Int.reduceLT, Int.reduceEq]; rfl) (by decide) (by decide) ?_
            rw [eB_replicate, show List.replicate 64 (0 : UInt8) = cpB b 0 from rfl]
            simp only [go_sem, Nat.reduceLT, Nat.reduceEqDiff, reduceCtorEq, Int.reduceLT, Int.reduceEq, hs]
            refine f32_loop hu (by omega) (id := g3.length) b.length 0 _ _ _ (by omega) (by simp only [slot_len, hs]) (by simp only [go_sem, Nat.reduceLT, Nat.reduceEqDiff, reduceCtorEq, Int.reduceLT, Int.reduceEq, h2]) (by simp only [go_sem, Nat.reduceLT, Nat.reduceEqDiff, reduceCtorEq, Int.reduceLT, Int.reduceEq, hs]) (by simp only [go_sem, Nat.reduceLT, Nat.reduceEqDiff, reduceCtorEq, Int.reduceLT, Int.reduceEq, hs]; rfl) at_last (fun s5 g5 a1 ⟨b1, b6, b8, b10⟩ hg5 => ?_)
            have b1' : s5.getD 1 .undef = vi .i64 (k : Int) := by rw [b1]; simp only [go_sem, Nat.reduceLT, Nat.reduceEqDiff, reduceCtorEq, Int.reduceLT, Int.reduceEq, h1]
            have b6' : s5.getD 6 .undef = .ptr g1.length 0 := by rw [b6]; simp only [go_sem, Nat.reduceLT, Nat.reduceEqDiff, reduceCtorEq, Int.reduceLT, Int.reduceEq, hs]
            have b8' : s5.getD 8 .undef = .ptr g2.length 0 := by rw [b8]; simp only [go_sem, Nat.reduceLT, Nat.reduceEqDiff, reduceCtorEq, Int.reduceLT, Int.reduceEq, hs]
            clear b1 b6 b8
            rw [set_last'] at hg5
            have w6 : g5[g1.length]? = some (.box [nilS, nilS, vi .i64 0, vi .i64 0, vb false, vi .i64 0] false) := by rw [hg5]; exact (Ext.push g3 _).get q6
            have w8 : g5[g2.length]? = some (.box (tC S L w f fu le1) false) := by rw [hg5]; exact (Ext.push g3 _).get q8
            have wa : g5[g3.length]? = some (.arr 1 (eB (pad b)) 0 false) := by rw [hg5]; exact at_last
            obtain ⟨_, l81, _⟩ := ld6 w8
            have hlen := hLE.1
            simp only [go_sem, Nat.reduceLT, Nat.reduceEqDiff, reduceCtorEq, Int.reduceLT, Int.reduceEq, a1, b8', l81]
            refine XO_appG (els := []) (new := eL) (BufG.nil g5 2) (by simp only [go_sem, Nat.reduceLT, Nat.reduceEqDiff, reduceCtorEq, Int.reduceLT, Int.reduceEq, a1]) (by simp only [go_sem, Nat.reduceLT, Nat.reduceEqDiff, reduceCtorEq, Int.reduceLT, Int.reduceEq, a1]; exact hSL.src) (by simp only [List.length_nil]; omega) (by simp only [List.length_nil]; omega) (fun v6 g6 B6 _ K6 => ?_)
            rw [List.nil_append] at B6
            have x6 := K6 _ _ w6 (by intro e g h; cases h)
            have x8 := K6 _ _ w8 (by intro e g h; cases h)
            have xa := K6 _ _ wa (by intro e g h; cases h)
            have hp64 : (eB (pad b)).length = 64 := by rw [eB_len, pad_len (by omega)]
            simp only [go_sem, Nat.reduceLT, Nat.reduceEqDiff, reduceCtorEq, Int.reduceLT, Int.reduceEq, a1, b1', b10, bd_own, mk_own2 xa hp64]
            have n1 : g3.length ≠ g1.length := by omega
            have n2 : g3.length ≠ g2.length := by omega
            have y6 : (g6.set g3.length (.arr 1 (eB (pad b)) 0 true))[g1.length]? = some (.box [nilS, nilS, vi .i64 0, vi .i64 0, vb false, vi .i64 0] false) := by rw [List.getElem?_set_ne n1]; exact x6
            have y8 : (g6.set g3.length (.arr 1 (eB (pad b)) 0 true))[g2.length]? = some (.box (tC S L w f fu le1) false) := by rw [List.getElem?_set_ne n2]; exact x8
            refine XO_appG (els := eL) (new := [[.sc (.int .i64 k), .sl 1 (eB (pad b)) true]]) (BufG.setArr B6 xa (by decide) (.arr 1 (eB (pad b)) 0 true)) (by simp only [go_sem, Nat.reduceLT, Nat.reduceEqDiff, reduceCtorEq, Int.reduceLT, Int.reduceEq, a1]) (by simp only [go_sem, Nat.reduceLT, Nat.reduceEqDiff, reduceCtorEq, Int.reduceLT, Int.reduceEq, a1]) (by simp only [List.length_singleton]; omega) (by simp only [List.length_singleton]; omega) (fun v8 g8 B8 _ K8 => ?_)
            have z6 := K8 _ _ y6 (by intro e g h; cases h)
            have z8 := K8 _ _ y8 (by intro e g h; cases h)
            have hcell : isCell v8 = true := by rcases B8 with ⟨e, _⟩ | ⟨id, g, _, rfl, _⟩; · simp at e
                                                · rfl
            obtain ⟨_, s81, _⟩ := st6 z8 hcell
            have t8 : (g8.set g2.length (.box [.cv S, v8, vi .i64 w, vi .i64 f, vb fu, vi .i64 le1] false))[g2.length]? = some (.box [.cv S, v8, vi .i64 w, vi .i64 f, vb fu, vi .i64 le1] false) := by rw [List.getElem?_set_self (lt_of_get z8)]
            obtain ⟨_, _, l82, _⟩ := ld6 t8
            obtain ⟨_, _, s82, _⟩ := st6 t8 (v := vi .i64 (IntKind.i64.wrap (w + 1))) rfl
            have u8 : ((g8.set g2.length (.box [.cv S, v8, vi .i64 w, vi .i64 f, vb fu, vi .i64 le1] false)).set g2.length (.box [.cv S, v8, vi .i64 (IntKind.i64.wrap (w + 1)), vi .i64 f, vb fu, vi .i64 le1] false))[g2.length]? = some (.box [.cv S, v8, vi .i64 (IntKind.i64.wrap (w + 1)), vi .i64 f, vb fu, vi .i64 le1] false) := by rw [List.getElem?_set_self (lt_of_get t8)]
            obtain ⟨_, _, _, _, _, _, l86⟩ := ld6 u8
            have n3 : g2.length ≠ g1.length := by omega
            have u6 : ((g8.set g2.length (.box [.cv S, v8, vi .i64 w, vi .i64 f, vb fu, vi .i64 le1] false)).set g2.length (.box [.cv S, v8, vi .i64 (IntKind.i64.wrap (w + 1)), vi .i64 f, vb fu, vi .i64 le1] false))[g1.length]? = some (.box [nilS, nilS, vi .i64 0, vi .i64 0, vb false, vi .i64 0] false) := by
              rw [List.getElem?_set_ne n3, List.getElem?_set_ne n3]; exact z6
            have e80 := sta6 u6 (a' := .cv S) (b' := v8) (c' := vi .i64 (IntKind.i64.wrap (w + 1))) (d' := vi .i64 f) (e' := vb fu) (f' := vi .i64 le1)
            have B9 := ((B8.setBox z8 (.box [.cv S, v8, vi .i64 w, vi .i64 f, vb fu, vi .i64 le1] false)).setBox t8 (.box [.cv S, v8, vi .i64 (IntKind.i64.wrap (w + 1)), vi .i64 f, vb fu, vi .i64 le1] false)).setBox u6 (.box [.cv S, v8, vi .i64 (IntKind.i64.wrap (w + 1)), vi .i64 f, vb fu, vi .i64 le1] false)
            simp only [go_sem, Nat.reduceLT, Nat.reduceEqDiff, reduceCtorEq, Int.reduceLT, Int.reduceEq, a1, b8', b6', s81, l82, s82, l86, e80]
            refine fin (e := 0) (by simp only [slot_len, a1]) rfl (by simp only [go_sem, Nat.reduceLT, Nat.reduceEqDiff, reduceCtorEq, Int.reduceLT, Int.reduceEq, b6']) (by simp only [go_sem, Nat.reduceLT, Nat.reduceEqDiff, reduceCtorEq, Int.reduceLT, Int.reduceEq, a1]) (by rw [List.getElem?_set_self (lt_of_get u6)]) ?_
            obtain ⟨cL, hF, x1, x2⟩ := buf_clos B9
            rw [P4]
            have hw1 : IntKind.i64.wrap (w + 1) = ((d.w + 1 : Nat) : Int) := by
              have := hO.w
              rw [hT.w, IntWalk.i64_in _ (by omega)]; omega
            refine ⟨cL, IntKind.i64.wrap (w + 1), le1, ?_, ⟨hTb.s, ⟨eL ++ [[.sc (.int .i64 k), .sl 1 (eB (pad b)) true]], ?_, hLE.snoc k (pad b) true⟩, hw1, hTb.f, hTb.fu, hTb.le⟩⟩
            · simp only [closRes, closAs, closA, closL, x1, clA_cv]
              rfl
            · rw [x2]; exact slV_SlV
  obtain ⟨v, h', e1, L', w', le', e2⟩ := this []
  exact ⟨v, h', L', w', le', e1, e2⟩
end Go.V04
