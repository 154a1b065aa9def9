/- Part of a proof: of what it says, and when, each theorem tells itself. -/
import Derived.Test.YtjjmkcmolmjpeaaC07All5
import Derived.Test.YtjjmkcmolmjpeaaVmAll2
import Derived.Test.YtjjmkcmolmjpeaaRows
set_option linter.unusedSimpArgs false
set_option linter.unusedVariables false
namespace Go.V07
open Go Go.Vm

/-! ### copies -/
theorem cloneB_f36 {b : List UInt8} {u : VV} (hu : SlV 1 (eB b) u) (hb : b.length ≤ 1000000000) : RetP F 36 [u] (SlV 1 (eB b)) := by
  have : Ret F 36 [u] [] fun v g => ∃ w, closRes g v = some w ∧ SlV 1 (eB b) w := by
    refine call_E (fn := f36) rfl ?_
    simp only [f36]
    generalize hs0 : ([u] ++ List.replicate _ VV.undef : List VV) = s
    have hs : s.length = 8 := by rw [← hs0]; rfl
    have h0 : s.getD 0 .undef = u := by rw [← hs0]; rfl
    clear hs0
    simp only [go_sem, Nat.reduceLT, Nat.reduceEqDiff, reduceCtorEq, Int.reduceLT, Int.reduceEq, hs]
    rw [X_eq f36_0.eq_1]
    rcases hu with ⟨rfl, e⟩ | ⟨ex, rfl⟩
    · simp only [go_sem, Nat.reduceLT, Nat.reduceEqDiff, reduceCtorEq, Int.reduceLT, Int.reduceEq, hs, h0]
      exact ⟨nilS, rfl, .inl ⟨rfl, e⟩⟩
    · have m0 : mkO ([] : Heap) 1 0 [] [] = some (.cv (.sl 1 [] true), []) := rfl
      simp only [go_sem, Nat.reduceLT, Nat.reduceEqDiff, reduceCtorEq, Int.reduceLT, Int.reduceEq, hs, h0, m0]
      refine XO_appPB (h0 := []) (els := []) (new := eB b) ⟨HExt.refl _, .inr (.inl ⟨rfl, rfl⟩)⟩ (by simp only [go_sem, Nat.reduceLT, Nat.reduceEqDiff, reduceCtorEq, Int.reduceLT, Int.reduceEq, hs]) (by simp only [go_sem, Nat.reduceLT, Nat.reduceEqDiff, reduceCtorEq, Int.reduceLT, Int.reduceEq, hs]) (by rw [eB_len, List.length_nil]; omega) (by rw [eB_len, List.length_nil]; omega) (fun v' h' B _ _ => ?_)
      simp only [go_sem, Nat.reduceLT, Nat.reduceEqDiff, reduceCtorEq, Int.reduceLT, Int.reduceEq, hs]
      obtain ⟨w, h1, c1, c2, _⟩ := B.vf.clos
      refine ⟨w, ?_, by simpa using c2⟩
      have hc := B.cellv
      cases v' with
      | tup l => simp [isCell] at hc
      | _ => simp only [closRes, c1, Option.map]
  obtain ⟨v, g, n1, w, e1, e2⟩ := this
  exact ⟨v, g, n1, w, e1, e2⟩

theorem cloneR_f30 {h : Heap} {els : List (List CV)} {u : VV} (hu : VF h 2 els u) (hb : els.length ≤ 1000000000) : Ret F 30 [u] h fun v g => PB h g 2 els v := by
  refine call_E (fn := f30) rfl ?_
  simp only [f30]
  generalize hs0 : ([u] ++ List.replicate _ VV.undef : List VV) = s
  have hs : s.length = 8 := by rw [← hs0]; rfl
  have h0 : s.getD 0 .undef = u := by rw [← hs0]; rfl
  clear hs0
  simp only [go_sem, Nat.reduceLT, Nat.reduceEqDiff, reduceCtorEq, Int.reduceLT, Int.reduceEq, hs]
  rw [X_eq f30_0.eq_1]
  have m0 : ∀ h : Heap, mkO h 2 0 [] [] = some (.cv (.sl 2 [] true), h) := fun _ => rfl
  have hu' := hu
  rcases hu with (⟨rfl, rfl⟩ | ⟨ex, rfl⟩) | ⟨id, g, off, ex, fr, full, rfl, a2, a3, a4⟩
  · simp only [go_sem, Nat.reduceLT, Nat.reduceEqDiff, reduceCtorEq, Int.reduceLT, Int.reduceEq, hs, h0]
    exact (NB.nil _ _).pb
  all_goals
    have hsrc := hu'.src
    simp only [go_sem, Nat.reduceLT, Nat.reduceEqDiff, reduceCtorEq, Int.reduceLT, Int.reduceEq, hs, h0, m0]
    refine XO_appPB (h0 := h) (els := []) (new := els) ⟨HExt.refl _, .inr (.inl ⟨rfl, rfl⟩)⟩ (by simp only [go_sem, Nat.reduceLT, Nat.reduceEqDiff, reduceCtorEq, Int.reduceLT, Int.reduceEq, hs]) (by simp only [go_sem, Nat.reduceLT, Nat.reduceEqDiff, reduceCtorEq, Int.reduceLT, Int.reduceEq, hs, h0]; first | done | exact hsrc) (by rw [List.length_nil]; omega) (by rw [List.length_nil]; omega) (fun v' h' B _ _ => ?_)
    simp only [go_sem, Nat.reduceLT, Nat.reduceEqDiff, reduceCtorEq, Int.reduceLT, Int.reduceEq, hs]
    simpa using B

/-! ### what is looked for among rows -/
/-- Where the first is; -1: there is none. -/
def idxF (p : KV → Bool) : Nat → List KV → Int
  | _, [] => -1
  | i, r :: l => if p r then (i : Int) else idxF p (i + 1) l

/-- A value that says of a row whether it is one, in heaps of which something is told. -/
structure Tells (B : Heap → Prop) (f : Nat) (caps : List VV) (p : KV → Bool) : Prop where
  lt : f < YB
  ext : ∀ h g : Heap, HExt h g → B h → B g
  set : ∀ (h : Heap) (id z : Nat) (els : List (List CV)) (g : Nat) (fr : Bool) (o : VO), h[id]? = some (.arr z els g fr) → B h → B (h.set id o)
  call : ∀ (h : Heap) (k l : List UInt8) (c : CV), B h → SlV 1 (eB l) (.cv c) → Ret F f ([.agg [txt k, .cv c]] ++ caps) h fun v g => v = vb (p (k, l)) ∧ HExt h g

theorem f33_loop {els : List (List CV)} {l : List KV} {u : VV} {h0 : Heap} {f : Nat} {caps : List VV} {p : KV → Bool} {B : Heap → Prop} (hu : VF h0 2 els u) (hR : RowsE els l) (hl : l.length ≤ 1000000000) (ht : Tells B f caps p) (hB : B h0) :
    ∀ (m i : Nat) (s : List VV) (h : Heap) (Q : Pst), i + m = l.length → HExt h0 h → s.length = 19 → s.getD 0 .undef = u → s.getD 1 .undef = .func f caps → s.getD 7 .undef = vi .i64 l.length → s.getD 8 .undef = vi .i64 i →
      (∀ s' h', s'.length = 19 → HExt h0 h' → idxF p i (l.drop i) = -1 → Q (.exit 0) ⟨s', h'⟩) → (∀ s' h', s'.length = 19 → HExt h0 h' → s'.getD 4 .undef = vi .i64 (idxF p i (l.drop i)) → Q .ret ⟨s', h'⟩) → X F (.loop f33_1) ⟨s, h⟩ Q := by
  intro m
  have hpl := hR.len
  induction m with
  | zero =>
    intro i s h Q hi hx hs e0 e1 e7 e8 hN hY
    have c : ¬ ((i : Nat) : Int) < (l.length : Int) := by omega
    have hd : l.drop i = [] := List.drop_eq_nil_of_le (by omega)
    rw [hd] at hN
    rw [X_loop, X_eq f33_1.eq_1]
    simp only [go_sem, Nat.reduceLT, Nat.reduceEqDiff, reduceCtorEq, Int.reduceLT, Int.reduceEq, hs, e8, e7]
    rw [X_eq f33_0.eq_1]
    simp only [go_sem, Nat.reduceLT, Nat.reduceEqDiff, reduceCtorEq, Int.reduceLT, Int.reduceEq, hs, c]
    exact hN _ _ (by simp only [slot_len, hs]) hx rfl
  | succ m ih =>
    intro i s h Q hi hx hs e0 e1 e7 e8 hN hY
    have c : ((i : Nat) : Int) < (l.length : Int) := by omega
    obtain ⟨e, r, he, hr, cc, rfl, hc⟩ := hR.get (i := i) (by omega)
    have hd : l.drop i = r :: l.drop (i + 1) := by
      obtain ⟨la, e⟩ := List.getElem?_eq_some_iff.1 hr
      rw [List.drop_eq_getElem_cons la, e]
    rw [hd, idxF] at hN hY
    obtain ⟨q, q1, q2, _, _⟩ := (hu.ext hx).cell (k := .i64) he
    have q2' := q2 2 rfl
    have hwr : IntKind.i64.wrap ((i : Int) + 1) = ((i + 1 : Nat) : Int) := by rw [IntWalk.i64_in _ (by omega)]; omega
    obtain ⟨v, g, n1, rfl, x1⟩ := ht.call h r.1 r.2 cc (ht.ext _ _ hx hB) hc
    rw [X_loop, X_eq f33_1.eq_1]
    simp only [go_sem, Nat.reduceLT, Nat.reduceEqDiff, reduceCtorEq, Int.reduceLT, Int.reduceEq, hs, e8, e7]
    rw [X_eq f33_0.eq_1]
    simp only [go_sem, Nat.reduceLT, Nat.reduceEqDiff, reduceCtorEq, Int.reduceLT, Int.reduceEq, hs, c, e8, e1, e0, q1, q2', List.map]
    refine XO_callvR (f := f) (caps := caps) (by simp only [go_sem, Nat.reduceLT, Nat.reduceEqDiff, reduceCtorEq, Int.reduceLT, Int.reduceEq, hs]) (by simp only [List.map, go_sem, Nat.reduceLT, Nat.reduceEqDiff, reduceCtorEq, Int.reduceLT, Int.reduceEq, hs]; exact n1) ?_ ht.lt
    cases hp : p r with
    | true =>
      rw [if_pos hp] at hY
      simp only [go_sem, Nat.reduceLT, Nat.reduceEqDiff, reduceCtorEq, Int.reduceLT, Int.reduceEq, hs, show p (r.1, r.2) = true from hp]
      exact hY _ _ (by simp only [slot_len, hs]) (hx.trans x1) (by simp only [go_sem, Nat.reduceLT, Nat.reduceEqDiff, reduceCtorEq, Int.reduceLT, Int.reduceEq, hs])
    | false =>
      rw [if_neg (by rw [hp]; decide)] at hN hY
      simp only [go_sem, Nat.reduceLT, Nat.reduceEqDiff, reduceCtorEq, Int.reduceLT, Int.reduceEq, hs, show p (r.1, r.2) = false from hp, e8, hwr]
      exact ih (i + 1) _ _ Q (by omega) (hx.trans x1) (by simp only [slot_len, hs]) (by simp only [go_sem, Nat.reduceLT, Nat.reduceEqDiff, reduceCtorEq, Int.reduceLT, Int.reduceEq, e0]) (by simp only [go_sem, Nat.reduceLT, Nat.reduceEqDiff, reduceCtorEq, Int.reduceLT, Int.reduceEq, e1]) (by simp only [go_sem, Nat.reduceLT, Nat.reduceEqDiff, reduceCtorEq, Int.reduceLT, Int.reduceEq, e7]) (by simp only [go_sem, Nat.reduceLT, Nat.reduceEqDiff, reduceCtorEq, Int.reduceLT, Int.reduceEq, hs]) hN hY

theorem index_f33 {els : List (List CV)} {l : List KV} {u : VV} {h : Heap} {f : Nat} {caps : List VV} {p : KV → Bool} {B : Heap → Prop} (hu : VF h 2 els u) (hR : RowsE els l) (hl : l.length ≤ 1000000000) (ht : Tells B f caps p) (hB : B h) :
    Ret F 33 [u, .func f caps] h fun v g => v = vi .i64 (idxF p 0 l) ∧ HExt h g := by
  refine call_E (fn := f33) rfl ?_
  simp only [f33]
  generalize hs0 : ([u, .func f caps] ++ List.replicate _ VV.undef : List VV) = s
  have hs : s.length = 19 := by rw [← hs0]; rfl
  have h0 : s.getD 0 .undef = u := by rw [← hs0]; rfl
  have h1 : s.getD 1 .undef = .func f caps := by rw [← hs0]; rfl
  clear hs0
  have hpl := hR.len
  have hln := hu.ln
  rw [hpl] at hln
  simp only [go_sem, Nat.reduceLT, Nat.reduceEqDiff, reduceCtorEq, Int.reduceLT, Int.reduceEq, hs, h0, hln]
  refine f33_loop hu hR hl ht hB l.length 0 _ _ _ (by omega) (HExt.refl _) (by simp only [slot_len, hs]) (by simp only [go_sem, Nat.reduceLT, Nat.reduceEqDiff, reduceCtorEq, Int.reduceLT, Int.reduceEq, h0]) (by simp only [go_sem, Nat.reduceLT, Nat.reduceEqDiff, reduceCtorEq, Int.reduceLT, Int.reduceEq, h1]) (by simp only [go_sem, Nat.reduceLT, Nat.reduceEqDiff, reduceCtorEq, Int.reduceLT, Int.reduceEq, hs]) (by simp only [go_sem, Nat.reduceLT, Nat.reduceEqDiff, reduceCtorEq, Int.reduceLT, Int.reduceEq, hs]; rfl) (fun s' h' a1 a2 a3 => ?_) (fun s' h' a1 a2 a3 => ?_)
  · rw [List.drop_zero] at a3
    simp only [go_sem, Nat.reduceLT, Nat.reduceEqDiff, reduceCtorEq, Int.reduceLT, Int.reduceEq, a1, a3]
    exact ⟨trivial, a2⟩
  · rw [List.drop_zero] at a3
    simp only [go_sem, Nat.reduceLT, Nat.reduceEqDiff, reduceCtorEq, Int.reduceLT, Int.reduceEq, a1, a3]
    exact ⟨trivial, a2⟩
/-- The row's box, as it is. -/
def BoxAt (p : Nat) (key : List UInt8) (h : Heap) : Prop := ∃ c1 c2, h[p]? = some (.box [txt key, .cv c1, .cv c2] false)
theorem BoxAt.ext {p : Nat} {key : List UInt8} (h g : Heap) (e : HExt h g) (b : BoxAt p key h) : BoxAt p key g := by
  obtain ⟨c1, c2, b⟩ := b; exact ⟨c1, c2, e.get b⟩
theorem BoxAt.set {p : Nat} {key : List UInt8} (h : Heap) (id z : Nat) (els : List (List CV)) (g : Nat) (fr : Bool) (o : VO) (ho : h[id]? = some (.arr z els g fr)) (b : BoxAt p key h) : BoxAt p key (h.set id o) := by
  obtain ⟨c1, c2, b⟩ := b
  exact ⟨c1, c2, by rw [List.getElem?_set_ne (by rintro rfl; rw [ho] at b; cases b)]; exact b⟩
/-- A row of this key; of a greater one. -/
theorem tells_f32 {p : Nat} {key : List UInt8} : Tells (BoxAt p key) 32 [.ptr p 0] (fun r => decide (r.1 = key)) := by
  refine ⟨by decide, BoxAt.ext, BoxAt.set, fun h' k l c hx hc => ?_⟩
  obtain ⟨c1, c2, hp'⟩ := hx
  show Ret F 32 [.agg [txt k, .cv c], .ptr p 0] h' _
  refine call_E (fn := f32) rfl ?_
  simp only [f32]
  generalize hs0 : ([.agg [txt k, .cv c], .ptr p 0] ++ List.replicate _ VV.undef : List VV) = s
  have hs : s.length = 9 := by rw [← hs0]; rfl
  have h0 : s.getD 0 .undef = .agg [txt k, .cv c] := by rw [← hs0]; rfl
  have h1 : s.getD 1 .undef = .ptr p 0 := by rw [← hs0]; rfl
  clear hs0
  have x1 := HExt.push h' (.box [txt k, .cv c] false)
  have e1 : (h' ++ [VO.box [txt k, .cv c] false])[h'.length]? = some (.box [txt k, .cv c] false) := at_last
  have l1 : ldO (h' ++ [VO.box [txt k, .cv c] false]) false 1 (.ptr h'.length 0) = some (txt k, h' ++ [VO.box [txt k, .cv c] false]) := ld_ptr e1 rfl
  have l2 : ldO (h' ++ [VO.box [txt k, .cv c] false]) false 1 (.ptr p 0) = some (txt key, h' ++ [VO.box [txt k, .cv c] false]) := ld_ptr (x1.get hp') rfl
  simp only [go_sem, Nat.reduceLT, Nat.reduceEqDiff, reduceCtorEq, Int.reduceLT, Int.reduceEq, hs, h0, h1]
  rw [bx_agg (show [txt k, .cv c].length = 2 from rfl)]
  simp only [go_sem, Nat.reduceLT, Nat.reduceEqDiff, reduceCtorEq, Int.reduceLT, Int.reduceEq, hs, l1, l2, bo_eql, h1]
  exact ⟨trivial, x1⟩
theorem tells_f34 {p : Nat} {key : List UInt8} : Tells (BoxAt p key) 34 [.ptr p 0] (fun r => Op.bytesLess key r.1) := by
  refine ⟨by decide, BoxAt.ext, BoxAt.set, fun h' k l c hx hc => ?_⟩
  obtain ⟨c1, c2, hp'⟩ := hx
  show Ret F 34 [.agg [txt k, .cv c], .ptr p 0] h' _
  refine call_E (fn := f34) rfl ?_
  simp only [f34]
  generalize hs0 : ([.agg [txt k, .cv c], .ptr p 0] ++ List.replicate _ VV.undef : List VV) = s
  have hs : s.length = 9 := by rw [← hs0]; rfl
  have h0 : s.getD 0 .undef = .agg [txt k, .cv c] := by rw [← hs0]; rfl
  have h1 : s.getD 1 .undef = .ptr p 0 := by rw [← hs0]; rfl
  clear hs0
  have x1 := HExt.push h' (.box [txt k, .cv c] false)
  have e1 : (h' ++ [VO.box [txt k, .cv c] false])[h'.length]? = some (.box [txt k, .cv c] false) := at_last
  have l1 : ldO (h' ++ [VO.box [txt k, .cv c] false]) false 1 (.ptr h'.length 0) = some (txt k, h' ++ [VO.box [txt k, .cv c] false]) := ld_ptr e1 rfl
  have l2 : ldO (h' ++ [VO.box [txt k, .cv c] false]) false 1 (.ptr p 0) = some (txt key, h' ++ [VO.box [txt k, .cv c] false]) := ld_ptr (x1.get hp') rfl
  simp only [go_sem, Nat.reduceLT, Nat.reduceEqDiff, reduceCtorEq, Int.reduceLT, Int.reduceEq, hs, h0, h1]
  rw [bx_agg (show [txt k, .cv c].length = 2 from rfl)]
  simp only [go_sem, Nat.reduceLT, Nat.reduceEqDiff, reduceCtorEq, Int.reduceLT, Int.reduceEq, hs, l1, l2, bo_gtr, h1]
  exact ⟨trivial, x1⟩
end Go.V07

set_option linter.unusedSimpArgs false
set_option linter.unusedVariables false
namespace Go.V07
open Go Go.Vm

theorem idxF_spec (p : KV → Bool) : ∀ (l : List KV) (i : Nat), (idxF p i l = -1 ∧ ∀ r ∈ l, p r = false) ∨ ∃ k r, idxF p i l = ((i + k : Nat) : Int) ∧ l[k]? = some r ∧ p r = true ∧ ∀ r ∈ l.take k, p r = false
  | [], i => .inl ⟨rfl, fun r h => by simp at h⟩
  | r :: l, i => by
    unfold idxF
    cases hp : p r with
    | true => exact .inr ⟨0, r, by simp, rfl, hp, fun _ h => by simp at h⟩
    | false =>
      rw [if_neg (by decide)]
      rcases idxF_spec p l (i + 1) with ⟨e, h⟩ | ⟨k, q, e, h1, h2, h3⟩
      · refine .inl ⟨e, fun q hq => ?_⟩
        rcases List.mem_cons.1 hq with rfl | hq
        · exact hp
        · exact h q hq
      · refine .inr ⟨k + 1, q, by rw [e]; omega, by simpa using h1, h2, fun q hq => ?_⟩
        rw [List.take_succ_cons] at hq
        rcases List.mem_cons.1 hq with rfl | hq
        · exact hp
        · exact h3 q hq
theorem filter_none {p : KV → Bool} {l : List KV} (h : ∀ r ∈ l, p r = false) : l.filter (fun r => !p r) = l := by
  rw [List.filter_eq_self]
  intro r hr; rw [h r hr]; rfl

theorem XO_clrO {F : Nat → Option FnIR} {z id g off len : Nat} {zero : List CV} {x : Opd} {s : List VV} {h : Heap} {d : Option Nat} {r : List Op1} {Q : Pst} {ex : Bool} {full : List (List CV)} (hx : evalO s x = .own id g off len ex) (ho : h[id]? = some (.arr z full g false)) (hl : off + len ≤ full.length)
    (hk : XO F r ⟨putD s d .undef, h.set id (.arr z (splice full off (List.replicate len zero)) g false)⟩ Q) : XO F (⟨none, d, .clr z zero x⟩ :: r) ⟨s, h⟩ Q := by
  have e : stepI h (evalO s) (.clr z zero x) = some (.undef, h.set id (.arr z (splice full off (List.replicate len zero)) g false)) := by
    simp [stepI, hx, ho, hl]
  rw [XO_ins rfl, e, XV_some]
  exact hk
theorem rowE_len {e : List CV} {r : KV} (h : rowE e r) : e.length = 2 := by
  obtain ⟨c, rfl, _⟩ := h; rfl

section
variable {els : List (List CV)} {l : List KV} {h0 : Heap} {f : Nat} {caps : List VV} {p : KV → Bool} {B : Heap → Prop}
theorem f31_loop (hR : RowsE els l) (hl : l.length ≤ 1000000000) (ht : Tells B f caps p) {id g : Nat} (hid : h0.length ≤ id) :
    ∀ (m i j : Nat) (full elsK : List (List CV)) (s : List VV) (h : Heap) (Q : Pst), j + m = l.length → i ≤ j → HExt h0 h → B h → h[id]? = some (.arr 2 full g false) → l.length ≤ full.length → full.take i = elsK → elsK.length = i → RowsE elsK ((l.take j).filter (fun r => !p r)) → (∀ t, j ≤ t → t < l.length → full[t]? = els[t]?) → (∀ t, t < l.length → ∃ e, full[t]? = some e ∧ e.length = 2) →
      s.length = 42 → s.getD 0 .undef = .own id g 0 l.length false → s.getD 1 .undef = .func f caps → s.getD 5 .undef = vi .i64 i → s.getD 6 .undef = vi .i64 j →
      (∀ s' h' i' full' elsK', s'.length = 42 → HExt h0 h' → B h' → i' ≤ l.length → h'[id]? = some (.arr 2 full' g false) → l.length ≤ full'.length → full'.take i' = elsK' → elsK'.length = i' → RowsE elsK' (l.filter (fun r => !p r)) → s'.getD 0 .undef = .own id g 0 l.length false → s'.getD 5 .undef = vi .i64 i' → Q (.exit 0) ⟨s', h'⟩) → X F (.loop f31_1) ⟨s, h⟩ Q := by
  intro m
  have hpl := hR.len
  induction m with
  | zero =>
    intro i j full elsK s h Q hj hij hx hB ha hfl htk hkl hRK hfr hlen hs e0 e1 e5 e6 hQ
    have c : ¬ ((j : Nat) : Int) < (l.length : Int) := by omega
    have hd : l.take j = l := List.take_of_length_le (by omega)
    rw [hd] at hRK
    rw [X_loop, X_eq f31_1.eq_1]
    simp only [go_sem, Nat.reduceLT, Nat.reduceEqDiff, reduceCtorEq, Int.reduceLT, Int.reduceEq, hs, e6, e0, c]
    exact hQ _ h i full elsK (by simp only [slot_len, hs]) hx hB (by omega) ha hfl htk hkl hRK (by simp only [go_sem, Nat.reduceLT, Nat.reduceEqDiff, reduceCtorEq, Int.reduceLT, Int.reduceEq, e0]) (by simp only [go_sem, Nat.reduceLT, Nat.reduceEqDiff, reduceCtorEq, Int.reduceLT, Int.reduceEq, e5])
  | succ m ih =>
    intro i j full elsK s h Q hj hij hx hB ha hfl htk hkl hRK hfr hlen hs e0 e1 e5 e6 hQ
    have c : ((j : Nat) : Int) < (l.length : Int) := by omega
    obtain ⟨e, r, he, hr, cc, rfl, hc⟩ := hR.get (i := j) (by omega)
    have htake : l.take (j + 1) = l.take j ++ [r] := by
      obtain ⟨la, e⟩ := List.getElem?_eq_some_iff.1 hr
      rw [List.take_succ_eq_append_getElem la, e]
    have hfj : full[j]? = some [.sc (.string ⟨r.1.toArray⟩), cc] := by rw [hfr j (Nat.le_refl _) (by omega)]; exact he
    have ia : iaO h 2 (.own id g 0 l.length false) (vi .i64 (j : Int)) = some (.eptr id g (0 + j) 0, h) := ia_own (by omega) ha (by simpa using by omega)
    rw [Nat.zero_add] at ia
    have la : ldO h true 2 (.eptr id g j 0) = some (.agg [txt r.1, .cv cc], h) := ld_ecells ha hfj rfl
    have hwj : IntKind.i64.wrap ((j : Int) + 1) = ((j + 1 : Nat) : Int) := by rw [IntWalk.i64_in _ (by omega)]; omega
    have hwi : IntKind.i64.wrap ((i : Int) + 1) = ((i + 1 : Nat) : Int) := by rw [IntWalk.i64_in _ (by omega)]; omega
    have stb : ∀ a b : VV, stO (h ++ [.box [a, b] false]) 2 (.ptr h.length 0) (.agg [txt r.1, .cv cc]) = some (.undef, h ++ [.box [txt r.1, .cv cc] false]) := fun a b => st_l_2
    have x1 := HExt.push h (.box [txt r.1, .cv cc] false)
    have b1 : (h ++ [VO.box [txt r.1, .cv cc] false])[h.length]? = some (.box [txt r.1, .cv cc] false) := at_last
    have lb := ld_bxN (n := 2) b1 rfl
    obtain ⟨v, g1, n1, rfl, x2⟩ := ht.call _ r.1 r.2 cc (ht.ext _ _ x1 hB) hc
    have hB1 := ht.ext _ _ (x1.trans x2) hB
    have ha1 := (x1.trans x2).get ha
    have b2 := x2.get b1
    have lb2 := ld_bxN (n := 2) b2 rfl
    have hx1 := (hx.trans x1).trans x2
    rw [X_loop, X_eq f31_1.eq_1]
    simp only [go_sem, Nat.reduceLT, Nat.reduceEqDiff, reduceCtorEq, Int.reduceLT, Int.reduceEq, hs, e6, e0, c, ia, la, stb, lb, e1, List.map]
    refine XO_callvR (f := f) (caps := caps) (by simp only [go_sem, Nat.reduceLT, Nat.reduceEqDiff, reduceCtorEq, Int.reduceLT, Int.reduceEq, hs]) (by simp only [List.map, go_sem, Nat.reduceLT, Nat.reduceEqDiff, reduceCtorEq, Int.reduceLT, Int.reduceEq, hs]; exact n1) ?_ ht.lt
    cases hp : p r with
    | true =>
      simp only [go_sem, Nat.reduceLT, Nat.reduceEqDiff, reduceCtorEq, Int.reduceLT, Int.reduceEq, hs, show p (r.1, r.2) = true from hp, e6, hwj]
      refine ih i (j + 1) full elsK _ _ Q (by omega) (by omega) hx1 hB1 ha1 hfl htk hkl (by rw [htake, List.filter_append]; simpa [hp] using hRK) (fun t h1 h2 => hfr t (by omega) h2) hlen (by simp only [slot_len, hs]) (by simp only [go_sem, Nat.reduceLT, Nat.reduceEqDiff, reduceCtorEq, Int.reduceLT, Int.reduceEq, e0]) (by simp only [go_sem, Nat.reduceLT, Nat.reduceEqDiff, reduceCtorEq, Int.reduceLT, Int.reduceEq, e1]) (by simp only [go_sem, Nat.reduceLT, Nat.reduceEqDiff, reduceCtorEq, Int.reduceLT, Int.reduceEq, e5]) (by simp only [go_sem, Nat.reduceLT, Nat.reduceEqDiff, reduceCtorEq, Int.reduceLT, Int.reduceEq, hs]) hQ
    | false =>
      have ia2 : iaO g1 2 (.own id g 0 l.length false) (vi .i64 (i : Int)) = some (.eptr id g (0 + i) 0, g1) := ia_own (by omega) ha1 (by simpa using by omega)
      rw [Nat.zero_add] at ia2
      obtain ⟨ei, hei, heil⟩ := hlen i (by omega)
      have st2 : stO g1 2 (.eptr id g i 0) (.agg [txt r.1, .cv cc]) = some (.undef, g1.set id (.arr 2 (full.set i [.sc (.string ⟨r.1.toArray⟩), cc]) g false)) := st_ecells (cs := [.sc (.string ⟨r.1.toArray⟩), cc]) rfl ha1 hei heil
      simp only [go_sem, Nat.reduceLT, Nat.reduceEqDiff, reduceCtorEq, Int.reduceLT, Int.reduceEq, hs, show p (r.1, r.2) = false from hp, e6, e5, e0, hwj, lb2, ia2, st2, hwi]
      refine ih (i + 1) (j + 1) (full.set i [.sc (.string ⟨r.1.toArray⟩), cc]) (elsK ++ [[.sc (.string ⟨r.1.toArray⟩), cc]]) _ _ Q (by omega) (by omega) (hx1.set hid _) (ht.set _ _ _ _ _ _ _ ha1 hB1) (List.getElem?_set_self (lt_at ha1)) (by rw [List.length_set]; exact hfl) ?_ (by simp; omega) ?_ ?_ ?_ (by simp only [slot_len, hs]) (by simp only [go_sem, Nat.reduceLT, Nat.reduceEqDiff, reduceCtorEq, Int.reduceLT, Int.reduceEq, e0]) (by simp only [go_sem, Nat.reduceLT, Nat.reduceEqDiff, reduceCtorEq, Int.reduceLT, Int.reduceEq, e1]) (by simp only [go_sem, Nat.reduceLT, Nat.reduceEqDiff, reduceCtorEq, Int.reduceLT, Int.reduceEq, hs]) (by simp only [go_sem, Nat.reduceLT, Nat.reduceEqDiff, reduceCtorEq, Int.reduceLT, Int.reduceEq, hs]) hQ
      · have hil : i < full.length := by omega
        rw [List.take_succ_eq_append_getElem (by rw [List.length_set]; omega), List.getElem_set_self, List.take_set_of_le (Nat.le_refl _), htk]
      · rw [htake, List.filter_append]
        simp only [List.filter_cons, hp, Bool.not_false, if_true, List.filter_nil]
        exact hRK.snoc ⟨cc, rfl, hc⟩
      · intro t h1 h2
        rw [List.getElem?_set_ne (by omega)]
        exact hfr t (by omega) h2
      · intro t ht2
        by_cases hti : i = t
        · subst hti
          exact ⟨_, List.getElem?_set_self (by omega), rfl⟩
        · rw [List.getElem?_set_ne hti]; exact hlen t ht2

/-- Rows less those that a function tells. -/
theorem delete_f31 {h : Heap} {v : VV} (hv : PB h0 h 2 els v) (hR : RowsE els l) (hl : l.length ≤ 1000000000) (ht : Tells B f caps p) (hB : B h) :
    Ret F 31 [v, .func f caps] h fun v' g => B g ∧ ∃ els', PB h0 g 2 els' v' ∧ RowsE els' (l.filter (fun r => !p r)) := by
  have hpl := hR.len
  obtain ⟨v33, g1, n33, rfl, x1⟩ := index_f33 hv.vf hR hl ht hB
  have hv1 := hv.then x1
  have hB1 := ht.ext _ _ x1 hB
  refine call_E (fn := f31) rfl ?_
  simp only [f31]
  generalize hs0 : ([v, .func f caps] ++ List.replicate _ VV.undef : List VV) = s
  have hs : s.length = 42 := by rw [← hs0]; rfl
  have h0 : s.getD 0 .undef = v := by rw [← hs0]; rfl
  have h1 : s.getD 1 .undef = .func f caps := by rw [← hs0]; rfl
  clear hs0
  simp only [go_sem, Nat.reduceLT, Nat.reduceEqDiff, reduceCtorEq, Int.reduceLT, Int.reduceEq, hs, h0, h1]
  refine XO_callR (by simp only [List.map, go_sem, Nat.reduceLT, Nat.reduceEqDiff, reduceCtorEq, Int.reduceLT, Int.reduceEq, hs]; exact n33) ?_
  simp only [go_sem, Nat.reduceLT, Nat.reduceEqDiff, reduceCtorEq, Int.reduceLT, Int.reduceEq, hs]
  rw [X_eq f31_0.eq_1]
  rcases idxF_spec p l 0 with ⟨e, hno⟩ | ⟨k, r, e, hk1, hk2, hk3⟩
  · have e' : idxF p 0 l = -1 := e
    simp only [go_sem, Nat.reduceLT, Nat.reduceEqDiff, reduceCtorEq, Int.reduceLT, Int.reduceEq, hs, e', h0]
    exact ⟨hB1, els, hv1, by rw [filter_none hno]; exact hR⟩
  · have hkl := (List.getElem?_eq_some_iff.1 hk1).1
    rw [Nat.zero_add] at e
    have c1 : ¬ idxF p 0 l = -1 := by omega
    have hwk : IntKind.i64.wrap ((k : Int) + 1) = ((k + 1 : Nat) : Int) := by rw [IntWalk.i64_in _ (by omega)]; omega
    rcases hv1.v with ⟨e0, _⟩ | ⟨e0, _⟩ | ⟨id, g, full, hid, rfl, a2, a3, a4⟩
    · rw [e0] at hpl; simp at hpl; omega
    · rw [e0] at hpl; simp at hpl; omega
    simp only [go_sem, Nat.reduceLT, Nat.reduceEqDiff, reduceCtorEq, Int.reduceLT, Int.reduceEq, hs, c1, e, hwk]
    have hfr : ∀ t, t < l.length → full[t]? = els[t]? := fun t ht => by
      rw [a4, List.getElem?_take, if_pos (by omega)]
    refine f31_loop hR hl ht hid (l.length - (k + 1)) k (k + 1) full (els.take k) _ _ _ (by omega) (by omega) hv1.ext hB1 a2 (by omega) (by rw [a4, List.take_take, Nat.min_eq_left (by omega)]) (by rw [List.length_take]; omega) ?_ (fun t _ h2 => hfr t h2) (fun t h2 => ?_) (by simp only [slot_len, hs]) (by simp only [go_sem, Nat.reduceLT, Nat.reduceEqDiff, reduceCtorEq, Int.reduceLT, Int.reduceEq, h0, hpl]) (by simp only [go_sem, Nat.reduceLT, Nat.reduceEqDiff, reduceCtorEq, Int.reduceLT, Int.reduceEq, h1]) (by simp only [go_sem, Nat.reduceLT, Nat.reduceEqDiff, reduceCtorEq, Int.reduceLT, Int.reduceEq, hs]) (by simp only [go_sem, Nat.reduceLT, Nat.reduceEqDiff, reduceCtorEq, Int.reduceLT, Int.reduceEq, hs]) (fun s' h' i' full' elsK' b0 b1 b2 b3 b4 b5 b6 b7 b8 b9 b10 => ?_)
    · rw [List.take_succ_eq_append_getElem hkl, List.filter_append, filter_none hk3]
      have : l[k] = r := (List.getElem?_eq_some_iff.1 hk1).2
      rw [this]
      simp only [List.filter_cons, hk2, Bool.not_true, Bool.false_eq_true, if_false, List.filter_nil, List.append_nil]
      exact take_rows hR k
    · obtain ⟨e1, r1, he1, _, hr1⟩ := hR.get h2
      exact ⟨e1, by rw [hfr t h2]; exact he1, rowE_len hr1⟩
    · have sl1 : slO h' 2 (.own id g 0 l.length false) (some (vi .i64 (i' : Int))) none none = some (.own id g (0 + i') (l.length - i') false, h') := by
        have : (i' : Int) ≤ (l.length : Int) := by omega
        simp [slO, stepI, rhoO, lenV, bnd, intV, this, b4]
      simp only [go_sem, Nat.reduceLT, Nat.reduceEqDiff, reduceCtorEq, Int.reduceLT, Int.reduceEq, b0, b9, b10, sl1]
      refine XO_clrO (full := full') (off := 0 + i') (len := l.length - i') (ex := false) (by simp only [go_sem, Nat.reduceLT, Nat.reduceEqDiff, reduceCtorEq, Int.reduceLT, Int.reduceEq, b0]) b4 (by omega) ?_
      have b4' := List.getElem?_set_self (a := VO.arr 2 (splice full' (0 + i') (List.replicate (l.length - i') [CV.sc (.string ⟨#[]⟩), .sc (.slice none 0 0)])) g false) (lt_at b4)
      have hspl : (splice full' (0 + i') (List.replicate (l.length - i') [CV.sc (.string ⟨#[]⟩), .sc (.slice none 0 0)])).length = full'.length := splice_len (by simp; omega)
      have htk : (splice full' (0 + i') (List.replicate (l.length - i') [CV.sc (.string ⟨#[]⟩), .sc (.slice none 0 0)])).take i' = elsK' := by
        unfold splice
        rw [Nat.zero_add, List.append_assoc, List.take_append_of_le_length (by rw [List.length_take]; omega), List.take_take, Nat.min_self, b6]
      have bB := ht.set _ _ _ _ _ _ (VO.arr 2 (splice full' (0 + i') (List.replicate (l.length - i') [CV.sc (.string ⟨#[]⟩), .sc (.slice none 0 0)])) g false) b4 b2
      have bX := b1.set hid (VO.arr 2 (splice full' (0 + i') (List.replicate (l.length - i') [CV.sc (.string ⟨#[]⟩), .sc (.slice none 0 0)])) g false)
      generalize h'.set id (VO.arr 2 (splice full' (0 + i') (List.replicate (l.length - i') [CV.sc (.string ⟨#[]⟩), .sc (.slice none 0 0)])) g false) = h2 at b4' bB bX
      have sl2 : slO h2 2 (.own id g 0 l.length false) none (some (vi .i64 (i' : Int))) none = some (.own id g 0 i' false, h2) := by
        have : (i' : Int) ≤ (l.length : Int) := by omega
        simp [slO, stepI, rhoO, lenV, bnd, intV, this, b4']
      simp only [go_sem, Nat.reduceLT, Nat.reduceEqDiff, reduceCtorEq, Int.reduceLT, Int.reduceEq, b0, b9, b10, sl2]
      exact ⟨bB, elsK', ⟨bX, .inr (.inr ⟨id, g, _, hid, by rw [b7], b4', by omega, by rw [b7, htk]⟩)⟩, b8⟩
end
end Go.V07

set_option linter.unusedSimpArgs false
set_option linter.unusedVariables false
namespace Go.V07
open Go Go.Vm

/-- A row laid at the end. -/
theorem insert_end {h0 h : Heap} {els : List (List CV)} {v : VV} {e : List CV} (hv : PB h0 h 2 els v) (hl : els.length ≤ 1000000000) :
    Ret F 35 [v, vi .i64 (els.length : Nat), .cv (.sl 2 [e] true)] h fun v' g => PB h0 g 2 (els ++ [e]) v' := by
  refine call_E (fn := f35) rfl ?_
  simp only [f35]
  generalize hs0 : ([v, vi .i64 (els.length : Nat), .cv (.sl 2 [e] true)] ++ List.replicate _ VV.undef : List VV) = s
  have hs : s.length = 95 := by rw [← hs0]; rfl
  have h0 : s.getD 0 .undef = v := by rw [← hs0]; rfl
  have h1 : s.getD 1 .undef = vi .i64 (els.length : Nat) := by rw [← hs0]; rfl
  have h2 : s.getD 2 .undef = .cv (.sl 2 [e] true) := by rw [← hs0]; rfl
  clear hs0
  obtain ⟨w, w1, w2⟩ := hv.vf.from_ (k := .i64) (n := els.length) (Nat.le_refl _)
  have c1 : ¬ ((([e] : List (List CV)).length : Nat) : Int) = 0 := by simp
  simp only [go_sem, Nat.reduceLT, Nat.reduceEqDiff, reduceCtorEq, Int.reduceLT, Int.reduceEq, hs, h0, h1, h2, w1]
  rw [X_eq f35_0.eq_1]
  simp only [go_sem, Nat.reduceLT, Nat.reduceEqDiff, reduceCtorEq, Int.reduceLT, Int.reduceEq, hs, c1, h0, hv.vf.ln]
  rw [X_eq f35_1.eq_1]
  simp only [go_sem, Nat.reduceLT, Nat.reduceEqDiff, reduceCtorEq, Int.reduceLT, Int.reduceEq, hs, h1, h0, h2]
  refine XO_appPB hv (new := [e]) (by simp only [go_sem, Nat.reduceLT, Nat.reduceEqDiff, reduceCtorEq, Int.reduceLT, Int.reduceEq, hs]) (by simp only [go_sem, Nat.reduceLT, Nat.reduceEqDiff, reduceCtorEq, Int.reduceLT, Int.reduceEq, hs]) (by simp only [List.length_singleton]; omega) (by simp only [List.length_singleton]; omega) (fun v' h' B _ _ => ?_)
  simp only [go_sem, Nat.reduceLT, Nat.reduceEqDiff, reduceCtorEq, Int.reduceLT, Int.reduceEq, hs]
  exact B

/-! ### rows behind changes -/
def posA (l : List KV) (key : List UInt8) : Nat := if idxF (fun r => Op.bytesLess key r.1) 0 l < 0 then l.length else (idxF (fun r => Op.bytesLess key r.1) 0 l).toNat
def lessK (l : List KV) (key : List UInt8) : List KV := l.filter (fun r => !decide (r.1 = key))
def stepA (l : List KV) (x : Ch) : List KV := if x.2.2 = true then lessK l x.1 else (lessK l x.1).take (posA (lessK l x.1) x.1) ++ (x.1, x.2.1) :: (lessK l x.1).drop (posA (lessK l x.1) x.1)
def applyF (l : List KV) (c : List Ch) : List KV := c.foldl stepA l
theorem posA_le (l : List KV) (key : List UInt8) : posA l key ≤ l.length := by
  unfold posA
  rcases idxF_spec (fun r => Op.bytesLess key r.1) l 0 with ⟨e, _⟩ | ⟨k, r, e, h1, _, _⟩
  · rw [e]; simp
  · have := (List.getElem?_eq_some_iff.1 h1).1
    rw [e, Nat.zero_add]
    rw [if_neg (by omega)]; omega
theorem lessK_len (l : List KV) (key : List UInt8) : (lessK l key).length ≤ l.length := List.length_filter_le _ _
theorem stepA_len (l : List KV) (x : Ch) : (stepA l x).length ≤ l.length + 1 := by
  have h1 := lessK_len l x.1
  have h2 := posA_le (lessK l x.1) x.1
  unfold stepA
  split
  · omega
  · rw [List.length_append, List.length_cons, List.length_take, List.length_drop]; omega

theorem take_E {els : List (List CV)} {kv : List KV} (hR : RowsE els kv) (n : Nat) : RowsE (els.take n) (kv.take n) := take_rows hR n
theorem drop_E {els : List (List CV)} {kv : List KV} (hR : RowsE els kv) (n : Nat) : RowsE (els.drop n) (kv.drop n) := by
  induction hR generalizing n with
  | nil => simp; exact .nil
  | cons h t ih =>
    cases n with
    | zero => exact .cons h t
    | succ n => exact ih n
theorem app_E {l m : List (List CV)} {k j : List KV} (h : RowsE l k) (h2 : RowsE m j) : RowsE (l ++ m) (k ++ j) := by
  induction h with
  | nil => exact h2
  | cons h _ ih => exact .cons h ih

/-- What is known of rows that are laid somewhere: anywhere ('G'), or at the end. -/
def InsC (G : Prop) : Prop := ∀ (h0 h : Heap) (els : List (List CV)) (v : VV) (e : List CV) (i : Nat), PB h0 h 2 els v → i ≤ els.length → e.length = 2 → els.length ≤ 1000000 → (∀ x ∈ els, x.length = 2) → (G ∨ i = els.length) →
  Ret F 35 [v, vi .i64 i, .cv (.sl 2 [e] true)] h fun v' g => PB h0 g 2 (els.take i ++ e :: els.drop i) v'
theorem insC_end : InsC False := by
  intro h0 h els v e i hv hi he hl _ hG
  obtain rfl : i = els.length := hG.resolve_left id
  obtain ⟨v', g, n, P⟩ := insert_end (e := e) hv (by omega)
  exact ⟨v', g, n, by rw [List.take_length, List.drop_length]; exact P⟩

section
variable {G : Prop} {cs : List Ch} {elsC : List (List CV)} {uc : VV} {h0 : Heap}
theorem f18_loop (hI : InsC G) (hC : ChsE elsC cs) (huc : SlV 3 elsC uc) (hcl : cs.length ≤ 100000) (hval : ∀ x ∈ cs, x.2.1.length ≤ 1000000000) :
    ∀ (m i : Nat) (l : List KV) (els : List (List CV)) (v : VV) (s : List VV) (h : Heap) (Q : Pst), i + m = cs.length → l.length ≤ 100000 + i → PB h0 h 2 els v → RowsE els l →
      (G ∨ ∀ c1 x c2, cs.drop i = c1 ++ x :: c2 → x.2.2 = false → posA (lessK (applyF l c1) x.1) x.1 = (lessK (applyF l c1) x.1).length) →
      s.length = 41 → s.getD 5 .undef = v → s.getD 11 .undef = uc → s.getD 12 .undef = vi .i64 cs.length → s.getD 13 .undef = vi .i64 i →
      (∀ s' h' els' v', s'.length = 41 → s'.getD 5 .undef = v' → PB h0 h' 2 els' v' → RowsE els' (applyF l (cs.drop i)) → Q (.exit 0) ⟨s', h'⟩) → X F (.loop f18_3) ⟨s, h⟩ Q := by
  intro m
  have hpl := hC.len
  induction m with
  | zero =>
    intro i l els v s h Q hi hll hP hR hG hs e5 e11 e12 e13 hQ
    have c : ¬ ((i : Nat) : Int) < (cs.length : Int) := by omega
    have hd : cs.drop i = [] := List.drop_eq_nil_of_le (by omega)
    rw [hd] at hQ
    rw [X_loop, X_eq f18_3.eq_1]
    simp only [go_sem, Nat.reduceLT, Nat.reduceEqDiff, reduceCtorEq, Int.reduceLT, Int.reduceEq, hs, e13, e12]
    rw [X_eq f18_0.eq_1]
    simp only [go_sem, Nat.reduceLT, Nat.reduceEqDiff, reduceCtorEq, Int.reduceLT, Int.reduceEq, hs, c]
    exact hQ _ _ els v (by simp only [slot_len, hs]) (by simp only [go_sem, Nat.reduceLT, Nat.reduceEqDiff, reduceCtorEq, Int.reduceLT, Int.reduceEq, e5]) hP hR
  | succ m ih =>
    intro i l els v s h Q hi hll hP hR hG hs e5 e11 e12 e13 hQ
    have c : ((i : Nat) : Int) < (cs.length : Int) := by omega
    obtain ⟨e, x, he, hx, cc, rfl, hcx⟩ := hC.get (i := i) (by omega)
    have hd : cs.drop i = x :: cs.drop (i + 1) := by
      obtain ⟨la, e⟩ := List.getElem?_eq_some_iff.1 hx
      rw [List.drop_eq_getElem_cons la, e]
    rw [hd] at hQ hG
    have hap : applyF l (x :: cs.drop (i + 1)) = applyF (stepA l x) (cs.drop (i + 1)) := rfl
    rw [hap] at hQ
    have ia : iaO h 3 uc (vi .i64 (i : Int)) = some (.rptr [.sc (.string ⟨x.1.toArray⟩), cc, .sc (.bool x.2.2)], h) := huc.ia (by omega) (by rw [Int.toNat_natCast]; exact he)
    have la : ldO h true 3 (.rptr [.sc (.string ⟨x.1.toArray⟩), cc, .sc (.bool x.2.2)]) = some (.agg [txt x.1, .cv cc, .cv (.sc (.bool x.2.2))], h) := ld_r_3
    have stb : ∀ a b c : VV, stO (h ++ [.box [a, b, c] false]) 3 (.ptr h.length 0) (.agg [txt x.1, .cv cc, .cv (.sc (.bool x.2.2))]) = some (.undef, h ++ [.box [txt x.1, .cv cc, .cv (.sc (.bool x.2.2))] false]) := fun a b c => st_l_3
    have x1 := HExt.push h (.box [txt x.1, .cv cc, .cv (.sc (.bool x.2.2))] false)
    have b1 : (h ++ [VO.box [txt x.1, .cv cc, .cv (.sc (.bool x.2.2))] false])[h.length]? = some (.box [txt x.1, .cv cc, .cv (.sc (.bool x.2.2))] false) := at_last
    have hw13 : IntKind.i64.wrap ((i : Int) + 1) = ((i + 1 : Nat) : Int) := by rw [IntWalk.i64_in _ (by omega)]; omega
    have hll' := hR.len
    obtain ⟨v1, g1, n1, B1, els1, P1, R1⟩ := delete_f31 (B := fun g => g[h.length]? = some (.box [txt x.1, .cv cc, .cv (.sc (.bool x.2.2))] false)) (p := fun r => decide (r.1 = x.1)) (f := 32) (caps := [.ptr h.length 0]) (hP.then x1) hR (by omega)
      ⟨(by decide), fun _ _ e b => e.get b, fun hh id z els g fr o ho b => by rw [List.getElem?_set_ne (by rintro rfl; rw [ho] at b; cases b)]; exact b, fun hh k l c b hc => tells_f32.call hh k l c ⟨_, _, b⟩ hc⟩ b1
    have l20 : ldO g1 false 1 (.ptr h.length 2) = some (.cv (.sc (.bool x.2.2)), g1) := ld_ptr B1 rfl
    have hlk : l.filter (fun r => !decide (r.1 = x.1)) = lessK l x.1 := rfl
    rw [hlk] at R1
    have hlen1 := lessK_len l x.1
    rw [X_loop, X_eq f18_3.eq_1]
    simp only [go_sem, Nat.reduceLT, Nat.reduceEqDiff, reduceCtorEq, Int.reduceLT, Int.reduceEq, hs, e13, e12]
    rw [X_eq f18_0.eq_1]
    simp only [go_sem, Nat.reduceLT, Nat.reduceEqDiff, reduceCtorEq, Int.reduceLT, Int.reduceEq, hs, c, e11, e13, ia, la, stb, e5, List.map]
    refine XO_callR (by simp only [List.map, go_sem, Nat.reduceLT, Nat.reduceEqDiff, reduceCtorEq, Int.reduceLT, Int.reduceEq, hs]; exact n1) ?_
    simp only [go_sem, Nat.reduceLT, Nat.reduceEqDiff, reduceCtorEq, Int.reduceLT, Int.reduceEq, hs]
    rw [X_eq f18_1.eq_1]
    cases hg : x.2.2 with
    | true =>
      have hst : stepA l x = lessK l x.1 := by unfold stepA; rw [if_pos hg]
      rw [hst] at hQ
      rw [hg] at l20
      simp only [go_sem, Nat.reduceLT, Nat.reduceEqDiff, reduceCtorEq, Int.reduceLT, Int.reduceEq, hs, l20, e13, hw13]
      refine ih (i + 1) (lessK l x.1) els1 v1 _ _ Q (by omega) (by omega) P1 R1 ?_ (by simp only [slot_len, hs]) (by simp only [go_sem, Nat.reduceLT, Nat.reduceEqDiff, reduceCtorEq, Int.reduceLT, Int.reduceEq, hs]) (by simp only [go_sem, Nat.reduceLT, Nat.reduceEqDiff, reduceCtorEq, Int.reduceLT, Int.reduceEq, e11]) (by simp only [go_sem, Nat.reduceLT, Nat.reduceEqDiff, reduceCtorEq, Int.reduceLT, Int.reduceEq, e12]) (by simp only [go_sem, Nat.reduceLT, Nat.reduceEqDiff, reduceCtorEq, Int.reduceLT, Int.reduceEq, hs]) hQ
      rcases hG with hG | hG
      · exact .inl hG
      · refine .inr fun c1 y c2 e1 e2 => ?_
        have := hG (x :: c1) y c2 (by rw [e1]; rfl) e2
        rwa [show applyF l (x :: c1) = applyF (lessK l x.1) c1 by show applyF (stepA l x) c1 = _; rw [hst]] at this
    | false =>
      have hst : stepA l x = (lessK l x.1).take (posA (lessK l x.1) x.1) ++ (x.1, x.2.1) :: (lessK l x.1).drop (posA (lessK l x.1) x.1) := by unfold stepA; rw [if_neg (by rw [hg]; decide)]
      rw [hg] at l20 B1
      obtain ⟨v33, g2, n33, rfl, x2⟩ := index_f33 (B := BoxAt h.length x.1) P1.vf R1 (by omega) tells_f34 ⟨_, _, B1⟩
      have P2 := P1.then x2
      have B2 := x2.get B1
      have hl1 := R1.len
      simp only [go_sem, Nat.reduceLT, Nat.reduceEqDiff, reduceCtorEq, Int.reduceLT, Int.reduceEq, hs, l20]
      refine XO_callR (by simp only [List.map, go_sem, Nat.reduceLT, Nat.reduceEqDiff, reduceCtorEq, Int.reduceLT, Int.reduceEq, hs]; exact n33) ?_
      simp only [go_sem, Nat.reduceLT, Nat.reduceEqDiff, reduceCtorEq, Int.reduceLT, Int.reduceEq, hs]
      -- the place
      refine mid (P := fun st => st.h = g2 ∧ st.s.length = 41 ∧ st.s.getD 5 .undef = v1 ∧ st.s.getD 7 .undef = .ptr h.length 0 ∧ st.s.getD 8 .undef = vi .i64 (posA (lessK l x.1) x.1 : Nat) ∧ st.s.getD 11 .undef = uc ∧ st.s.getD 12 .undef = vi .i64 cs.length ∧ st.s.getD 13 .undef = vi .i64 i) ?_ ?_
      · rw [X_eq f18_2.eq_1]
        by_cases d : idxF (fun r => Op.bytesLess x.1 r.1) 0 (lessK l x.1) < 0
        · have hp : posA (lessK l x.1) x.1 = els1.length := by unfold posA; rw [if_pos d, hl1]
          simp only [go_sem, Nat.reduceLT, Nat.reduceEqDiff, reduceCtorEq, Int.reduceLT, Int.reduceEq, hs, d, P2.vf.ln, hp, e11, e12, e13, and_self]
        · have hp : idxF (fun r => Op.bytesLess x.1 r.1) 0 (lessK l x.1) = ((posA (lessK l x.1) x.1 : Nat) : Int) := by unfold posA; rw [if_neg d]; omega
          have d' : ¬ ((posA (lessK l x.1) x.1 : Nat) : Int) < 0 := by omega
          rw [hp]
          simp only [go_sem, Nat.reduceLT, Nat.reduceEqDiff, reduceCtorEq, Int.reduceLT, Int.reduceEq, hs, d', e11, e12, e13, and_self]
      · rintro ⟨s1, g2'⟩ ⟨e, hs1, f5, f7, f8, f11, f12, f13⟩
        dsimp only at e hs1 f5 f7 f8 f11 f12 f13
        subst e
        have lk : ldO g2' false 1 (.ptr h.length 0) = some (txt x.1, g2') := ld_ptr B2 rfl
        have lv : ldO g2' false 1 (.ptr h.length 1) = some (.cv cc, g2') := ld_ptr B2 rfl
        obtain ⟨v36, h36, n36, w36, r36, S36⟩ := cloneB_f36 hcx (hval x (List.mem_of_getElem? hx))
        obtain ⟨c36, rfl⟩ : ∃ c2, w36 = .cv c2 := by rcases S36 with ⟨rfl, _⟩ | ⟨ex, rfl⟩ <;> exact ⟨_, rfl⟩
        have bd : ∀ c : CV, bdO [.cv (.sc (.string ⟨#[]⟩)), .cv (.sc (.slice none 0 0))] [(0, 1, txt x.1), (1, 1, .cv c)] = some (.agg [txt x.1, .cv c]) := fun c => rfl
        have mk : mkO g2' 2 1 [.cv (.sc (.string ⟨#[]⟩)), .cv (.sc (.slice none 0 0))] [(0, 2, .agg [txt x.1, .cv c36])] = some (.cv (.sl 2 [[.sc (.string ⟨x.1.toArray⟩), c36]] true), g2') := mk_agg2
        have hpl := posA_le (lessK l x.1) x.1
        have hGi : G ∨ posA (lessK l x.1) x.1 = els1.length := by
          rcases hG with hG | hG
          · exact .inl hG
          · exact .inr (by rw [hl1]; exact hG [] x _ rfl hg)
        obtain ⟨v35, g5, n35, P5⟩ := hI h0 g2' els1 v1 [.sc (.string ⟨x.1.toArray⟩), c36] (posA (lessK l x.1) x.1) P2 (by omega) rfl (by omega) (fun y hy => by
          obtain ⟨k, hk⟩ := List.mem_iff_getElem?.1 hy
          obtain ⟨e1, r1, he1, _, hr1⟩ := R1.get (i := k) (by have := (List.getElem?_eq_some_iff.1 hk).1; omega)
          rw [hk] at he1; cases he1; exact rowE_len hr1) hGi
        refine X_draw rfl ?_
        simp only [go_sem, Nat.reduceLT, Nat.reduceEqDiff, reduceCtorEq, Int.reduceLT, Int.reduceEq, hs1, f5, f7, f8, lk, lv]
        refine XD_callP (by simp only [List.map, go_sem, Nat.reduceLT, Nat.reduceEqDiff, reduceCtorEq, Int.reduceLT, Int.reduceEq, hs1]; exact hcx.clos rfl) n36 r36 ?_
        simp only [go_sem, Nat.reduceLT, Nat.reduceEqDiff, reduceCtorEq, Int.reduceLT, Int.reduceEq, hs1, bd, mk]
        refine XD_callRk (by simp only [List.map, go_sem, Nat.reduceLT, Nat.reduceEqDiff, reduceCtorEq, Int.reduceLT, Int.reduceEq, hs1]; exact n35) ?_
        simp only [go_sem, Nat.reduceLT, Nat.reduceEqDiff, reduceCtorEq, Int.reduceLT, Int.reduceEq, hs1, f13, hw13]
        rw [hst] at hQ
        refine ih (i + 1) ((lessK l x.1).take (posA (lessK l x.1) x.1) ++ (x.1, x.2.1) :: (lessK l x.1).drop (posA (lessK l x.1) x.1)) _ v35 _ _ Q (by omega) ?_ P5 (app_E (take_E R1 _) (.cons ⟨c36, rfl, S36⟩ (drop_E R1 _))) ?_ (by simp only [slot_len, hs1]) (by simp only [go_sem, Nat.reduceLT, Nat.reduceEqDiff, reduceCtorEq, Int.reduceLT, Int.reduceEq, hs1]) (by simp only [go_sem, Nat.reduceLT, Nat.reduceEqDiff, reduceCtorEq, Int.reduceLT, Int.reduceEq, f11]) (by simp only [go_sem, Nat.reduceLT, Nat.reduceEqDiff, reduceCtorEq, Int.reduceLT, Int.reduceEq, f12]) (by simp only [go_sem, Nat.reduceLT, Nat.reduceEqDiff, reduceCtorEq, Int.reduceLT, Int.reduceEq, hs1]) hQ
        · have := stepA_len l x
          rw [hst] at this; omega
        · rcases hG with hG | hG
          · exact .inl hG
          · refine .inr fun c1 y c2 e1 e2 => ?_
            have := hG (x :: c1) y c2 (by rw [e1]; rfl) e2
            rwa [show applyF l (x :: c1) = applyF ((lessK l x.1).take (posA (lessK l x.1) x.1) ++ (x.1, x.2.1) :: (lessK l x.1).drop (posA (lessK l x.1) x.1)) c1 by show applyF (stepA l x) c1 = _; rw [hst]] at this

theorem apply_f18 (hI : InsC G) {els : List (List CV)} {l : List KV} {u : VV} (hu : SlV 2 els u) (hR : RowsE els l) (hl : l.length ≤ 100000) (hC : ChsE elsC cs) (huc : SlV 3 elsC uc) (hcl : cs.length ≤ 100000) (hval : ∀ x ∈ cs, x.2.1.length ≤ 1000000000)
    (hG : G ∨ ∀ c1 x c2, cs = c1 ++ x :: c2 → x.2.2 = false → posA (lessK (applyF l c1) x.1) x.1 = (lessK (applyF l c1) x.1).length) :
    RetP F 18 [u, uc] fun w => ∃ els', SlV 2 els' w ∧ RowsE els' (applyF l cs) := by
  have : Ret F 18 [u, uc] [] fun v g => ∃ els', PB [] g 2 els' v ∧ RowsE els' (applyF l cs) := by
    have hll := hR.len
    obtain ⟨v30, g30, n30, P30⟩ := cloneR_f30 (h := []) hu.vf (by omega)
    refine call_E (fn := f18) rfl ?_
    simp only [f18]
    generalize hs0 : ([u, uc] ++ List.replicate _ VV.undef : List VV) = s
    have hs : s.length = 41 := by rw [← hs0]; rfl
    have h0 : s.getD 0 .undef = u := by rw [← hs0]; rfl
    have h1 : s.getD 1 .undef = uc := by rw [← hs0]; rfl
    clear hs0
    have hpl := hC.len
    simp only [go_sem, Nat.reduceLT, Nat.reduceEqDiff, reduceCtorEq, Int.reduceLT, Int.reduceEq, hs, h0]
    refine XO_callR (by simp only [List.map, go_sem, Nat.reduceLT, Nat.reduceEqDiff, reduceCtorEq, Int.reduceLT, Int.reduceEq, hs]; exact n30) ?_
    simp only [go_sem, Nat.reduceLT, Nat.reduceEqDiff, reduceCtorEq, Int.reduceLT, Int.reduceEq, hs, h1, huc.ln, hpl]
    refine f18_loop hI hC huc hcl hval cs.length 0 l els v30 _ _ _ (by omega) (by omega) P30 hR (by rw [List.drop_zero]; exact hG) (by simp only [slot_len, hs]) (by simp only [go_sem, Nat.reduceLT, Nat.reduceEqDiff, reduceCtorEq, Int.reduceLT, Int.reduceEq, hs]) (by simp only [go_sem, Nat.reduceLT, Nat.reduceEqDiff, reduceCtorEq, Int.reduceLT, Int.reduceEq, hs]) (by simp only [go_sem, Nat.reduceLT, Nat.reduceEqDiff, reduceCtorEq, Int.reduceLT, Int.reduceEq, hs]) (by simp only [go_sem, Nat.reduceLT, Nat.reduceEqDiff, reduceCtorEq, Int.reduceLT, Int.reduceEq, hs]; rfl) (fun s' h' els' v' a1 a2 a3 a4 => ?_)
    rw [List.drop_zero] at a4
    simp only [go_sem, Nat.reduceLT, Nat.reduceEqDiff, reduceCtorEq, Int.reduceLT, Int.reduceEq, a1, a2]
    exact ⟨els', a3, a4⟩
  obtain ⟨v, g, n1, els', P, R⟩ := this
  obtain ⟨w, g1, c1, c2, _⟩ := P.vf.clos
  refine ⟨v, g, n1, w, ?_, els', c2, R⟩
  have hc := P.cellv
  cases v with
  | tup l => simp [isCell] at hc
  | _ => simp only [closRes, c1, Option.map]
end
end Go.V07

set_option linter.unusedSimpArgs false
set_option linter.unusedVariables false
namespace Go.V07
open Go Go.Vm

theorem XD_appBG {h : Heap} {z by_ : Nat} {zero : List CV} {els new : List (List CV)} {v : VV} {x y : Opd} {s : List VV} {d : Option Nat} {q : List (Op1 × Cl)} {Q : Pst} (b : BufG h z els v) (hx : evalO s x = v) (hy : srcOf h z (evalO s y) = some new) (h1 : (els.length + new.length) * by_ ≤ 35184372088832) (h2 : els.length + new.length ≤ 35184372088832)
    (hk : ∀ v' h', BufG h' z (els ++ new) v' → KG z h h' → XD F q ⟨putD s d v', h'⟩ Q) : XD F ((⟨none, d, .app z by_ zero x y⟩, .k) :: q) ⟨s, h⟩ Q := by
  obtain ⟨v', h', e1, e2, e3⟩ := app_BG (zero := zero) b hx hy h1 h2
  rw [XD_ins rfl, e1, XVD_k]
  exact hk v' h' e2 e3
theorem en_r {neg : Bool} {l : List CV} : enO .ptr neg (.rptr l) = some (vb neg) := by cases neg <;> rfl

/-! ### what has become of rows -/
def delta : Option KV → Option KV → List Ch
  | some x, none => [(x.1, [], true)]
  | none, some y => [(y.1, y.2, false)]
  | some x, some y => if x.2 = y.2 then [] else [(y.1, y.2, false)]
  | none, none => []
def PV (r : Option KV) (v : VV) : Prop := match r with
  | none => v = .cv (.sc (.pointer none))
  | some r => ∃ c, v = .rptr [.sc (.string ⟨r.1.toArray⟩), c] ∧ SlV 1 (eB r.2) (.cv c) ∧ r.2.length ≤ 1000000000

theorem round_diff {s0 : List VV} (hs0 : s0.length = 53) (k5 : s0.getD 5 .undef = .ptr 0 0) {g : Heap} {vo : VV} {els : List (List CV)} {acc : List Ch} (hO : g[0]? = some (.box [vo] false)) (hB : BufG g 3 els vo) (hC : ChsE els acc) {p0 : Option Jmp} (hp : g[3]? = some (.loop [11, 12] f21_0 f21_1 s0 .ready p0))
    {x y : Option KV} {vx vy : VV} (hx : PV x vx) (hy : PV y vy) (hne : x ≠ none ∨ y ≠ none) (hl : els.length ≤ 1000000000) :
    ∃ h' vo' els', call F (YB + 3) [vx, vy] g = some (.ret (vb true), h') ∧ h'[3]? = some (.loop [11, 12] f21_0 f21_1 s0 .ready none) ∧ h'[0]? = some (.box [vo'] false) ∧ BufG h' 3 els' vo' ∧ ChsE els' (acc ++ delta x y) ∧ (∀ j, j ≠ 0 → ∀ (cells : List VV) (fr : Bool), g[j]? = some (.box cells fr) → h'[j]? = some (.box cells fr)) := by
  have key := round_X (F := F) (id := 3) (by cases h : F (YB + 3) with
    | none => rfl
    | some fn => have := (tbl.2 _ fn h).1; omega) (ps := [11, 12]) (asg := f21_0) (body := f21_1) (s0 := s0) (a := [vx, vy]) (h := g) (P := fun v h' => v = vb true ∧ ∃ vo' els', h'[3]? = some (.loop [11, 12] f21_0 f21_1 s0 .ready none) ∧ h'[0]? = some (.box [vo'] false) ∧ BufG h' 3 els' vo' ∧ ChsE els' (acc ++ delta x y) ∧ (∀ j, j ≠ 0 → ∀ (cells : List VV) (fr : Bool), g[j]? = some (.box cells fr) → h'[j]? = some (.box cells fr))) hp rfl ?_
  · obtain ⟨v, h', e1, rfl, vo', els', e2⟩ := key
    exact ⟨h', vo', els', e1, e2⟩
  have hset : setAll s0 [11, 12] [vx, vy] = (s0.set 11 vx).set 12 vy := rfl
  rw [hset, X_eq f21_0.eq_1]
  simp only [go_sem, Nat.reduceLT, Nat.reduceEqDiff, reduceCtorEq, Int.reduceLT, Int.reduceEq, hs0]
  refine ⟨rfl, p0, hp, ?_⟩
  dsimp only
  have hp1 : (g.set 3 (.loop [11, 12] f21_0 f21_1 s0 .busy p0))[3]? = some (.loop [11, 12] f21_0 f21_1 s0 .busy p0) := List.getElem?_set_self (lt_at hp)
  have hO1 : (g.set 3 (.loop [11, 12] f21_0 f21_1 s0 .busy p0))[0]? = some (.box [vo] false) := by rw [List.getElem?_set_ne (by omega)]; exact hO
  have hB1 := hB.setLoop hp (.loop [11, 12] f21_0 f21_1 s0 .busy p0)
  have kp : ∀ (j : Nat) (cells : List VV) (fr : Bool), g[j]? = some (.box cells fr) → (g.set 3 (.loop [11, 12] f21_0 f21_1 s0 .busy p0))[j]? = some (.box cells fr) := fun j cells fr hj => by
    rw [List.getElem?_set_ne (by rintro rfl; rw [hp] at hj; cases hj)]; exact hj
  generalize g.set 3 (.loop [11, 12] f21_0 f21_1 s0 .busy p0) = g1 at hp1 hO1 hB1 kp
  have n3 : ∀ (j : Nat) (cells : List VV) (fr : Bool), g[j]? = some (.box cells fr) → j ≠ 3 := by rintro j cells fr ho rfl; rw [hp] at ho; cases ho
  have fin : ∀ (g2 : Heap) (vo' : VV) (els' : List (List CV)), BufG g2 3 els' vo' → ChsE els' (acc ++ delta x y) → KG 3 g1 g2 → ∃ g3, stO g2 1 (.ptr 0 0) vo' = some (.undef, g3) ∧ ∀ s' : List VV, RB 3 [11, 12] f21_0 f21_1 s0 (fun v h' => v = vb true ∧ ∃ vo' els', h'[3]? = some (.loop [11, 12] f21_0 f21_1 s0 .ready none) ∧ h'[0]? = some (.box [vo'] false) ∧ BufG h' 3 els' vo' ∧ ChsE els' (acc ++ delta x y) ∧ (∀ j, j ≠ 0 → ∀ (cells : List VV) (fr : Bool), g[j]? = some (.box cells fr) → h'[j]? = some (.box cells fr))) .norm ⟨s', g3⟩ := by
    intro g2 vo' els' B2 C2 kg
    have hO2 := kg.box hO1
    have hp2 := kg.loop hp1
    have st2 := st_1 (v := vo') B2.vf_cell hO2 (show 0 < 1 by decide)
    simp only [List.set_cons_zero] at st2
    refine ⟨_, st2, fun s' => ?_⟩
    refine ⟨none, .busy, p0, rfl, by rw [List.getElem?_set_ne (by omega)]; exact hp2, rfl, vo', els', List.getElem?_set_self (by rw [List.length_set]; exact lt_at hp2), ?_, ?_, C2, ?_⟩
    · rw [List.getElem?_set_ne (by omega)]; exact List.getElem?_set_self (lt_at hO2)
    · exact BufG.setLoop (ps := [11, 12]) (a := f21_0) (b := f21_1) (s := s0) (t := .busy) (p := p0) (B2.setBox hO2 _) (by rw [List.getElem?_set_ne (by omega)]; exact hp2) _
    · intro j hj cells fr ho
      have h1 := kg.box (kp j cells fr ho)
      have := n3 j cells fr ho
      rw [List.getElem?_set_ne (fun e => this e.symm), List.getElem?_set_ne (fun e => hj e.symm)]; exact h1
  have bdG : ∀ t : CV, bdO [.cv (.sc (.string ⟨#[]⟩)), .cv (.sc (.slice none 0 0)), .cv (.sc (.bool false))] [(0, 1, .cv t), (2, 1, .cv (.sc (.bool true)))] = some (.agg [.cv t, nilS, .cv (.sc (.bool true))]) := fun t => rfl
  have bdV : ∀ t c : CV, bdO [.cv (.sc (.string ⟨#[]⟩)), .cv (.sc (.slice none 0 0)), .cv (.sc (.bool false))] [(0, 1, .cv t), (1, 1, .cv c)] = some (.agg [.cv t, .cv c, .cv (.sc (.bool false))]) := fun t c => rfl
  have mk3 : ∀ (h : Heap) (a b c : CV), mkO h 3 1 [.cv (.sc (.string ⟨#[]⟩)), .cv (.sc (.slice none 0 0)), .cv (.sc (.bool false))] [(0, 3, .agg [.cv a, .cv b, .cv c])] = some (.cv (.sl 3 [[a, b, c]] true), h) := fun h a b c => rfl
  rw [X_eq f21_1.eq_1]
  -- a value of y's own
  have putY : ∀ (r : KV) (c : CV) (s1 : List VV), vy = .rptr [.sc (.string ⟨r.1.toArray⟩), c] → SlV 1 (eB r.2) (.cv c) → r.2.length ≤ 1000000000 → delta x y = [(r.1, r.2, false)] → s1.length = 53 → s1.getD 5 .undef = .ptr 0 0 → s1.getD 7 .undef = vy →
      X F (.draw [(⟨none, (some 39), (.ld false 1 (.t 5))⟩, (.r 0 0)), (⟨none, (some 40), (.mv (.t 7))⟩, .p), (⟨none, (some 41), (.nilck (.t 40))⟩, .p), (⟨none, (some 42), (.fad 0 (.t 41))⟩, .p), (⟨none, (some 43), (.ld false 1 (.t 42))⟩, (.r 0 0)), (⟨none, (some 44), (.mv (.t 7))⟩, .p), (⟨none, (some 45), (.nilck (.t 44))⟩, .p), (⟨none, (some 46), (.fad 1 (.t 45))⟩, .p), (⟨none, (some 47), (.ld false 1 (.t 46))⟩, (.r 0 0)), (⟨none, (some 48), (.call 36 true [(.t 47)])⟩, (.r 0 0)),
        (⟨none, (some 49), (.build [(.cv (.sc (.string ⟨#[]⟩))), (.cv (.sc (.slice none 0 0))), (.cv (.sc (.bool false)))] [(0, (1, (.t 43))), (1, (1, (.t 48)))])⟩, .p), (⟨none, (some 50), (.mksl 3 1 [(.cv (.sc (.string ⟨#[]⟩))), (.cv (.sc (.slice none 0 0))), (.cv (.sc (.bool false)))] [(0, (3, (.t 49)))] false)⟩, (.r 0 0)), (⟨none, (some 51), (.app 3 48 [(.sc (.string ⟨#[]⟩)), (.sc (.slice none 0 0)), (.sc (.bool false))] (.t 39) (.t 50))⟩, .k), (⟨none, none, (.st 1 (.t 5) (.t 51))⟩, .k)]) ⟨s1, g1⟩
        (B 2 (B 1 (RB 3 [11, 12] f21_0 f21_1 s0 (fun v h' => v = vb true ∧ ∃ vo' els', h'[3]? = some (.loop [11, 12] f21_0 f21_1 s0 .ready none) ∧ h'[0]? = some (.box [vo'] false) ∧ BufG h' 3 els' vo' ∧ ChsE els' (acc ++ delta x y) ∧ (∀ j, j ≠ 0 → ∀ (cells : List VV) (fr : Bool), g[j]? = some (.box cells fr) → h'[j]? = some (.box cells fr)))))) := by
    intro r c s1 ey hc hrl hd hs1 e5 e7
    obtain ⟨v36, h36, n36, w36, r36, S36⟩ := cloneB_f36 hc hrl
    obtain ⟨c36, rfl⟩ : ∃ c2, w36 = .cv c2 := by rcases S36 with ⟨rfl, _⟩ | ⟨ex, rfl⟩ <;> exact ⟨_, rfl⟩
    refine X_draw rfl ?_
    simp only [go_sem, Nat.reduceLT, Nat.reduceEqDiff, reduceCtorEq, Int.reduceLT, Int.reduceEq, hs1, e5, e7, ey, ld_p0 hO1]
    refine XD_callP (by simp only [List.map, go_sem, Nat.reduceLT, Nat.reduceEqDiff, reduceCtorEq, Int.reduceLT, Int.reduceEq, hs1]; exact hc.clos rfl) n36 r36 ?_
    simp only [go_sem, Nat.reduceLT, Nat.reduceEqDiff, reduceCtorEq, Int.reduceLT, Int.reduceEq, hs1, bdV, mk3]
    refine XD_appBG hB1 (new := [[.sc (.string ⟨r.1.toArray⟩), c36, .sc (.bool false)]]) (by simp only [go_sem, Nat.reduceLT, Nat.reduceEqDiff, reduceCtorEq, Int.reduceLT, Int.reduceEq, hs1]) (by simp only [go_sem, Nat.reduceLT, Nat.reduceEqDiff, reduceCtorEq, Int.reduceLT, Int.reduceEq, hs1]) (by simp only [List.length_singleton]; omega) (by simp only [List.length_singleton]; omega) (fun v' h' B2 kg => ?_)
    obtain ⟨g3, q1, q2⟩ := fin h' v' _ B2 (by rw [hd]; exact hC.snoc (p := (r.1, r.2, false)) ⟨c36, rfl, S36⟩) kg
    simp only [go_sem, Nat.reduceLT, Nat.reduceEqDiff, reduceCtorEq, Int.reduceLT, Int.reduceEq, hs1, e5, q1]
    exact q2 _
  cases y with
  | none =>
    obtain rfl : vy = .cv (.sc (.pointer none)) := hy
    cases x with
    | none => exact absurd rfl (hne.elim id id)
    | some r =>
      obtain ⟨c, rfl, hc, hrl⟩ := hx
      simp only [go_sem, Nat.reduceLT, Nat.reduceEqDiff, reduceCtorEq, Int.reduceLT, Int.reduceEq, hs0]
      refine X_draw rfl ?_
      simp only [go_sem, Nat.reduceLT, Nat.reduceEqDiff, reduceCtorEq, Int.reduceLT, Int.reduceEq, hs0, k5, ld_p0 hO1, bdG, mk3]
      refine XD_appBG hB1 (new := [[.sc (.string ⟨r.1.toArray⟩), .sc (.slice none 0 0), .sc (.bool true)]]) (by simp only [go_sem, Nat.reduceLT, Nat.reduceEqDiff, reduceCtorEq, Int.reduceLT, Int.reduceEq, hs0]) (by simp only [go_sem, Nat.reduceLT, Nat.reduceEqDiff, reduceCtorEq, Int.reduceLT, Int.reduceEq, hs0]) (by simp only [List.length_singleton]; omega) (by simp only [List.length_singleton]; omega) (fun v' h' B2 kg => ?_)
      obtain ⟨g3, q1, q2⟩ := fin h' v' _ B2 (hC.snoc (p := (r.1, [], true)) ⟨_, rfl, .inl ⟨rfl, rfl⟩⟩) kg
      simp only [go_sem, Nat.reduceLT, Nat.reduceEqDiff, reduceCtorEq, Int.reduceLT, Int.reduceEq, hs0, k5, q1]
      exact q2 _
  | some r =>
    obtain ⟨c, rfl, hc, hrl⟩ := hy
    cases x with
    | none =>
      obtain rfl : vx = .cv (.sc (.pointer none)) := hx
      simp only [go_sem, Nat.reduceLT, Nat.reduceEqDiff, reduceCtorEq, Int.reduceLT, Int.reduceEq, hs0, en_r]
      refine X_draw rfl ?_
      simp only [go_sem, Nat.reduceLT, Nat.reduceEqDiff, reduceCtorEq, Int.reduceLT, Int.reduceEq, hs0, en_pn, Bool.not_false]
      exact putY r c _ rfl hc hrl rfl (by simp only [slot_len, hs0]) (by simp only [go_sem, Nat.reduceLT, Nat.reduceEqDiff, reduceCtorEq, Int.reduceLT, Int.reduceEq, k5]) (by simp only [go_sem, Nat.reduceLT, Nat.reduceEqDiff, reduceCtorEq, Int.reduceLT, Int.reduceEq, hs0])
    | some q =>
      obtain ⟨cq, rfl, hcq, hql⟩ := hx
      simp only [go_sem, Nat.reduceLT, Nat.reduceEqDiff, reduceCtorEq, Int.reduceLT, Int.reduceEq, hs0, en_r]
      refine X_draw rfl ?_
      simp only [go_sem, Nat.reduceLT, Nat.reduceEqDiff, reduceCtorEq, Int.reduceLT, Int.reduceEq, hs0, en_r]
      have n40 := equal_f40 hcq hc
      obtain ⟨t, ht⟩ : ∃ t, t = decide (q.2 = r.2) := ⟨_, rfl⟩
      rw [← ht] at n40
      refine XD_callP (f := 40) (args := [.t 31, .t 35]) («as» := [.cv cq, .cv c]) (v := vb t) (w := vb t) (hc := []) ?_ n40 rfl ?_
      · simp only [List.map, go_sem, Nat.reduceLT, Nat.reduceEqDiff, reduceCtorEq, Int.reduceLT, Int.reduceEq, hs0]; exact hcq.clos (hc.clos rfl)
      cases t with
      | true =>
        have d : q.2 = r.2 := by simpa using ht.symm
        have hd : delta (some q) (some r) = [] := by simp [delta, d]
        simp only [go_sem, Nat.reduceLT, Nat.reduceEqDiff, reduceCtorEq, Int.reduceLT, Int.reduceEq, hs0]
        refine ⟨none, .busy, p0, rfl, hp1, rfl, vo, els, List.getElem?_set_self (lt_at hp1), ?_, ?_, ?_, ?_⟩
        · rw [List.getElem?_set_ne (by omega)]; exact hO1
        · exact hB1.setLoop hp1 _
        · rw [hd, List.append_nil]; exact hC
        · intro j hj cells fr ho
          have := n3 j cells fr ho
          rw [List.getElem?_set_ne (fun e => this e.symm)]; exact kp j cells fr ho
      | false =>
        have d : ¬ q.2 = r.2 := by simpa using ht.symm
        have hd : delta (some q) (some r) = [(r.1, r.2, false)] := by simp [delta, d]
        simp only [go_sem, Nat.reduceLT, Nat.reduceEqDiff, reduceCtorEq, Int.reduceLT, Int.reduceEq, hs0]
        exact putY r c _ rfl hc hrl hd (by simp only [slot_len, hs0]) (by simp only [go_sem, Nat.reduceLT, Nat.reduceEqDiff, reduceCtorEq, Int.reduceLT, Int.reduceEq, k5]) (by simp only [go_sem, Nat.reduceLT, Nat.reduceEqDiff, reduceCtorEq, Int.reduceLT, Int.reduceEq, hs0])
end Go.V07

set_option linter.unusedSimpArgs false
set_option linter.unusedVariables false
namespace Go.V07
open Go Go.Vm

def diffP : Nat → List KV → List KV → List Ch
  | 0, _, _ => []
  | _ + 1, [], [] => []
  | n + 1, x :: a, [] => delta (some x) none ++ diffP n a []
  | n + 1, [], y :: b => delta none (some y) ++ diffP n [] b
  | n + 1, x :: a, y :: b => if bl_le x.1 y.1 = true then (if y.1 = x.1 then delta (some x) (some y) ++ diffP n a b else delta (some x) none ++ diffP n a (y :: b)) else delta none (some y) ++ diffP n (x :: a) b
def diffF (a b : List KV) : List Ch := diffP (a.length + b.length) a b
def SmallV (l : List KV) : Prop := ∀ r ∈ l, r.2.length ≤ 1000000000

/-- What a range over pairs has done. -/
structure DG (s0 : List VV) (a b : List KV) (acc : List Ch) (g : Heap) : Prop where
  a1 : ∃ ea va, RowsE ea a ∧ SlV 2 ea va ∧ g[1]? = some (.box [va] false)
  b1 : ∃ eb vb_, RowsE eb b ∧ SlV 2 eb vb_ ∧ g[2]? = some (.box [vb_] false)
  o1 : ∃ els vo, g[0]? = some (.box [vo] false) ∧ BufG g 3 els vo ∧ ChsE els acc
  p : g[3]? = some (.loop [11, 12] f21_0 f21_1 s0 .ready none)
  sa : SmallV a
  sb : SmallV b
structure DSl (s : List VV) : Prop where
  l : s.length = 66
  s0 : s.getD 0 .undef = .yield 3
  s1 : s.getD 1 .undef = .ptr 1 0
  s2 : s.getD 2 .undef = .ptr 2 0

section
variable {s0 : List VV} {a b : List KV} {acc : List Ch} {g : Heap} {s : List VV} {Q : Pst}
theorem f53_round (hs0 : s0.length = 53) (k5 : s0.getD 5 .undef = .ptr 0 0) (hac : acc.length ≤ 1000000) (D : DG s0 a b acc g) (S : DSl s) {x y : Option KV} {vx vy : VV} (hx : PV x vx) (hy : PV y vy) (hne : x ≠ none ∨ y ≠ none) (p4 : s.getD 4 .undef = vx) (p5 : s.getD 5 .undef = vy)
    (k : ∀ s2 g2, DSl s2 → DG s0 a b (acc ++ delta x y) g2 → X F (.loop f53_3) ⟨s2, g2⟩ Q) :
    X F (.seq (.reg [⟨none, (some 61), (.mv (.t 0))⟩, ⟨none, (some 62), (.mv (.t 4))⟩, ⟨none, (some 63), (.mv (.t 5))⟩, ⟨none, (some 64), (.callv false (.t 61) [(.t 62), (.t 63)])⟩, ⟨none, (some 65), (.un .not (.t 64))⟩]) (.cond (.t 65) .ret .skip)) ⟨s, g⟩ (B 1 (K F (.loop f53_3) Q)) := by
  obtain ⟨els, vo, q0, qB, qC⟩ := D.o1
  have hcl := qC.len
  obtain ⟨g2, vo', els', n3, r3, r0, rB, rC, kp⟩ := round_diff hs0 k5 q0 qB qC D.p hx hy hne (by omega)
  obtain ⟨ea, va, A1, A2, A3⟩ := D.a1
  obtain ⟨eb, vb_, B1, B2, B3⟩ := D.b1
  have hs := S.l
  simp only [go_sem, Nat.reduceLT, Nat.reduceEqDiff, reduceCtorEq, Int.reduceLT, Int.reduceEq, hs, S.s0, p4, p5]
  refine XO_yield (id := 3) (by simp only [go_sem, Nat.reduceLT, Nat.reduceEqDiff, reduceCtorEq, Int.reduceLT, Int.reduceEq, hs]) (by simp only [List.map, go_sem, Nat.reduceLT, Nat.reduceEqDiff, reduceCtorEq, Int.reduceLT, Int.reduceEq, hs]; exact n3) ?_
  simp only [go_sem, Nat.reduceLT, Nat.reduceEqDiff, reduceCtorEq, Int.reduceLT, Int.reduceEq, hs]
  exact k _ g2 ⟨by simp only [slot_len, hs], by simp only [go_sem, Nat.reduceLT, Nat.reduceEqDiff, reduceCtorEq, Int.reduceLT, Int.reduceEq, S.s0], by simp only [go_sem, Nat.reduceLT, Nat.reduceEqDiff, reduceCtorEq, Int.reduceLT, Int.reduceEq, S.s1], by simp only [go_sem, Nat.reduceLT, Nat.reduceEqDiff, reduceCtorEq, Int.reduceLT, Int.reduceEq, S.s2]⟩ ⟨⟨ea, va, A1, A2, kp 1 (by omega) _ _ A3⟩, ⟨eb, vb_, B1, B2, kp 2 (by omega) _ _ B3⟩, ⟨els', vo', r0, rB, rC⟩, r3, D.sa, D.sb⟩

theorem tl53 {els : List (List CV)} {v : VV} {r : KV} {l : List KV} (g : Heap) (hS : SlV 2 els v) (hR : RowsE els (r :: l)) : ∃ v' cc, SlV 2 (els.drop 1) v' ∧ slO g 2 v (some (vi .i64 1)) none none = some (v', g) ∧ RowsE (els.drop 1) l ∧ isCell v' = true ∧ (∀ g : Heap, iaO g 2 v (vi .i64 0) = some (.rptr [.sc (.string ⟨r.1.toArray⟩), cc], g)) ∧ SlV 1 (eB r.2) (.cv cc) ∧ ((els.length : Nat) : Int) ≠ 0 ∧ (0 : Int) < ((els.length : Nat) : Int) := by
  have hl := hR.len
  rw [List.length_cons] at hl
  obtain ⟨v', a1, a2⟩ := hS.from_ (h := g) (k := .i64) (a := 1) (by decide) (by omega)
  obtain ⟨e, r', he, hr, cc, rfl, hc⟩ := hR.get (i := 0) (by simp)
  simp at hr; subst hr
  exact ⟨v', cc, a1, a2, drop_E hR 1, by rcases a1 with ⟨rfl, _⟩ | ⟨_, rfl⟩ <;> rfl, fun g => hS.ia (by omega) he, hc, by omega, by omega⟩
theorem st53 {g : Heap} {i : Nat} {u v : VV} (h : g[i]? = some (.box [u] false)) (hv : isCell v = true) : stO g 1 (.ptr i 0) v = some (.undef, g.set i (.box [v] false)) := by
  have := st_1 hv h (show 0 < 1 by decide)
  simpa only [List.set_cons_zero] using this
theorem DG.tailA {x : KV} {va va' : VV} {ea' : List (List CV)} (D : DG s0 (x :: a) b acc g) (h1 : g[1]? = some (.box [va] false)) (hS : SlV 2 ea' va') (hR : RowsE ea' a) : DG s0 a b acc (g.set 1 (.box [va'] false)) := by
  obtain ⟨eb, vb_, B1, B2, B3⟩ := D.b1
  obtain ⟨els, vo, o1, o2, o3⟩ := D.o1
  exact ⟨⟨ea', va', hR, hS, List.getElem?_set_self (lt_at h1)⟩, ⟨eb, vb_, B1, B2, by rw [List.getElem?_set_ne (by omega)]; exact B3⟩, ⟨els, vo, by rw [List.getElem?_set_ne (by omega)]; exact o1, o2.setBox h1 _, o3⟩, by rw [List.getElem?_set_ne (by omega)]; exact D.p, fun r hr => D.sa r (by simp [hr]), D.sb⟩
theorem DG.tailB {y : KV} {vb_ vb' : VV} {eb' : List (List CV)} (D : DG s0 a (y :: b) acc g) (h2 : g[2]? = some (.box [vb_] false)) (hS : SlV 2 eb' vb') (hR : RowsE eb' b) : DG s0 a b acc (g.set 2 (.box [vb'] false)) := by
  obtain ⟨ea, va, A1, A2, A3⟩ := D.a1
  obtain ⟨els, vo, o1, o2, o3⟩ := D.o1
  exact ⟨⟨ea, va, A1, A2, by rw [List.getElem?_set_ne (by omega)]; exact A3⟩, ⟨eb', vb', hR, hS, List.getElem?_set_self (lt_at h2)⟩, ⟨els, vo, by rw [List.getElem?_set_ne (by omega)]; exact o1, o2.setBox h2 _, o3⟩, by rw [List.getElem?_set_ne (by omega)]; exact D.p, D.sa, fun r hr => D.sb r (by simp [hr])⟩

theorem step_nb {y : KV} (hs0 : s0.length = 53) (k5 : s0.getD 5 .undef = .ptr 0 0) (hac : acc.length ≤ 1000000) (D : DG s0 [] (y :: b) acc g) (S : DSl s) (k : ∀ s2 g2, DSl s2 → DG s0 [] b (acc ++ delta none (some y)) g2 → X F (.loop f53_3) ⟨s2, g2⟩ Q) : X F (.loop f53_3) ⟨s, g⟩ Q := by
  obtain ⟨ea, va, A1, A2, h1⟩ := D.a1
  obtain ⟨eb, vb_, B1, B2, h2⟩ := D.b1
  obtain ⟨v', cc, t1, t2, t3, t4, t5, t6, t7, t8⟩ := tl53 g B2 B1
  have st2 := st53 h2 t4
  have c1 : ¬ ((0 : Int) < ((ea.length : Nat) : Int)) := by rw [A1.len]; simp
  have hs := S.l
  rw [X_loop, X_eq f53_3.eq_1]
  simp only [go_sem, Nat.reduceLT, Nat.reduceEqDiff, reduceCtorEq, Int.reduceLT, Int.reduceEq, hs, S.s1, S.s2, ld_p0 h1, ld_p0 h2, A2.ln, B2.ln, gt_iff_lt, c1, t8]
  rw [X_eq f53_0.eq_1]
  simp only [go_sem, Nat.reduceLT, Nat.reduceEqDiff, reduceCtorEq, Int.reduceLT, Int.reduceEq, hs]
  refine X_draw rfl ?_
  simp only [go_sem, Nat.reduceLT, Nat.reduceEqDiff, reduceCtorEq, Int.reduceLT, Int.reduceEq, hs, S.s1, S.s2, ld_p0 h1, ld_p0 h2, A2.ln, B2.ln, gt_iff_lt, c1, t7]
  rw [X_eq f53_1.eq_1]
  simp only [go_sem, Nat.reduceLT, Nat.reduceEqDiff, reduceCtorEq, Int.reduceLT, Int.reduceEq, hs]
  refine X_draw rfl ?_
  simp only [go_sem, Nat.reduceLT, Nat.reduceEqDiff, reduceCtorEq, Int.reduceLT, Int.reduceEq, hs, en_pn, Bool.not_false]
  refine X_draw rfl ?_
  simp only [go_sem, Nat.reduceLT, Nat.reduceEqDiff, reduceCtorEq, Int.reduceLT, Int.reduceEq, hs, S.s2, ld_p0 h2, t5, t2, st2]
  refine mid (P := fun st => st.h = g.set 2 (.box [v'] false) ∧ DSl st.s ∧ st.s.getD 4 .undef = .cv (.sc (.pointer none)) ∧ st.s.getD 5 .undef = .rptr [.sc (.string ⟨y.1.toArray⟩), cc]) ?_ ?_
  · rw [X_eq f53_2.eq_1]
    simp only [go_sem, Nat.reduceLT, Nat.reduceEqDiff, reduceCtorEq, Int.reduceLT, Int.reduceEq, hs, en_pn, Bool.not_true]
    exact ⟨trivial, trivial, ⟨by simp only [slot_len, hs], by simp only [go_sem, Nat.reduceLT, Nat.reduceEqDiff, reduceCtorEq, Int.reduceLT, Int.reduceEq, S.s0], by simp only [go_sem, Nat.reduceLT, Nat.reduceEqDiff, reduceCtorEq, Int.reduceLT, Int.reduceEq, S.s1], by simp only [go_sem, Nat.reduceLT, Nat.reduceEqDiff, reduceCtorEq, Int.reduceLT, Int.reduceEq, S.s2]⟩, trivial, trivial⟩
  · rintro ⟨s1, g1⟩ ⟨e, S1, p4, p5⟩
    dsimp only at e S1 p4 p5
    subst e
    exact f53_round hs0 k5 hac (D.tailB h2 t1 t3) S1 (x := none) (y := some y) rfl ⟨cc, rfl, t6, D.sb y (by simp)⟩ (.inr (by simp)) p4 p5 k

theorem step_an {x : KV} (hs0 : s0.length = 53) (k5 : s0.getD 5 .undef = .ptr 0 0) (hac : acc.length ≤ 1000000) (D : DG s0 (x :: a) [] acc g) (S : DSl s) (k : ∀ s2 g2, DSl s2 → DG s0 a [] (acc ++ delta (some x) none) g2 → X F (.loop f53_3) ⟨s2, g2⟩ Q) : X F (.loop f53_3) ⟨s, g⟩ Q := by
  obtain ⟨ea, va, A1, A2, h1⟩ := D.a1
  obtain ⟨eb, vb_, B1, B2, h2⟩ := D.b1
  obtain ⟨v', cc, t1, t2, t3, t4, t5, t6, t7, t8⟩ := tl53 g A2 A1
  have st2 := st53 h1 t4
  have ebl : eb.length = 0 := B1.len
  have c1 : ((eb.length : Nat) : Int) = 0 := by omega
  have c2 : ¬ (0 : Int) < ((eb.length : Nat) : Int) := by omega
  have hs := S.l
  rw [X_loop, X_eq f53_3.eq_1]
  simp only [go_sem, Nat.reduceLT, Nat.reduceEqDiff, reduceCtorEq, Int.reduceLT, Int.reduceEq, hs, S.s1, S.s2, ld_p0 h1, ld_p0 h2, A2.ln, B2.ln, gt_iff_lt, t8]
  rw [X_eq f53_0.eq_1]
  simp only [go_sem, Nat.reduceLT, Nat.reduceEqDiff, reduceCtorEq, Int.reduceLT, Int.reduceEq, hs]
  refine X_draw rfl ?_
  simp only [go_sem, Nat.reduceLT, Nat.reduceEqDiff, reduceCtorEq, Int.reduceLT, Int.reduceEq, hs, S.s1, S.s2, ld_p0 h1, ld_p0 h2, A2.ln, B2.ln, gt_iff_lt, c1, t5]
  rw [X_eq f53_1.eq_1]
  simp only [go_sem, Nat.reduceLT, Nat.reduceEqDiff, reduceCtorEq, Int.reduceLT, Int.reduceEq, hs]
  refine X_draw rfl ?_
  simp only [go_sem, Nat.reduceLT, Nat.reduceEqDiff, reduceCtorEq, Int.reduceLT, Int.reduceEq, hs, S.s2, ld_p0 h2, B2.ln, en_r, gt_iff_lt, c2]
  refine mid (P := fun st => st.h = g.set 1 (.box [v'] false) ∧ DSl st.s ∧ st.s.getD 4 .undef = .rptr [.sc (.string ⟨x.1.toArray⟩), cc] ∧ st.s.getD 5 .undef = .cv (.sc (.pointer none))) ?_ ?_
  · rw [X_eq f53_2.eq_1]
    simp only [go_sem, Nat.reduceLT, Nat.reduceEqDiff, reduceCtorEq, Int.reduceLT, Int.reduceEq, hs, en_r, S.s1, ld_p0 h1, t2, st2]
    exact ⟨trivial, trivial, ⟨by simp only [slot_len, hs], by simp only [go_sem, Nat.reduceLT, Nat.reduceEqDiff, reduceCtorEq, Int.reduceLT, Int.reduceEq, S.s0], by simp only [go_sem, Nat.reduceLT, Nat.reduceEqDiff, reduceCtorEq, Int.reduceLT, Int.reduceEq, S.s1], by simp only [go_sem, Nat.reduceLT, Nat.reduceEqDiff, reduceCtorEq, Int.reduceLT, Int.reduceEq, S.s2]⟩, trivial, trivial⟩
  · rintro ⟨s1, g1⟩ ⟨e, S1, p4, p5⟩
    dsimp only at e S1 p4 p5
    subst e
    exact f53_round hs0 k5 hac (D.tailA h1 t1 t3) S1 (x := some x) (y := none) ⟨cc, rfl, t6, D.sa x (by simp)⟩ rfl (.inl (by simp)) p4 p5 k
end
end Go.V07

set_option linter.unusedSimpArgs false
set_option linter.unusedVariables false
namespace Go.V07
open Go Go.Vm

section
variable {s0 : List VV} {a b : List KV} {acc : List Ch} {g : Heap} {s : List VV} {Q : Pst}
theorem step_gt {x y : KV} (hle : bl_le x.1 y.1 = false) (hs0 : s0.length = 53) (k5 : s0.getD 5 .undef = .ptr 0 0) (hac : acc.length ≤ 1000000) (D : DG s0 (x :: a) (y :: b) acc g) (S : DSl s) (k : ∀ s2 g2, DSl s2 → DG s0 (x :: a) b (acc ++ delta none (some y)) g2 → X F (.loop f53_3) ⟨s2, g2⟩ Q) : X F (.loop f53_3) ⟨s, g⟩ Q := by
  obtain ⟨ea, va, A1, A2, h1⟩ := D.a1
  obtain ⟨eb, vb_, B1, B2, h2⟩ := D.b1
  obtain ⟨va', ca, u1, u2, u3, u4, u5, u6, u7, u8⟩ := tl53 g A2 A1
  obtain ⟨v', cc, t1, t2, t3, t4, t5, t6, t7, t8⟩ := tl53 g B2 B1
  have st2 := st53 h2 t4
  have hle' : (Op.bytesLess x.1 y.1 || x.1 == y.1) = false := hle
  have hs := S.l
  rw [X_loop, X_eq f53_3.eq_1]
  simp only [go_sem, Nat.reduceLT, Nat.reduceEqDiff, reduceCtorEq, Int.reduceLT, Int.reduceEq, hs, S.s1, S.s2, ld_p0 h1, ld_p0 h2, A2.ln, B2.ln, gt_iff_lt, u8]
  rw [X_eq f53_0.eq_1]
  simp only [go_sem, Nat.reduceLT, Nat.reduceEqDiff, reduceCtorEq, Int.reduceLT, Int.reduceEq, hs]
  refine X_draw rfl ?_
  simp only [go_sem, Nat.reduceLT, Nat.reduceEqDiff, reduceCtorEq, Int.reduceLT, Int.reduceEq, hs, S.s1, S.s2, ld_p0 h1, ld_p0 h2, A2.ln, B2.ln, gt_iff_lt, u8, t7, t5, u5, bl_leq, hle']
  rw [X_eq f53_1.eq_1]
  simp only [go_sem, Nat.reduceLT, Nat.reduceEqDiff, reduceCtorEq, Int.reduceLT, Int.reduceEq, hs]
  refine X_draw rfl ?_
  simp only [go_sem, Nat.reduceLT, Nat.reduceEqDiff, reduceCtorEq, Int.reduceLT, Int.reduceEq, hs, en_pn, Bool.not_false]
  refine X_draw rfl ?_
  simp only [go_sem, Nat.reduceLT, Nat.reduceEqDiff, reduceCtorEq, Int.reduceLT, Int.reduceEq, hs, S.s2, ld_p0 h2, t5, t2, st2]
  refine mid (P := fun st => st.h = g.set 2 (.box [v'] false) ∧ DSl st.s ∧ st.s.getD 4 .undef = .cv (.sc (.pointer none)) ∧ st.s.getD 5 .undef = .rptr [.sc (.string ⟨y.1.toArray⟩), cc]) ?_ ?_
  · rw [X_eq f53_2.eq_1]
    simp only [go_sem, Nat.reduceLT, Nat.reduceEqDiff, reduceCtorEq, Int.reduceLT, Int.reduceEq, hs, en_pn, Bool.not_true]
    exact ⟨trivial, trivial, ⟨by simp only [slot_len, hs], by simp only [go_sem, Nat.reduceLT, Nat.reduceEqDiff, reduceCtorEq, Int.reduceLT, Int.reduceEq, S.s0], by simp only [go_sem, Nat.reduceLT, Nat.reduceEqDiff, reduceCtorEq, Int.reduceLT, Int.reduceEq, S.s1], by simp only [go_sem, Nat.reduceLT, Nat.reduceEqDiff, reduceCtorEq, Int.reduceLT, Int.reduceEq, S.s2]⟩, trivial, trivial⟩
  · rintro ⟨s1, g1⟩ ⟨e, S1, p4, p5⟩
    dsimp only at e S1 p4 p5
    subst e
    exact f53_round hs0 k5 hac (D.tailB h2 t1 t3) S1 (x := none) (y := some y) rfl ⟨cc, rfl, t6, D.sb y (by simp)⟩ (.inr (by simp)) p4 p5 k

theorem step_lt {x y : KV} (hle : bl_le x.1 y.1 = true) (hne : ¬ y.1 = x.1) (hs0 : s0.length = 53) (k5 : s0.getD 5 .undef = .ptr 0 0) (hac : acc.length ≤ 1000000) (D : DG s0 (x :: a) (y :: b) acc g) (S : DSl s) (k : ∀ s2 g2, DSl s2 → DG s0 a (y :: b) (acc ++ delta (some x) none) g2 → X F (.loop f53_3) ⟨s2, g2⟩ Q) : X F (.loop f53_3) ⟨s, g⟩ Q := by
  obtain ⟨ea, va, A1, A2, h1⟩ := D.a1
  obtain ⟨eb, vb_, B1, B2, h2⟩ := D.b1
  obtain ⟨va', ca, u1, u2, u3, u4, u5, u6, u7, u8⟩ := tl53 g A2 A1
  obtain ⟨v', cc, t1, t2, t3, t4, t5, t6, t7, t8⟩ := tl53 g B2 B1
  have st1 := st53 h1 u4
  have hle' : (Op.bytesLess x.1 y.1 || x.1 == y.1) = true := hle
  have hs := S.l
  rw [X_loop, X_eq f53_3.eq_1]
  simp only [go_sem, Nat.reduceLT, Nat.reduceEqDiff, reduceCtorEq, Int.reduceLT, Int.reduceEq, hs, S.s1, S.s2, ld_p0 h1, ld_p0 h2, A2.ln, B2.ln, gt_iff_lt, u8]
  rw [X_eq f53_0.eq_1]
  simp only [go_sem, Nat.reduceLT, Nat.reduceEqDiff, reduceCtorEq, Int.reduceLT, Int.reduceEq, hs]
  refine X_draw rfl ?_
  simp only [go_sem, Nat.reduceLT, Nat.reduceEqDiff, reduceCtorEq, Int.reduceLT, Int.reduceEq, hs, S.s1, S.s2, ld_p0 h1, ld_p0 h2, A2.ln, B2.ln, gt_iff_lt, u8, t7, t5, u5, bl_leq, hle']
  rw [X_eq f53_1.eq_1]
  simp only [go_sem, Nat.reduceLT, Nat.reduceEqDiff, reduceCtorEq, Int.reduceLT, Int.reduceEq, hs]
  refine X_draw rfl ?_
  simp only [go_sem, Nat.reduceLT, Nat.reduceEqDiff, reduceCtorEq, Int.reduceLT, Int.reduceEq, hs, en_r, S.s2, ld_p0 h2, B2.ln, gt_iff_lt, t8, t5, bo_eql, eq_false hne, decide_false]
  refine mid (P := fun st => st.h = g.set 1 (.box [va'] false) ∧ DSl st.s ∧ st.s.getD 4 .undef = .rptr [.sc (.string ⟨x.1.toArray⟩), ca] ∧ st.s.getD 5 .undef = .cv (.sc (.pointer none))) ?_ ?_
  · rw [X_eq f53_2.eq_1]
    simp only [go_sem, Nat.reduceLT, Nat.reduceEqDiff, reduceCtorEq, Int.reduceLT, Int.reduceEq, hs, en_r, S.s1, ld_p0 h1, u2, st1]
    exact ⟨trivial, trivial, ⟨by simp only [slot_len, hs], by simp only [go_sem, Nat.reduceLT, Nat.reduceEqDiff, reduceCtorEq, Int.reduceLT, Int.reduceEq, S.s0], by simp only [go_sem, Nat.reduceLT, Nat.reduceEqDiff, reduceCtorEq, Int.reduceLT, Int.reduceEq, S.s1], by simp only [go_sem, Nat.reduceLT, Nat.reduceEqDiff, reduceCtorEq, Int.reduceLT, Int.reduceEq, S.s2]⟩, trivial, trivial⟩
  · rintro ⟨s1, g1⟩ ⟨e, S1, p4, p5⟩
    dsimp only at e S1 p4 p5
    subst e
    exact f53_round hs0 k5 hac (D.tailA h1 u1 u3) S1 (x := some x) (y := none) ⟨ca, rfl, u6, D.sa x (by simp)⟩ rfl (.inl (by simp)) p4 p5 k

theorem step_eq {x y : KV} (hle : bl_le x.1 y.1 = true) (hne : y.1 = x.1) (hs0 : s0.length = 53) (k5 : s0.getD 5 .undef = .ptr 0 0) (hac : acc.length ≤ 1000000) (D : DG s0 (x :: a) (y :: b) acc g) (S : DSl s) (k : ∀ s2 g2, DSl s2 → DG s0 a b (acc ++ delta (some x) (some y)) g2 → X F (.loop f53_3) ⟨s2, g2⟩ Q) : X F (.loop f53_3) ⟨s, g⟩ Q := by
  obtain ⟨ea, va, A1, A2, h1⟩ := D.a1
  obtain ⟨eb, vb_, B1, B2, h2⟩ := D.b1
  obtain ⟨va', ca, u1, u2, u3, u4, u5, u6, u7, u8⟩ := tl53 g A2 A1
  obtain ⟨v', cc, t1, t2, t3, t4, t5, t6, t7, t8⟩ := tl53 g B2 B1
  have st2 := st53 h2 t4
  have h1' : (g.set 2 (.box [v'] false))[1]? = some (.box [va] false) := by rw [List.getElem?_set_ne (by omega)]; exact h1
  have st1 := st53 h1' u4
  have sl1 : slO (g.set 2 (.box [v'] false)) 2 va (some (vi .i64 1)) none none = some (va', g.set 2 (.box [v'] false)) := by
    rcases A2 with ⟨rfl, e⟩ | ⟨ex, rfl⟩
    · exfalso; rw [e] at u8; simp at u8
    · rw [show slO (g.set 2 (.box [v'] false)) 2 (.cv (.sl 2 ea ex)) (some (vi .i64 1)) none none = (slO g 2 (.cv (.sl 2 ea ex)) (some (vi .i64 1)) none none).map (fun p => (p.1, g.set 2 (.box [v'] false))) by
        simp only [slO, stepI, rhoO, lenV]
        split
        · split
          · split
            · split <;> simp
            · rfl
          · rfl
        · rfl]
      rw [u2]; rfl
  have hle' : (Op.bytesLess x.1 y.1 || x.1 == y.1) = true := hle
  have hs := S.l
  rw [X_loop, X_eq f53_3.eq_1]
  simp only [go_sem, Nat.reduceLT, Nat.reduceEqDiff, reduceCtorEq, Int.reduceLT, Int.reduceEq, hs, S.s1, S.s2, ld_p0 h1, ld_p0 h2, A2.ln, B2.ln, gt_iff_lt, u8]
  rw [X_eq f53_0.eq_1]
  simp only [go_sem, Nat.reduceLT, Nat.reduceEqDiff, reduceCtorEq, Int.reduceLT, Int.reduceEq, hs]
  refine X_draw rfl ?_
  simp only [go_sem, Nat.reduceLT, Nat.reduceEqDiff, reduceCtorEq, Int.reduceLT, Int.reduceEq, hs, S.s1, S.s2, ld_p0 h1, ld_p0 h2, A2.ln, B2.ln, gt_iff_lt, u8, t7, t5, u5, bl_leq, hle']
  rw [X_eq f53_1.eq_1]
  simp only [go_sem, Nat.reduceLT, Nat.reduceEqDiff, reduceCtorEq, Int.reduceLT, Int.reduceEq, hs]
  refine X_draw rfl ?_
  simp only [go_sem, Nat.reduceLT, Nat.reduceEqDiff, reduceCtorEq, Int.reduceLT, Int.reduceEq, hs, en_r, S.s2, ld_p0 h2, B2.ln, gt_iff_lt, t8, t5, bo_eql, eq_true hne, decide_true]
  refine X_draw rfl ?_
  simp only [go_sem, Nat.reduceLT, Nat.reduceEqDiff, reduceCtorEq, Int.reduceLT, Int.reduceEq, hs, S.s2, ld_p0 h2, t5, t2, st2]
  refine mid (P := fun st => st.h = (g.set 2 (.box [v'] false)).set 1 (.box [va'] false) ∧ DSl st.s ∧ st.s.getD 4 .undef = .rptr [.sc (.string ⟨x.1.toArray⟩), ca] ∧ st.s.getD 5 .undef = .rptr [.sc (.string ⟨y.1.toArray⟩), cc]) ?_ ?_
  · rw [X_eq f53_2.eq_1]
    simp only [go_sem, Nat.reduceLT, Nat.reduceEqDiff, reduceCtorEq, Int.reduceLT, Int.reduceEq, hs, en_r, S.s1, ld_p0 h1', sl1, st1]
    exact ⟨trivial, trivial, ⟨by simp only [slot_len, hs], by simp only [go_sem, Nat.reduceLT, Nat.reduceEqDiff, reduceCtorEq, Int.reduceLT, Int.reduceEq, S.s0], by simp only [go_sem, Nat.reduceLT, Nat.reduceEqDiff, reduceCtorEq, Int.reduceLT, Int.reduceEq, S.s1], by simp only [go_sem, Nat.reduceLT, Nat.reduceEqDiff, reduceCtorEq, Int.reduceLT, Int.reduceEq, S.s2]⟩, trivial, trivial⟩
  · rintro ⟨s1, g1⟩ ⟨e, S1, p4, p5⟩
    dsimp only at e S1 p4 p5
    subst e
    exact f53_round hs0 k5 hac ((D.tailB h2 t1 t3).tailA h1' u1 u3) S1 (x := some x) (y := some y) ⟨ca, rfl, u6, D.sa x (by simp)⟩ ⟨cc, rfl, t6, D.sb y (by simp)⟩ (.inl (by simp)) p4 p5 k

theorem delta_le (x y : Option KV) : (delta x y).length ≤ 1 := by
  cases x <;> cases y <;> simp [delta]
  split <;> simp
theorem step_nn (hs0 : s0.length = 53) (D : DG s0 [] [] acc g) (S : DSl s) (k : ∀ s2, s2.length = 66 → Q (.exit 0) ⟨s2, g⟩) : X F (.loop f53_3) ⟨s, g⟩ Q := by
  obtain ⟨ea, va, A1, A2, h1⟩ := D.a1
  obtain ⟨eb, vb_, B1, B2, h2⟩ := D.b1
  have c1 : ¬ ((0 : Int) < ((ea.length : Nat) : Int)) := by rw [A1.len]; simp
  have c2 : ¬ ((0 : Int) < ((eb.length : Nat) : Int)) := by rw [B1.len]; simp
  have hs := S.l
  rw [X_loop, X_eq f53_3.eq_1]
  simp only [go_sem, Nat.reduceLT, Nat.reduceEqDiff, reduceCtorEq, Int.reduceLT, Int.reduceEq, hs, S.s1, S.s2, ld_p0 h1, ld_p0 h2, A2.ln, B2.ln, gt_iff_lt, c1, c2]
  exact k _ (by simp only [slot_len, hs])
end
theorem f53_loop {s0 : List VV} (hs0 : s0.length = 53) (k5 : s0.getD 5 .undef = .ptr 0 0) {Q : Pst} : ∀ (m : Nat) (a b : List KV) (acc : List Ch) (s : List VV) (g : Heap), a.length + b.length ≤ m → acc.length + m ≤ 1000000 → DG s0 a b acc g → DSl s →
    (∀ s' g', s'.length = 66 → DG s0 [] [] (acc ++ diffP m a b) g' → Q (.exit 0) ⟨s', g'⟩) → X F (.loop f53_3) ⟨s, g⟩ Q := by
  intro m
  induction m with
  | zero =>
    intro a b acc s g hm hac D S hQ
    obtain rfl : a = [] := List.eq_nil_of_length_eq_zero (by omega)
    obtain rfl : b = [] := List.eq_nil_of_length_eq_zero (by omega)
    exact step_nn hs0 D S (fun s2 h2 => hQ s2 g h2 (by simpa [diffP] using D))
  | succ m ih =>
    intro a b acc s g hm hac D S hQ
    cases a with
    | nil =>
      cases b with
      | nil => exact step_nn hs0 D S (fun s2 h2 => hQ s2 g h2 (by simpa [diffP] using D))
      | cons y b =>
        have e : diffP (m + 1) [] (y :: b) = delta none (some y) ++ diffP m [] b := rfl
        rw [e] at hQ
        refine step_nb hs0 k5 (by omega) D S (fun s2 g2 S2 D2 => ih [] b _ s2 g2 (by simp at hm ⊢; omega) (by have := delta_le none (some y); rw [List.length_append]; omega) D2 S2 ?_)
        rw [List.append_assoc]; exact hQ
    | cons x a =>
      cases b with
      | nil =>
        have e : diffP (m + 1) (x :: a) [] = delta (some x) none ++ diffP m a [] := rfl
        rw [e] at hQ
        refine step_an hs0 k5 (by omega) D S (fun s2 g2 S2 D2 => ih a [] _ s2 g2 (by simp at hm ⊢; omega) (by have := delta_le (some x) none; rw [List.length_append]; omega) D2 S2 ?_)
        rw [List.append_assoc]; exact hQ
      | cons y b =>
        have e : diffP (m + 1) (x :: a) (y :: b) = if bl_le x.1 y.1 = true then (if y.1 = x.1 then delta (some x) (some y) ++ diffP m a b else delta (some x) none ++ diffP m a (y :: b)) else delta none (some y) ++ diffP m (x :: a) b := rfl
        rw [e] at hQ
        cases hle : bl_le x.1 y.1 with
        | false =>
          rw [if_neg (by rw [hle]; decide)] at hQ
          refine step_gt hle hs0 k5 (by omega) D S (fun s2 g2 S2 D2 => ih (x :: a) b _ s2 g2 (by simp at hm ⊢; omega) (by have := delta_le none (some y); rw [List.length_append]; omega) D2 S2 ?_)
          rw [List.append_assoc]; exact hQ
        | true =>
          rw [if_pos hle] at hQ
          by_cases d : y.1 = x.1
          · rw [if_pos d] at hQ
            refine step_eq hle d hs0 k5 (by omega) D S (fun s2 g2 S2 D2 => ih a b _ s2 g2 (by simp at hm ⊢; omega) (by have := delta_le (some x) (some y); rw [List.length_append]; omega) D2 S2 ?_)
            rw [List.append_assoc]; exact hQ
          · rw [if_neg d] at hQ
            refine step_lt hle d hs0 k5 (by omega) D S (fun s2 g2 S2 D2 => ih a (y :: b) _ s2 g2 (by simp at hm ⊢; omega) (by have := delta_le (some x) none; rw [List.length_append]; omega) D2 S2 ?_)
            rw [List.append_assoc]; exact hQ

theorem diff_f21 {a b : List KV} {ea eb : List (List CV)} {ua ub : VV} (hRa : RowsE ea a) (hRb : RowsE eb b) (hSa : SlV 2 ea ua) (hSb : SlV 2 eb ub) (sa : SmallV a) (sb : SmallV b) (hl : a.length + b.length ≤ 100000) : RetP F 21 [ua, ub] fun w => ∃ els, SlV 3 els w ∧ ChsE els (diffF a b) := by
  have slc : ∀ {els : List (List CV)} {v : VV}, SlV 2 els v → isCell v = true := fun h => by rcases h with ⟨rfl, _⟩ | ⟨_, rfl⟩ <;> rfl
  have n39 : call F 39 [ua, ub] [VO.box [nilS] false] = some (.ret (.func 53 [.ptr 1 0, .ptr 2 0]), [VO.box [nilS] false, .box [ua] false, .box [ub] false]) := by
    have : Ret F 39 [ua, ub] [VO.box [nilS] false] fun v g => v = .func 53 [.ptr 1 0, .ptr 2 0] ∧ g = [VO.box [nilS] false, .box [ua] false, .box [ub] false] := by
      refine call_E (fn := f39) rfl ?_
      simp only [f39]
      generalize hs0 : ([ua, ub] ++ List.replicate _ VV.undef : List VV) = s
      have hs : s.length = 6 := by rw [← hs0]; rfl
      have h0 : s.getD 0 .undef = ua := by rw [← hs0]; rfl
      have h1 : s.getD 1 .undef = ub := by rw [← hs0]; rfl
      clear hs0
      simp only [go_sem, Nat.reduceLT, Nat.reduceEqDiff, reduceCtorEq, Int.reduceLT, Int.reduceEq, hs, h0]
      rw [bx_1 (slc hSa)]
      simp only [go_sem, Nat.reduceLT, Nat.reduceEqDiff, reduceCtorEq, Int.reduceLT, Int.reduceEq, hs, h1]
      rw [bx_1 (slc hSb)]
      simp only [go_sem, Nat.reduceLT, Nat.reduceEqDiff, reduceCtorEq, Int.reduceLT, Int.reduceEq, hs, List.cons_append, List.nil_append, List.length_cons, List.length_nil, Nat.zero_add, Nat.reduceAdd, List.map]
      exact ⟨trivial, trivial⟩
    obtain ⟨v, h', e1, rfl, rfl⟩ := this
    exact e1
  have : Ret F 21 [ua, ub] [] fun v g => ∃ els, BufG g 3 els v ∧ ChsE els (diffF a b) := by
    refine call_E (fn := f21) rfl ?_
    simp only [f21]
    generalize hs0 : ([ua, ub] ++ List.replicate _ VV.undef : List VV) = s
    have hs : s.length = 53 := by rw [← hs0]; rfl
    have h0 : s.getD 0 .undef = ua := by rw [← hs0]; rfl
    have h1 : s.getD 1 .undef = ub := by rw [← hs0]; rfl
    clear hs0
    simp only [go_sem, Nat.reduceLT, Nat.reduceEqDiff, reduceCtorEq, Int.reduceLT, Int.reduceEq, hs, h0, h1, List.nil_append, List.length_nil]
    refine XO_callR (by simp only [List.map, go_sem, Nat.reduceLT, Nat.reduceEqDiff, reduceCtorEq, Int.reduceLT, Int.reduceEq, hs]; exact n39) ?_
    simp only [go_sem, Nat.reduceLT, Nat.reduceEqDiff, reduceCtorEq, Int.reduceLT, Int.reduceEq, hs]
    generalize hs1 : ((((s.set 4 nilS).set 5 (VV.ptr 0 0)).set 8 ua).set 9 ub).set 10 (.func 53 [.ptr 1 0, .ptr 2 0]) = s1
    have a0 : s1.length = 53 := by rw [← hs1]; simp only [slot_len, hs]
    have a5 : s1.getD 5 .undef = .ptr 0 0 := by rw [← hs1]; simp only [go_sem, Nat.reduceLT, Nat.reduceEqDiff, reduceCtorEq, Int.reduceLT, Int.reduceEq, hs]
    have a10 : s1.getD 10 .undef = .func 53 [.ptr 1 0, .ptr 2 0] := by rw [← hs1]; simp only [go_sem, Nat.reduceLT, Nat.reduceEqDiff, reduceCtorEq, Int.reduceLT, Int.reduceEq, hs]
    have D0 : DG s1 a b [] ([VO.box [nilS] false, .box [ua] false, .box [ub] false] ++ [.loop [11, 12] f21_0 f21_1 s1 .ready none]) :=
      ⟨⟨ea, ua, hRa, hSa, rfl⟩, ⟨eb, ub, hRb, hSb, rfl⟩, ⟨[], nilS, rfl, BufG.nil _ _, .nil⟩, rfl, sa, sb⟩
    have iter : Ret F 53 [.yield 3, .ptr 1 0, .ptr 2 0] ([VO.box [nilS] false, .box [ua] false, .box [ub] false] ++ [.loop [11, 12] f21_0 f21_1 s1 .ready none]) fun v g' => DG s1 [] [] (diffF a b) g' := by
      refine call_E (fn := f53) rfl ?_
      simp only [f53]
      generalize hs0 : ([.yield 3, .ptr 1 0, .ptr 2 0] ++ List.replicate _ VV.undef : List VV) = s
      have hs : s.length = 66 := by rw [← hs0]; rfl
      have h0 : s.getD 0 .undef = .yield 3 := by rw [← hs0]; rfl
      have h1 : s.getD 1 .undef = .ptr 1 0 := by rw [← hs0]; rfl
      have h2 : s.getD 2 .undef = .ptr 2 0 := by rw [← hs0]; rfl
      clear hs0
      simp only [go_sem, Nat.reduceLT, Nat.reduceEqDiff, reduceCtorEq, Int.reduceLT, Int.reduceEq]
      refine f53_loop a0 a5 (a.length + b.length) a b [] _ _ (Nat.le_refl _) (by simp; omega) D0 ⟨by simp only [slot_len, hs], h0, h1, h2⟩ (fun s' g' b0 b1 => ?_)
      simp only [go_sem, Nat.reduceLT, Nat.reduceEqDiff, reduceCtorEq, Int.reduceLT, Int.reduceEq]
      exact b1
    obtain ⟨v53, g3, n53, D3⟩ := iter
    refine X_rangeF (f := 53) (caps := [.ptr 1 0, .ptr 2 0]) (t := .ready) (p := none) a10 n53 D3.p (by intro e; cases e) ?_
    obtain ⟨els, vo, o1, o2, o3⟩ := D3.o1
    have d1 : (g3.set 3 (.loop [11, 12] f21_0 f21_1 s1 .exhausted none))[0]? = some (.box [vo] false) := by rw [List.getElem?_set_ne (by omega)]; exact o1
    have d2 := o2.setLoop D3.p (.loop [11, 12] f21_0 f21_1 s1 .exhausted none)
    simp only [go_sem, Nat.reduceLT, Nat.reduceEqDiff, reduceCtorEq, Int.reduceLT, Int.reduceEq, outOf, a0, a5, List.length_cons, List.length_nil, Nat.zero_add, Nat.reduceAdd, ld_p0 d1]
    exact ⟨els, d2, o3⟩
  obtain ⟨v, g, n1, els, B, C⟩ := this
  exact ⟨v, g, n1, _, B.close, els, slV_SlV, C⟩
end Go.V07

set_option linter.unusedSimpArgs false
set_option linter.unusedVariables false
namespace Go.V07
open Go Go.Vm

/-! ### changes, there and back -/
theorem getCh_chB (a r : List UInt8) (p : Ch) (h1 : p.1.length ≤ 30) (h2 : p.2.1.length ≤ 150) (h3 : p.2.2 = true → p.2.1 = []) : getCh (a ++ chB p ++ r) a.length = (chCs p, a.length + (chB p).length, 0) := by
  obtain ⟨k, v, g⟩ := p
  cases g with
  | true =>
    have e1 : getText (a ++ chB (k, v, true) ++ r) a.length 30 = (k, a.length + (text k).length, 0) := by
      have := getText_text a ([1] ++ r) k 30 (by simp at h1; omega)
      rw [if_neg (by simp at h1; omega)] at this
      rw [← this]
      simp [chB]
    have e2 : (a ++ chB (k, v, true) ++ r)[a.length + (text k).length]? = some 1 := by
      have : a ++ chB (k, v, true) ++ r = (a ++ text k) ++ (1 :: r) := by simp [chB]
      rw [this, ← List.length_append, List.getElem?_append_right (Nat.le_refl _), Nat.sub_self]; rfl
    unfold getCh
    rw [e1]
    simp only [ne_eq, not_true_eq_false, if_false]
    rw [e2]
    simp [chCs, chB, Nat.add_assoc]
  | false =>
    have e1 : getText (a ++ chB (k, v, false) ++ r) a.length 30 = (k, a.length + (text k).length, 0) := by
      have := getText_text a ([0] ++ text v ++ r) k 30 (by simp at h1; omega)
      rw [if_neg (by simp at h1; omega)] at this
      rw [← this]
      simp [chB]
    have e2 : (a ++ chB (k, v, false) ++ r)[a.length + (text k).length]? = some 0 := by
      have : a ++ chB (k, v, false) ++ r = (a ++ text k) ++ (0 :: (text v ++ r)) := by simp [chB]
      rw [this, ← List.length_append, List.getElem?_append_right (Nat.le_refl _), Nat.sub_self]; rfl
    have e3 : getText (a ++ chB (k, v, false) ++ r) ((a.length + (text k).length + 1 : Nat) : Int) 150 = (v, a.length + (text k).length + 1 + (text v).length, 0) := by
      have := getText_text (a ++ text k ++ [0]) r v 150 (by simp at h2; omega)
      rw [if_neg (by simp at h2; omega)] at this
      have el : (a ++ text k ++ [0]).length = a.length + (text k).length + 1 := by simp; omega
      rw [el] at this
      rw [← this]
      simp [chB]
    unfold getCh
    rw [e1]
    simp only [ne_eq, not_true_eq_false, if_false]
    rw [e2]
    simp only [e3]
    simp [chCs, chB, Nat.add_assoc]
    omega
theorem wholeF_chs : ∀ (kv : List Ch) (a r : List UInt8) (out : List (List CV)), ChFits kv →
    wholeF (getCh (a ++ flatC kv ++ r)) kv.length a.length out = (out ++ chsCs kv, a.length + (flatC kv).length, 0)
  | [], a, r, out, _ => by simp [wholeF, chsCs, flatC]
  | p :: kv, a, r, out, h => by
    obtain ⟨h1, h2, h3⟩ := h p (by simp)
    have e1 : getCh (a ++ flatC (p :: kv) ++ r) a.length = (chCs p, a.length + (chB p).length, 0) := by
      have := getCh_chB a (flatC kv ++ r) p h1 h2 h3
      rw [← this, flatC_cons]
      simp only [List.append_assoc]
    have e2 := wholeF_chs kv (a ++ chB p) r (out ++ [chCs p]) (fun q hq => h q (by simp [hq]))
    rw [List.length_append] at e2
    simp only [List.length_cons, wholeF]
    rw [e1]
    simp only [ne_eq, not_true_eq_false, if_false]
    have e3 : a ++ flatC (p :: kv) ++ r = a ++ chB p ++ flatC kv ++ r := by rw [flatC_cons]; simp only [List.append_assoc]
    rw [e3, e2]
    simp only [chsCs, List.map_cons, flatC_cons, List.length_append, List.append_assoc, List.singleton_append, Nat.add_assoc]
theorem wholeB_chs (kv : List Ch) (hf : ChFits kv) (hk : kv.length ≤ 5000) : wholeB (getCh (chsB kv)) (chsB kv) = (chsCs kv, 0) := by
  have hc : clamp (kv.length : Int) = kv.length := clamp_of _ (by omega)
  have e0 : chsB kv = num kv.length ++ flatC kv ++ [] := by unfold chsB; rw [hc]; simp [flatC]
  have e1 : getNum (chsB kv) 0 = (kv.length, (num kv.length).length, 0) := by
    rw [e0]
    have := getNum_num [] (flatC kv ++ []) kv.length (by omega)
    simpa using this
  have e2 := wholeF_chs kv (num kv.length) [] [] hf
  rw [← e0] at e2
  unfold wholeB
  rw [e1]
  simp only [ne_eq, not_true_eq_false, if_false]
  rw [if_neg (by omega), e2]
  have e4 : ¬ (num kv.length).length + (flatC kv).length < (chsB kv).length := by rw [e0]; simp
  simp only [List.nil_append, not_true_eq_false, if_false, e4]
theorem chsB_ne (kv : List Ch) : chsB kv ≠ [] := by
  unfold chsB
  intro e
  exact num_ne _ (List.append_eq_nil_iff.1 e).1

/-! ### a sector that was made -/
section
variable {epoch n i of_ : Nat} {p : List UInt8}
theorem part_k (h : p.length ≤ 49) : kOf (partB epoch n i of_ p) = p.length := by
  have : (partB epoch n i of_ p).getD 10 0 = u8 p.length := by simp [partB, partR, sealB, wd]
  unfold kOf
  rw [this, u8_toNat _ (by omega)]
theorem part_of (h : of_ < 256) : ofOf (partB epoch n i of_ p) = of_ := by rw [partB_of]; omega
theorem part_body (h : p.length ≤ 49) : bodyOf (partB epoch n i of_ p) = p := by
  unfold bodyOf
  rw [part_k h]
  have hl : (wd epoch ++ wd n ++ [u8 i, u8 of_, u8 p.length]).length = 11 := by simp [wd]
  have e : partB epoch n i of_ p = (wd epoch ++ wd n ++ [u8 i, u8 of_, u8 p.length]) ++ (p ++ (List.replicate (49 - p.length) 0 ++ le4 (crc (partR epoch n i of_ p)))) := by
    unfold partB sealB
    conv => lhs; unfold partR
    simp only [List.append_assoc]
    rfl
  rw [e, List.drop_append, List.drop_of_length_le (by omega), hl, Nat.sub_self, List.drop_zero, List.nil_append, List.take_left]
theorem part_ok (h : p.length ≤ 49) (h1 : 1 ≤ p.length) (h2 : 1 ≤ of_) (h3 : of_ ≤ 200) (h4 : of_ ≤ i + 1 ∨ p.length = 49) : stepOK epoch n i of_ (partB epoch n i of_ p) := by
  refine ⟨partB_len h, ?_, ?_, h2, h3, ?_, ?_⟩
  · rw [part_k h]; exact h1
  · rw [part_k h]; exact h
  · rw [part_k h]; exact h4
  · rw [part_body h]
end

/-- Pieces: all but the last are full, none is empty. -/
def Pcs : List (List UInt8) → Prop
  | [] => True
  | p :: r => 1 ≤ p.length ∧ p.length ≤ 49 ∧ (r ≠ [] → p.length = 49) ∧ Pcs r
theorem pcs_Pcs : ∀ (m : Nat) (l : List UInt8), l.length ≤ m → Pcs (pcs 49 l)
  | 0, l, h => by
    have : l = [] := List.eq_nil_of_length_eq_zero (by omega)
    subst this; exact trivial
  | m + 1, l, h => by
    by_cases hl : l = []
    · subst hl; exact trivial
    · have h0 : 0 < l.length := List.length_pos_iff.2 hl
      rw [pcs_cons (by omega) hl]
      refine ⟨by rw [List.length_take]; omega, by rw [List.length_take]; omega, fun hne => ?_, pcs_Pcs m _ (by rw [List.length_drop]; omega)⟩
      rw [List.length_take]
      by_cases hc : 49 ≤ l.length
      · omega
      · exfalso
        apply hne
        rw [List.drop_eq_nil_of_le (by omega)]; rfl
theorem pcs_flat : ∀ (m : Nat) (l : List UInt8), l.length ≤ m → (pcs 49 l).flatten = l
  | 0, l, h => by
    have : l = [] := List.eq_nil_of_length_eq_zero (by omega)
    subst this; rfl
  | m + 1, l, h => by
    by_cases hl : l = []
    · subst hl; rfl
    · have h0 : 0 < l.length := List.length_pos_iff.2 hl
      rw [pcs_cons (by omega) hl, List.flatten_cons, pcs_flat m _ (by rw [List.length_drop]; omega), List.take_append_drop]

theorem frL_parts {epoch n of_ : Nat} (h3 : of_ ≤ 200) : ∀ (ps : List (List UInt8)) (m i : Nat) (acc : List UInt8) (rest : List (List UInt8)), ps ≠ [] → Pcs ps → i + ps.length = of_ → of_ ≤ m + i →
    frL epoch n of_ m i (partsL epoch n of_ i ps ++ rest) acc = some (acc ++ ps.flatten)
  | [], m, i, acc, rest, h, _, _, _ => absurd rfl h
  | p :: r, 0, i, acc, rest, _, hp, hi, hm => by simp at hi; omega
  | p :: r, m + 1, i, acc, rest, _, hp, hi, hm => by
    obtain ⟨h1, h2, h4, h5⟩ := hp
    simp only [partsL, List.cons_append, frL]
    have ok : stepOK epoch n i of_ (partB epoch n i of_ p) := by
      refine part_ok h2 h1 (by simp at hi; omega) h3 ?_
      by_cases hr : r = []
      · subst hr; left; simp at hi; omega
      · right; exact h4 hr
    rw [if_pos ok, part_body h2]
    by_cases hr : r = []
    · subst hr
      rw [if_neg (by simp at hi; omega)]; simp
    · have hrl : 0 < r.length := List.length_pos_iff.2 hr
      rw [if_pos (by simp at hi; omega), frL_parts h3 r m (i + 1) _ rest hr h5 (by simp at hi; omega) (by omega)]
      simp
theorem frameF_parts {epoch n : Nat} {l : List Ch} (hf : ChFits l) (hk : l.length ≤ 5000) (hl : (pcs 49 (chsB l)).length ≤ 200) (rest : List (List UInt8)) :
    frameF epoch n (partsL epoch n (pcs 49 (chsB l)).length 0 (pcs 49 (chsB l)) ++ rest) = (chsCs l, (pcs 49 (chsB l)).length) := by
  have hne : pcs 49 (chsB l) ≠ [] := by rw [pcs_cons (by omega) (chsB_ne l)]; simp
  have hof : ofS (partsL epoch n (pcs 49 (chsB l)).length 0 (pcs 49 (chsB l)) ++ rest) = (pcs 49 (chsB l)).length := by
    cases h : pcs 49 (chsB l) with
    | nil => exact absurd h hne
    | cons p r =>
      rw [h] at hl
      show ofOf (partB epoch n 0 (p :: r).length p) = _
      exact part_of (by omega)
  have e1 := frL_parts (epoch := epoch) (n := n) hl (pcs 49 (chsB l)) 200 0 [] rest hne (pcs_Pcs _ _ (Nat.le_refl _)) (by omega) (by omega)
  unfold frameF frameB
  rw [hof, e1]
  simp only [List.nil_append, pcs_flat _ _ (Nat.le_refl _), wholeB_chs l hf hk, if_true]
end Go.V07

set_option linter.unusedSimpArgs false
set_option linter.unusedVariables false
namespace Go.V07
open Go Go.Vm

/-! ### changes of choices -/
theorem chlist {n : Nat} (hn : n ≤ 60) (c : List UInt8) (vc : VV) (hc : SlV 1 (eB c) vc) : RetP F 13 [vc, vi .i64 n] fun w => ∃ els, SlV 3 els w ∧ ChsE els (chL n c) := by
  have : Ret F 13 [vc, vi .i64 n] [] fun v h' => ∃ els, closRes h' v = some (slV 3 els) ∧ ChsE els (chL n c) := by
    refine call_E (fn := f13) rfl ?_
    simp only [f13]
    generalize hs0 : ([vc, vi .i64 n] ++ List.replicate _ VV.undef : List VV) = s
    have hs : s.length = 42 := by rw [← hs0]; rfl
    have h0 : s.getD 0 .undef = vc := by rw [← hs0]; rfl
    have h1 : s.getD 1 .undef = vi .i64 n := by rw [← hs0]; rfl
    clear hs0
    obtain ⟨w1, g1, els, hc1, hr1, hR1⟩ := list_pure c vc hc n hn
    have hf := rowL_fits n c
    have hkl := rowL_len n c
    simp only [go_sem, Nat.reduceLT, Nat.reduceEqDiff, reduceCtorEq, Int.reduceLT, Int.reduceEq, hs, h0, h1]
    refine XO_callP (h1 := []) (by simp only [List.map, go_sem, Nat.reduceLT, Nat.reduceEqDiff, reduceCtorEq, Int.reduceLT, Int.reduceEq, hs]; exact hc.clos (clos_cv clos_nil)) hc1 hr1 ?_
    simp only [go_sem, Nat.reduceLT, Nat.reduceEqDiff, reduceCtorEq, Int.reduceLT, Int.reduceEq, hs]
    refine f13_loop els (rowL n c) (slV 2 els) slV_SlV hR1 (by omega) hf (rowL n c) 0 [] [] [] nilS _ _ rfl (by omega) (by simp only [List.length_nil]; omega) .nil (BufG.nil _ _) (by simp only [slot_len, hs]) (by simp only [go_sem, Nat.reduceLT, Nat.reduceEqDiff, reduceCtorEq, Int.reduceLT, Int.reduceEq, hs]) (by simp only [go_sem, Nat.reduceLT, Nat.reduceEqDiff, reduceCtorEq, Int.reduceLT, Int.reduceEq, hs]) (by simp only [go_sem, Nat.reduceLT, Nat.reduceEqDiff, reduceCtorEq, Int.reduceLT, Int.reduceEq, hs]; rfl) ?_
    intro s' h' v' els' hs' h5' hb' hC'
    simp only [go_sem, Nat.reduceLT, Nat.reduceEqDiff, reduceCtorEq, Int.reduceLT, Int.reduceEq, hs', h5']
    exact ⟨els', hb'.close, by simpa [chL] using hC'⟩
  obtain ⟨v, h', e1, els, e2, e3⟩ := this
  exact ⟨v, h', e1, _, e2, els, slV_SlV, e3⟩
theorem chL_fits (n : Nat) (c : List UInt8) : ChFits (chL n c) := by
  intro p hp
  unfold chL at hp
  obtain ⟨q, hq, rfl⟩ := List.mem_map.1 hp
  obtain ⟨h1, h2⟩ := rowL_fits n c q hq
  unfold chOf
  split
  · exact ⟨h1, by simp, fun _ => rfl⟩
  · exact ⟨h1, h2, fun h => by cases h⟩
theorem chL_len (n : Nat) (c : List UInt8) : (chL n c).length ≤ n := by unfold chL; rw [List.length_map]; exact rowL_len n c
theorem chB_fit {p : Ch} (h1 : p.1.length ≤ 30) (h2 : p.2.1.length ≤ 150) : (chB p).length ≤ 200 := by
  have h0 := chB_le p
  have a1 := num_len p.1.length
  have a2 := num_len p.2.1.length
  unfold text at h0
  simp only [List.length_append] at h0
  split at h0 <;> omega
theorem flatC_fit : ∀ l : List Ch, ChFits l → (flatC l).length ≤ 200 * l.length
  | [], _ => by simp [flatC]
  | p :: l, h => by
    have h1 := h p (by simp)
    have h2 := chB_fit h1.1 h1.2.1
    have h3 := flatC_fit l (fun q hq => h q (by simp [hq]))
    rw [flatC_cons, List.length_append, List.length_cons]; omega
theorem chsB_fit (l : List Ch) (h : ChFits l) : (chsB l).length ≤ 8 + 200 * l.length := by
  have h1 := flatC_fit l h
  have h2 := num_len l.length
  unfold chsB
  rw [List.length_append]
  unfold flatC at h1
  omega

/-! ### the chapter's example -/
def kn0 : List Ch := [([97], [49], false)]
def kn1 : List Ch := [([97], [], true)]
theorem kn_apply : applyF [] kn0 = [([97], [49])] := rfl
theorem kn_diff : diffF [([97], [49])] [] = kn1 := rfl
theorem kn_chs : chsB kn1 = [1, 1, 97, 1] := rfl
theorem kn_parts : partsF 1 0 kn1 = some [partB 1 0 0 1 [1, 1, 97, 1]] := by
  unfold partsF
  rw [kn_chs, if_pos ⟨rfl, rfl, by decide⟩]; rfl
theorem rdA_nil {epoch : Nat} : ∀ (m n : Nat), rdA epoch m n [] = ([], 0)
  | 0, _ => rfl
  | m + 1, n => rfl
theorem kn_read : readF 1 [partB 1 0 0 1 [1, 1, 97, 1]] = ([chsCs kn1], 1) := by
  have hf : ChFits kn1 := by intro p hp; simp [kn1] at hp; subst hp; simp
  have e := frameF_parts (epoch := 1) (n := 0) hf (by decide) (by rw [kn_chs]; decide) []
  rw [kn_chs] at e
  have e' : frameF 1 0 [partB 1 0 0 1 [1, 1, 97, 1]] = (chsCs kn1, 1) := e
  unfold readF
  rw [if_pos (show numOK 1 = true from rfl)]
  show rdA 1 2 0 _ = _
  rw [rdA, e']
  simp only [Nat.one_ne_zero, if_false, List.drop_succ_cons, List.drop_zero, rdA_nil]
theorem known_f11 : ∃ h', call F 11 [] [] = some (.ret (vb true), h') := by
  have : Ret F 11 [] [] fun v h' => v = vb true := by
    refine call_E (fn := f11) rfl ?_
    simp only [f11]
    generalize hs0 : ([] ++ List.replicate _ VV.undef : List VV) = s
    have hs : s.length = 62 := by rw [← hs0]; rfl
    clear hs0
    have hC0 : ChsE [[CV.sc (.string ⟨#[97]⟩), .sl 1 [[.sc (.int .u8 49)]] true, .sc (.bool false)]] kn0 := .cons ⟨_, rfl, .inr ⟨true, rfl⟩⟩ .nil
    obtain ⟨v1, g1, n1, w1, r1, els1, S1, R1⟩ := apply_f18 (G := False) insC_end (u := nilS) (.inl ⟨rfl, rfl⟩) .nil (by simp) hC0 (uc := .cv (.sl 3 [[CV.sc (.string ⟨#[97]⟩), .sl 1 [[.sc (.int .u8 49)]] true, .sc (.bool false)]] true)) (.inr ⟨true, rfl⟩) (by simp [kn0]) (by intro x hx; simp [kn0] at hx; subst hx; simp) (by
      refine .inr fun c1 x c2 e _ => ?_
      cases c1 with
      | nil => rfl
      | cons y c1 =>
        have := congrArg List.length e
        simp [kn0] at this)
    rw [kn_apply] at R1
    obtain ⟨v2, g2, n2, w2, r2, els2, S2, C2⟩ := diff_f21 R1 .nil S1 (ub := nilS) (.inl ⟨rfl, rfl⟩) (by intro r hr; simp at hr; subst hr; simp) (by intro r hr; simp at hr) (by simp)
    rw [kn_diff] at C2
    obtain ⟨v3, g3, n3, w3, r3, P3⟩ := parts_f24 (epoch := 1) (n := 0) S2 C2 (by rw [kn_chs]; simp) (by simp [kn1])
    rw [kn_parts] at P3
    obtain ⟨x3, els3, rfl, S3, P3⟩ := P3
    obtain ⟨v4, g4, n4, w4, r4, P4⟩ := read_pure P3 S3 (by simp) 1
    rw [kn_read] at P4
    obtain ⟨x4, els4, rfl, S4, P4⟩ := P4
    have l1 := R1.len
    have l2 := C2.len
    have l3 := P3.len
    have l4 := P4.len
    obtain ⟨e1, p1, he1, hp1, cc1, rfl, _⟩ := R1.get (i := 0) (by simp)
    simp at hp1; subst hp1
    obtain ⟨e2, p2, he2, hp2, cc2, rfl, _⟩ := C2.get (i := 0) (by simp [kn1])
    simp [kn1] at hp2; subst hp2
    have ia1 : ∀ g : Heap, iaO g 2 w1 (vi .i64 0) = some (.rptr [.sc (.string ⟨#[97]⟩), cc1], g) := fun g => S1.ia (by omega) he1
    have ia2 : ∀ g : Heap, iaO g 3 w2 (vi .i64 0) = some (.rptr [.sc (.string ⟨#[97]⟩), cc2, .sc (.bool true)], g) := fun g => S2.ia (by omega) he2
    have k1 : ((els1.length : Nat) : Int) = 1 := by rw [l1]; rfl
    have k2 : ((els2.length : Nat) : Int) = 1 := by rw [l2]; rfl
    have k3 : ((els3.length : Nat) : Int) = 1 := by rw [l3]; rfl
    have k4 : ((els4.length : Nat) : Int) = 1 := by rw [l4]; rfl
    have mk0 : mkoO ([] : Heap) 1 1 [.cv (.sc (.int .u8 0))] [(0, 1, .cv (.sc (.int .u8 49)))] = some (.own 0 0 0 1 true, [.arr 1 [[.sc (.int .u8 49)]] 0 false]) := rfl
    have bd : bdO [.cv (.sc (.string ⟨#[]⟩)), .cv (.sc (.slice none 0 0)), .cv (.sc (.bool false))] [(0, 1, .cv (.sc (.string ⟨#[97]⟩))), (1, 1, .own 0 0 0 1 true)] = some (.agg [.cv (.sc (.string ⟨#[97]⟩)), .own 0 0 0 1 true, .cv (.sc (.bool false))]) := rfl
    have mk : mkO ([.arr 1 [[.sc (.int .u8 49)]] 0 false] : Heap) 3 1 [.cv (.sc (.string ⟨#[]⟩)), .cv (.sc (.slice none 0 0)), .cv (.sc (.bool false))] [(0, 3, .agg [.cv (.sc (.string ⟨#[97]⟩)), .own 0 0 0 1 true, .cv (.sc (.bool false))])] = some (.cv (.sl 3 [[CV.sc (.string ⟨#[97]⟩), .sl 1 [[.sc (.int .u8 49)]] true, .sc (.bool false)]] true), [.arr 1 [[.sc (.int .u8 49)]] 0 true]) := rfl
    have mr : mrO ([.arr 1 [[.sc (.int .u8 49)]] 0 false] : Heap) (.own 0 0 0 1 true) = some (.own 0 0 0 1 true, [.arr 1 [[.sc (.int .u8 49)]] 0 false]) := rfl
    have fs : binO .eql (.cv (.sc (.string ⟨#[97]⟩))) (.cv (.sc (.string ⟨#[97]⟩))) = some (vb true) := by
      have := bo_eql (a := [97]) (b := [97])
      rw [this]; rfl
    simp only [go_sem, Nat.reduceLT, Nat.reduceEqDiff, reduceCtorEq, Int.reduceLT, Int.reduceEq, hs, mk0, mr, bd, mk]
    refine XO_callP (by simp only [List.map, go_sem, Nat.reduceLT, Nat.reduceEqDiff, reduceCtorEq, Int.reduceLT, Int.reduceEq, hs]; rfl) n1 r1 ?_
    simp only [go_sem, Nat.reduceLT, Nat.reduceEqDiff, reduceCtorEq, Int.reduceLT, Int.reduceEq, hs]
    refine XO_callP (by simp only [List.map, go_sem, Nat.reduceLT, Nat.reduceEqDiff, reduceCtorEq, Int.reduceLT, Int.reduceEq, hs]; exact S1.clos rfl) n2 r2 ?_
    simp only [go_sem, Nat.reduceLT, Nat.reduceEqDiff, reduceCtorEq, Int.reduceLT, Int.reduceEq, hs]
    refine XO_callP (by simp only [List.map, go_sem, Nat.reduceLT, Nat.reduceEqDiff, reduceCtorEq, Int.reduceLT, Int.reduceEq, hs]; exact clos_cv (clos_cv (S2.clos rfl))) n3 r3 ?_
    simp only [go_sem, Nat.reduceLT, Nat.reduceEqDiff, reduceCtorEq, Int.reduceLT, Int.reduceEq, hs]
    refine XO_callP (by simp only [List.map, go_sem, Nat.reduceLT, Nat.reduceEqDiff, reduceCtorEq, Int.reduceLT, Int.reduceEq, hs]; exact clos_cv (S3.clos rfl)) n4 r4 ?_
    simp only [go_sem, Nat.reduceLT, Nat.reduceEqDiff, reduceCtorEq, Int.reduceLT, Int.reduceEq, hs, S1.ln, S2.ln, S3.ln, S4.ln, k1, k2, k3, k4, ia1, ia2, fs]
    rfl
  obtain ⟨v, h', n1, rfl⟩ := this
  exact ⟨h', n1⟩
end Go.V07

set_option linter.unusedSimpArgs false
set_option linter.unusedVariables false
namespace Go.V07
open Go Go.Vm

theorem chs_pcs {l : List Ch} (hf : ChFits l) (hk : l.length ≤ 40) : (pcs 49 (chsB l)).length ≤ 200 ∧ 1 ≤ (pcs 49 (chsB l)).length := by
  have h1 := chsB_fit l hf
  have h2 := pcs_len (k := 49) (by omega) (chsB l).length (chsB l) (Nat.le_refl _)
  have h3 : 0 < (chsB l).length := List.length_pos_iff.2 (chsB_ne l)
  omega
theorem partsF_fits {epoch n : Nat} {l : List Ch} (he : epoch ≤ 1073741824) (hn : n ≤ 1073741824) (hf : ChFits l) (hk : l.length ≤ 40) : partsF epoch n l = some (partsL epoch n (pcs 49 (chsB l)).length 0 (pcs 49 (chsB l))) := by
  unfold partsF numOK
  rw [if_pos ⟨by simp; omega, by simp; omega, (chs_pcs hf hk).1⟩]
  rfl
end Go.V07

set_option linter.unusedSimpArgs false
set_option linter.unusedVariables false
namespace Go.V07
open Go Go.Vm

/-! ### frames of choices -/
def chunksC : Nat → List UInt8 → List (List UInt8)
  | 0, _ => []
  | m + 1, c => if c = [] then [] else c.take 8 :: chunksC m (c.drop 8)
def frameSec (epoch j : Nat) (l : List Ch) : List (List UInt8) := partsL epoch j (pcs 49 (chsB l)).length 0 (pcs 49 (chsB l))
def framesA (epoch : Nat) : Nat → List (List UInt8) → List (List UInt8)
  | _, [] => []
  | j, b :: r => frameSec epoch j (chL 4 b) ++ framesA epoch (j + 1) r
def framesL (epoch : Nat) (c : List UInt8) : List (List UInt8) := framesA epoch 0 (chunksC 5 c)
theorem frameSec_len (epoch j : Nat) (c : List UInt8) : 1 ≤ (frameSec epoch j (chL 4 c)).length ∧ (frameSec epoch j (chL 4 c)).length ≤ 200 := by
  have h1 := chL_len 4 c
  obtain ⟨a, b⟩ := chs_pcs (chL_fits 4 c) (by omega)
  unfold frameSec
  rw [partsL_len]
  exact ⟨b, a⟩
theorem chunks_len : ∀ (m : Nat) (c : List UInt8), (chunksC m c).length = (min c.length (8 * m) + 7) / 8
  | 0, c => by simp [chunksC]
  | m + 1, c => by
    unfold chunksC
    split
    · rename_i h; subst h; simp
    · rename_i h
      have h0 : 0 < c.length := List.length_pos_iff.2 h
      rw [List.length_cons, chunks_len m, List.length_drop]
      omega
theorem framesA_len (epoch : Nat) : ∀ (L : List (List UInt8)) (j : Nat), L.length ≤ (framesA epoch j L).length ∧ (framesA epoch j L).length ≤ 200 * L.length
  | [], j => by simp [framesA]
  | b :: r, j => by
    have h1 := framesA_len epoch r (j + 1)
    have h2 := frameSec_len epoch j b
    simp only [framesA, List.length_append, List.length_cons]
    omega
theorem framesA_mem {epoch : Nat} : ∀ (L : List (List UInt8)) (j : Nat) (b : List UInt8), b ∈ framesA epoch j L → ∃ n i of_ p, b = partB epoch n i of_ p ∧ p.length ≤ 49
  | [], j, b, h => by simp [framesA] at h
  | x :: r, j, b, h => by
    simp only [framesA, List.mem_append] at h
    rcases h with h | h
    · have key : ∀ (ps : List (List UInt8)) (i of_ : Nat), (∀ p ∈ ps, p.length ≤ 49) → b ∈ partsL epoch j of_ i ps → ∃ n i of_ p, b = partB epoch n i of_ p ∧ p.length ≤ 49 := by
        intro ps
        induction ps with
        | nil => intro i of_ _ hb; simp [partsL] at hb
        | cons p ps ih =>
          intro i of_ hp hb
          rcases List.mem_cons.1 hb with rfl | hb
          · exact ⟨j, i, of_, p, rfl, hp p (by simp)⟩
          · exact ih (i + 1) of_ (fun q hq => hp q (by simp [hq])) hb
      exact key _ _ _ (fun p hp => pcs_part p hp) h
    · exact framesA_mem r (j + 1) b h

/-! ### of which one sector is another one -/
/-! ### Frames -/
theorem f14_loop {epoch : Nat} (he : epoch ≤ 1073741824) {c : List UInt8} {vc : VV} (hc : SlV 1 (eB c) vc) {h0 : Heap} : ∀ (m j : Nat) (acc : List (List UInt8)) (els : List (List CV)) (v : VV) (s : List VV) (h : Heap) (Q : Pst), j + m = 5 → 8 * j ≤ c.length + 7 → acc.length ≤ 200 * j → NB h0 h 1 els v → PgE els acc → s.length = 39 → s.getD 0 .undef = vc → s.getD 1 .undef = vi .i64 epoch → s.getD 5 .undef = v → s.getD 6 .undef = vi .i64 (8 * j : Nat) →
    (∀ s' h' els' v', s'.length = 39 → s'.getD 5 .undef = v' → NB h0 h' 1 els' v' → PgE els' (acc ++ framesA epoch j (chunksC m (c.drop (8 * j)))) → Q (.exit 0) ⟨s', h'⟩) → X F (.loop f14_0) ⟨s, h⟩ Q := by
  intro m
  induction m with
  | zero =>
    intro j acc els v s h Q hj hjc hac hB hP hs e0 e1 e5 e6 hQ
    have c2 : ¬ ((8 * j : Nat) : Int) < 40 := by omega
    rw [X_loop, X_eq f14_0.eq_1]
    by_cases c1 : ((8 * j : Nat) : Int) < (c.length : Int)
    · simp only [go_sem, Nat.reduceLT, Nat.reduceEqDiff, reduceCtorEq, Int.reduceLT, Int.reduceEq, hs, e6, e0, hc.ln, eB_len, c1, c2]
      exact hQ _ h els v (by simp only [slot_len, hs]) (by simp only [go_sem, Nat.reduceLT, Nat.reduceEqDiff, reduceCtorEq, Int.reduceLT, Int.reduceEq, e5]) hB (by simpa [chunksC, framesA] using hP)
    · simp only [go_sem, Nat.reduceLT, Nat.reduceEqDiff, reduceCtorEq, Int.reduceLT, Int.reduceEq, hs, e6, e0, hc.ln, eB_len, c1]
      exact hQ _ h els v (by simp only [slot_len, hs]) (by simp only [go_sem, Nat.reduceLT, Nat.reduceEqDiff, reduceCtorEq, Int.reduceLT, Int.reduceEq, e5]) hB (by simpa [chunksC, framesA] using hP)
  | succ m ih =>
    intro j acc els v s h Q hj hjc hac hB hP hs e0 e1 e5 e6 hQ
    have c2 : ((8 * j : Nat) : Int) < 40 := by omega
    rw [X_loop, X_eq f14_0.eq_1]
    by_cases c1 : ((8 * j : Nat) : Int) < (c.length : Int)
    · have hne : c.drop (8 * j) ≠ [] := by
        intro e
        have := congrArg List.length e
        rw [List.length_drop, List.length_nil] at this; omega
      have hch : chunksC (m + 1) (c.drop (8 * j)) = (c.drop (8 * j)).take 8 :: chunksC m (c.drop (8 * (j + 1))) := by
        rw [chunksC, if_neg hne, List.drop_drop]; rfl
      rw [hch, framesA] at hQ
      have z8 : (8 : Int) ≠ 0 := by decide
      have wq : IntKind.i64.wrap (((8 * j : Nat) : Int).tdiv 8) = (j : Int) := by
        have e : ((8 * j : Nat) : Int).tdiv 8 = ((8 * j / 8 : Nat) : Int) := rfl
        rw [e, IntWalk.i64_in _ (by omega)]; omega
      have w8 : IntKind.i64.wrap (((8 * j : Nat) : Int) + 8) = ((8 * (j + 1) : Nat) : Int) := by rw [IntWalk.i64_in _ (by omega)]; omega
      have hmn : min ((8 * (j + 1) : Nat) : Int) (c.length : Int) = ((min (8 * (j + 1)) c.length : Nat) : Int) := by omega
      obtain ⟨v', sv, svs⟩ : ∃ v', SlV 1 (eB ((c.drop (8 * j)).take 8)) v' ∧ slO h 1 vc (some (vi .i64 ((8 * j : Nat) : Int))) (some (vi .i64 ((min (8 * (j + 1)) c.length : Nat) : Int))) none = some (v', h) := by
        rcases hc with ⟨rfl, e⟩ | ⟨ex, rfl⟩
        · exfalso
          have := congrArg List.length e
          rw [eB_len, List.length_nil] at this; omega
        · obtain ⟨ex', he'⟩ := sl_sl (h := h) (z := 1) (els := eB c) (ex := ex) (k := .i64) (k' := .i64) (a := ((8 * j : Nat) : Int)) (b := ((min (8 * (j + 1)) c.length : Nat) : Int)) (by omega) (by omega) (by rw [eB_len]; omega)
          refine ⟨_, ?_, he'⟩
          rw [Int.toNat_natCast, Int.toNat_natCast, eB_part]
          have e3 : (c.drop (8 * j)).take (min (8 * (j + 1)) c.length - 8 * j) = (c.drop (8 * j)).take 8 := by
            rw [List.take_eq_take_iff, List.length_drop]; omega
          rw [e3]
          exact .inr ⟨_, rfl⟩
      obtain ⟨v13, g13, n13, w13, r13, els13, S13, C13⟩ := chlist (n := 4) (by omega) ((c.drop (8 * j)).take 8) v' sv
      have hf := chL_fits 4 ((c.drop (8 * j)).take 8)
      have hk := chL_len 4 ((c.drop (8 * j)).take 8)
      have hb := chsB_fit _ hf
      obtain ⟨v25, g25, n25, w25, r25, P25⟩ := rparts_f25 (epoch := (epoch : Int)) (n := (j : Int)) S13 C13 (by omega) (by omega)
      rw [partsF_fits he (by omega) hf (by omega)] at P25
      obtain ⟨x, elsx, rfl, Sx, Ex⟩ := P25
      have hfl := frameSec_len epoch j ((c.drop (8 * j)).take 8)
      have hxl := Ex.len
      have hel := hP.len
      have hfs : partsL epoch j (pcs 49 (chsB (chL 4 ((c.drop (8 * j)).take 8)))).length 0 (pcs 49 (chsB (chL 4 ((c.drop (8 * j)).take 8)))) = frameSec epoch j (chL 4 ((c.drop (8 * j)).take 8)) := rfl
      rw [hfs] at Ex hxl
      simp only [go_sem, Nat.reduceLT, Nat.reduceEqDiff, reduceCtorEq, Int.reduceLT, Int.reduceEq, hs, e6, e0, e1, hc.ln, eB_len, c1, c2, bin_quo z8, wq, w8, hmn, svs]
      refine XO_callP (h1 := h) (by simp only [List.map, go_sem, Nat.reduceLT, Nat.reduceEqDiff, reduceCtorEq, Int.reduceLT, Int.reduceEq, hs]; exact sv.clos rfl) n13 r13 ?_
      simp only [go_sem, Nat.reduceLT, Nat.reduceEqDiff, reduceCtorEq, Int.reduceLT, Int.reduceEq, hs]
      refine XO_callP (h1 := h) (by simp only [List.map, go_sem, Nat.reduceLT, Nat.reduceEqDiff, reduceCtorEq, Int.reduceLT, Int.reduceEq, hs]; exact clos_cv (clos_cv (S13.clos rfl))) n25 r25 ?_
      simp only [go_sem, Nat.reduceLT, Nat.reduceEqDiff, reduceCtorEq, Int.reduceLT, Int.reduceEq, hs, e5]
      refine XO_appNB hB (new := elsx) (by simp only [go_sem, Nat.reduceLT, Nat.reduceEqDiff, reduceCtorEq, Int.reduceLT, Int.reduceEq, hs]) (by simp only [go_sem, Nat.reduceLT, Nat.reduceEqDiff, reduceCtorEq, Int.reduceLT, Int.reduceEq, hs]; exact Sx.src) (by omega) (by omega) (fun v2 h' hB' _ _ _ => ?_)
      simp only [go_sem, Nat.reduceLT, Nat.reduceEqDiff, reduceCtorEq, Int.reduceLT, Int.reduceEq, hs, e6, w8]
      refine ih (j + 1) (acc ++ frameSec epoch j (chL 4 ((c.drop (8 * j)).take 8))) _ v2 _ _ Q (by omega) (by omega) (by rw [List.length_append]; omega) hB' (hP.app Ex) (by simp only [slot_len, hs]) (by simp only [go_sem, Nat.reduceLT, Nat.reduceEqDiff, reduceCtorEq, Int.reduceLT, Int.reduceEq, e0]) (by simp only [go_sem, Nat.reduceLT, Nat.reduceEqDiff, reduceCtorEq, Int.reduceLT, Int.reduceEq, e1]) (by simp only [go_sem, Nat.reduceLT, Nat.reduceEqDiff, reduceCtorEq, Int.reduceLT, Int.reduceEq, hs]) (by simp only [go_sem, Nat.reduceLT, Nat.reduceEqDiff, reduceCtorEq, Int.reduceLT, Int.reduceEq, hs]) (fun s' h2 els' v2 a1 a2 a3 a4 => hQ s' h2 els' v2 a1 a2 a3 ?_)
      rw [List.append_assoc] at a4
      exact a4
    · have hd : c.drop (8 * j) = [] := List.drop_eq_nil_of_le (by omega)
      rw [hd] at hQ
      simp only [go_sem, Nat.reduceLT, Nat.reduceEqDiff, reduceCtorEq, Int.reduceLT, Int.reduceEq, hs, e6, e0, hc.ln, eB_len, c1]
      exact hQ _ h els v (by simp only [slot_len, hs]) (by simp only [go_sem, Nat.reduceLT, Nat.reduceEqDiff, reduceCtorEq, Int.reduceLT, Int.reduceEq, e5]) hB (by simpa [chunksC, framesA] using hP)
theorem frames_f14 {epoch : Nat} (he : epoch ≤ 1073741824) {c : List UInt8} {vc : VV} (hc : SlV 1 (eB c) vc) (h : Heap) : Ret F 14 [vc, vi .i64 epoch] h fun v g => ∃ els, NB h g 1 els v ∧ PgE els (framesL epoch c) := by
  refine call_E (fn := f14) rfl ?_
  simp only [f14]
  generalize hs0 : ([vc, vi .i64 epoch] ++ List.replicate _ VV.undef : List VV) = s
  have hs : s.length = 39 := by rw [← hs0]; rfl
  have h0 : s.getD 0 .undef = vc := by rw [← hs0]; rfl
  have h1 : s.getD 1 .undef = vi .i64 epoch := by rw [← hs0]; rfl
  clear hs0
  simp only [go_sem, Nat.reduceLT, Nat.reduceEqDiff, reduceCtorEq, Int.reduceLT, Int.reduceEq, hs]
  refine f14_loop he hc 5 0 [] [] nilS _ _ _ rfl (by omega) (by simp) (NB.nil _ _) .nil (by simp only [slot_len, hs]) (by simp only [go_sem, Nat.reduceLT, Nat.reduceEqDiff, reduceCtorEq, Int.reduceLT, Int.reduceEq, h0]) (by simp only [go_sem, Nat.reduceLT, Nat.reduceEqDiff, reduceCtorEq, Int.reduceLT, Int.reduceEq, h1]) (by simp only [go_sem, Nat.reduceLT, Nat.reduceEqDiff, reduceCtorEq, Int.reduceLT, Int.reduceEq, hs]) (by simp only [go_sem, Nat.reduceLT, Nat.reduceEqDiff, reduceCtorEq, Int.reduceLT, Int.reduceEq, hs]; rfl) (fun s' h' els' v' a1 a2 a3 a4 => ?_)
  simp only [go_sem, Nat.reduceLT, Nat.reduceEqDiff, reduceCtorEq, Int.reduceLT, Int.reduceEq, a1, a2]
  exact ⟨els', a3, by simpa [framesL] using a4⟩
end Go.V07

set_option linter.unusedSimpArgs false
set_option linter.unusedVariables false
namespace Go.V07
open Go Go.Vm

theorem PgE.put' {els : List (List CV)} {k : List (List UInt8)} (h : PgE els k) (i : Nat) {c : CV} {b : List UInt8} (hc : SlV 1 (eB b) (.cv c)) : PgE (els.set i [c]) (k.set i b) := by
  induction h generalizing i with
  | nil => exact .nil
  | cons h t ih =>
    cases i with
    | zero => exact .cons hc t
    | succ i => exact .cons h (ih i)
section
variable {R G : List (List (List CV))} {elsF elsG : List (List CV)} {vf vg : VV} {h : Heap}
end

end Go.V07

set_option linter.unusedSimpArgs false
set_option linter.unusedVariables false
namespace Go.V07
open Go Go.Vm
open Go.Proofs.Ytjjmkcmolmjpeaa

/-! ### what the bound says -/

theorem bulk_one {H : Type} (d : DataW H) : 1 ≤ Rows.uptoBulk d := by
  cases d with
  | lit l => cases l <;> simp [Rows.uptoBulk]
  | nil => simp [Rows.uptoBulk]
  | ptr d => simp [Rows.uptoBulk]
  | slice elems spare => simp [Rows.uptoBulk]
  | agg parts => simp [Rows.uptoBulk]
  | iface t d => simp [Rows.uptoBulk]
  | map entries => simp [Rows.uptoBulk]
  | held h => simp [Rows.uptoBulk]
theorem bulk_len {H : Type} (l : List (DataW H)) : l.length ≤ Rows.uptoBulkAll l := by
  induction l with
  | nil => simp [Rows.uptoBulkAll]
  | cons x r ih => have := bulk_one x; simp only [Rows.uptoBulkAll, List.length_cons]; omega
theorem bulk_part {H : Type} {d : DataW H} {l : List (DataW H)} (h : d ∈ l) : Rows.uptoBulk d ≤ Rows.uptoBulkAll l := by
  induction l with
  | nil => cases h
  | cons x r ih =>
    simp only [Rows.uptoBulkAll]
    cases List.mem_cons.1 h with
    | inl e => subst e; omega
    | inr e => have := ih e; omega

theorem DR_bytesB {H : Type} {P : Program} {t e n : Nat} {d : DataW H} {cs : List CV} (hu : P.underlying t = some (.slice e)) (he : P.underlying e = some (.int .u8)) (hc : P.cellsOf e = 1) (h : DR P (n + 2) t d cs) :
    ∃ (l : List UInt8) (c : CV), cs = [c] ∧ SlV 1 (eB l) (.cv c) ∧ l.length + 1 ≤ Rows.uptoBulk d := by
  obtain ⟨l, c, h1, h2, _, ⟨rfl, rfl⟩ | ⟨ds, rest, rfl, hl⟩⟩ := DR_bytes hu he hc h
  · exact ⟨[], c, h1, h2, by simp [Rows.uptoBulk]⟩
  · refine ⟨l, c, h1, h2, ?_⟩
    have := bulk_len ds
    simp only [Rows.uptoBulk]; omega

/-! ### LogParts -/
end Go.V07

set_option linter.unusedSimpArgs false
set_option linter.unusedVariables false
namespace Go.V07
open Go Go.Vm
open Go.Proofs.Ytjjmkcmolmjpeaa

section
variable {R : List (List (List CV))} {elsF elsG : List (List CV)} {vf vg : VV} {h : Heap}
theorem f15_loop (hF : FrE elsF R) (hG : FrE elsG R) (vF : SlV 1 elsF vf) (vG : SlV 1 elsG vg) (hc : ∀ b ∈ R, ∃ kv, ChsE b kv ∧ kv.length ≤ 1000000) (hl : R.length ≤ 1000000000) :
    ∀ (m k : Nat) (s : List VV) (Q : Pst), k + m = R.length → s.length = 48 → s.getD 5 .undef = vf → s.getD 7 .undef = vg → s.getD 9 .undef = vi .i64 k → (∀ s', s'.length = 48 → Q (.exit 0) ⟨s', h⟩) → X F (.loop f15_1) ⟨s, h⟩ Q := by
  intro m
  have hfl := hF.len
  have hgl := hG.len
  induction m with
  | zero =>
    intro k s Q hk hs e5 e7 e9 hQ
    have c : ¬ ((k : Nat) : Int) < (elsF.length : Int) := by omega
    rw [X_loop, X_eq f15_1.eq_1]
    simp only [go_sem, Nat.reduceLT, Nat.reduceEqDiff, reduceCtorEq, Int.reduceLT, Int.reduceEq, hs, e9, e5, vF.ln, c]
    exact hQ _ (by simp only [slot_len, hs])
  | succ m ih =>
    intro k s Q hk hs e5 e7 e9 hQ
    have c : ((k : Nat) : Int) < (elsF.length : Int) := by omega
    obtain ⟨cg, bg, heg, hbg, hcg⟩ := hG.get (i := k) (by omega)
    obtain ⟨cf, bf, hef, hbf, hcf⟩ := hF.get (i := k) (by omega)
    have hbb : bg = bf := by rw [hbg] at hbf; exact Option.some.inj hbf
    subst hbb
    obtain ⟨kv, hkv, hkl⟩ := hc bg (List.mem_of_getElem? hbf)
    have f1 : ∀ g : Heap, iaO g 1 vf (vi .i64 (k : Int)) = some (.rptr [cf], g) := fun g => vF.ia (by omega) (by rw [Int.toNat_natCast]; exact hef)
    have g1 : ∀ g : Heap, iaO g 1 vg (vi .i64 (k : Int)) = some (.rptr [cg], g) := fun g => vG.ia (by omega) (by rw [Int.toNat_natCast]; exact heg)
    have la : ∀ (g : Heap) (c : CV), ldO g false 1 (.rptr [c]) = some (.cv c, g) := fun g c => ld_rptr
    have hw : IntKind.i64.wrap ((k : Int) + 1) = ((k + 1 : Nat) : Int) := by rw [IntWalk.i64_in _ (by omega)]; omega
    obtain ⟨v20, h20, n20, e20⟩ := sameC_f20 _ _ kv (.cv cf) (.cv cg) hcf hcg hkv hkv (by omega) []
    have e20' : v20 = vb true := e20
    subst e20'
    rw [X_loop, X_eq f15_1.eq_1]
    simp only [go_sem, Nat.reduceLT, Nat.reduceEqDiff, reduceCtorEq, Int.reduceLT, Int.reduceEq, hs, e9, e5, vF.ln, c]
    refine X_draw rfl ?_
    simp only [go_sem, Nat.reduceLT, Nat.reduceEqDiff, reduceCtorEq, Int.reduceLT, Int.reduceEq, hs, e9, e5, e7, f1, g1, la]
    refine XD_callP (by simp only [List.map, go_sem, Nat.reduceLT, Nat.reduceEqDiff, reduceCtorEq, Int.reduceLT, Int.reduceEq, hs]; exact hcf.clos (hcg.clos rfl)) n20 rfl ?_
    simp only [go_sem, Nat.reduceLT, Nat.reduceEqDiff, reduceCtorEq, Int.reduceLT, Int.reduceEq, hs, e9, hw]
    exact ih (k + 1) _ Q (by omega) (by simp only [slot_len, hs]) (by simp only [go_sem, Nat.reduceLT, Nat.reduceEqDiff, reduceCtorEq, Int.reduceLT, Int.reduceEq, e5]) (by simp only [go_sem, Nat.reduceLT, Nat.reduceEqDiff, reduceCtorEq, Int.reduceLT, Int.reduceEq, e7]) (by simp only [go_sem, Nat.reduceLT, Nat.reduceEqDiff, reduceCtorEq, Int.reduceLT, Int.reduceEq, hs]) hQ
end

theorem frL_all {e n of_ : Nat} : ∀ (m i : Nat) (ss : List (List UInt8)) (acc all : List UInt8), frL e n of_ m i ss acc = some all → all.length ≤ acc.length + 49 * m
  | 0, i, ss, acc, all, h => by simp [frL] at h; subst h; omega
  | m + 1, i, [], acc, all, h => by simp [frL] at h
  | m + 1, i, b :: r, acc, all, h => by
    simp only [frL] at h
    split at h
    · rename_i ok
      have hb := body_len ok.1 ok.2.2.1
      have hk := ok.2.2.1
      split at h
      · have := frL_all m (i + 1) r _ all h
        rw [List.length_append] at this; omega
      · cases h
        rw [List.length_append]; omega
    · cases h
theorem frame_chs {e n : Nat} {ss : List (List UInt8)} : ∃ kv, ChsE (frameF e n ss).1 kv ∧ kv.length ≤ 1000000 := by
  unfold frameF
  split
  · exact ⟨[], .nil, by simp⟩
  · rename_i all ha
    split
    · obtain ⟨kv, h1, h2⟩ := wholeB_chsE all
      have := frL_all 200 0 ss [] all ha
      exact ⟨kv, h1, by simp at this; omega⟩
    · exact ⟨[], .nil, by simp⟩
theorem rdA_chs {e : Nat} : ∀ (m n : Nat) (ss : List (List UInt8)), (∀ b ∈ (rdA e m n ss).1, ∃ kv, ChsE b kv ∧ kv.length ≤ 1000000) ∧ (rdA e m n ss).1.length ≤ m
  | 0, n, ss => by simp [rdA]
  | m + 1, n, ss => by
    unfold rdA
    split
    · simp
    · have k := rdA_chs (e := e) m (n + 1) (ss.drop (frameF e n ss).2)
      refine ⟨fun b hb => ?_, by simp only [List.length_cons]; omega⟩
      rcases List.mem_cons.1 hb with rfl | hb
      · exact frame_chs
      · exact k.1 b hb
theorem readF_chs (e : Int) (ss : List (List UInt8)) : (∀ b ∈ (readF e ss).1, ∃ kv, ChsE b kv ∧ kv.length ≤ 1000000) ∧ (readF e ss).1.length ≤ ss.length + 1 := by
  unfold readF
  split
  · exact rdA_chs _ _ _
  · simp

theorem reads_f15 {ss : List (List UInt8)} {elsS : List (List CV)} {u : VV} (hP : PgE elsS ss) (hu : SlV 1 elsS u) (hl : ss.length ≤ 100000000) (epoch : Int) : ∃ h', call F 15 [vi .i64 epoch, u] [] = some (.ret (vb true), h') := by
  have : Ret F 15 [vi .i64 epoch, u] [] fun v h' => v = vb true := by
    refine call_E (fn := f15) rfl ?_
    simp only [f15]
    generalize hs0 : ([vi .i64 epoch, u] ++ List.replicate _ VV.undef : List VV) = s
    have hs : s.length = 48 := by rw [← hs0]; rfl
    have h0 : s.getD 0 .undef = vi .i64 epoch := by rw [← hs0]; rfl
    have h1 : s.getD 1 .undef = u := by rw [← hs0]; rfl
    clear hs0
    obtain ⟨v1, g1, n1, w1, r1, x1, els1, rfl, S1, E1⟩ := read_pure hP hu (by omega) epoch
    obtain ⟨v2, g2, n2, w2, r2, x2, els2, rfl, S2, E2⟩ := rread_f28 hP hu (by omega) epoch
    obtain ⟨hc, hl2⟩ := readF_chs epoch ss
    have l1 := E1.len
    have l2 := E2.len
    have z1 : ¬ (((readF epoch ss).2 : Nat) : Int) ≠ (((readF epoch ss).2 : Nat) : Int) := fun e => e rfl
    have z2 : ¬ ((els1.length : Nat) : Int) ≠ ((els2.length : Nat) : Int) := by omega
    simp only [go_sem, Nat.reduceLT, Nat.reduceEqDiff, reduceCtorEq, Int.reduceLT, Int.reduceEq, hs, h0, h1]
    refine XO_callP (h1 := []) (by simp only [List.map, go_sem, Nat.reduceLT, Nat.reduceEqDiff, reduceCtorEq, Int.reduceLT, Int.reduceEq, hs]; exact clos_cv (hu.clos rfl)) n1 r1 ?_
    simp only [go_sem, Nat.reduceLT, Nat.reduceEqDiff, reduceCtorEq, Int.reduceLT, Int.reduceEq, hs, h0, h1]
    refine XO_callP (h1 := []) (by simp only [List.map, go_sem, Nat.reduceLT, Nat.reduceEqDiff, reduceCtorEq, Int.reduceLT, Int.reduceEq, hs]; exact clos_cv (hu.clos rfl)) n2 r2 ?_
    simp only [go_sem, Nat.reduceLT, Nat.reduceEqDiff, reduceCtorEq, Int.reduceLT, Int.reduceEq, hs]
    rw [X_eq f15_0.eq_1]
    have z2' : ((els1.length : Nat) : Int) = ((els2.length : Nat) : Int) := by omega
    simp only [go_sem, Nat.reduceLT, Nat.reduceEqDiff, reduceCtorEq, Int.reduceLT, Int.reduceEq, hs, S1.ln, S2.ln, z2']
    refine f15_loop E1 E2 S1 S2 hc (by omega) (readF epoch ss).1.length 0 _ _ (by omega) (by simp only [slot_len, hs]) (by simp only [go_sem, Nat.reduceLT, Nat.reduceEqDiff, reduceCtorEq, Int.reduceLT, Int.reduceEq, hs]) (by simp only [go_sem, Nat.reduceLT, Nat.reduceEqDiff, reduceCtorEq, Int.reduceLT, Int.reduceEq, hs]) (by simp only [go_sem, Nat.reduceLT, Nat.reduceEqDiff, reduceCtorEq, Int.reduceLT, Int.reduceEq, hs]; rfl) (fun s' a1 => ?_)
    simp only [go_sem, Nat.reduceLT, Nat.reduceEqDiff, reduceCtorEq, Int.reduceLT, Int.reduceEq, a1]
  obtain ⟨v, h', n1, rfl⟩ := this
  exact ⟨h', n1⟩
end Go.V07

set_option linter.unusedSimpArgs false
set_option linter.unusedVariables false
namespace Go.V07
open Go Go.Vm
open Go.Proofs.Ytjjmkcmolmjpeaa

theorem st_e1_own {h : Heap} {id g i id2 g2 n : Nat} {els els2 : List (List CV)} {e : List CV} {ex : Bool} (ho : h[id]? = some (.arr 1 els g false)) (he : els[i]? = some e) (hl : e.length = 1) (h2 : h[id2]? = some (.arr 1 els2 g2 false)) (hn : els2.length = n) (hne : id ≠ id2) :
    stO h 1 (.eptr id g i 0) (.own id2 g2 0 n ex) = some (.undef, (h.set id2 (.arr 1 els2 g2 true)).set id (.arr 1 (els.set i [.sl 1 els2 ex]) g false)) := by
  have hle : n ≤ els2.length := by omega
  have c3 : closL h [.own id2 g2 0 n ex] = some ([.sl 1 els2 ex], h.set id2 (.arr 1 els2 g2 true)) := by
    have : clos h (.own id2 g2 0 n ex) = some (.sl 1 els2 ex, h.set id2 (.arr 1 els2 g2 true)) := by
      simp [Go.Vm.clos, h2, hle]
      exact List.take_of_length_le (by omega)
    simp only [closL, this]
  have h3 : (h.set id2 (.arr 1 els2 g2 true))[id]? = some (.arr 1 els g false) := by rw [List.getElem?_set_ne (fun e => hne e.symm)]; exact ho
  obtain ⟨c, rfl⟩ : ∃ c, e = [c] := by
    match e, hl with
    | [c], _ => exact ⟨c, rfl⟩
  have hsp : splice [c] 0 [.sl 1 els2 ex] = [CV.sl 1 els2 ex] := rfl
  simp [stO, stepI, rhoO, cellsOf, c3, h3, he, hsp]


theorem f4_loop1 {ss : List (List UInt8)} {elsS : List (List CV)} {u : VV} (hP : PgE elsS ss) (hu : SlV 1 elsS u) (hl : ss.length ≤ 100000000) (hb : ∀ b ∈ ss, b.length ≤ 100000000) (h : Heap) : ∀ (m i : Nat) (n : Int) (s : List VV) (Q : Pst), i + m = ss.length → s.length = 104 → s.getD 1 .undef = u → s.getD 13 .undef = vi .i64 n → s.getD 14 .undef = vi .i64 i →
    (∀ s' n', s'.length = 104 → (∀ j, j < 12 → s'.getD j .undef = s.getD j .undef) → s'.getD 13 .undef = vi .i64 n' → Q (.exit 0) ⟨s', h⟩) → X F (.loop f4_0) ⟨s, h⟩ Q := by
  intro m
  have hpl := hP.len
  induction m with
  | zero =>
    intro i n s Q hi hs e1 e13 e14 hQ
    have c : ¬ ((i : Nat) : Int) < (elsS.length : Int) := by omega
    rw [X_loop, X_eq f4_0.eq_1]
    simp only [go_sem, Nat.reduceLT, Nat.reduceEqDiff, reduceCtorEq, Int.reduceLT, Int.reduceEq, hs, e14, e1, hu.ln, c]
    exact hQ _ n (by simp only [slot_len, hs]) (fun j hj => by rw [slot_ne (by omega), slot_ne (by omega), slot_ne (by omega), slot_ne (by omega)]) (by simp only [go_sem, Nat.reduceLT, Nat.reduceEqDiff, reduceCtorEq, Int.reduceLT, Int.reduceEq, e13])
  | succ m ih =>
    intro i n s Q hi hs e1 e13 e14 hQ
    have c : ((i : Nat) : Int) < (elsS.length : Int) := by omega
    obtain ⟨cb, b, he, hbb, hc⟩ := hP.get (i := i) (by omega)
    have ia : iaO h 1 u (vi .i64 (i : Int)) = some (.rptr [cb], h) := hu.ia (by omega) (by rw [Int.toNat_natCast]; exact he)
    have la : ldO h false 1 (.rptr [cb]) = some (.cv cb, h) := ld_rptr
    have hw : IntKind.i64.wrap ((i : Int) + 1) = ((i + 1 : Nat) : Int) := by rw [IntWalk.i64_in _ (by omega)]; omega
    rw [X_loop, X_eq f4_0.eq_1]
    simp only [go_sem, Nat.reduceLT, Nat.reduceEqDiff, reduceCtorEq, Int.reduceLT, Int.reduceEq, hs, e14, e1, e13, hu.ln, c, ia, la, hc.ln, hw]
    refine ih (i + 1) _ _ Q (by omega) (by simp only [slot_len, hs]) (by simp only [go_sem, Nat.reduceLT, Nat.reduceEqDiff, reduceCtorEq, Int.reduceLT, Int.reduceEq, e1]) (by simp only [go_sem, Nat.reduceLT, Nat.reduceEqDiff, reduceCtorEq, Int.reduceLT, Int.reduceEq, hs]; rfl) (by simp only [go_sem, Nat.reduceLT, Nat.reduceEqDiff, reduceCtorEq, Int.reduceLT, Int.reduceEq, hs]) (fun s' n' a1 a2 a3 => hQ s' n' a1 (fun j hj => ?_) a3)
    rw [a2 j hj]
    repeat rw [slot_ne (by omega)]

theorem f4_loop2 {at_ : Nat} (hat : at_ < 65536) {v : UInt8} (h0 : Heap) : ∀ (m i : Nat) (Xs : List (List UInt8)) (els : List (List CV)) (vx : VV) (s : List VV) (h : Heap) (Q : Pst), i + m = Xs.length → Xs.length ≤ 1000000 → NB h0 h 1 els vx → PgE els Xs → (∀ b ∈ Xs, b.length = 64) → s.length = 104 → s.getD 4 .undef = vi .u16 at_ → s.getD 5 .undef = vi .u8 v.toNat → s.getD 15 .undef = vx → s.getD 17 .undef = vi .i64 i →
    (∀ s' h' Xs' els', s'.length = 104 → (∀ j, j < 12 → s'.getD j .undef = s.getD j .undef) → s'.getD 15 .undef = vx → NB h0 h' 1 els' vx → PgE els' Xs' → Xs'.length = Xs.length → Q (.exit 2) ⟨s', h'⟩) → X F (.loop f4_2) ⟨s, h⟩ Q := by
  intro m
  induction m with
  | zero =>
    intro i Xs els vx s h Q hi hXl hB hP h64 hs e4 e5 e15 e17 hQ
    have hpl := hP.len
    have c : ¬ ((i : Nat) : Int) < (els.length : Int) := by omega
    rw [X_loop, X_eq f4_2.eq_1]
    simp only [go_sem, Nat.reduceLT, Nat.reduceEqDiff, reduceCtorEq, Int.reduceLT, Int.reduceEq, hs, e17, e15, hB.ln, c]
    refine hQ _ h Xs els (by simp only [slot_len, hs]) (fun j hj => ?_) (by simp only [go_sem, Nat.reduceLT, Nat.reduceEqDiff, reduceCtorEq, Int.reduceLT, Int.reduceEq, e15]) hB hP rfl
    repeat rw [slot_ne (by omega)]
  | succ m ih =>
    intro i Xs els vx s h Q hi hXl hB hP h64 hs e4 e5 e15 e17 hQ
    have hpl := hP.len
    have c : ((i : Nat) : Int) < (els.length : Int) := by omega
    have z2 : (2 : Int) ≠ 0 := by decide
    have r2 : ((v.toNat : Nat) : Int).tmod 2 = ((v.toNat % 2 : Nat) : Int) := rfl
    rw [X_loop, X_eq f4_2.eq_1]
    by_cases d : v.toNat % 2 = 0
    · have d' : ((v.toNat % 2 : Nat) : Int) = 0 := by omega
      have wat : IntKind.i64.wrap (at_ : Int) = (at_ : Int) := IntWalk.i64_in _ (by omega)
      have zl : ((els.length : Nat) : Int) ≠ 0 := by omega
      have rm : ((at_ : Nat) : Int).tmod ((els.length : Nat) : Int) = ((at_ % els.length : Nat) : Int) := rfl
      have hw : IntKind.i64.wrap ((i : Int) + 1) = ((i + 1 : Nat) : Int) := by rw [IntWalk.i64_in _ (by omega)]; omega
      by_cases g : i = at_ % els.length
      · have g' : ((i : Nat) : Int) = ((at_ % els.length : Nat) : Int) := by omega
        obtain ⟨cb, b, he, hbb, hc⟩ := hP.get (i := i) (by omega)
        have hb64 := h64 b (List.mem_of_getElem? hbb)
        rcases hB.v with ⟨e, _⟩ | ⟨idx, gx, hidx, rfl, a2⟩
        · rw [e] at hpl; simp at hpl; omega
        have ia : iaO h 1 (.own idx gx 0 els.length false) (vi .i64 (i : Int)) = some (.eptr idx gx (0 + i) 0, h) := ia_own (by omega) a2 (by simpa using by omega)
        rw [Nat.zero_add] at ia
        have la : ldO h false 1 (.eptr idx gx i 0) = some (.cv cb, h) := ld_eptr a2 he rfl
        have w256 : IntKind.u16.wrap (((at_ : Nat) : Int).tdiv 256) = ((at_ / 256 : Nat) : Int) := by
          have e : ((at_ : Nat) : Int).tdiv 256 = ((at_ / 256 : Nat) : Int) := rfl
          rw [e, IntKind.wrap_u16]; omega
        have r64 : ((at_ / 256 : Nat) : Int).tmod 64 = ((at_ / 256 % 64 : Nat) : Int) := rfl
        have z256 : (256 : Int) ≠ 0 := by decide
        have z64 : (64 : Int) ≠ 0 := by decide
        simp only [go_sem, Nat.reduceLT, Nat.reduceEqDiff, reduceCtorEq, Int.reduceLT, Int.reduceEq, hs, e17, e15, e5, e4, ln_own, c, bin_rem z2, r2, d', wat, bin_rem zl, rm]
        rw [← g']
        simp only [go_sem, Nat.reduceLT, Nat.reduceEqDiff, reduceCtorEq, Int.reduceLT, Int.reduceEq, hs, e17, e15, e4, e5, ia, la]
        refine XO_appNB (NB.nil h 1) (new := eB b) (by simp only [go_sem, Nat.reduceLT, Nat.reduceEqDiff, reduceCtorEq, Int.reduceLT, Int.reduceEq, hs]) (by simp only [go_sem, Nat.reduceLT, Nat.reduceEqDiff, reduceCtorEq, Int.reduceLT, Int.reduceEq, hs]; exact hc.src) (by rw [eB_len]; simp; omega) (by rw [eB_len]; simp; omega) (fun vb' h1 B1 _ _ _ => ?_)
        rw [List.nil_append] at B1
        obtain ⟨p, h2, p1, p2, B2⟩ := B1.put (j := at_ / 256 % 64) v (k := .u16) (by omega)
        have a3 := B2.ext.get a2
        have ia3 : iaO h2 1 (.own idx gx 0 els.length false) (vi .i64 (i : Int)) = some (.eptr idx gx (0 + i) 0, h2) := ia_own (by omega) a3 (by simpa using by omega)
        rw [Nat.zero_add] at ia3
        rcases B2.v with ⟨e, _⟩ | ⟨idb, gb, hidb, rfl, b2⟩
        · have := congrArg List.length e
          rw [eB_len, List.length_set, List.length_nil] at this; omega
        have hlt := lt_at a2
        have sto := st_e1_own (ex := false) a3 he rfl b2 rfl (show idx ≠ idb by omega)
        simp only [go_sem, Nat.reduceLT, Nat.reduceEqDiff, reduceCtorEq, Int.reduceLT, Int.reduceEq, hs, e4, e5, bin_quo z256, w256, bin_rem z64, r64, p1, p2, e15, e17, ia3, sto, hw]
        have hlen : (els.set i [.sl 1 (eB (b.set (at_ / 256 % 64) v)) false]).length = els.length := by rw [List.length_set]
        refine ih (i + 1) (Xs.set i (b.set (at_ / 256 % 64) v)) (els.set i [.sl 1 (eB (b.set (at_ / 256 % 64) v)) false]) _ _ _ Q (by rw [List.length_set]; omega) (by rw [List.length_set]; exact hXl) ?_ (PgE.put' hP i (.inr ⟨false, rfl⟩)) ?_ (by simp only [slot_len, hs]) (by simp only [go_sem, Nat.reduceLT, Nat.reduceEqDiff, reduceCtorEq, Int.reduceLT, Int.reduceEq, e4]) (by simp only [go_sem, Nat.reduceLT, Nat.reduceEqDiff, reduceCtorEq, Int.reduceLT, Int.reduceEq, e5]) (by simp only [go_sem, Nat.reduceLT, Nat.reduceEqDiff, reduceCtorEq, Int.reduceLT, Int.reduceEq, e15]) (by simp only [go_sem, Nat.reduceLT, Nat.reduceEqDiff, reduceCtorEq, Int.reduceLT, Int.reduceEq, hs]) (fun s' h' Xs' els' q1 q2 q3 q4 q5 q6 => hQ s' h' Xs' els' q1 (fun j hj => ?_) q3 q4 q5 (by rw [q6, List.length_set]))
        · refine ⟨((hB.ext.trans B2.ext).set (by have := hB.ext.len; omega) _).set hidx _, .inr ⟨idx, gx, hidx, by rw [hlen], ?_⟩⟩
          rw [List.getElem?_set_self (by rw [List.length_set]; exact lt_at a3)]
        · intro b' hb'
          rcases List.mem_or_eq_of_mem_set hb' with hb' | rfl
          · exact h64 b' hb'
          · rw [List.length_set]; exact hb64
        · rw [q2 j hj]
          repeat rw [slot_ne (by omega)]
      · have g' : ¬ ((i : Nat) : Int) = ((at_ % els.length : Nat) : Int) := by omega
        simp only [go_sem, Nat.reduceLT, Nat.reduceEqDiff, reduceCtorEq, Int.reduceLT, Int.reduceEq, hs, e17, e15, e5, e4, hB.ln, c, bin_rem z2, r2, d', wat, bin_rem zl, rm, g', hw]
        refine ih (i + 1) Xs els vx _ _ Q (by omega) hXl hB hP h64 (by simp only [slot_len, hs]) (by simp only [go_sem, Nat.reduceLT, Nat.reduceEqDiff, reduceCtorEq, Int.reduceLT, Int.reduceEq, e4]) (by simp only [go_sem, Nat.reduceLT, Nat.reduceEqDiff, reduceCtorEq, Int.reduceLT, Int.reduceEq, e5]) (by simp only [go_sem, Nat.reduceLT, Nat.reduceEqDiff, reduceCtorEq, Int.reduceLT, Int.reduceEq, e15]) (by simp only [go_sem, Nat.reduceLT, Nat.reduceEqDiff, reduceCtorEq, Int.reduceLT, Int.reduceEq, hs]) (fun s' h' Xs' els' q1 q2 q3 q4 q5 q6 => hQ s' h' Xs' els' q1 (fun j hj => ?_) q3 q4 q5 q6)
        rw [q2 j hj]
        repeat rw [slot_ne (by omega)]
    · have d' : ¬ ((v.toNat % 2 : Nat) : Int) = 0 := by omega
      simp only [go_sem, Nat.reduceLT, Nat.reduceEqDiff, reduceCtorEq, Int.reduceLT, Int.reduceEq, hs, e17, e15, e5, hB.ln, c, bin_rem z2, r2, d']
      refine hQ _ h Xs els (by simp only [slot_len, hs]) (fun j hj => ?_) (by simp only [go_sem, Nat.reduceLT, Nat.reduceEqDiff, reduceCtorEq, Int.reduceLT, Int.reduceEq, e15]) hB hP rfl
      repeat rw [slot_ne (by omega)]
end Go.V07

set_option linter.unusedSimpArgs false
set_option linter.unusedVariables false
namespace Go.V07
open Go Go.Vm
open Go.Proofs.Ytjjmkcmolmjpeaa

set_option maxRecDepth 100000 in
theorem secs_of {H : Type} {d : DataW H} {u : VV} (h : DV Proofs.Try.prog 29 d u) : ∃ els ss, SlV 1 els u ∧ PgE els ss ∧ ss.length ≤ Rows.uptoBulk d ∧ (∀ b ∈ ss, b.length ≤ Rows.uptoBulk d) := by
  obtain ⟨c, h1, rfl⟩ := DV_plain (by simp only [isStr, Proofs.Try.underlying29]) h
  have k2 : Proofs.Try.prog.cellsOf 23 = 1 := by kernel_rfl
  rcases DR_slice Proofs.Try.underlying29 h1 with ⟨rfl, e⟩ | ⟨ds, rest, els, rfl, e, h2, h3, h4⟩
  · cases e
    exact ⟨[], [], .inl ⟨rfl, rfl⟩, .nil, by simp, by simp⟩
  · cases e
    rw [k2] at h4 ⊢
    have key : ∀ (els : List (List CV)) (ds : List (DataW H)), els.length = ds.length → (∀ (i : Nat) (el : List CV) (y : DataW H), els[i]? = some el → ds[i]? = some y → el.length = 1 ∧ DR Proofs.Try.prog 7 23 y el) → ∃ ss, PgE els ss ∧ ∀ b ∈ ss, b.length ≤ Rows.uptoBulkAll ds := by
      intro els
      induction els with
      | nil => intro ds _ _; exact ⟨[], .nil, by simp⟩
      | cons el r ih =>
        intro ds hl hh
        match ds, hl with
        | y :: ys, hl =>
          obtain ⟨a1, a2⟩ := hh 0 el y rfl rfl
          obtain ⟨l, c, rfl, hc, hb⟩ := DR_bytesB Proofs.Try.underlying23 Proofs.Try.underlying5 (by kernel_rfl) a2
          obtain ⟨ss, c1, c2⟩ := ih ys (by simpa using hl) (fun i el y h1 h2 => hh (i + 1) el y (by simpa using h1) (by simpa using h2))
          refine ⟨l :: ss, .cons hc c1, fun b hb' => ?_⟩
          simp only [Rows.uptoBulkAll]
          rcases List.mem_cons.1 hb' with rfl | hb'
          · omega
          · have := c2 b hb'; omega
    obtain ⟨ss, c1, c2⟩ := key els ds h2 h4
    have hl := c1.len
    have hbl := bulk_len ds
    refine ⟨els, ss, .inr ⟨false, rfl⟩, c1, by simp only [Rows.uptoBulk]; omega, fun b hb => ?_⟩
    have := c2 b hb
    simp only [Rows.uptoBulk]; omega

theorem frames_64 {epoch : Nat} {c : List UInt8} : ∀ b ∈ framesL epoch c, b.length = 64 := by
  intro b hb
  obtain ⟨n, i, o, p, rfl, hp⟩ := framesA_mem _ _ _ hb
  exact partB_len hp

theorem law_reads (epoch : Int) {ss : List (List UInt8)} {elsS : List (List CV)} {u : VV} (hP : PgE elsS ss) (hu : SlV 1 elsS u) (hl : ss.length ≤ 10000000) (hb : ∀ b ∈ ss, b.length ≤ 10000000) {c d : List UInt8} {vc vd : VV} (hc : SlV 1 (eB c) vc) (hd : SlV 1 (eB d) vd) (at_ : Nat) (hat : at_ < 65536) (v : UInt8) :
    ∃ h', call F 4 [vi .i64 epoch, u, vc, vd, vi .u16 at_, vi .u8 v.toNat] [] = some (.ret (vb true), h') := by
  have : Ret F 4 [vi .i64 epoch, u, vc, vd, vi .u16 at_, vi .u8 v.toNat] [] fun v h' => v = vb true := by
    refine call_E (fn := f4) rfl ?_
    simp only [f4]
    generalize hs0 : ([vi .i64 epoch, u, vc, vd, vi .u16 at_, vi .u8 v.toNat] ++ List.replicate _ VV.undef : List VV) = s
    have hs : s.length = 104 := by rw [← hs0]; rfl
    have h0 : s.getD 0 .undef = vi .i64 epoch := by rw [← hs0]; rfl
    have h1 : s.getD 1 .undef = u := by rw [← hs0]; rfl
    have h2 : s.getD 2 .undef = vc := by rw [← hs0]; rfl
    have h3 : s.getD 3 .undef = vd := by rw [← hs0]; rfl
    have h4 : s.getD 4 .undef = vi .u16 at_ := by rw [← hs0]; rfl
    have h5 : s.getD 5 .undef = vi .u8 v.toNat := by rw [← hs0]; rfl
    clear hs0
    obtain ⟨h11, n11⟩ := known_f11
    have hpl := hP.len
    simp only [go_sem, Nat.reduceLT, Nat.reduceEqDiff, reduceCtorEq, Int.reduceLT, Int.reduceEq, hs, h1, hu.ln]
    refine f4_loop1 hP hu (by omega) (fun b hbb => by have := hb b hbb; omega) [] ss.length 0 elsS.length _ _ (by omega) (by simp only [slot_len, hs]) (by simp only [go_sem, Nat.reduceLT, Nat.reduceEqDiff, reduceCtorEq, Int.reduceLT, Int.reduceEq, h1]) (by simp only [go_sem, Nat.reduceLT, Nat.reduceEqDiff, reduceCtorEq, Int.reduceLT, Int.reduceEq, hs]) (by simp only [go_sem, Nat.reduceLT, Nat.reduceEqDiff, reduceCtorEq, Int.reduceLT, Int.reduceEq, hs]; rfl) (fun s1 n' hs1 a2 a13 => ?_)
    have b0 : s1.getD 0 .undef = vi .i64 epoch := by rw [a2 0 (by omega)]; simp only [go_sem, Nat.reduceLT, Nat.reduceEqDiff, reduceCtorEq, Int.reduceLT, Int.reduceEq, h0]
    have b1 : s1.getD 1 .undef = u := by rw [a2 1 (by omega)]; simp only [go_sem, Nat.reduceLT, Nat.reduceEqDiff, reduceCtorEq, Int.reduceLT, Int.reduceEq, h1]
    have b2 : s1.getD 2 .undef = vc := by rw [a2 2 (by omega)]; simp only [go_sem, Nat.reduceLT, Nat.reduceEqDiff, reduceCtorEq, Int.reduceLT, Int.reduceEq, h2]
    have b3 : s1.getD 3 .undef = vd := by rw [a2 3 (by omega)]; simp only [go_sem, Nat.reduceLT, Nat.reduceEqDiff, reduceCtorEq, Int.reduceLT, Int.reduceEq, h3]
    have b4 : s1.getD 4 .undef = vi .u16 at_ := by rw [a2 4 (by omega)]; simp only [go_sem, Nat.reduceLT, Nat.reduceEqDiff, reduceCtorEq, Int.reduceLT, Int.reduceEq, h4]
    have b5 : s1.getD 5 .undef = vi .u8 v.toNat := by rw [a2 5 (by omega)]; simp only [go_sem, Nat.reduceLT, Nat.reduceEqDiff, reduceCtorEq, Int.reduceLT, Int.reduceEq, h5]
    clear a2
    simp only [go_sem, Nat.reduceLT, Nat.reduceEqDiff, reduceCtorEq, Int.reduceLT, Int.reduceEq, hs1]
    rw [X_eq f4_1.eq_1]
    by_cases dn : n' > 1500
    · simp only [go_sem, Nat.reduceLT, Nat.reduceEqDiff, reduceCtorEq, Int.reduceLT, Int.reduceEq, hs1, a13, dn]
      refine XO_callP (h1 := []) (by simp only [List.map, go_sem, Nat.reduceLT, Nat.reduceEqDiff, reduceCtorEq, Int.reduceLT, Int.reduceEq, hs1]; rfl) n11 rfl ?_
      simp only [go_sem, Nat.reduceLT, Nat.reduceEqDiff, reduceCtorEq, Int.reduceLT, Int.reduceEq, hs1]
    obtain ⟨vx, g1, n14x, elsx, Bx, Ex⟩ := frames_f14 (epoch := 3) (by omega) hc []
    obtain ⟨vy, g2, n14y, elsy, By, Ey⟩ := frames_f14 (epoch := 2) (by omega) hd g1
    have hxl := Ex.len
    have hyl := Ey.len
    have hX : (framesL 3 c).length ≤ 1000 := by
      have := framesA_len 3 (chunksC 5 c) 0
      have := chunks_len 5 c
      unfold framesL; omega
    have hY : (framesL 2 d).length ≤ 1000 := by
      have := framesA_len 2 (chunksC 5 d) 0
      have := chunks_len 5 d
      unfold framesL; omega
    have Bx2 := Bx.then By.ext
    simp only [go_sem, Nat.reduceLT, Nat.reduceEqDiff, reduceCtorEq, Int.reduceLT, Int.reduceEq, hs1, a13, dn]
    refine XO_callP (h1 := []) (by simp only [List.map, go_sem, Nat.reduceLT, Nat.reduceEqDiff, reduceCtorEq, Int.reduceLT, Int.reduceEq, hs1]; rfl) n11 rfl ?_
    simp only [go_sem, Nat.reduceLT, Nat.reduceEqDiff, reduceCtorEq, Int.reduceLT, Int.reduceEq, hs1, b2]
    refine XO_callR (by simp only [List.map, go_sem, Nat.reduceLT, Nat.reduceEqDiff, reduceCtorEq, Int.reduceLT, Int.reduceEq, hs1]; exact n14x) ?_
    simp only [go_sem, Nat.reduceLT, Nat.reduceEqDiff, reduceCtorEq, Int.reduceLT, Int.reduceEq, hs1, b3]
    refine XO_callR (by simp only [List.map, go_sem, Nat.reduceLT, Nat.reduceEqDiff, reduceCtorEq, Int.reduceLT, Int.reduceEq, hs1]; exact n14y) ?_
    simp only [go_sem, Nat.reduceLT, Nat.reduceEqDiff, reduceCtorEq, Int.reduceLT, Int.reduceEq, hs1]
    refine XO_appNB Bx2 (new := elsy) (by simp only [go_sem, Nat.reduceLT, Nat.reduceEqDiff, reduceCtorEq, Int.reduceLT, Int.reduceEq, hs1]) (by simp only [go_sem, Nat.reduceLT, Nat.reduceEqDiff, reduceCtorEq, Int.reduceLT, Int.reduceEq, hs1]; exact By.src) (by omega) (by omega) (fun vx3 g3 B3 _ _ _ => ?_)
    simp only [go_sem, Nat.reduceLT, Nat.reduceEqDiff, reduceCtorEq, Int.reduceLT, Int.reduceEq, hs1]
    refine f4_loop2 hat (v := v) [] (framesL 3 c ++ framesL 2 d).length 0 (framesL 3 c ++ framesL 2 d) _ vx3 _ _ _ (by omega) (by rw [List.length_append]; omega) B3 (Ex.app Ey) (fun b hb' => by
      rcases List.mem_append.1 hb' with h | h
      · exact frames_64 b h
      · exact frames_64 b h) (by simp only [slot_len, hs1]) (by simp only [go_sem, Nat.reduceLT, Nat.reduceEqDiff, reduceCtorEq, Int.reduceLT, Int.reduceEq, b4]) (by simp only [go_sem, Nat.reduceLT, Nat.reduceEqDiff, reduceCtorEq, Int.reduceLT, Int.reduceEq, b5]) (by simp only [go_sem, Nat.reduceLT, Nat.reduceEqDiff, reduceCtorEq, Int.reduceLT, Int.reduceEq, hs1]) (by simp only [go_sem, Nat.reduceLT, Nat.reduceEqDiff, reduceCtorEq, Int.reduceLT, Int.reduceEq, hs1]; rfl) (fun s2 g4 Xs els4 hs2 q2 q3 B4 E4 hXl => ?_)
    have c0 : s2.getD 0 .undef = vi .i64 epoch := by rw [q2 0 (by omega)]; simp only [go_sem, Nat.reduceLT, Nat.reduceEqDiff, reduceCtorEq, Int.reduceLT, Int.reduceEq, b0]
    have c1 : s2.getD 1 .undef = u := by rw [q2 1 (by omega)]; simp only [go_sem, Nat.reduceLT, Nat.reduceEqDiff, reduceCtorEq, Int.reduceLT, Int.reduceEq, b1]
    have c4 : s2.getD 4 .undef = vi .u16 at_ := by rw [q2 4 (by omega)]; simp only [go_sem, Nat.reduceLT, Nat.reduceEqDiff, reduceCtorEq, Int.reduceLT, Int.reduceEq, b4]
    clear q2
    rw [List.length_append] at hXl
    have hel := E4.len
    obtain ⟨h15a, n15a⟩ := reads_f15 hP hu (by omega) epoch
    obtain ⟨w, g5, cl, S5, _, z5, _⟩ := B4.vf.closZ
    obtain ⟨w', cl', S5'⟩ := z5.clos
    obtain ⟨h15b, n15b⟩ := reads_f15 E4 S5 (by omega) 3
    obtain ⟨h15c, n15c⟩ := reads_f15 E4 S5' (by omega) 2
    have z3 : (3 : Int) ≠ 0 := by decide
    have r3 : ((at_ : Nat) : Int).tmod 3 = ((at_ % 3 : Nat) : Int) := rfl
    have w3 : IntKind.i64.wrap ((at_ % 3 : Nat) : Int) = ((at_ % 3 : Nat) : Int) := IntWalk.i64_in _ (by omega)
    have mn : min ((els4.length : Nat) : Int) ((at_ % 3 : Nat) : Int) = ((min els4.length (at_ % 3) : Nat) : Int) := by omega
    obtain ⟨w6, sl6, z6⟩ := z5.from_ (k := .i64) (n := min els4.length (at_ % 3)) (by omega)
    obtain ⟨w7, cl7, S7⟩ := z6.clos
    obtain ⟨h15d, n15d⟩ := reads_f15 (drop_pg E4 (min els4.length (at_ % 3))) S7 (by rw [List.length_drop]; omega) 3
    simp only [go_sem, Nat.reduceLT, Nat.reduceEqDiff, reduceCtorEq, Int.reduceLT, Int.reduceEq, hs2, c0, c1]
    refine XO_callP (h1 := g4) (by simp only [List.map, go_sem, Nat.reduceLT, Nat.reduceEqDiff, reduceCtorEq, Int.reduceLT, Int.reduceEq, hs2]; exact clos_cv (hu.clos rfl)) n15a rfl ?_
    simp only [go_sem, Nat.reduceLT, Nat.reduceEqDiff, reduceCtorEq, Int.reduceLT, Int.reduceEq, hs2, q3]
    refine XO_callP (h1 := g5) (by simp only [List.map, go_sem, Nat.reduceLT, Nat.reduceEqDiff, reduceCtorEq, Int.reduceLT, Int.reduceEq, hs2]; exact clos_cv (closAs_cons cl rfl)) n15b rfl ?_
    simp only [go_sem, Nat.reduceLT, Nat.reduceEqDiff, reduceCtorEq, Int.reduceLT, Int.reduceEq, hs2, q3]
    refine XO_callP (h1 := g5) (by simp only [List.map, go_sem, Nat.reduceLT, Nat.reduceEqDiff, reduceCtorEq, Int.reduceLT, Int.reduceEq, hs2]; exact clos_cv (closAs_cons cl' rfl)) n15c rfl ?_
    simp only [go_sem, Nat.reduceLT, Nat.reduceEqDiff, reduceCtorEq, Int.reduceLT, Int.reduceEq, hs2, q3, z5.vf.ln, c4, bin_rem z3, r3, w3, mn, sl6]
    refine XO_callP (h1 := g5) (by simp only [List.map, go_sem, Nat.reduceLT, Nat.reduceEqDiff, reduceCtorEq, Int.reduceLT, Int.reduceEq, hs2]; exact clos_cv (closAs_cons cl7 rfl)) n15d rfl ?_
    simp only [go_sem, Nat.reduceLT, Nat.reduceEqDiff, reduceCtorEq, Int.reduceLT, Int.reduceEq, hs2]
  obtain ⟨v, h', n1, rfl⟩ := this
  exact ⟨h', n1⟩
theorem reads_in {H : Type} {d0 d1 d2 d3 d4 d5 : DataW H} {u0 u1 u2 u3 u4 u5 : VV} (hb : Rows.uptoBulkAll [d0, d1, d2, d3, d4, d5] ≤ 1048576) (h0 : DV Proofs.Try.prog 3 d0 u0) (h1 : DV Proofs.Try.prog 29 d1 u1) (h2 : DV Proofs.Try.prog 23 d2 u2) (h3 : DV Proofs.Try.prog 23 d3 u3) (h4 : DV Proofs.Try.prog 30 d4 u4) (h5 : DV Proofs.Try.prog 5 d5 u5) :
    ∃ h', call F 4 [u0, u1, u2, u3, u4, u5] [] = some (.ret (vb true), h') := by
  obtain ⟨e, rfl, _⟩ := DV_i64 (by kernel_rfl) h0
  obtain ⟨els, ss, hS, hP, hl, hbb⟩ := secs_of h1
  obtain ⟨c, hc, _⟩ := DV_bytes (e := 5) (by kernel_rfl) (by kernel_rfl) (by kernel_rfl) h2
  obtain ⟨d, hd, _⟩ := DV_bytes (e := 5) (by kernel_rfl) (by kernel_rfl) (by kernel_rfl) h3
  obtain ⟨m, rfl, hm⟩ := DV_u16 (by kernel_rfl) h4
  obtain ⟨v, rfl⟩ := DV_u8 (by kernel_rfl) h5
  have hb2 : Rows.uptoBulk d1 ≤ Rows.uptoBulkAll [d0, d1, d2, d3, d4, d5] := bulk_part (by simp)
  exact law_reads e hP hS (by omega) (fun b hb' => by have := hbb b hb'; omega) hc hd m hm v
end Go.V07
