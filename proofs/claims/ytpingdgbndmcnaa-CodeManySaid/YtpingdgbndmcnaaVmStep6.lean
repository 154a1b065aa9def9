/-
  Vm: the plain steps are the machine's (own work), sixth part: closing, new memory, stores.
-/
import Derived.Test.YtpingdgbndmcnaaVmStep5
namespace Go.Vm
open Go Go.RowKit
set_option linter.unusedVariables false
set_option linter.unusedSimpArgs false

variable {P : Program} {prot : Nat → Prop} {σ : Stab} {β : Nat → Option Loc} {h : Heap} {w : World} {a : Act} {s : List VV}

theorem set_self {l : List VO} {i : Nat} {x y : VO} (h : l[i]? = some x) : (l.set i y)[i]? = some y := by
  have := (List.getElem?_eq_some_iff.1 h).1
  simp [this]

theorem clos_rel {v : Value} {u : VV} {c : CV} {h' : Heap} (hw : WR prot σ β h w) (hr : VR σ β v u) (hc : clos h u = some (c, h')) :
    ∃ σ', Fut prot σ β w σ' β w ∧ WR prot σ' β h' w ∧ CR σ' v c := by
  unfold clos at hc
  split at hc
  · cases hc
    cases hr with
    | cv _ _ h1 => exact ⟨σ, .refl, hw, h1⟩
  · rename_i id g off len ex
    split at hc
    · rename_i z els g' fr ho
      split at hc
      · rename_i hcond
        obtain ⟨hg, hb⟩ := hcond
        cases hc
        obtain ⟨σ', hF, hW⟩ := hw.freeze id ho
        refine ⟨σ', hF, hW, ?_⟩
        obtain ⟨L, hL, hO⟩ := hW.obj id _ (set_self ho)
        obtain ⟨o1, o2, o3, o4, o5, o6, o7, o8⟩ := hO
        cases hr with
        | own A cap _ _ _ _ _ L' hL' hb' hg' hA hc' hx =>
          rw [hL] at hL'; cases hL'
          obtain ⟨a1, a2, a3, a4⟩ := hA (by rw [o2]; exact hg)
          have hlen : ((els.drop off).take len).length = len := by simp; omega
          have cell : ∀ i e, ((els.drop off).take len)[i]? = some e → ∀ j c, e[j]? = some c → ∃ x, σ' ⟨A.block, A.off + i * z + j, none⟩ = some x ∧ CR σ' x c := by
            intro i e hi j c hj
            rw [List.getElem?_take] at hi
            split at hi
            · rename_i hlt
              rw [List.getElem?_drop] at hi
              obtain ⟨x, hx1, hx2, hx3⟩ := o8 (off + i) e hi j c hj
              refine ⟨x, ?_, hx2⟩
              have h3 := hx3 rfl
              rcases a3 with a3 | a3
              · omega
              · rw [a2, a3, o3, ← h3]
                congr 2
                rw [Nat.add_mul]; omega
            · cases hi
          have := CR.sl (σ := σ') A cap z ((els.drop off).take len) ex (fun i j => (σ' ⟨A.block, A.off + i * z + j, none⟩).getD undef) (.inr a1) (by omega) (fun e => by rw [hlen]; exact hx e) o4 (fun e he => o5 e (List.mem_of_mem_drop (List.mem_of_mem_take he)))
            (fun i e hi j c hj => by obtain ⟨x, hx, _⟩ := cell i e hi j c hj; rw [hx]; rfl) (fun i e hi j c hj => by obtain ⟨x, hx, hr⟩ := cell i e hi j c hj; rw [hx]; exact hr)
          rw [hlen] at this
          exact this
      · cases hc
    · cases hc
  · rename_i id off len z ex
    split at hc
    · rename_i cells fr ho
      split at hc
      · rename_i cs hcs
        split at hc
        · rename_i hlen
          cases hc
          have hcl := mapM_cv hcs
          obtain ⟨σ', hF, hW⟩ := hw.freeze id ho
          refine ⟨σ', hF, hW, ?_⟩
          obtain ⟨L, hL, hO⟩ := hW.obj id _ (set_self ho)
          obtain ⟨o1, o2, o3, o4, o5, o6, o7⟩ := hO
          cases hr with
          | ob A cap _ _ _ _ _ L' hL' hb' hs hB hA hcs' hc' hx hz' =>
            rw [hL] at hL'; cases hL'
            have hlen' := length_chunk z len cs
            have cell : ∀ i e, (chunk z len cs)[i]? = some e → ∀ j c, e[j]? = some c → ∃ x, σ' ⟨A.block, A.off + i * z + j, none⟩ = some x ∧ CR σ' x c := by
              intro i e hi j c hj
              obtain ⟨h1, h2⟩ := chunk_cell hi hj
              obtain ⟨h3, _⟩ := getElem?_chunk hi
              have h4 : ((cells.drop off).take (len * z))[i * z + j]? = some (.cv c) := by rw [hcl, List.getElem?_map, h1]; rfl
              rw [List.getElem?_take] at h4
              split at h4
              · rw [List.getElem?_drop] at h4
                obtain ⟨x, hx1, hx2, hx3⟩ := o7 _ _ h4
                have hcr : CR σ' x c := by cases hx2; assumption
                refine ⟨x, ?_, hcr⟩
                rcases hA with hA | hA
                · omega
                · rw [hB, hA, ← hx3 rfl]; congr 2; omega
              · cases h4
            have := CR.sl (σ := σ') A cap z (chunk z len cs) ex (fun i j => (σ' ⟨A.block, A.off + i * z + j, none⟩).getD undef) (.inr hs) (by omega) (fun e => by rw [hlen']; exact hx e) hz' (chunk_len hlen)
              (fun i e hi j c hj => by obtain ⟨x, hx, _⟩ := cell i e hi j c hj; rw [hx]; rfl) (fun i e hi j c hj => by obtain ⟨x, hx, hr⟩ := cell i e hi j c hj; rw [hx]; exact hr)
            rw [hlen'] at this
            exact this
        · cases hc
      · cases hc
    · cases hc
  · cases hc

theorem closL_rel {us : List VV} : ∀ {σ : Stab} {h : Heap} {vs : List Value} {cs : List CV} {h' : Heap}, WR prot σ β h w → vs.length = us.length → (∀ (i : Nat) (v : Value) (u : VV), vs[i]? = some v → us[i]? = some u → VR σ β v u) → closL h us = some (cs, h') →
    ∃ σ', Fut prot σ β w σ' β w ∧ WR prot σ' β h' w ∧ cs.length = us.length ∧ ∀ (i : Nat) (v : Value) (c : CV), vs[i]? = some v → cs[i]? = some c → CR σ' v c := by
  induction us with
  | nil =>
    intro σ h vs cs h' hw hl hr hc
    cases hc
    exact ⟨σ, .refl, hw, rfl, fun i v c hv hc => by simp at hc⟩
  | cons u us ih =>
    intro σ h vs cs h' hw hl hr hc
    cases vs with
    | nil => simp at hl
    | cons v vs =>
      simp only [closL] at hc
      split at hc
      · rename_i c1 h1 e1
        split at hc
        · rename_i cs1 h2 e2
          cases hc
          obtain ⟨σ1, hF1, hW1, hR1⟩ := clos_rel hw (hr 0 v u rfl rfl) e1
          obtain ⟨σ2, hF2, hW2, hlen, hR2⟩ := ih hW1 (by simpa using hl) (fun i v u hv hu => (hr (i + 1) v u (by simpa using hv) (by simpa using hu)).mono hF1) e2
          refine ⟨σ2, hF1.trans hF2, hW2, by simp [hlen], fun i v' c' hv hc => ?_⟩
          cases i with
          | zero => simp at hv hc; subst hv hc; exact hR1.mono hF2.sig
          | succ i => exact hR2 i v' c' (by simpa using hv) (by simpa using hc)
        · cases hc
      · cases hc

theorem zeroOf_rel {t : TypeId} {z : List CV} (hz : zeroOf P t = some z) : ∃ i v, P.info? t = some i ∧ i.zero = some v ∧ v.cells.size = z.length ∧ z.length = i.size ∧ ∀ (j : Nat) (x : Value) (c : CV), v.cells[j]? = some x → z[j]? = some c → scalar x = true ∧ c = .sc x := by
  unfold zeroOf at hz
  split at hz
  · rename_i i hi
    split at hz
    · rename_i v hv
      split at hz
      · rename_i cs hcs
        split at hz
        · rename_i hl
          cases hz
          obtain ⟨h1, h2⟩ := mapM_scV hcs
          exact ⟨i, v, hi, hv, by simpa using h1, hl, fun j x c hx hc => h2 j x c (by simpa using hx) hc⟩
        · cases hz
      · cases hz
    · cases hz
  · cases hz

theorem run_zeroValue {t : TypeId} {i : TypeInfo} {v : Value} (hi : P.info? t = some i) (hv : i.zero = some v) (w : World) : (zeroValue t).run P w = .ok v w := by
  unfold zeroValue
  rw [run_bind_ok (run_typeInfo hi w)]
  simp [hv]

theorem run_newVar (t : TypeId) (v : Value) (w : World) : (newVar t v).run P w = .ok ⟨w.heap.size, 0, none⟩ { w with heap := w.heap.push (.cells v.cells t) } := rfl

/-- A new box. -/
theorem new_box {v : Value} {cs : List VV} {t : TypeId} (hw : WR prot σ β h w) (hn : v.cells.size = cs.length) (hk : ∀ c ∈ cs, isCell c = true) (hr : ∀ (i : Nat) (x : Value) (c : VV), v.cells[i]? = some x → cs[i]? = some c → VR σ β x c) :
    ∃ β', Fut prot σ β w σ β' { w with heap := w.heap.push (.cells v.cells t) } ∧ WR prot σ β' (h ++ [.box cs false]) { w with heap := w.heap.push (.cells v.cells t) } ∧
      VR σ β' (.pointer (some ⟨w.heap.size, 0, none⟩)) (.ptr h.length 0) := by
  have hcell : ∀ j x, v.cells[j]? = some x → ({ w with heap := w.heap.push (.cells v.cells t) } : World).cell? ⟨w.heap.size, j, none⟩ = some x := by
    intro j x hx
    simp [World.cell?, hx]
  obtain ⟨β', hF, hW, hβ, hext⟩ := hw.new (w' := { w with heap := w.heap.push (.cells v.cells t) }) ⟨rfl, rfl, rfl⟩ rfl (.box cs false) ⟨w.heap.size, 0, 0, 1, cs.length, true⟩ rfl (by
    intro β' hext
    refine ⟨rfl, rfl, rfl, rfl, hk, ⟨v.cells, t, (0, 0), by simp, hn, .inl rfl⟩, fun j c hj => ?_⟩
    have hlt : j < v.cells.size := by rw [hn]; exact (List.getElem?_eq_some_iff.1 hj).1
    exact ⟨v.cells[j], hcell _ _ (by simp [hlt]), (hr j _ c (by simp [hlt]) hj).ext hext, fun e => (by cases e)⟩)
  exact ⟨β', hF, hW, .ptr _ _ _ hβ rfl⟩

theorem sim_alloc {o : Oper} {t : TypeId} {z : List CV} {v : VV} {h' : Heap} (ho : o.op = .alloc t) (hz : zeroOf P t = some z)
    (hs : stepI h (evalO s) (.alloc (z.map .cv)) = some (v, h')) (hf : FR σ β a.tmps s) (hw : WR prot σ β h w) : Sim P o a prot σ β w v h' := by
  obtain ⟨i, zv, hi, hzv, h1, h2, h3⟩ := zeroOf_rel hz
  simp only [stepI] at hs
  cases hs
  obtain ⟨β', hF, hW, hV⟩ := new_box (v := zv) (cs := z.map .cv) (t := t) hw (by simpa using h1) (fun c hc => by
      simp only [List.mem_map] at hc
      obtain ⟨q, _, rfl⟩ := hc; rfl) (fun j x c hx hc => by
      rw [List.getElem?_map] at hc
      cases hq : z[j]? with
      | none => rw [hq] at hc; cases hc
      | some q =>
        rw [hq] at hc; cases hc
        obtain ⟨e1, rfl⟩ := h3 j x q hx hq
        exact .sc e1)
  refine ⟨_, _, _, _, .inl ?_, hF, hW, hV⟩
  unfold execOp; rw [ho]
  simp only [Instr.alloc]
  rw [run_bind_ok (x := .pointer (some ⟨w.heap.size, 0, none⟩)) (w1 := { w with heap := w.heap.push (.cells zv.cells t) })]
  · rfl
  · rw [run_bind_ok (run_zeroValue hi hzv w)]; rfl

theorem sim_box {o : Oper} {t : TypeId} {x : Operand} {y : Opd} {n : Nat} {v : VV} {h' : Heap} (ho : o.op = .box t x) (hx : opd x = some y)
    (hs : stepI h (evalO s) (.box n y) = some (v, h')) (hf : FR σ β a.tmps s) (hw : WR prot σ β h w) : Sim P o a prot σ β w v h' := by
  have r1 := opd_rel hx hf
  simp only [stepI] at hs
  split at hs
  · rename_i cs hcs
    split at hs
    · rename_i hn
      cases hs
      obtain ⟨c1, c2, c3⟩ := cells_rel r1 hcs
      obtain ⟨β', hF, hW, hV⟩ := new_box (t := t) hw c1 c2 c3
      refine ⟨_, _, _, _, .inl ?_, hF, hW, hV⟩
      unfold execOp; rw [ho]
      rfl
    · cases hs
  · cases hs

/-- Parts laid into cells, on both sides. -/
def LR (σ : Stab) (β : Nat → Option Loc) (vs : Array Value) (cs : List VV) : Prop := vs.size = cs.length ∧ (∀ c ∈ cs, isCell c = true) ∧ ∀ (i : Nat) (x : Value) (c : VV), vs[i]? = some x → cs[i]? = some c → VR σ β x c

theorem getElem?_splice {α : Type} (cells : List α) (off : Nat) (cs : List α) (hb : off + cs.length ≤ cells.length) (i : Nat) :
    (splice cells off cs)[i]? = if off ≤ i ∧ i < off + cs.length then cs[i - off]? else cells[i]? := by
  unfold splice
  rw [List.getElem?_append, List.getElem?_append]
  simp only [List.length_append, List.length_take, Nat.min_eq_left (show off ≤ cells.length by omega)]
  by_cases h1 : i < off
  · rw [if_pos (by omega), if_pos h1, if_neg (by omega), List.getElem?_take, if_pos h1]
  · by_cases h2 : i < off + cs.length
    · rw [if_pos h2, if_neg h1, if_pos ⟨by omega, h2⟩]
    · rw [if_neg h2, if_neg (by omega), List.getElem?_drop]
      congr 1; omega

theorem length_splice {α : Type} (cells : List α) (off : Nat) (cs : List α) (hb : off + cs.length ≤ cells.length) : (splice cells off cs).length = cells.length := by
  unfold splice; simp; omega

theorem fold_set (off : Nat) : ∀ (l : List (Value × Nat)) (k : Nat) (cs : Array Value), (∀ j, (l[j]?).map (·.2) = if j < l.length then some (k + j) else none) → off + k + l.length ≤ cs.size →
    (l.foldl (fun cs (x : Value × Nat) => cs.setIfInBounds (off + x.2) x.1) cs).size = cs.size ∧
    ∀ i, (l.foldl (fun cs (x : Value × Nat) => cs.setIfInBounds (off + x.2) x.1) cs)[i]? = if off + k ≤ i ∧ i < off + k + l.length then (l[i - (off + k)]?).map (·.1) else cs[i]?
  | [], k, cs, _, _ => ⟨rfl, fun i => by
      have : ¬ (off + k ≤ i ∧ i < off + k + ([] : List (Value × Nat)).length) := by rintro ⟨h1, h2⟩; simp only [List.length_nil] at h2; omega
      rw [if_neg this]; rfl⟩
  | (x, n) :: l, k, cs, hl, hb => by
    have hn : n = k := by have := hl 0; simpa using this
    subst hn
    obtain ⟨h1, h2⟩ := fold_set off l (n + 1) (cs.setIfInBounds (off + n) x) (fun j => by
      have := hl (j + 1)
      simp only [List.getElem?_cons_succ, List.length_cons] at this
      rw [this]
      by_cases hj : j < l.length
      · rw [if_pos (by omega), if_pos hj]; congr 1; omega
      · rw [if_neg (by omega), if_neg hj]) (by simp at hb ⊢; omega)
    simp only [List.foldl_cons]
    refine ⟨by rw [h1]; simp, fun i => ?_⟩
    rw [h2]
    simp only [List.length_cons] at hb ⊢
    by_cases hi : i = off + n
    · subst hi
      rw [if_neg (by omega), if_pos (by omega), Array.getElem?_setIfInBounds, if_pos rfl, if_pos (by omega)]
      simp
    · by_cases hr : off + (n + 1) ≤ i ∧ i < off + (n + 1) + l.length
      · rw [if_pos hr, if_pos (by omega)]
        rw [show i - (off + n) = (i - (off + (n + 1))) + 1 by omega]
        rfl
      · rw [if_neg hr, if_neg (by omega)]
        rw [Array.getElem?_setIfInBounds, if_neg (fun e => hi e.symm)]

theorem fill_step {vs : Array Value} {cs : List VV} {x : Value} {u : VV} {us : List VV} {off : Nat} (hL : LR σ β vs cs) (hr : VR σ β x u) (hu : cellsOf u = some us) (hb : off + us.length ≤ cs.length) :
    LR σ β (x.cells.zipIdx.foldl (fun cs (c, j) => cs.setIfInBounds (off + j) c) vs) (splice cs off us) := by
  obtain ⟨l1, l2, l3⟩ := hL
  obtain ⟨c1, c2, c3⟩ := cells_rel hr hu
  have hz : x.cells.zipIdx.foldl (fun cs (c, j) => cs.setIfInBounds (off + j) c) vs = x.cells.toList.zipIdx.foldl (fun cs (x : Value × Nat) => cs.setIfInBounds (off + x.2) x.1) vs := by
    rw [← Array.foldl_toList]; simp
  rw [hz]
  have hzl : x.cells.toList.zipIdx.length = us.length := by simp [c1]
  obtain ⟨h1, h2⟩ := fold_set off x.cells.toList.zipIdx 0 vs (fun j => by
    rw [List.getElem?_zipIdx]
    by_cases hj : j < x.cells.toList.length
    · rw [List.getElem?_eq_getElem hj]; simp at hj; simp [hj]
    · rw [List.getElem?_eq_none (by omega)]; simp at hj; simp; omega) (by rw [hzl]; omega)
  refine ⟨by rw [h1, length_splice _ _ _ hb, l1], fun c hc => ?_, fun i v c hv hc => ?_⟩
  · unfold splice at hc
    rw [List.mem_append, List.mem_append] at hc
    rcases hc with (hc | hc) | hc
    · exact l2 c (List.mem_of_mem_take hc)
    · exact c2 c hc
    · exact l2 c (List.mem_of_mem_drop hc)
  · rw [h2] at hv
    rw [getElem?_splice _ _ _ hb] at hc
    rw [hzl] at hv
    simp only [Nat.add_zero] at hv
    by_cases hi : off ≤ i ∧ i < off + us.length
    · rw [if_pos hi] at hv hc
      rw [List.getElem?_zipIdx] at hv
      cases hq : x.cells.toList[i - off]? with
      | none => rw [hq] at hv; cases hv
      | some q =>
        rw [hq] at hv
        simp at hv; subst hv
        exact c3 (i - off) q c (by simpa using hq) hc
    · rw [if_neg hi] at hv hc
      exact l3 i v c hv hc

end Go.Vm
