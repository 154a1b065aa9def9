/-
  Vm: the plain steps are the machine's (own work), eighth part: stores, copies.
-/
import Derived.Test.YtpingdgbndmcnaaVmStep7
namespace Go.Vm
open Go Go.RowKit
set_option linter.unusedVariables false
set_option linter.unusedSimpArgs false

variable {P : Program} {prot : Nat → Prop} {σ : Stab} {β : Nat → Option Loc} {h : Heap} {w : World} {a : Act} {s : List VV}

theorem setCells_facts (b : Nat) : ∀ (vs : List Value) (o : Nat) (w : World) (C : Array Value) (E : TypeId) (fz : Nat × Nat), w.heap[b]? = some (.cells C E fz) → o + vs.length ≤ C.size →
    Calm w (w.setCells b o vs) ∧ (w.setCells b o vs).heap.size = w.heap.size ∧ (∀ k, k ≠ b → (w.setCells b o vs).heap[k]? = w.heap[k]?) ∧
    ∃ C', (w.setCells b o vs).heap[b]? = some (.cells C' E fz) ∧ C'.size = C.size ∧ ∀ j, C'[j]? = if o ≤ j ∧ j < o + vs.length then vs[j - o]? else C[j]?
  | [], o, w, C, E, fz, hb, hl => ⟨⟨rfl, rfl, rfl⟩, rfl, fun _ _ => rfl, C, hb, rfl, fun j => by
      have : ¬ (o ≤ j ∧ j < o + ([] : List Value).length) := by rintro ⟨h1, h2⟩; simp only [List.length_nil] at h2; omega
      rw [if_neg this]⟩
  | v :: r, o, w, C, E, fz, hb, hl => by
    have hblt := (Array.getElem?_eq_some_iff.1 hb).1
    have h1 : (w.setCell ⟨b, o, none⟩ v).heap[b]? = some (.cells (C.setIfInBounds o v) E fz) := by
      simp [World.setCell, Array.getElem?_modify, hb]
    have h2 : ∀ k, k ≠ b → (w.setCell ⟨b, o, none⟩ v).heap[k]? = w.heap[k]? := fun k hk => Below.heap_setCell w _ v k hk
    obtain ⟨q1, q2, q3, C', q4, q5, q6⟩ := setCells_facts b r (o + 1) (w.setCell ⟨b, o, none⟩ v) (C.setIfInBounds o v) E fz h1 (by simp at hl ⊢; omega)
    refine ⟨⟨q1.os, q1.tape, q1.output⟩, by rw [World.setCells, q2]; simp [World.setCell], fun k hk => by rw [World.setCells, q3 k hk, h2 k hk], C', by rw [World.setCells]; exact q4, by rw [q5]; simp, fun j => ?_⟩
    rw [q6]
    simp only [List.length_cons] at hl ⊢
    by_cases hj : j = o
    · subst hj
      rw [if_neg (by omega), if_pos (by omega), Array.getElem?_setIfInBounds, if_pos rfl, if_pos (by omega)]
      simp
    · by_cases hr : o + 1 ≤ j ∧ j < o + 1 + r.length
      · rw [if_pos hr, if_pos (by omega), show j - o = (j - (o + 1)) + 1 by omega]; rfl
      · rw [if_neg hr, if_neg (by omega), Array.getElem?_setIfInBounds, if_neg (fun e => hj e.symm)]

/-- Cells are stored into a block that may be written. -/
theorem run_store_blk {b o csz : Nat} {vs : List Value} (hB : Blk w b csz) (hl : o + vs.length ≤ csz) (h1 : ∀ v ∈ vs, v.oneCell' = true) :
    (storeCells ⟨b, o, none⟩ vs).run P w = .ok () (w.setCells b o vs) ∧ Calm w (w.setCells b o vs) ∧ (w.setCells b o vs).heap.size = w.heap.size ∧ (∀ k, k ≠ b → (w.setCells b o vs).heap[k]? = w.heap[k]?) ∧ Blk (w.setCells b o vs) b csz ∧
    ∀ j, j < csz → (w.setCells b o vs).cell? ⟨b, j, none⟩ = if o ≤ j ∧ j < o + vs.length then vs[j - o]? else w.cell? ⟨b, j, none⟩ := by
  obtain ⟨C, E, fz, hC, hsz, hfz⟩ := hB
  obtain ⟨q1, q2, q3, C', q4, q5, q6⟩ := setCells_facts b vs o w C E fz hC (by omega)
  have hcell : ∀ j, w.cell? ⟨b, j, none⟩ = C[j]? := fun j => by simp [World.cell?, hC]
  have hrun := run_storeCells_cells (P := P) b o vs 0 w (fun j hj => by
      rw [hcell]
      have : o + 0 + j < C.size := by omega
      simp [this]; omega) (fun j hj => by
      simp only [World.frozen?, hC]
      obtain ⟨lo, hi⟩ := fz
      have hq' : ¬ (lo ≤ o + 0 + j ∧ o + 0 + j < hi) := by
        have : lo = hi ∨ csz ≤ lo := hfz
        omega
      show (decide (lo ≤ o + 0 + j) && decide (o + 0 + j < hi)) = false
      rw [← Bool.not_eq_true, Bool.and_eq_true, decide_eq_true_eq, decide_eq_true_eq]
      exact hq') h1
  refine ⟨by simpa using hrun, q1, q2, q3, ⟨C', E, fz, q4, by omega, hfz⟩, fun j hj => ?_⟩
  rw [hcell]
  have : (w.setCells b o vs).cell? ⟨b, j, none⟩ = C'[j]? := by simp [World.cell?, q4]
  rw [this, q6]

theorem cells_one_all {v : Value} {cs : List VV} (hk : ∀ c ∈ cs, isCell c = true) (hn : v.cells.size = cs.length) (hr : ∀ (i : Nat) (x : Value) (c : VV), v.cells[i]? = some x → cs[i]? = some c → VR σ β x c) : ∀ x ∈ v.cells.toList, x.oneCell' = true := by
  intro x hx
  obtain ⟨i, hi⟩ := List.getElem?_of_mem hx
  have hlt : i < cs.length := by rw [← hn]; have := (List.getElem?_eq_some_iff.1 hi).1; simpa using this
  exact one_of (hr i x cs[i] (by simpa using hi) (by simp [hlt])) (hk _ (List.getElem_mem hlt))

/-- A box is written. -/
theorem store_box {id off : Nat} {cells cs : List VV} {L : Loc} {vs : List Value} (hw : WR prot σ β h w) (ho : h[id]? = some (.box cells false)) (hL : β id = some L) (hvl : vs.length = cs.length) (hb : off + cs.length ≤ cells.length)
    (hk : ∀ c ∈ cs, isCell c = true) (hr : ∀ (i : Nat) (x : Value) (c : VV), vs[i]? = some x → cs[i]? = some c → VR σ β x c) :
    ∃ w' β', (storeCells ⟨L.blk, off, none⟩ vs).run P w = .ok () w' ∧ Fut prot σ β w σ β' w' ∧ WR prot σ β' (h.set id (.box (splice cells off cs) false)) w' := by
  obtain ⟨L0, hL0, hO⟩ := hw.obj id _ ho
  rw [hL] at hL0; cases hL0
  obtain ⟨o1, o2, o3, o4, o5, o6, o7⟩ := hO
  have h1 : ∀ x ∈ vs, x.oneCell' = true := by
    intro x hx
    obtain ⟨i, hi⟩ := List.getElem?_of_mem hx
    have hlt : i < cs.length := by rw [← hvl]; exact (List.getElem?_eq_some_iff.1 hi).1
    exact one_of (hr i x cs[i] hi (by simp [hlt])) (hk _ (List.getElem_mem hlt))
  obtain ⟨q1, q2, q3, q4, q5, q6⟩ := run_store_blk (P := P) (o := off) o6 (by rw [hvl, o4]; exact hb) h1
  obtain ⟨β', hF, hW, _, _⟩ := hw.upd q2 id (o' := .box (splice cells off cs) false) (L' := L) ho rfl hL (by rw [q3]; exact Nat.le_refl _) (fun b _ hb => q4 b hb) (.inl rfl) (.inl rfl) (by
    intro β' hbet hβ hF
    refine ⟨o1, o2, o3, by rw [length_splice _ _ _ hb]; exact o4, fun c hc => ?_, q5, fun j c hj => ?_⟩
    · unfold splice at hc
      rw [List.mem_append, List.mem_append] at hc
      rcases hc with (hc | hc) | hc
      · exact o5 c (List.mem_of_mem_take hc)
      · exact hk c hc
      · exact o5 c (List.mem_of_mem_drop hc)
    · have hjl : j < cells.length := by have := (List.getElem?_eq_some_iff.1 hj).1; rwa [length_splice _ _ _ hb] at this
      rw [getElem?_splice _ _ _ hb] at hj
      rw [q6 j (by rw [o4]; exact hjl)]
      rw [hvl]
      split at hj
      · rename_i hin
        rw [if_pos hin]
        have hlt : j - off < vs.length := by rw [hvl]; omega
        exact ⟨vs[j - off], by simp [hlt], (hr _ _ c (by simp [hlt]) hj).mono' (fun _ _ h => h) hbet, fun e => (by cases e)⟩
      · rename_i hin
        rw [if_neg hin]
        obtain ⟨x, hx1, hx2, _⟩ := o7 j c hj
        exact ⟨x, hx1, hx2.mono' (fun _ _ h => h) hbet, fun e => (by cases e)⟩)
  exact ⟨_, β', q1, hF, hW⟩

/-- Cells of elements of an array object are written: all of the elements in sight are told anew. -/
theorem store_arr {id z g off : Nat} {els els' : List (List CV)} {L : Loc} {vs : List Value} (hw : WR prot σ β h w) (ho : h[id]? = some (.arr z els g false)) (hL : β id = some L) (hlen : els'.length = els.length) (hl : ∀ e ∈ els', e.length = z)
    (hb : off + vs.length ≤ els.length * z) (h1 : ∀ x ∈ vs, x.oneCell' = true)
    (hr : ∀ (i : Nat) (e : List CV), els'[i]? = some e → ∀ (j : Nat) (c : CV), e[j]? = some c → if off ≤ i * z + j ∧ i * z + j < off + vs.length then ∃ x, vs[i * z + j - off]? = some x ∧ CR σ x c else ∃ e0, els[i]? = some e0 ∧ e0[j]? = some c) :
    ∃ w' β', (storeCells ⟨L.blk, L.boff + off, none⟩ vs).run P w = .ok () w' ∧ Fut prot σ β w σ β' w' ∧ WR prot σ β' (h.set id (.arr z els' g false)) w' := by
  obtain ⟨L0, hL0, hO⟩ := hw.obj id _ ho
  rw [hL] at hL0; cases hL0
  obtain ⟨o1, o2, o3, o4, o5, o6, o7, o8⟩ := hO
  obtain ⟨q1, q2, q3, q4, q5, q6⟩ := run_store_blk (P := P) (o := L.boff + off) (vs := vs) o7 (by omega) h1
  obtain ⟨β', hF, hW, _, _⟩ := hw.upd q2 id (o' := .arr z els' g false) (L' := L) ho rfl hL (by rw [q3]; exact Nat.le_refl _) (fun b _ hb => q4 b hb) (.inl rfl) (.inl rfl) (by
    intro β' hbet hβ hF
    refine ⟨o1, o2, o3, o4, hl, by rw [hlen]; exact o6, q5, fun i e hi j c hj => ?_⟩
    have hil : i < els.length := by rw [← hlen]; exact (List.getElem?_eq_some_iff.1 hi).1
    have hjl : j < z := by rw [← hl e (List.mem_of_getElem? hi)]; exact (List.getElem?_eq_some_iff.1 hj).1
    have hlt : i * z + j < els.length * z := by
      have : (i + 1) * z ≤ els.length * z := Nat.mul_le_mul_right _ hil
      rw [Nat.add_mul] at this; omega
    have hq := hr i e hi j c hj
    rw [q6 (L.boff + i * z + j) (by omega)]
    split at hq
    · rename_i hin
      obtain ⟨x, hx1, hx2⟩ := hq
      rw [if_pos (by omega)]
      refine ⟨x, ?_, hx2, fun e => (by cases e)⟩
      rw [← hx1]; congr 1; omega
    · rename_i hin
      obtain ⟨e0, he0, hj0⟩ := hq
      rw [if_neg (by omega)]
      obtain ⟨x, hx1, hx2, _⟩ := o8 i e0 he0 j c hj0
      exact ⟨x, hx1, hx2, fun e => (by cases e)⟩)
  exact ⟨_, β', q1, hF, hW⟩

theorem sim_st {o : Oper} {t : TypeId} {x y : Operand} {x' y' : Opd} {n : Nat} {v : VV} {h' : Heap} (ho : o.op = .store t x y) (hz : szOf P t = some n) (hx : opd x = some x') (hy : opd y = some y')
    (hs : stepI h (evalO s) (.st n x' y') = some (v, h')) (hf : FR σ β a.tmps s) (hw : WR prot σ β h w) : Sim P o a prot σ β w v h' := by
  have r1 := opd_rel hx hf
  have r2 := opd_rel hy hf
  simp only [stepI] at hs
  split at hs
  · rename_i cs hcs
    split at hs
    · rename_i hn
      obtain ⟨c1, c2, c3⟩ := cells_rel r2 hcs
      have key : ∀ A w', a.eval x = .pointer (some A) → (storeCells A (a.eval y).cells.toList).run P w = .ok () w' → (execOp a.eval o).run P w = .ok .skip w' := by
        intro A w' hA hst
        unfold execOp; rw [ho]
        simp only [hA, Instr.storeAt, Instr.sureAddr]
        rw [run_bind_ok (x := ()) (w1 := w')]
        · rfl
        · rw [run_bind_ok (x := A) (w1 := w) rfl]
          unfold storeVar
          rw [run_bind_ok (run_sizeOf hz w), if_neg (by omega)]
          exact hst
      split at hs
      · rename_i id off e1
        rw [e1] at r1
        split at hs
        · rename_i cells hobj
          split at hs
          · rename_i hb
            cases hs
            generalize hX : a.eval x = X at r1
            cases r1 with
            | ptr _ _ L hL hbx =>
              obtain ⟨w', β', hst, hF, hW⟩ := store_box (P := P) (cs := cs) (off := off) (vs := (a.eval y).cells.toList) hw hobj hL (by simpa using c1) (by omega) c2 (fun i x c hx hc => c3 i x c (by simpa using hx) hc)
              exact ⟨undef, w', σ, β', .inr ⟨key _ _ hX hst, rfl⟩, hF, hW, .undef _⟩
          · cases hs
        · cases hs
      · rename_i id g i off e1
        rw [e1] at r1
        split at hs
        · rename_i cc h1 hcc
          obtain ⟨σ1, hF1, hW1, hcl, hR1⟩ := closL_rel (vs := (a.eval y).cells.toList) hw (by simpa using c1) (fun i x c hx hc => c3 i x c (by simpa using hx) hc) hcc
          split at hs
          · rename_i z els g' hobj
            split at hs
            · rename_i hgg
              split at hs
              · rename_i e he
                split at hs
                · rename_i hb
                  cases hs
                  have r1' := r1.mono hF1
                  generalize hX : a.eval x = X at r1'
                  cases r1' with
                  | eptr A _ _ _ _ L hL hbx hg hA =>
                    obtain ⟨L0, hL0, hO⟩ := hW1.obj id _ hobj
                    rw [hL] at hL0; cases hL0
                    obtain ⟨o1, o2, o3, o4, o5, o6, o7, o8⟩ := hO
                    have hA' := hA (by rw [o2]; exact hgg)
                    have hel : e.length = z := o5 e (List.mem_of_getElem? he)
                    have hil := (List.getElem?_eq_some_iff.1 he).1
                    have hccl : cc.length = n := by omega
                    have hvl : (a.eval y).cells.toList.length = n := by simp; omega
                    have hbz : i * z + off + n ≤ els.length * z := by
                      have : (i + 1) * z ≤ els.length * z := Nat.mul_le_mul_right _ hil
                      rw [Nat.add_mul] at this; omega
                    obtain ⟨w', β', hst, hF, hW⟩ := store_arr (P := P) (off := i * z + off) (els' := els.set i (splice e off cc)) (vs := (a.eval y).cells.toList) hW1 hobj hL (by simp) (by
                        intro q hq
                        rcases List.mem_or_eq_of_mem_set hq with h | h
                        · exact o5 q h
                        · rw [h, length_splice _ _ _ (by omega)]; exact hel) (by omega) (by
                        intro q hq
                        obtain ⟨j, hj⟩ := List.getElem?_of_mem hq
                        have hjl := (List.getElem?_eq_some_iff.1 hj).1
                        have hlt : j < cs.length := by omega
                        exact one_of (c3 j q cs[j] (by simpa using hj) (by simp [hlt])) (c2 _ (List.getElem_mem hlt))) (by
                        intro q el hq j c hj
                        rw [List.getElem?_set] at hq
                        split at hq
                        · rename_i hqi
                          subst hqi
                          cases hq
                          rw [getElem?_splice _ _ _ (by omega)] at hj
                          split at hj
                          · rename_i hin
                            rw [if_pos (by omega)]
                            have hlt : j - off < (a.eval y).cells.toList.length := by omega
                            refine ⟨(a.eval y).cells.toList[j - off], ?_, hR1 _ _ c (List.getElem?_eq_getElem hlt) hj⟩
                            rw [← List.getElem?_eq_getElem hlt]; congr 1; omega
                          · rename_i hin
                            rw [if_neg (by omega)]
                            exact ⟨e, he, hj⟩
                        · rename_i hqi
                          have hel2 : el.length = z := o5 el (List.mem_of_getElem? hq)
                          have hjz : j < z := by rw [← hel2]; exact (List.getElem?_eq_some_iff.1 hj).1
                          rw [if_neg]
                          · exact ⟨el, hq, hj⟩
                          · intro ⟨k1, k2⟩
                            rcases Nat.lt_or_gt_of_ne hqi with hlt | hgt
                            · have : (i + 1) * z ≤ q * z := Nat.mul_le_mul_right _ hlt
                              rw [Nat.add_mul] at this; omega
                            · have : (q + 1) * z ≤ i * z := Nat.mul_le_mul_right _ hgt
                              rw [Nat.add_mul] at this; omega)
                    refine ⟨undef, w', σ1, β', .inr ⟨key _ _ hX ?_, rfl⟩, hF1.trans hF, hW, .undef _⟩
                    rw [hA', o3]
                    rw [show L.boff + i * z + off = L.boff + (i * z + off) by omega]
                    exact hst
                · cases hs
              · cases hs
            · cases hs
          · cases hs
        · cases hs
      · cases hs
    · cases hs
  · cases hs

end Go.Vm
