/-
  Vm: the steps of memory (own work): a new object, new memory that stays, an object written, moved, frozen.
-/
import Derived.Test.YtpingdgbndmcnaaVmRel
namespace Go.Vm
open Go Go.RowKit

variable {prot : Nat → Prop} {σ : Stab} {β : Nat → Option Loc} {h : Heap} {w : World}

theorem cell_block_lt {w : World} {a : Addr} {v : Value} (h : w.cell? a = some v) : a.block < w.heap.size := by
  unfold World.cell? at h
  cases hb : w.heap[a.block]? with
  | none => simp [hb] at h
  | some o => exact (Array.getElem?_eq_some_iff.1 hb).1

theorem stab_lt (hw : WR prot σ β h w) {a : Addr} {v : Value} (ha : σ a = some v) : a.block < w.heap.size := cell_block_lt (hw.stab a v ha)

theorem blk_lt {w : World} {b c : Nat} (hB : Blk w b c) : b < w.heap.size := by
  obtain ⟨C, E, fz, h1, _⟩ := hB
  exact (Array.getElem?_eq_some_iff.1 h1).1

theorem OR.blk {L : Loc} {o : VO} (hO : OR σ β w L o) : Blk w L.blk L.csz := by
  cases o with
  | arr z els g fr => exact hO.2.2.2.2.2.2.1
  | box cells fr => exact hO.2.2.2.2.2.1

theorem cell_push {w w' : World} {o : Obj} (hh : w'.heap = w.heap.push o) (a : Addr) (ha : a.block < w.heap.size) : w'.cell? a = w.cell? a := by
  simp only [World.cell?, hh, Array.getElem?_push, if_neg (show ¬ a.block = w.heap.size by omega)]

theorem heap_push {w w' : World} {o : Obj} (hh : w'.heap = w.heap.push o) (b : Nat) (hb : b < w.heap.size) : w'.heap[b]? = w.heap[b]? := by
  rw [hh, Array.getElem?_push, if_neg (by omega)]

/-- What of a step is seen of the streams. -/
structure Calm (w w' : World) : Prop where
  os : w'.os = w.os
  tape : w'.tape = w.tape
  output : w'.output = w.output

theorem Calm.refl (w : World) : Calm w w := ⟨rfl, rfl, rfl⟩

/-- A new object. -/
theorem WR.new (hw : WR prot σ β h w) {w' : World} {o : Obj} (hc : Calm w w') (hh : w'.heap = w.heap.push o) (x : VO) (L : Loc) (hL : L.blk = w.heap.size)
    (hO : ∀ β', (∀ id L, β id = some L → β' id = some L) → OR σ β' w' L x) :
    ∃ β', Fut prot σ β w σ β' w' ∧ WR prot σ β' (h ++ [x]) w' ∧ β' h.length = some L ∧ ∀ id L, β id = some L → β' id = some L := by
  have hext : ∀ id L', β id = some L' → (if id = h.length then some L else β id) = some L' := by
    intro id L' hid
    have := hw.dom id L' hid
    simp only [if_neg (show ¬ id = h.length by omega)]; exact hid
  have hF : Fut prot σ β w σ (fun id => if id = h.length then some L else β id) w' := by
    refine ⟨hc.os, hc.tape, hc.output, by rw [hh]; simp, fun b _ hs => heap_push hh b hs, fun _ _ h => h, fun id L' hid => ⟨L', hext id L' hid, .inl rfl⟩, fun _ h => .inl h, ?_⟩
    intro id L' hid
    split at hid
    · cases hid; exact .inl (by omega)
    · exact .inr ⟨L', hid, rfl⟩
  refine ⟨fun id => if id = h.length then some L else β id, hF, ?_, by simp, hext⟩
  refine ⟨fun b hb => by have := hw.pr b hb; rw [hh]; simp; omega, fun a v ha => by rw [cell_push hh a (stab_lt hw ha)]; exact hw.stab a v ha, ?_, ?_, ?_, ?_⟩
  · intro id y hy
    rw [List.getElem?_append] at hy
    split at hy
    · obtain ⟨L', hL', hO'⟩ := hw.obj id y hy
      exact ⟨L', hext id L' hL', hO'.keep hF (heap_push hh _ (blk_lt hO'.blk))⟩
    · rename_i hge
      rw [List.getElem?_singleton] at hy
      split at hy
      · cases hy
        have : id = h.length := by omega
        subst this
        exact ⟨L, by simp, hO _ hext⟩
      · cases hy
  · intro id L' hid
    simp only [List.length_append, List.length_singleton]
    split at hid
    · omega
    · have := hw.dom id L' hid; omega
  · intro id y L' hy hyfr hid
    rw [List.getElem?_append] at hy
    split at hy
    · rename_i hlt
      simp only [if_neg (show ¬ id = h.length by omega)] at hid
      exact hw.live id y L' hy hyfr hid
    · rename_i hge
      rw [List.getElem?_singleton] at hy
      split at hy
      · cases hy
        have : id = h.length := by omega
        subst this
        simp at hid; subst hid
        refine ⟨fun hp => by have := hw.pr _ hp; omega, fun a ha => ?_⟩
        cases hs : σ a with
        | none => rfl
        | some v => have := stab_lt hw hs; omega
      · cases hy
  · intro id id' y y' L1 L2 hne hy hy' hyfr h1 h2
    rw [List.getElem?_append] at hy hy'
    have old : ∀ i, i < h.length → ∀ L', (if i = h.length then some L else β i) = some L' → β i = some L' := fun i hi L' hL' => by
      rwa [if_neg (by omega)] at hL'
    split at hy
    · rename_i hlt
      have h1' := old id hlt L1 h1
      split at hy'
      · rename_i hlt'
        exact hw.inj id id' y y' L1 L2 hne hy hy' hyfr h1' (old id' hlt' L2 h2)
      · rw [List.getElem?_singleton] at hy'
        split at hy'
        · have : id' = h.length := by omega
          subst this; simp at h2; subst h2
          obtain ⟨L', hL', hO'⟩ := hw.obj id y hy
          rw [h1'] at hL'; cases hL'
          have := blk_lt hO'.blk; omega
        · cases hy'
    · rw [List.getElem?_singleton] at hy
      split at hy
      · have : id = h.length := by omega
        subst this; simp at h1; subst h1
        split at hy'
        · rename_i hlt'
          have h2' := old id' hlt' L2 h2
          obtain ⟨L', hL', hO'⟩ := hw.obj id' y' hy'
          rw [h2'] at hL'; cases hL'
          have := blk_lt hO'.blk; omega
        · rw [List.getElem?_singleton] at hy'
          split at hy'
          · omega
          · cases hy'
      · cases hy

/-- New memory that stays. -/
theorem WR.stay (hw : WR prot σ β h w) {w' : World} {o : Obj} (hc : Calm w w') (hh : w'.heap = w.heap.push o) :
    ∃ σ', Fut prot σ β w σ' β w' ∧ WR prot σ' β h w' ∧ (∀ j v, w'.cell? ⟨w.heap.size, j, none⟩ = some v → σ' ⟨w.heap.size, j, none⟩ = some v) ∧ ∀ a v, σ a = some v → σ' a = some v := by
  have hsig : ∀ a v, σ a = some v → (if a.block = w.heap.size then w'.cell? a else σ a) = some v := by
    intro a v ha
    have := stab_lt hw ha
    rw [if_neg (by omega)]; exact ha
  have hF : Fut prot σ β w (fun a => if a.block = w.heap.size then w'.cell? a else σ a) β w' := by
    refine ⟨hc.os, hc.tape, hc.output, by rw [hh]; simp, fun b _ hs => heap_push hh b hs, hsig, fun id L' hid => ⟨L', hid, .inl rfl⟩, ?_, fun id L' hid => .inr ⟨L', hid, rfl⟩⟩
    intro a ha
    split at ha
    · exact .inr (.inl (by omega))
    · exact .inl ha
  refine ⟨fun a => if a.block = w.heap.size then w'.cell? a else σ a, hF, ?_, fun j v hv => by simp [hv], hsig⟩
  refine ⟨fun b hb => by have := hw.pr b hb; rw [hh]; simp; omega, ?_, ?_, hw.dom, ?_, hw.inj⟩
  · intro a v ha
    split at ha
    · exact ha
    · rw [cell_push hh a (stab_lt hw ha)]; exact hw.stab a v ha
  · intro id y hy
    obtain ⟨L', hL', hO'⟩ := hw.obj id y hy
    exact ⟨L', hL', hO'.keep hF (heap_push hh _ (blk_lt hO'.blk))⟩
  · intro id y L' hy hyfr hid
    obtain ⟨h1, h2⟩ := hw.live id y L' hy hyfr hid
    refine ⟨h1, fun a ha => ?_⟩
    obtain ⟨L'', hL'', hO'⟩ := hw.obj id y hy
    rw [hid] at hL''; cases hL''
    have := blk_lt hO'.blk
    simp only [if_neg (show ¬ a.block = w.heap.size by omega)]
    exact h2 a ha

/-- A live object is written, or moved to a new block. -/
theorem WR.upd (hw : WR prot σ β h w) {w' : World} (hc : Calm w w') (id : Nat) {o o' : VO} {L L' : Loc} (ho : h[id]? = some o) (hfr : o.fr = false) (hL : β id = some L)
    (hsz : w.heap.size ≤ w'.heap.size) (hrest : ∀ b, b < w.heap.size → b ≠ L.blk → w'.heap[b]? = w.heap[b]?)
    (hL' : L' = L ∨ (L.box = false ∧ L'.box = false ∧ L.g < L'.g)) (hblk : L'.blk = L.blk ∨ w.heap.size ≤ L'.blk)
    (hO : ∀ β', (∀ i K, β i = some K → ∃ K', β' i = some K' ∧ (K' = K ∨ (K.box = false ∧ K'.box = false ∧ K.g < K'.g))) → β' id = some L' → Fut prot σ β w σ β' w' → OR σ β' w' L' o') :
    ∃ β', Fut prot σ β w σ β' w' ∧ WR prot σ β' (h.set id o') w' ∧ β' id = some L' ∧ ∀ i, i ≠ id → β' i = β i := by
  have hidlt : id < h.length := by rcases List.getElem?_eq_some_iff.1 ho with ⟨h1, _⟩; exact h1
  obtain ⟨hnp, hns⟩ := hw.live id o L ho hfr hL
  obtain ⟨L0, hL0, hO0⟩ := hw.obj id o ho
  rw [hL] at hL0; cases hL0
  have hLlt := blk_lt hO0.blk
  have hstab : ∀ a v, σ a = some v → w'.cell? a = some v := by
    intro a v ha
    have h1 := stab_lt hw ha
    have h2 : a.block ≠ L.blk := fun e => by rw [hns a e] at ha; cases ha
    have : w'.cell? a = w.cell? a := by simp only [World.cell?, hrest a.block h1 h2]
    rw [this]; exact hw.stab a v ha
  have hbet : ∀ i K, β i = some K → ∃ K', (if i = id then some L' else β i) = some K' ∧ (K' = K ∨ (K.box = false ∧ K'.box = false ∧ K.g < K'.g)) := by
    intro i K hK
    by_cases hi : i = id
    · subst hi; rw [hL] at hK; cases hK; exact ⟨L', by simp, hL'⟩
    · exact ⟨K, by simp [hi, hK], .inl rfl⟩
  have hF : Fut prot σ β w σ (fun i => if i = id then some L' else β i) w' := by
    refine ⟨hc.os, hc.tape, hc.output, hsz, fun b hb hs => hrest b hs (fun e => hnp (e ▸ hb)), fun _ _ h => h, hbet, fun _ h => .inl h, ?_⟩
    intro i K hK
    split at hK
    · cases hK
      rcases hblk with e | e
      · exact .inr ⟨L, by rw [← hL]; rename_i hi; rw [hi], e.symm⟩
      · exact .inl e
    · exact .inr ⟨K, hK, rfl⟩
  refine ⟨fun i => if i = id then some L' else β i, hF, ?_, by simp, fun i hi => by simp [hi]⟩
  refine ⟨fun b hb => Nat.lt_of_lt_of_le (hw.pr b hb) hsz, hstab, ?_, ?_, ?_, ?_⟩
  · intro i y hy
    by_cases hi : i = id
    · subst hi
      rw [List.getElem?_set] at hy
      simp [hidlt] at hy
      subst hy
      exact ⟨L', by simp, hO _ hbet (by simp) hF⟩
    · rw [List.getElem?_set, if_neg (fun e => hi e.symm)] at hy
      obtain ⟨K, hK, hO'⟩ := hw.obj i y hy
      refine ⟨K, by simp [hi, hK], hO'.keep hF (hrest _ (blk_lt hO'.blk) ?_)⟩
      exact fun e => hw.inj id i o y L K (fun e => hi e.symm) ho hy hfr hL hK e.symm
  · intro i K hK
    rw [List.length_set]
    split at hK
    · omega
    · exact hw.dom i K hK
  · intro i y K hy hyfr hK
    by_cases hi : i = id
    · subst hi
      simp at hK; subst hK
      rcases hblk with e | e
      · rw [e]; exact ⟨hnp, hns⟩
      · refine ⟨fun hp => by have := hw.pr _ hp; omega, fun a ha => ?_⟩
        cases hs : σ a with
        | none => rfl
        | some v => have := stab_lt hw hs; omega
    · rw [List.getElem?_set, if_neg (fun e => hi e.symm)] at hy
      rw [if_neg hi] at hK
      exact hw.live i y K hy hyfr hK
  · intro i i' y y' K K' hne hy hy' hyfr hK hK'
    have blt : ∀ j x, h[j]? = some x → ∀ M, β j = some M → M.blk < w.heap.size := fun j x hx M hM => by
      obtain ⟨M', hM', hO'⟩ := hw.obj j x hx
      rw [hM] at hM'; cases hM'; exact blk_lt hO'.blk
    by_cases hi : i = id
    · subst hi
      simp at hK; subst hK
      rw [if_neg (fun e => hne e.symm)] at hK'
      rw [List.getElem?_set, if_neg (fun e => hne e)] at hy'
      have := blt _ _ hy' _ hK'
      rcases hblk with e | e
      · rw [e]; exact hw.inj i i' o y' L K' hne ho hy' hfr hL hK'
      · omega
    · rw [if_neg hi] at hK
      rw [List.getElem?_set, if_neg (fun e => hi e.symm)] at hy
      by_cases hi' : i' = id
      · subst hi'
        simp at hK'; subst hK'
        have := blt _ _ hy _ hK
        rcases hblk with e | e
        · rw [e]; exact fun e2 => hw.inj i' i o y L K (fun e => hi e.symm) ho hy hfr hL hK e2.symm
        · omega
      · rw [if_neg hi'] at hK'
        rw [List.getElem?_set, if_neg (fun e => hi' e.symm)] at hy'
        exact hw.inj i i' y y' K K' hne hy hy' hyfr hK hK'

def VO.freeze : VO → VO
  | .arr z els g _ => .arr z els g true
  | .box cells _ => .box cells true

/-- An object is frozen. -/
theorem WR.freeze (hw : WR prot σ β h w) (id : Nat) {o : VO} (ho : h[id]? = some o) :
    ∃ σ', Fut prot σ β w σ' β w ∧ WR prot σ' β (h.set id o.freeze) w := by
  have hidlt : id < h.length := by rcases List.getElem?_eq_some_iff.1 ho with ⟨h1, _⟩; exact h1
  obtain ⟨L, hL, hO⟩ := hw.obj id o ho
  have hLlt := blk_lt hO.blk
  by_cases hfr : o.fr = true
  · have : o.freeze = o := by cases o <;> simp_all [VO.freeze, VO.fr]
    refine ⟨σ, Fut.refl, ?_⟩
    rw [this]
    have : h.set id o = h := by
      apply List.ext_getElem? ; intro i
      rw [List.getElem?_set]; split
      · rename_i e; subst e; simp [ho]
      · rfl
    rw [this]; exact hw
  · have hfr : o.fr = false := by simpa using hfr
    obtain ⟨hnp, hns⟩ := hw.live id o L ho hfr hL
    have hsig : ∀ a v, σ a = some v → (if a.block = L.blk then w.cell? a else σ a) = some v := by
      intro a v ha
      by_cases e : a.block = L.blk
      · rw [hns a e] at ha; cases ha
      · rw [if_neg e]; exact ha
    have hF : Fut prot σ β w (fun a => if a.block = L.blk then w.cell? a else σ a) β w := by
      refine ⟨rfl, rfl, rfl, Nat.le_refl _, fun _ _ _ => rfl, hsig, fun i K hK => ⟨K, hK, .inl rfl⟩, ?_, fun i K hK => .inr ⟨K, hK, rfl⟩⟩
      intro a ha
      split at ha
      · rename_i e; exact .inr (.inr ⟨id, L, hL, e.symm⟩)
      · exact .inl ha
    refine ⟨fun a => if a.block = L.blk then w.cell? a else σ a, hF, ?_⟩
    refine ⟨hw.pr, ?_, ?_, ?_, ?_, ?_⟩
    · intro a v ha
      split at ha
      · exact ha
      · exact hw.stab a v ha
    · intro i y hy
      by_cases hi : i = id
      · subst hi
        rw [List.getElem?_set] at hy
        simp [hidlt] at hy
        subst hy
        refine ⟨L, hL, ?_⟩
        cases o with
        | arr z els g fr =>
          obtain ⟨h1, h2, h3, h4, h5, h6, h7, h8⟩ := hO
          refine ⟨h1, h2, h3, h4, h5, h6, h7, fun i e hi j c hj => ?_⟩
          obtain ⟨v, a1, a2, a3⟩ := h8 i e hi j c hj
          exact ⟨v, a1, a2.mono hF.sig, fun _ => by simp [a1]⟩
        | box cells fr =>
          obtain ⟨h1, h2, h3, h4, h5, h6, h7⟩ := hO
          refine ⟨h1, h2, h3, h4, h5, h6, fun j c hj => ?_⟩
          obtain ⟨v, a1, a2, a3⟩ := h7 j c hj
          exact ⟨v, a1, a2.mono hF, fun _ => by simp [a1]⟩
      · rw [List.getElem?_set, if_neg (fun e => hi e.symm)] at hy
        obtain ⟨K, hK, hO'⟩ := hw.obj i y hy
        exact ⟨K, hK, hO'.keep hF rfl⟩
    · intro i K hK
      rw [List.length_set]; exact hw.dom i K hK
    · intro i y K hy hyfr hK
      by_cases hi : i = id
      · subst hi
        rw [List.getElem?_set] at hy
        simp [hidlt] at hy
        subst hy
        cases o <;> simp [VO.freeze, VO.fr] at hyfr
      · rw [List.getElem?_set, if_neg (fun e => hi e.symm)] at hy
        obtain ⟨h1, h2⟩ := hw.live i y K hy hyfr hK
        refine ⟨h1, fun a ha => ?_⟩
        have := hw.inj id i o y L K (fun e => hi e.symm) ho hy hfr hL hK
        simp only [if_neg (show ¬ a.block = L.blk from fun e => this (by omega))]
        exact h2 a ha
    · intro i i' y y' K K' hne hy hy' hyfr hK hK'
      have fix : ∀ j x, (h.set id o.freeze)[j]? = some x → ∃ x', h[j]? = some x' ∧ (x.fr = false → x'.fr = false ∧ j ≠ id) := by
        intro j x hx
        by_cases hj : j = id
        · subst hj
          rw [List.getElem?_set] at hx
          simp [hidlt] at hx
          subst hx
          exact ⟨o, ho, fun h => by cases o <;> simp [VO.freeze, VO.fr] at h⟩
        · rw [List.getElem?_set, if_neg (fun e => hj e.symm)] at hx
          exact ⟨x, hx, fun h => ⟨h, hj⟩⟩
      obtain ⟨x, hx, hx2⟩ := fix i y hy
      obtain ⟨x', hx', _⟩ := fix i' y' hy'
      exact hw.inj i i' x x' K K' hne hx hx' (hx2 hyfr).1 hK hK'

end Go.Vm
