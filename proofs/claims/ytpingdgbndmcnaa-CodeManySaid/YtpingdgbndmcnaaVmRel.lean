/-
  Vm: how its states stand to the machine's (own work).
-/
import Derived.Test.YtpingdgbndmcnaaVmCore
namespace Go.Vm
open Go Go.RowKit

abbrev Stab := Addr → Option Value

/-- A machine's value reads as a closed one, in memory that stays. -/
inductive CR (σ : Stab) : Value → CV → Prop
  | sc (v : Value) (h : scalar v = true) : CR σ v (.sc v)
  | sl (A : Addr) (cap z : Nat) (els : List (List CV)) (ex : Bool) (f : Nat → Nat → Value)
      (hs : cap = 0 ∨ A.spot = none) (hc : els.length ≤ cap) (hx : ex = true → cap = els.length) (hz : 0 < z) (hl : ∀ e ∈ els, e.length = z)
      (hm : ∀ i e, els[i]? = some e → ∀ j c, e[j]? = some c → σ ⟨A.block, A.off + i * z + j, none⟩ = some (f i j))
      (hr : ∀ i e, els[i]? = some e → ∀ j c, e[j]? = some c → CR σ (f i j) c) :
      CR σ (.slice (some A) els.length cap) (.sl z els ex)

/-- Where an object lies. -/
structure Loc where
  blk : Nat
  boff : Nat
  g : Nat
  z : Nat
  csz : Nat
  box : Bool

inductive VR (σ : Stab) (β : Nat → Option Loc) : Value → VV → Prop
  | cv (v : Value) (c : CV) (h : CR σ v c) : VR σ β v (.cv c)
  | own (A : Addr) (cap id g off len : Nat) (ex : Bool) (L : Loc) (hL : β id = some L) (hb : L.box = false) (hg : g ≤ L.g)
      (hA : g = L.g → A.spot = none ∧ A.block = L.blk ∧ (cap = 0 ∨ A.off = L.boff + off * L.z) ∧ L.boff + (off + cap) * L.z ≤ L.csz)
      (hc : len ≤ cap) (hx : ex = true → cap = len) : VR σ β (.slice (some A) len cap) (.own id g off len ex)
  | ob (A : Addr) (cap id off len z : Nat) (ex : Bool) (L : Loc) (hL : β id = some L) (hb : L.box = true) (hs : A.spot = none) (hB : A.block = L.blk)
      (hA : cap = 0 ∨ A.off = off) (hcs : off + cap * z ≤ L.csz) (hc : len ≤ cap) (hx : ex = true → cap = len) (hz : 0 < z) : VR σ β (.slice (some A) len cap) (.ob id off len z ex)
  | ptr (id off : Nat) (L : Loc) (hL : β id = some L) (hb : L.box = true) : VR σ β (.pointer (some ⟨L.blk, off, none⟩)) (.ptr id off)
  | eptr (A : Addr) (id g i off : Nat) (L : Loc) (hL : β id = some L) (hb : L.box = false) (hg : g ≤ L.g)
      (hA : g = L.g → A = ⟨L.blk, L.boff + i * L.z + off, none⟩) : VR σ β (.pointer (some A)) (.eptr id g i off)
  | rptr (A : Addr) (cells : List CV) (f : Nat → Value) (hs : A.spot = none)
      (hm : ∀ j c, cells[j]? = some c → σ ⟨A.block, A.off + j, none⟩ = some (f j)) (hr : ∀ j c, cells[j]? = some c → CR σ (f j) c) : VR σ β (.pointer (some A)) (.rptr cells)
  | agg (vs : Array Value) (cells : List VV) (hn : vs.size = cells.length) (hk : ∀ c ∈ cells, isCell c = true)
      (hr : ∀ (i : Nat) (v : Value) (c : VV), vs[i]? = some v → cells[i]? = some c → VR σ β v c) : VR σ β (.agg vs) (.agg cells)
  | tup (vs : Array Value) (us : List VV) (hn : vs.size = us.length)
      (hr : ∀ (i : Nat) (v : Value) (c : VV), vs[i]? = some v → us[i]? = some c → VR σ β v c) : VR σ β (.tuple vs) (.tup us)
  | func (f : Nat) (cs : Array Value) (caps : List VV) (hn : cs.size = caps.length)
      (hr : ∀ (i : Nat) (v : Value) (c : VV), cs[i]? = some v → caps[i]? = some c → VR σ β v c) : VR σ β (.func (.func f) #[] cs) (.func f caps)
  | iface (t : Nat) (v : Value) (u : VV) (hr : VR σ β v u) : VR σ β (.iface t v) (.iface t u)
  | undef (v : Value) : VR σ β v .undef

/-- A block of cells that may be written. -/
def Blk (w : World) (blk csz : Nat) : Prop := ∃ C E fz, w.heap[blk]? = some (.cells C E fz) ∧ C.size = csz ∧ (fz.1 = fz.2 ∨ csz ≤ fz.1)

def VO.fr : VO → Bool
  | .arr _ _ _ fr => fr
  | .box _ fr => fr

def OR (σ : Stab) (β : Nat → Option Loc) (w : World) (L : Loc) : VO → Prop
  | .arr z els g fr => L.box = false ∧ L.g = g ∧ L.z = z ∧ 0 < z ∧ (∀ e ∈ els, e.length = z) ∧ L.boff + els.length * z ≤ L.csz ∧ Blk w L.blk L.csz ∧
      ∀ i e, els[i]? = some e → ∀ j c, e[j]? = some c → ∃ v, w.cell? ⟨L.blk, L.boff + i * z + j, none⟩ = some v ∧ CR σ v c ∧ (fr = true → σ ⟨L.blk, L.boff + i * z + j, none⟩ = some v)
  | .box cells fr => L.box = true ∧ L.g = 0 ∧ L.boff = 0 ∧ L.csz = cells.length ∧ (∀ c ∈ cells, isCell c = true) ∧ Blk w L.blk L.csz ∧
      ∀ j c, cells[j]? = some c → ∃ v, w.cell? ⟨L.blk, j, none⟩ = some v ∧ VR σ β v c ∧ (fr = true → σ ⟨L.blk, j, none⟩ = some v)

structure WR (prot : Nat → Prop) (σ : Stab) (β : Nat → Option Loc) (h : Heap) (w : World) : Prop where
  pr : ∀ b, prot b → b < w.heap.size
  stab : ∀ a v, σ a = some v → w.cell? a = some v
  obj : ∀ id o, h[id]? = some o → ∃ L, β id = some L ∧ OR σ β w L o
  dom : ∀ id L, β id = some L → id < h.length
  live : ∀ id o L, h[id]? = some o → o.fr = false → β id = some L → ¬ prot L.blk ∧ ∀ a, a.block = L.blk → σ a = none
  inj : ∀ id id' o o' L L', id ≠ id' → h[id]? = some o → h[id']? = some o' → o.fr = false → β id = some L → β id' = some L' → L.blk ≠ L'.blk

structure Fut (prot : Nat → Prop) (σ : Stab) (β : Nat → Option Loc) (w : World) (σ' : Stab) (β' : Nat → Option Loc) (w' : World) : Prop where
  os : w'.os = w.os
  tape : w'.tape = w.tape
  output : w'.output = w.output
  size : w.heap.size ≤ w'.heap.size
  prot : ∀ b, prot b → b < w.heap.size → w'.heap[b]? = w.heap[b]?
  sig : ∀ a v, σ a = some v → σ' a = some v
  bet : ∀ id L, β id = some L → ∃ L', β' id = some L' ∧ (L' = L ∨ (L.box = false ∧ L'.box = false ∧ L.g < L'.g))
  news : ∀ a, σ' a ≠ none → σ a ≠ none ∨ w.heap.size ≤ a.block ∨ ∃ id L, β id = some L ∧ L.blk = a.block
  newb : ∀ id L', β' id = some L' → w.heap.size ≤ L'.blk ∨ ∃ L, β id = some L ∧ L.blk = L'.blk

theorem CR.mono {σ σ' : Stab} (h : ∀ a v, σ a = some v → σ' a = some v) {v : Value} {c : CV} (hr : CR σ v c) : CR σ' v c := by
  induction hr with
  | sc v h1 => exact .sc v h1
  | sl A cap z els ex f hs hc hx hz hl hm _ ih => exact .sl A cap z els ex f hs hc hx hz hl (fun i e he j c hj => h _ _ (hm i e he j c hj)) ih

theorem VR.mono' {σ σ' : Stab} {β β' : Nat → Option Loc} (h : ∀ a v, σ a = some v → σ' a = some v)
    (k : ∀ id L, β id = some L → ∃ L', β' id = some L' ∧ (L' = L ∨ (L.box = false ∧ L'.box = false ∧ L.g < L'.g))) {v : Value} {u : VV} (hr : VR σ β v u) : VR σ' β' v u := by
  induction hr with
  | cv v c h1 => exact .cv v c (h1.mono h)
  | own A cap id g off len ex L hL hb hg hA hc hx =>
    obtain ⟨L', hL', hE | ⟨_, hb', hgl⟩⟩ := k id L hL
    · subst hE; exact .own A cap id g off len ex L' hL' hb hg hA hc hx
    · exact .own A cap id g off len ex L' hL' hb' (by omega) (fun e => by omega) hc hx
  | ob A cap id off len z ex L hL hb hs hB hA hcs hc hx hz =>
    obtain ⟨L', hL', hE | ⟨hb', _⟩⟩ := k id L hL
    · subst hE; exact .ob A cap id off len z ex L' hL' hb hs hB hA hcs hc hx hz
    · rw [hb] at hb'; cases hb'
  | ptr id off L hL hb =>
    obtain ⟨L', hL', hE | ⟨hb', _⟩⟩ := k id L hL
    · subst hE; exact .ptr id off L' hL' hb
    · rw [hb] at hb'; cases hb'
  | eptr A id g i off L hL hb hg hA =>
    obtain ⟨L', hL', hE | ⟨_, hb', hgl⟩⟩ := k id L hL
    · subst hE; exact .eptr A id g i off L' hL' hb hg hA
    · exact .eptr A id g i off L' hL' hb' (by omega) (fun e => by omega)
  | rptr A cells f hs hm hr1 => exact .rptr A cells f hs (fun j c hj => h _ _ (hm j c hj)) (fun j c hj => (hr1 j c hj).mono h)
  | agg vs cells hn hk _ ih => exact .agg vs cells hn hk ih
  | tup vs us hn _ ih => exact .tup vs us hn ih
  | func f cs caps hn _ ih => exact .func f cs caps hn ih
  | iface t v u _ ih => exact .iface t v u ih
  | undef v => exact .undef v

theorem VR.mono {prot : Nat → Prop} {σ σ' : Stab} {β β' : Nat → Option Loc} {w w' : World} (h : Fut prot σ β w σ' β' w') {v : Value} {u : VV} (hr : VR σ β v u) : VR σ' β' v u := hr.mono' h.sig h.bet

theorem VR.ext {σ : Stab} {β β' : Nat → Option Loc} (h : ∀ id L, β id = some L → β' id = some L) {v : Value} {u : VV} (hr : VR σ β v u) : VR σ β' v u := hr.mono' (fun _ _ h => h) (fun id L hL => ⟨L, h id L hL, .inl rfl⟩)

theorem Fut.refl {prot : Nat → Prop} {σ : Stab} {β : Nat → Option Loc} {w : World} : Fut prot σ β w σ β w :=
  ⟨rfl, rfl, rfl, Nat.le_refl _, fun _ _ _ => rfl, fun _ _ h => h, fun _ L h => ⟨L, h, .inl rfl⟩, fun _ h => .inl h, fun _ L' h => .inr ⟨L', h, rfl⟩⟩

theorem Fut.trans {prot : Nat → Prop} {σ σ1 σ2 : Stab} {β β1 β2 : Nat → Option Loc} {w w1 w2 : World} (h : Fut prot σ β w σ1 β1 w1) (k : Fut prot σ1 β1 w1 σ2 β2 w2) : Fut prot σ β w σ2 β2 w2 := by
  refine ⟨k.os.trans h.os, k.tape.trans h.tape, k.output.trans h.output, Nat.le_trans h.size k.size, fun b hb hs => (k.prot b hb (Nat.lt_of_lt_of_le hs h.size)).trans (h.prot b hb hs),
    fun a v ha => k.sig _ _ (h.sig _ _ ha), ?_, ?_, ?_⟩
  · intro id L hL
    obtain ⟨L1, hL1, h1⟩ := h.bet id L hL
    obtain ⟨L2, hL2, h2⟩ := k.bet id L1 hL1
    refine ⟨L2, hL2, ?_⟩
    rcases h1 with rfl | ⟨a1, a2, a3⟩
    · exact h2
    · rcases h2 with rfl | ⟨_, b2, b3⟩
      · exact .inr ⟨a1, a2, a3⟩
      · exact .inr ⟨a1, b2, by omega⟩
  · intro a ha
    rcases k.news a ha with h1 | h1 | ⟨id, L, hL, hb⟩
    · exact h.news a h1
    · exact .inr (.inl (Nat.le_trans h.size h1))
    · rcases h.newb id L hL with h2 | ⟨L0, h3, h4⟩
      · exact .inr (.inl (by rw [← hb]; exact h2))
      · exact .inr (.inr ⟨id, L0, h3, h4.trans hb⟩)
  · intro id L' hL'
    rcases k.newb id L' hL' with h1 | ⟨L, hL, hb⟩
    · exact .inl (Nat.le_trans h.size h1)
    · rcases h.newb id L hL with h2 | ⟨L0, h3, h4⟩
      · exact .inl (by rw [← hb]; exact h2)
      · exact .inr ⟨L0, h3, h4.trans hb⟩

/-- A world with the same heap. -/
theorem WR.heap {prot : Nat → Prop} {σ : Stab} {β : Nat → Option Loc} {h : Heap} {w w' : World} (hw : WR prot σ β h w) (he : w'.heap = w.heap) : WR prot σ β h w' := by
  have hc : ∀ a, w'.cell? a = w.cell? a := fun a => by simp [World.cell?, he]
  have hB : ∀ b c, Blk w b c → Blk w' b c := fun b c ⟨C, E, fz, h1, h2, h3⟩ => ⟨C, E, fz, by rw [he]; exact h1, h2, h3⟩
  refine ⟨fun b hb => by rw [he]; exact hw.pr b hb, fun a v h1 => by rw [hc]; exact hw.stab a v h1, ?_, hw.dom, hw.live, hw.inj⟩
  intro id o ho
  obtain ⟨L, hL, hO⟩ := hw.obj id o ho
  refine ⟨L, hL, ?_⟩
  cases o with
  | arr z els g fr =>
    obtain ⟨h1, h2, h3, h4, h5, h6, h7, h8⟩ := hO
    exact ⟨h1, h2, h3, h4, h5, h6, hB _ _ h7, fun i e hi j c hj => by rw [hc]; exact h8 i e hi j c hj⟩
  | box cells fr =>
    obtain ⟨h1, h2, h3, h4, h5, h6, h7⟩ := hO
    exact ⟨h1, h2, h3, h4, h5, hB _ _ h6, fun j c hj => by rw [hc]; exact h7 j c hj⟩

theorem Fut.heap {prot : Nat → Prop} {σ : Stab} {β : Nat → Option Loc} {w w' : World} (he : w'.heap = w.heap) (h1 : w'.os = w.os) (h2 : w'.tape = w.tape) (h3 : w'.output = w.output) : Fut prot σ β w σ β w' :=
  ⟨h1, h2, h3, by rw [he]; exact Nat.le_refl _, fun _ _ _ => by rw [he], fun _ _ h => h, fun _ L h => ⟨L, h, .inl rfl⟩, fun _ h => .inl h, fun _ L' h => .inr ⟨L', h, rfl⟩⟩

/-- An object's relation, later. -/
theorem OR.keep {prot : Nat → Prop} {σ σ' : Stab} {β β' : Nat → Option Loc} {w w' : World} {L : Loc} {o : VO} (hO : OR σ β w L o) (hF : Fut prot σ β w σ' β' w') (hb : w'.heap[L.blk]? = w.heap[L.blk]?) : OR σ' β' w' L o := by
  have hc : ∀ k, w'.cell? ⟨L.blk, k, none⟩ = w.cell? ⟨L.blk, k, none⟩ := fun k => by simp [World.cell?, hb]
  have hB : ∀ c, Blk w L.blk c → Blk w' L.blk c := fun c ⟨C, E, fz, h1, h2, h3⟩ => ⟨C, E, fz, by rw [hb]; exact h1, h2, h3⟩
  cases o with
  | arr z els g fr =>
    obtain ⟨h1, h2, h3, h4, h5, h6, h7, h8⟩ := hO
    refine ⟨h1, h2, h3, h4, h5, h6, hB _ h7, fun i e hi j c hj => ?_⟩
    obtain ⟨v, a1, a2, a3⟩ := h8 i e hi j c hj
    exact ⟨v, by rw [hc]; exact a1, a2.mono hF.sig, fun e => hF.sig _ _ (a3 e)⟩
  | box cells fr =>
    obtain ⟨h1, h2, h3, h4, h5, h6, h7⟩ := hO
    refine ⟨h1, h2, h3, h4, h5, hB _ h6, fun j c hj => ?_⟩
    obtain ⟨v, a1, a2, a3⟩ := h7 j c hj
    exact ⟨v, by rw [hc]; exact a1, a2.mono hF, fun e => hF.sig _ _ (a3 e)⟩

/-- Frames' slots. -/
def FR (σ : Stab) (β : Nat → Option Loc) (tmps : Array Value) (s : List VV) : Prop :=
  tmps.size = s.length ∧ ∀ (i : Nat) (v : Value) (u : VV), tmps[i]? = some v → s[i]? = some u → VR σ β v u

theorem FR.mono {prot : Nat → Prop} {σ σ' : Stab} {β β' : Nat → Option Loc} {w w' : World} (h : Fut prot σ β w σ' β' w') {tmps : Array Value} {s : List VV} (hf : FR σ β tmps s) : FR σ' β' tmps s :=
  ⟨hf.1, fun i v u h1 h2 => (hf.2 i v u h1 h2).mono h⟩

theorem FR.put {σ : Stab} {β : Nat → Option Loc} {a : Act} {s : List VV} (hf : FR σ β a.tmps s) (d : Option Nat) {v : Value} {u : VV} (hr : VR σ β v u) : FR σ β (a.put d v).tmps (putD s d u) := by
  cases d with
  | none => exact hf
  | some n =>
    refine ⟨by simp [Act.put, putD, hf.1], fun i v' u' h1 h2 => ?_⟩
    simp only [Act.put, putD] at h1 h2
    rw [Array.getElem?_setIfInBounds] at h1
    rw [List.getElem?_set] at h2
    by_cases hi : n = i
    · subst hi
      by_cases hlt : n < s.length
      · rw [if_pos rfl, if_pos (by rw [hf.1]; exact hlt)] at h1
        rw [if_pos rfl, if_pos hlt] at h2
        cases h1; cases h2; exact hr
      · rw [if_pos rfl, if_neg (by rw [hf.1]; exact hlt)] at h1; cases h1
    · rw [if_neg hi] at h1 h2
      exact hf.2 i v' u' h1 h2

/-- What is no address stands for itself. -/
theorem CR.scalar_inv {σ : Stab} {v u : Value} (h : CR σ v (.sc u)) : v = u ∧ scalar u = true := by
  cases h with | sc _ h1 => exact ⟨rfl, h1⟩

theorem VR.sc_inv {σ : Stab} {β : Nat → Option Loc} {v u : Value} (h : VR σ β v (.cv (.sc u))) : v = u ∧ scalar u = true := by
  cases h with | cv _ _ h1 => exact h1.scalar_inv

theorem VR.sc {σ : Stab} {β : Nat → Option Loc} {v : Value} (h : scalar v = true) : VR σ β v (.cv (.sc v)) := .cv _ _ (.sc v h)

end Go.Vm
