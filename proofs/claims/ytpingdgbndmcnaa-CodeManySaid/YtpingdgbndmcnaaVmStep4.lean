/-
  Vm: the plain steps are the machine's (own work), fourth part: elements in memory, conversions between texts and bytes, addresses, loads.
-/
import Derived.Test.YtpingdgbndmcnaaVmStep3
import Derived.Lib.ConvBytes
import Derived.Laws.BytesArg
import Derived.Laws.IdiomCopy
import Derived.Laws.MakeOwn
namespace Go.Vm
open Go Go.RowKit
set_option linter.unusedVariables false
set_option linter.unusedSimpArgs false

variable {P : Program} {prot : Nat → Prop} {σ : Stab} {β : Nat → Option Loc} {h : Heap} {w : World} {a : Act} {s : List VV}

/-- The elements of a slice, in memory. -/
def ElsR (σ : Stab) (w : World) (z : Nat) (v : Value) (els : List (List CV)) : Prop :=
  ∃ A cap, v = .slice A els.length cap ∧ els.length ≤ cap ∧ (∀ e ∈ els, e.length = z) ∧ (A = none → els = []) ∧
    ∀ B, A = some B → (els = [] ∨ B.spot = none) ∧ ∀ (i : Nat) (e : List CV), els[i]? = some e → ∀ (j : Nat) (c : CV), e[j]? = some c → ∃ x, w.cell? ⟨B.block, B.off + i * z + j, none⟩ = some x ∧ CR σ x c

theorem mapM_cv {cells : List VV} {cs : List CV} (hm : (cells.mapM fun | .cv c => some c | _ => none) = some cs) : cells = cs.map .cv := by
  induction cells generalizing cs with
  | nil => simp at hm; subst hm; rfl
  | cons x l ih =>
    rw [List.mapM_cons] at hm
    simp only [Option.bind_eq_bind, Option.bind_eq_some_iff, Option.pure_def, Option.some.injEq] at hm
    obtain ⟨y, hy, ys, hys, rfl⟩ := hm
    rw [ih hys]
    cases x <;> simp at hy
    subst hy
    rfl

theorem getElem?_chunk {α : Type} {z len : Nat} {cells : List α} {i : Nat} {e : List α} (h : (chunk z len cells)[i]? = some e) : i < len ∧ e = (cells.drop (i * z)).take z := by
  unfold chunk at h
  rw [List.getElem?_map] at h
  cases hr : (List.range len)[i]? with
  | none => rw [hr] at h; cases h
  | some k =>
    rw [hr] at h
    have := List.getElem?_eq_some_iff.1 hr
    obtain ⟨h1, h2⟩ := this
    simp at h1 h2
    subst h2
    cases h
    exact ⟨h1, rfl⟩

theorem length_chunk {α : Type} (z len : Nat) (cells : List α) : (chunk z len cells).length = len := by simp [chunk]

theorem chunk_len {α : Type} {z len : Nat} {cells : List α} (hl : cells.length = len * z) : ∀ e ∈ chunk z len cells, e.length = z := by
  intro e he
  obtain ⟨i, hi⟩ := List.getElem?_of_mem he
  obtain ⟨h1, rfl⟩ := getElem?_chunk hi
  simp only [List.length_take, List.length_drop, hl]
  have : (i + 1) * z ≤ len * z := Nat.mul_le_mul_right _ h1
  rw [Nat.add_mul] at this
  omega

theorem chunk_cell {α : Type} {z len : Nat} {cells : List α} {i j : Nat} {e : List α} {c : α} (h : (chunk z len cells)[i]? = some e) (hj : e[j]? = some c) : cells[i * z + j]? = some c ∧ j < z := by
  obtain ⟨h1, rfl⟩ := getElem?_chunk h
  rw [List.getElem?_take] at hj
  split at hj
  · rw [List.getElem?_drop] at hj; exact ⟨hj, by assumption⟩
  · cases hj

theorem elsOf_rel {v : Value} {u : VV} {z : Nat} {els : List (List CV)} (hz : 0 < z) (hr : VR σ β v u) (hw : WR prot σ β h w) (he : elsOf h z u = some els) : ElsR σ w z v els ∧ lenV u = some els.length := by
  unfold elsOf at he
  split at he
  · cases he
    exact ⟨⟨none, 0, scalar_of hr, Nat.le_refl _, fun e he => by simp at he, fun _ => rfl, fun B hB => by cases hB⟩, rfl⟩
  · rename_i z' els' ex
    split at he
    · rename_i hzz; subst hzz
      cases he
      cases hr with
      | cv _ _ h1 => cases h1 with
        | sl A cap z els ex f hs hc hx hz' hl hm hr' =>
          exact ⟨⟨some A, cap, rfl, hc, hl, fun e => (by cases e), fun B hB => by
            cases hB; exact ⟨hs.imp (fun e => List.eq_nil_of_length_eq_zero (by omega)) id, fun i e hi j c hj => ⟨f i j, hw.stab _ _ (hm i e hi j c hj), hr' i e hi j c hj⟩⟩⟩, rfl⟩
    · cases he
  · rename_i id g off len ex
    split at he
    · rename_i z' els' g' fr ho
      split at he
      · rename_i hcond
        obtain ⟨hzz, hg, hb⟩ := hcond
        subst hzz
        cases he
        have hlen : ((els'.drop off).take len).length = len := by simp; omega
        obtain ⟨L, hL, hO⟩ := hw.obj id _ ho
        obtain ⟨o1, o2, o3, o4, o5, o6, o7, o8⟩ := hO
        refine ⟨?_, by simp only [lenV, hlen]⟩
        cases hr with
        | own A cap _ _ _ _ _ L' hL' hb' hg' hA hc hx =>
          rw [hL] at hL'; cases hL'
          obtain ⟨a1, a2, a3, a4⟩ := hA (by rw [o2]; exact hg)
          refine ⟨some A, cap, by rw [hlen], by rw [hlen]; exact hc, fun e he => o5 e (List.mem_of_mem_drop (List.mem_of_mem_take he)), fun e => (by cases e), fun B hB => ?_⟩
          cases hB
          refine ⟨.inr a1, fun i e hi j c hj => ?_⟩
          rw [List.getElem?_take] at hi
          split at hi
          · rename_i hlt
            rw [List.getElem?_drop] at hi
            obtain ⟨x, hx1, hx2, _⟩ := o8 (off + i) e hi j c hj
            refine ⟨x, ?_, hx2⟩
            have : cap ≠ 0 := by omega
            rcases a3 with a3 | a3
            · exact absurd a3 this
            · rw [a2, a3, o3]
              rw [Nat.add_mul] at hx1
              rw [← hx1]
              congr 2
              omega
          · cases hi
      · cases he
    · cases he
  · rename_i id off len z' ex
    split at he
    · rename_i cells fr ho
      split at he
      · rename_i cs hcs
        split at he
        · rename_i hcond
          obtain ⟨hzz, hb⟩ := hcond
          subst hzz
          cases he
          have hcl := mapM_cv hcs
          obtain ⟨L, hL, hO⟩ := hw.obj id _ ho
          obtain ⟨o1, o2, o3, o4, o5, o6, o7⟩ := hO
          refine ⟨?_, by simp only [lenV, length_chunk]⟩
          cases hr with
          | ob A cap _ _ _ _ _ L' hL' hb' hs hB hA hcs' hc hx hz' =>
            rw [hL] at hL'; cases hL'
            refine ⟨some A, cap, by rw [length_chunk], by rw [length_chunk]; exact hc, chunk_len hb, fun e => (by cases e), fun B hB' => ?_⟩
            cases hB'
            refine ⟨.inr hs, fun i e hi j c hj => ?_⟩
            obtain ⟨h1, h2⟩ := chunk_cell hi hj
            obtain ⟨h3, _⟩ := getElem?_chunk hi
            have h4 : ((cells.drop off).take (len * z'))[i * z' + j]? = some (.cv c) := by rw [hcl, List.getElem?_map, h1]; rfl
            rw [List.getElem?_take] at h4
            split at h4
            · rw [List.getElem?_drop] at h4
              obtain ⟨x, hx1, hx2, _⟩ := o7 _ _ h4
              have hcr : CR σ x c := by cases hx2; assumption
              refine ⟨x, ?_, hcr⟩
              rcases hA with hA | hA
              · omega
              · rw [hB, hA, ← hx1]; congr 2; omega
            · cases h4
        · cases he
      · cases he
    · cases he
  · cases he

/-- The elements' cells, one behind the other. -/
def FlatR (σ : Stab) (z : Nat) (els : List (List CV)) (rs : List Value) : Prop :=
  (∀ e ∈ els, e.length = z) ∧ rs.length = els.length * z ∧ ∀ (i : Nat) (e : List CV), els[i]? = some e → ∀ (j : Nat) (c : CV), e[j]? = some c → ∃ x, rs[i * z + j]? = some x ∧ CR σ x c

theorem FlatR.one {z : Nat} {els : List (List CV)} {rs : List Value} (hz : 0 < z) (hf : FlatR σ z els rs) : ∀ x ∈ rs, x.oneCell' = true := by
  intro x hx
  obtain ⟨k, hk⟩ := List.getElem?_of_mem hx
  obtain ⟨h1, h2, h3⟩ := hf
  have hlt : k < els.length * z := by rw [← h2]; exact (List.getElem?_eq_some_iff.1 hk).1
  have hi : k / z < els.length := Nat.div_lt_of_lt_mul (by rw [Nat.mul_comm]; exact hlt)
  have hel : els[k / z].length = z := h1 _ (List.getElem_mem hi)
  have hj : k % z < els[k / z].length := by rw [hel]; exact Nat.mod_lt _ hz
  obtain ⟨c, hc⟩ : ∃ c, els[k / z][k % z]? = some c := ⟨_, List.getElem?_eq_getElem hj⟩
  obtain ⟨y, hy1, hy2⟩ := h3 (k / z) els[k / z] (by simp [hi]) (k % z) c hc
  have : k / z * z + k % z = k := by rw [Nat.mul_comm]; exact Nat.div_add_mod k z
  rw [this, hk] at hy1
  cases hy1
  cases hy2 with
  | sc _ hs => cases x <;> first | rfl | cases hs
  | sl => rfl

theorem FlatR.mono {σ' : Stab} (hs : ∀ a v, σ a = some v → σ' a = some v) {z : Nat} {els : List (List CV)} {rs : List Value} (hf : FlatR σ z els rs) : FlatR σ' z els rs :=
  ⟨hf.1, hf.2.1, fun i e hi j c hj => by obtain ⟨x, h1, h2⟩ := hf.2.2 i e hi j c hj; exact ⟨x, h1, h2.mono hs⟩⟩

theorem FlatR.append {z : Nat} {els els' : List (List CV)} {rs rs' : List Value} (h1 : FlatR σ z els rs) (h2 : FlatR σ z els' rs') : FlatR σ z (els ++ els') (rs ++ rs') := by
  obtain ⟨a1, a2, a3⟩ := h1
  obtain ⟨b1, b2, b3⟩ := h2
  refine ⟨fun e he => ?_, by simp [a2, b2, Nat.add_mul], fun i e hi j c hj => ?_⟩
  · rcases List.mem_append.1 he with h | h
    · exact a1 e h
    · exact b1 e h
  · rw [List.getElem?_append] at hi
    split at hi
    · rename_i hlt
      obtain ⟨x, hx1, hx2⟩ := a3 i e hi j c hj
      refine ⟨x, ?_, hx2⟩
      rw [List.getElem?_append_left]
      · exact hx1
      · exact (List.getElem?_eq_some_iff.1 hx1).1
    · rename_i hge
      obtain ⟨x, hx1, hx2⟩ := b3 _ e hi j c hj
      refine ⟨x, ?_, hx2⟩
      have hk : i * z = els.length * z + (i - els.length) * z := by rw [← Nat.add_mul]; congr 1; omega
      rw [List.getElem?_append_right (by rw [a2]; omega), a2, hk]
      rw [show els.length * z + (i - els.length) * z + j - els.length * z = (i - els.length) * z + j by omega]
      exact hx1

theorem FlatR.take {z : Nat} {els : List (List CV)} {rs : List Value} (hf : FlatR σ z els rs) (k : Nat) (hk : k ≤ els.length) : FlatR σ z (els.take k) (rs.take (k * z)) := by
  obtain ⟨a1, a2, a3⟩ := hf
  refine ⟨fun e he => a1 e (List.mem_of_mem_take he), ?_, fun i e hi j c hj => ?_⟩
  · simp only [List.length_take, a2]
    rw [Nat.min_eq_left hk, Nat.min_eq_left (Nat.mul_le_mul_right _ hk)]
  · rw [List.getElem?_take] at hi
    split at hi
    · rename_i hlt
      obtain ⟨x, hx1, hx2⟩ := a3 i e hi j c hj
      have hjz : j < z := by rw [← a1 e (List.mem_of_getElem? hi)]; exact (List.getElem?_eq_some_iff.1 hj).1
      refine ⟨x, ?_, hx2⟩
      rw [List.getElem?_take, if_pos]
      · exact hx1
      · have : (i + 1) * z ≤ k * z := Nat.mul_le_mul_right _ hlt
        rw [Nat.add_mul] at this; omega
    · cases hi

theorem ElsR.flat {z : Nat} {v : Value} {els : List (List CV)} (hz : 0 < z) (he : ElsR σ w z v els) : ∃ rs, FlatR σ z els rs ∧ ∀ k, k ≤ els.length → (Builtin.firstCells z k v).run P w = .ok (rs.take (k * z)).toArray w := by
  obtain ⟨A, cap, rfl, hc, hl, hn, hB⟩ := he
  cases A with
  | none =>
    have := hn rfl
    subst this
    refine ⟨[], ⟨fun e he => (by simp at he), by simp, fun i e hi => (by simp at hi)⟩, fun k hk => ?_⟩
    simp [Builtin.firstCells]
  | some B =>
    obtain ⟨hs, hcell⟩ := hB B rfl
    have key : ∀ k, k < els.length * z → ∃ x, w.cell? ⟨B.block, B.off + k, none⟩ = some x := by
      intro k hk
      have hi : k / z < els.length := Nat.div_lt_of_lt_mul (by rw [Nat.mul_comm]; exact hk)
      have hel : els[k / z].length = z := hl _ (List.getElem_mem hi)
      have hj : k % z < els[k / z].length := by rw [hel]; exact Nat.mod_lt _ hz
      obtain ⟨y, hy1, _⟩ := hcell (k / z) els[k / z] (by simp [hi]) (k % z) _ (List.getElem?_eq_getElem hj)
      have : B.off + k / z * z + k % z = B.off + k := by have := Nat.div_add_mod k z; rw [Nat.mul_comm] at this; omega
      rw [this] at hy1
      exact ⟨y, hy1⟩
    refine ⟨(List.range (els.length * z)).map fun k => (w.cell? ⟨B.block, B.off + k, none⟩).getD undef, ⟨hl, by simp, fun i e hi j c hj => ?_⟩, fun k hk => ?_⟩
    · obtain ⟨x, hx1, hx2⟩ := hcell i e hi j c hj
      refine ⟨x, ?_, hx2⟩
      have hilt := (List.getElem?_eq_some_iff.1 hi).1
      have hjz : j < z := by rw [← hl e (List.mem_of_getElem? hi)]; exact (List.getElem?_eq_some_iff.1 hj).1
      have hlt : i * z + j < els.length * z := by
        have : (i + 1) * z ≤ els.length * z := Nat.mul_le_mul_right _ hilt
        rw [Nat.add_mul] at this; omega
      rw [List.getElem?_map, List.getElem?_range hlt]
      simp only [Option.map_some]
      rw [← Nat.add_assoc, hx1]; rfl
    · have hk' : k * z ≤ els.length * z := Nat.mul_le_mul_right _ hk
      simp only [Builtin.firstCells]
      rw [run_loadCells w B (k * z) (fun j => (w.cell? ⟨B.block, B.off + j, none⟩).getD undef)]
      · rw [← List.map_take, List.take_range, Nat.min_eq_left hk']
      · intro j hj
        obtain ⟨x, hx⟩ := key j (by omega)
        have hs0 : B.spot = none := hs.resolve_left (by intro e; rw [e, List.length_nil, Nat.zero_mul] at hk'; omega)
        rw [add_spot hs0, hx]; rfl

/-- A text's bytes, as elements. -/
theorem flat_bytes (l : List UInt8) : FlatR σ 1 (eB l) (l.map fun b => Value.int .u8 b.toNat) := by
  refine ⟨fun e he => ?_, by simp [eB], fun i e hi j c hj => ?_⟩
  · simp only [eB, List.mem_map] at he
    obtain ⟨b, _, rfl⟩ := he
    rfl
  · simp only [eB, List.getElem?_map] at hi
    cases hb : l[i]? with
    | none => rw [hb] at hi; cases hi
    | some b =>
      rw [hb] at hi
      cases hi
      cases j with
      | zero =>
        simp [byteCell] at hj
        subst hj
        exact ⟨.int .u8 b.toNat, by simp [hb], .sc _ rfl⟩
      | succ j => simp [byteCell] at hj

theorem bytesOf_flat {els : List (List CV)} {l : List UInt8} {rs : List Value} (hb : bytesOf els = some l) (hf : FlatR σ 1 els rs) : ∃ ns : List Int, rs = ns.map (Value.int .u8) ∧ l = ns.map fun n => UInt8.ofNat n.toNat := by
  induction els generalizing l rs with
  | nil =>
    unfold bytesOf at hb
    simp at hb; subst hb
    have := hf.2.1
    simp at this; subst this
    exact ⟨[], rfl, rfl⟩
  | cons e els ih =>
    unfold bytesOf at hb
    rw [List.mapM_cons] at hb
    simp only [Option.bind_eq_bind, Option.bind_eq_some_iff, Option.pure_def, Option.some.injEq] at hb
    obtain ⟨y, hy, ys, hys, rfl⟩ := hb
    obtain ⟨f1, f2, f3⟩ := hf
    unfold byteOf? at hy
    split at hy
    · rename_i n
      cases hy
      cases rs with
      | nil => simp at f2
      | cons r rs =>
        obtain ⟨x, hx1, hx2⟩ := f3 0 _ rfl 0 _ rfl
        simp at hx1
        subst hx1
        have hr : r = .int .u8 n := hx2.scalar_inv.1
        subst hr
        obtain ⟨ns, rfl, rfl⟩ := ih hys (rs := rs) ⟨fun e he => f1 e (List.mem_cons_of_mem _ he), by simp at f2; simpa using f2, fun i e hi j c hj => by
          have hj0 : j = 0 := by
            have := f1 e (List.mem_cons_of_mem _ (List.mem_of_getElem? hi))
            have := (List.getElem?_eq_some_iff.1 hj).1
            omega
          subst hj0
          obtain ⟨x, hx1, hx2⟩ := f3 (i + 1) e (by simpa using hi) 0 c hj
          exact ⟨x, by simpa using hx1, hx2⟩⟩
        exact ⟨n :: ns, rfl, rfl⟩
    · cases hy

theorem sim_cvBS {o : Oper} {src dst e : TypeId} {x : Operand} {y : Opd} {v : VV} {h' : Heap} (ho : o.op = .convert src dst x) (hd1 : P.underlying src = some (.slice e)) (hde : P.underlying e = some (.int .u8)) (hd2 : P.underlying dst = some .string) (h1 : opd x = some y)
    (hs : stepI h (evalO s) (.cvBS y) = some (v, h')) (hf : FR σ β a.tmps s) (hw : WR prot σ β h w) : Sim P o a prot σ β w v h' := by
  have r1 := opd_rel h1 hf
  simp only [stepI] at hs
  split at hs
  · rename_i els hels
    cases hb : bytesOf els with
    | none => rw [hb] at hs; cases hs
    | some l =>
      rw [hb] at hs; cases hs
      obtain ⟨hE, _⟩ := elsOf_rel (z := 1) (by decide) r1 hw hels
      obtain ⟨rs, hF, hrun⟩ := hE.flat (P := P) (by decide)
      obtain ⟨ns, rfl, rfl⟩ := bytesOf_flat hb hF
      obtain ⟨A, cap, hv, _, _, hn, hB⟩ := hE
      refine .pure hw ?_ (.sc rfl)
      unfold execOp; rw [ho]
      simp only [hv]
      have hlen : els.length = ns.length := by have := hF.2.1; simpa using this.symm
      cases A with
      | none =>
        have he0 := hn rfl
        subst he0
        have : ns = [] := by simpa using hlen.symm
        subst this
        rw [run_bind_ok (run_convert_bytes_nil w src e hd1 hde _ _ dst hd2)]
        rfl
      | some B =>
        have hr := hrun els.length (Nat.le_refl _)
        rw [hv] at hr
        simp only [Builtin.firstCells, Nat.mul_one] at hr
        rw [List.take_of_length_le (by simp [hlen])] at hr
        have hc := run_convert_bytes_string (P := P) w src dst e (some B) els.length cap hd1 hde hd2
        rw [run_bytesToString w B els.length cap ns hr, foldl_push_bytes] at hc
        rw [run_bind_ok hc]
        simp [ByteArray.empty, ByteArray.emptyWithCapacity]
        rfl
  · cases hs

theorem bytesWorld_push (w : World) (e : TypeId) (b : ByteArray) : (Lib.bytesWorld w e b).heap = w.heap.push (.cells (Lib.bytesCells w e b) e ((Lib.bytesCells w e b).size, (Lib.bytesCells w e b).size + 1)) := by
  apply Array.ext_getElem?
  intro i
  rw [Array.getElem?_push]
  by_cases hi : i = w.heap.size
  · subst hi; rw [if_pos rfl, Lib.bytesWorld_at_new]
  · rw [if_neg hi]
    by_cases hlt : i < w.heap.size
    · rw [Lib.bytesWorld_at_old w e b i hlt]
    · have : w.heap[i]? = none := Array.getElem?_eq_none (by omega)
      rw [this]
      apply Array.getElem?_eq_none
      rw [Lib.bytesWorld_size]; omega

theorem bytesWorld_calm (w : World) (e : TypeId) (b : ByteArray) : Calm w (Lib.bytesWorld w e b) := by
  refine ⟨?_, ?_, ?_⟩ <;> (unfold Lib.bytesWorld World.freeze; simp only [Nat.one_ne_zero, if_false]; rfl)

theorem bytesWorld_cell' (w : World) (e : TypeId) (b : ByteArray) (i : Nat) (x : UInt8) (hx : b.data.toList[i]? = some x) : (Lib.bytesWorld w e b).cell? ⟨w.heap.size, i, none⟩ = some (.int .u8 x.toNat) := by
  have hlt : i < b.size := by have := (List.getElem?_eq_some_iff.1 hx).1; simpa using this
  rw [Lib.bytesWorld_cell w e b i hlt]
  simp only [List.getD, hx, Option.getD_some]

theorem sim_cvSB {o : Oper} {src dst e : TypeId} {x : Operand} {y : Opd} {own : Bool} {v : VV} {h' : Heap} (ho : o.op = .convert src dst x) (hd1 : P.underlying src = some .string) (hd2 : P.underlying dst = some (.slice e)) (hde : P.underlying e = some (.int .u8)) (h1 : opd x = some y)
    (hs : stepI h (evalO s) (.cvSB own y) = some (v, h')) (hf : FR σ β a.tmps s) (hw : WR prot σ β h w) : Sim P o a prot σ β w v h' := by
  have r1 := opd_rel h1 hf
  simp only [stepI] at hs
  split at hs
  · rename_i b e1
    rw [e1] at r1
    have q := scalar_of r1
    have hrun := Lib.run_convert_string_bytes (P := P) w src dst e b hd1 hd2 hde
    have hcap : b.size ≤ grownCap w b.size 0 e := grownCap_ge w b.size 0 e
    have hsz : (Lib.bytesCells w e b).size = grownCap w b.size 0 e := by simp [Lib.bytesCells]; omega
    have hgo : (execOp a.eval o).run P w = .ok (.value (.slice (some ⟨w.heap.size, 0, none⟩) b.size (grownCap w b.size 0 e))) (Lib.bytesWorld w e b) := by
      unfold execOp; rw [ho]
      simp only [q]
      rw [run_bind_ok hrun]; rfl
    have hcells : ∀ (i : Nat) (el : List CV), (eB b.data.toList)[i]? = some el → ∀ (j : Nat) (c : CV), el[j]? = some c → ∃ x, (Lib.bytesWorld w e b).cell? ⟨w.heap.size, 0 + i * 1 + j, none⟩ = some x ∧ c = .sc x ∧ scalar x = true := by
      intro i el hi j c hj
      simp only [eB, List.getElem?_map] at hi
      cases hb : b.data.toList[i]? with
      | none => rw [hb] at hi; cases hi
      | some x =>
        rw [hb] at hi; cases hi
        cases j with
        | zero =>
          simp [byteCell] at hj
          subst hj
          refine ⟨.int .u8 x.toNat, ?_, rfl, rfl⟩
          rw [← bytesWorld_cell' w e b i x hb]
          congr 2; omega
        | succ j => simp [byteCell] at hj
    have hlen : (eB b.data.toList).length = b.size := by simp [eB]
    have hall : ∀ el ∈ eB b.data.toList, el.length = 1 := by
      intro el he
      simp only [eB, List.mem_map] at he
      obtain ⟨x, _, rfl⟩ := he; rfl
    cases own with
    | true =>
      simp only [if_true] at hs
      cases hs
      obtain ⟨β', hF, hW, hβ, hext⟩ := hw.new (bytesWorld_calm w e b) (bytesWorld_push w e b) (.arr 1 (eB b.data.toList) 0 false) ⟨w.heap.size, 0, 0, 1, grownCap w b.size 0 e, false⟩ rfl (by
        intro β' _
        refine ⟨rfl, rfl, rfl, by decide, hall, by simp [hlen]; exact hcap, ⟨_, _, _, Lib.bytesWorld_at_new w e b, hsz, .inr (by simp only [hsz]; exact Nat.le_refl _)⟩, fun i el hi j c hj => ?_⟩
        obtain ⟨x, hx1, rfl, hx2⟩ := hcells i el hi j c hj
        exact ⟨x, hx1, .sc _ hx2, fun e => (by cases e)⟩)
      refine ⟨_, _, _, _, .inl hgo, hF, hW, ?_⟩
      exact .own _ _ _ _ _ _ _ _ hβ rfl (Nat.le_refl _) (fun _ => ⟨rfl, rfl, .inr rfl, by simp⟩) hcap (fun e => by cases e)
    | false =>
      simp only [Bool.false_eq_true, if_false] at hs
      cases hs
      obtain ⟨σ', hF, hW, hnew, hsig⟩ := hw.stay (bytesWorld_calm w e b) (bytesWorld_push w e b)
      refine ⟨_, _, _, _, .inl hgo, hF, hW, ?_⟩
      refine .cv _ _ ?_
      have := CR.sl (σ := σ') ⟨w.heap.size, 0, none⟩ (grownCap w b.size 0 e) 1 (eB b.data.toList) false (fun i j => ((Lib.bytesWorld w e b).cell? ⟨w.heap.size, 0 + i * 1 + j, none⟩).getD undef) (.inr rfl) (by rw [hlen]; exact hcap) (fun e => (by cases e)) (by decide) hall
        (fun i el hi j c hj => by obtain ⟨x, hx1, _, _⟩ := hcells i el hi j c hj; rw [hnew _ _ hx1, hx1]; rfl)
        (fun i el hi j c hj => by obtain ⟨x, hx1, rfl, hx2⟩ := hcells i el hi j c hj; rw [hx1]; exact .sc _ hx2)
      rw [hlen] at this
      exact this
  · cases hs

theorem sim_mrk {o : Oper} {dst e e' : TypeId} {x : Operand} {y : Opd} {v : VV} {h' : Heap} (ho : o.op = .convert dst dst x) (hd2 : P.underlying dst = some (.slice e)) (_ : P.underlying dst = some (.slice e')) (hde : P.underlying e = some (.int .u8)) (h1 : opd x = some y)
    (hs : stepI h (evalO s) (.mrk y) = some (v, h')) (hf : FR σ β a.tmps s) (hw : WR prot σ β h w) : Sim P o a prot σ β w v h' := by
  have r1 := opd_rel h1 hf
  simp only [stepI] at hs
  split at hs
  · rename_i id g off len ex e1
    split at hs
    · rename_i z els g' hobj
      split at hs
      · rename_i hg
        cases hs
        rw [e1] at r1
        generalize hq : a.eval x = rv at r1
        cases r1 with
        | own A cap _ _ _ _ _ L hL hb hgl hA hc hx =>
          obtain ⟨L0, hL0, hO⟩ := hw.obj id _ hobj
          rw [hL] at hL0; cases hL0
          have hg' : L.g = g' := hO.2.1
          obtain ⟨hsp, hAb, hAo⟩ := hA (by omega)
          obtain ⟨C, E, fz, hC, hsz, hfz⟩ := hO.blk
          obtain ⟨lo, hi⟩ := fz
          have hsh : w.shape? A.block = some (E, C.size) := by
            unfold World.shape?
            rw [hAb, hC]
          have hlt : L.blk < w.heap.size := by
            rcases Array.getElem?_eq_some_iff.1 hC with ⟨q, _⟩; exact q
          have hgo : (execOp a.eval o).run P w = .ok (.value (.slice (some A) len cap)) (w.freeze ⟨A.block, C.size, none⟩ 1) := by
            unfold execOp; rw [ho]
            simp only [hq]
            rw [run_bind_ok (w1 := w.freeze ⟨A.block, C.size, none⟩ 1) (x := .slice (some A) len cap)]
            · rfl
            · simp [convert, run_underlying hd2, run_underlying hde, markStringish, hsh]
          have hfrz : w.freeze ⟨A.block, C.size, none⟩ 1 = { w with heap := w.heap.modify L.blk fun
              | .cells c elem (lo, hi) => .cells c elem (if lo == hi then (C.size, C.size + 1) else (min lo C.size, max hi (C.size + 1)))
              | o => o } := by
            unfold World.freeze
            rw [if_neg (by decide), hAb]
            congr 1
          have hnew : (w.freeze ⟨A.block, C.size, none⟩ 1).heap[L.blk]? = some (.cells C E (if lo == hi then (C.size, C.size + 1) else (min lo C.size, max hi (C.size + 1)))) := by
            rw [hfrz]
            show (w.heap.modify L.blk _)[L.blk]? = _
            rw [Array.getElem?_modify, if_pos rfl, hC]
            rfl
          have hrest : ∀ b, b < w.heap.size → b ≠ L.blk → (w.freeze ⟨A.block, C.size, none⟩ 1).heap[b]? = w.heap[b]? := by
            intro b _ hb
            rw [hfrz]
            show (w.heap.modify L.blk _)[b]? = _
            rw [Array.getElem?_modify, if_neg (fun e => hb e.symm)]
          have hsize : w.heap.size ≤ (w.freeze ⟨A.block, C.size, none⟩ 1).heap.size := by
            rw [hfrz]
            show _ ≤ (w.heap.modify L.blk _).size
            rw [Array.size_modify]
            exact Nat.le_refl _
          have hcell : ∀ (q : Addr), (w.freeze ⟨A.block, C.size, none⟩ 1).cell? q = w.cell? q := by
            intro q
            by_cases hqb : q.block = L.blk
            · unfold World.cell?
              rw [hqb, hnew, hC]
            · rcases Nat.lt_or_ge q.block w.heap.size with hl | hl
              · simp only [World.cell?, hrest q.block hl hqb]
              · have : (w.freeze ⟨A.block, C.size, none⟩ 1).heap[q.block]? = none := by
                  rw [hfrz]
                  show (w.heap.modify L.blk _)[q.block]? = _
                  rw [Array.getElem?_eq_none (by rw [Array.size_modify]; exact hl)]
                simp only [World.cell?, this, Array.getElem?_eq_none hl]
          obtain ⟨β', hF, hW, hβ, _⟩ := hw.upd (w' := w.freeze ⟨A.block, C.size, none⟩ 1) ⟨rfl, rfl, rfl⟩ id (o' := .arr z els g' false) (L' := L) hobj rfl hL hsize hrest (.inl rfl) (.inl rfl) (by
            intro β' _ _ _
            obtain ⟨o1, o2, o3, o4, o5, o6, _, o8⟩ := hO
            refine ⟨o1, o2, o3, o4, o5, o6, ⟨C, E, _, hnew, hsz, ?_⟩, fun i el hi j c hj => ?_⟩
            · have hfz' : lo = hi ∨ L.csz ≤ lo := hfz
              by_cases hlh : lo = hi
              · subst hlh
                simp only [beq_self_eq_true, if_true]
                exact .inr (by omega)
              · have : (lo == hi) = false := by simpa using hlh
                simp only [this, Bool.false_eq_true, if_false]
                exact .inr (by omega)
            · rw [hcell]
              obtain ⟨q, q1, q2, q3⟩ := o8 i el hi j c hj
              exact ⟨q, q1, q2, q3⟩)
          have hset : h.set id (.arr z els g' false) = h := by
            apply List.ext_getElem?
            intro i
            rw [List.getElem?_set]
            split
            · rename_i hi; subst hi
              split
              · exact hobj.symm
              · rename_i hn; rw [List.getElem?_eq_none (by omega)]
            · rfl
          rw [hset] at hW
          exact ⟨_, _, _, _, .inl hgo, hF, hW, .own A cap id g off len ex L hβ hb hgl hA hc hx⟩
      · cases hs
    · cases hs
  · cases hs

end Go.Vm
