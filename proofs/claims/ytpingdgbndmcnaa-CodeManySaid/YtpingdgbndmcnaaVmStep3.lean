/-
  Vm: the plain steps are the machine's (own work), third part: texts, parts of structs, reading.
-/
import Derived.Test.YtpingdgbndmcnaaVmStep2
namespace Go.Vm
open Go Go.RowKit
set_option linter.unusedVariables false
set_option linter.unusedSimpArgs false

variable {P : Program} {prot : Nat → Prop} {σ : Stab} {β : Nat → Option Loc} {h : Heap} {w : World} {a : Act} {s : List VV}

theorem add_spot {A : Addr} (hs : A.spot = none) (n : Nat) : A.add n = ⟨A.block, A.off + n, none⟩ := by
  obtain ⟨b, o, sp⟩ := A
  simp at hs; subst hs
  unfold Addr.add
  split
  · rename_i e; subst e; rfl
  · rfl

theorem info_of_sz {t : TypeId} {n : Nat} (h : szOf P t = some n) : ∃ i, P.info? t = some i ∧ i.size = n := by
  unfold szOf at h
  cases hi : P.info? t with
  | none => rw [hi] at h; cases h
  | some i => rw [hi] at h; cases h; exact ⟨i, rfl, rfl⟩

theorem run_typeInfo {t : TypeId} {i : TypeInfo} (hi : P.info? t = some i) (w : World) : (typeInfo t).run P w = .ok i w := by
  unfold typeInfo
  rw [run_bind_ok (x := P) (w1 := w) rfl]
  simp [hi]

theorem run_sizeOf {t : TypeId} {n : Nat} (h : szOf P t = some n) (w : World) : (sizeOf t).run P w = .ok n w := by
  obtain ⟨i, hi, rfl⟩ := info_of_sz h
  unfold sizeOf
  rw [run_bind_ok (run_typeInfo hi w)]; rfl

theorem run_isAgg {t : TypeId} {b : Bool} (h : agOf P t = some b) (w : World) : (isAgg t).run P w = .ok b w := by
  unfold agOf at h
  split at h
  · rename_i hu; cases h; unfold isAgg; rw [run_bind_ok (run_under hu w)]; rfl
  · rename_i hu; cases h; unfold isAgg; rw [run_bind_ok (run_under hu w)]; rfl
  · rename_i d h1 h2 hu
    cases h
    unfold isAgg; rw [run_bind_ok (run_under hu w)]
    cases d <;> first | rfl | (exact absurd rfl (h1 _ )) | (exact absurd rfl (h2 _ _))
  · cases h

/-- Cells of a struct's or an array's value. -/
theorem ldCells_agg {vs : Array Value} {cells : List VV} {ag : Bool} {n off : Nat} {v : VV} (hn : vs.size = cells.length) (hk : ∀ c ∈ cells, isCell c = true)
    (hr : ∀ (i : Nat) (v : Value) (c : VV), vs[i]? = some v → cells[i]? = some c → VR σ β v c) (hl : ldCells ag n ((cells.drop off).take n) = some v) (h1 : ag = true ∨ n = 1) :
    (ag = true → VR σ β (.agg (vs.extract off (off + n))) v) ∧ (ag = false → ∃ x, vs[off]? = some x ∧ VR σ β x v) := by
  unfold ldCells at hl
  split at hl
  · rename_i hlen
    have hb : off + n ≤ cells.length ∨ n = 0 := by simp at hlen; omega
    cases ag with
    | true =>
      simp at hl
      subst hl
      refine ⟨fun _ => .agg _ _ ?_ (fun c hc => hk c (List.mem_of_mem_drop (List.mem_of_mem_take hc))) (fun i v c hv hc => ?_), fun e => by cases e⟩
      · rw [hlen]
        rcases hb with hb | hb
        · simp [hn]; omega
        · subst hb; simp; omega
      · rw [List.getElem?_take] at hc
        split at hc
        · rw [List.getElem?_drop] at hc
          refine hr (off + i) v c ?_ hc
          rw [Array.getElem?_extract] at hv
          split at hv
          · exact hv
          · cases hv
        · cases hc
    | false =>
      simp at hl
      refine ⟨fun e => (by cases e), fun _ => ?_⟩
      have hn1 : n = 1 := by simpa using h1
      subst hn1
      split at hl
      · rename_i c' hc
        cases hl
        have hc0 : cells[off]? = some v := by
          have := congrArg (fun l => l[0]?) hc
          simpa [List.getElem?_take, List.getElem?_drop] using this
        have hlt : off < vs.size := by rw [hn]; exact (List.getElem?_eq_some_iff.1 hc0).1
        exact ⟨vs[off], by simp [hlt], hr off _ _ (by simp [hlt]) hc0⟩
      · cases hl
  · cases hl

theorem sim_fld {o : Oper} {t : TypeId} {x : Operand} {f : Nat} {y : Opd} {fields : Array Field} {fd : Field} {n : Nat} {ag : Bool} {v : VV} {h' : Heap} (ho : o.op = .field t x f) (hd : P.underlying t = some (.struct fields)) (hfd : fields[f]? = some fd)
    (hz : szOf P fd.type = some n) (hg : agOf P fd.type = some ag) (h1 : ag = true ∨ n = 1) (hx : opd x = some y)
    (hs : stepI h (evalO s) (.fld ag fd.offset n y) = some (v, h')) (hf : FR σ β a.tmps s) (hw : WR prot σ β h w) : Sim P o a prot σ β w v h' := by
  have r1 := opd_rel hx hf
  simp only [stepI] at hs
  split at hs
  · rename_i cells e1
    rw [e1] at r1
    cases hl : ldCells ag n ((cells.drop fd.offset).take n) with
    | none => rw [hl] at hs; cases hs
    | some u =>
      rw [hl] at hs; cases hs
      generalize hX : a.eval x = X at r1
      cases r1 with
      | agg vs _ hn hk hr =>
        obtain ⟨q1, q2⟩ := ldCells_agg hn hk hr hl h1
        cases ag with
        | true =>
          refine .pure hw (rv := .agg (vs.extract fd.offset (fd.offset + n))) ?_ (q1 rfl)
          unfold execOp; rw [ho]
          simp [hX, Instr.field, run_under hd, hfd, part, run_isAgg hg, run_sizeOf hz, asAgg]
        | false =>
          obtain ⟨z, hz1, hz2⟩ := q2 rfl
          refine .pure hw (rv := z) ?_ hz2
          unfold execOp; rw [ho]
          simp [hX, Instr.field, run_under hd, hfd, part, run_isAgg hg, asAgg, hz1]
  · cases hs

theorem intV_rel {v : Value} {u : VV} {n : Int} (hr : VR σ β v u) (hi : intV u = some n) : ∃ k, v = .int k n := by
  unfold intV at hi
  split at hi
  · cases hi; exact ⟨_, scalar_of hr⟩
  · cases hi

theorem sim_ixA {o : Oper} {t : TypeId} {x i : Operand} {x' i' : Opd} {n z : Nat} {e : TypeId} {ag : Bool} {v : VV} {h' : Heap} (ho : o.op = .index t x i) (hd : P.underlying t = some (.array n e))
    (hz : szOf P e = some z) (hg : agOf P e = some ag) (h1 : ag = true ∨ z = 1) (hx : opd x = some x') (hi : opd i = some i')
    (hs : stepI h (evalO s) (.ixA ag n z x' i') = some (v, h')) (hf : FR σ β a.tmps s) (hw : WR prot σ β h w) : Sim P o a prot σ β w v h' := by
  have r1 := opd_rel hx hf
  have r2 := opd_rel hi hf
  simp only [stepI] at hs
  split at hs
  · rename_i j cells e1 e2
    rw [e2] at r1
    obtain ⟨k, hk⟩ := intV_rel r2 e1
    split at hs
    · rename_i hb
      cases hl : ldCells ag z ((cells.drop (j.toNat * z)).take z) with
      | none => rw [hl] at hs; cases hs
      | some u =>
        rw [hl] at hs; cases hs
        generalize hX : a.eval x = X at r1
        cases r1 with
        | agg vs _ hn hk' hr =>
          obtain ⟨q1, q2⟩ := ldCells_agg hn hk' hr hl h1
          cases ag with
          | true =>
            refine .pure hw (rv := .agg (vs.extract (j.toNat * z) (j.toNat * z + z))) ?_ (q1 rfl)
            unfold execOp; rw [ho]
            simp [hX, hk, Instr.index, run_under hd, asIntOf, hb, part, run_isAgg hg, run_sizeOf hz]
          | false =>
            obtain ⟨y, hz1, hz2⟩ := q2 rfl
            refine .pure hw (rv := y) ?_ hz2
            unfold execOp; rw [ho]
            simp [hX, hk, Instr.index, run_under hd, asIntOf, hb, part, run_isAgg hg, run_sizeOf hz, hz1]
    · cases hs
  · cases hs

theorem sim_ixS {o : Oper} {t : TypeId} {x i : Operand} {x' i' : Opd} {v : VV} {h' : Heap} (ho : o.op = .index t x i) (hd : P.underlying t = some .string)
    (hx : opd x = some x') (hi : opd i = some i')
    (hs : stepI h (evalO s) (.ixS x' i') = some (v, h')) (hf : FR σ β a.tmps s) (hw : WR prot σ β h w) : Sim P o a prot σ β w v h' := by
  have r1 := opd_rel hx hf
  have r2 := opd_rel hi hf
  simp only [stepI] at hs
  split at hs
  · rename_i j b e1 e2
    rw [e2] at r1
    obtain ⟨k, hk⟩ := intV_rel r2 e1
    have q := scalar_of r1
    split at hs
    · rename_i hb
      split at hs
      · rename_i c hc
        cases hs
        refine .pure hw ?_ (.sc rfl)
        unfold execOp; rw [ho]
        have hc' : b[j.toNat]? = some c := by
          have hlt := (List.getElem?_eq_some_iff.1 hc).1
          have he := (List.getElem?_eq_some_iff.1 hc).2
          have hlt' : j.toNat < b.size := by simpa using hlt
          rw [getElem?_pos b j.toNat hlt', ← he]
          rfl
        simp [q, hk, Instr.index, run_under hd, asIntOf, hb, hc']
      · cases hs
    · cases hs
  · cases hs

/-- What a bound of a slice expression comes to. -/
theorem bnd_rel {xo : Option Operand} {xo' : Option Opd} {dflt y r : Nat} (hx : opdO xo = some xo') (hf : FR σ β a.tmps s) (hb : bnd (evalO s) xo' dflt y = some r) :
    (xo = none ∧ r = dflt) ∨ ∃ x k, xo = some x ∧ a.eval x = .int k r ∧ r ≤ y := by
  cases xo with
  | none => cases hx; cases hb; exact .inl ⟨rfl, rfl⟩
  | some x =>
    simp only [opdO] at hx
    cases ho : opd x with
    | none => rw [ho] at hx; cases hx
    | some x' =>
      rw [ho] at hx; cases hx
      have r1 := opd_rel ho hf
      simp only [bnd] at hb
      split at hb
      · rename_i i hi
        obtain ⟨k, hk⟩ := intV_rel r1 hi
        split at hb
        · rename_i hc
          cases hb
          refine .inr ⟨x, k, rfl, ?_, by omega⟩
          rw [hk]; congr 1; omega
        · cases hb
      · cases hb

theorem bnd_some {xo : Option Operand} {xo' : Option Opd} (hx : opdO xo = some xo') : xo'.isSome = xo.isSome := by
  cases xo with
  | none => cases hx; rfl
  | some x =>
    simp only [opdO] at hx
    cases ho : opd x with
    | none => rw [ho] at hx; cases hx
    | some x' => rw [ho] at hx; cases hx; rfl

theorem run_sliceBound {k : IntKind} {i : Nat} {y : Nat} (hi : i ≤ y) (code : BoundsCode) (w : World) : (Instr.sliceBound (.int k i) y code).run P w = .ok i w := by
  unfold Instr.sliceBound
  simp [asIntOf]
  omega

/-- The bounds of a slice expression without a third one. -/
theorem run_sliceBounds2 {isSlice : Bool} {len cap : Nat} {lo hi : Option Operand} {lo' hi' : Option Opd} {b l : Nat} (h1 : opdO lo = some lo') (h2 : opdO hi = some hi') (hf : FR σ β a.tmps s)
    (hb : bnd (evalO s) hi' len len = some b) (hl : bnd (evalO s) lo' 0 b = some l) (hc : len ≤ cap) (w : World) : l ≤ b ∧ b ≤ len ∧
    (Instr.sliceBounds isSlice len cap (lo.map a.eval) (hi.map a.eval) none).run P w = .ok (l, b, cap) w := by
  have r1 := bnd_rel h2 hf hb
  have r2 := bnd_rel h1 hf hl
  have hbl : b ≤ len := by rcases r1 with ⟨_, rfl⟩ | ⟨_, _, _, _, h⟩ <;> omega
  have hlb : l ≤ b := by rcases r2 with ⟨_, rfl⟩ | ⟨_, _, _, _, h⟩ <;> omega
  refine ⟨hlb, hbl, ?_⟩
  unfold Instr.sliceBounds
  rcases r1 with ⟨rfl, e⟩ | ⟨x, k, rfl, e, _⟩
  · rcases r2 with ⟨rfl, rfl⟩ | ⟨y, k', rfl, e', _⟩
    · subst e; simp
    · subst e; simp [e', run_sliceBound hlb]
  · rcases r2 with ⟨rfl, rfl⟩ | ⟨y, k', rfl, e', _⟩
    · simp [e, run_sliceBound (P := P) (show b ≤ cap by omega)]
    · simp [e, e', run_sliceBound (P := P) (show b ≤ cap by omega), run_sliceBound hlb]

/-- .. with a third one. -/
theorem run_sliceBounds3 {len cap : Nat} {lo hi mx : Option Operand} {lo' hi' mx' : Option Opd} {b l m : Nat} (h1 : opdO lo = some lo') (h2 : opdO hi = some hi') (h3 : opdO mx = some mx') (hf : FR σ β a.tmps s)
    (hb : bnd (evalO s) hi' len len = some b) (hl : bnd (evalO s) lo' 0 b = some l) (hm : bnd (evalO s) mx' len len = some m) (hmx : mx'.isSome = true) (hmb : m = b) (hh : hi.isSome = true) (hc : len ≤ cap) (w : World) : l ≤ b ∧ b ≤ len ∧
    (Instr.sliceBounds true len cap (lo.map a.eval) (hi.map a.eval) (mx.map a.eval)).run P w = .ok (l, b, b) w := by
  subst hmb
  have r1 := bnd_rel h2 hf hb
  have r2 := bnd_rel h1 hf hl
  have r3 := bnd_rel h3 hf hm
  have hbl : m ≤ len := by rcases r3 with ⟨_, rfl⟩ | ⟨_, _, _, _, h⟩ <;> omega
  have hlb : l ≤ m := by rcases r2 with ⟨_, rfl⟩ | ⟨_, _, _, _, h⟩ <;> omega
  refine ⟨hlb, hbl, ?_⟩
  have hms := bnd_some h3
  rw [hmx] at hms
  unfold Instr.sliceBounds
  rcases r3 with ⟨rfl, e⟩ | ⟨z, kz, rfl, ez, _⟩
  · cases hms
  rcases r1 with ⟨rfl, e⟩ | ⟨x, k, rfl, e, _⟩
  · cases hh
  rcases r2 with ⟨rfl, rfl⟩ | ⟨y, k', rfl, e', _⟩
  · simp [e, ez, run_sliceBound (P := P) (show m ≤ cap by omega), run_sliceBound (P := P) (Nat.le_refl m)]
  · simp [e, e', ez, run_sliceBound (P := P) (show m ≤ cap by omega), run_sliceBound (P := P) (Nat.le_refl m), run_sliceBound hlb]

theorem extract_list (b : ByteArray) (i j : Nat) : b.extract i j = ⟨((b.data.toList.drop i).take (j - i)).toArray⟩ := by
  apply ByteArray.ext
  apply Array.ext'
  simp [ByteArray.data_extract, Array.toList_extract, List.extract]

theorem sim_slS {o : Oper} {t : TypeId} {x : Operand} {lo hi : Option Operand} {x' : Opd} {lo' hi' : Option Opd} {v : VV} {h' : Heap} (ho : o.op = .slice t x lo hi none) (hd : P.underlying t = some .string)
    (hx : opd x = some x') (hlo : opdO lo = some lo') (hhi : opdO hi = some hi')
    (hs : stepI h (evalO s) (.slS x' lo' hi') = some (v, h')) (hf : FR σ β a.tmps s) (hw : WR prot σ β h w) : Sim P o a prot σ β w v h' := by
  have r1 := opd_rel hx hf
  simp only [stepI] at hs
  split at hs
  · rename_i b e1
    rw [e1] at r1
    have q := scalar_of r1
    split at hs
    · rename_i m hm
      split at hs
      · rename_i l hl
        cases hs
        obtain ⟨h1, h2, h3⟩ := run_sliceBounds2 (P := P) (isSlice := false) hlo hhi hf hm hl (Nat.le_refl _) w
        refine .pure hw ?_ (.sc rfl)
        unfold execOp; rw [ho]
        simp [q, Instr.sliceAt, run_under hd, Instr.slice, h3, extract_list]
      · cases hs
    · cases hs
  · cases hs

theorem sim_lenS {o : Oper} {c : Call} {x : Operand} {t : TypeId} {y : Opd} {v : VV} {h' : Heap} (ho : o.op = .call c) (hc : c.callee = .builtin .len) (ha : c.args.toList = [x]) (ht : c.argTypes.toList = [t])
    (hd : P.underlying t = some .string) (h1 : opd x = some y)
    (hs : stepI h (evalO s) (.len true y) = some (v, h')) (hf : FR σ β a.tmps s) (hw : WR prot σ β h w) : Sim P o a prot σ β w v h' := by
  have r1 := opd_rel h1 hf
  have hargs : c.args = #[x] := by rw [← ha]
  have htys : c.argTypes = #[t] := by rw [← ht]
  simp only [stepI, if_true] at hs
  split at hs
  · rename_i n hn
    unfold strLen at hn
    split at hn
    · rename_i b e
      cases hn
      rw [e] at r1
      have q := scalar_of r1
      cases hs
      refine .pure hw ?_ (.sc rfl)
      unfold execOp; rw [ho]
      simp [resolve, hc, hargs, htys, invoke, builtin, Builtin.len_, run_under hd, q, goInt]
    · cases hn
  · cases hs

/-- What is a slice. -/
theorem lenV_rel {v : Value} {u : VV} {n : Nat} (hr : VR σ β v u) (hl : lenV u = some n) : ∃ A cap, v = .slice A n cap ∧ n ≤ cap := by
  unfold lenV at hl
  split at hl
  · cases hl; exact ⟨none, 0, scalar_of hr, Nat.le_refl _⟩
  · cases hl
    cases hr with
    | cv _ _ h1 => cases h1 with
      | sl A cap z els ex f hs hc hx hz hl' hm hr' => exact ⟨some A, cap, rfl, hc⟩
  · cases hl
    cases hr with
    | own A cap id g off len ex L hL hb hg hA hc hx => exact ⟨some A, cap, rfl, hc⟩
  · cases hl
    cases hr with
    | ob A cap id off len z ex L hL hb hs hB hA hcs hc hx hz => exact ⟨some A, cap, rfl, hc⟩
  · cases hl

theorem sim_len {o : Oper} {c : Call} {x : Operand} {t e : TypeId} {y : Opd} {v : VV} {h' : Heap} (ho : o.op = .call c) (hc : c.callee = .builtin .len) (ha : c.args.toList = [x]) (ht : c.argTypes.toList = [t])
    (hd : P.underlying t = some (.slice e)) (h1 : opd x = some y)
    (hs : stepI h (evalO s) (.len false y) = some (v, h')) (hf : FR σ β a.tmps s) (hw : WR prot σ β h w) : Sim P o a prot σ β w v h' := by
  have r1 := opd_rel h1 hf
  have hargs : c.args = #[x] := by rw [← ha]
  have htys : c.argTypes = #[t] := by rw [← ht]
  simp only [stepI, Bool.false_eq_true, if_false] at hs
  split at hs
  · rename_i n hn
    obtain ⟨A, cap, e1, _⟩ := lenV_rel r1 hn
    cases hs
    refine .pure hw ?_ (.sc rfl)
    unfold execOp; rw [ho]
    simp [resolve, hc, hargs, htys, invoke, builtin, Builtin.len_, run_under hd, e1, goInt]
  · cases hs

end Go.Vm
