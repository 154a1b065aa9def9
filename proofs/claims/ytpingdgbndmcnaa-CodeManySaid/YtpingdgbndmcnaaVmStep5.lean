/-
  Vm: the plain steps are the machine's (own work), fifth part: addresses, loads, slices.
-/
import Derived.Test.YtpingdgbndmcnaaVmStep4
namespace Go.Vm
open Go Go.RowKit
set_option linter.unusedVariables false
set_option linter.unusedSimpArgs false

variable {P : Program} {prot : Nat → Prop} {σ : Stab} {β : Nat → Option Loc} {h : Heap} {w : World} {a : Act} {s : List VV}

theorem one_of {v : Value} {u : VV} (hr : VR σ β v u) (hc : isCell u = true) : v.oneCell' = true := by
  cases hr with
  | cv v c h1 => cases h1 with
    | sc _ hs => cases v <;> first | rfl | cases hs
    | sl => rfl
  | agg => cases hc
  | tup => cases hc
  | undef => cases hc
  | _ => rfl

theorem cells_one {v : Value} (h : v.oneCell' = true) : v.cells = #[v] := by
  cases v <;> first | rfl | cases h

/-- A value's cells. -/
theorem cells_rel {v : Value} {u : VV} {cs : List VV} (hr : VR σ β v u) (hc : cellsOf u = some cs) : v.cells.size = cs.length ∧ (∀ c ∈ cs, isCell c = true) ∧ ∀ (i : Nat) (x : Value) (c : VV), v.cells[i]? = some x → cs[i]? = some c → VR σ β x c := by
  by_cases hk : isCell u = true
  · have he : cs = [u] := by cases u <;> simp [cellsOf] at hc <;> first | exact hc.symm | (cases hk; done)
    subst he
    rw [cells_one (one_of hr hk)]
    refine ⟨rfl, fun c h => by simp at h; subst h; exact hk, fun i x c hx hc => ?_⟩
    cases i with
    | zero => simp at hx hc; subst hx hc; exact hr
    | succ i => simp at hc
  · cases u <;> simp [isCell] at hk <;> simp [cellsOf] at hc
    subst hc
    cases hr with
    | agg vs _ hn hk hr => exact ⟨hn, hk, hr⟩

theorem sim_addr {o : Oper} {rv : Value} {v : VV} (hw : WR prot σ β h w) {m : Sem Value} (ho : execOp a.eval o = (do let x ← m; pure (Next.value x))) (hm : m.run P w = .ok rv w) (hv : VR σ β rv v) : Sim P o a prot σ β w v h :=
  .pure hw (by rw [ho, run_bind_ok hm]; rfl) hv

theorem sim_fad {o : Oper} {t : TypeId} {x : Operand} {f : Nat} {y : Opd} {fields : Array Field} {fd : Field} {n : Nat} {v : VV} {h' : Heap} (ho : o.op = .fieldAddr t x f) (hd : P.underlying t = some (.struct fields)) (hfd : fields[f]? = some fd)
    (hz : szOf P fd.type = some n) (hn : 0 < n) (hx : opd x = some y)
    (hs : stepI h (evalO s) (.fad fd.offset y) = some (v, h')) (hf : FR σ β a.tmps s) (hw : WR prot σ β h w) : Sim P o a prot σ β w v h' := by
  have r1 := opd_rel hx hf
  have key : ∀ A u, a.eval x = .pointer (some A) → h' = h → v = u → VR σ β (.pointer (some (A.add fd.offset))) u → Sim P o a prot σ β w v h' := by
    intro A u hA e1 e2 hv
    subst e1 e2
    refine sim_addr (rv := .pointer (some (A.add fd.offset))) hw (m := Instr.fieldAt t (a.eval x) f) (by unfold execOp; rw [ho]) ?_ hv
    simp [Instr.fieldAt, run_under hd, hfd, hA, Instr.sureAddr, fieldPlace, run_sizeOf hz, show ¬ n = 0 by omega]
  simp only [stepI] at hs
  split at hs
  · rename_i id off e1
    rw [e1] at r1
    cases hs
    generalize hX : a.eval x = X at r1
    cases r1 with
    | ptr _ _ L hL hb =>
      refine key _ _ hX rfl rfl ?_
      rw [add_spot rfl]
      exact .ptr id _ L hL hb
  · rename_i id g i off e1
    rw [e1] at r1
    cases hs
    generalize hX : a.eval x = X at r1
    cases r1 with
    | eptr A _ _ _ _ L hL hb hg hA =>
      refine key _ _ hX rfl rfl (.eptr _ id g i _ L hL hb hg fun e => ?_)
      rw [hA e, add_spot rfl]; simp only [Addr.mk.injEq, true_and, and_true]; omega
  · rename_i cells e1
    rw [e1] at r1
    cases hs
    generalize hX : a.eval x = X at r1
    cases r1 with
    | rptr A _ fn hs hm hr =>
      refine key _ _ hX rfl rfl ?_
      rw [add_spot hs]
      refine .rptr _ _ (fun j => fn (fd.offset + j)) rfl (fun j c hj => ?_) (fun j c hj => ?_)
      · rw [List.getElem?_drop] at hj; rw [← hm _ c hj]; simp [Nat.add_assoc]
      · rw [List.getElem?_drop] at hj; exact hr _ c hj
  · cases hs

theorem sim_iadL {o : Oper} {t e : TypeId} {x i : Operand} {x' i' : Opd} {z : Nat} {v : VV} {h' : Heap} (ho : o.op = .indexAddr t x i) (hd : P.underlying t = some (.slice e)) (hz : szOf P e = some z) (hz0 : 0 < z) (hx : opd x = some x') (hi : opd i = some i')
    (hs : stepI h (evalO s) (.iadL z x' i') = some (v, h')) (hf : FR σ β a.tmps s) (hw : WR prot σ β h w) : Sim P o a prot σ β w v h' := by
  have r1 := opd_rel hx hf
  have r2 := opd_rel hi hf
  simp only [stepI] at hs
  split at hs
  · rename_i j hj
    obtain ⟨k, hk⟩ := intV_rel r2 hj
    split at hs
    · rename_i hj0
      have key : ∀ A n cap u, a.eval x = .slice (some A) n cap → j.toNat < n → h' = h → v = u → VR σ β (.pointer (some (A.add (j.toNat * z)))) u → Sim P o a prot σ β w v h' := by
        intro A n cap u hA hlt e1 e2 hv
        subst e1 e2
        refine sim_addr (rv := .pointer (some (A.add (j.toNat * z)))) hw (m := Instr.indexAt t (a.eval x) (a.eval i)) (by unfold execOp; rw [ho]) ?_ hv
        have : 0 ≤ j ∧ j < n := ⟨hj0, by omega⟩
        simp [Instr.indexAt, run_under hd, hA, hk, asIntOf, this, run_sizeOf hz]
      split at hs
      · rename_i z' els ex e1
        rw [e1] at r1
        split at hs
        · rename_i hzz; subst hzz
          split at hs
          · rename_i el hel
            cases hs
            generalize hX : a.eval x = X at r1
            cases r1 with
            | cv _ _ h1 => cases h1 with
              | sl A cap _ _ _ fn hs hc hx hz' hl hm hr =>
                have hs0 : A.spot = none := hs.resolve_left (by have := (List.getElem?_eq_some_iff.1 hel).1; omega)
                refine key _ _ _ _ hX (List.getElem?_eq_some_iff.1 hel).1 rfl rfl ?_
                rw [add_spot hs0]
                exact .rptr _ _ (fun q => fn j.toNat q) rfl (fun q c hq => hm _ _ hel q c hq) (fun q c hq => hr _ _ hel q c hq)
          · cases hs
        · cases hs
      · rename_i id g off len ex e1
        rw [e1] at r1
        split at hs
        · rename_i z' els g' fr hobj
          split at hs
          · rename_i hcond
            obtain ⟨hzz, hg, hlt⟩ := hcond
            subst hzz
            cases hs
            obtain ⟨L, hL, hO⟩ := hw.obj id _ hobj
            obtain ⟨o1, o2, o3, o4, o5, o6, o7, o8⟩ := hO
            generalize hX : a.eval x = X at r1
            cases r1 with
            | own A cap _ _ _ _ _ L' hL' hb' hg' hA hc hx =>
              rw [hL] at hL'; cases hL'
              refine key _ _ _ _ hX hlt rfl rfl ?_
              refine .eptr _ id g _ _ L hL hb' hg' fun e => ?_
              obtain ⟨a1, a2, a3, a4⟩ := hA e
              rw [add_spot a1, a2]
              rcases a3 with a3 | a3
              · omega
              · rw [a3, o3, Nat.add_mul]; congr 1; omega
          · cases hs
        · cases hs
      · rename_i id off len z' ex e1
        rw [e1] at r1
        split at hs
        · rename_i hcond
          obtain ⟨hzz, hlt⟩ := hcond
          subst hzz
          cases hs
          generalize hX : a.eval x = X at r1
          cases r1 with
          | ob A cap _ _ _ _ _ L hL hb hs hB hA hcs hc hx hz =>
            refine key _ _ _ _ hX hlt rfl rfl ?_
            rw [add_spot hs]
            have : (⟨A.block, A.off + j.toNat * z', none⟩ : Addr) = ⟨L.blk, off + j.toNat * z', none⟩ := by
              rcases hA with hA | hA
              · omega
              · rw [hA, hB]
            rw [this]
            exact .ptr id _ L hL hb
        · cases hs
      · cases hs
    · cases hs
  · cases hs

theorem sim_iadA {o : Oper} {t e : TypeId} {x i : Operand} {x' i' : Opd} {n z : Nat} {v : VV} {h' : Heap} (ho : o.op = .indexAddr t x i) (hd : P.underlying t = some (.array n e)) (hz : szOf P e = some z) (hz0 : 0 < z) (hx : opd x = some x') (hi : opd i = some i')
    (hs : stepI h (evalO s) (.iadA n z x' i') = some (v, h')) (hf : FR σ β a.tmps s) (hw : WR prot σ β h w) : Sim P o a prot σ β w v h' := by
  have r1 := opd_rel hx hf
  have r2 := opd_rel hi hf
  simp only [stepI] at hs
  split at hs
  · rename_i j hj
    obtain ⟨k, hk⟩ := intV_rel r2 hj
    split at hs
    · rename_i hj0
      have key : ∀ A u, a.eval x = .pointer (some A) → h' = h → v = u → VR σ β (.pointer (some (A.add (j.toNat * z)))) u → Sim P o a prot σ β w v h' := by
        intro A u hA e1 e2 hv
        subst e1 e2
        refine sim_addr (rv := .pointer (some (A.add (j.toNat * z)))) hw (m := Instr.indexAt t (a.eval x) (a.eval i)) (by unfold execOp; rw [ho]) ?_ hv
        simp [Instr.indexAt, run_under hd, hA, hk, asIntOf, hj0, Instr.sureAddr, run_sizeOf hz]
      split at hs
      · rename_i id off e1
        rw [e1] at r1
        cases hs
        generalize hX : a.eval x = X at r1
        cases r1 with
        | ptr _ _ L hL hb =>
          refine key _ _ hX rfl rfl ?_
          rw [add_spot rfl]
          exact .ptr id _ L hL hb
      · rename_i id g q off e1
        rw [e1] at r1
        cases hs
        generalize hX : a.eval x = X at r1
        cases r1 with
        | eptr A _ _ _ _ L hL hb hg hA =>
          refine key _ _ hX rfl rfl (.eptr _ id g q _ L hL hb hg fun e => ?_)
          rw [hA e, add_spot rfl]; simp only [Addr.mk.injEq, true_and, and_true]; omega
      · rename_i cells e1
        rw [e1] at r1
        cases hs
        generalize hX : a.eval x = X at r1
        cases r1 with
        | rptr A _ fn hs hm hr =>
          refine key _ _ hX rfl rfl ?_
          rw [add_spot hs]
          refine .rptr _ _ (fun q => fn (j.toNat * z + q)) rfl (fun q c hq => ?_) (fun q c hq => ?_)
          · rw [List.getElem?_drop] at hq; rw [← hm _ c hq]; simp [Nat.add_assoc]
          · rw [List.getElem?_drop] at hq; exact hr _ c hq
      · cases hs
    · cases hs
  · cases hs

/-- Reading a variable. -/
theorem run_loadVar_cells {t : TypeId} {B : Addr} {n : Nat} {ag : Bool} {cs : List VV} {v : VV} (hB : B.spot = none) (hz : szOf P t = some n) (hg : agOf P t = some ag) (h1 : ag = true ∨ n = 1)
    (hk : ∀ c ∈ cs, isCell c = true) (hm : ∀ (j : Nat) (c : VV), cs[j]? = some c → ∃ x, w.cell? ⟨B.block, B.off + j, none⟩ = some x ∧ VR σ β x c) (hl : ldCells ag n cs = some v) :
    ∃ rv, (loadVar t B).run P w = .ok rv w ∧ VR σ β rv v := by
  unfold ldCells at hl
  split at hl
  · rename_i hlen
    cases ag with
    | true =>
      simp at hl; subst hl
      refine ⟨.agg ((List.range n).map fun j => (w.cell? ⟨B.block, B.off + j, none⟩).getD undef).toArray, ?_, .agg _ _ (by simp [hlen]) hk (fun i v c hv hc => ?_)⟩
      · unfold loadVar
        rw [run_bind_ok (run_isAgg hg w)]
        simp only [if_true]
        rw [run_bind_ok (run_sizeOf hz w), run_bind_ok (run_loadCells w B n (fun j => (w.cell? ⟨B.block, B.off + j, none⟩).getD undef) fun j hj => ?_)]
        · rfl
        · obtain ⟨x, hx, _⟩ := hm j cs[j] (by simp [hlen, hj])
          rw [add_spot hB, hx]; rfl
      · obtain ⟨x, hx, hr⟩ := hm i c hc
        have hi : i < n := by rw [← hlen]; exact (List.getElem?_eq_some_iff.1 hc).1
        simp [hi] at hv
        rw [hx] at hv
        simp at hv; subst hv
        exact hr
    | false =>
      simp at hl
      have hn1 : n = 1 := by simpa using h1
      subst hn1
      split at hl
      · cases hl
        obtain ⟨x, hx, hr⟩ := hm 0 v rfl
        refine ⟨x, ?_, hr⟩
        unfold loadVar
        rw [run_bind_ok (run_isAgg hg w)]
        simp only [Bool.false_eq_true, if_false]
        have hx' : w.cell? B = some x := by
          obtain ⟨b, o, sp⟩ := B
          simp at hB; subst hB
          simpa using hx
        simp [hx']
      · cases hl
  · cases hl

theorem sim_ld {o : Oper} {t : TypeId} {x : Operand} {y : Opd} {n : Nat} {ag : Bool} {v : VV} {h' : Heap} (ho : o.op = .load t x) (hz : szOf P t = some n) (hg : agOf P t = some ag) (h1 : ag = true ∨ n = 1) (hx : opd x = some y)
    (hs : stepI h (evalO s) (.ld ag n y) = some (v, h')) (hf : FR σ β a.tmps s) (hw : WR prot σ β h w) : Sim P o a prot σ β w v h' := by
  have r1 := opd_rel hx hf
  have key : ∀ B cs, a.eval x = .pointer (some B) → B.spot = none → (∀ c ∈ cs, isCell c = true) → (∀ (j : Nat) (c : VV), cs[j]? = some c → ∃ x, w.cell? ⟨B.block, B.off + j, none⟩ = some x ∧ VR σ β x c) →
      (ldCells ag n cs).map (·, h) = some (v, h') → Sim P o a prot σ β w v h' := by
    intro B cs hB hsp hk hm hl
    cases hl2 : ldCells ag n cs with
    | none => rw [hl2] at hl; cases hl
    | some u =>
      rw [hl2] at hl; cases hl
      obtain ⟨rv, hrun, hv⟩ := run_loadVar_cells (P := P) hsp hz hg h1 hk hm hl2
      refine sim_addr (rv := rv) hw (m := Instr.loadAt t (a.eval x)) (by unfold execOp; rw [ho]) ?_ hv
      simp only [Instr.loadAt, hB, Instr.sureAddr]
      rw [run_bind_ok (x := B) (w1 := w) rfl]; exact hrun
  have take_sub : ∀ {α : Type} (l : List α) (off n j : Nat) (c : α), ((l.drop off).take n)[j]? = some c → l[off + j]? = some c := by
    intro α l off n j c hj
    rw [List.getElem?_take] at hj
    split at hj
    · rwa [List.getElem?_drop] at hj
    · cases hj
  simp only [stepI] at hs
  split at hs
  · rename_i id off e1
    rw [e1] at r1
    split at hs
    · rename_i cells fr hobj
      obtain ⟨L, hL, hO⟩ := hw.obj id _ hobj
      obtain ⟨o1, o2, o3, o4, o5, o6, o7⟩ := hO
      generalize hX : a.eval x = X at r1
      cases r1 with
      | ptr _ _ L' hL' hb =>
        rw [hL] at hL'; cases hL'
        refine key _ _ hX rfl (fun c hc => o5 c (List.mem_of_mem_drop (List.mem_of_mem_take hc))) (fun j c hj => ?_) hs
        obtain ⟨x, hx1, hx2, _⟩ := o7 _ c (take_sub _ _ _ _ _ hj)
        exact ⟨x, hx1, hx2⟩
    · cases hs
  · rename_i id g i off e1
    rw [e1] at r1
    split at hs
    · rename_i z els g' fr hobj
      split at hs
      · rename_i hgg
        split at hs
        · rename_i e he
          obtain ⟨L, hL, hO⟩ := hw.obj id _ hobj
          obtain ⟨o1, o2, o3, o4, o5, o6, o7, o8⟩ := hO
          generalize hX : a.eval x = X at r1
          cases r1 with
          | eptr A _ _ _ _ L' hL' hb hg' hA =>
            rw [hL] at hL'; cases hL'
            have hA' := hA (by rw [o2]; exact hgg)
            subst hA'
            refine key _ _ hX rfl (fun c hc => ?_) (fun j c hj => ?_) hs
            · simp only [List.mem_map] at hc
              obtain ⟨q, _, rfl⟩ := hc; rfl
            · rw [List.getElem?_map] at hj
              cases hq : ((e.drop off).take n)[j]? with
              | none => rw [hq] at hj; cases hj
              | some q =>
                rw [hq] at hj; cases hj
                obtain ⟨x, hx1, hx2, _⟩ := o8 i e he _ q (take_sub _ _ _ _ _ hq)
                refine ⟨x, ?_, .cv _ _ hx2⟩
                rw [← hx1, o3]; congr 2
                simp only; omega
        · cases hs
      · cases hs
    · cases hs
  · rename_i cells e1
    rw [e1] at r1
    generalize hX : a.eval x = X at r1
    cases r1 with
    | rptr A _ fn hs' hm hr =>
      refine key _ _ hX hs' (fun c hc => ?_) (fun j c hj => ?_) hs
      · simp only [List.mem_map] at hc
        obtain ⟨q, _, rfl⟩ := hc; rfl
      · rw [List.getElem?_map] at hj
        cases hq : (cells.take n)[j]? with
        | none => rw [hq] at hj; cases hj
        | some q =>
          rw [hq] at hj; cases hj
          rw [List.getElem?_take] at hq
          split at hq
          · exact ⟨fn j, hw.stab _ _ (hm j q hq), .cv _ _ (hr j q hq)⟩
          · cases hq
  · cases hs

theorem sim_slA {o : Oper} {t e : TypeId} {x : Operand} {lo hi : Option Operand} {x' : Opd} {lo' hi' : Option Opd} {n z : Nat} {v : VV} {h' : Heap} (ho : o.op = .slice t x lo hi none) (hd : P.underlying t = some (.array n e)) (hz : szOf P e = some z) (hz0 : 0 < z)
    (hx : opd x = some x') (hlo : opdO lo = some lo') (hhi : opdO hi = some hi')
    (hs : stepI h (evalO s) (.slA n z x' lo' hi') = some (v, h')) (hf : FR σ β a.tmps s) (hw : WR prot σ β h w) : Sim P o a prot σ β w v h' := by
  have r1 := opd_rel hx hf
  simp only [stepI] at hs
  split at hs
  · rename_i id off e1
    rw [e1] at r1
    split at hs
    · rename_i b hb
      split at hs
      · rename_i l hl
        split at hs
        · rename_i cells fr hobj
          split at hs
          · rename_i hsz
            cases hs
            obtain ⟨h1, h2, h3⟩ := run_sliceBounds2 (P := P) (isSlice := false) hlo hhi hf hb hl (Nat.le_refl n) w
            obtain ⟨L, hL, hO⟩ := hw.obj id _ hobj
            obtain ⟨o1, o2, o3, o4, o5, o6, o7⟩ := hO
            generalize hX : a.eval x = X at r1
            cases r1 with
            | ptr _ _ L' hL' hb' =>
              rw [hL] at hL'; cases hL'
              refine sim_addr (rv := .slice (some (if n = l then ⟨L.blk, off, none⟩ else (⟨L.blk, off, none⟩ : Addr).add (l * z))) (b - l) (n - l)) hw (m := Instr.sliceAt t (a.eval x) (lo.map a.eval) (hi.map a.eval) none) (by unfold execOp; rw [ho]; rfl) ?_ ?_
              · simp [Instr.sliceAt, run_under hd, hX, Instr.sureAddr, h3, run_sizeOf hz]
              · refine .ob _ _ id _ _ z _ L hL o1 ?_ ?_ ?_ ?_ (by omega) (fun e => ?_) hz0
                · split
                  · rfl
                  · rw [add_spot rfl]
                · split
                  · rfl
                  · rw [add_spot rfl]
                · split
                  · left; omega
                  · right; rw [add_spot rfl]
                · rw [o4]
                  have : off + l * z + (n - l) * z = off + n * z := by
                    rw [Nat.add_assoc, ← Nat.add_mul]; congr 2; omega
                  omega
                · have : b = n := by simpa using e
                  omega
          · cases hs
        · cases hs
      · cases hs
    · cases hs
  · cases hs

theorem sim_slL {o : Oper} {t e : TypeId} {x : Operand} {lo hi mx : Option Operand} {x' : Opd} {lo' hi' mx' : Option Opd} {z : Nat} {v : VV} {h' : Heap} (ho : o.op = .slice t x lo hi mx) (hd : P.underlying t = some (.slice e)) (hz : szOf P e = some z) (hz0 : 0 < z)
    (hx : opd x = some x') (hlo : opdO lo = some lo') (hhi : opdO hi = some hi') (hmx : opdO mx = some mx') (hmh : mx.isSome = true → hi.isSome = true)
    (hs : stepI h (evalO s) (.slL z x' lo' hi' mx') = some (v, h')) (hf : FR σ β a.tmps s) (hw : WR prot σ β h w) : Sim P o a prot σ β w v h' := by
  have r1 := opd_rel hx hf
  simp only [stepI] at hs
  split at hs
  · rename_i n hn
    obtain ⟨A0, cap0, hA0, hcap0⟩ := lenV_rel r1 hn
    split at hs
    · rename_i b hb
      split at hs
      · rename_i l hl
        split at hs
        · rename_i m hm
          split at hs
          · cases hs
          · rename_i hmb
            -- what the machine does
            have hrun : ∃ M, l ≤ b ∧ b ≤ n ∧ b ≤ M ∧ M ≤ cap0 ∧ (mx'.isSome = true → M = b) ∧ (mx'.isSome = false → M = cap0) ∧
                (Instr.sliceAt t (a.eval x) (lo.map a.eval) (hi.map a.eval) (mx.map a.eval)).run P w = .ok (.slice (if M = l then A0 else A0.map (·.add (l * z))) (b - l) (M - l)) w := by
              by_cases hmm : mx'.isSome = true
              · have hmb' : m = b := by
                  rcases Nat.decEq m b with e | e
                  · exact absurd ⟨hmm, e⟩ hmb
                  · exact e
                have hms := bnd_some hmx
                obtain ⟨h1, h2, h3⟩ := run_sliceBounds3 (P := P) hlo hhi hmx hf hb hl hm hmm hmb' (hmh (by rw [← hms]; exact hmm)) hcap0 w
                refine ⟨b, h1, h2, Nat.le_refl _, by omega, fun _ => rfl, fun e => (by rw [hmm] at e; cases e), ?_⟩
                simp [Instr.sliceAt, run_under hd, hA0, Instr.slice, h3, run_sizeOf hz]
              · have hmm' : mx'.isSome = false := by simpa using hmm
                have hms := bnd_some hmx
                have hmx0 : mx = none := by cases mx <;> simp_all
                subst hmx0
                obtain ⟨h1, h2, h3⟩ := run_sliceBounds2 (P := P) (isSlice := true) hlo hhi hf hb hl hcap0 w
                refine ⟨cap0, h1, h2, by omega, Nat.le_refl _, fun e => (by rw [hmm'] at e; cases e), fun _ => rfl, ?_⟩
                simp [Instr.sliceAt, run_under hd, hA0, Instr.slice, h3, run_sizeOf hz]
            obtain ⟨M, k1, k2, k3, k4, k5, k6, hrun⟩ := hrun
            have key : ∀ u, h' = h → v = u → VR σ β (.slice (if M = l then A0 else A0.map (·.add (l * z))) (b - l) (M - l)) u → Sim P o a prot σ β w v h' := by
              intro u e1 e2 hv
              subst e1 e2
              exact sim_addr hw (m := Instr.sliceAt t (a.eval x) (lo.map a.eval) (hi.map a.eval) (mx.map a.eval)) (by unfold execOp; rw [ho]) hrun hv
            have hex : ∀ ex : Bool, (ex = true → cap0 = n) → (mx'.isSome || (ex && b == n)) = true → M - l = b - l := by
              intro ex he h
              by_cases hmm : mx'.isSome = true
              · rw [k5 hmm]
              · have hmm' : mx'.isSome = false := by simpa using hmm
                rw [hmm'] at h
                simp at h
                rw [k6 hmm', he h.1, h.2]
            split at hs
            · rename_i e1
              rw [e1] at r1
              have q := scalar_of r1
              rw [hA0] at q
              cases q
              cases hs
              refine key _ rfl rfl ?_
              have : M = 0 ∧ l = 0 ∧ b = 0 := by omega
              obtain ⟨rfl, rfl, rfl⟩ := this
              exact .sc rfl
            · rename_i z' els ex e1
              rw [e1] at r1 hn
              split at hs
              · rename_i hzz; subst hzz
                cases hs
                refine key _ rfl rfl ?_
                generalize hX : a.eval x = X at r1
                cases r1 with
                | cv _ _ h1 => cases h1 with
                  | sl A cap _ _ _ fn hs' hc hx hz' hll hm' hr =>
                    rw [hX] at hA0
                    cases hA0
                    have hlen : ((els.drop l).take (b - l)).length = b - l := by simp; omega
                    refine .cv _ _ ?_
                    have := CR.sl (σ := σ) (if M = l then A else A.add (l * z')) (M - l) z' ((els.drop l).take (b - l)) (mx'.isSome || (ex && b == els.length)) (fun i j => fn (l + i) j) ?_ (by omega) (fun e => by rw [hlen]; exact hex ex hx e) hz' (fun e he => hll e (List.mem_of_mem_drop (List.mem_of_mem_take he))) ?_ ?_
                    · rw [hlen] at this
                      split
                      · rename_i e; rw [if_pos e] at this; exact this
                      · rename_i e; rw [if_neg e] at this; exact this
                    · rcases hs' with h0 | hs'
                      · left; omega
                      · right
                        split
                        · exact hs'
                        · rw [add_spot hs']
                    · intro i e hi j c hj
                      rw [List.getElem?_take] at hi
                      split at hi
                      · rename_i hlt
                        rw [List.getElem?_drop] at hi
                        have hs0 : A.spot = none := hs'.resolve_left (by omega)
                        rw [if_neg (by omega), add_spot hs0, ← hm' _ e hi j c hj]
                        congr 2
                        simp only [Nat.add_mul]; omega
                      · cases hi
                    · intro i e hi j c hj
                      rw [List.getElem?_take] at hi
                      split at hi
                      · rw [List.getElem?_drop] at hi
                        exact hr _ e hi j c hj
                      · cases hi
              · cases hs
            · rename_i id g off len ex e1
              rw [e1] at r1 hn
              cases hn
              split at hs
              · rename_i z' els g' fr hobj
                split at hs
                · rename_i hcond
                  obtain ⟨hzz, hg⟩ := hcond
                  subst hzz
                  cases hs
                  refine key _ rfl rfl ?_
                  obtain ⟨L, hL, hO⟩ := hw.obj id _ hobj
                  obtain ⟨o1, o2, o3, o4, o5, o6, o7, o8⟩ := hO
                  generalize hX : a.eval x = X at r1
                  cases r1 with
                  | own A cap _ _ _ _ _ L' hL' hb' hg' hA hc hx =>
                    rw [hX] at hA0
                    cases hA0
                    rw [hL] at hL'; cases hL'
                    have : (if M = l then some A else (some A).map (·.add (l * z'))) = some (if M = l then A else A.add (l * z')) := by split <;> rfl
                    rw [this]
                    refine .own _ _ id g _ _ _ L hL hb' hg' (fun e => ?_) (by omega) (hex ex hx)
                    obtain ⟨a1, a2, a3, a4⟩ := hA e
                    refine ⟨?_, ?_, ?_, ?_⟩
                    · split
                      · exact a1
                      · rw [add_spot a1]
                    · split
                      · exact a2
                      · rw [add_spot a1]; exact a2
                    · split
                      · left; omega
                      · right
                        rw [add_spot a1]
                        rcases a3 with a3 | a3
                        · omega
                        · simp only [a3, o3, Nat.add_mul]; omega
                    · have : L.boff + (off + l + (M - l)) * L.z ≤ L.boff + (off + cap0) * L.z := Nat.add_le_add_left (Nat.mul_le_mul_right _ (by omega)) _
                      omega
                · cases hs
              · cases hs
            · rename_i id off len z' ex e1
              rw [e1] at r1 hn
              cases hn
              split at hs
              · rename_i hzz; subst hzz
                cases hs
                refine key _ rfl rfl ?_
                generalize hX : a.eval x = X at r1
                cases r1 with
                | ob A cap _ _ _ _ _ L hL hb' hs' hB hA hcs hc hx hz' =>
                  rw [hX] at hA0
                  cases hA0
                  have : (if M = l then some A else (some A).map (·.add (l * z'))) = some (if M = l then A else A.add (l * z')) := by split <;> rfl
                  rw [this]
                  refine .ob _ _ id _ _ z' _ L hL hb' ?_ ?_ ?_ ?_ (by omega) (hex ex hx) hz'
                  · split
                    · exact hs'
                    · rw [add_spot hs']
                  · split
                    · exact hB
                    · rw [add_spot hs']; exact hB
                  · split
                    · left; omega
                    · right
                      rw [add_spot hs']
                      rcases hA with hA | hA
                      · omega
                      · simp only [hA]
                  · have h1 : off + l * z' + (M - l) * z' = off + M * z' := by
                      rw [Nat.add_assoc, ← Nat.add_mul]; congr 2; omega
                    have h2 : M * z' ≤ cap0 * z' := Nat.mul_le_mul_right _ k4
                    omega
              · cases hs
            · cases hs
        · cases hs
      · cases hs
    · cases hs
  · cases hs

end Go.Vm
