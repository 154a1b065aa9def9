/-
  Vm: the plain steps are the machine's (own work), seventh part: structs and slices built, made, stores.
-/
import Derived.Test.YtpingdgbndmcnaaVmStep6
namespace Go.Vm
open Go Go.RowKit
set_option linter.unusedVariables false
set_option linter.unusedSimpArgs false

variable {P : Program} {prot : Nat → Prop} {σ : Stab} {β : Nat → Option Loc} {h : Heap} {w : World} {a : Act} {s : List VV}

/-- The parts of a struct or a row, on both sides. -/
inductive PR (place : Nat → Option (Nat × Nat)) : List (Nat × Operand) → List (Nat × Nat × Opd) → Prop
  | nil : PR place [] []
  | cons {i : Nat} {x : Operand} {off sz : Nat} {y : Opd} {ps : List (Nat × Operand)} {qs : List (Nat × Nat × Opd)} (h1 : place i = some (off, sz)) (h2 : opd x = some y) (h : PR place ps qs) : PR place ((i, x) :: ps) ((off, sz, y) :: qs)

theorem fill_rel {place : Nat → Option (Nat × Nat)} {ps : List (Nat × Operand)} {qs : List (Nat × Nat × Opd)} (hp : PR place ps qs) (hf : FR σ β a.tmps s) : ∀ {vs : Array Value} {cs cs' : List VV}, LR σ β vs cs →
    fill cs (qs.map fun p => (p.1, p.2.1, evalO s p.2.2)) = some cs' → ∃ vs', Instr.fill place vs (ps.map fun p => (p.1, a.eval p.2)) = some vs' ∧ LR σ β vs' cs' := by
  induction hp with
  | nil => intro vs cs cs' hL hc; cases hc; exact ⟨vs, rfl, hL⟩
  | @cons i x off sz y ps qs h1 h2 hp ih =>
    intro vs cs cs' hL hc
    simp only [List.map_cons, fill] at hc
    split at hc
    · rename_i us hu
      split at hc
      · rename_i hcond
        obtain ⟨e1, e2⟩ := hcond
        have hr := opd_rel h2 hf
        obtain ⟨c1, c2, c3⟩ := cells_rel hr hu
        have hb : off + us.length ≤ cs.length := by omega
        obtain ⟨vs', g1, g2⟩ := ih (fill_step hL hr hu hb) hc
        refine ⟨vs', ?_, g2⟩
        simp only [List.map_cons, Instr.fill, h1]
        split
        · rename_i hbad
          simp at hbad
          have := hL.1
          omega
        · exact g1
      · cases hc
    · cases hc

theorem partsS_rel {fields : Array Field} : ∀ {ps : List (Nat × Operand)} {qs : List (Nat × Nat × Opd)}, partsS P fields ps = some qs → PR (fun i => (fields[i]?).bind fun f => (szOf P f.type).map fun n => (f.offset, n)) ps qs
  | [], qs, h => by cases h; exact .nil
  | (i, x) :: r, qs, h => by
    simp only [partsS] at h
    split at h
    · rename_i f hf
      split at h
      · rename_i n y l e1 e2 e3
        cases h
        exact .cons (by simp [hf, e1]) e2 (partsS_rel e3)
      · cases h
    · cases h

theorem partsA_rel {z : Nat} : ∀ {ps : List (Nat × Operand)} {qs : List (Nat × Nat × Opd)}, partsA z ps = some qs → PR (fun i => some (i * z, z)) ps qs
  | [], qs, h => by cases h; exact .nil
  | (i, x) :: r, qs, h => by
    simp only [partsA] at h
    split at h
    · rename_i y l e2 e3
      cases h
      exact .cons rfl e2 (partsA_rel e3)
    · cases h

theorem run_places : ∀ (l : List Field), (∀ f ∈ l, (szOf P f.type).isSome = true) → ∀ (w : World), (l.mapM (fun (f : Field) => do pure (f.offset, ← sizeOf f.type)) : Sem (List (Nat × Nat))).run P w = .ok (l.map fun f => (f.offset, (szOf P f.type).getD 0)) w
  | [], _, w => rfl
  | f :: l, h, w => by
    obtain ⟨n, hn⟩ := Option.isSome_iff_exists.1 (h f (by simp))
    have h1 : ((do pure (f.offset, ← sizeOf f.type)) : Sem (Nat × Nat)).run P w = .ok (f.offset, n) w := by rw [run_bind_ok (run_sizeOf hn w)]; rfl
    rw [List.mapM_cons, run_bind_ok h1, run_bind_ok (run_places l (fun g hg => h g (by simp [hg])) w)]
    simp [hn]

theorem LR_zero {z : List CV} {zv : Value} (h1 : zv.cells.size = z.length) (h3 : ∀ (j : Nat) (x : Value) (c : CV), zv.cells[j]? = some x → z[j]? = some c → scalar x = true ∧ c = .sc x) : LR σ β zv.cells (z.map .cv) := by
  refine ⟨by simpa using h1, fun c hc => ?_, fun j x c hx hc => ?_⟩
  · simp only [List.mem_map] at hc
    obtain ⟨q, _, rfl⟩ := hc; rfl
  · rw [List.getElem?_map] at hc
    cases hq : z[j]? with
    | none => rw [hq] at hc; cases hc
    | some q =>
      rw [hq] at hc; cases hc
      obtain ⟨e1, rfl⟩ := h3 j x q hx hq
      exact .sc e1

theorem LR.agg {vs : Array Value} {cs : List VV} (h : LR σ β vs cs) : VR σ β (.agg vs) (.agg cs) := .agg _ _ h.1 h.2.1 h.2.2

theorem sim_buildS {o : Oper} {t : TypeId} {parts : Array (Nat × Operand)} {fields : Array Field} {z : List CV} {l : List (Nat × Nat × Opd)} {v : VV} {h' : Heap} (ho : o.op = .build t parts) (hz : zeroOf P t = some z) (hd : P.underlying t = some (.struct fields))
    (hall : fields.toList.all (fun f => (szOf P f.type).isSome) = true) (hl : partsS P fields parts.toList = some l)
    (hs : stepI h (evalO s) (.build (z.map .cv) l) = some (v, h')) (hf : FR σ β a.tmps s) (hw : WR prot σ β h w) : Sim P o a prot σ β w v h' := by
  obtain ⟨i, zv, hi, hzv, h1, h2, h3⟩ := zeroOf_rel hz
  simp only [stepI] at hs
  split at hs
  · rename_i cs hcs
    cases hs
    obtain ⟨vs', g1, g2⟩ := fill_rel (partsS_rel hl) hf (LR_zero h1 h3) hcs
    refine sim_addr hw (m := Instr.build t (parts.map fun (i, x) => (i, a.eval x))) (by unfold execOp; rw [ho]) ?_ g2.agg
    unfold Instr.build
    have hpl : (fields.mapM (fun (f : Field) => do pure (f.offset, ← sizeOf f.type)) : Sem (Array (Nat × Nat))).run P w = .ok (fields.toList.map fun f => (f.offset, (szOf P f.type).getD 0)).toArray w := by
      rw [Array.mapM_eq_mapM_toList]
      have := run_places (P := P) fields.toList (fun f hf => by simpa using (List.all_eq_true.1 hall f hf)) w
      simp only [Sem.run_map, this]; rfl
    have hfun : (fun (i : Nat) => (fields.toList.map fun (f : Field) => (f.offset, (szOf P f.type).getD 0)).toArray[i]?) = (fun (i : Nat) => (fields[i]?).bind fun (f : Field) => (szOf P f.type).map fun n => (f.offset, n)) := by
      funext i
      simp only [List.getElem?_toArray, List.getElem?_map, Array.getElem?_toList]
      cases hfi : fields[i]? with
      | none => rfl
      | some f =>
        have hm : f ∈ fields.toList := by
          have := Array.mem_of_getElem? hfi
          simpa using this
        obtain ⟨n, hn⟩ := Option.isSome_iff_exists.1 (by simpa using (List.all_eq_true.1 hall f hm))
        simp [hn]
    rw [run_bind_ok (run_zeroValue hi hzv w), run_bind_ok (run_under hd w)]
    simp only []
    rw [run_bind_ok hpl]
    simp only [hfun, Array.toList_map]
    rw [g1]
    rfl
  · cases hs

theorem sim_buildA {o : Oper} {t e : TypeId} {parts : Array (Nat × Operand)} {n k : Nat} {z : List CV} {l : List (Nat × Nat × Opd)} {v : VV} {h' : Heap} (ho : o.op = .build t parts) (hz : zeroOf P t = some z) (hd : P.underlying t = some (.array k e))
    (hn : szOf P e = some n) (hl : partsA n parts.toList = some l)
    (hs : stepI h (evalO s) (.build (z.map .cv) l) = some (v, h')) (hf : FR σ β a.tmps s) (hw : WR prot σ β h w) : Sim P o a prot σ β w v h' := by
  obtain ⟨i, zv, hi, hzv, h1, h2, h3⟩ := zeroOf_rel hz
  simp only [stepI] at hs
  split at hs
  · rename_i cs hcs
    cases hs
    obtain ⟨vs', g1, g2⟩ := fill_rel (partsA_rel hl) hf (LR_zero h1 h3) hcs
    refine sim_addr hw (m := Instr.build t (parts.map fun (i, x) => (i, a.eval x))) (by unfold execOp; rw [ho]) ?_ g2.agg
    unfold Instr.build
    rw [run_bind_ok (run_zeroValue hi hzv w), run_bind_ok (run_under hd w)]
    simp only []
    rw [run_bind_ok (run_sizeOf hn w)]
    simp only [Array.toList_map]
    rw [g1]
    rfl
  · cases hs

theorem flatten_replicate {z : List CV} : ∀ (len k : Nat), k < len * z.length → (List.replicate len z).flatten[k]? = z[k % z.length]?
  | 0, k, h => by omega
  | len + 1, k, h => by
    rw [List.replicate_succ, List.flatten_cons, List.getElem?_append]
    split
    · rename_i hlt; rw [Nat.mod_eq_of_lt hlt]
    · rename_i hge
      rw [Nat.add_mul] at h
      rw [flatten_replicate len (k - z.length) (by omega)]
      congr 1
      conv => rhs; rw [show k = (k - z.length) + z.length by omega]
      rw [Nat.add_mod_right]

theorem LR_repl {z : List CV} {zv : Value} {len : Nat} (h1 : zv.cells.size = z.length) (h3 : ∀ (j : Nat) (x : Value) (c : CV), zv.cells[j]? = some x → z[j]? = some c → scalar x = true ∧ c = .sc x) (N : Nat) (hN : N = len * z.length) (zc : Array Value) (hzc : N ≠ 0 → zc = zv.cells) :
    LR σ β ((Array.range N).map (zc[· % zc.size]!)) (repl len z) := by
  unfold repl
  refine ⟨by simp [hN], fun c hc => ?_, fun j x c hx hc => ?_⟩
  · simp only [List.mem_map] at hc
    obtain ⟨q, _, rfl⟩ := hc; rfl
  · have hj : j < N := by have := (Array.getElem?_eq_some_iff.1 hx).1; simpa using this
    have hzc := hzc (by omega)
    subst hzc
    rw [List.getElem?_map, flatten_replicate _ _ (by omega)] at hc
    have hz0 : 0 < z.length := by
      rcases Nat.eq_zero_or_pos z.length with e | e
      · rw [e] at hN; omega
      · exact e
    have hm : j % z.length < z.length := Nat.mod_lt _ hz0
    simp [hj] at hx
    rw [h1, getElem!_pos zv.cells (j % z.length) (by rw [h1]; exact hm)] at hx
    cases hq : z[j % z.length]? with
    | none => rw [hq] at hc; cases hc
    | some q =>
      rw [hq] at hc; cases hc
      obtain ⟨e1, rfl⟩ := h3 _ x q (by rw [← hx]; simp [h1, hm]) hq
      exact .sc e1

/-- A new row. -/
theorem new_row {C : Array Value} {E : TypeId} {z : Nat} {els : List (List CV)} {len cap : Nat} {w' : World} {fz : Nat × Nat} (own ex : Bool) (hw : WR prot σ β h w) (hc : Calm w w') (hh : w'.heap = w.heap.push (.cells C E fz)) (hfz : fz.1 = fz.2 ∨ C.size ≤ fz.1)
    (hz : 0 < z) (hl : ∀ e ∈ els, e.length = z) (hlen : els.length = len) (hcap : len ≤ cap) (hsz : cap * z ≤ C.size) (hex : ex = true → cap = len)
    (hm : ∀ (i : Nat) (e : List CV), els[i]? = some e → ∀ (j : Nat) (c : CV), e[j]? = some c → ∃ x, C[i * z + j]? = some x ∧ CR σ x c) :
    ∃ σ' β', Fut prot σ β w σ' β' w' ∧ WR prot σ' β' (if own then h ++ [.arr z els 0 false] else h) w' ∧
      VR σ' β' (.slice (some ⟨w.heap.size, 0, none⟩) len cap) (if own then .own h.length 0 0 len ex else .cv (.sl z els ex)) := by
  have hcell : ∀ j x, C[j]? = some x → w'.cell? ⟨w.heap.size, j, none⟩ = some x := by
    intro j x hx
    simp [World.cell?, hh, hx]
  cases own with
  | true =>
    obtain ⟨β', hF, hW, hβ, hext⟩ := hw.new hc hh (.arr z els 0 false) ⟨w.heap.size, 0, 0, z, C.size, false⟩ rfl (by
      intro β' hext
      refine ⟨rfl, rfl, rfl, hz, hl, ?_, ⟨C, E, fz, by simp [hh], rfl, hfz⟩, fun i e hi j c hj => ?_⟩
      · have : els.length * z ≤ cap * z := Nat.mul_le_mul_right _ (by omega)
        simp only; omega
      · obtain ⟨x, hx1, hx2⟩ := hm i e hi j c hj
        exact ⟨x, by simp only [Nat.zero_add]; exact hcell _ _ hx1, hx2, fun e => (by cases e)⟩)
    refine ⟨σ, β', hF, hW, ?_⟩
    exact .own _ _ _ _ _ _ _ _ hβ rfl (Nat.le_refl _) (fun _ => ⟨rfl, rfl, .inr (by simp), by simp only [Nat.zero_add]; exact hsz⟩) hcap hex
  | false =>
    obtain ⟨σ', hF, hW, hnew, hsig⟩ := hw.stay hc hh
    refine ⟨σ', β, hF, hW, .cv _ _ ?_⟩
    have := CR.sl (σ := σ') ⟨w.heap.size, 0, none⟩ cap z els ex (fun i j => (C[i * z + j]?).getD undef) (.inr rfl) (by omega) (fun e => by rw [hlen]; exact hex e) hz hl
      (fun i e hi j c hj => by obtain ⟨x, hx, _⟩ := hm i e hi j c hj; simp only [Nat.zero_add]; rw [hx]; exact hnew _ _ (hcell _ _ hx))
      (fun i e hi j c hj => by obtain ⟨x, hx, hr⟩ := hm i e hi j c hj; rw [hx]; exact hr.mono hsig)
    rw [hlen] at this
    exact this

theorem sim_mksl {o : Oper} {t e : TypeId} {len n : Nat} {parts : Array (Nat × Operand)} {z : List CV} {l : List (Nat × Nat × Opd)} {own : Bool} {v : VV} {h' : Heap} (ho : o.op = .buildSlice t len parts) (hd : P.underlying t = some (.slice e)) (hn : szOf P e = some n) (hz : zeroOf P e = some z)
    (hn0 : 0 < n) (h24 : len * n ≤ 2 ^ 24) (hl : partsA n parts.toList = some l)
    (hs : stepI h (evalO s) (.mksl n len (repl len z) l own) = some (v, h')) (hf : FR σ β a.tmps s) (hw : WR prot σ β h w) : Sim P o a prot σ β w v h' := by
  obtain ⟨i, zv, hi, hzv, h1, h2, h3⟩ := zeroOf_rel hz
  obtain ⟨i', hi', hin⟩ := info_of_sz hn
  rw [hi] at hi'; cases hi'
  have hzl : z.length = n := by omega
  simp only [stepI] at hs
  split at hs
  · rename_i cs hcs
    split at hs
    · rename_i cc h1' hcc
      have hLR := LR_repl (σ := σ) (β := β) (len := len) h1 h3 (len * n) (by rw [hzl]) (if len * n = 0 then #[] else zv.cells) (fun e => by rw [if_neg e])
      obtain ⟨vs', g1, g2⟩ := fill_rel (partsA_rel hl) hf hLR hcs
      have hvl : vs'.size = cs.length := g2.1
      obtain ⟨σ1, hF1, hW1, hlen1, hR1⟩ := closL_rel (vs := vs'.toList) hw (by simpa using hvl) (fun i v u hv hu => g2.2.2 i v u (by simpa using hv) hu) hcc
      have hcslen : cs.length = len * n := by
        have key : ∀ {qs : List (Nat × Nat × VV)} {c1 c2 : List VV}, fill c1 qs = some c2 → c2.length = c1.length := by
          intro qs
          induction qs with
          | nil => intro c1 c2 h; cases h; rfl
          | cons q qs ih =>
            intro c1 c2 h
            obtain ⟨off, sz, u⟩ := q
            simp only [fill] at h
            split at h
            · split at h
              · rename_i hc
                rw [ih h, length_splice _ _ _ (by omega)]
              · cases h
            · cases h
        have := key hcs
        rw [this]
        have := hLR.1
        simp at this; omega
      have hcclen : cc.length = len * n := by rw [hlen1, hcslen]
      obtain ⟨σ2, β2, hF2, hW2, hV2⟩ := new_row (C := vs') (E := e) (z := n) (els := chunk n len cc) (len := len) (cap := len) (w' := { w with heap := w.heap.push (.cells vs' e) }) (fz := (0, 0)) own true hW1 ⟨rfl, rfl, rfl⟩ rfl (.inl rfl) hn0 (chunk_len hcclen) (length_chunk _ _ _) (Nat.le_refl _) (by rw [hvl, hcslen]; exact Nat.le_refl _) (fun _ => rfl)
        (fun i el hi j c hj => by
          obtain ⟨c1, c2⟩ := chunk_cell hi hj
          have hlt : i * n + j < vs'.size := by rw [hvl, hcslen, ← hcclen]; exact (List.getElem?_eq_some_iff.1 c1).1
          exact ⟨vs'[i * n + j], by simp [hlt], hR1 _ _ c (by simp [hlt]) c1⟩)
      have hgo : (execOp a.eval o).run P w = .ok (.value (.slice (some ⟨w.heap.size, 0, none⟩) len len)) { w with heap := w.heap.push (.cells vs' e) } := by
        unfold execOp; rw [ho]
        simp only []
        rw [run_bind_ok (x := .slice (some ⟨w.heap.size, 0, none⟩) len len) (w1 := { w with heap := w.heap.push (.cells vs' e) })]
        · rfl
        · unfold Instr.buildSlice
          rw [run_bind_ok (run_under hd w)]
          simp only []
          rw [run_bind_ok (run_sizeOf hn w)]
          rw [if_neg (by omega)]
          have hpt : (parts.map fun (i, x) => (i, a.eval x)).toList = parts.toList.map fun p => (p.1, a.eval p.2) := by simp
          by_cases hzero : len * n = 0
          · rw [if_pos hzero] at g1 ⊢
            rw [run_bind_ok (x := #[]) (w1 := w) rfl, hpt, g1]; rfl
          · rw [if_neg hzero] at g1 ⊢
            rw [run_bind_ok (run_zeroValue hi hzv w), run_bind_ok (x := zv.cells) (w1 := w) rfl, hpt, g1]; rfl
      cases own with
      | true =>
        simp only [if_true] at hs hW2 hV2
        cases hs
        exact ⟨_, _, σ2, β2, .inl hgo, hF1.trans hF2, hW2, hV2⟩
      | false =>
        simp only [Bool.false_eq_true, if_false] at hs hW2 hV2
        cases hs
        exact ⟨_, _, σ2, β2, .inl hgo, hF1.trans hF2, hW2, hV2⟩
    · cases hs
  · cases hs

theorem sim_mks {o : Oper} {t e : TypeId} {l c : Operand} {l' c' : Opd} {n by_ : Nat} {z : List CV} {own : Bool} {v : VV} {h' : Heap} (ho : o.op = .makeSlice t l c) (hd : P.underlying t = some (.slice e)) (hn : szOf P e = some n) (hby : byOf P e = some by_) (hz : zeroOf P e = some z)
    (hn0 : 0 < n) (hl : opd l = some l') (hc : opd c = some c')
    (hs : stepI h (evalO s) (.mks n by_ z l' c' own) = some (v, h')) (hf : FR σ β a.tmps s) (hw : WR prot σ β h w) : Sim P o a prot σ β w v h' := by
  obtain ⟨i, zv, hi, hzv, h1, h2, h3⟩ := zeroOf_rel hz
  obtain ⟨i', hi', hin⟩ := info_of_sz hn
  rw [hi] at hi'; cases hi'
  have hib : i.bytes = by_ := by unfold byOf at hby; rw [hi] at hby; simpa using hby
  have hzl : z.length = n := by omega
  simp only [stepI] at hs
  split at hs
  · rename_i A B hA hB
    obtain ⟨kl, hkl⟩ := intV_rel (opd_rel hl hf) hA
    obtain ⟨kc, hkc⟩ := intV_rel (opd_rel hc hf) hB
    split at hs
    · rename_i hcond
      obtain ⟨b1, b2, b3, b4⟩ := hcond
      unfold maxBytes at b3 b4
      have hrun := run_make (P := P) w t e i zv hd hi hzv kl kc A B b1 b2 (by rw [hib, Int.mul_comm]; omega) (by omega)
      have hcells : ∀ (q : Nat) (el : List CV), (List.replicate A.toNat z)[q]? = some el → ∀ (j : Nat) (cc : CV), el[j]? = some cc → ∃ x, (madeCells zv.cells (B.toNat * i.size))[q * n + j]? = some x ∧ CR σ x cc := by
        intro q el hq j cc hj
        rw [List.getElem?_replicate] at hq
        split at hq
        · rename_i hlt
          cases hq
          have hjn : j < n := by rw [← hzl]; exact (List.getElem?_eq_some_iff.1 hj).1
          have hb : q * n + j < B.toNat * i.size := by
            rw [hin]
            have : (q + 1) * n ≤ B.toNat * n := Nat.mul_le_mul_right _ (by omega)
            rw [Nat.add_mul] at this; omega
          have hmod : (q * n + j) % n = j := by rw [Nat.mul_comm, Nat.mul_add_mod, Nat.mod_eq_of_lt hjn]
          have hjs : j < zv.cells.size := by omega
          obtain ⟨e1, rfl⟩ := h3 j zv.cells[j] cc (by simp [hjs]) hj
          refine ⟨zv.cells[j], ?_, .sc _ e1⟩
          unfold madeCells
          rw [Array.getElem?_map, Array.getElem?_range, if_pos hb]
          simp only [Option.map_some, h1, hzl, hmod]
          rw [getElem!_pos zv.cells j hjs]
        · cases hq
      obtain ⟨σ2, β2, hF2, hW2, hV2⟩ := new_row (C := madeCells zv.cells (B.toNat * i.size)) (E := e) (z := n) (els := List.replicate A.toNat z) (len := A.toNat) (cap := B.toNat) (w' := w.alloc (.cells (madeCells zv.cells (B.toNat * i.size)) e)) (fz := (0, 0)) own (decide (A = B)) hw ⟨rfl, rfl, rfl⟩ rfl (.inl rfl) hn0
        (fun el he => by rw [List.eq_of_mem_replicate he]; exact hzl) (by simp) (by omega) (by rw [size_madeCells, hin]; exact Nat.le_refl _) (fun e => by have := of_decide_eq_true e; omega) hcells
      have hgo : (execOp a.eval o).run P w = .ok (.value (.slice (some ⟨w.heap.size, 0, none⟩) A.toNat B.toNat)) (w.alloc (.cells (madeCells zv.cells (B.toNat * i.size)) e)) := by
        unfold execOp; rw [ho]
        simp only [hkl, hkc]
        rw [run_bind_ok hrun]; rfl
      cases own with
      | true =>
        simp only [if_true] at hs hW2 hV2
        cases hs
        exact ⟨_, _, σ2, β2, .inl hgo, hF2, hW2, hV2⟩
      | false =>
        simp only [Bool.false_eq_true, if_false] at hs hW2 hV2
        cases hs
        exact ⟨_, _, σ2, β2, .inl hgo, hF2, hW2, hV2⟩
    · cases hs
  · cases hs

end Go.Vm
