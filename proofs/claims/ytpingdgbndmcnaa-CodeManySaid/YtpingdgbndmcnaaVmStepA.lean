/-
  Vm: the plain steps are the machine's (own work), tenth part: append.
-/
import Derived.Test.YtpingdgbndmcnaaVmStep9
namespace Go.Vm
open Go Go.RowKit
set_option linter.unusedVariables false
set_option linter.unusedSimpArgs false

variable {P : Program} {prot : Nat → Prop} {σ : Stab} {β : Nat → Option Loc} {h : Heap} {w : World} {a : Act} {s : List VV}

theorem not_int_matches {d : TypeDesc} (h : ∀ k, d ≠ .int k) : (match d with | .int _ => true | _ => false) = false := by
  cases d <;> first | rfl | (exact absurd rfl (h _))

theorem run_app_room {t t' e ty : TypeId} {d' : TypeDesc} {z n cap m : Nat} {A : Addr} {x : Value} {news : List Value} {w' : World} (ht : P.underlying t = some (.slice e)) (hd' : P.underlying t' = some d') (hni : ∀ k, d' ≠ .int k) (hz : szOf P e = some z)
    (hlen : (Builtin.lenOf x).run P w = .ok m w) (hfc : (Builtin.firstCells z m x).run P w = .ok news.toArray w) (hroom : n + m ≤ cap) (hst : (storeCells (A.add (n * z)) news).run P w = .ok () w') :
    (Builtin.append_ #[t, t'] ty #[.slice (some A) n cap, x]).run P w = .ok (.slice (some A) (n + m) cap) w' := by
  unfold Builtin.append_
  simp only [List.getElem?_toArray, List.getElem?_cons_zero, List.getElem?_cons_succ]
  rw [run_bind_ok (run_under ht w)]
  simp only []
  rw [run_bind_ok (run_sizeOf hz w), run_bind_ok (run_under hd' w), run_bind_ok (x := false) (w1 := w) (by cases d' <;> first | rfl | exact absurd rfl (hni _))]
  simp only [Bool.false_eq_true, if_false]
  rw [run_bind_ok hlen]
  rw [if_pos hroom]
  simp only [Bool.not_false, if_true]
  rw [run_bind_ok hfc]
  simp only []
  rw [run_bind_ok hst]
  rfl

theorem run_app_none {t t' e ty : TypeId} {d' : TypeDesc} {z : Nat} {x : Value} (ht : P.underlying t = some (.slice e)) (hd' : P.underlying t' = some d') (hni : ∀ k, d' ≠ .int k) (hz : szOf P e = some z)
    (hlen : (Builtin.lenOf x).run P w = .ok 0 w) (hfc : (Builtin.firstCells z 0 x).run P w = .ok #[] w) :
    (Builtin.append_ #[t, t'] ty #[.slice none 0 0, x]).run P w = .ok (.slice none 0 0) w := by
  unfold Builtin.append_
  simp only [List.getElem?_toArray, List.getElem?_cons_zero, List.getElem?_cons_succ]
  rw [run_bind_ok (run_under ht w)]
  simp only []
  rw [run_bind_ok (run_sizeOf hz w), run_bind_ok (run_under hd' w), run_bind_ok (x := false) (w1 := w) (by cases d' <;> first | rfl | exact absurd rfl (hni _))]
  simp only [Bool.false_eq_true, if_false]
  rw [run_bind_ok hlen]
  rw [if_pos (Nat.le_refl _)]
  simp only [Bool.not_false, if_true]
  rw [run_bind_ok hfc]
  rfl

theorem run_app_grow {t t' e ty : TypeId} {d' : TypeDesc} {i : TypeInfo} {zv : Value} {z n cap m : Nat} {A : Option Addr} {x : Value} {olds news : List Value} (ht : P.underlying t = some (.slice e)) (hd' : P.underlying t' = some d') (hni : ∀ k, d' ≠ .int k) (hi : P.info? e = some i) (hz : i.size = z) (hzv : i.zero = some zv)
    (hlen : (Builtin.lenOf x).run P w = .ok m w) (hfo : (Builtin.firstCells z n (.slice A n cap)).run P w.drew = .ok olds.toArray w.drew) (hfc : (Builtin.firstCells z m x).run P w.drew = .ok news.toArray w.drew) (hroom : cap < n + m) (h63 : n + m ≤ 2 ^ 45) (hb : (n + m) * i.bytes ≤ 2 ^ 45) :
    (Builtin.append_ #[t, t'] ty #[.slice A n cap, x]).run P w = .ok (.slice (some ⟨w.heap.size, 0, none⟩) (n + m) (grownCap w (n + m) cap e))
      (w.drew.alloc (.cells (olds.toArray ++ news.toArray ++ Builtin.zeroCells zv.cells (grownCap w (n + m) cap e - (n + m))) e)) := by
  have hzs : szOf P e = some z := by unfold szOf; rw [hi, ← hz]; rfl
  have hfit := growslice_fits (need := n + m) (old := cap) (bytes := i.bytes) hroom (by omega)
  unfold Builtin.append_
  simp only [List.getElem?_toArray, List.getElem?_cons_zero, List.getElem?_cons_succ]
  rw [run_bind_ok (run_under ht w)]
  simp only []
  rw [run_bind_ok (run_sizeOf hzs w), run_bind_ok (run_under hd' w), run_bind_ok (x := false) (w1 := w) (by cases d' <;> first | rfl | exact absurd rfl (hni _))]
  simp only [Bool.false_eq_true, if_false]
  rw [run_bind_ok hlen]
  rw [if_neg (by omega)]
  rw [run_bind_ok (run_typeInfo hi w)]
  have h1 : ¬ (((n + m : Nat) : Int) > IntKind.i64.max ∧ (False ∨ i.bytes = 0)) := by
    rintro ⟨h1, _⟩
    have : IntKind.i64.max = 9223372036854775807 := rfl
    omega
  rw [if_neg h1, run_bind_ok (run_typeInfo hi w), if_neg (by omega)]
  rw [run_bind_ok (x := grownCap w (n + m) cap e) (w1 := w.drew) rfl]
  rw [run_bind_ok (run_typeInfo hi w.drew)]
  have hask : ∀ q : Nat, (askRoom q).run P w.drew = .ok () w.drew := by
    intro q; unfold askRoom; split <;> rfl
  rw [run_bind_ok (hask _), run_bind_ok hfo]
  simp only [Bool.not_false, if_true]
  rw [run_bind_ok hfc, run_bind_ok (run_zeroValue hi hzv w.drew)]
  rfl

/-- The step of 'append': what is to be shown, once it is known what the builtin comes to. -/
theorem app_go {o : Oper} {c : Call} {t t' : TypeId} {x y : Operand} {rv : Value} {w' : World} (ho : o.op = .call c) (hc : c.callee = .builtin .append) (ha : c.args.toList = [x, y]) (ht : c.argTypes.toList = [t, t'])
    (hr : (Builtin.append_ #[t, t'] o.type #[a.eval x, a.eval y]).run P w = .ok rv w') : (execOp a.eval o).run P w = .ok (.value rv) w' := by
  have hargs : c.args = #[x, y] := by rw [← ha]
  have htys : c.argTypes = #[t, t'] := by rw [← ht]
  unfold execOp; rw [ho]
  simp only [resolve, hc, hargs, htys]
  simp only [Sem.run_bind, Sem.run_pure, Result.andThen_ok, invoke, builtin, List.map_toArray, List.map_cons, List.map_nil]
  rw [hr]; rfl

theorem grown_facts (w : World) (need cap : Nat) (e : TypeId) (olds news : List Value) (zv : Value) (z : Nat) (hz : zv.cells.size = z) (hl : olds.length + news.length = need * z) :
    (olds.toArray ++ news.toArray ++ Builtin.zeroCells zv.cells (grownCap w need cap e - need)).size = grownCap w need cap e * z ∧
    ∀ (j : Nat) (x : Value), (olds ++ news)[j]? = some x → (olds.toArray ++ news.toArray ++ Builtin.zeroCells zv.cells (grownCap w need cap e - need))[j]? = some x := by
  have hge := grownCap_ge w need cap e
  refine ⟨?_, fun j x hx => ?_⟩
  · simp only [Array.size_append, List.size_toArray, size_zeroCells, hz]
    rw [hl, ← Nat.add_mul]; congr 1; omega
  · have hlt := (List.getElem?_eq_some_iff.1 hx).1
    rw [Array.getElem?_append_left (by simpa using hlt)]
    simpa using hx

theorem lenV_none {u : VV} {n m cap : Nat} (hr : VR σ β (.slice none m cap) u) (hl : lenV u = some n) : m = 0 ∧ cap = 0 := by
  unfold lenV at hl
  split at hl
  · have := scalar_of hr
    cases this; exact ⟨rfl, rfl⟩
  · cases hr with
    | cv _ _ h1 => cases h1
  · cases hr
  · cases hr
  · cases hl

theorem sim_app {o : Oper} {c : Call} {t t' e : TypeId} {d' : TypeDesc} {x y : Operand} {x' y' : Opd} {z by_ : Nat} {zr : List CV} {v : VV} {h' : Heap} (ho : o.op = .call c) (hc : c.callee = .builtin .append) (ha : c.args.toList = [x, y]) (ht : c.argTypes.toList = [t, t'])
    (hd : P.underlying t = some (.slice e)) (hd' : P.underlying t' = some d') (hni : ∀ k, d' ≠ .int k) (hz : szOf P e = some z) (hby : byOf P e = some by_) (hzr : zeroOf P e = some zr) (hz0 : 0 < z) (hx : opd x = some x') (hy : opd y = some y')
    (hs : stepI h (evalO s) (.app z by_ zr x' y') = some (v, h')) (hf : FR σ β a.tmps s) (hw : WR prot σ β h w) : Sim P o a prot σ β w v h' := by
  have r1 := opd_rel hx hf
  have r2 := opd_rel hy hf
  obtain ⟨i, zv, hi, hzv, z1, z2, z3⟩ := zeroOf_rel hzr
  obtain ⟨i', hi', hin⟩ := info_of_sz hz
  rw [hi] at hi'; cases hi'
  have hib : i.bytes = by_ := by unfold byOf at hby; rw [hi] at hby; simpa using hby
  have hzc : zv.cells.size = z := by omega
  simp only [stepI] at hs
  split at hs
  · rename_i new n hnew hn
    obtain ⟨A, cap, hA, hcap⟩ := lenV_rel r1 hn
    obtain ⟨hl, hsr⟩ := srcOf_rel (P := P) hz0 r2 hw hnew
    split at hs
    · rename_i hmax
      obtain ⟨m1, m2⟩ := hmax
      unfold maxBytes at m1 m2
      -- nothing is appended
      by_cases hn0 : new = []
      · subst hn0
        simp only [if_true] at hs
        split at hs
        · cases hs
          obtain ⟨rs, hfl, hfc⟩ := hsr w rfl
          have hfc0 := hfc 0 (Nat.le_refl _)
          simp only [Nat.zero_mul, List.take_zero] at hfc0
          have hrun : (Builtin.append_ #[t, t'] o.type #[a.eval x, a.eval y]).run P w = .ok (a.eval x) w := by
            rw [hA]
            cases A with
            | none =>
              have : n = 0 ∧ cap = 0 := by
                rw [hA] at r1
                exact lenV_none r1 hn
              obtain ⟨rfl, rfl⟩ := this
              exact run_app_none hd hd' hni hz (hl w) hfc0
            | some B =>
              have := run_app_room (P := P) (w := w) (w' := w) (A := B) (n := n) (cap := cap) (m := 0) (news := []) (x := a.eval y) (ty := o.type) hd hd' hni hz (hl w) hfc0 (by omega) rfl
              simpa using this
          exact ⟨_, w, σ, β, .inl (app_go ho hc ha ht hrun), .refl, hw, r1⟩
        · cases hs
      · rw [if_neg hn0] at hs
        have hm0 : 0 < new.length := List.length_pos_iff.2 hn0
        obtain ⟨rs, hfl, hfc⟩ := hsr w rfl
        obtain ⟨rsd, hfld, hfcd⟩ := hsr w.drew rfl
        -- where it must grow: a new row
        have grow : ∀ (els : List (List CV)), els.length = n → ElsR σ w z (a.eval x) els → cap < n + new.length →
            ∃ w' C, (Builtin.append_ #[t, t'] o.type #[a.eval x, a.eval y]).run P w = .ok (.slice (some ⟨w.heap.size, 0, none⟩) (n + new.length) (grownCap w (n + new.length) cap e)) w' ∧ Calm w w' ∧ w'.heap = w.heap.push (.cells C e (0, 0)) ∧
              C.size = grownCap w (n + new.length) cap e * z ∧ (∀ q ∈ els ++ new, q.length = z) ∧
              ∀ (k : Nat) (el : List CV), (els ++ new)[k]? = some el → ∀ (j : Nat) (cc : CV), el[j]? = some cc → ∃ u, C[k * z + j]? = some u ∧ CR σ u cc := by
          intro els hel hE hlt
          obtain ⟨ro, hfo, hfco⟩ := (hE.heap (w' := w.drew) rfl).flat (P := P) hz0
          have hfo1 := hfco els.length (Nat.le_refl _)
          have hfd1 := hfcd new.length (Nat.le_refl _)
          rw [List.take_of_length_le (by rw [hfo.2.1]; exact Nat.le_refl _)] at hfo1
          rw [List.take_of_length_le (by rw [hfld.2.1]; exact Nat.le_refl _)] at hfd1
          rw [hel, hA] at hfo1
          have hrun := run_app_grow (P := P) (w := w) (ty := o.type) (A := A) (n := n) (cap := cap) (x := a.eval y) hd hd' hni hi hin hzv (hl w) hfo1 hfd1 hlt m2 (by rw [hib]; exact m1)
          have hfa := hfo.append hfld
          obtain ⟨g1, g2⟩ := grown_facts w (n + new.length) cap e ro rsd zv z hzc (by rw [hfo.2.1, hfld.2.1, ← Nat.add_mul, hel])
          rw [← hA] at hrun
          refine ⟨_, _, hrun, ⟨rfl, rfl, rfl⟩, rfl, g1, hfa.1, fun k el hk j cc hj => ?_⟩
          obtain ⟨u, hu, hr⟩ := hfa.2.2 k el hk j cc hj
          exact ⟨u, g2 _ _ hu, hr⟩
        have hge : n + new.length ≤ grownCap w (n + new.length) cap e := grownCap_ge _ _ _ _
        -- a new object
        have fresh : ∀ (els : List (List CV)), els.length = n → ElsR σ w z (a.eval x) els → cap < n + new.length → v = .own h.length 0 0 (n + new.length) false → h' = h ++ [.arr z (els ++ new) 0 false] → Sim P o a prot σ β w v h' := by
          intro els hel hE hlt hv hh'
          subst hv hh'
          obtain ⟨w', C, hrun, hcalm, hheap, hcs, hall, hcells⟩ := grow els hel hE hlt
          obtain ⟨σ2, β2, hF2, hW2, hV2⟩ := new_row (C := C) (E := e) (z := z) (els := els ++ new) (len := n + new.length) (cap := grownCap w (n + new.length) cap e) (w' := w') (fz := (0, 0)) true false hw hcalm hheap (.inl rfl) hz0 hall (by rw [List.length_append, hel]) hge (by rw [hcs]; exact Nat.le_refl _) (fun e => by cases e) hcells
          exact ⟨_, w', σ2, β2, .inl (app_go ho hc ha ht hrun), hF2, hW2, hV2⟩
        split at hs
        · rename_i e1
          rw [e1] at r1 hn
          cases hn
          have q := scalar_of r1
          rw [hA] at q; cases q
          cases hs
          refine fresh [] rfl ⟨none, 0, hA, Nat.le_refl _, fun e he => (by simp at he), fun _ => rfl, fun B hB => by cases hB⟩ (by omega) (by simp) (by simp)
        · rename_i z' els e1
          split at hs
          · rename_i hzz; subst hzz
            have hels : elsOf h z' (evalO s x') = some els := by rw [e1]; simp [elsOf]
            obtain ⟨hE, hlen⟩ := elsOf_rel hz0 r1 hw hels
            rw [hn] at hlen; cases hlen
            cases hs
            rw [e1] at r1
            generalize hX : a.eval x = X at r1
            cases r1 with
            | cv _ _ h1 => cases h1 with
              | sl A' cap' _ _ _ fn hs' hc' hx' hz' hl' hm hr =>
                rw [hX] at hA; cases hA
                exact fresh els rfl (by rw [hX]; rw [hX] at hE; exact hE) (by rw [hx' rfl]; omega) rfl rfl
          · cases hs
        · rename_i id g off len ex e1
          split at hs
          · rename_i z' els g' fr hobj
            split at hs
            · rename_i hcond
              obtain ⟨hzz, hgg, hb⟩ := hcond
              subst hzz
              have hels : elsOf h z' (evalO s x') = some ((els.drop off).take len) := by rw [e1]; simp [elsOf, hobj, hgg, hb]
              obtain ⟨hE, hlen⟩ := elsOf_rel hz0 r1 hw hels
              rw [hn] at hlen
              have hel : ((els.drop off).take len).length = n := by simpa using hlen.symm
              rw [e1] at hn
              have hnl : n = len := by simp [lenV] at hn; exact hn.symm
              subst hnl
              obtain ⟨L, hL, hO⟩ := hw.obj id _ hobj
              obtain ⟨o1, o2, o3, o4, o5, o6, o7, o8⟩ := hO
              rw [e1] at r1
              cases ex with
              | true =>
                simp only [if_true] at hs
                generalize hX : a.eval x = X at r1
                cases r1 with
                | own A' cap' _ _ _ _ _ L' hL' hb' hg' hA' hc' hx' =>
                  rw [hX] at hA; cases hA
                  cases hs
                  exact fresh _ hel hE (by rw [hx' rfl]; omega) rfl rfl
              | false =>
                simp only [Bool.false_eq_true, if_false] at hs
                cases fr with
                | true => simp at hs
                | false =>
                  simp only [Bool.false_eq_true, if_false] at hs
                  cases hs
                  generalize hX : a.eval x = X at r1
                  cases r1 with
                  | own A' cap' _ _ _ _ _ L' hL' hb' hg' hA' hc' hx' =>
                    rw [hL] at hL'; cases hL'
                    rw [hX] at hA; cases hA
                    obtain ⟨a1, a2, a3, a4⟩ := hA' (by rw [o2]; exact hgg)
                    by_cases hroom : n + new.length ≤ cap
                    · -- in its place
                      have hcap0 : cap ≠ 0 := by omega
                      have hA3 : A'.off = L.boff + off * z' := by
                        rcases a3 with a3 | a3
                        · exact absurd a3 hcap0
                        · rw [a3, o3]
                      have hadr : A'.add (n * z') = ⟨L.blk, L.boff + off * z' + n * z', none⟩ := by rw [add_spot a1, a2, hA3]
                      have hrl : rs.length = new.length * z' := hfl.2.1
                      have hsp : L.boff + off * z' + n * z' + rs.length ≤ L.csz := by
                        rw [hrl, o3] at *
                        have h1 : (off + n + new.length) * z' ≤ (off + cap) * z' := Nat.mul_le_mul_right _ (by omega)
                        rw [Nat.add_mul, Nat.add_mul] at h1
                        omega
                      obtain ⟨q1, q2, q3, q4, q5, q6⟩ := run_store_blk (P := P) (o := L.boff + off * z' + n * z') (vs := rs) o7 hsp (hfl.one hz0)
                      have hfc1 := hfc new.length (Nat.le_refl _)
                      rw [List.take_of_length_le (by rw [hfl.2.1]; exact Nat.le_refl _)] at hfc1
                      have hrun : (Builtin.append_ #[t, t'] o.type #[a.eval x, a.eval y]).run P w = .ok (.slice (some A') (n + new.length) cap) (w.setCells L.blk (L.boff + off * z' + n * z') rs) := by
                        rw [hX]
                        exact run_app_room hd hd' hni hz (hl w) hfc1 hroom (by rw [hadr]; exact q1)
                      have hnz : (off + n) * z' = off * z' + n * z' := Nat.add_mul _ _ _
                      obtain ⟨β', hF, hW, hβ, _⟩ := hw.upd q2 id (o' := .arr z' ((els.drop off).take n ++ new) (g + 1) false) (L' := { L with boff := L.boff + off * z', g := g + 1 }) hobj rfl hL (by rw [q3]; exact Nat.le_refl _) (fun b _ hb => q4 b hb) (.inr ⟨o1, o1, by simp only; omega⟩) (.inl rfl) (by
                        intro β' hbet hβ hF
                        refine ⟨o1, rfl, o3, o4, fun q hq => ?_, ?_, q5, fun k el hk j cc hj => ?_⟩
                        · rcases List.mem_append.1 hq with h | h
                          · exact o5 q (List.mem_of_mem_drop (List.mem_of_mem_take h))
                          · exact hfl.1 q h
                        · simp only [List.length_append, hel]
                          rw [Nat.add_mul]; rw [hrl] at hsp; omega
                        · rw [List.getElem?_append, hel] at hk
                          simp only
                          split at hk
                          · rename_i hlt
                            have hk0 := hk
                            rw [List.getElem?_take, if_pos hlt, List.getElem?_drop] at hk
                            have hjz : j < z' := by rw [← o5 el (List.mem_of_getElem? hk)]; exact (List.getElem?_eq_some_iff.1 hj).1
                            obtain ⟨u, hu1, hu2, _⟩ := o8 _ el hk j cc hj
                            have hkz : (k + 1) * z' ≤ n * z' := Nat.mul_le_mul_right _ hlt
                            rw [Nat.add_mul] at hkz
                            refine ⟨u, ?_, hu2, fun e => (by cases e)⟩
                            rw [q6 (L.boff + off * z' + k * z' + j) (by omega), if_neg (by omega), ← hu1]
                            congr 2
                            rw [Nat.add_mul]; omega
                          · rename_i hge'
                            have hjz : j < z' := by rw [← hfl.1 el (List.mem_of_getElem? hk)]; exact (List.getElem?_eq_some_iff.1 hj).1
                            obtain ⟨u, hu1, hu2⟩ := hfl.2.2 _ el hk j cc hj
                            have hkn : k * z' = n * z' + (k - n) * z' := by rw [← Nat.add_mul]; congr 1; omega
                            have hlt2 := (List.getElem?_eq_some_iff.1 hu1).1
                            refine ⟨u, ?_, hu2, fun e => (by cases e)⟩
                            rw [q6 (L.boff + off * z' + k * z' + j) (by omega), if_pos (by omega), ← hu1]
                            congr 1; omega)
                      refine ⟨_, _, σ, β', .inl (app_go ho hc ha ht hrun), hF, hW, ?_⟩
                      refine .own _ _ _ _ _ _ _ _ hβ o1 (by subst hgg; exact Nat.le_refl _) (fun _ => ⟨a1, a2, .inr (by simp only [Nat.zero_mul, Nat.add_zero]; exact hA3), ?_⟩) hroom (fun e => by cases e)
                      simp only [Nat.zero_add]
                      rw [Nat.add_mul] at a4
                      rw [o3] at a4 ⊢
                      omega
                    · -- moved
                      obtain ⟨w', C, hrun, hcalm, hheap, hcs, hall, hcells⟩ := grow _ hel hE (by omega)
                      obtain ⟨β', hF, hW, hβ, _⟩ := hw.upd hcalm id (o' := .arr z' ((els.drop off).take n ++ new) (g + 1) false) (L' := ⟨w.heap.size, 0, g + 1, z', C.size, false⟩) hobj rfl hL (by rw [hheap]; simp) (fun b hb _ => heap_push hheap b hb) (.inr ⟨o1, rfl, by simp only; omega⟩) (.inr (Nat.le_refl _)) (by
                        intro β' hbet hβ hF
                        refine ⟨rfl, rfl, rfl, o4, hall, ?_, ⟨C, e, (0, 0), by simp [hheap], rfl, .inl rfl⟩, fun k el hk j cc hj => ?_⟩
                        · simp only [List.length_append, hel, hcs, Nat.zero_add]
                          exact Nat.mul_le_mul_right _ hge
                        · obtain ⟨u, hu1, hu2⟩ := hcells k el hk j cc hj
                          refine ⟨u, ?_, hu2, fun e => (by cases e)⟩
                          simp only [Nat.zero_add]
                          simp [World.cell?, hheap, hu1])
                      refine ⟨_, _, σ, β', .inl (app_go ho hc ha ht hrun), hF, hW, ?_⟩
                      refine .own _ _ _ _ _ _ _ _ hβ rfl (by subst hgg; exact Nat.le_refl _) (fun _ => ⟨rfl, rfl, .inr (by simp), ?_⟩) hge (fun e => by cases e)
                      simp only [Nat.zero_add, hcs]; exact Nat.le_refl _
            · cases hs
          · cases hs
        · rename_i id off len z' e1
          split at hs
          · rename_i els hels'
            have hels : elsOf h z (evalO s x') = some els := by rw [e1]; exact hels'
            obtain ⟨hE, hlen⟩ := elsOf_rel hz0 r1 hw hels
            rw [hn] at hlen
            have hel : els.length = n := by simpa using hlen.symm
            rw [e1] at hn
            have hnl : n = len := by simp [lenV] at hn; exact hn.symm
            subst hnl
            cases hs
            rw [e1] at r1
            generalize hX : a.eval x = X at r1
            cases r1 with
            | ob A' cap' _ _ _ _ _ L' hL' hb' hs' hB' hA' hcs' hc' hx' hz' =>
              rw [hX] at hA; cases hA
              exact fresh els hel hE (by rw [hx' rfl]; omega) rfl rfl
          · cases hs
        · cases hs
    · cases hs
  · cases hs

end Go.Vm
