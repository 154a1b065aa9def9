/-
  Vm: the plain steps are the machine's (own work), ninth part: copy, append.
-/
import Derived.Test.YtpingdgbndmcnaaVmStep8
namespace Go.Vm
open Go Go.RowKit
set_option linter.unusedVariables false
set_option linter.unusedSimpArgs false

variable {P : Program} {prot : Nat → Prop} {σ : Stab} {β : Nat → Option Loc} {h : Heap} {w : World} {a : Act} {s : List VV}

theorem ElsR.heap {z : Nat} {v : Value} {els : List (List CV)} {w' : World} (he : ElsR σ w z v els) (hh : w'.heap = w.heap) : ElsR σ w' z v els := by
  obtain ⟨A, cap, h1, h2, h3, h4, h5⟩ := he
  refine ⟨A, cap, h1, h2, h3, h4, fun B hB => ⟨(h5 B hB).1, fun i e hi j c hj => ?_⟩⟩
  obtain ⟨x, hx, hr⟩ := (h5 B hB).2 i e hi j c hj
  exact ⟨x, by simpa [World.cell?, hh] using hx, hr⟩

/-- What is copied or appended, in memory. -/
def SrcR (P : Program) (σ : Stab) (w : World) (z : Nat) (x : Value) (new : List (List CV)) : Prop :=
  (∀ w1, (Builtin.lenOf x).run P w1 = .ok new.length w1) ∧ ∀ w', w'.heap = w.heap → ∃ rs, FlatR σ z new rs ∧ ∀ k, k ≤ new.length → (Builtin.firstCells z k x).run P w' = .ok (rs.take (k * z)).toArray w'

theorem srcOf_rel {v : Value} {u : VV} {z : Nat} {new : List (List CV)} (hz : 0 < z) (hr : VR σ β v u) (hw : WR prot σ β h w) (he : srcOf h z u = some new) : SrcR P σ w z v new := by
  unfold srcOf at he
  split at he
  · rename_i b
    split at he
    · rename_i hz1
      subst hz1
      cases he
      have q := scalar_of hr
      subst q
      have hlen : (eB b.data.toList).length = b.size := by simp [eB]
      refine ⟨fun w1 => by rw [hlen]; rfl, fun w' _ => ⟨_, flat_bytes b.data.toList, fun k hk => ?_⟩⟩
      simp only [Builtin.firstCells]
      rw [hlen] at hk
      have : ((b.extract 0 k).data.map fun c => Value.int .u8 c.toNat) = (List.take (k * 1) (b.data.toList.map fun c => Value.int .u8 c.toNat)).toArray := by
        rw [extract_list]
        simp [List.map_take]
      rw [this]; rfl
    · cases he
  · obtain ⟨hE, _⟩ := elsOf_rel hz hr hw he
    refine ⟨fun w1 => ?_, fun w' hh => ?_⟩
    · obtain ⟨A, cap, rfl, _⟩ := hE; rfl
    · obtain ⟨rs, h1, h2⟩ := (hE.heap hh).flat (P := P) hz
      exact ⟨rs, h1, h2⟩

theorem flatten_idx {z : Nat} : ∀ {els : List (List CV)}, (∀ e ∈ els, e.length = z) → ∀ (q : Nat) (c : CV), els.flatten[q]? = some c → ∃ (i j : Nat) (e : List CV), els[i]? = some e ∧ e[j]? = some c ∧ q = i * z + j
  | [], _, q, c, h => by simp at h
  | e :: els, hl, q, c, h => by
    rw [List.flatten_cons, List.getElem?_append] at h
    have he := hl e (by simp)
    split at h
    · exact ⟨0, q, e, rfl, h, by simp⟩
    · rename_i hge
      obtain ⟨i, j, e', h1, h2, h3⟩ := flatten_idx (fun e he => hl e (by simp [he])) _ _ h
      refine ⟨i + 1, j, e', by simpa using h1, h2, ?_⟩
      rw [Nat.add_mul]; omega

theorem FlatR.at {z : Nat} {els : List (List CV)} {rs : List Value} (hf : FlatR σ z els rs) (q : Nat) (x : Value) (c : CV) (hx : rs[q]? = some x) (hc : els.flatten[q]? = some c) : CR σ x c := by
  obtain ⟨i, j, e, h1, h2, rfl⟩ := flatten_idx hf.1 q c hc
  obtain ⟨y, hy, hr⟩ := hf.2.2 i e h1 j c h2
  rw [hx] at hy; cases hy; exact hr

theorem length_flatten_z {z : Nat} : ∀ {els : List (List CV)}, (∀ e ∈ els, e.length = z) → els.flatten.length = els.length * z
  | [], _ => by simp
  | e :: els, hl => by
    rw [List.flatten_cons, List.length_append, hl e (by simp), length_flatten_z (fun e he => hl e (by simp [he])), List.length_cons, Nat.add_mul]; omega

theorem splice_nil {α : Type} (l : List α) (off : Nat) : splice l off [] = l := by simp [splice]

theorem set_same {l : List VO} {i : Nat} {x : VO} (h : l[i]? = some x) : l.set i x = l := by
  apply List.ext_getElem?
  intro j
  rw [List.getElem?_set]
  split
  · rename_i e; subst e
    obtain ⟨h1, h2⟩ := List.getElem?_eq_some_iff.1 h
    rw [h]
    simp [h1]
  · rfl

theorem sim_cpy {o : Oper} {c : Call} {t e : TypeId} {tys : List TypeId} {x y : Operand} {x' y' : Opd} {z : Nat} {v : VV} {h' : Heap} (ho : o.op = .call c) (hc : c.callee = .builtin .copy) (ha : c.args.toList = [x, y]) (ht : c.argTypes.toList = t :: tys)
    (hd : P.underlying t = some (.slice e)) (hz : szOf P e = some z) (hz0 : 0 < z) (hx : opd x = some x') (hy : opd y = some y')
    (hs : stepI h (evalO s) (.cpy z x' y') = some (v, h')) (hf : FR σ β a.tmps s) (hw : WR prot σ β h w) : Sim P o a prot σ β w v h' := by
  have r1 := opd_rel hx hf
  have r2 := opd_rel hy hf
  have hargs : c.args = #[x, y] := by rw [← ha]
  have hty : c.argTypes[0]? = some t := by rw [← Array.getElem?_toList, ht]; rfl
  simp only [stepI] at hs
  split at hs
  · rename_i src n hsrc hn
    obtain ⟨A, cap, hA, hcap⟩ := lenV_rel r1 hn
    obtain ⟨hl, hsr⟩ := srcOf_rel (P := P) hz0 r2 hw hsrc
    obtain ⟨rs, hfl, hfc⟩ := hsr w rfl
    have hk : min src.length n ≤ src.length := Nat.min_le_left _ _
    have hfk := hfl.take _ hk
    have hrlen : (rs.take (min src.length n * z)).length = min src.length n * z := by rw [hfk.2.1]; simp
    have key : ∀ w' : World, (∀ B, A = some B → (storeCells B (rs.take (min src.length n * z))).run P w = .ok () w') → (A = none → w' = w) →
        (execOp a.eval o).run P w = .ok (.value (.int .i64 (min src.length n : Nat))) w' := by
      intro w' hst hnone
      unfold execOp; rw [ho]
      simp only [resolve, hc, hargs]
      simp only [Sem.run_bind, Sem.run_pure, Result.andThen_ok, invoke, builtin]
      have hcp : (Builtin.copy_ c.argTypes o.type (#[x, y].map a.eval)).run P w = .ok (goInt (min src.length n : Nat)) w' := by
        unfold Builtin.copy_
        simp only [hty, List.map_toArray, List.map_cons, List.map_nil, List.getElem?_toArray, List.getElem?_cons_zero, List.getElem?_cons_succ]
        rw [run_bind_ok (run_under hd w)]
        simp only [hA]
        rw [run_bind_ok (hl w), run_bind_ok (run_sizeOf hz w)]
        have : Nat.min src.length n = min src.length n := rfl
        rw [this, run_bind_ok (hfc _ hk)]
        cases A with
        | none => rw [hnone rfl]; rfl
        | some B =>
          simp only []
          rw [run_bind_ok (hst B rfl)]
          rfl
      rw [hcp]; rfl
    have zero : min src.length n = 0 → ∀ B : Addr, (storeCells B (rs.take (min src.length n * z))).run P w = .ok () w := by
      intro e B
      have : rs.take (min src.length n * z) = [] := by rw [e]; simp
      rw [this]; rfl
    split at hs
    · rename_i id g off len ex e1
      rw [e1] at r1 hn
      cases hn
      split at hs
      · rename_i z' els g' hobj
        split at hs
        · rename_i hcond
          obtain ⟨hzz, hgg, hb⟩ := hcond
          subst hzz
          cases hs
          obtain ⟨L, hL, hO⟩ := hw.obj id _ hobj
          obtain ⟨o1, o2, o3, o4, o5, o6, o7, o8⟩ := hO
          by_cases hk0 : min src.length n = 0
          · have : h.set id (.arr z' (splice els off (src.take (min src.length n))) g' false) = h := by rw [hk0]; simp only [List.take_zero, splice_nil]; exact set_same hobj
            rw [this]
            exact ⟨_, w, σ, β, .inl (key w (fun B _ => zero hk0 B) (fun _ => rfl)), .refl, hw, .sc rfl⟩
          · generalize hX : a.eval x = X at r1
            cases r1 with
            | own A' cap' _ _ _ _ _ L' hL' hb' hg' hA' hc' hx' =>
              rw [hL] at hL'; cases hL'
              rw [hX] at hA; cases hA
              obtain ⟨a1, a2, a3, a4⟩ := hA' (by rw [o2]; exact hgg)
              have hksl : (src.take (min src.length n)).length = min src.length n := by simp
              have hbz : off * z' + min src.length n * z' ≤ els.length * z' := by rw [← Nat.add_mul]; exact Nat.mul_le_mul_right _ (by omega)
              obtain ⟨w', β', hst, hF, hW⟩ := store_arr (P := P) (off := off * z') (els' := splice els off (src.take (min src.length n))) (vs := rs.take (min src.length n * z')) hw hobj hL (length_splice _ _ _ (by rw [hksl]; omega)) (by
                  intro q hq
                  unfold splice at hq
                  rw [List.mem_append, List.mem_append] at hq
                  rcases hq with (hq | hq) | hq
                  · exact o5 q (List.mem_of_mem_take hq)
                  · exact hfk.1 q hq
                  · exact o5 q (List.mem_of_mem_drop hq)) (by rw [hrlen]; exact hbz) (fun q hq => hfk.one hz0 q hq) (by
                  intro i el hi j cc hj
                  rw [getElem?_splice _ _ _ (by rw [hksl]; omega), hksl] at hi
                  rw [hrlen]
                  split at hi
                  · rename_i hin
                    have hjz : j < z' := by rw [← hfk.1 el (List.mem_of_getElem? hi)]; exact (List.getElem?_eq_some_iff.1 hj).1
                    have e1 : i * z' = off * z' + (i - off) * z' := by rw [← Nat.add_mul]; congr 1; omega
                    have e2 : (i - off + 1) * z' ≤ min src.length n * z' := Nat.mul_le_mul_right _ (by omega)
                    rw [Nat.add_mul] at e2
                    rw [if_pos (by omega)]
                    obtain ⟨q, hq1, hq2⟩ := hfk.2.2 _ el hi j cc hj
                    refine ⟨q, ?_, hq2⟩
                    rw [← hq1]; congr 1; omega
                  · rename_i hin
                    have hjz : j < z' := by rw [← o5 el (List.mem_of_getElem? hi)]; exact (List.getElem?_eq_some_iff.1 hj).1
                    rw [if_neg]
                    · exact ⟨el, hi, hj⟩
                    · intro ⟨k1, k2⟩
                      apply hin
                      constructor
                      · rcases Nat.lt_or_ge i off with hlt | hge
                        · have : (i + 1) * z' ≤ off * z' := Nat.mul_le_mul_right _ hlt
                          rw [Nat.add_mul] at this; omega
                        · exact hge
                      · rcases Nat.lt_or_ge i (off + min src.length n) with hlt | hge
                        · exact hlt
                        · have : (off + min src.length n) * z' ≤ i * z' := Nat.mul_le_mul_right _ hge
                          rw [Nat.add_mul] at this; omega)
              refine ⟨_, w', σ, β', .inl (key w' (fun B hB => ?_) (fun e => by cases e)), hF, hW, .sc rfl⟩
              cases hB
              have : A' = ⟨L.blk, L.boff + off * z', none⟩ := by
                obtain ⟨bb, oo, ss⟩ := A'
                simp only at a1 a2 a3
                rcases a3 with a3 | a3
                · omega
                · rw [a1, a2, a3, o3]
              rw [this]; exact hst
        · cases hs
      · cases hs
    · rename_i id off len z' ex e1
      rw [e1] at r1 hn
      cases hn
      split at hs
      · rename_i cells hobj
        split at hs
        · rename_i hcond
          obtain ⟨hzz, hb⟩ := hcond
          subst hzz
          cases hs
          obtain ⟨L, hL, hO⟩ := hw.obj id _ hobj
          obtain ⟨o1, o2, o3, o4, o5, o6, o7⟩ := hO
          by_cases hk0 : min src.length n = 0
          · have : h.set id (.box (splice cells off (((src.take (min src.length n)).flatten).map .cv)) false) = h := by rw [hk0]; simp only [List.take_zero, List.flatten_nil, List.map_nil, splice_nil]; exact set_same hobj
            rw [this]
            exact ⟨_, w, σ, β, .inl (key w (fun B _ => zero hk0 B) (fun _ => rfl)), .refl, hw, .sc rfl⟩
          · generalize hX : a.eval x = X at r1
            cases r1 with
            | ob A' cap' _ _ _ _ _ L' hL' hb' hs' hB' hA' hcs' hc' hx' hz' =>
              rw [hL] at hL'; cases hL'
              rw [hX] at hA; cases hA
              have hcl : (((src.take (min src.length n)).flatten).map VV.cv).length = min src.length n * z' := by rw [List.length_map, length_flatten_z hfk.1]; simp
              have hbz : min src.length n * z' ≤ n * z' := Nat.mul_le_mul_right _ (by omega)
              obtain ⟨w', β', hst, hF, hW⟩ := store_box (P := P) (off := off) (cs := ((src.take (min src.length n)).flatten).map VV.cv) (vs := rs.take (min src.length n * z')) hw hobj hL (by rw [hrlen, hcl]) (by rw [hcl]; omega) (fun q hq => by
                  simp only [List.mem_map] at hq
                  obtain ⟨_, _, rfl⟩ := hq; rfl) (fun i q cc hq hcc => by
                  rw [List.getElem?_map] at hcc
                  cases hqq : (src.take (min src.length n)).flatten[i]? with
                  | none => rw [hqq] at hcc; cases hcc
                  | some q' => rw [hqq] at hcc; cases hcc; exact .cv _ _ (hfk.at i q q' hq hqq))
              refine ⟨_, w', σ, β', .inl (key w' (fun B hB => ?_) (fun e => by cases e)), hF, hW, .sc rfl⟩
              cases hB
              have : A' = ⟨L.blk, off, none⟩ := by
                obtain ⟨bb, oo, ss⟩ := A'
                simp only at hs' hB' hA'
                rcases hA' with hA' | hA'
                · omega
                · rw [hs', hB', hA']
              rw [this]; exact hst
        · cases hs
      · cases hs
    · split at hs
      · split at hs
        · rename_i hk0
          cases hs
          have := key w (fun B _ => zero hk0 B) (fun _ => rfl)
          rw [hk0] at this
          exact ⟨_, w, σ, β, .inl this, .refl, hw, .sc rfl⟩
        · cases hs
      · cases hs
  · cases hs

end Go.Vm
