/-
  Vm: how a law's arguments come in, and how it ends (own work).
-/
import Derived.Test.YtpingdgbndmcnaaVmLim
import Derived.Carry
import Derived.ChangeArms
namespace Go.Vm
open Go Go.RowKit

/-- Plain data: whole numbers, truths, texts, slices and structs of such. -/
def okTy (P : Program) : Nat → TypeId → Bool
  | 0, _ => false
  | n + 1, t => match P.underlying t with
    | some .bool => P.cellsOf t == 1
    | some (.int _) => P.cellsOf t == 1
    | some .string => P.cellsOf t == 1
    | some (.slice e) => P.cellsOf t == 1 && decide (0 < P.cellsOf e) && okTy P n e
    | some (.struct fs) => (fs.toList.foldl (fun o f => o.bind fun k => if f.offset = k then some (k + P.cellsOf f.type) else none) (some 0) == some (P.cellsOf t)) && fs.toList.all fun f => okTy P n f.type
    | _ => false

/-- What a reading of a type is, closed. -/
def DR (P : Program) {H : Type} : Nat → TypeId → DataW H → List CV → Prop
  | 0, _, _, _ => False
  | n + 1, t, d, cs => match P.underlying t with
    | some .bool => ∃ b, d = .lit (.bool b) ∧ cs = [.sc (.bool b)]
    | some (.int k) => ∃ x, d = .lit (.int k x) ∧ cs = [.sc (.int k x)] ∧ (Lit.int k x).wf = true
    | some .string => ∃ s : ByteArray, d = .lit (.string s.data.toList) ∧ cs = [.sc (.string s)] ∧ s.size ≤ maxLen
    | some (.slice e) => (d = .nil ∧ cs = [.sc (.slice none 0 0)]) ∨ ∃ ds rest els, d = .slice ds rest ∧ cs = [.sl (P.cellsOf e) els false] ∧ els.length = ds.length ∧ els.length ≤ maxLen ∧
        ∀ (i : Nat) (el : List CV) (y : DataW H), els[i]? = some el → ds[i]? = some y → el.length = P.cellsOf e ∧ DR P n e y el
    | some (.struct fs) => ∃ ds, d = .agg ds ∧ ds.length = fs.size ∧ cs.length = P.cellsOf t ∧
        ∀ (i : Nat) (f : Field) (y : DataW H), fs[i]? = some f → ds[i]? = some y → DR P n f.type y ((cs.drop f.offset).take (P.cellsOf f.type))
    | _ => False

section
variable {H : Type} {enc : TypeId × Value → H} {P : Program} {w : World} {base : Nat} {sp : Nat → Bool} {held : Bool}

def Rel (w : World) (cs : List Value) (ccs : List CV) : Prop := ccs.length = cs.length ∧ ∀ (i : Nat) (v : Value) (c : CV), cs[i]? = some v → ccs[i]? = some c → CR w.cell? v c

theorem Rel.one {w : World} {v : Value} {c : CV} (h : CR w.cell? v c) : Rel w [v] [c] := by
  refine ⟨rfl, fun i v' c' hv hc => ?_⟩
  cases i with
  | zero => simp at hv hc; subst hv hc; exact h
  | succ i => simp at hv

theorem tiles_le : ∀ (fl : List Field) (k tot : Nat), fl.foldl (fun o f => o.bind fun k => if f.offset = k then some (k + P.cellsOf f.type) else none) (some k) = some tot → k ≤ tot
  | [], k, tot, h => by simp at h; omega
  | f :: r, k, tot, h => by
    simp only [List.foldl_cons, Option.bind_some] at h
    by_cases hf : f.offset = k
    · rw [if_pos hf] at h
      have := tiles_le r _ _ h
      omega
    · rw [if_neg hf] at h
      have none_none : ∀ l : List Field, l.foldl (fun (o : Option Nat) f => o.bind fun k => if f.offset = k then some (k + P.cellsOf f.type) else none) none = none := by
        intro l; induction l with
        | nil => rfl
        | cons _ _ ih => simpa using ih
      rw [none_none] at h; cases h

theorem struct_cr {n fuel : Nat} {cs : List Value}
    (ih : ∀ (t : TypeId) (cs : List Value) (x : DataW H × List MemPlace), okTy P n t = true → DataW.trod enc P w base sp held fuel t cs = some x → ∃ ccs, Rel w cs ccs ∧ DR P n t x.1 ccs) :
    ∀ (fl : List Field) (off : Nat) (ds : List (DataW H × List MemPlace)), fl.foldl (fun o f => o.bind fun k => if f.offset = k then some (k + P.cellsOf f.type) else none) (some off) = some cs.length →
      (∀ f ∈ fl, okTy P n f.type = true) → ds.length = fl.length →
      (∀ (i : Nat) (f : Field), fl[i]? = some f → DataW.trod enc P w base sp held fuel f.type ((cs.drop f.offset).take (P.cellsOf f.type)) = ds[i]?) →
      ∃ ccs : List CV, ccs.length + off = cs.length ∧ (∀ (i : Nat) (v : Value) (c : CV), cs[off + i]? = some v → ccs[i]? = some c → CR w.cell? v c) ∧
        ∀ (i : Nat) (f : Field) (y : DataW H × List MemPlace), fl[i]? = some f → ds[i]? = some y → off ≤ f.offset ∧ DR P n f.type y.1 ((ccs.drop (f.offset - off)).take (P.cellsOf f.type))
  | [], off, ds, ht, _, _, _ => by
    simp at ht
    exact ⟨[], by simpa using ht, fun i v c _ hc => by simp at hc, fun i f y hf => by simp at hf⟩
  | f :: r, off, ds, ht, hok, hl, hd => by
    have hle := tiles_le (P := P) (f :: r) _ _ ht
    simp only [List.foldl_cons, Option.bind_some] at ht
    by_cases hf : f.offset = off
    · rw [if_pos hf] at ht
      have hle2 := tiles_le (P := P) r _ _ ht
      cases ds with
      | nil => simp at hl
      | cons y ys =>
        obtain ⟨fcs, ⟨h1, h2⟩, h3⟩ := ih f.type _ y (hok f (by simp)) (hd 0 f rfl)
        obtain ⟨rcs, h4, h5, h6⟩ := struct_cr ih r (off + P.cellsOf f.type) ys ht (fun g hg => hok g (by simp [hg])) (by simpa using hl) (fun i g hg => hd (i + 1) g (by simpa using hg))
        have hlen : fcs.length = P.cellsOf f.type := by
          rw [h1, List.length_take, List.length_drop, hf]; omega
        refine ⟨fcs ++ rcs, by rw [List.length_append, hlen]; omega, fun i v c hv hc => ?_, fun i g y' hg hy => ?_⟩
        · rw [List.getElem?_append] at hc
          split at hc
          · rename_i hlt
            refine h2 i v c ?_ hc
            rw [List.getElem?_take, if_pos (by omega), List.getElem?_drop, hf]; exact hv
          · rename_i hge
            refine h5 (i - fcs.length) v c ?_ hc
            rw [← hv]; congr 1; omega
        · cases i with
          | zero =>
            simp at hg hy
            subst hg hy
            refine ⟨by omega, ?_⟩
            rw [hf, Nat.sub_self, List.drop_zero, List.take_append_of_le_length (by omega), List.take_of_length_le (by omega)]
            exact h3
          | succ i =>
            obtain ⟨a1, a2⟩ := h6 i g y' (by simpa using hg) (by simpa using hy)
            refine ⟨by omega, ?_⟩
            have e : g.offset - off = fcs.length + (g.offset - (off + P.cellsOf f.type)) := by omega
            rw [e, ← List.drop_drop, List.drop_left]
            exact a2
    · rw [if_neg hf] at ht
      have none_none : ∀ l : List Field, l.foldl (fun (o : Option Nat) f => o.bind fun k => if f.offset = k then some (k + P.cellsOf f.type) else none) none = none := by
        intro l; induction l with
        | nil => rfl
        | cons _ _ ih => simpa using ih
      rw [none_none] at ht; cases ht

theorem cells_get {base : Nat} {a : Addr} {n : Nat} {cs : List Value} (h : w.cells? base a n = some cs) : cs.length = n ∧ ∀ i, i < n → w.cell? (a.add i) = cs[i]? := by
  unfold World.cells? at h
  split at h
  · refine ⟨by simpa using mapM_some_length h, fun i hi => ?_⟩
    exact mapM_some_get h i i (by simp [hi])
  · cases h

/-- What is read is closed. -/
theorem read_cr (hsp0 : ∀ b, sp b = true) : ∀ (n fuel : Nat) (t : TypeId) (cs : List Value) (x : DataW H × List MemPlace), okTy P n t = true → DataW.trod enc P w base sp held fuel t cs = some x → ∃ ccs, Rel w cs ccs ∧ DR P n t x.1 ccs
  | 0, _, _, _, _, hk, _ => by cases hk
  | n + 1, fuel, t, cs, x, hk, h => by
    simp only [okTy] at hk
    simp only [DR]
    cases hu : P.underlying t with
    | none => rw [hu] at hk; cases hk
    | some d =>
      rw [hu] at hk
      cases d with
      | bool =>
        obtain ⟨b, rfl, rfl⟩ := DataW.trod_bool hu h
        exact ⟨[.sc (.bool b)], Rel.one (.sc _ rfl), _, rfl, rfl⟩
      | int k =>
        obtain ⟨m, rfl, rfl, hw⟩ := DataW.trod_int hu h
        exact ⟨[.sc (.int k m)], Rel.one (.sc _ rfl), _, rfl, rfl, hw⟩
      | string =>
        obtain ⟨s, rfl, rfl, hs⟩ := DataW.trod_string hu h
        exact ⟨[.sc (.string s)], Rel.one (.sc _ rfl), _, rfl, rfl, hs⟩
      | slice e =>
        simp only [Bool.and_eq_true, decide_eq_true_eq] at hk
        rcases DataW.trod_slice hu h with ⟨rfl, rfl⟩ | ⟨a, len, cap, elems, rest, m, rfl, rfl, rfl, hb, hl, hm, hlen, hel, hsp, hns⟩
        · exact ⟨[.sc (.slice none 0 0)], Rel.one (.sc _ rfl), .inl ⟨rfl, rfl⟩⟩
        · have key : ∀ i, i < len → ∃ el cv y, elems[i]? = some y ∧ w.cells? base (a.add (i * P.cellsOf e)) (P.cellsOf e) = some el ∧ Rel w el cv ∧ DR P n e y.1 cv := by
            intro i hi
            have hi' : i < elems.length := by omega
            have := hel i hi
            rw [List.getElem?_eq_getElem hi', Option.bind_eq_some_iff] at this
            obtain ⟨el, h1, h2⟩ := this
            obtain ⟨cv, h3, h4⟩ := read_cr hsp0 n m e el _ hk.2 h2
            exact ⟨el, cv, _, List.getElem?_eq_getElem hi', h1, h3, h4⟩
          let els := (List.range len).map fun i => if hi : i < len then Classical.choose (Classical.choose_spec (key i hi)) else []
          have hels : ∀ i e', els[i]? = some e' → ∃ hi : i < len, e' = Classical.choose (Classical.choose_spec (key i hi)) := by
            intro i e' he
            have hi : i < len := by
              have := (List.getElem?_eq_some_iff.1 he).1
              simpa [els] using this
            refine ⟨hi, ?_⟩
            simp only [els, List.getElem?_map, List.getElem?_range hi, Option.map_some, dif_pos hi, Option.some.injEq] at he
            exact he.symm
          have hll : els.length = len := by simp [els]
          have val : ∀ i e', els[i]? = some e' → ∃ el y, i < len ∧ elems[i]? = some y ∧ w.cells? base (a.add (i * P.cellsOf e)) (P.cellsOf e) = some el ∧ Rel w el e' ∧ DR P n e y.1 e' := by
            intro i e' he
            obtain ⟨hi, rfl⟩ := hels i e' he
            obtain ⟨y, h1, h2, h3, h4⟩ := Classical.choose_spec (Classical.choose_spec (key i hi))
            exact ⟨_, y, hi, h1, h2, h3, h4⟩
          have spot : cap = 0 ∨ a.spot = none := by
            by_cases hl0 : len = 0
            · by_cases hc0 : cap = 0
              · exact .inl hc0
              · right
                obtain ⟨h1, h2⟩ := hsp (hsp0 _)
                have := h2 0 (by omega)
                rw [hl0, Nat.zero_add, Nat.zero_mul] at this
                have hr : 0 < rest.length := by omega
                rw [List.getElem?_eq_getElem hr, Option.bind_eq_some_iff] at this
                obtain ⟨el, h3, _⟩ := this
                obtain ⟨h4, h5⟩ := cells_get h3
                have := h5 0 hk.1.2
                rw [List.getElem?_eq_getElem (by omega)] at this
                simpa [Addr.add] using World.cell?_spot this
            · right
              obtain ⟨el, cv, y, _, h1, _⟩ := key 0 (by omega)
              obtain ⟨h4, h5⟩ := cells_get h1
              have := h5 0 hk.1.2
              rw [List.getElem?_eq_getElem (by omega)] at this
              simpa [Addr.add] using World.cell?_spot this
          have cell : ∀ i e', els[i]? = some e' → ∀ j c, e'[j]? = some c → ∃ v, w.cell? ⟨a.block, a.off + i * P.cellsOf e + j, none⟩ = some v ∧ CR w.cell? v c := by
            intro i e' he j c hj
            obtain ⟨el, y, hi, _, h2, ⟨h3, h3'⟩, _⟩ := val i e' he
            obtain ⟨h4, h5⟩ := cells_get h2
            have hs : a.spot = none := spot.resolve_left (by omega)
            have hjl : j < el.length := by rw [← h3]; exact (List.getElem?_eq_some_iff.1 hj).1
            have := h5 j (by omega)
            rw [List.getElem?_eq_getElem hjl, add_spot hs, add_spot rfl] at this
            exact ⟨_, this, h3' j _ c (List.getElem?_eq_getElem hjl) hj⟩
          refine ⟨[.sl (P.cellsOf e) els false], Rel.one ?_, .inr ⟨elems.map (·.1), rest.map (·.1), els, rfl, rfl, by simp [hll, hlen], by omega, ?_⟩⟩
          · have := CR.sl (σ := w.cell?) a cap (P.cellsOf e) els false (fun i j => (w.cell? ⟨a.block, a.off + i * P.cellsOf e + j, none⟩).getD undef) spot (by omega) (fun e => by cases e) hk.1.2 ?_ ?_ ?_
            · rw [hll] at this; exact this
            · intro e' he
              obtain ⟨i, hi⟩ := List.getElem?_of_mem he
              obtain ⟨el, y, _, _, h2, ⟨h3, _⟩, _⟩ := val i e' hi
              rw [h3]; exact (cells_get h2).1
            · intro i e' he j c hj
              obtain ⟨v, hv, _⟩ := cell i e' he j c hj
              rw [hv]; rfl
            · intro i e' he j c hj
              obtain ⟨v, hv, hr⟩ := cell i e' he j c hj
              rw [hv]; exact hr
          · intro i e' y he hy
            obtain ⟨el, y', _, h1, h2, ⟨h3, _⟩, h4⟩ := val i e' he
            rw [List.getElem?_map, h1] at hy
            cases hy
            exact ⟨by rw [h3]; exact (cells_get h2).1, h4⟩
      | struct fs =>
        simp only [Bool.and_eq_true, beq_iff_eq, List.all_eq_true] at hk
        obtain ⟨xs, m, rfl, rfl, hcl, hxl, hxs⟩ := DataW.trod_struct hu h
        obtain ⟨ccs, h1, h2, h3⟩ := struct_cr (cs := cs) (fun t cs x => read_cr hsp0 n m t cs x) fs.toList 0 xs (by rw [hcl]; exact hk.1) hk.2 (by simpa using hxl) (fun i f hf => hxs i f (by simpa using hf))
        refine ⟨ccs, ⟨by simpa using h1, fun i v c hv hc => h2 i v c (by rw [Nat.zero_add]; exact hv) hc⟩, xs.map (·.1), rfl, by simpa using hxl, by rw [← hcl]; simpa using h1, fun i f y hf hy => ?_⟩
        rw [List.getElem?_map] at hy
        cases hx : xs[i]? with
        | none => rw [hx] at hy; cases hy
        | some z =>
          rw [hx] at hy; cases hy
          have := (h3 i f z (by simpa using hf) hx).2
          simpa using this
      | _ => cases hk

/-! ### arguments -/

/-- Is it a struct? -/
def isStr (P : Program) (t : TypeId) : Bool := match P.underlying t with
  | some (.struct _) => true
  | _ => false

/-- An argument that reads as a datum. -/
def DV (P : Program) (t : TypeId) (d : DataW H) (u : VV) : Prop := ∃ ccs, DR P 8 t d ccs ∧ if isStr P t then u = .agg (ccs.map .cv) else ∃ c, ccs = [c] ∧ u = .cv c

theorem arg_in (hsp0 : ∀ b, sp b = true) {r : Reach} {b : Nat} {t : TypeId} {v : Value} {d : DataW H} {ps : List MemPlace} (hk : okTy P 8 t = true) (ho : Value.okWide P w r b t v) (h : DataW.Trod enc P w base sp held t v d ps) {β : Nat → Option Loc} :
    ∃ u, VR w.cell? β v u ∧ DV P t d u := by
  obtain ⟨fuel, h⟩ := h
  obtain ⟨ccs, ⟨h1, h2⟩, h3⟩ := read_cr hsp0 8 fuel t _ _ hk h
  unfold DV isStr
  cases hu : P.underlying t with
  | none => simp [okTy, hu] at hk
  | some ty =>
    have one : ∀ x : Value, v.cells = #[x] → v = x → ∃ u, VR w.cell? β v u ∧ ∃ ccs, DR P 8 t d ccs ∧ ∃ c, ccs = [c] ∧ u = .cv c := by
      intro x hx hvx
      subst hvx
      rw [hx] at h1 h2
      match ccs, h1 with
      | [c], _ => exact ⟨.cv c, .cv _ _ (h2 0 v c rfl rfl), [c], h3, c, rfl, rfl⟩
    cases ty with
    | struct fs =>
      simp only [Value.okWide, hu] at ho
      obtain ⟨cs, rfl, hcs, _⟩ := ho
      refine ⟨.agg (ccs.map .cv), .agg _ _ (by simpa [Value.cells] using h1.symm) (fun c hc => ?_) (fun i v c hv hc => ?_), ccs, h3, by simp⟩
      · obtain ⟨q, _, rfl⟩ := List.mem_map.1 hc; rfl
      · rw [List.getElem?_map] at hc
        cases hq : ccs[i]? with
        | none => rw [hq] at hc; cases hc
        | some q => rw [hq] at hc; cases hc; exact .cv _ _ (h2 i v q (by simpa [Value.cells] using hv) hq)
    | bool =>
      simp only [Bool.false_eq_true, if_false]
      obtain ⟨x, rfl⟩ := WideShapes.okWide_bool hu ho
      exact one _ rfl rfl
    | int k =>
      simp only [Bool.false_eq_true, if_false]
      obtain ⟨x, rfl⟩ := WideShapes.okWide_int hu ho
      exact one _ rfl rfl
    | string =>
      simp only [Bool.false_eq_true, if_false]
      obtain ⟨x, rfl⟩ := WideShapes.okWide_string hu ho
      exact one _ rfl rfl
    | slice e =>
      simp only [Bool.false_eq_true, if_false]
      obtain ⟨x, y, z, rfl⟩ := WideShapes.okWide_slice hu ho
      exact one _ rfl rfl
    | _ => simp [okTy, hu] at hk
end

/-- A law's call. -/
theorem entry {P : Program} {F : Nat → Option FnIR} (hT : TblOK P F) {n : Nat} {rargs : Array Value} {args : List VV} {w : World} (hl : rargs.size = args.length)
    (hr : ∀ (i : Nat) (v : Value) (u : VV), rargs[i]? = some v → args[i]? = some u → VR w.cell? noβ v u) {h' : Heap} (hc : call F n args [] = some (.ret (.cv (.sc (.bool true))), h')) :
    Calls P n rargs w fun e w' => e = .returned (.bool true) ∧ Below w.heap.size w w' := by
  obtain ⟨m, hm⟩ := call_iff.mp hc
  refine ((callF_sound hT m).go n args [] _ h' hm rargs (· < w.heap.size) w.cell? noβ w hl hr ?_).mono ?_
  · exact ⟨fun b hb => hb, fun a v h => h, (fun id o ho => by simp at ho), (fun id L hL => by cases hL), (fun id o L ho => by simp at ho), (fun id id' o o' L L' _ ho => by simp at ho)⟩
  · rintro e w' ⟨σ', β', rv, hF, hW, ⟨v, hv, rfl, hV⟩ | ⟨v, hv, _⟩⟩
    · cases hv
      obtain ⟨rfl, _⟩ := hV.sc_inv
      exact ⟨rfl, hF.os, hF.tape, hF.output, hF.size, fun k hk => hF.prot k hk hk⟩
    · cases hv

end Go.Vm
