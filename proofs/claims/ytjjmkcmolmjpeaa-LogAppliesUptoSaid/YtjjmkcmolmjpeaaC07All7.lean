/- Part of a proof: of what it says, and when, each theorem tells itself. -/
import Derived.Shelf.RegionOpenPlain
import Derived.WalkKit
import Derived.Lib.Walk
import Derived.Lib.SliceRun
import Derived.Lib.JoinLaws
import Derived.Lib.AppendZeros
import Derived.Lib.AppendZerosOnto
import Derived.Lib.Overlaps
import Derived.Laws.Externs
import Derived.Laws.IdiomCopy
import Derived.Laws.NewBlocks
import Derived.Test.YtjjmkcmolmjpeaaProg
import Derived.Test.YtjjmkcmolmjpeaaC07Ir
import Derived.Test.YtjjmkcmolmjpeaaVmAll2
import Derived.Test.YtjjmkcmolmjpeaaC07All5
import Derived.Test.YtjjmkcmolmjpeaaC07All6
/-
  What a walk of slices.Insert over elements of more than one cell asks for: copy, overlaps. (Own lemmas; no program.)
-/
set_option linter.unusedVariables false
set_option linter.unusedSimpArgs false
namespace Go.VmIns
open Go Go.Lib
variable {P : Program}

theorem copyN (w : World) (dT sT ty elem : TypeId) (z : Nat) (b o dLen dCap : Nat) (a : Addr) (sLen sCap : Nat) (cs : List Value)
    (hu : P.underlying dT = some (.slice elem)) (hs : (P.info? elem).map (·.size) = some z) (hn : cs.length = Nat.min sLen dLen * z)
    (hsrc : ∀ j v, cs[j]? = some v → w.cell? (a.add j) = some v) (hc : ∀ j, j < cs.length → (w.cell? ⟨b, o + j, none⟩).isSome = true) (hf : ∀ j, j < cs.length → w.frozen? ⟨b, o + j, none⟩ = false) (h1 : ∀ v ∈ cs, v.oneCell' = true) :
    (Builtin.copy_ #[dT, sT] ty #[.slice (some ⟨b, o, none⟩) dLen dCap, .slice (some a) sLen sCap]).run P w = .ok (goInt (Nat.min sLen dLen)) (w.setCells b o cs) := by
  have hl := run_loadCells_list (P := P) w a cs hsrc
  have hst := run_storeCells_cells (P := P) b o cs 0 w (by simpa using hc) (by simpa using hf) h1
  cases hq : P.info? elem with
  | none => simp [hq] at hs
  | some i =>
    have hi : i.size = z := by simpa [hq] using hs
    simp [Builtin.copy_, run_underlying hu, Builtin.lenOf, Builtin.firstCells, sizeOf, typeInfo, hq, hi, ← hn, hl, hst]

theorem overlaps_own (w : World) (tS tR e : TypeId) (ht : P.underlying tS = some (.slice e)) (size : Nat) (hz : ∀ w, (Go.sizeOf e).run P w = .ok size w)
    (a b : Addr) (la ca lb cb : Nat) (hne : a.block ≠ b.block) (CA CB : Array Value) (tA tB : TypeId) (fa : Nat × Nat) (fb : Nat × Nat)
    (ha : w.heap[a.block]? = some (.cells CA tA fa)) (hb : w.heap[b.block]? = some (.cells CB tB fb)) (hA : CA.size ≠ 0) (hB : CB.size ≠ 0) (hfb : fb.1 = fb.2) :
    (Extern.SlicesOverlaps.overlaps #[tS, tS] #[tR] #[.slice (some a) la ca, .slice (some b) lb cb]).run P w = .ok (.bool false) w := by
  have hnb : (a.block != b.block) = true := by simpa using hne
  have hnb' : (a.block == b.block) = false := by simpa using hne
  have hfz : ∀ o s, w.frozen? ⟨b.block, o, s⟩ = false := by
    intro o s
    obtain ⟨lo, hi⟩ := fb
    have h : lo = hi := hfb
    subst h
    simp only [World.frozen?, hb]
    rw [← Bool.not_eq_true, Bool.and_eq_true, decide_eq_true_eq, decide_eq_true_eq]
    omega
  have hfb1 : w.frozen? b = false := hfz b.off b.spot
  have hfb2 := hfz CB.size none
  have hsa : w.shape? a.block = some (tA, CA.size) := by simp [World.shape?, ha]
  have hsb : w.shape? b.block = some (tB, CB.size) := by simp [World.shape?, hb]
  change Sem.run P (α := Value) (do
    let some t := (#[tS, tS] : Array TypeId)[0]? | stuck "slices.overlaps: no parameter types"
    let .slice elem ← underlying t | stuck "slices.overlaps: slice type expected"
    let size ← sizeOf elem
    match (some a : Option Addr), (some b : Option Addr) with
    | some a, some b =>
      if la = 0 ∨ lb = 0 ∨ size = 0 then pure (Value.bool false)
      else if a.block != b.block && (← frozen a) && (← frozen b) then unsupported .addressObserved
      else do
        if a.block != b.block then do
          noView a; noView b
          if ← mayBeOne a b then return Value.bool ((← choose (.extern "sameAddr.stringBytes" 2)) == 1)
        pure (Value.bool (a.block == b.block && a.off < b.off + lb * size && b.off < a.off + la * size))
    | _, _ => pure (Value.bool false)) w = _
  by_cases h0 : la = 0 ∨ lb = 0 ∨ size = 0
  · simp [run_underlying ht, hz, h0]
  · generalize hkA : CA.size = kA at *
    generalize hkB : CB.size = kB at *
    cases kA with
    | zero => exact absurd rfl hA
    | succ kA =>
      cases kB with
      | zero => exact absurd rfl hB
      | succ kB =>
        cases hf1 : w.frozen? a <;> cases hf2 : w.frozen? { block := a.block, off := kA + 1 } <;>
          simp [run_underlying ht, hz, h0, hnb, hnb', frozen, noView, viewAt, mayBeOne, stringish, shape, Sem.run, hsa, hsb, hfb1, hfb2, hf1, hf2]

/-- The operation 'copy(d, s)' for the walk, where its run is known by an equation. -/
theorem wp_copy (w : World) {o : Oper} {a : Act} {K : Act → World → Prop} {Q : Exit → Act → World → Prop} (d s : Operand) (t t' : TypeId)
    (ho : o.op = .call { callee := .builtin .copy, args := #[d, s], argTypes := #[t, t'] }) (v u : Value) (hd : a.eval d = v) (hs : a.eval s = u) {v' : Value} {w' : World}
    (hr : (Builtin.copy_ #[t, t'] o.type #[v, u]).run P w = .ok v' w') (h : K (a.put o.dst v') w') : o.wp P a w K Q := by
  unfold Oper.wp execOp
  simp only [ho, resolve, invoke, builtin, Sem.run_bind, Sem.run_pure, Result.andThen_ok, List.map_toArray, List.map_cons, List.map_nil, hd, hs, hr]
  exact h

theorem wpList_copy (w : World) {ops : Array Oper} {rest : List Oper} {o : Oper} {a : Act} {Q : Exit → Act → World → Prop} (hgd : o.guard = none) (d s : Operand) (t t' : TypeId)
    (ho : o.op = .call { callee := .builtin .copy, args := #[d, s], argTypes := #[t, t'] }) (v u : Value) (hd : a.eval d = v) (hs : a.eval s = u) {v' : Value} {w' : World}
    (hr : (Builtin.copy_ #[t, t'] o.type #[v, u]).run P w = .ok v' w') (h : wpList P ops Q rest (a.put o.dst v') w') : wpList P ops Q (o :: rest) a w :=
  wpList_plain hgd fun _ hK => wp_copy w d s t t' ho v u hd hs hr (hK _ _ h)

theorem step_copy {ops : Array Oper} {o : Oper} {a : Act} {w : World} {K : Act → World → Prop} {Q : Exit → Act → World → Prop} {E : Prop}
    (hg : o.guard = none) (d x : Operand) (dT sT : TypeId) (hop : o.op = Op.call { callee := Callee.builtin Builtin.copy, args := #[d, x], argTypes := #[dT, sT] })
    (v u : Value) (hd : a.eval d = v) (hx : a.eval x = u) {v' : Value} {w' : World} (hr : (Builtin.copy_ #[dT, sT] o.type #[v, u]).run P w = .ok v' w') (hK : K (a.put o.dst v') w') :
    if Region.wanted o (yielded ops a.tmps) = true then Oper.wp P o a w K Q else E := by
  have hw : Region.wanted o (yielded ops a.tmps) = true := by simp [Region.wanted, hg]
  rw [if_pos hw]
  unfold Oper.wp
  simp [execOp, hop, resolve, invoke, builtin, hd, hx, hr, Result.andThen]
  exact hK

theorem isSome_set (b : Nat) (vs : List Value) (o : Nat) (w : World) (h : ∀ j, j < vs.length → (w.cell? ⟨b, o + j, none⟩).isSome = true) (k : Nat) (hk : (w.cell? ⟨b, k, none⟩).isSome = true) : ((w.setCells b o vs).cell? ⟨b, k, none⟩).isSome = true := by
  by_cases hin : o ≤ k ∧ k < o + vs.length
  · have := World.cell?_setCells_in b vs o w h (k - o) (by omega)
    rw [show o + (k - o) = k by omega] at this
    rw [this]; simp
  · rw [World.cell?_setCells_out b vs o w ⟨b, k, none⟩ (fun _ _ => by show k < o ∨ o + vs.length ≤ k; omega)]
    exact hk
end Go.VmIns

set_option linter.unusedVariables false
set_option linter.unusedSimpArgs false
namespace Go.V07
open Go Go.Lib Go.VmIns

theorem ty34 : Proofs.Try.prog.underlying 34 = some (.slice 53) := by kernel_rfl
theorem sz53 : (Proofs.Try.prog.info? 53).map (·.size) = some 2 := by kernel_rfl

set_option maxHeartbeats 4000000 in
set_option maxRecDepth 100000 in
/-- slices.Insert of a row, in the middle, where there is room. -/
theorem ins_shift (b off n c i vb voff vc : Nat) (cs vs : List Value) (w : World) (hi : i < n) (hroom : n + 1 ≤ c) (hbig : (n + 1) * 40 ≤ 140737488355328) (hvb : vb ≠ b)
    (hcl : cs.length = n * 2) (hvl : vs.length = 2)
    (hcs : ∀ j v, cs[j]? = some v → w.cell? ⟨b, off + j, none⟩ = some v) (hsp : ∀ j, j < (n + 1) * 2 → (w.cell? ⟨b, off + j, none⟩).isSome = true) (hfz : ∀ j, w.frozen? ⟨b, off + j, none⟩ = false)
    (hvs : ∀ j v, vs[j]? = some v → w.cell? ⟨vb, voff + j, none⟩ = some v) (h1c : ∀ v ∈ cs, v.oneCell' = true) (h1v : ∀ v ∈ vs, v.oneCell' = true)
    (CA CB : Array Value) (tA tB : TypeId) (fa fb : Nat × Nat) (ha : w.heap[vb]? = some (.cells CA tA fa)) (hb : w.heap[b]? = some (.cells CB tB fb)) (hA : CA.size ≠ 0) (hB : CB.size ≠ 0) (hfb : fb.1 = fb.2) :
    Calls Proofs.Try.prog 35 #[.slice (some ⟨b, off, none⟩) n c, .int .i64 i, .slice (some ⟨vb, voff, none⟩) 1 vc] w fun e w' =>
      e = .returned (.slice (some ⟨b, off, none⟩) (n + 1) c) ∧ w' = (w.drew.setCells b (off + (i + 1) * 2) (cs.drop (i * 2))).setCells b (off + i * 2) vs := by
  have hz2 : ¬ ((i : Int) = (n : Int)) := by omega
  have hsz53 : ∀ w, (Go.sizeOf 53).run Proofs.Try.prog w = .ok 2 w := fun w => by
    have h := sz53
    cases hq : Proofs.Try.prog.info? 53 with
    | none => simp [hq] at h
    | some i =>
      have hi : i.size = 2 := by simpa [hq] using h
      simp [sizeOf, typeInfo, hq, hi]
  have hov : ∀ lb cb, (callFunc 51 #[.slice (some ⟨vb, voff, none⟩) 1 vc, .slice (some ⟨b, off + (i + 1) * 2, none⟩) lb cb]).run Proofs.Try.prog w = .ok (.value (.bool false)) w := fun lb cb => by
    rw [run_callFunc_extern Proofs.Try.func51 (by kernel_rfl) (by kernel_rfl) (by kernel_rfl) (e := Extern.SlicesOverlaps.overlaps #[34, 34] #[4]) (by kernel_rfl),
      overlaps_own w 34 4 53 ty34 2 hsz53 ⟨vb, voff, none⟩ ⟨b, off + (i + 1) * 2, none⟩ 1 vc lb cb hvb CA CB tA tB fa fb ha hb hA hB hfb]
    rfl
  have hdl : (cs.drop (i * 2)).length = (n - i) * 2 := by rw [List.length_drop, hcl]; omega
  have mixed : Proofs.Try.prog.follows .mixedOrders = true := by kernel_rfl
  have hw1 : IntKind.i64.wrap ((i : Int) + 1) = (i : Int) + 1 := by rw [IntKind.wrap_i64]; omega
  have hw2 : IntKind.i64.wrap ((n : Int) + 1) = (n : Int) + 1 := by rw [IntKind.wrap_i64]; omega
  have hb1 : (0 : Int) ≤ (i : Int) + 1 := by omega
  have hin : i ≤ n := by omega
  have htn : ((i : Int) + 1).toNat = i + 1 := by omega
  have htm : ((n : Int) + 1).toNat = n + 1 := by omega
  have hb2 : ¬ (c = i + 1) := by omega
  have hb3 : (i : Int) ≤ (n : Int) + 1 := by omega
  have hb4 : ¬ (c = i) := by omega
  have hm1 : Nat.min (n + 1 - i) (n - i) = n - i := by simp only [Nat.min_def]; split <;> omega
  have hm2 : Nat.min 1 (n + 1 - i) = 1 := by simp only [Nat.min_def]; split <;> omega
  have hcp1 : ∀ ty dc sc, (Builtin.copy_ #[34, 34] ty #[.slice (some ⟨b, off + (i + 1) * 2, none⟩) (n - i) dc, .slice (some ⟨b, off + i * 2, none⟩) (n + 1 - i) sc]).run Proofs.Try.prog w.drew = .ok (goInt ((n - i : Nat) : Int)) (w.drew.setCells b (off + (i + 1) * 2) (cs.drop (i * 2))) := fun ty dc sc => by
    have h := copyN w.drew 34 34 ty 53 2 b (off + (i + 1) * 2) (n - i) dc ⟨b, off + i * 2, none⟩ (n + 1 - i) sc (cs.drop (i * 2)) ty34 sz53 (by rw [hdl, hm1])
      (fun j v hj => by rw [Addr.add_lit, Nat.add_assoc]; exact hcs (i * 2 + j) v (by rwa [List.getElem?_drop] at hj))
      (fun j hj => by rw [Nat.add_assoc]; exact hsp _ (by omega)) (fun j hj => by rw [Nat.add_assoc]; exact hfz _) (fun v hv => h1c v (List.mem_of_mem_drop hv))
    rw [hm1] at h
    exact h
  obtain ⟨W1, hW1⟩ : ∃ W1, W1 = w.drew.setCells b (off + (i + 1) * 2) (cs.drop (i * 2)) := ⟨_, rfl⟩
  have hsp1 : ∀ k, k < (n + 1) * 2 → (W1.cell? ⟨b, off + k, none⟩).isSome = true := fun k hk => by
    rw [hW1]
    exact isSome_set b _ _ _ (fun j hj => by rw [Nat.add_assoc]; exact hsp _ (by omega)) _ (hsp k hk)
  have hcp2 : ∀ (W : World), (∀ x, W.cell? x = W1.cell? x) → (∀ x, W.frozen? x = W1.frozen? x) → ∀ ty dc, (Builtin.copy_ #[34, 34] ty #[.slice (some ⟨b, off + i * 2, none⟩) (n + 1 - i) dc, .slice (some ⟨vb, voff, none⟩) 1 vc]).run Proofs.Try.prog W = .ok (goInt 1) (W.setCells b (off + i * 2) vs) := fun W hWc hWf ty dc => by
    have h := copyN W 34 34 ty 53 2 b (off + i * 2) (n + 1 - i) dc ⟨vb, voff, none⟩ 1 vc vs ty34 sz53 (by rw [hvl, hm2])
      (fun j v hj => by
        rw [Addr.add_lit, hWc, hW1, World.cell?_setCells_out b _ _ _ _ (fun h _ => absurd h hvb)]
        exact hvs j v hj)
      (fun j hj => by rw [hWc, Nat.add_assoc]; exact hsp1 _ (by omega)) (fun j hj => by rw [hWf, hW1, World.frozen?_setCells, Nat.add_assoc]; exact hfz _) h1v
    rw [hm2] at h
    exact h
  rw [← hW1] at hcp1
  go_enter Proofs.Try.func35, Proofs.Try.ntmps35
  go_wp2_with (simp only [hov])
  go_region_law_o (refine step_copy rfl _ _ 34 34 rfl _ _ (by simp [Act.eval, Act.put]) (by simp [Act.eval, Act.put]) (hcp1 _ _ _) ?_)
  go_wp2_with (at_builtin; refine wpList_copy _ rfl _ _ 34 34 rfl _ _ rfl rfl (hcp2 _ (fun _ => rfl) (fun _ => rfl) _ _) ?_)
  go_ret
  first | exact ⟨rfl, rfl⟩ | exact ⟨rfl, by rw [hW1]⟩
theorem in53 : (Proofs.Try.prog.info? 53).map (fun i => (i.size, i.bytes, i.zero.map (fun z => z.cells))) = some (2, 40, some #[.string ⟨#[]⟩, .slice none 0 0]) := by kernel_rfl
theorem ty3 : Proofs.Try.prog.underlying 3 = some (.int .i64) := by kernel_rfl
theorem size_zeroCells2 (z : Array Value) (n : Nat) : (Builtin.zeroCells z n).size = n * z.size := by simp [Builtin.zeroCells]

set_option maxHeartbeats 4000000 in
set_option maxRecDepth 100000 in
/-- .. and where there is none: a new row. -/
theorem ins_grow (b off n c i vb voff vc : Nat) (cs vs : List Value) (w : World) (hi : i < n) (hnc : n ≤ c) (hroom : c < n + 1) (hbig : (n + 1) * 40 ≤ 140737488355328)
    (hcl : cs.length = n * 2) (hvl : vs.length = 2)
    (hcs : ∀ j v, cs[j]? = some v → w.cell? ⟨b, off + j, none⟩ = some v)
    (hvs : ∀ j v, vs[j]? = some v → w.cell? ⟨vb, voff + j, none⟩ = some v) (h1c : ∀ v ∈ cs, v.oneCell' = true) (h1v : ∀ v ∈ vs, v.oneCell' = true) :
    ∃ (Z : Array Value) (G : Nat), n + 1 ≤ G ∧ Z.size = (G - (n + 1) + (n + 1 - i)) * 2 ∧
    Calls Proofs.Try.prog 35 #[.slice (some ⟨b, off, none⟩) n c, .int .i64 i, .slice (some ⟨vb, voff, none⟩) 1 vc] w fun e w' =>
      e = .returned (.slice (some ⟨w.heap.size, 0, none⟩) (n + 1) G) ∧
      w' = (((w.alloc (.cells ((cs.take (i * 2)).toArray ++ Z) 53)).drew.setCells w.heap.size (i * 2) vs).drew).setCells w.heap.size ((i + 1) * 2) (cs.drop (i * 2)) := by
  have mixed : Proofs.Try.prog.follows .mixedOrders = true := by kernel_rfl
  obtain ⟨i0, z0, hi0, hz0, hzs, hzb, hzc⟩ : ∃ i0 z0, Proofs.Try.prog.info? 53 = some i0 ∧ i0.zero = some z0 ∧ i0.size = 2 ∧ i0.bytes = 40 ∧ z0.cells.size = 2 := by
    have h := in53
    cases hq : Proofs.Try.prog.info? 53 with
    | none => simp [hq] at h
    | some i0 =>
      rw [hq] at h
      simp only [Option.map_some, Option.some.injEq, Prod.mk.injEq] at h
      obtain ⟨h1, h2, h3⟩ := h
      cases hz : i0.zero with
      | none => simp [hz] at h3
      | some z0 =>
        rw [hz] at h3
        simp only [Option.map_some, Option.some.injEq] at h3
        exact ⟨i0, z0, rfl, hz, h1, h2, by rw [h3]; rfl⟩
  have hz2 : ¬ ((i : Int) = (n : Int)) := by omega
  have hz3 : (c : Int) < (n : Int) + 1 := by omega
  have hbw : b < w.heap.size := block_lt_of_cell (hcs 0 _ (List.getElem?_eq_getElem (by omega)))
  have hvw : vb < w.heap.size := block_lt_of_cell (hvs 0 _ (List.getElem?_eq_getElem (by omega)))
  have hkk : (n : Int) + 1 - (i : Int) = ((n + 1 - i : Nat) : Int) := by omega
  have hik : i + (n + 1 - i) = n + 1 := by omega
  have hold : (Builtin.firstCells i0.size i (.slice (some ⟨b, off, none⟩) i c)).run Proofs.Try.prog w.drew = .ok (cs.take (i * 2)).toArray w.drew := by
    rw [hzs]
    exact run_firstCells_some w.drew 2 i ⟨b, off, none⟩ i c (cs.take (i * 2)) (by rw [List.length_take]; omega) (fun j v hj => by
      rw [Addr.add_lit]
      rw [List.getElem?_take] at hj
      split at hj
      · exact hcs j v hj
      · cases hj)
  have hrz : ∀ ty, (Builtin.append_ #[34, 3] ty #[.slice (some ⟨b, off, none⟩) i c, .int .i64 ((n : Int) + 1 - (i : Int))]).run Proofs.Try.prog w =
      .ok (.slice (some ⟨w.heap.size, 0, none⟩) (n + 1) (grownCap w (n + 1) c 53)) (w.drew.alloc (.cells ((cs.take (i * 2)).toArray ++ Builtin.zeroCells z0.cells (n + 1 - i) ++ Builtin.zeroCells z0.cells (grownCap w (n + 1) c 53 - (n + 1))) 53)) := fun ty => by
    have h := Lib.run_append_grow_zeros w 34 3 ty 53 i0 z0 .i64 .i64 ty34 ty3 hi0 hz0 (some ⟨b, off, none⟩) i c (cs.take (i * 2)) hold (n + 1 - i) (by omega) (by omega) (by omega) (by omega) (by rw [hzb]; omega) (by rw [hzb, hik]; exact growslice_fits hroom hbig)
    rw [hik] at h
    rw [hkk]
    exact h
  obtain ⟨G, hG⟩ : ∃ G, G = grownCap w (n + 1) c 53 := ⟨_, rfl⟩
  have hGn : n + 1 ≤ G := by rw [hG]; exact grownCap_ge w _ _ _
  have hG63 : G ≤ 9223372036854775807 := by
    have := grownCap_le_maxLen w (n + 1) c 53 (by unfold maxLen; omega)
    rw [← hG] at this
    unfold maxLen at this
    omega
  obtain ⟨Z, hZ⟩ : ∃ Z : Array Value, Z = Builtin.zeroCells z0.cells (n + 1 - i) ++ Builtin.zeroCells z0.cells (G - (n + 1)) := ⟨_, rfl⟩
  have hZs : Z.size = (G - (n + 1) + (n + 1 - i)) * 2 := by
    rw [hZ, Array.size_append, size_zeroCells2, size_zeroCells2, hzc]; omega
  refine ⟨Z, G, hGn, hZs, ?_⟩
  obtain ⟨ROW, hROW⟩ : ∃ ROW : Array Value, ROW = (cs.take (i * 2)).toArray ++ Z := ⟨_, rfl⟩
  rw [← hG] at hrz
  rw [Array.append_assoc, ← hZ, ← hROW] at hrz
  rw [← hROW]
  have hRl : (n + 1) * 2 ≤ ROW.size := by
    rw [hROW, Array.size_append, hZs, List.size_toArray, List.length_take]
    omega
  obtain ⟨W1, hW1⟩ : ∃ W1, W1 = w.drew.alloc (.cells ROW 53) := ⟨_, rfl⟩
  rw [← hW1] at hrz
  have hN : ∀ j, j < (n + 1) * 2 → (W1.cell? ⟨w.heap.size, j, none⟩).isSome = true := fun j hj => by
    rw [hW1, World.cell?_alloc_at (w := w.drew) ROW _ w.heap.size j rfl, Array.getElem?_eq_getElem (by omega)]; rfl
  have hNf : ∀ j, W1.frozen? ⟨w.heap.size, j, none⟩ = false := fun j => by rw [hW1]; exact World.frozen?_alloc_at (w := w.drew) ROW _ w.heap.size j rfl
  have hOb : ∀ j v, w.cell? ⟨b, j, none⟩ = some v → W1.cell? ⟨b, j, none⟩ = some v := fun j v h => by rw [hW1, World.cell?_alloc_past (w := w.drew) _ b j hbw]; exact h
  have hOv : ∀ j v, w.cell? ⟨vb, j, none⟩ = some v → W1.cell? ⟨vb, j, none⟩ = some v := fun j v h => by rw [hW1, World.cell?_alloc_past (w := w.drew) _ vb j hvw]; exact h
  have hm2 : Nat.min 1 (n + 1 - i) = 1 := by simp only [Nat.min_def]; split <;> omega
  have hm1 : Nat.min (n - i) (n - i) = n - i := Nat.min_self _
  have hcpA : ∀ (W : World), (∀ x, W.cell? x = W1.cell? x) → (∀ x, W.frozen? x = W1.frozen? x) → ∀ ty dc, (Builtin.copy_ #[34, 34] ty #[.slice (some ⟨w.heap.size, i * 2, none⟩) (n + 1 - i) dc, .slice (some ⟨vb, voff, none⟩) 1 vc]).run Proofs.Try.prog W = .ok (goInt 1) (W.setCells w.heap.size (i * 2) vs) := fun W hWc hWf ty dc => by
    have h := copyN W 34 34 ty 53 2 w.heap.size (i * 2) (n + 1 - i) dc ⟨vb, voff, none⟩ 1 vc vs ty34 sz53 (by rw [hvl, hm2])
      (fun j v hj => by rw [Addr.add_lit, hWc]; exact hOv _ v (hvs j v hj))
      (fun j hj => by rw [hWc]; exact hN _ (by omega)) (fun j hj => by rw [hWf]; exact hNf _) h1v
    rw [hm2] at h
    exact h
  have hGi : ¬ (G = i) := by omega
  have hGim : ¬ (G = i + 1) := by omega
  have hci : ¬ (c = i) := by omega
  have hbN : b ≠ w.heap.size := by omega
  have hdl : (cs.drop (i * 2)).length = (n - i) * 2 := by rw [List.length_drop, hcl]; omega
  have hcpB : ∀ (W : World), (∀ x, W.cell? x = (W1.setCells w.heap.size (i * 2) vs).cell? x) → (∀ x, W.frozen? x = (W1.setCells w.heap.size (i * 2) vs).frozen? x) → ∀ ty dc sc, (Builtin.copy_ #[34, 34] ty #[.slice (some ⟨w.heap.size, (i + 1) * 2, none⟩) (n - i) dc, .slice (some ⟨b, off + i * 2, none⟩) (n - i) sc]).run Proofs.Try.prog W = .ok (goInt ((n - i : Nat) : Int)) (W.setCells w.heap.size ((i + 1) * 2) (cs.drop (i * 2))) := fun W hWc hWf ty dc sc => by
    have h := copyN W 34 34 ty 53 2 w.heap.size ((i + 1) * 2) (n - i) dc ⟨b, off + i * 2, none⟩ (n - i) sc (cs.drop (i * 2)) ty34 sz53 (by rw [hdl, hm1])
      (fun j v hj => by
        rw [Addr.add_lit, hWc, World.cell?_setCells_out _ _ _ _ _ (fun h _ => absurd h hbN), Nat.add_assoc]
        exact hOb _ v (hcs (i * 2 + j) v (by rwa [List.getElem?_drop] at hj)))
      (fun j hj => by rw [hWc]; exact isSome_set _ _ _ _ (fun t ht => hN _ (by omega)) _ (hN _ (by omega)))
      (fun j hj => by rw [hWf, World.frozen?_setCells]; exact hNf _) (fun v hv => h1c v (List.mem_of_mem_drop hv))
    rw [hm1] at h
    exact h
  subst hW1
  have hE1 : ∀ x, ((w.alloc (.cells ROW 53)).drew).cell? x = (w.drew.alloc (.cells ROW 53)).cell? x := fun x => rfl
  have hE2 : ∀ x, ((w.alloc (.cells ROW 53)).drew).frozen? x = (w.drew.alloc (.cells ROW 53)).frozen? x := fun x => rfl
  have hF1 : ∀ x, (((w.alloc (.cells ROW 53)).drew.setCells w.heap.size (i * 2) vs).drew).cell? x = ((w.drew.alloc (.cells ROW 53)).setCells w.heap.size (i * 2) vs).cell? x := fun x => rfl
  have hF2 : ∀ x, (((w.alloc (.cells ROW 53)).drew.setCells w.heap.size (i * 2) vs).drew).frozen? x = ((w.drew.alloc (.cells ROW 53)).setCells w.heap.size (i * 2) vs).frozen? x := fun x => rfl
  have hw1 : IntKind.i64.wrap ((i : Int) + 1) = (i : Int) + 1 := by rw [IntKind.wrap_i64]; omega
  have hw2 : IntKind.i64.wrap ((n : Int) + 1) = (n : Int) + 1 := by rw [IntKind.wrap_i64]; omega
  have hw3 : IntKind.i64.wrap ((n : Int) + 1 - i) = (n : Int) + 1 - i := by rw [IntKind.wrap_i64]; omega
  have hb1 : (0 : Int) ≤ (i : Int) + 1 := by omega
  have hin : i ≤ n := by omega
  have htn : ((i : Int) + 1).toNat = i + 1 := by omega
  have htm : ((n : Int) + 1).toNat = n + 1 := by omega
  have hb3 : (i : Int) ≤ (n : Int) := by omega
  clear hkk hik hold hROW hG hRl
  go_enter Proofs.Try.func35, Proofs.Try.ntmps35
  go_wp2_with (first
    | (at_builtin; refine Lib.wpList_append_run _ rfl _ _ _ _ rfl _ _ rfl rfl _ _ (hrz _) ?_)
    | (at_builtin; refine wpList_copy _ rfl _ _ 34 34 rfl _ _ rfl rfl (hcpA _ hE1 hE2 _ _) ?_)
    | (at_builtin; refine wpList_copy _ rfl _ _ 34 34 rfl _ _ rfl rfl (hcpB _ (fun _ => rfl) (fun _ => rfl) _ _ _) ?_))
  go_region_law_o (refine step_copy rfl _ _ 34 34 rfl (.slice (some ⟨w.heap.size, (i + 1) * 2, none⟩) (n - i) (G - (i + 1))) (.slice (some ⟨b, off + i * 2, none⟩) (n - i) (c - i)) (by simp [Act.eval, Act.put]) (by simp [Act.eval, Act.put]) (hcpB _ hF1 hF2 3 (G - (i + 1)) (c - i)) ?_)
  go_wp2
  go_ret
  exact ⟨rfl, rfl⟩
end Go.V07

set_option linter.unusedSimpArgs false
set_option linter.unusedVariables false
namespace Go.V07
open Go Go.Vm

/-- What the instruction asks for. -/
theorem ins_inv {z bytes : Nat} {h h' : Heap} {ρ : Opd → VV} {s i e : Opd} {v : VV} (hs : stepI h ρ (.ins z bytes s i e) = some (v, h')) :
    ∃ el ex j, ρ e = .cv (.sl z [el] ex) ∧ ρ i = .cv (.sc (.int .i64 j)) ∧
      ((ρ s = .cv (.sc (.slice none 0 0)) ∧ j = 0 ∧ v = .own h.length 0 0 1 false ∧ h' = h ++ [.arr z [el] 0 false]) ∨
       (ρ s = .cv (.sl z [] true) ∧ j = 0 ∧ v = .own h.length 0 0 1 false ∧ h' = h ++ [.arr z [el] 0 false]) ∨
       ∃ id g len els, ρ s = .own id g 0 len false ∧ h[id]? = some (.arr z els g false) ∧ len ≤ els.length ∧ 0 ≤ j ∧ j ≤ len ∧ (len + 1) * bytes ≤ maxBytes ∧ len + 1 ≤ maxBytes ∧
         v = .own id (g + 1) 0 (len + 1) false ∧ h' = h.set id (.arr z ((els.take len).take j.toNat ++ el :: (els.take len).drop j.toNat) (g + 1) false)) := by
  simp only [stepI] at hs
  split at hs
  rotate_left
  · cases hs
  rename_i z1 el ex j he hi
  split at hs
  rotate_left
  · cases hs
  rename_i hz
  subst hz
  refine ⟨el, ex, j, he, hi, ?_⟩
  split at hs
  · rename_i e1
    split at hs
    · rename_i hj; cases hs; exact .inl ⟨e1, hj, rfl, rfl⟩
    · cases hs
  · rename_i z2 e1
    split at hs
    · rename_i hj; cases hs; obtain ⟨rfl, hj⟩ := hj; exact .inr (.inl ⟨e1, hj, rfl, rfl⟩)
    · cases hs
  · rename_i id g len e1
    split at hs
    · rename_i z' els g' ho
      split at hs
      · rename_i hc
        obtain ⟨rfl, rfl, h3, h4, h5, h6, h7⟩ := hc
        cases hs
        exact .inr (.inr ⟨id, g, len, els, e1, ho, h3, h4, h5, h6, h7, rfl, rfl⟩)
      · cases hs
    · cases hs
  · cases hs

theorem runx {call : CallSem} {n : Nat} {args : List VV} {h : Heap} {r : CRes} {h' : Heap} (hr : runFn (exec call n) f35x args h = some (r, h')) :
    ∃ a b c v, args = [a, b, c] ∧ r = .ret v ∧ stepI h (evalO [a, b, c]) (.ins 2 40 (.t 0) (.t 1) (.t 2)) = some (v, h') := by
  unfold runFn f35x at hr
  split at hr
  · cases hr
  rename_i hb
  simp only [exec, execOps, wantedV, stepO] at hr
  have hlen : args.length ≤ 3 := by
    have : Nat.ble args.length 3 = true := by simpa using hb
    exact Nat.le_of_ble_eq_true this
  match args, hlen with
  | [], _ => simp [stepI, evalO] at hr
  | [a], _ => simp [stepI, evalO] at hr
  | [a, b], _ => simp [stepI, evalO] at hr
  | [a, b, c], _ =>
    refine ⟨a, b, c, ?_⟩
    simp only [List.length_cons, List.length_nil, Nat.zero_add, Nat.reduceAdd, Nat.sub_self, List.replicate_zero, List.append_nil] at hr
    cases hq : stepI h (evalO [a, b, c]) (.ins 2 40 (.t 0) (.t 1) (.t 2)) with
    | none => rw [hq] at hr; simp at hr
    | some p =>
      obtain ⟨v, h1⟩ := p
      rw [hq] at hr
      simp [resAll, resOf, putD, pack] at hr
      obtain ⟨rfl, rfl⟩ := hr
      exact ⟨v, rfl, rfl, rfl⟩
/-! ### at the end: the small code of the text itself -/
def F1 : Nat → Option FnIR := fun n => match n with
  | 35 => some f35
  | _ => none
theorem tbl1 : TblOK Proofs.Try.prog F1 := by
  refine ⟨by kernel_rfl, fun f fn h => ?_⟩
  unfold F1 at h
  split at h
  · cases h; exact ⟨by decide, .inl ⟨_, _, _, Proofs.Try.func35, by kernel_rfl, f35_ok⟩⟩
  · cases h

theorem XO_appE {F : Nat → Option FnIR} {z by_ : Nat} {zero : List CV} {x y : Opd} {s : List VV} {h h1 : Heap} {d : Option Nat} {r : List Op1} {Q : Pst} {a c v : VV} (hx : evalO s x = a) (hy : evalO s y = c)
    (e : ∀ ρ : Opd → VV, ρ x = a → ρ y = c → stepI h ρ (.app z by_ zero x y) = some (v, h1)) (hk : XO F r ⟨putD s d v, h1⟩ Q) : XO F (⟨none, d, .app z by_ zero x y⟩ :: r) ⟨s, h⟩ Q := by
  rw [XO_ins rfl, e _ hx hy, XV_some]; exact hk

theorem end35 {h hq : Heap} {els : List (List CV)} {A v : VV} {el : List CV} {ex : Bool} (hv : VF h 2 els A) (hl : els.length ≤ 1000000000000)
    (e : ∀ (x y : Opd) (ρ : Opd → VV), ρ x = A → ρ y = .cv (.sl 2 [el] ex) → stepI h ρ (.app 2 40 [.sc (.string ⟨#[]⟩), .sc (.slice none 0 0)] x y) = some (v, hq)) :
    Ret F1 35 [A, vi .i64 (els.length : Nat), .cv (.sl 2 [el] ex)] h (Is v hq) := by
  refine call_E (fn := f35) rfl ?_
  simp only [f35]
  generalize hs0 : ([A, vi .i64 (els.length : Nat), .cv (.sl 2 [el] ex)] ++ List.replicate _ VV.undef : List VV) = s
  have hs : s.length = 95 := by rw [← hs0]; rfl
  have h0 : s.getD 0 .undef = A := by rw [← hs0]; rfl
  have h1 : s.getD 1 .undef = vi .i64 (els.length : Nat) := by rw [← hs0]; rfl
  have h2 : s.getD 2 .undef = .cv (.sl 2 [el] ex) := by rw [← hs0]; rfl
  clear hs0
  obtain ⟨w, w1, w2⟩ := hv.from_ (k := .i64) (n := els.length) (Nat.le_refl _)
  have c1 : ¬ ((([el] : List (List CV)).length : Nat) : Int) = 0 := by simp
  simp only [go_sem, Nat.reduceLT, Nat.reduceEqDiff, reduceCtorEq, Int.reduceLT, Int.reduceEq, hs, h0, h1, h2, w1]
  rw [X_eq f35_0.eq_1]
  simp only [go_sem, Nat.reduceLT, Nat.reduceEqDiff, reduceCtorEq, Int.reduceLT, Int.reduceEq, hs, c1, h0, hv.ln]
  rw [X_eq f35_1.eq_1]
  simp only [go_sem, Nat.reduceLT, Nat.reduceEqDiff, reduceCtorEq, Int.reduceLT, Int.reduceEq, hs, h1, h0, h2]
  refine XO_appE (a := A) (c := .cv (.sl 2 [el] ex)) (by simp only [go_sem, Nat.reduceLT, Nat.reduceEqDiff, reduceCtorEq, Int.reduceLT, Int.reduceEq, hs]) (by simp only [go_sem, Nat.reduceLT, Nat.reduceEqDiff, reduceCtorEq, Int.reduceLT, Int.reduceEq, hs]) (fun ρ => e _ _ ρ) ?_
  simp only [go_sem, Nat.reduceLT, Nat.reduceEqDiff, reduceCtorEq, Int.reduceLT, Int.reduceEq, hs]
  exact Is.refl _ _
end Go.V07

set_option linter.unusedSimpArgs false
set_option linter.unusedVariables false
namespace Go.V07
open Go Go.Vm

/-- What stands where, behind an element laid into a row of two cells each. -/
theorem cells_ins {σ : Stab} {els : List (List CV)} {el : List CV} {i len : Nat} {old new : Nat → Option Value}
    (ho : ∀ k e, els[k]? = some e → ∀ j c, e[j]? = some c → ∃ u, old (k * 2 + j) = some u ∧ CR σ u c) (h2 : ∀ e ∈ els, e.length = 2) (hel : el.length = 2)
    (hv : ∀ j c, el[j]? = some c → ∃ u, new (i * 2 + j) = some u ∧ CR σ u c) (hi : i ≤ len) (hlen : len ≤ els.length)
    (n1 : ∀ q, q < i * 2 → new q = old q) (n2 : ∀ q, i * 2 ≤ q → q < len * 2 → new (q + 2) = old q) :
    ∀ k e, ((els.take len).take i ++ el :: (els.take len).drop i)[k]? = some e → ∀ j c, e[j]? = some c → ∃ u, new (k * 2 + j) = some u ∧ CR σ u c := by
  intro k e hk j c hj
  have hl1 : ((els.take len).take i).length = i := by rw [List.length_take, List.length_take]; omega
  rw [List.getElem?_append, hl1] at hk
  split at hk
  · rename_i hlt
    rw [List.getElem?_take, if_pos hlt, List.getElem?_take, if_pos (by omega)] at hk
    have hj2 : j < 2 := by rw [← h2 e (List.mem_of_getElem? hk)]; exact (List.getElem?_eq_some_iff.1 hj).1
    obtain ⟨u, u1, u2⟩ := ho k e hk j c hj
    exact ⟨u, by rw [n1 _ (by omega)]; exact u1, u2⟩
  · rename_i hge
    by_cases hki : k = i
    · subst hki
      rw [Nat.sub_self, List.getElem?_cons_zero] at hk
      cases hk
      exact hv j c hj
    · obtain ⟨m, rfl⟩ : ∃ m, k = i + m + 1 := ⟨k - i - 1, by omega⟩
      rw [show i + m + 1 - i = m + 1 by omega, List.getElem?_cons_succ, List.getElem?_drop, List.getElem?_take] at hk
      split at hk
      · rename_i hlt
        have hj2 : j < 2 := by rw [← h2 e (List.mem_of_getElem? hk)]; exact (List.getElem?_eq_some_iff.1 hj).1
        obtain ⟨u, u1, u2⟩ := ho _ e hk j c hj
        refine ⟨u, ?_, u2⟩
        rw [show (i + m + 1) * 2 + j = ((i + m) * 2 + j) + 2 by omega, n2 _ (by omega) (by omega)]
        exact u1
      · cases hk

theorem cell_block {w : World} {b o : Nat} {v : Value} (h : w.cell? ⟨b, o, none⟩ = some v) : ∃ C E fz, w.heap[b]? = some (.cells C E fz) ∧ C[o]? = some v := by
  simp only [World.cell?] at h
  split at h
  · rename_i C E fz hC; exact ⟨C, E, fz, hC, by simpa using h⟩
  · cases h

theorem CR.one {σ : Stab} {v : Value} {c : CV} (h : CR σ v c) : v.oneCell' = true := by
  cases h with
  | sc _ hs => cases v <;> first | rfl | cases hs
  | sl => rfl

section
variable {prot : Nat → Prop} {σ : Stab} {β : Nat → Option Vm.Loc} {w : World} {h : Heap}
/-- slices.Insert, in the middle. -/
theorem mid35 {id g len : Nat} {els : List (List CV)} {el : List CV} {ex : Bool} {i : Nat} {X0 X1 X2 : Value} (hw : WR Proofs.Try.prog prot σ β h w) (hobj : h[id]? = some (.arr 2 els g false)) (hlen : len ≤ els.length) (hj : i < len) (hb : (len + 1) * 40 ≤ 35184372088832)
    (r0 : VR σ β X0 (.own id g 0 len false)) (r1 : VR σ β X1 (.cv (.sc (.int .i64 (i : Nat))))) (r2 : VR σ β X2 (.cv (.sl 2 [el] ex))) :
    Calls Proofs.Try.prog 35 #[X0, X1, X2] w (CPost Proofs.Try.prog prot σ β w (.ret (.own id (g + 1) 0 (len + 1) false)) (h.set id (.arr 2 ((els.take len).take i ++ el :: (els.take len).drop i) (g + 1) false))) := by
  obtain ⟨rfl, _⟩ := r1.sc_inv
  obtain ⟨L, hL, hO⟩ := hw.obj id _ hobj
  obtain ⟨o1, o2, o3, o4, o5, o6, ⟨C, E, fz, hC, hCs, hfz⟩, o8⟩ := hO
  have hfz : fz.1 = fz.2 := hfz.resolve_right (fun h => by omega)
  have hcell : ∀ k, w.cell? ⟨L.blk, k, none⟩ = C[k]? := fun k => by simp [World.cell?, hC]
  have hfrz : ∀ k, w.frozen? ⟨L.blk, k, none⟩ = false := fun k => by
    obtain ⟨lo, hi⟩ := fz
    have h : lo = hi := hfz
    subst h
    simp only [World.frozen?, hC]
    rw [← Bool.not_eq_true, Bool.and_eq_true, decide_eq_true_eq, decide_eq_true_eq]
    omega
  -- the row
  cases r0 with
  | own A' cap _ _ _ _ _ L' hL' hb' hg' hA' hc' hx' =>
  rw [hL] at hL'; cases hL'
  obtain ⟨a1, a2, a3, a4⟩ := hA' o2.symm
  have hcap0 : cap ≠ 0 := by omega
  have hA3 : A'.off = L.boff := by
    rcases a3 with a3 | a3
    · exact absurd a3 hcap0
    · rw [a3]; omega
  have hAe : A' = ⟨L.blk, L.boff, none⟩ := by obtain ⟨x, y, z⟩ := A'; simp only at a1 a2 hA3; rw [a1, a2, hA3]
  rw [hAe]
  rw [o3, Nat.zero_add] at a4
  have hcsz : L.boff + cap * 2 ≤ C.size := by rw [hCs]; exact a4
  -- the element
  cases r2 with
  | cv _ _ hcr =>
  generalize hsl : CV.sl 2 [el] ex = X at hcr
  cases hcr with
  | sc => cases hsl
  | sl A vc z els' ex' f hs hc hx hz hl hm hr =>
  cases hsl
  have hvc : vc ≠ 0 := by have : ([el] : List (List CV)).length = 1 := rfl; omega
  have hsp := hs.resolve_left hvc
  have hAe : A = ⟨A.block, A.off, none⟩ := by obtain ⟨x, y, z⟩ := A; simp only at hsp; rw [hsp]
  have hel : el.length = 2 := hl el (by simp)
  have hvr : ∀ j c, el[j]? = some c → CR σ (f 0 j) c := fun j c hj => hr 0 el rfl j c hj
  have hvm : ∀ j c, el[j]? = some c → σ ⟨A.block, A.off + j, none⟩ = some (f 0 j) := fun j c hj => by have := hm 0 el rfl j c hj; rwa [Nat.zero_mul, Nat.add_zero] at this
  have hj0 : ∃ c, el[0]? = some c := ⟨el[0], List.getElem?_eq_getElem (by omega)⟩
  have hj1 : ∃ c, el[1]? = some c := ⟨el[1], List.getElem?_eq_getElem (by omega)⟩
  obtain ⟨c0, hc0⟩ := hj0
  obtain ⟨c1, hc1⟩ := hj1
  obtain ⟨vs, hvs⟩ : ∃ vs : List Value, vs = [f 0 0, f 0 1] := ⟨_, rfl⟩
  have hvl : vs.length = 2 := by rw [hvs]; rfl
  have hvj : ∀ j v, vs[j]? = some v → ∃ c, el[j]? = some c ∧ v = f 0 j := by
    intro j v hv
    rw [hvs] at hv
    match j, hv with
    | 0, hv => exact ⟨c0, hc0, by simpa using hv.symm⟩
    | 1, hv => exact ⟨c1, hc1, by simpa using hv.symm⟩
    | j + 2, hv => simp at hv
  have hvj' : ∀ j c, el[j]? = some c → vs[j]? = some (f 0 j) := by
    intro j c hc
    have hlt := (List.getElem?_eq_some_iff.1 hc).1
    rw [hvs]
    match j, hlt with
    | 0, _ => rfl
    | 1, _ => rfl
    | j + 2, h => omega
  have hvs1 : ∀ j v, vs[j]? = some v → w.cell? ⟨A.block, A.off + j, none⟩ = some v := fun j v hv => by
    obtain ⟨c, hc, rfl⟩ := hvj j v hv
    exact hw.stab _ _ (hvm j c hc)
  have h1v : ∀ v ∈ vs, v.oneCell' = true := fun v hv => by
    obtain ⟨j, hj⟩ := List.getElem?_of_mem hv
    obtain ⟨c, hc, rfl⟩ := hvj j v hj
    exact CR.one (hvr j c hc)
  obtain ⟨CA, tA, fa, hCA, hCA0⟩ := cell_block (hvs1 0 (f 0 0) (by rw [hvs]; rfl))
  have hA0 : CA.size ≠ 0 := by have := (Array.getElem?_eq_some_iff.1 hCA0).1; omega
  have hlive := hw.live id _ L hobj rfl hL
  have hvb : A.block ≠ L.blk := by
    intro e
    have := hlive.2 ⟨A.block, A.off + 0, none⟩ e
    rw [hvm 0 c0 hc0] at this; cases this
  have hablt : A.block < w.heap.size := (Array.getElem?_eq_some_iff.1 hCA).1
  have hblt : L.blk < w.heap.size := (Array.getElem?_eq_some_iff.1 hC).1
  -- what stands in the row
  obtain ⟨cs, hcs⟩ : ∃ cs : List Value, cs = (C.toList.drop L.boff).take (len * 2) := ⟨_, rfl⟩
  have hcl : cs.length = len * 2 := by rw [hcs, List.length_take, List.length_drop, Array.length_toList]; omega
  have hcj : ∀ j, j < len * 2 → cs[j]? = C[L.boff + j]? := fun j hj => by rw [hcs, List.getElem?_take, if_pos hj, List.getElem?_drop, Array.getElem?_toList]
  have hcs1 : ∀ j v, cs[j]? = some v → w.cell? ⟨L.blk, L.boff + j, none⟩ = some v := fun j v hj => by
    have hlt := (List.getElem?_eq_some_iff.1 hj).1
    rw [hcell, ← hcj j (by omega)]; exact hj
  have ho : ∀ k e, els[k]? = some e → ∀ j c, e[j]? = some c → ∃ u, C[L.boff + (k * 2 + j)]? = some u ∧ CR σ u c := fun k e hk j c hj => by
    obtain ⟨u, u1, u2, _⟩ := o8 k e hk j c hj
    rw [hcell, Nat.add_assoc] at u1
    exact ⟨u, u1, u2⟩
  have h1c : ∀ v ∈ cs, v.oneCell' = true := fun v hv => by
    obtain ⟨q, hq⟩ := List.getElem?_of_mem hv
    have hlt := (List.getElem?_eq_some_iff.1 hq).1
    rw [hcj q (by omega)] at hq
    have hk : q / 2 < els.length := by omega
    have he := o5 els[q / 2] (List.getElem_mem hk)
    have hjj : q % 2 < els[q / 2].length := by omega
    obtain ⟨u, u1, u2⟩ := ho (q / 2) els[q / 2] (List.getElem?_eq_getElem hk) (q % 2) els[q / 2][q % 2] (List.getElem?_eq_getElem hjj)
    rw [show q / 2 * 2 + q % 2 = q by omega, hq] at u1
    cases u1
    exact CR.one u2
  have hnewl : ((els.take len).take i ++ el :: (els.take len).drop i).length = len + 1 := by
    rw [List.length_append, List.length_cons, List.length_take, List.length_drop, List.length_take]; omega
  have hall : ∀ e ∈ (els.take len).take i ++ el :: (els.take len).drop i, e.length = 2 := by
    intro e he
    rcases List.mem_append.1 he with he | he
    · exact o5 e (List.mem_of_mem_take (List.mem_of_mem_take he))
    · rcases List.mem_cons.1 he with rfl | he
      · exact hel
      · exact o5 e (List.mem_of_mem_take (List.mem_of_mem_drop he))
  rw [show (([el] : List (List CV)).length) = 1 from rfl, hAe]
  by_cases hroom : len + 1 ≤ cap
  · -- in its place
    have hB0 : C.size ≠ 0 := by omega
    refine (ins_shift L.blk L.boff len cap i A.block A.off vc cs vs w hj hroom (by omega) hvb hcl hvl hcs1 (fun j hj => by rw [hcell, Array.getElem?_eq_getElem (by omega)]; rfl) (fun j => hfrz _) hvs1 h1c h1v CA C tA E fa fz hCA hC hA0 hB0 hfz).mono ?_
    rintro e w' ⟨rfl, rfl⟩
    have hdl : (cs.drop (i * 2)).length = (len - i) * 2 := by rw [List.length_drop, hcl]; omega
    obtain ⟨p1, p2, p3, C1, p4, p5, p6⟩ := setCells_facts L.blk (cs.drop (i * 2)) (L.boff + (i + 1) * 2) w.drew C E fz hC (by omega)
    obtain ⟨q1, q2, q3, C2, q4, q5, q6⟩ := setCells_facts L.blk vs (L.boff + i * 2) (w.drew.setCells L.blk (L.boff + (i + 1) * 2) (cs.drop (i * 2))) C1 E fz p4 (by omega)
    obtain ⟨W, hW⟩ : ∃ W, W = (w.drew.setCells L.blk (L.boff + (i + 1) * 2) (cs.drop (i * 2))).setCells L.blk (L.boff + i * 2) vs := ⟨_, rfl⟩
    rw [← hW] at q1 q2 q3 q4 ⊢
    have hcalm : Vm.Calm w W := ⟨by rw [q1.os, p1.os]; rfl, by rw [q1.tape, p1.tape]; rfl, by rw [q1.output, p1.output]; rfl⟩
    have hsz : W.heap.size = w.heap.size := by rw [q2, p2]; rfl
    have hrest : ∀ k, k ≠ L.blk → W.heap[k]? = w.heap[k]? := fun k hk => by rw [q3 k hk, p3 k hk]; rfl
    have hWc : ∀ k, W.cell? ⟨L.blk, k, none⟩ = C2[k]? := fun k => by simp [World.cell?, q4]
    have key := cells_ins (σ := σ) (els := els) (el := el) (i := i) (len := len) (old := fun q => C[L.boff + q]?) (new := fun q => C2[L.boff + q]?) ho o5 hel
      (fun j c hj => by
        have hlt := (List.getElem?_eq_some_iff.1 hj).1
        refine ⟨f 0 j, ?_, hvr j c hj⟩
        show C2[L.boff + (i * 2 + j)]? = _
        rw [q6, if_pos (by omega), show L.boff + (i * 2 + j) - (L.boff + i * 2) = j by omega]
        exact hvj' j c hj) (by omega) hlen
      (fun q hq => by
        show C2[L.boff + q]? = C[L.boff + q]?
        rw [q6, if_neg (by omega), p6, if_neg (by omega)])
      (fun q h1 h2 => by
        show C2[L.boff + (q + 2)]? = C[L.boff + q]?
        rw [q6, if_neg (by omega), p6, if_pos (by omega), List.getElem?_drop, ← hcj q h2]
        congr 1; omega)
    obtain ⟨β', hF, hW', hβ, _⟩ := hw.upd hcalm id (o' := .arr 2 ((els.take len).take i ++ el :: (els.take len).drop i) (g + 1) false) (L' := { L with g := g + 1 }) hobj rfl hL (by rw [hsz]; exact Nat.le_refl _) (fun b _ hb => hrest b hb) (.inr ⟨o1, o1, by simp only; omega⟩) (.inl rfl) (by
      intro β' hbet hβ hF
      refine ⟨o1, rfl, o3, o4, hall, by rw [hnewl]; simp only; omega, ⟨C2, E, fz, q4, by simp only; omega, .inl hfz⟩, fun k e hk j c hj => ?_⟩
      obtain ⟨u, u1, u2⟩ := key k e hk j c hj
      exact ⟨u, by simp only; rw [hWc, Nat.add_assoc]; exact u1, u2, fun e => by cases e⟩)
    refine ⟨σ, β', _, hF, hW', .inl ⟨_, rfl, rfl, ?_⟩⟩
    exact .own _ _ _ _ _ _ _ _ hβ o1 (Nat.le_refl _) (fun _ => ⟨rfl, rfl, .inr (by simp), by simp only [Nat.zero_add]; rw [o3]; exact a4⟩) hroom (fun e => by cases e)
  · -- moved
    obtain ⟨Z, G, hG, hZ, hcall⟩ := ins_grow L.blk L.boff len cap i A.block A.off vc cs vs w hj hc' (by omega) (by omega) hcl hvl hcs1 hvs1 h1c h1v
    refine hcall.mono ?_
    rintro e w' ⟨rfl, rfl⟩
    have hdl : (cs.drop (i * 2)).length = (len - i) * 2 := by rw [List.length_drop, hcl]; omega
    have htl : (cs.take (i * 2)).length = i * 2 := by rw [List.length_take, hcl]; omega
    obtain ⟨R, hR⟩ : ∃ R : Array Value, R = (cs.take (i * 2)).toArray ++ Z := ⟨_, rfl⟩
    have hRs : R.size = G * 2 := by rw [hR, Array.size_append, hZ, List.size_toArray, htl]; omega
    rw [← hR]
    have hN0 : ((w.alloc (.cells R 53)).drew).heap[w.heap.size]? = some (.cells R 53 (0, 0)) := by
      show (w.heap.push (.cells R 53))[w.heap.size]? = _
      rw [Array.getElem?_push, if_pos rfl]
    obtain ⟨p1, p2, p3, C1, p4, p5, p6⟩ := setCells_facts w.heap.size vs (i * 2) ((w.alloc (.cells R 53)).drew) R 53 (0, 0) hN0 (by omega)
    obtain ⟨q1, q2, q3, C2, q4, q5, q6⟩ := setCells_facts w.heap.size (cs.drop (i * 2)) ((i + 1) * 2) (((w.alloc (.cells R 53)).drew.setCells w.heap.size (i * 2) vs).drew) C1 53 (0, 0) p4 (by omega)
    obtain ⟨W, hW⟩ : ∃ W, W = (((w.alloc (.cells R 53)).drew.setCells w.heap.size (i * 2) vs).drew).setCells w.heap.size ((i + 1) * 2) (cs.drop (i * 2)) := ⟨_, rfl⟩
    rw [← hW] at q1 q2 q3 q4 ⊢
    have hcalm : Vm.Calm w W := ⟨by rw [q1.os]; show (((w.alloc (.cells R 53)).drew).setCells _ _ _).os = _; rw [p1.os]; rfl, by rw [q1.tape]; show (((w.alloc (.cells R 53)).drew).setCells _ _ _).tape = _; rw [p1.tape]; rfl, by rw [q1.output]; show (((w.alloc (.cells R 53)).drew).setCells _ _ _).output = _; rw [p1.output]; rfl⟩
    have hsz : W.heap.size = w.heap.size + 1 := by
      rw [q2]; show (((w.alloc (.cells R 53)).drew).setCells _ _ _).heap.size = _; rw [p2]; show (w.heap.push (.cells R 53)).size = _; rw [Array.size_push]
    have hrest : ∀ k, k < w.heap.size → W.heap[k]? = w.heap[k]? := fun k hk => by
      rw [q3 k (by omega)]; show (((w.alloc (.cells R 53)).drew).setCells _ _ _).heap[k]? = _; rw [p3 k (by omega)]; show (w.heap.push (.cells R 53))[k]? = _; rw [Array.getElem?_push, if_neg (Nat.ne_of_lt hk)]
    have hWc : ∀ k, W.cell? ⟨w.heap.size, k, none⟩ = C2[k]? := fun k => by simp [World.cell?, q4]
    have key := cells_ins (σ := σ) (els := els) (el := el) (i := i) (len := len) (old := fun q => C[L.boff + q]?) (new := fun q => C2[q]?) ho o5 hel
      (fun j c hj => by
        have hlt := (List.getElem?_eq_some_iff.1 hj).1
        refine ⟨f 0 j, ?_, hvr j c hj⟩
        show C2[i * 2 + j]? = _
        rw [q6, if_neg (by omega), p6, if_pos (by omega), show i * 2 + j - i * 2 = j by omega]
        exact hvj' j c hj) (by omega) hlen
      (fun q hq => by
        show C2[q]? = C[L.boff + q]?
        rw [q6, if_neg (by omega), p6, if_neg (by omega), hR, Array.getElem?_append, List.size_toArray, htl, if_pos hq, List.getElem?_toArray, List.getElem?_take, if_pos hq, hcj q (by omega)])
      (fun q h1 h2 => by
        show C2[q + 2]? = C[L.boff + q]?
        rw [q6, if_pos (by omega), List.getElem?_drop, ← hcj q h2]
        congr 1; omega)
    obtain ⟨β', hF, hW', hβ, _⟩ := hw.upd hcalm id (o' := .arr 2 ((els.take len).take i ++ el :: (els.take len).drop i) (g + 1) false) (L' := ⟨w.heap.size, 0, g + 1, 2, R.size, false⟩) hobj rfl hL (by rw [hsz]; omega) (fun b hb _ => hrest b hb) (.inr ⟨o1, rfl, by simp only; omega⟩) (.inr (Nat.le_refl _)) (by
      intro β' hbet hβ hF
      refine ⟨rfl, rfl, rfl, o4, hall, by rw [hnewl]; simp only; omega, ⟨C2, 53, (0, 0), q4, by simp only; omega, .inl rfl⟩, fun k e hk j c hj => ?_⟩
      obtain ⟨u, u1, u2⟩ := key k e hk j c hj
      exact ⟨u, by simp only; rw [hWc, Nat.zero_add]; exact u1, u2, fun e => by cases e⟩)
    refine ⟨σ, β', _, hF, hW', .inl ⟨_, rfl, rfl, ?_⟩⟩
    exact .own _ _ _ _ _ _ _ _ hβ rfl (Nat.le_refl _) (fun _ => ⟨rfl, rfl, .inr (by simp), by simp only [Nat.zero_add]; omega⟩) hG (fun e => by cases e)
end

theorem args3 {rargs : Array Value} (h : rargs.size = 3) : ∃ X0 X1 X2, rargs = #[X0, X1, X2] := by
  obtain ⟨l⟩ := rargs
  match l, h with
  | [X0, X1, X2], _ => exact ⟨X0, X1, X2, rfl⟩

/-- slices.Insert is what its instruction says. -/
theorem nat35 : NatOK Proofs.Try.prog 35 f35x := by
  refine ⟨⟨_, Proofs.Try.func35, by kernel_rfl, by kernel_rfl⟩, fun call n args h r h' hc hr rargs prot σ β w hl hrel hw => ?_⟩
  obtain ⟨a, b, c, v, rfl, rfl, hst⟩ := runx hr
  obtain ⟨el, ex, j, he, hi, hcase⟩ := ins_inv hst
  have he : c = .cv (.sl 2 [el] ex) := he
  have hi : b = .cv (.sc (.int .i64 j)) := hi
  subst he hi
  have fin : Ret F1 35 [a, .cv (.sc (.int .i64 j)), .cv (.sl 2 [el] ex)] h (Is v h') → Calls Proofs.Try.prog 35 rargs w (CPost Proofs.Try.prog prot σ β w (.ret v) h') := by
    rintro ⟨v1, h1, hcall, rfl, rfl⟩
    obtain ⟨m, hm⟩ := call_iff.mp hcall
    exact (callF_sound tbl1 m).go 35 _ h _ _ (by decide) hm rargs prot σ β w hl hrel hw
  rcases hcase with ⟨ha, rfl, rfl, rfl⟩ | ⟨ha, rfl, rfl, rfl⟩ | ⟨id, g, len, els, ha, hobj, h3, h4, h5, h6, h7, rfl, rfl⟩
  · have ha : a = nilS := ha
    subst ha
    exact fin (end35 (els := []) VF.nil (by simp) (fun x y ρ hx hy => by simp [stepI, hx, hy, nilS, srcOf, elsOf, lenV, maxBytes]))
  · have ha : a = .cv (.sl 2 [] true) := ha
    subst ha
    exact fin (end35 (els := []) (.inl (.inr ⟨true, rfl⟩)) (by simp) (fun x y ρ hx hy => by simp [stepI, hx, hy, srcOf, elsOf, lenV, maxBytes]))
  · have ha : a = .own id g 0 len false := ha
    subst ha
    have hm : maxBytes = 35184372088832 := rfl
    rw [hm] at h6 h7
    obtain ⟨i, rfl⟩ : ∃ i : Nat, j = (i : Int) := ⟨j.toNat, by omega⟩
    rw [Int.toNat_natCast] at fin ⊢
    by_cases hj : i = len
    · subst hj
      have hl1 : (els.take i).length = i := by rw [List.length_take]; omega
      have hV : VF h 2 (els.take i) (.own id g 0 (els.take i).length false) := .inr ⟨id, g, 0, false, false, els, rfl, hobj, by omega, by rw [List.drop_zero, hl1]⟩
      have := end35 (el := el) (ex := ex) (v := .own id (g + 1) 0 (i + 1) false) (hq := h.set id (.arr 2 ((els.take i).take i ++ el :: (els.take i).drop i) (g + 1) false)) hV (by omega) (fun x y ρ hx hy => by
        simp [stepI, hx, hy, srcOf, elsOf, lenV, hm, hobj, h3, h6, h7, hl1, List.take_take])
      rw [hl1] at this
      exact fin this
    · obtain ⟨X0, X1, X2, rfl⟩ := args3 hl
      exact mid35 hw hobj h3 (by omega) h6 (hrel 0 X0 _ rfl rfl) (hrel 1 X1 _ rfl rfl) (hrel 2 X2 _ rfl rfl)

theorem tbl : TblOK Proofs.Try.prog F := tbl0 nat35
end Go.V07

set_option linter.unusedSimpArgs false
set_option linter.unusedVariables false
namespace Go.V07
open Go Go.Vm

/-- Apply, of whatever. -/
theorem apply_any {els elsC : List (List CV)} {l : List KV} {cs : List Ch} {u uc : VV} (hu : SlV 2 els u) (hR : RowsE els l) (hl : l.length ≤ 100000) (hC : ChsE elsC cs) (huc : SlV 3 elsC uc) (hcl : cs.length ≤ 100000) (hval : ∀ x ∈ cs, x.2.1.length ≤ 1000000000) :
    RetP F 18 [u, uc] fun w => ∃ els', SlV 2 els' w ∧ RowsE els' (applyF l cs) :=
  apply_f18 (G := True) insC hu hR hl hC huc hcl hval (.inl trivial)

end Go.V07

set_option linter.unusedSimpArgs false
set_option linter.unusedVariables false
namespace Go.V07
open Go Go.Vm

theorem mem_layS (r : KV) : ∀ (l : List KV) (b : Bool), ∀ q ∈ (layS r l b).1, q ∈ l ∨ q = r
  | [], b, q, h => by simp [layS] at h
  | p :: t, b, q, h => by
    unfold layS at h
    split at h
    · rcases mem_layS r t b q h with h | h
      · exact .inl (List.mem_cons_of_mem _ h)
      · exact .inr h
    · split at h
      · rcases List.mem_cons.1 h with h | h
        · exact .inr h
        · rcases List.mem_cons.1 h with h | h
          · exact .inl (by rw [h]; simp)
          · rcases mem_layS r t true q h with h | h
            · exact .inl (List.mem_cons_of_mem _ h)
            · exact .inr h
      · rcases List.mem_cons.1 h with h | h
        · exact .inl (by rw [h]; simp)
        · rcases mem_layS r t b q h with h | h
          · exact .inl (List.mem_cons_of_mem _ h)
          · exact .inr h
theorem mem_layF (r : KV) (l : List KV) : ∀ q ∈ layF l r, q ∈ l ∨ q = r := by
  intro q h
  unfold layF at h
  split at h
  · exact mem_layS r l false q h
  · rcases List.mem_append.1 h with h | h
    · exact mem_layS r l false q h
    · exact .inr (by simpa using h)
theorem mem_fold : ∀ (L acc : List KV), ∀ q ∈ L.foldl layF acc, q ∈ acc ∨ q ∈ L
  | [], acc, q, h => .inl h
  | r :: L, acc, q, h => by
    rcases mem_fold L (layF acc r) q h with h | h
    · rcases mem_layF r acc q h with h | h
      · exact .inl h
      · exact .inr (by rw [h]; simp)
    · exact .inr (List.mem_cons_of_mem _ h)
theorem risL_fits (n : Nat) (c : List UInt8) : ∀ r ∈ risL n c, r.1.length ≤ 30 ∧ r.2.length ≤ 150 := by
  intro r hr
  rcases mem_fold _ _ r hr with h | h
  · cases h
  · exact rowL_fits n c r h
theorem delta_len (x y : Option KV) : (delta x y).length ≤ 1 := by
  unfold delta; split <;> try simp
  split <;> simp
theorem diffP_len : ∀ (n : Nat) (a b : List KV), (diffP n a b).length ≤ n
  | 0, a, b => by unfold diffP; simp
  | n + 1, [], [] => by show ([] : List Ch).length ≤ _; simp
  | n + 1, x :: a, [] => by
    show (delta (some x) none ++ diffP n a []).length ≤ _
    have := diffP_len n a []; have := delta_len (some x) none; rw [List.length_append]; omega
  | n + 1, [], y :: b => by
    show (delta none (some y) ++ diffP n [] b).length ≤ _
    have := diffP_len n [] b; have := delta_len none (some y); rw [List.length_append]; omega
  | n + 1, x :: a, y :: b => by
    show (if bl_le x.1 y.1 = true then (if y.1 = x.1 then delta (some x) (some y) ++ diffP n a b else delta (some x) none ++ diffP n a (y :: b)) else delta none (some y) ++ diffP n (x :: a) b).length ≤ _
    split
    · split
      · have := diffP_len n a b; have := delta_len (some x) (some y); rw [List.length_append]; omega
      · have := diffP_len n a (y :: b); have := delta_len (some x) none; rw [List.length_append]; omega
    · have := diffP_len n (x :: a) b; have := delta_len none (some y); rw [List.length_append]; omega

section
variable {a b : List KV} {x : List Ch} {ea eb ex : List (List CV)} {ua ub ux : VV}
end

end Go.V07

set_option linter.unusedSimpArgs false
set_option linter.unusedVariables false
namespace Go.V07
open Go Go.Vm

theorem layS_t2 (r : KV) : ∀ l : List KV, (layS r l true).2 = true
  | [] => by simp [layS]
  | p :: t => by
    have h := layS_t2 r t
    unfold layS
    split
    · exact h
    · split
      · exact h
      · exact h
theorem mem_layS' (r q : KV) : ∀ (l : List KV) (b : Bool), q ∈ (layS r l b).1 ↔ (q ∈ l ∧ q.1 ≠ r.1) ∨ (q = r ∧ b = false ∧ (layS r l b).2 = true)
  | [], b => by cases b <;> simp [layS]
  | p :: t, b => by
    have h := mem_layS' r q t b
    have ht := mem_layS' r q t true
    have h2 := layS_t2 r t
    unfold layS
    by_cases c1 : p.1 = r.1
    · rw [if_pos c1, h]
      constructor
      · rintro (⟨e1, e2⟩ | e)
        · exact .inl ⟨List.mem_cons_of_mem _ e1, e2⟩
        · exact .inr e
      · rintro (⟨e1, e2⟩ | e)
        · rcases List.mem_cons.1 e1 with e | e
          · rw [e] at e2; exact absurd c1 e2
          · exact .inl ⟨e, e2⟩
        · exact .inr e
    · rw [if_neg c1]
      by_cases c2 : b = false ∧ Op.bytesLess r.1 p.1 = true
      · rw [if_pos c2]
        show q ∈ r :: p :: (layS r t true).1 ↔ _ ∨ (_ ∧ _ ∧ (layS r t true).2 = true)
        rw [List.mem_cons, List.mem_cons, ht]
        constructor
        · rintro (e | e | ⟨e1, e2⟩ | ⟨_, e, _⟩)
          · exact .inr ⟨e, c2.1, h2⟩
          · exact .inl ⟨by rw [e]; simp, by rw [e]; exact c1⟩
          · exact .inl ⟨List.mem_cons_of_mem _ e1, e2⟩
          · cases e
        · rintro (⟨e1, e2⟩ | ⟨e, _, _⟩)
          · rcases List.mem_cons.1 e1 with e | e
            · exact .inr (.inl e)
            · exact .inr (.inr (.inl ⟨e, e2⟩))
          · exact .inl e
      · rw [if_neg c2]
        show q ∈ p :: (layS r t b).1 ↔ _ ∨ (_ ∧ _ ∧ (layS r t b).2 = true)
        rw [List.mem_cons, h]
        constructor
        · rintro (e | ⟨e1, e2⟩ | e)
          · exact .inl ⟨by rw [e]; simp, by rw [e]; exact c1⟩
          · exact .inl ⟨List.mem_cons_of_mem _ e1, e2⟩
          · exact .inr e
        · rintro (⟨e1, e2⟩ | e)
          · rcases List.mem_cons.1 e1 with e | e
            · exact .inl e
            · exact .inr (.inl ⟨e, e2⟩)
          · exact .inr (.inr e)
theorem mem_layF' (r q : KV) (l : List KV) : q ∈ layF l r ↔ q = r ∨ (q ∈ l ∧ q.1 ≠ r.1) := by
  have h := mem_layS' r q l false
  unfold layF
  cases hb : (layS r l false).2 with
  | true =>
    rw [if_pos rfl, h, hb]
    constructor
    · rintro (e | ⟨e, _, _⟩)
      · exact .inr e
      · exact .inl e
    · rintro (e | e)
      · exact .inr ⟨e, rfl, rfl⟩
      · exact .inl e
  | false =>
    rw [if_neg (by decide), List.mem_append, h, hb]
    constructor
    · rintro ((e | ⟨_, _, e⟩) | e)
      · exact .inr e
      · cases e
      · exact .inl (by simpa using e)
    · rintro (e | e)
      · exact .inr (by simpa using e)
      · exact .inl (.inl e)

/-- The document's step. -/
def rstep (l : List KV) (x : Ch) : List KV := if x.2.2 = true then lessK l x.1 else layF l (x.1, x.2.1)
theorem rstep_eq {l : List KV} (h : Srt l) (x : Ch) : rstep l x = stepA l x := by
  by_cases hg : x.2.2 = true
  · unfold rstep stepA; rw [if_pos hg, if_pos hg]
  · have e : rstep l x = layF l (x.1, x.2.1) := by unfold rstep; rw [if_neg hg]
    rw [e]
    refine srt_ext (layF_srt _ h) (stepA_srt h x) fun r => ?_
    rw [mem_layF', mem_stepA]
    have hg' : x.2.2 = false := by simpa using hg
    by_cases hk : x.1 = r.1
    · rw [if_pos hk]
      constructor
      · rintro (e | ⟨_, e⟩)
        · exact ⟨hg', e⟩
        · exact absurd hk.symm e
      · exact fun e => .inl e.2
    · rw [if_neg hk]
      constructor
      · rintro (e | ⟨e, _⟩)
        · rw [e] at hk; exact absurd rfl hk
        · exact e
      · exact fun e => .inr ⟨e, fun e2 => hk e2.symm⟩
theorem rfold_eq : ∀ (c : List Ch) {l : List KV}, Srt l → c.foldl rstep l = applyF l c
  | [], _, _ => rfl
  | x :: c, l, h => by
    show c.foldl rstep (rstep l x) = applyF (stepA l x) c
    rw [rstep_eq h]
    exact rfold_eq c (stepA_srt h x)
theorem rstep_len (l : List KV) (x : Ch) : (rstep l x).length ≤ l.length + 2 := by
  unfold rstep
  split
  · have := lessK_len l x.1; omega
  · have h := layS_len (x.1, x.2.1) l false
    unfold layF
    split
    · omega
    · rw [List.length_append, List.length_singleton]; omega

section
variable {cs : List Ch} {elsC : List (List CV)} {uc : VV} {h : Heap}
theorem f19_loop (hC : ChsE elsC cs) (huc : SlV 3 elsC uc) (hcl : cs.length ≤ 100000) :
    ∀ (m i : Nat) (l : List KV) (els : List (List CV)) (u : VV) (s : List VV) (Q : Pst), i + m = cs.length → l.length ≤ 100000 + 2 * i → SlV 2 els u → RowsE els l → s.length = 38 → s.getD 0 .undef = u → s.getD 1 .undef = uc → s.getD 5 .undef = vi .i64 i →
      (∀ s' els' u', s'.length = 38 → s'.getD 0 .undef = u' → SlV 2 els' u' → RowsE els' ((cs.drop i).foldl rstep l) → Q (.exit 0) ⟨s', h⟩) → X F (.loop f19_0) ⟨s, h⟩ Q := by
  intro m
  have hpl := hC.len
  induction m with
  | zero =>
    intro i l els u s Q hi hl hu hR hs e0 e1 e5 hQ
    have c : ¬ ((i : Nat) : Int) < (elsC.length : Int) := by omega
    rw [X_loop, X_eq f19_0.eq_1]
    simp only [go_sem, Nat.reduceLT, Nat.reduceEqDiff, reduceCtorEq, Int.reduceLT, Int.reduceEq, hs, e1, e5, huc.ln, c]
    exact hQ _ els u (by simp only [slot_len, hs]) (by simp only [go_sem, Nat.reduceLT, Nat.reduceEqDiff, reduceCtorEq, Int.reduceLT, Int.reduceEq, e0]) hu (by rw [List.drop_eq_nil_of_le (by omega)]; exact hR)
  | succ m ih =>
    intro i l els u s Q hi hl hu hR hs e0 e1 e5 hQ
    have c : ((i : Nat) : Int) < (elsC.length : Int) := by omega
    obtain ⟨e, x, he, hx, cc, rfl, hcx⟩ := hC.get (i := i) (by omega)
    have hd : cs.drop i = x :: cs.drop (i + 1) := by
      obtain ⟨la, e⟩ := List.getElem?_eq_some_iff.1 hx
      rw [List.drop_eq_getElem_cons la, e]
    rw [hd] at hQ
    have hrl := rstep_len l x
    have ia : iaO h 3 uc (vi .i64 (i : Int)) = some (.rptr [.sc (.string ⟨x.1.toArray⟩), cc, .sc (.bool x.2.2)], h) := huc.ia (by omega) (by rw [Int.toNat_natCast]; exact he)
    have w5 : IntKind.i64.wrap ((i : Int) + 1) = ((i + 1 : Nat) : Int) := by rw [IntWalk.i64_in _ (by omega)]; omega
    rw [X_loop, X_eq f19_0.eq_1]
    cases hg : x.2.2 with
    | true =>
      have er : rstep l x = lessK l x.1 := by unfold rstep; rw [if_pos hg]
      rw [hg] at ia
      obtain ⟨v, g, n1, w, r1, els', S, R⟩ := without_f37 (key := x.1) hu hR (by omega)
      rw [← er] at R
      simp only [go_sem, Nat.reduceLT, Nat.reduceEqDiff, reduceCtorEq, Int.reduceLT, Int.reduceEq, hs, e0, e1, e5, huc.ln, c, ia]
      refine XO_callP (h1 := h) (by simp only [List.map, go_sem, Nat.reduceLT, Nat.reduceEqDiff, reduceCtorEq, Int.reduceLT, Int.reduceEq, hs]; exact hu.clos (clos_cv clos_nil)) n1 r1 ?_
      simp only [go_sem, Nat.reduceLT, Nat.reduceEqDiff, reduceCtorEq, Int.reduceLT, Int.reduceEq, hs, e5, w5]
      exact ih (i + 1) (rstep l x) els' w _ Q (by omega) (by omega) S R (by simp only [slot_len, hs]) (by simp only [go_sem, Nat.reduceLT, Nat.reduceEqDiff, reduceCtorEq, Int.reduceLT, Int.reduceEq, hs]) (by simp only [go_sem, Nat.reduceLT, Nat.reduceEqDiff, reduceCtorEq, Int.reduceLT, Int.reduceEq, e1]) (by simp only [go_sem, Nat.reduceLT, Nat.reduceEqDiff, reduceCtorEq, Int.reduceLT, Int.reduceEq, hs]) hQ
    | false =>
      have er : rstep l x = layF l (x.1, x.2.1) := by unfold rstep; rw [if_neg (by rw [hg]; decide)]
      rw [hg] at ia
      obtain ⟨v, g, n1, w, r1, els', S, R⟩ := put_pure (r := (x.1, x.2.1)) hu hR (by omega) hcx
      rw [← er] at R
      have bd : ∀ c : CV, bdO [.cv (.sc (.string ⟨#[]⟩)), .cv (.sc (.slice none 0 0))] [(0, 1, txt x.1), (1, 1, .cv c)] = some (.agg [txt x.1, .cv c]) := fun c => rfl
      simp only [go_sem, Nat.reduceLT, Nat.reduceEqDiff, reduceCtorEq, Int.reduceLT, Int.reduceEq, hs, e0, e1, e5, huc.ln, c, ia]
      refine X_draw rfl ?_
      simp only [go_sem, Nat.reduceLT, Nat.reduceEqDiff, reduceCtorEq, Int.reduceLT, Int.reduceEq, hs, e0, e1, e5, ia, bd]
      refine XD_callP (by simp only [List.map, go_sem, Nat.reduceLT, Nat.reduceEqDiff, reduceCtorEq, Int.reduceLT, Int.reduceEq, hs]; exact hu.clos (closAs_cons (h1 := h) (c := .agg [txt x.1, .cv cc]) rfl rfl)) n1 r1 ?_
      simp only [go_sem, Nat.reduceLT, Nat.reduceEqDiff, reduceCtorEq, Int.reduceLT, Int.reduceEq, hs, e5, w5]
      exact ih (i + 1) (rstep l x) els' w _ Q (by omega) (by omega) S R (by simp only [slot_len, hs]) (by simp only [go_sem, Nat.reduceLT, Nat.reduceEqDiff, reduceCtorEq, Int.reduceLT, Int.reduceEq, hs]) (by simp only [go_sem, Nat.reduceLT, Nat.reduceEqDiff, reduceCtorEq, Int.reduceLT, Int.reduceEq, e1]) (by simp only [go_sem, Nat.reduceLT, Nat.reduceEqDiff, reduceCtorEq, Int.reduceLT, Int.reduceEq, hs]) hQ

theorem rapply_f19 (hC : ChsE elsC cs) (huc : SlV 3 elsC uc) (hcl : cs.length ≤ 100000) {l : List KV} {els : List (List CV)} {u : VV} (hu : SlV 2 els u) (hR : RowsE els l) (hl : l.length ≤ 100000) (hs : Srt l) : RetP F 19 [u, uc] fun w => ∃ els', SlV 2 els' w ∧ RowsE els' (applyF l cs) := by
  have : Ret F 19 [u, uc] [] fun v g => ∃ els', SlV 2 els' v ∧ RowsE els' (cs.foldl rstep l) := by
    have hsrt := hs
    clear hs
    refine call_E (fn := f19) rfl ?_
    simp only [f19]
    generalize hs0 : ([u, uc] ++ List.replicate _ VV.undef : List VV) = s
    have hs : s.length = 38 := by rw [← hs0]; rfl
    have h0 : s.getD 0 .undef = u := by rw [← hs0]; rfl
    have h1 : s.getD 1 .undef = uc := by rw [← hs0]; rfl
    clear hs0
    simp only [go_sem, Nat.reduceLT, Nat.reduceEqDiff, reduceCtorEq, Int.reduceLT, Int.reduceEq, hs]
    refine f19_loop hC huc hcl cs.length 0 l els u _ _ (by omega) (by omega) hu hR (by simp only [slot_len, hs]) (by simp only [go_sem, Nat.reduceLT, Nat.reduceEqDiff, reduceCtorEq, Int.reduceLT, Int.reduceEq, h0]) (by simp only [go_sem, Nat.reduceLT, Nat.reduceEqDiff, reduceCtorEq, Int.reduceLT, Int.reduceEq, h1]) (by simp only [go_sem, Nat.reduceLT, Nat.reduceEqDiff, reduceCtorEq, Int.reduceLT, Int.reduceEq, hs]; rfl) (fun s' els' u' a1 a2 a3 a4 => ?_)
    rw [List.drop_zero] at a4
    simp only [go_sem, Nat.reduceLT, Nat.reduceEqDiff, reduceCtorEq, Int.reduceLT, Int.reduceEq, a1, a2]
    exact ⟨els', a3, a4⟩
  obtain ⟨v, g, n1, els', S, R⟩ := this
  rw [rfold_eq cs hs] at R
  exact ⟨v, g, n1, v, (by rcases S with ⟨rfl, _⟩ | ⟨ex, rfl⟩ <;> rfl), els', S, R⟩
end
end Go.V07

set_option linter.unusedSimpArgs false
set_option linter.unusedVariables false
namespace Go.V07
open Go Go.Vm

/-! ### the document's Diff -/
def fdR : List KV → List UInt8 → Option KV
  | [], _ => none
  | r :: l, k => if r.1 = k then some r else fdR l k
/-- What find gives. -/
def FoundV (o : Option KV) (v : VV) : Prop := match o with
  | none => v = .tup [.agg [txt [], nilS], vb false]
  | some r => ∃ c, v = .tup [.agg [txt r.1, .cv c], vb true] ∧ SlV 1 (eB r.2) (.cv c)

theorem f41_loop {l : List KV} {els : List (List CV)} {u : VV} {key : List UInt8} (hu : SlV 2 els u) (hR : RowsE els l) (hn : l.length ≤ 1000000) {a0 b0 : VV} :
    ∀ (m i : Nat) (s : List VV) (Q : Pst), i + m = l.length → s.length = 25 → s.getD 0 .undef = u → s.getD 1 .undef = txt key → s.getD 4 .undef = .ptr 0 0 → s.getD 6 .undef = vi .i64 i →
      (fdR (l.drop i) key = none → ∀ s', s'.length = 25 → s'.getD 4 .undef = .ptr 0 0 → Q (.exit 0) ⟨s', [.box [a0, b0] false]⟩) →
      (∀ r c, fdR (l.drop i) key = some r → SlV 1 (eB r.2) (.cv c) → ∀ s', s'.length = 25 → s'.getD 4 .undef = .ptr 0 0 → s'.getD 5 .undef = vb true → Q .ret ⟨s', [.box [txt r.1, .cv c] false]⟩) →
      X F (.loop f41_0) ⟨s, [.box [a0, b0] false]⟩ Q := by
  intro m
  have hpl := hR.len
  induction m with
  | zero =>
    intro i s Q hi hs e0 e1 e4 e6 hN hS
    have c : ¬ ((i : Nat) : Int) < (els.length : Int) := by omega
    rw [X_loop, X_eq f41_0.eq_1]
    simp only [go_sem, Nat.reduceLT, Nat.reduceEqDiff, reduceCtorEq, Int.reduceLT, Int.reduceEq, hs, e0, e6, hu.ln, c]
    exact hN (by rw [List.drop_eq_nil_of_le (by omega)]; rfl) _ (by simp only [slot_len, hs]) (by simp only [go_sem, Nat.reduceLT, Nat.reduceEqDiff, reduceCtorEq, Int.reduceLT, Int.reduceEq, e4])
  | succ m ih =>
    intro i s Q hi hs e0 e1 e4 e6 hN hS
    have c : ((i : Nat) : Int) < (els.length : Int) := by omega
    obtain ⟨e, x, he, hx, cc, rfl, hcx⟩ := hR.get (i := i) (by omega)
    have hd : l.drop i = x :: l.drop (i + 1) := by
      obtain ⟨la, e⟩ := List.getElem?_eq_some_iff.1 hx
      rw [List.drop_eq_getElem_cons la, e]
    rw [hd] at hN hS
    have ia : ∀ g : Heap, iaO g 2 u (vi .i64 (i : Int)) = some (.rptr [.sc (.string ⟨x.1.toArray⟩), cc], g) := fun g => hu.ia (by omega) (by rw [Int.toNat_natCast]; exact he)
    have l2 : ∀ g : Heap, ldO g true 2 (.rptr [.sc (.string ⟨x.1.toArray⟩), cc]) = some (.agg [txt x.1, .cv cc], g) := fun g => ld_r_2
    have w6 : IntKind.i64.wrap ((i : Int) + 1) = ((i + 1 : Nat) : Int) := by rw [IntWalk.i64_in _ (by omega)]; omega
    have stb : stO [.box [a0, b0] false] 2 (.ptr 0 0) (.agg [txt x.1, .cv cc]) = some (.undef, [.box [txt x.1, .cv cc] false]) := rfl
    rw [X_loop, X_eq f41_0.eq_1]
    by_cases d : x.1 = key
    · have hf : fdR (x :: l.drop (i + 1)) key = some x := by show (if x.1 = key then some x else _) = _; rw [if_pos d]
      subst d
      have dd : decide (x.1 = x.1) = true := by simp
      simp only [go_sem, Nat.reduceLT, Nat.reduceEqDiff, reduceCtorEq, Int.reduceLT, Int.reduceEq, hs, e0, e1, e4, e6, hu.ln, c, ia, dd, l2]
      refine hS x cc hf hcx _ ?_ ?_ ?_
      · simp only [slot_len, hs]
      · simp only [go_sem, Nat.reduceLT, Nat.reduceEqDiff, reduceCtorEq, Int.reduceLT, Int.reduceEq, e4]
      · simp only [go_sem, Nat.reduceLT, Nat.reduceEqDiff, reduceCtorEq, Int.reduceLT, Int.reduceEq, hs]
    · have hf : fdR (x :: l.drop (i + 1)) key = fdR (l.drop (i + 1)) key := by show (if x.1 = key then some x else _) = _; rw [if_neg d]
      rw [hf] at hN hS
      simp only [go_sem, Nat.reduceLT, Nat.reduceEqDiff, reduceCtorEq, Int.reduceLT, Int.reduceEq, hs, e0, e1, e4, e6, hu.ln, c, ia, d, w6]
      exact ih (i + 1) _ Q (by omega) (by simp only [slot_len, hs]) (by simp only [go_sem, Nat.reduceLT, Nat.reduceEqDiff, reduceCtorEq, Int.reduceLT, Int.reduceEq, e0]) (by simp only [go_sem, Nat.reduceLT, Nat.reduceEqDiff, reduceCtorEq, Int.reduceLT, Int.reduceEq, e1]) (by simp only [go_sem, Nat.reduceLT, Nat.reduceEqDiff, reduceCtorEq, Int.reduceLT, Int.reduceEq, e4]) (by simp only [go_sem, Nat.reduceLT, Nat.reduceEqDiff, reduceCtorEq, Int.reduceLT, Int.reduceEq, hs]) hN hS

theorem RQ_c1 {P : VV → Heap → Prop} {s : List VV} {h : Heap} {a m n id : Nat} {cells : List VV} {fr : Bool} (ha : s.getD a .undef = .ptr id 0) (ho : h[id]? = some (.box cells fr)) (hn : cells.length = n) (hm : m < s.length)
    (hP : P (.tup [.agg cells, s.getD m .undef]) h) : RQ [.cell a true n, .t m] P .ret ⟨s, h⟩ := by
  subst hn
  refine ⟨trivial, [.agg cells, s.getD m .undef], ?_, hP⟩
  simp only [resAll, resOf, slot_get hm, ha, ho, List.drop_zero, List.take_length, ldCells, if_true]

theorem find_f41 {l : List KV} {els : List (List CV)} {u : VV} {key : List UInt8} (hu : SlV 2 els u) (hR : RowsE els l) (hn : l.length ≤ 1000000) : RetP F 41 [u, txt key] (FoundV (fdR l key)) := by
  have : Ret F 41 [u, txt key] [] fun v g => FoundV (fdR l key) v := by
    refine call_E (fn := f41) rfl ?_
    simp only [f41]
    generalize hs0 : ([u, txt key] ++ List.replicate _ VV.undef : List VV) = s
    have hs : s.length = 25 := by rw [← hs0]; rfl
    have h0 : s.getD 0 .undef = u := by rw [← hs0]; rfl
    have h1 : s.getD 1 .undef = txt key := by rw [← hs0]; rfl
    clear hs0

    simp only [go_sem, Nat.reduceLT, Nat.reduceEqDiff, reduceCtorEq, Int.reduceLT, Int.reduceEq, hs, List.nil_append, List.length_nil]
    refine f41_loop (key := key) hu hR hn l.length 0 _ _ (by omega) (by simp only [slot_len, hs]) (by simp only [go_sem, Nat.reduceLT, Nat.reduceEqDiff, reduceCtorEq, Int.reduceLT, Int.reduceEq, h0]) (by simp only [go_sem, Nat.reduceLT, Nat.reduceEqDiff, reduceCtorEq, Int.reduceLT, Int.reduceEq, h1]) (by simp only [go_sem, Nat.reduceLT, Nat.reduceEqDiff, reduceCtorEq, Int.reduceLT, Int.reduceEq, hs]) (by simp only [go_sem, Nat.reduceLT, Nat.reduceEqDiff, reduceCtorEq, Int.reduceLT, Int.reduceEq, hs]; rfl) (fun e s' hs' e4 => ?_) (fun r c e hc s' hs' e4 e5 => ?_)
    · rw [List.drop_zero] at e
      have bd : bdO [.cv (.sc (.string ⟨#[]⟩)), .cv (.sc (.slice none 0 0))] [] = some (.agg [txt [], nilS]) := rfl
      have stb : ∀ a b : VV, stO [.box [a, b] false] 2 (.ptr 0 0) (.agg [txt [], nilS]) = some (.undef, [.box [txt [], nilS] false]) := fun a b => rfl
      simp only [go_sem, Nat.reduceLT, Nat.reduceEqDiff, reduceCtorEq, Int.reduceLT, Int.reduceEq, hs', e4, bd, stb]
      rw [e]
      exact RQ_c1 (id := 0) (cells := [txt [], nilS]) (fr := false) (by simp only [go_sem, Nat.reduceLT, Nat.reduceEqDiff, reduceCtorEq, Int.reduceLT, Int.reduceEq, hs', e4]) rfl rfl (by simp only [slot_len, hs']; decide) (by simp only [go_sem, Nat.reduceLT, Nat.reduceEqDiff, reduceCtorEq, Int.reduceLT, Int.reduceEq, hs']; rfl)
    · rw [List.drop_zero] at e
      simp only [go_sem, Nat.reduceLT, Nat.reduceEqDiff, reduceCtorEq, Int.reduceLT, Int.reduceEq, hs', e4, e5]
      rw [e]
      exact RQ_c1 (id := 0) (cells := [txt r.1, .cv c]) (fr := false) (by simp only [go_sem, Nat.reduceLT, Nat.reduceEqDiff, reduceCtorEq, Int.reduceLT, Int.reduceEq, hs', e4]) rfl rfl (by simp only [slot_len, hs']; decide) (by simp only [go_sem, Nat.reduceLT, Nat.reduceEqDiff, reduceCtorEq, Int.reduceLT, Int.reduceEq, hs', e5]; exact ⟨c, rfl, hc⟩)
  obtain ⟨v, g, n1, hF⟩ := this
  refine ⟨v, g, n1, v, ?_, hF⟩
  cases hl : fdR l key with
  | none => rw [hl] at hF; rw [show v = _ from hF]; rfl
  | some r => rw [hl] at hF; obtain ⟨c, rfl, _⟩ := hF; rfl
end Go.V07

set_option linter.unusedSimpArgs false
set_option linter.unusedVariables false
namespace Go.V07
open Go Go.Vm

def goneOf (B : List KV) (x : KV) : List Ch := match fdR B x.1 with
  | none => [(x.1, [], true)]
  | some _ => []
def before (y : Option (List UInt8)) (x : KV) : Bool := match y with
  | none => true
  | some k => Op.bytesLess x.1 k
def sk (B : List KV) (y : Option (List UInt8)) : List KV → List Ch × List KV
  | [] => ([], [])
  | x :: t => if before y x = true then (goneOf B x ++ (sk B y t).1, (sk B y t).2) else ([], x :: t)
def newOf (A : List KV) (y : KV) : List Ch := match fdR A y.1 with
  | none => [(y.1, y.2, false)]
  | some r => if r.2 = y.2 then [] else [(y.1, y.2, false)]
def refL (A B : List KV) : List KV → List KV → List Ch
  | [], ar => (sk B none ar).1
  | y :: br, ar => (sk B (some y.1) ar).1 ++ (newOf A y ++ refL A B br (sk B (some y.1) ar).2)
theorem goneOf_len (B : List KV) (x : KV) : (goneOf B x).length ≤ 1 := by unfold goneOf; split <;> simp
theorem newOf_len (A : List KV) (x : KV) : (newOf A x).length ≤ 1 := by
  unfold newOf; split
  · simp
  · split <;> simp

section
variable {a b : List KV} {ea eb : List (List CV)} {ua ub : VV}
theorem f22_inner (Sa : SlV 2 ea ua) (Ra : RowsE ea a) (Sb : SlV 2 eb ub) (Rb : RowsE eb b) (hla : a.length ≤ 1000) (hlb : b.length ≤ 1000) {k : Nat} {y : Option (List UInt8)}
    (hy : (k = b.length ∧ y = none) ∨ (k < b.length ∧ ∃ q, b[k]? = some q ∧ y = some q.1)) :
    ∀ (m i : Nat) (acc : List Ch) (elsO : List (List CV)) (vo : VV) (s : List VV) (h : Heap) (Q : Pst), i + m = a.length → acc.length ≤ i + k → NB [] h 3 elsO vo → ChsE elsO acc → s.length = 108 → s.getD 0 .undef = ua → s.getD 1 .undef = ub → s.getD 5 .undef = vo → s.getD 6 .undef = vi .i64 i → s.getD 7 .undef = vi .i64 k →
      (∀ s' h' elsO' vo' i' acc', s'.length = 108 → s'.getD 0 .undef = ua → s'.getD 1 .undef = ub → s'.getD 5 .undef = vo' → s'.getD 6 .undef = vi .i64 (i' : Nat) → s'.getD 7 .undef = vi .i64 k → i' ≤ a.length → a.drop i' = (sk b y (a.drop i)).2 → acc'.length ≤ i' + k → acc' = acc ++ (sk b y (a.drop i)).1 → NB [] h' 3 elsO' vo' → ChsE elsO' acc' → Q (.exit 2) ⟨s', h'⟩) → X F (.loop f22_1) ⟨s, h⟩ Q := by
  intro m
  have hpa := Ra.len
  have hpb := Rb.len
  induction m with
  | zero =>
    intro i acc elsO vo s h Q hi hac hN hC hs e0 e1 e5 e6 e7 hQ
    have c : ¬ ((i : Nat) : Int) < (ea.length : Int) := by omega
    have hd : a.drop i = [] := List.drop_eq_nil_of_le (by omega)
    rw [X_loop, X_eq f22_1.eq_1]
    simp only [X_seq]
    refine X_draw rfl ?_
    simp only [go_sem, Nat.reduceLT, Nat.reduceEqDiff, reduceCtorEq, Int.reduceLT, Int.reduceEq, hs, e0, e6, Sa.ln, c]
    exact hQ _ _ elsO vo i acc (by simp only [slot_len, hs]) (by simp only [go_sem, Nat.reduceLT, Nat.reduceEqDiff, reduceCtorEq, Int.reduceLT, Int.reduceEq, e0]) (by simp only [go_sem, Nat.reduceLT, Nat.reduceEqDiff, reduceCtorEq, Int.reduceLT, Int.reduceEq, e1]) (by simp only [go_sem, Nat.reduceLT, Nat.reduceEqDiff, reduceCtorEq, Int.reduceLT, Int.reduceEq, e5]) (by simp only [go_sem, Nat.reduceLT, Nat.reduceEqDiff, reduceCtorEq, Int.reduceLT, Int.reduceEq, e6]) (by simp only [go_sem, Nat.reduceLT, Nat.reduceEqDiff, reduceCtorEq, Int.reduceLT, Int.reduceEq, e7]) (by omega) (by rw [hd]; rfl) hac (by rw [hd]; simp [sk]) hN hC
  | succ m ih =>
    intro i acc elsO vo s h Q hi hac hN hC hs e0 e1 e5 e6 e7 hQ
    have c : ((i : Nat) : Int) < (ea.length : Int) := by omega
    obtain ⟨e, x, he, hx, cc, rfl, hcx⟩ := Ra.get (i := i) (by omega)
    have hd : a.drop i = x :: a.drop (i + 1) := by
      obtain ⟨la, e⟩ := List.getElem?_eq_some_iff.1 hx
      rw [List.drop_eq_getElem_cons la, e]
    have ia : ∀ g : Heap, iaO g 2 ua (vi .i64 (i : Int)) = some (.rptr [.sc (.string ⟨x.1.toArray⟩), cc], g) := fun g => Sa.ia (by omega) (by rw [Int.toNat_natCast]; exact he)
    have w6 : IntKind.i64.wrap ((i : Int) + 1) = ((i + 1 : Nat) : Int) := by rw [IntWalk.i64_in _ (by omega)]; omega
    -- the visit
    have visit : before y x = true → ∀ (s : List VV), s.length = 108 → s.getD 0 .undef = ua → s.getD 1 .undef = ub → s.getD 5 .undef = vo → s.getD 6 .undef = vi .i64 i → s.getD 7 .undef = vi .i64 k → X F (.block 3
  (.seq (.reg [⟨none, (some 42), (.mv (.t 1))⟩, ⟨none, (some 43), (.mv (.t 0))⟩, ⟨none, (some 44), (.mv (.t 6))⟩, ⟨none, (some 45), (.iadL 2 (.t 43) (.t 44))⟩, ⟨none, (some 46), (.fad 0 (.t 45))⟩, ⟨none, (some 47), (.ld false 1 (.t 46))⟩, ⟨none, (some 48), (.call 41 true [(.t 42), (.t 47)])⟩, ⟨none, (some 41), (.mv (.t 48))⟩, ⟨none, (some 49), (.ext (.t 41) 0)⟩, ⟨none, (some 50), (.ext (.t 41) 1)⟩, ⟨none, (some 8), (.alloc [(.cv (.sc (.string ⟨#[]⟩))), (.cv (.sc (.slice none 0 0)))])⟩, ⟨none, none, (.st 2 (.t 8) (.t 49))⟩, ⟨none, (some 9), (.mv (.t 50))⟩])
  (.seq f22_0 (.reg [⟨none, (some 62), (.mv (.t 6))⟩, ⟨none, (some 63), (.bin .add (.t 62) (.c (.cv (.sc (.int .i64 1)))))⟩, ⟨none, (some 6), (.mv (.t 63))⟩])))) ⟨s, h⟩ (fun o st => (o = .norm) ∧ ∃ elsO' vo', st.s.length = 108 ∧ st.s.getD 0 .undef = ua ∧ st.s.getD 1 .undef = ub ∧ st.s.getD 5 .undef = vo' ∧ st.s.getD 6 .undef = vi .i64 ((i + 1 : Nat) : Int) ∧ st.s.getD 7 .undef = vi .i64 k ∧ NB [] st.h 3 elsO' vo' ∧ ChsE elsO' (acc ++ goneOf b x)) := by
      intro hbf s hs e0 e1 e5 e6 e7
      obtain ⟨w, g1, n1, w1, r1, hF⟩ := find_f41 (key := x.1) Sb Rb (by omega)
      have hcl := hC.len
      simp only [go_sem, Nat.reduceLT, Nat.reduceEqDiff, reduceCtorEq, Int.reduceLT, Int.reduceEq, hs, e0, e1, e6, ia]
      refine XO_callP (h1 := h) (by simp only [List.map, go_sem, Nat.reduceLT, Nat.reduceEqDiff, reduceCtorEq, Int.reduceLT, Int.reduceEq, hs]; exact Sb.clos (clos_cv clos_nil)) n1 r1 ?_
      cases hf : fdR b x.1 with
      | none =>
        rw [hf] at hF
        obtain rfl : w1 = .tup [.agg [txt [], nilS], vb false] := hF
        have eg : goneOf b x = [(x.1, [], true)] := by unfold goneOf; rw [hf]
        have stb : ∀ a b : VV, stO (h ++ [.box [a, b] false]) 2 (.ptr h.length 0) (.agg [txt [], nilS]) = some (.undef, h ++ [.box [txt [], nilS] false]) := fun a b => st_l_2
        have bd : bdO [.cv (.sc (.string ⟨#[]⟩)), .cv (.sc (.slice none 0 0)), .cv (.sc (.bool false))] [(0, 1, txt x.1), (2, 1, vb true)] = some (.agg [txt x.1, .cv (.sc (.slice none 0 0)), vb true]) := rfl
        have N1 := hN.then (HExt.push h (.box [txt [], nilS] false))
        simp only [go_sem, Nat.reduceLT, Nat.reduceEqDiff, reduceCtorEq, Int.reduceLT, Int.reduceEq, hs, e6, stb]
        rw [X_eq f22_0.eq_1]
        simp only [go_sem, Nat.reduceLT, Nat.reduceEqDiff, reduceCtorEq, Int.reduceLT, Int.reduceEq, hs, e0, e5, e6, ia, bd]
        refine XO_appNB N1 (new := [[.sc (.string ⟨x.1.toArray⟩), .sc (.slice none 0 0), .sc (.bool true)]]) (by simp only [go_sem, Nat.reduceLT, Nat.reduceEqDiff, reduceCtorEq, Int.reduceLT, Int.reduceEq, hs, e5]) (by simp only [go_sem, Nat.reduceLT, Nat.reduceEqDiff, reduceCtorEq, Int.reduceLT, Int.reduceEq, hs, src_sl]) (by simp only [List.length_singleton]; omega) (by simp only [List.length_singleton]; omega) (fun v2 g2 B2 _ _ _ => ?_)
        simp only [go_sem, Nat.reduceLT, Nat.reduceEqDiff, reduceCtorEq, Int.reduceLT, Int.reduceEq, hs, e6, w6]
        refine ⟨trivial, _, v2, ?_, ?_, ?_, ?_, ?_, ?_, B2, ?_⟩
        · simp only [slot_len, hs]
        · simp only [go_sem, Nat.reduceLT, Nat.reduceEqDiff, reduceCtorEq, Int.reduceLT, Int.reduceEq, e0]
        · simp only [go_sem, Nat.reduceLT, Nat.reduceEqDiff, reduceCtorEq, Int.reduceLT, Int.reduceEq, e1]
        · simp only [go_sem, Nat.reduceLT, Nat.reduceEqDiff, reduceCtorEq, Int.reduceLT, Int.reduceEq, hs]
        · simp only [go_sem, Nat.reduceLT, Nat.reduceEqDiff, reduceCtorEq, Int.reduceLT, Int.reduceEq, hs]
        · simp only [go_sem, Nat.reduceLT, Nat.reduceEqDiff, reduceCtorEq, Int.reduceLT, Int.reduceEq, e7]
        · rw [eg]; exact hC.snoc ⟨.sc (.slice none 0 0), rfl, .inl ⟨rfl, rfl⟩⟩
      | some r =>
        rw [hf] at hF
        obtain ⟨cr, rfl, _⟩ := hF
        have eg : goneOf b x = [] := by unfold goneOf; rw [hf]
        have stb : ∀ a b : VV, stO (h ++ [.box [a, b] false]) 2 (.ptr h.length 0) (.agg [txt r.1, .cv cr]) = some (.undef, h ++ [.box [txt r.1, .cv cr] false]) := fun a b => st_l_2
        have N1 := hN.then (HExt.push h (.box [txt r.1, .cv cr] false))
        simp only [go_sem, Nat.reduceLT, Nat.reduceEqDiff, reduceCtorEq, Int.reduceLT, Int.reduceEq, hs, e6, stb]
        rw [X_eq f22_0.eq_1]
        simp only [go_sem, Nat.reduceLT, Nat.reduceEqDiff, reduceCtorEq, Int.reduceLT, Int.reduceEq, hs, e0, e5, e6, w6]
        refine ⟨trivial, _, vo, ?_, ?_, ?_, ?_, ?_, ?_, N1, ?_⟩
        · simp only [slot_len, hs]
        · simp only [go_sem, Nat.reduceLT, Nat.reduceEqDiff, reduceCtorEq, Int.reduceLT, Int.reduceEq, e0]
        · simp only [go_sem, Nat.reduceLT, Nat.reduceEqDiff, reduceCtorEq, Int.reduceLT, Int.reduceEq, e1]
        · simp only [go_sem, Nat.reduceLT, Nat.reduceEqDiff, reduceCtorEq, Int.reduceLT, Int.reduceEq, e5]
        · simp only [go_sem, Nat.reduceLT, Nat.reduceEqDiff, reduceCtorEq, Int.reduceLT, Int.reduceEq, hs]
        · simp only [go_sem, Nat.reduceLT, Nat.reduceEqDiff, reduceCtorEq, Int.reduceLT, Int.reduceEq, e7]
        · rw [eg, List.append_nil]; exact hC
    have hgl := goneOf_len b x
    rw [X_loop, X_eq f22_1.eq_1]
    by_cases hbf : before y x = true
    · have e2 : sk b y (x :: a.drop (i + 1)) = (goneOf b x ++ (sk b y (a.drop (i + 1))).1, (sk b y (a.drop (i + 1))).2) := by
        show (if before y x = true then _ else _) = _; rw [if_pos hbf]
      rw [hd, e2] at hQ
      refine seq_mid (P := fun st => st.h = h ∧ st.s.length = 108 ∧ st.s.getD 0 .undef = ua ∧ st.s.getD 1 .undef = ub ∧ st.s.getD 5 .undef = vo ∧ st.s.getD 6 .undef = vi .i64 i ∧ st.s.getD 7 .undef = vi .i64 k) ?_ ?_
      · simp only [X_seq]
        refine X_draw rfl ?_
        rcases hy with ⟨hk, rfl⟩ | ⟨hk, q, hq, rfl⟩
        · have ck : ((k : Nat) : Int) = (eb.length : Int) := by omega
          simp only [go_sem, Nat.reduceLT, Nat.reduceEqDiff, reduceCtorEq, Int.reduceLT, Int.reduceEq, hs, e0, e1, e5, e6, e7, Sa.ln, Sb.ln, c, ck, and_self]
        · have ck : ¬ ((k : Nat) : Int) = (eb.length : Int) := by omega
          obtain ⟨e', q', g3, g4, c', rfl, hc'⟩ := Rb.get (i := k) hk
          rw [hq] at g4; cases g4
          have ib : ∀ g : Heap, iaO g 2 ub (vi .i64 (k : Int)) = some (.rptr [.sc (.string ⟨q.1.toArray⟩), c'], g) := fun g => Sb.ia (by omega) (by rw [Int.toNat_natCast]; exact g3)
          have hlt : Op.bytesLess x.1 q.1 = true := hbf
          simp only [go_sem, Nat.reduceLT, Nat.reduceEqDiff, reduceCtorEq, Int.reduceLT, Int.reduceEq, hs, e0, e1, e5, e6, e7, Sa.ln, Sb.ln, c, ck, ia, ib, bin_slss, hlt, and_self]
      · rintro ⟨s1, h1⟩ ⟨rfl, hs1, b0, b1, b5, b6, b7⟩
        refine (visit hbf s1 hs1 b0 b1 b5 b6 b7).mono ?_
        rintro o ⟨s2, h2⟩ ⟨rfl, elsO', vo', a1, a2, a3, a4, a5, a6, a7, a8⟩
        refine ih (i + 1) (acc ++ goneOf b x) elsO' vo' s2 h2 Q (by omega) (by rw [List.length_append]; omega) a7 a8 a1 a2 a3 a4 a5 a6 (fun s' h' elsO2 vo2 i' acc' q1 q2 q3 q4 q5 q6 q7 q8 q9 q10 q11 q12 => hQ s' h' elsO2 vo2 i' acc' q1 q2 q3 q4 q5 q6 q7 q8 q9 (by rw [q10, List.append_assoc]) q11 q12)
    · have e2 : sk b y (x :: a.drop (i + 1)) = ([], x :: a.drop (i + 1)) := by
        show (if before y x = true then _ else _) = _; rw [if_neg hbf]
      rw [hd, e2] at hQ
      rcases hy with ⟨hk, rfl⟩ | ⟨hk, q, hq, rfl⟩
      · exact absurd rfl hbf
      · have ck : ¬ ((k : Nat) : Int) = (eb.length : Int) := by omega
        obtain ⟨e', q', g3, g4, c', rfl, hc'⟩ := Rb.get (i := k) hk
        rw [hq] at g4; cases g4
        have ib : ∀ g : Heap, iaO g 2 ub (vi .i64 (k : Int)) = some (.rptr [.sc (.string ⟨q.1.toArray⟩), c'], g) := fun g => Sb.ia (by omega) (by rw [Int.toNat_natCast]; exact g3)
        have hlt : Op.bytesLess x.1 q.1 = false := by
          have : ¬ Op.bytesLess x.1 q.1 = true := hbf
          simpa using this
        simp only [X_seq]
        refine X_draw rfl ?_
        simp only [go_sem, Nat.reduceLT, Nat.reduceEqDiff, reduceCtorEq, Int.reduceLT, Int.reduceEq, hs, e0, e1, e5, e6, e7, Sa.ln, Sb.ln, c, ck, ia, ib, bin_slss, hlt]
        exact hQ _ _ elsO vo i acc (by simp only [slot_len, hs]) (by simp only [go_sem, Nat.reduceLT, Nat.reduceEqDiff, reduceCtorEq, Int.reduceLT, Int.reduceEq, e0]) (by simp only [go_sem, Nat.reduceLT, Nat.reduceEqDiff, reduceCtorEq, Int.reduceLT, Int.reduceEq, e1]) (by simp only [go_sem, Nat.reduceLT, Nat.reduceEqDiff, reduceCtorEq, Int.reduceLT, Int.reduceEq, e5]) (by simp only [go_sem, Nat.reduceLT, Nat.reduceEqDiff, reduceCtorEq, Int.reduceLT, Int.reduceEq, e6]) (by simp only [go_sem, Nat.reduceLT, Nat.reduceEqDiff, reduceCtorEq, Int.reduceLT, Int.reduceEq, e7]) (by omega) hd hac (by simp) hN hC
end
end Go.V07

set_option linter.unusedSimpArgs false
set_option linter.unusedVariables false
namespace Go.V07
open Go Go.Vm
section
variable {a b : List KV} {ea eb : List (List CV)} {ua ub : VV}
theorem f22_outer (Sa : SlV 2 ea ua) (Ra : RowsE ea a) (Sb : SlV 2 eb ub) (Rb : RowsE eb b) (hla : a.length ≤ 1000) (hlb : b.length ≤ 1000) :
    ∀ (m k i : Nat) (acc : List Ch) (elsO : List (List CV)) (vo : VV) (s : List VV) (h : Heap) (Q : Pst), k + m = b.length → i ≤ a.length → acc.length ≤ i + k → NB [] h 3 elsO vo → ChsE elsO acc → s.length = 108 → s.getD 0 .undef = ua → s.getD 1 .undef = ub → s.getD 5 .undef = vo → s.getD 6 .undef = vi .i64 i → s.getD 7 .undef = vi .i64 k →
      (∀ s' h' elsO' vo', s'.length = 108 → s'.getD 4 .undef = vo' → NB [] h' 3 elsO' vo' → ChsE elsO' (acc ++ refL a b (b.drop k) (a.drop i)) → Q .ret ⟨s', h'⟩) → X F (.loop f22_3) ⟨s, h⟩ Q := by
  intro m
  have hpa := Ra.len
  have hpb := Rb.len
  induction m with
  | zero =>
    intro k i acc elsO vo s h Q hk hi hac hN hC hs e0 e1 e5 e6 e7 hQ
    have c : ((k : Nat) : Int) ≤ (eb.length : Int) := by omega
    have ck : ((k : Nat) : Int) = (eb.length : Int) := by omega
    have hd : b.drop k = [] := List.drop_eq_nil_of_le (by omega)
    rw [hd] at hQ
    rw [X_loop, X_eq f22_3.eq_1]
    simp only [go_sem, Nat.reduceLT, Nat.reduceEqDiff, reduceCtorEq, Int.reduceLT, Int.reduceEq, hs, e1, e7, Sb.ln, c]
    refine f22_inner Sa Ra Sb Rb hla hlb (k := k) (y := none) (.inl ⟨by omega, rfl⟩) (a.length - i) i acc elsO vo _ h _ (by omega) hac hN hC (by simp only [slot_len, hs]) (by simp only [go_sem, Nat.reduceLT, Nat.reduceEqDiff, reduceCtorEq, Int.reduceLT, Int.reduceEq, e0]) (by simp only [go_sem, Nat.reduceLT, Nat.reduceEqDiff, reduceCtorEq, Int.reduceLT, Int.reduceEq, e1]) (by simp only [go_sem, Nat.reduceLT, Nat.reduceEqDiff, reduceCtorEq, Int.reduceLT, Int.reduceEq, e5]) (by simp only [go_sem, Nat.reduceLT, Nat.reduceEqDiff, reduceCtorEq, Int.reduceLT, Int.reduceEq, e6]) (by simp only [go_sem, Nat.reduceLT, Nat.reduceEqDiff, reduceCtorEq, Int.reduceLT, Int.reduceEq, e7]) (fun s1 h1 elsO1 vo1 i1 acc1 q1 q2 q3 q4 q5 q6 q7 q8 q9 q10 q11 q12 => ?_)
    simp only [go_sem, Nat.reduceLT, Nat.reduceEqDiff, reduceCtorEq, Int.reduceLT, Int.reduceEq, q1]
    rw [X_eq f22_2.eq_1]
    simp only [go_sem, Nat.reduceLT, Nat.reduceEqDiff, reduceCtorEq, Int.reduceLT, Int.reduceEq, q1, q3, q4, q6, Sb.ln, ck]
    refine hQ _ _ elsO1 vo1 (by simp only [slot_len, q1]) (by simp only [go_sem, Nat.reduceLT, Nat.reduceEqDiff, reduceCtorEq, Int.reduceLT, Int.reduceEq, q1]) q11 (by rw [q10] at q12; exact q12)
  | succ m ih =>
    intro k i acc elsO vo s h Q hk hi hac hN hC hs e0 e1 e5 e6 e7 hQ
    have c : ((k : Nat) : Int) ≤ (eb.length : Int) := by omega
    have ck : ¬ ((k : Nat) : Int) = (eb.length : Int) := by omega
    obtain ⟨e', y, g3, hy, c', rfl, hc'⟩ := Rb.get (i := k) (by omega)
    have hd : b.drop k = y :: b.drop (k + 1) := by
      obtain ⟨la, e⟩ := List.getElem?_eq_some_iff.1 hy
      rw [List.drop_eq_getElem_cons la, e]
    rw [hd] at hQ
    have ib : ∀ g : Heap, iaO g 2 ub (vi .i64 (k : Int)) = some (.rptr [.sc (.string ⟨y.1.toArray⟩), c'], g) := fun g => Sb.ia (by omega) (by rw [Int.toNat_natCast]; exact g3)
    have w7 : IntKind.i64.wrap ((k : Int) + 1) = ((k + 1 : Nat) : Int) := by rw [IntWalk.i64_in _ (by omega)]; omega
    rw [X_loop, X_eq f22_3.eq_1]
    simp only [go_sem, Nat.reduceLT, Nat.reduceEqDiff, reduceCtorEq, Int.reduceLT, Int.reduceEq, hs, e1, e7, Sb.ln, c]
    refine f22_inner Sa Ra Sb Rb hla hlb (k := k) (y := some y.1) (.inr ⟨by omega, y, hy, rfl⟩) (a.length - i) i acc elsO vo _ h _ (by omega) hac hN hC (by simp only [slot_len, hs]) (by simp only [go_sem, Nat.reduceLT, Nat.reduceEqDiff, reduceCtorEq, Int.reduceLT, Int.reduceEq, e0]) (by simp only [go_sem, Nat.reduceLT, Nat.reduceEqDiff, reduceCtorEq, Int.reduceLT, Int.reduceEq, e1]) (by simp only [go_sem, Nat.reduceLT, Nat.reduceEqDiff, reduceCtorEq, Int.reduceLT, Int.reduceEq, e5]) (by simp only [go_sem, Nat.reduceLT, Nat.reduceEqDiff, reduceCtorEq, Int.reduceLT, Int.reduceEq, e6]) (by simp only [go_sem, Nat.reduceLT, Nat.reduceEqDiff, reduceCtorEq, Int.reduceLT, Int.reduceEq, e7]) (fun s1 h1 elsO1 vo1 i1 acc1 q1 q2 q3 q4 q5 q6 q7 q8 q9 q10 q11 q12 => ?_)
    have hcl1 := q12.len
    obtain ⟨w, g1, n1, w1, r1, hF⟩ := find_f41 (key := y.1) Sa Ra (by omega)
    have fin : ∀ (s2 : List VV) (h2 : Heap) (elsO2 : List (List CV)) (vo2 : VV), s2.length = 108 → s2.getD 0 .undef = ua → s2.getD 1 .undef = ub → s2.getD 5 .undef = vo2 → s2.getD 6 .undef = vi .i64 (i1 : Nat) → s2.getD 7 .undef = vi .i64 ((k + 1 : Nat) : Int) → NB [] h2 3 elsO2 vo2 → ChsE elsO2 (acc1 ++ newOf a y) → X F (.loop f22_3) ⟨s2, h2⟩ Q := by
      intro s2 h2 elsO2 vo2 p1 p2 p3 p4 p5 p6 p7 p8
      have hnl := newOf_len a y
      refine ih (k + 1) i1 (acc1 ++ newOf a y) elsO2 vo2 s2 h2 Q (by omega) q7 (by rw [List.length_append]; omega) p7 p8 p1 p2 p3 p4 p5 p6 (fun s' h' elsO' vo' x1 x2 x3 x4 => hQ s' h' elsO' vo' x1 x2 x3 ?_)
      rw [q8, q10] at x4
      show ChsE elsO' (acc ++ ((sk b (some y.1) (a.drop i)).1 ++ (newOf a y ++ refL a b (b.drop (k + 1)) (sk b (some y.1) (a.drop i)).2)))
      simpa [List.append_assoc] using x4
    simp only [go_sem, Nat.reduceLT, Nat.reduceEqDiff, reduceCtorEq, Int.reduceLT, Int.reduceEq, q1]
    rw [X_eq f22_2.eq_1]
    simp only [go_sem, Nat.reduceLT, Nat.reduceEqDiff, reduceCtorEq, Int.reduceLT, Int.reduceEq, q1, q2, q3, q6, Sb.ln, ck, ib]
    refine XO_callP (h1 := h1) (by simp only [List.map, go_sem, Nat.reduceLT, Nat.reduceEqDiff, reduceCtorEq, Int.reduceLT, Int.reduceEq, q1]; exact Sa.clos (clos_cv clos_nil)) n1 r1 ?_
    have ins : ∀ (s2 : List VV) (g : Heap), newOf a y = [(y.1, y.2, false)] → NB [] g 3 elsO1 vo1 → s2.length = 108 → s2.getD 0 .undef = ua → s2.getD 1 .undef = ub → s2.getD 5 .undef = vo1 → s2.getD 6 .undef = vi .i64 (i1 : Nat) → s2.getD 7 .undef = vi .i64 (k : Nat) → True := fun _ _ _ _ _ _ _ _ _ _ => trivial
    have bd : ∀ c : CV, bdO [.cv (.sc (.string ⟨#[]⟩)), .cv (.sc (.slice none 0 0)), .cv (.sc (.bool false))] [(0, 1, txt y.1), (1, 1, .cv c)] = some (.agg [txt y.1, .cv c, .cv (.sc (.bool false))]) := fun c => rfl
    cases hf : fdR a y.1 with
    | none =>
      rw [hf] at hF
      obtain rfl : w1 = .tup [.agg [txt [], nilS], vb false] := hF
      have eg : newOf a y = [(y.1, y.2, false)] := by unfold newOf; rw [hf]
      have stb : ∀ a b : VV, stO (h1 ++ [.box [a, b] false]) 2 (.ptr h1.length 0) (.agg [txt [], nilS]) = some (.undef, h1 ++ [.box [txt [], nilS] false]) := fun a b => st_l_2
      have N1 := q11.then (HExt.push h1 (.box [txt [], nilS] false))
      simp only [go_sem, Nat.reduceLT, Nat.reduceEqDiff, reduceCtorEq, Int.reduceLT, Int.reduceEq, q1, stb]
      refine X_draw rfl ?_
      simp only [go_sem, Nat.reduceLT, Nat.reduceEqDiff, reduceCtorEq, Int.reduceLT, Int.reduceEq, q1]
      refine X_draw rfl ?_
      simp only [go_sem, Nat.reduceLT, Nat.reduceEqDiff, reduceCtorEq, Int.reduceLT, Int.reduceEq, q1, q3, q4, q6, ib, bd]
      refine XD_appNB N1 (new := [[.sc (.string ⟨y.1.toArray⟩), c', .sc (.bool false)]]) (by simp only [go_sem, Nat.reduceLT, Nat.reduceEqDiff, reduceCtorEq, Int.reduceLT, Int.reduceEq, q1, q4]) (by simp only [go_sem, Nat.reduceLT, Nat.reduceEqDiff, reduceCtorEq, Int.reduceLT, Int.reduceEq, q1, src_sl]) (by simp only [List.length_singleton]; omega) (by simp only [List.length_singleton]; omega) (fun v2 g2 B2 _ _ _ => ?_)
      simp only [go_sem, Nat.reduceLT, Nat.reduceEqDiff, reduceCtorEq, Int.reduceLT, Int.reduceEq, q1, q6, w7]
      exact fin _ _ _ v2 (by simp only [slot_len, q1]) (by simp only [go_sem, Nat.reduceLT, Nat.reduceEqDiff, reduceCtorEq, Int.reduceLT, Int.reduceEq, q2]) (by simp only [go_sem, Nat.reduceLT, Nat.reduceEqDiff, reduceCtorEq, Int.reduceLT, Int.reduceEq, q3]) (by simp only [go_sem, Nat.reduceLT, Nat.reduceEqDiff, reduceCtorEq, Int.reduceLT, Int.reduceEq, q1]) (by simp only [go_sem, Nat.reduceLT, Nat.reduceEqDiff, reduceCtorEq, Int.reduceLT, Int.reduceEq, q5]) (by simp only [go_sem, Nat.reduceLT, Nat.reduceEqDiff, reduceCtorEq, Int.reduceLT, Int.reduceEq, q1]) B2 (by rw [eg]; exact q12.snoc ⟨c', rfl, hc'⟩)
    | some r =>
      rw [hf] at hF
      obtain ⟨cr, rfl, hcr⟩ := hF
      have stb : ∀ a b : VV, stO (h1 ++ [.box [a, b] false]) 2 (.ptr h1.length 0) (.agg [txt r.1, .cv cr]) = some (.undef, h1 ++ [.box [txt r.1, .cv cr] false]) := fun a b => st_l_2
      have N1 := q11.then (HExt.push h1 (.box [txt r.1, .cv cr] false))
      have lb : ldO (h1 ++ [VO.box [txt r.1, .cv cr] false]) false 1 (.ptr h1.length 1) = some (.cv cr, h1 ++ [VO.box [txt r.1, .cv cr] false]) := ld_ptr at_last rfl
      by_cases hv : r.2 = y.2
      · have eg : newOf a y = [] := by unfold newOf; rw [hf]; exact if_pos hv
        have dv : decide (r.2 ≠ y.2) = false := by simp [hv]
        simp only [go_sem, Nat.reduceLT, Nat.reduceEqDiff, reduceCtorEq, Int.reduceLT, Int.reduceEq, q1, stb]
        refine X_draw rfl ?_
        rw [hv] at hcr
        have dv2 : decide (y.2 ≠ y.2) = false := by simp
        simp only [go_sem, Nat.reduceLT, Nat.reduceEqDiff, reduceCtorEq, Int.reduceLT, Int.reduceEq, q1, q3, q6, ib, lb, hcr.bs, hc'.bs, bin_sneq, dv2, w7]
        exact fin _ _ _ vo1 (by simp only [slot_len, q1]) (by simp only [go_sem, Nat.reduceLT, Nat.reduceEqDiff, reduceCtorEq, Int.reduceLT, Int.reduceEq, q2]) (by simp only [go_sem, Nat.reduceLT, Nat.reduceEqDiff, reduceCtorEq, Int.reduceLT, Int.reduceEq, q3]) (by simp only [go_sem, Nat.reduceLT, Nat.reduceEqDiff, reduceCtorEq, Int.reduceLT, Int.reduceEq, q4]) (by simp only [go_sem, Nat.reduceLT, Nat.reduceEqDiff, reduceCtorEq, Int.reduceLT, Int.reduceEq, q5]) (by simp only [go_sem, Nat.reduceLT, Nat.reduceEqDiff, reduceCtorEq, Int.reduceLT, Int.reduceEq, q1]) N1 (by rw [eg, List.append_nil]; exact q12)
      · have eg : newOf a y = [(y.1, y.2, false)] := by unfold newOf; rw [hf]; exact if_neg hv
        have dv : decide (r.2 ≠ y.2) = true := by simp [hv]
        simp only [go_sem, Nat.reduceLT, Nat.reduceEqDiff, reduceCtorEq, Int.reduceLT, Int.reduceEq, q1, stb]
        refine X_draw rfl ?_
        simp only [go_sem, Nat.reduceLT, Nat.reduceEqDiff, reduceCtorEq, Int.reduceLT, Int.reduceEq, q1, q3, q6, ib, lb, hcr.bs, hc'.bs, dv, hv]
        refine X_draw rfl ?_
        simp only [go_sem, Nat.reduceLT, Nat.reduceEqDiff, reduceCtorEq, Int.reduceLT, Int.reduceEq, q1, q3, q4, q6, ib, bd]
        refine XD_appNB N1 (new := [[.sc (.string ⟨y.1.toArray⟩), c', .sc (.bool false)]]) (by simp only [go_sem, Nat.reduceLT, Nat.reduceEqDiff, reduceCtorEq, Int.reduceLT, Int.reduceEq, q1, q4]) (by simp only [go_sem, Nat.reduceLT, Nat.reduceEqDiff, reduceCtorEq, Int.reduceLT, Int.reduceEq, q1, src_sl]) (by simp only [List.length_singleton]; omega) (by simp only [List.length_singleton]; omega) (fun v2 g2 B2 _ _ _ => ?_)
        simp only [go_sem, Nat.reduceLT, Nat.reduceEqDiff, reduceCtorEq, Int.reduceLT, Int.reduceEq, q1, q6, w7]
        exact fin _ _ _ v2 (by simp only [slot_len, q1]) (by simp only [go_sem, Nat.reduceLT, Nat.reduceEqDiff, reduceCtorEq, Int.reduceLT, Int.reduceEq, q2]) (by simp only [go_sem, Nat.reduceLT, Nat.reduceEqDiff, reduceCtorEq, Int.reduceLT, Int.reduceEq, q3]) (by simp only [go_sem, Nat.reduceLT, Nat.reduceEqDiff, reduceCtorEq, Int.reduceLT, Int.reduceEq, q1]) (by simp only [go_sem, Nat.reduceLT, Nat.reduceEqDiff, reduceCtorEq, Int.reduceLT, Int.reduceEq, q5]) (by simp only [go_sem, Nat.reduceLT, Nat.reduceEqDiff, reduceCtorEq, Int.reduceLT, Int.reduceEq, q1]) B2 (by rw [eg]; exact q12.snoc ⟨c', rfl, hc'⟩)

theorem rdiff_f22 (Sa : SlV 2 ea ua) (Ra : RowsE ea a) (Sb : SlV 2 eb ub) (Rb : RowsE eb b) (hla : a.length ≤ 1000) (hlb : b.length ≤ 1000) : RetP F 22 [ua, ub] fun w => ∃ els, SlV 3 els w ∧ ChsE els (refL a b b a) := by
  have : Ret F 22 [ua, ub] [] fun v g => ∃ els, NB [] g 3 els v ∧ ChsE els (refL a b b a) := by
    refine call_E (fn := f22) rfl ?_
    simp only [f22]
    generalize hs0 : ([ua, ub] ++ List.replicate _ VV.undef : List VV) = s
    have hs : s.length = 108 := by rw [← hs0]; rfl
    have h0 : s.getD 0 .undef = ua := by rw [← hs0]; rfl
    have h1 : s.getD 1 .undef = ub := by rw [← hs0]; rfl
    clear hs0
    simp only [go_sem, Nat.reduceLT, Nat.reduceEqDiff, reduceCtorEq, Int.reduceLT, Int.reduceEq, hs]
    refine f22_outer Sa Ra Sb Rb hla hlb b.length 0 0 [] [] nilS _ _ _ (by omega) (by omega) (by simp) (NB.nil _ _) .nil (by simp only [slot_len, hs]) (by simp only [go_sem, Nat.reduceLT, Nat.reduceEqDiff, reduceCtorEq, Int.reduceLT, Int.reduceEq, h0]) (by simp only [go_sem, Nat.reduceLT, Nat.reduceEqDiff, reduceCtorEq, Int.reduceLT, Int.reduceEq, h1]) (by simp only [go_sem, Nat.reduceLT, Nat.reduceEqDiff, reduceCtorEq, Int.reduceLT, Int.reduceEq, hs]) (by simp only [go_sem, Nat.reduceLT, Nat.reduceEqDiff, reduceCtorEq, Int.reduceLT, Int.reduceEq, hs]; rfl) (by simp only [go_sem, Nat.reduceLT, Nat.reduceEqDiff, reduceCtorEq, Int.reduceLT, Int.reduceEq, hs]; rfl) (fun s' h' els' vo' a1 a2 a3 a4 => ?_)
    rw [List.drop_zero, List.drop_zero, List.nil_append] at a4
    simp only [go_sem, Nat.reduceLT, Nat.reduceEqDiff, reduceCtorEq, Int.reduceLT, Int.reduceEq, a1, a2]
    exact ⟨els', a3, a4⟩
  obtain ⟨v, g, n1, els', B, R⟩ := this
  obtain ⟨w, c1, c2⟩ := B.res
  exact ⟨v, g, n1, w, c1, els', c2, R⟩
end
end Go.V07

set_option linter.unusedSimpArgs false
set_option linter.unusedVariables false
namespace Go.V07
open Go Go.Vm

theorem fdR_ne {x : KV} {l : List KV} {k : List UInt8} (h : x.1 ≠ k) : fdR (x :: l) k = fdR l k := by
  show (if x.1 = k then some x else fdR l k) = _
  rw [if_neg h]
theorem fdR_eq {x : KV} {l : List KV} {k : List UInt8} (h : x.1 = k) : fdR (x :: l) k = some x := by
  show (if x.1 = k then some x else fdR l k) = _
  rw [if_pos h]
theorem fdR_under : ∀ {l : List KV} {k : List UInt8}, Under k l → fdR l k = none
  | [], _, _ => rfl
  | x :: l, k, h => by
    rw [fdR_ne (bl_ne (h x (by simp))).symm]
    exact fdR_under fun r hr => h r (List.mem_cons_of_mem _ hr)

theorem sk_yes {B : List KV} {y : Option (List UInt8)} {x : KV} {t : List KV} (h : before y x = true) : sk B y (x :: t) = (goneOf B x ++ (sk B y t).1, (sk B y t).2) := by
  show (if before y x = true then _ else _) = _; rw [if_pos h]
theorem sk_no {B : List KV} {y : Option (List UInt8)} {x : KV} {t : List KV} (h : ¬ before y x = true) : sk B y (x :: t) = ([], x :: t) := by
  show (if before y x = true then _ else _) = _; rw [if_neg h]

theorem stale {A B : List KV} {x : KV} {ar : List KV} (hg : goneOf B x = []) : ∀ (br : List KV), Under x.1 br → refL A B br (x :: ar) = refL A B br ar
  | [], _ => by
    show (sk B none (x :: ar)).1 = (sk B none ar).1
    rw [sk_yes rfl, hg, List.nil_append]
  | y :: br, h => by
    have e : sk B (some y.1) (x :: ar) = sk B (some y.1) ar := by
      rw [sk_yes (show before (some y.1) x = true from h y (by simp)), hg, List.nil_append]
    show (sk B (some y.1) (x :: ar)).1 ++ (newOf A y ++ refL A B br (sk B (some y.1) (x :: ar)).2) = (sk B (some y.1) ar).1 ++ (newOf A y ++ refL A B br (sk B (some y.1) ar).2)
    rw [e]

theorem refL_eq (A B : List KV) : ∀ (n : Nat) (br ar : List KV), ar.length + br.length ≤ n → Srt ar → Srt br → (∀ y ∈ br, fdR A y.1 = fdR ar y.1) → (∀ x ∈ ar, fdR B x.1 = none ↔ fdR br x.1 = none) → refL A B br ar = diffP n ar br
  | n, [], [], _, _, _, _, _ => by cases n <;> rfl
  | 0, _ :: _, _, h, _, _, _, _ => by simp at h
  | 0, [], _ :: _, h, _, _, _, _ => by simp at h
  | n + 1, [], x :: t, h, ha, hb, hA, hB => by
    obtain ⟨a1, a2⟩ := List.pairwise_cons.1 ha
    have hg : goneOf B x = [(x.1, [], true)] := by unfold goneOf; rw [(hB x (by simp)).2 rfl]
    have ih := refL_eq A B n [] t (by simp at h ⊢; omega) a2 .nil (fun y hy => by cases hy) (fun z hz => hB z (List.mem_cons_of_mem _ hz))
    show (sk B none (x :: t)).1 = delta (some x) none ++ diffP n t []
    rw [sk_yes rfl, ← ih, hg]
    rfl
  | n + 1, y :: t, [], h, ha, hb, hA, hB => by
    obtain ⟨b1, b2⟩ := List.pairwise_cons.1 hb
    have hg : newOf A y = [(y.1, y.2, false)] := by unfold newOf; rw [hA y (by simp)]; rfl
    have ih := refL_eq A B n t [] (by simp at h ⊢; omega) .nil b2 (fun z hz => hA z (List.mem_cons_of_mem _ hz)) (fun z hz => by cases hz)
    show [] ++ (newOf A y ++ refL A B t []) = delta none (some y) ++ diffP n [] t
    rw [ih, hg]
    rfl
  | n + 1, y :: br, x :: ar, h, ha, hb, hA, hB => by
    obtain ⟨a1, a2⟩ := List.pairwise_cons.1 ha
    obtain ⟨b1, b2⟩ := List.pairwise_cons.1 hb
    simp only [List.length_cons] at h
    show (sk B (some y.1) (x :: ar)).1 ++ (newOf A y ++ refL A B br (sk B (some y.1) (x :: ar)).2) = (if bl_le x.1 y.1 = true then (if y.1 = x.1 then delta (some x) (some y) ++ diffP n ar br else delta (some x) none ++ diffP n ar (y :: br)) else delta none (some y) ++ diffP n (x :: ar) br)
    by_cases c1 : bl_le x.1 y.1 = true
    · rw [if_pos c1]
      by_cases c2 : y.1 = x.1
      · rw [if_pos c2]
        have hnb : ¬ before (some y.1) x = true := by
          show ¬ Op.bytesLess x.1 y.1 = true
          rw [c2, bl_irrefl]; decide
        have hu : Under x.1 br := by rw [← c2]; exact b1
        have hg : goneOf B x = [] := by
          unfold goneOf
          cases hf : fdR B x.1 with
          | some r => rfl
          | none =>
            have := (hB x (by simp)).1 hf
            rw [fdR_eq c2] at this; cases this
        rw [sk_no hnb]
        show [] ++ (newOf A y ++ refL A B br (x :: ar)) = _
        rw [stale hg br hu, List.nil_append]
        have hn : newOf A y = delta (some x) (some y) := by
          unfold newOf delta
          rw [hA y (by simp), fdR_eq c2.symm]
        rw [hn, refL_eq A B n br ar (by omega) a2 b2 (fun z hz => by rw [hA z (List.mem_cons_of_mem _ hz), fdR_ne (bl_ne (hu z hz))]) (fun z hz => by
          rw [hB z (List.mem_cons_of_mem _ hz), fdR_ne (by rw [c2]; exact bl_ne (a1 z hz))])]
      · rw [if_neg c2]
        have hlt : Op.bytesLess x.1 y.1 = true := by
          rcases bl_total x.1 y.1 with h | h | h
          · exact h
          · exact absurd h.symm c2
          · rw [bl_le_iff, h] at c1; cases c1
        have hu : Under x.1 (y :: br) := Under.cons hlt b1
        have hg : goneOf B x = [(x.1, [], true)] := by
          unfold goneOf
          rw [(hB x (by simp)).2 (fdR_under hu)]
        rw [sk_yes (show before (some y.1) x = true from hlt), hg]
        have ih := refL_eq A B n (y :: br) ar (by simp only [List.length_cons]; omega) a2 hb (fun z hz => by rw [hA z hz, fdR_ne (bl_ne (hu z hz))]) (fun z hz => hB z (List.mem_cons_of_mem _ hz))
        have ih : (sk B (some y.1) ar).1 ++ (newOf A y ++ refL A B br (sk B (some y.1) ar).2) = diffP n ar (y :: br) := ih
        rw [← ih, List.append_assoc]
        rfl
    · rw [if_neg c1]
      have hlt : Op.bytesLess y.1 x.1 = true := by
        rw [Bool.not_eq_true, bl_not_le] at c1; exact c1
      have hu : Under y.1 (x :: ar) := Under.cons hlt a1
      have hnb : ¬ before (some y.1) x = true := by
        show ¬ Op.bytesLess x.1 y.1 = true
        rw [bl_asymm hlt]; decide
      have hg : newOf A y = [(y.1, y.2, false)] := by unfold newOf; rw [hA y (by simp), fdR_under hu]
      rw [sk_no hnb]
      show [] ++ (newOf A y ++ refL A B br (x :: ar)) = _
      rw [hg, refL_eq A B n br (x :: ar) (by simp only [List.length_cons]; omega) ha b2 (fun z hz => hA z (List.mem_cons_of_mem _ hz)) (fun z hz => by rw [hB z hz, fdR_ne (bl_ne (hu z hz))])]
      rfl

theorem rdiff_eq {a b : List KV} (ha : Srt a) (hb : Srt b) : refL a b b a = diffF a b :=
  refL_eq a b _ b a (Nat.le_refl _) ha hb (fun _ _ => rfl) (fun _ _ => Iff.rfl)

theorem diff_same {a : List KV} (ha : Srt a) : diffF a a = [] := by
  have D := diffF_ok ha ha
  cases h : diffF a a with
  | nil => rfl
  | cons c l =>
    have hc : c ∈ diffF a a := by rw [h]; simp
    cases hg : c.2.2 with
    | true => obtain ⟨⟨v, h1⟩, h2⟩ := D.gone c hc hg; exact absurd h1 (h2 v)
    | false => obtain ⟨h1, h2⟩ := D.new c hc hg; exact absurd h1 h2
end Go.V07

set_option linter.unusedSimpArgs false
set_option linter.unusedVariables false
namespace Go.V07
open Go Go.Vm
open Go.Proofs.Ytjjmkcmolmjpeaa

theorem sumC_val : ∀ (l : List Ch), ∀ x ∈ l, x.2.1.length ≤ sumC l
  | q :: l, x, h => by
    rw [sumC_cons]
    rcases List.mem_cons.1 h with rfl | h
    · omega
    · have := sumC_val l x h; omega

theorem law_applies {c d : List UInt8} {vc vd : VV} (hc : SlV 1 (eB c) vc) (hd : SlV 1 (eB d) vd) {els : List (List CV)} {l : List Ch} {u : VV} (hS : SlV 3 els u) (hC : ChsE els l) (hsum : sumC l ≤ 1048576) : ∃ h', call F 5 [vc, vd, u] [] = some (.ret (vb true), h') := by
  have : Ret F 5 [vc, vd, u] [] fun v h' => v = vb true := by
    refine call_E (fn := f5) rfl ?_
    simp only [f5]
    generalize hs0 : ([vc, vd, u] ++ List.replicate _ VV.undef : List VV) = s
    have hs : s.length = 56 := by rw [← hs0]; rfl
    have h0 : s.getD 0 .undef = vc := by rw [← hs0]; rfl
    have h1 : s.getD 1 .undef = vd := by rw [← hs0]; rfl
    have h2 : s.getD 2 .undef = u := by rw [← hs0]; rfl
    clear hs0
    obtain ⟨h11, n11⟩ := known_f11
    obtain ⟨h10, n10⟩ := much_f10 hS hC hsum
    simp only [go_sem, Nat.reduceLT, Nat.reduceEqDiff, reduceCtorEq, Int.reduceLT, Int.reduceEq, hs]
    rw [X_eq f5_0.eq_1]
    simp only [go_sem, Nat.reduceLT, Nat.reduceEqDiff, reduceCtorEq, Int.reduceLT, Int.reduceEq, hs, h2]
    refine XO_callP (h1 := []) (by simp only [List.map, go_sem, Nat.reduceLT, Nat.reduceEqDiff, reduceCtorEq, Int.reduceLT, Int.reduceEq, hs]; exact hS.clos rfl) n10 rfl ?_
    by_cases dm : (1500 : Int) < (sumC l : Int)
    · simp only [go_sem, Nat.reduceLT, Nat.reduceEqDiff, reduceCtorEq, Int.reduceLT, Int.reduceEq, hs, dm]
      refine XO_callP (h1 := []) (by simp only [List.map, go_sem, Nat.reduceLT, Nat.reduceEqDiff, reduceCtorEq, Int.reduceLT, Int.reduceEq, hs]; rfl) n11 rfl ?_
      simp only [go_sem, Nat.reduceLT, Nat.reduceEqDiff, reduceCtorEq, Int.reduceLT, Int.reduceEq, hs]
    · have hll := sumC_le l
      have hvl : ∀ x ∈ l, x.2.1.length ≤ 1000000000 := fun x hx => by have := sumC_val l x hx; omega
      obtain ⟨va, ga, na, wa, ra, ea, Sa, Ra⟩ := rising_pure hc (n := 20) (by omega)
      obtain ⟨vb_, gb, nb, wb, rb, eb, Sb, Rb⟩ := rising_pure hd (n := 20) (by omega)
      obtain ⟨vm, gm, nm, wm, rm, em, Sm, Cm⟩ := chlist (n := 20) (by omega) d vd hd
      have hf := chL_fits 20 d
      have hkl := chL_len 20 d
      have la := risL_len 20 c
      have lb := risL_len 20 d
      have sa := risL_srt 20 c
      have sb := risL_srt 20 d
      have fa : SmallV (risL 20 c) := fun r hr => by have := (risL_fits 20 c r hr).2; omega
      have fb : SmallV (risL 20 d) := fun r hr => by have := (risL_fits 20 d r hr).2; omega
      generalize risL 20 c = a at *
      generalize risL 20 d = b at *
      generalize chL 20 d = x at *
      have hvx : ∀ y ∈ x, y.2.1.length ≤ 1000000000 := fun y hy => by have := (hf y hy).2.1; omega
      have p1 := applyF_len l a
      have p2 := applyF_len x a
      have lx : (diffF a b).length ≤ 80 := by have := diffP_len (a.length + b.length) a b; unfold diffF; omega
      obtain ⟨v1, g1, n1, w1, r1, e1, S1, R1⟩ := apply_any Sa Ra (by omega) hC hS (by omega) hvl
      obtain ⟨v2, g2, n2, w2, r2, e2, S2, R2⟩ := rapply_f19 hC hS (by omega) Sa Ra (by omega) sa
      obtain ⟨v3, g3, n3, w3, r3, e3, S3, R3⟩ := apply_any Sa Ra (by omega) Cm Sm (by omega) hvx
      obtain ⟨v4, g4, n4, w4, r4, e4, S4, R4⟩ := rapply_f19 Cm Sm (by omega) Sa Ra (by omega) sa
      obtain ⟨v5, g5, n5, w5, r5, e5, S5, C5⟩ := diff_f21 Ra Rb Sa Sb fa fb (by omega)
      obtain ⟨v6, g6, n6, w6, r6, e6, S6, C6⟩ := rdiff_f22 Sa Ra Sb Rb (by omega) (by omega)
      rw [rdiff_eq sa sb] at C6
      obtain ⟨v7, g7, n7, w7, r7, e7, S7, C7⟩ := diff_f21 Ra Ra Sa Sa fa fa (by omega)
      rw [diff_same sa] at C7
      obtain ⟨q1, k1, m1, z1⟩ := same_f17 _ _ _ _ _ S1 S2 R1 R2 (by omega) []
      obtain ⟨q2, k2, m2, z2⟩ := same_f17 _ _ _ _ _ S3 S4 R3 R4 (by omega) []
      obtain ⟨q3, k3, m3, z3⟩ := sameC_f20 _ _ _ _ _ S5 S6 C5 C6 (by omega) []
      obtain ⟨q4, k4, m4, z4⟩ := sameC_f20 _ _ _ _ _ S7 (SlV.nil (z := 3)) C7 .nil (by simp) []
      obtain ⟨rfl, _⟩ : q1 = vb true ∧ True := ⟨z1, trivial⟩
      obtain ⟨rfl, _⟩ : q2 = vb true ∧ True := ⟨z2, trivial⟩
      obtain ⟨rfl, _⟩ : q3 = vb true ∧ True := ⟨z3, trivial⟩
      obtain ⟨rfl, _⟩ : q4 = vb true ∧ True := ⟨z4, trivial⟩
      simp only [go_sem, Nat.reduceLT, Nat.reduceEqDiff, reduceCtorEq, Int.reduceLT, Int.reduceEq, hs, dm]
      refine XO_callP (h1 := []) (by simp only [List.map, go_sem, Nat.reduceLT, Nat.reduceEqDiff, reduceCtorEq, Int.reduceLT, Int.reduceEq, hs]; rfl) n11 rfl ?_
      simp only [go_sem, Nat.reduceLT, Nat.reduceEqDiff, reduceCtorEq, Int.reduceLT, Int.reduceEq, hs, h0]
      refine XO_callP (h1 := []) (by simp only [List.map, go_sem, Nat.reduceLT, Nat.reduceEqDiff, reduceCtorEq, Int.reduceLT, Int.reduceEq, hs]; exact hc.clos rfl) na ra ?_
      simp only [go_sem, Nat.reduceLT, Nat.reduceEqDiff, reduceCtorEq, Int.reduceLT, Int.reduceEq, hs, h1]
      refine XO_callP (h1 := []) (by simp only [List.map, go_sem, Nat.reduceLT, Nat.reduceEqDiff, reduceCtorEq, Int.reduceLT, Int.reduceEq, hs]; exact hd.clos rfl) nb rb ?_
      simp only [go_sem, Nat.reduceLT, Nat.reduceEqDiff, reduceCtorEq, Int.reduceLT, Int.reduceEq, hs, h1]
      refine XO_callP (h1 := []) (by simp only [List.map, go_sem, Nat.reduceLT, Nat.reduceEqDiff, reduceCtorEq, Int.reduceLT, Int.reduceEq, hs]; exact hd.clos rfl) nm rm ?_
      simp only [go_sem, Nat.reduceLT, Nat.reduceEqDiff, reduceCtorEq, Int.reduceLT, Int.reduceEq, hs, h2]
      refine XO_callP (h1 := []) (by simp only [List.map, go_sem, Nat.reduceLT, Nat.reduceEqDiff, reduceCtorEq, Int.reduceLT, Int.reduceEq, hs]; exact Sa.clos (hS.clos rfl)) n1 r1 ?_
      simp only [go_sem, Nat.reduceLT, Nat.reduceEqDiff, reduceCtorEq, Int.reduceLT, Int.reduceEq, hs, h2]
      refine XO_callP (h1 := []) (by simp only [List.map, go_sem, Nat.reduceLT, Nat.reduceEqDiff, reduceCtorEq, Int.reduceLT, Int.reduceEq, hs]; exact Sa.clos (hS.clos rfl)) n2 r2 ?_
      simp only [go_sem, Nat.reduceLT, Nat.reduceEqDiff, reduceCtorEq, Int.reduceLT, Int.reduceEq, hs]
      refine XO_callP (h1 := []) (by simp only [List.map, go_sem, Nat.reduceLT, Nat.reduceEqDiff, reduceCtorEq, Int.reduceLT, Int.reduceEq, hs]; exact S1.clos (S2.clos rfl)) m1 rfl ?_
      simp only [go_sem, Nat.reduceLT, Nat.reduceEqDiff, reduceCtorEq, Int.reduceLT, Int.reduceEq, hs]
      refine XO_callP (h1 := []) (by simp only [List.map, go_sem, Nat.reduceLT, Nat.reduceEqDiff, reduceCtorEq, Int.reduceLT, Int.reduceEq, hs]; exact Sa.clos (Sm.clos rfl)) n3 r3 ?_
      simp only [go_sem, Nat.reduceLT, Nat.reduceEqDiff, reduceCtorEq, Int.reduceLT, Int.reduceEq, hs]
      refine XO_callP (h1 := []) (by simp only [List.map, go_sem, Nat.reduceLT, Nat.reduceEqDiff, reduceCtorEq, Int.reduceLT, Int.reduceEq, hs]; exact Sa.clos (Sm.clos rfl)) n4 r4 ?_
      simp only [go_sem, Nat.reduceLT, Nat.reduceEqDiff, reduceCtorEq, Int.reduceLT, Int.reduceEq, hs]
      refine XO_callP (h1 := []) (by simp only [List.map, go_sem, Nat.reduceLT, Nat.reduceEqDiff, reduceCtorEq, Int.reduceLT, Int.reduceEq, hs]; exact S3.clos (S4.clos rfl)) m2 rfl ?_
      simp only [go_sem, Nat.reduceLT, Nat.reduceEqDiff, reduceCtorEq, Int.reduceLT, Int.reduceEq, hs]
      refine XO_callP (h1 := []) (by simp only [List.map, go_sem, Nat.reduceLT, Nat.reduceEqDiff, reduceCtorEq, Int.reduceLT, Int.reduceEq, hs]; exact Sa.clos (Sb.clos rfl)) n5 r5 ?_
      simp only [go_sem, Nat.reduceLT, Nat.reduceEqDiff, reduceCtorEq, Int.reduceLT, Int.reduceEq, hs]
      refine XO_callP (h1 := []) (by simp only [List.map, go_sem, Nat.reduceLT, Nat.reduceEqDiff, reduceCtorEq, Int.reduceLT, Int.reduceEq, hs]; exact Sa.clos (Sb.clos rfl)) n6 r6 ?_
      simp only [go_sem, Nat.reduceLT, Nat.reduceEqDiff, reduceCtorEq, Int.reduceLT, Int.reduceEq, hs]
      refine XO_callP (h1 := []) (by simp only [List.map, go_sem, Nat.reduceLT, Nat.reduceEqDiff, reduceCtorEq, Int.reduceLT, Int.reduceEq, hs]; exact S5.clos (S6.clos rfl)) m3 rfl ?_
      simp only [go_sem, Nat.reduceLT, Nat.reduceEqDiff, reduceCtorEq, Int.reduceLT, Int.reduceEq, hs]
      refine XO_callP (h1 := []) (by simp only [List.map, go_sem, Nat.reduceLT, Nat.reduceEqDiff, reduceCtorEq, Int.reduceLT, Int.reduceEq, hs]; exact Sa.clos (Sa.clos rfl)) n7 r7 ?_
      simp only [go_sem, Nat.reduceLT, Nat.reduceEqDiff, reduceCtorEq, Int.reduceLT, Int.reduceEq, hs]
      refine XO_callP (h1 := []) (by simp only [List.map, go_sem, Nat.reduceLT, Nat.reduceEqDiff, reduceCtorEq, Int.reduceLT, Int.reduceEq, hs]; exact S7.clos rfl) m4 rfl ?_
      simp only [go_sem, Nat.reduceLT, Nat.reduceEqDiff, reduceCtorEq, Int.reduceLT, Int.reduceEq, hs]
  obtain ⟨v, h', n1, rfl⟩ := this
  exact ⟨h', n1⟩
theorem applies_in {H : Type} {d0 d1 d2 : DataW H} {u0 u1 u2 : VV} (hb : Rows.uptoBulkAll [d0, d1, d2] ≤ 1048576) (h0 : DV Proofs.Try.prog 23 d0 u0) (h1 : DV Proofs.Try.prog 23 d1 u1) (h2 : DV Proofs.Try.prog 22 d2 u2) :
    ∃ h', call F 5 [u0, u1, u2] [] = some (.ret (vb true), h') := by
  obtain ⟨c, hc, _⟩ := DV_bytes (e := 5) (by kernel_rfl) (by kernel_rfl) (by kernel_rfl) h0
  obtain ⟨d, hd, _⟩ := DV_bytes (e := 5) (by kernel_rfl) (by kernel_rfl) (by kernel_rfl) h1
  obtain ⟨els, l, hS, hC, hs⟩ := chs_of h2
  have hb2 : Rows.uptoBulk d2 ≤ Rows.uptoBulkAll [d0, d1, d2] := bulk_part (by simp)
  exact law_applies hc hd hS hC (by omega)
end Go.V07
