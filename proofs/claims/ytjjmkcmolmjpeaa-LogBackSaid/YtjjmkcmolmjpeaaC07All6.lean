/- Part of a proof: of what it says, and when, each theorem tells itself. -/
import Derived.Shelf.RegionOpenPlain
import Derived.WalkKit
import Derived.Lib.Walk
import Derived.Lib.SliceRun
import Derived.Lib.JoinLaws
import Derived.Lib.AppendZeros
import Derived.Lib.AppendZerosOnto
import Derived.Lib.Overlaps
import Derived.Laws.Externs
import Derived.Laws.IdiomCopy
import Derived.Laws.NewBlocks
import Derived.Test.YtjjmkcmolmjpeaaProg
import Derived.Test.YtjjmkcmolmjpeaaC07Ir
import Derived.Test.YtjjmkcmolmjpeaaVmAll2
import Derived.Test.YtjjmkcmolmjpeaaC07All5
/-
  What a walk of slices.Insert over elements of more than one cell asks for: copy, overlaps. (Own lemmas; no program.)
-/
set_option linter.unusedVariables false
set_option linter.unusedSimpArgs false
namespace Go.VmIns
open Go Go.Lib
variable {P : Program}

theorem copyN (w : World) (dT sT ty elem : TypeId) (z : Nat) (b o dLen dCap : Nat) (a : Addr) (sLen sCap : Nat) (cs : List Value)
    (hu : P.underlying dT = some (.slice elem)) (hs : (P.info? elem).map (·.size) = some z) (hn : cs.length = Nat.min sLen dLen * z)
    (hsrc : ∀ j v, cs[j]? = some v → w.cell? (a.add j) = some v) (hc : ∀ j, j < cs.length → (w.cell? ⟨b, o + j, none⟩).isSome = true) (hf : ∀ j, j < cs.length → w.frozen? ⟨b, o + j, none⟩ = false) (h1 : ∀ v ∈ cs, v.oneCell' = true) :
    (Builtin.copy_ #[dT, sT] ty #[.slice (some ⟨b, o, none⟩) dLen dCap, .slice (some a) sLen sCap]).run P w = .ok (goInt (Nat.min sLen dLen)) (w.setCells b o cs) := by
  have hl := run_loadCells_list (P := P) w a cs hsrc
  have hst := run_storeCells_cells (P := P) b o cs 0 w (by simpa using hc) (by simpa using hf) h1
  cases hq : P.info? elem with
  | none => simp [hq] at hs
  | some i =>
    have hi : i.size = z := by simpa [hq] using hs
    simp [Builtin.copy_, run_underlying hu, Builtin.lenOf, Builtin.firstCells, sizeOf, typeInfo, hq, hi, ← hn, hl, hst]

theorem overlaps_own (w : World) (tS tR e : TypeId) (ht : P.underlying tS = some (.slice e)) (size : Nat) (hz : ∀ w, (Go.sizeOf e).run P w = .ok size w)
    (a b : Addr) (la ca lb cb : Nat) (hne : a.block ≠ b.block) (CA CB : Array Value) (tA tB : TypeId) (fa : Nat × Nat) (fb : Nat × Nat)
    (ha : w.heap[a.block]? = some (.cells CA tA fa)) (hb : w.heap[b.block]? = some (.cells CB tB fb)) (hA : CA.size ≠ 0) (hB : CB.size ≠ 0) (hfb : fb.1 = fb.2) :
    (Extern.SlicesOverlaps.overlaps #[tS, tS] #[tR] #[.slice (some a) la ca, .slice (some b) lb cb]).run P w = .ok (.bool false) w := by
  have hnb : (a.block != b.block) = true := by simpa using hne
  have hnb' : (a.block == b.block) = false := by simpa using hne
  have hfz : ∀ o s, w.frozen? ⟨b.block, o, s⟩ = false := by
    intro o s
    obtain ⟨lo, hi⟩ := fb
    have h : lo = hi := hfb
    subst h
    simp only [World.frozen?, hb]
    rw [← Bool.not_eq_true, Bool.and_eq_true, decide_eq_true_eq, decide_eq_true_eq]
    omega
  have hfb1 : w.frozen? b = false := hfz b.off b.spot
  have hfb2 := hfz CB.size none
  have hsa : w.shape? a.block = some (tA, CA.size) := by simp [World.shape?, ha]
  have hsb : w.shape? b.block = some (tB, CB.size) := by simp [World.shape?, hb]
  change Sem.run P (α := Value) (do
    let some t := (#[tS, tS] : Array TypeId)[0]? | stuck "slices.overlaps: no parameter types"
    let .slice elem ← underlying t | stuck "slices.overlaps: slice type expected"
    let size ← sizeOf elem
    match (some a : Option Addr), (some b : Option Addr) with
    | some a, some b =>
      if la = 0 ∨ lb = 0 ∨ size = 0 then pure (Value.bool false)
      else if a.block != b.block && (← frozen a) && (← frozen b) then unsupported .addressObserved
      else do
        if a.block != b.block then do
          noView a; noView b
          if ← mayBeOne a b then return Value.bool ((← choose (.extern "sameAddr.stringBytes" 2)) == 1)
        pure (Value.bool (a.block == b.block && a.off < b.off + lb * size && b.off < a.off + la * size))
    | _, _ => pure (Value.bool false)) w = _
  by_cases h0 : la = 0 ∨ lb = 0 ∨ size = 0
  · simp [run_underlying ht, hz, h0]
  · generalize hkA : CA.size = kA at *
    generalize hkB : CB.size = kB at *
    cases kA with
    | zero => exact absurd rfl hA
    | succ kA =>
      cases kB with
      | zero => exact absurd rfl hB
      | succ kB =>
        cases hf1 : w.frozen? a <;> cases hf2 : w.frozen? { block := a.block, off := kA + 1 } <;>
          simp [run_underlying ht, hz, h0, hnb, hnb', frozen, noView, viewAt, mayBeOne, stringish, shape, Sem.run, hsa, hsb, hfb1, hfb2, hf1, hf2]

/-- The operation 'copy(d, s)' for the walk, where its run is known by an equation. -/
theorem wp_copy (w : World) {o : Oper} {a : Act} {K : Act → World → Prop} {Q : Exit → Act → World → Prop} (d s : Operand) (t t' : TypeId)
    (ho : o.op = .call { callee := .builtin .copy, args := #[d, s], argTypes := #[t, t'] }) (v u : Value) (hd : a.eval d = v) (hs : a.eval s = u) {v' : Value} {w' : World}
    (hr : (Builtin.copy_ #[t, t'] o.type #[v, u]).run P w = .ok v' w') (h : K (a.put o.dst v') w') : o.wp P a w K Q := by
  unfold Oper.wp execOp
  simp only [ho, resolve, invoke, builtin, Sem.run_bind, Sem.run_pure, Result.andThen_ok, List.map_toArray, List.map_cons, List.map_nil, hd, hs, hr]
  exact h

theorem wpList_copy (w : World) {ops : Array Oper} {rest : List Oper} {o : Oper} {a : Act} {Q : Exit → Act → World → Prop} (hgd : o.guard = none) (d s : Operand) (t t' : TypeId)
    (ho : o.op = .call { callee := .builtin .copy, args := #[d, s], argTypes := #[t, t'] }) (v u : Value) (hd : a.eval d = v) (hs : a.eval s = u) {v' : Value} {w' : World}
    (hr : (Builtin.copy_ #[t, t'] o.type #[v, u]).run P w = .ok v' w') (h : wpList P ops Q rest (a.put o.dst v') w') : wpList P ops Q (o :: rest) a w :=
  wpList_plain hgd fun _ hK => wp_copy w d s t t' ho v u hd hs hr (hK _ _ h)

theorem step_copy {ops : Array Oper} {o : Oper} {a : Act} {w : World} {K : Act → World → Prop} {Q : Exit → Act → World → Prop} {E : Prop}
    (hg : o.guard = none) (d x : Operand) (dT sT : TypeId) (hop : o.op = Op.call { callee := Callee.builtin Builtin.copy, args := #[d, x], argTypes := #[dT, sT] })
    (v u : Value) (hd : a.eval d = v) (hx : a.eval x = u) {v' : Value} {w' : World} (hr : (Builtin.copy_ #[dT, sT] o.type #[v, u]).run P w = .ok v' w') (hK : K (a.put o.dst v') w') :
    if Region.wanted o (yielded ops a.tmps) = true then Oper.wp P o a w K Q else E := by
  have hw : Region.wanted o (yielded ops a.tmps) = true := by simp [Region.wanted, hg]
  rw [if_pos hw]
  unfold Oper.wp
  simp [execOp, hop, resolve, invoke, builtin, hd, hx, hr, Result.andThen]
  exact hK

theorem isSome_set (b : Nat) (vs : List Value) (o : Nat) (w : World) (h : ∀ j, j < vs.length → (w.cell? ⟨b, o + j, none⟩).isSome = true) (k : Nat) (hk : (w.cell? ⟨b, k, none⟩).isSome = true) : ((w.setCells b o vs).cell? ⟨b, k, none⟩).isSome = true := by
  by_cases hin : o ≤ k ∧ k < o + vs.length
  · have := World.cell?_setCells_in b vs o w h (k - o) (by omega)
    rw [show o + (k - o) = k by omega] at this
    rw [this]; simp
  · rw [World.cell?_setCells_out b vs o w ⟨b, k, none⟩ (fun _ _ => by show k < o ∨ o + vs.length ≤ k; omega)]
    exact hk
end Go.VmIns

set_option linter.unusedVariables false
set_option linter.unusedSimpArgs false
namespace Go.V07
open Go Go.Lib Go.VmIns

theorem ty34 : Proofs.Try.prog.underlying 34 = some (.slice 53) := by kernel_rfl
theorem sz53 : (Proofs.Try.prog.info? 53).map (·.size) = some 2 := by kernel_rfl

set_option maxHeartbeats 4000000 in
set_option maxRecDepth 100000 in
/-- slices.Insert of a row, in the middle, where there is room. -/
theorem ins_shift (b off n c i vb voff vc : Nat) (cs vs : List Value) (w : World) (hi : i < n) (hroom : n + 1 ≤ c) (hbig : (n + 1) * 40 ≤ 140737488355328) (hvb : vb ≠ b)
    (hcl : cs.length = n * 2) (hvl : vs.length = 2)
    (hcs : ∀ j v, cs[j]? = some v → w.cell? ⟨b, off + j, none⟩ = some v) (hsp : ∀ j, j < (n + 1) * 2 → (w.cell? ⟨b, off + j, none⟩).isSome = true) (hfz : ∀ j, w.frozen? ⟨b, off + j, none⟩ = false)
    (hvs : ∀ j v, vs[j]? = some v → w.cell? ⟨vb, voff + j, none⟩ = some v) (h1c : ∀ v ∈ cs, v.oneCell' = true) (h1v : ∀ v ∈ vs, v.oneCell' = true)
    (CA CB : Array Value) (tA tB : TypeId) (fa fb : Nat × Nat) (ha : w.heap[vb]? = some (.cells CA tA fa)) (hb : w.heap[b]? = some (.cells CB tB fb)) (hA : CA.size ≠ 0) (hB : CB.size ≠ 0) (hfb : fb.1 = fb.2) :
    Calls Proofs.Try.prog 35 #[.slice (some ⟨b, off, none⟩) n c, .int .i64 i, .slice (some ⟨vb, voff, none⟩) 1 vc] w fun e w' =>
      e = .returned (.slice (some ⟨b, off, none⟩) (n + 1) c) ∧ w' = (w.drew.setCells b (off + (i + 1) * 2) (cs.drop (i * 2))).setCells b (off + i * 2) vs := by
  have hz2 : ¬ ((i : Int) = (n : Int)) := by omega
  have hsz53 : ∀ w, (Go.sizeOf 53).run Proofs.Try.prog w = .ok 2 w := fun w => by
    have h := sz53
    cases hq : Proofs.Try.prog.info? 53 with
    | none => simp [hq] at h
    | some i =>
      have hi : i.size = 2 := by simpa [hq] using h
      simp [sizeOf, typeInfo, hq, hi]
  have hov : ∀ lb cb, (callFunc 51 #[.slice (some ⟨vb, voff, none⟩) 1 vc, .slice (some ⟨b, off + (i + 1) * 2, none⟩) lb cb]).run Proofs.Try.prog w = .ok (.value (.bool false)) w := fun lb cb => by
    rw [run_callFunc_extern Proofs.Try.func51 (by kernel_rfl) (by kernel_rfl) (by kernel_rfl) (e := Extern.SlicesOverlaps.overlaps #[34, 34] #[4]) (by kernel_rfl),
      overlaps_own w 34 4 53 ty34 2 hsz53 ⟨vb, voff, none⟩ ⟨b, off + (i + 1) * 2, none⟩ 1 vc lb cb hvb CA CB tA tB fa fb ha hb hA hB hfb]
    rfl
  have hdl : (cs.drop (i * 2)).length = (n - i) * 2 := by rw [List.length_drop, hcl]; omega
  have mixed : Proofs.Try.prog.follows .mixedOrders = true := by kernel_rfl
  have hw1 : IntKind.i64.wrap ((i : Int) + 1) = (i : Int) + 1 := by rw [IntKind.wrap_i64]; omega
  have hw2 : IntKind.i64.wrap ((n : Int) + 1) = (n : Int) + 1 := by rw [IntKind.wrap_i64]; omega
  have hb1 : (0 : Int) ≤ (i : Int) + 1 := by omega
  have hin : i ≤ n := by omega
  have htn : ((i : Int) + 1).toNat = i + 1 := by omega
  have htm : ((n : Int) + 1).toNat = n + 1 := by omega
  have hb2 : ¬ (c = i + 1) := by omega
  have hb3 : (i : Int) ≤ (n : Int) + 1 := by omega
  have hb4 : ¬ (c = i) := by omega
  have hm1 : Nat.min (n + 1 - i) (n - i) = n - i := by simp only [Nat.min_def]; split <;> omega
  have hm2 : Nat.min 1 (n + 1 - i) = 1 := by simp only [Nat.min_def]; split <;> omega
  have hcp1 : ∀ ty dc sc, (Builtin.copy_ #[34, 34] ty #[.slice (some ⟨b, off + (i + 1) * 2, none⟩) (n - i) dc, .slice (some ⟨b, off + i * 2, none⟩) (n + 1 - i) sc]).run Proofs.Try.prog w.drew = .ok (goInt ((n - i : Nat) : Int)) (w.drew.setCells b (off + (i + 1) * 2) (cs.drop (i * 2))) := fun ty dc sc => by
    have h := copyN w.drew 34 34 ty 53 2 b (off + (i + 1) * 2) (n - i) dc ⟨b, off + i * 2, none⟩ (n + 1 - i) sc (cs.drop (i * 2)) ty34 sz53 (by rw [hdl, hm1])
      (fun j v hj => by rw [Addr.add_lit, Nat.add_assoc]; exact hcs (i * 2 + j) v (by rwa [List.getElem?_drop] at hj))
      (fun j hj => by rw [Nat.add_assoc]; exact hsp _ (by omega)) (fun j hj => by rw [Nat.add_assoc]; exact hfz _) (fun v hv => h1c v (List.mem_of_mem_drop hv))
    rw [hm1] at h
    exact h
  obtain ⟨W1, hW1⟩ : ∃ W1, W1 = w.drew.setCells b (off + (i + 1) * 2) (cs.drop (i * 2)) := ⟨_, rfl⟩
  have hsp1 : ∀ k, k < (n + 1) * 2 → (W1.cell? ⟨b, off + k, none⟩).isSome = true := fun k hk => by
    rw [hW1]
    exact isSome_set b _ _ _ (fun j hj => by rw [Nat.add_assoc]; exact hsp _ (by omega)) _ (hsp k hk)
  have hcp2 : ∀ (W : World), (∀ x, W.cell? x = W1.cell? x) → (∀ x, W.frozen? x = W1.frozen? x) → ∀ ty dc, (Builtin.copy_ #[34, 34] ty #[.slice (some ⟨b, off + i * 2, none⟩) (n + 1 - i) dc, .slice (some ⟨vb, voff, none⟩) 1 vc]).run Proofs.Try.prog W = .ok (goInt 1) (W.setCells b (off + i * 2) vs) := fun W hWc hWf ty dc => by
    have h := copyN W 34 34 ty 53 2 b (off + i * 2) (n + 1 - i) dc ⟨vb, voff, none⟩ 1 vc vs ty34 sz53 (by rw [hvl, hm2])
      (fun j v hj => by
        rw [Addr.add_lit, hWc, hW1, World.cell?_setCells_out b _ _ _ _ (fun h _ => absurd h hvb)]
        exact hvs j v hj)
      (fun j hj => by rw [hWc, Nat.add_assoc]; exact hsp1 _ (by omega)) (fun j hj => by rw [hWf, hW1, World.frozen?_setCells, Nat.add_assoc]; exact hfz _) h1v
    rw [hm2] at h
    exact h
  rw [← hW1] at hcp1
  go_enter Proofs.Try.func35, Proofs.Try.ntmps35
  go_wp2_with (simp only [hov])
  go_region_law_o (refine step_copy rfl _ _ 34 34 rfl _ _ (by simp [Act.eval, Act.put]) (by simp [Act.eval, Act.put]) (hcp1 _ _ _) ?_)
  go_wp2_with (at_builtin; refine wpList_copy _ rfl _ _ 34 34 rfl _ _ rfl rfl (hcp2 _ (fun _ => rfl) (fun _ => rfl) _ _) ?_)
  go_ret
  first | exact ⟨rfl, rfl⟩ | exact ⟨rfl, by rw [hW1]⟩
theorem in53 : (Proofs.Try.prog.info? 53).map (fun i => (i.size, i.bytes, i.zero.map (fun z => z.cells))) = some (2, 40, some #[.string ⟨#[]⟩, .slice none 0 0]) := by kernel_rfl
theorem ty3 : Proofs.Try.prog.underlying 3 = some (.int .i64) := by kernel_rfl
theorem size_zeroCells2 (z : Array Value) (n : Nat) : (Builtin.zeroCells z n).size = n * z.size := by simp [Builtin.zeroCells]

set_option maxHeartbeats 4000000 in
set_option maxRecDepth 100000 in
/-- .. and where there is none: a new row. -/
theorem ins_grow (b off n c i vb voff vc : Nat) (cs vs : List Value) (w : World) (hi : i < n) (hnc : n ≤ c) (hroom : c < n + 1) (hbig : (n + 1) * 40 ≤ 140737488355328)
    (hcl : cs.length = n * 2) (hvl : vs.length = 2)
    (hcs : ∀ j v, cs[j]? = some v → w.cell? ⟨b, off + j, none⟩ = some v)
    (hvs : ∀ j v, vs[j]? = some v → w.cell? ⟨vb, voff + j, none⟩ = some v) (h1c : ∀ v ∈ cs, v.oneCell' = true) (h1v : ∀ v ∈ vs, v.oneCell' = true) :
    ∃ (Z : Array Value) (G : Nat), n + 1 ≤ G ∧ Z.size = (G - (n + 1) + (n + 1 - i)) * 2 ∧
    Calls Proofs.Try.prog 35 #[.slice (some ⟨b, off, none⟩) n c, .int .i64 i, .slice (some ⟨vb, voff, none⟩) 1 vc] w fun e w' =>
      e = .returned (.slice (some ⟨w.heap.size, 0, none⟩) (n + 1) G) ∧
      w' = (((w.alloc (.cells ((cs.take (i * 2)).toArray ++ Z) 53)).drew.setCells w.heap.size (i * 2) vs).drew).setCells w.heap.size ((i + 1) * 2) (cs.drop (i * 2)) := by
  have mixed : Proofs.Try.prog.follows .mixedOrders = true := by kernel_rfl
  obtain ⟨i0, z0, hi0, hz0, hzs, hzb, hzc⟩ : ∃ i0 z0, Proofs.Try.prog.info? 53 = some i0 ∧ i0.zero = some z0 ∧ i0.size = 2 ∧ i0.bytes = 40 ∧ z0.cells.size = 2 := by
    have h := in53
    cases hq : Proofs.Try.prog.info? 53 with
    | none => simp [hq] at h
    | some i0 =>
      rw [hq] at h
      simp only [Option.map_some, Option.some.injEq, Prod.mk.injEq] at h
      obtain ⟨h1, h2, h3⟩ := h
      cases hz : i0.zero with
      | none => simp [hz] at h3
      | some z0 =>
        rw [hz] at h3
        simp only [Option.map_some, Option.some.injEq] at h3
        exact ⟨i0, z0, rfl, hz, h1, h2, by rw [h3]; rfl⟩
  have hz2 : ¬ ((i : Int) = (n : Int)) := by omega
  have hz3 : (c : Int) < (n : Int) + 1 := by omega
  have hbw : b < w.heap.size := block_lt_of_cell (hcs 0 _ (List.getElem?_eq_getElem (by omega)))
  have hvw : vb < w.heap.size := block_lt_of_cell (hvs 0 _ (List.getElem?_eq_getElem (by omega)))
  have hkk : (n : Int) + 1 - (i : Int) = ((n + 1 - i : Nat) : Int) := by omega
  have hik : i + (n + 1 - i) = n + 1 := by omega
  have hold : (Builtin.firstCells i0.size i (.slice (some ⟨b, off, none⟩) i c)).run Proofs.Try.prog w.drew = .ok (cs.take (i * 2)).toArray w.drew := by
    rw [hzs]
    exact run_firstCells_some w.drew 2 i ⟨b, off, none⟩ i c (cs.take (i * 2)) (by rw [List.length_take]; omega) (fun j v hj => by
      rw [Addr.add_lit]
      rw [List.getElem?_take] at hj
      split at hj
      · exact hcs j v hj
      · cases hj)
  have hrz : ∀ ty, (Builtin.append_ #[34, 3] ty #[.slice (some ⟨b, off, none⟩) i c, .int .i64 ((n : Int) + 1 - (i : Int))]).run Proofs.Try.prog w =
      .ok (.slice (some ⟨w.heap.size, 0, none⟩) (n + 1) (grownCap w (n + 1) c 53)) (w.drew.alloc (.cells ((cs.take (i * 2)).toArray ++ Builtin.zeroCells z0.cells (n + 1 - i) ++ Builtin.zeroCells z0.cells (grownCap w (n + 1) c 53 - (n + 1))) 53)) := fun ty => by
    have h := Lib.run_append_grow_zeros w 34 3 ty 53 i0 z0 .i64 .i64 ty34 ty3 hi0 hz0 (some ⟨b, off, none⟩) i c (cs.take (i * 2)) hold (n + 1 - i) (by omega) (by omega) (by omega) (by omega) (by rw [hzb]; omega) (by rw [hzb, hik]; exact growslice_fits hroom hbig)
    rw [hik] at h
    rw [hkk]
    exact h
  obtain ⟨G, hG⟩ : ∃ G, G = grownCap w (n + 1) c 53 := ⟨_, rfl⟩
  have hGn : n + 1 ≤ G := by rw [hG]; exact grownCap_ge w _ _ _
  have hG63 : G ≤ 9223372036854775807 := by
    have := grownCap_le_maxLen w (n + 1) c 53 (by unfold maxLen; omega)
    rw [← hG] at this
    unfold maxLen at this
    omega
  obtain ⟨Z, hZ⟩ : ∃ Z : Array Value, Z = Builtin.zeroCells z0.cells (n + 1 - i) ++ Builtin.zeroCells z0.cells (G - (n + 1)) := ⟨_, rfl⟩
  have hZs : Z.size = (G - (n + 1) + (n + 1 - i)) * 2 := by
    rw [hZ, Array.size_append, size_zeroCells2, size_zeroCells2, hzc]; omega
  refine ⟨Z, G, hGn, hZs, ?_⟩
  obtain ⟨ROW, hROW⟩ : ∃ ROW : Array Value, ROW = (cs.take (i * 2)).toArray ++ Z := ⟨_, rfl⟩
  rw [← hG] at hrz
  rw [Array.append_assoc, ← hZ, ← hROW] at hrz
  rw [← hROW]
  have hRl : (n + 1) * 2 ≤ ROW.size := by
    rw [hROW, Array.size_append, hZs, List.size_toArray, List.length_take]
    omega
  obtain ⟨W1, hW1⟩ : ∃ W1, W1 = w.drew.alloc (.cells ROW 53) := ⟨_, rfl⟩
  rw [← hW1] at hrz
  have hN : ∀ j, j < (n + 1) * 2 → (W1.cell? ⟨w.heap.size, j, none⟩).isSome = true := fun j hj => by
    rw [hW1, World.cell?_alloc_at (w := w.drew) ROW _ w.heap.size j rfl, Array.getElem?_eq_getElem (by omega)]; rfl
  have hNf : ∀ j, W1.frozen? ⟨w.heap.size, j, none⟩ = false := fun j => by rw [hW1]; exact World.frozen?_alloc_at (w := w.drew) ROW _ w.heap.size j rfl
  have hOb : ∀ j v, w.cell? ⟨b, j, none⟩ = some v → W1.cell? ⟨b, j, none⟩ = some v := fun j v h => by rw [hW1, World.cell?_alloc_past (w := w.drew) _ b j hbw]; exact h
  have hOv : ∀ j v, w.cell? ⟨vb, j, none⟩ = some v → W1.cell? ⟨vb, j, none⟩ = some v := fun j v h => by rw [hW1, World.cell?_alloc_past (w := w.drew) _ vb j hvw]; exact h
  have hm2 : Nat.min 1 (n + 1 - i) = 1 := by simp only [Nat.min_def]; split <;> omega
  have hm1 : Nat.min (n - i) (n - i) = n - i := Nat.min_self _
  have hcpA : ∀ (W : World), (∀ x, W.cell? x = W1.cell? x) → (∀ x, W.frozen? x = W1.frozen? x) → ∀ ty dc, (Builtin.copy_ #[34, 34] ty #[.slice (some ⟨w.heap.size, i * 2, none⟩) (n + 1 - i) dc, .slice (some ⟨vb, voff, none⟩) 1 vc]).run Proofs.Try.prog W = .ok (goInt 1) (W.setCells w.heap.size (i * 2) vs) := fun W hWc hWf ty dc => by
    have h := copyN W 34 34 ty 53 2 w.heap.size (i * 2) (n + 1 - i) dc ⟨vb, voff, none⟩ 1 vc vs ty34 sz53 (by rw [hvl, hm2])
      (fun j v hj => by rw [Addr.add_lit, hWc]; exact hOv _ v (hvs j v hj))
      (fun j hj => by rw [hWc]; exact hN _ (by omega)) (fun j hj => by rw [hWf]; exact hNf _) h1v
    rw [hm2] at h
    exact h
  have hGi : ¬ (G = i) := by omega
  have hGim : ¬ (G = i + 1) := by omega
  have hci : ¬ (c = i) := by omega
  have hbN : b ≠ w.heap.size := by omega
  have hdl : (cs.drop (i * 2)).length = (n - i) * 2 := by rw [List.length_drop, hcl]; omega
  have hcpB : ∀ (W : World), (∀ x, W.cell? x = (W1.setCells w.heap.size (i * 2) vs).cell? x) → (∀ x, W.frozen? x = (W1.setCells w.heap.size (i * 2) vs).frozen? x) → ∀ ty dc sc, (Builtin.copy_ #[34, 34] ty #[.slice (some ⟨w.heap.size, (i + 1) * 2, none⟩) (n - i) dc, .slice (some ⟨b, off + i * 2, none⟩) (n - i) sc]).run Proofs.Try.prog W = .ok (goInt ((n - i : Nat) : Int)) (W.setCells w.heap.size ((i + 1) * 2) (cs.drop (i * 2))) := fun W hWc hWf ty dc sc => by
    have h := copyN W 34 34 ty 53 2 w.heap.size ((i + 1) * 2) (n - i) dc ⟨b, off + i * 2, none⟩ (n - i) sc (cs.drop (i * 2)) ty34 sz53 (by rw [hdl, hm1])
      (fun j v hj => by
        rw [Addr.add_lit, hWc, World.cell?_setCells_out _ _ _ _ _ (fun h _ => absurd h hbN), Nat.add_assoc]
        exact hOb _ v (hcs (i * 2 + j) v (by rwa [List.getElem?_drop] at hj)))
      (fun j hj => by rw [hWc]; exact isSome_set _ _ _ _ (fun t ht => hN _ (by omega)) _ (hN _ (by omega)))
      (fun j hj => by rw [hWf, World.frozen?_setCells]; exact hNf _) (fun v hv => h1c v (List.mem_of_mem_drop hv))
    rw [hm1] at h
    exact h
  subst hW1
  have hE1 : ∀ x, ((w.alloc (.cells ROW 53)).drew).cell? x = (w.drew.alloc (.cells ROW 53)).cell? x := fun x => rfl
  have hE2 : ∀ x, ((w.alloc (.cells ROW 53)).drew).frozen? x = (w.drew.alloc (.cells ROW 53)).frozen? x := fun x => rfl
  have hF1 : ∀ x, (((w.alloc (.cells ROW 53)).drew.setCells w.heap.size (i * 2) vs).drew).cell? x = ((w.drew.alloc (.cells ROW 53)).setCells w.heap.size (i * 2) vs).cell? x := fun x => rfl
  have hF2 : ∀ x, (((w.alloc (.cells ROW 53)).drew.setCells w.heap.size (i * 2) vs).drew).frozen? x = ((w.drew.alloc (.cells ROW 53)).setCells w.heap.size (i * 2) vs).frozen? x := fun x => rfl
  have hw1 : IntKind.i64.wrap ((i : Int) + 1) = (i : Int) + 1 := by rw [IntKind.wrap_i64]; omega
  have hw2 : IntKind.i64.wrap ((n : Int) + 1) = (n : Int) + 1 := by rw [IntKind.wrap_i64]; omega
  have hw3 : IntKind.i64.wrap ((n : Int) + 1 - i) = (n : Int) + 1 - i := by rw [IntKind.wrap_i64]; omega
  have hb1 : (0 : Int) ≤ (i : Int) + 1 := by omega
  have hin : i ≤ n := by omega
  have htn : ((i : Int) + 1).toNat = i + 1 := by omega
  have htm : ((n : Int) + 1).toNat = n + 1 := by omega
  have hb3 : (i : Int) ≤ (n : Int) := by omega
  clear hkk hik hold hROW hG hRl
  go_enter Proofs.Try.func35, Proofs.Try.ntmps35
  go_wp2_with (first
    | (at_builtin; refine Lib.wpList_append_run _ rfl _ _ _ _ rfl _ _ rfl rfl _ _ (hrz _) ?_)
    | (at_builtin; refine wpList_copy _ rfl _ _ 34 34 rfl _ _ rfl rfl (hcpA _ hE1 hE2 _ _) ?_)
    | (at_builtin; refine wpList_copy _ rfl _ _ 34 34 rfl _ _ rfl rfl (hcpB _ (fun _ => rfl) (fun _ => rfl) _ _ _) ?_))
  go_region_law_o (refine step_copy rfl _ _ 34 34 rfl (.slice (some ⟨w.heap.size, (i + 1) * 2, none⟩) (n - i) (G - (i + 1))) (.slice (some ⟨b, off + i * 2, none⟩) (n - i) (c - i)) (by simp [Act.eval, Act.put]) (by simp [Act.eval, Act.put]) (hcpB _ hF1 hF2 3 (G - (i + 1)) (c - i)) ?_)
  go_wp2
  go_ret
  exact ⟨rfl, rfl⟩
end Go.V07

set_option linter.unusedSimpArgs false
set_option linter.unusedVariables false
namespace Go.V07
open Go Go.Vm

/-- What the instruction asks for. -/
theorem ins_inv {z bytes : Nat} {h h' : Heap} {ρ : Opd → VV} {s i e : Opd} {v : VV} (hs : stepI h ρ (.ins z bytes s i e) = some (v, h')) :
    ∃ el ex j, ρ e = .cv (.sl z [el] ex) ∧ ρ i = .cv (.sc (.int .i64 j)) ∧
      ((ρ s = .cv (.sc (.slice none 0 0)) ∧ j = 0 ∧ v = .own h.length 0 0 1 false ∧ h' = h ++ [.arr z [el] 0 false]) ∨
       (ρ s = .cv (.sl z [] true) ∧ j = 0 ∧ v = .own h.length 0 0 1 false ∧ h' = h ++ [.arr z [el] 0 false]) ∨
       ∃ id g len els, ρ s = .own id g 0 len false ∧ h[id]? = some (.arr z els g false) ∧ len ≤ els.length ∧ 0 ≤ j ∧ j ≤ len ∧ (len + 1) * bytes ≤ maxBytes ∧ len + 1 ≤ maxBytes ∧
         v = .own id (g + 1) 0 (len + 1) false ∧ h' = h.set id (.arr z ((els.take len).take j.toNat ++ el :: (els.take len).drop j.toNat) (g + 1) false)) := by
  simp only [stepI] at hs
  split at hs
  rotate_left
  · cases hs
  rename_i z1 el ex j he hi
  split at hs
  rotate_left
  · cases hs
  rename_i hz
  subst hz
  refine ⟨el, ex, j, he, hi, ?_⟩
  split at hs
  · rename_i e1
    split at hs
    · rename_i hj; cases hs; exact .inl ⟨e1, hj, rfl, rfl⟩
    · cases hs
  · rename_i z2 e1
    split at hs
    · rename_i hj; cases hs; obtain ⟨rfl, hj⟩ := hj; exact .inr (.inl ⟨e1, hj, rfl, rfl⟩)
    · cases hs
  · rename_i id g len e1
    split at hs
    · rename_i z' els g' ho
      split at hs
      · rename_i hc
        obtain ⟨rfl, rfl, h3, h4, h5, h6, h7⟩ := hc
        cases hs
        exact .inr (.inr ⟨id, g, len, els, e1, ho, h3, h4, h5, h6, h7, rfl, rfl⟩)
      · cases hs
    · cases hs
  · cases hs

theorem runx {call : CallSem} {n : Nat} {args : List VV} {h : Heap} {r : CRes} {h' : Heap} (hr : runFn (exec call n) f35x args h = some (r, h')) :
    ∃ a b c v, args = [a, b, c] ∧ r = .ret v ∧ stepI h (evalO [a, b, c]) (.ins 2 40 (.t 0) (.t 1) (.t 2)) = some (v, h') := by
  unfold runFn f35x at hr
  split at hr
  · cases hr
  rename_i hb
  simp only [exec, execOps, wantedV, stepO] at hr
  have hlen : args.length ≤ 3 := by
    have : Nat.ble args.length 3 = true := by simpa using hb
    exact Nat.le_of_ble_eq_true this
  match args, hlen with
  | [], _ => simp [stepI, evalO] at hr
  | [a], _ => simp [stepI, evalO] at hr
  | [a, b], _ => simp [stepI, evalO] at hr
  | [a, b, c], _ =>
    refine ⟨a, b, c, ?_⟩
    simp only [List.length_cons, List.length_nil, Nat.zero_add, Nat.reduceAdd, Nat.sub_self, List.replicate_zero, List.append_nil] at hr
    cases hq : stepI h (evalO [a, b, c]) (.ins 2 40 (.t 0) (.t 1) (.t 2)) with
    | none => rw [hq] at hr; simp at hr
    | some p =>
      obtain ⟨v, h1⟩ := p
      rw [hq] at hr
      simp [resAll, resOf, putD, pack] at hr
      obtain ⟨rfl, rfl⟩ := hr
      exact ⟨v, rfl, rfl, rfl⟩
/-! ### at the end: the small code of the text itself -/
def F1 : Nat → Option FnIR := fun n => match n with
  | 35 => some f35
  | _ => none
theorem tbl1 : TblOK Proofs.Try.prog F1 := by
  refine ⟨by kernel_rfl, fun f fn h => ?_⟩
  unfold F1 at h
  split at h
  · cases h; exact ⟨by decide, .inl ⟨_, _, _, Proofs.Try.func35, by kernel_rfl, f35_ok⟩⟩
  · cases h

theorem XO_appE {F : Nat → Option FnIR} {z by_ : Nat} {zero : List CV} {x y : Opd} {s : List VV} {h h1 : Heap} {d : Option Nat} {r : List Op1} {Q : Pst} {a c v : VV} (hx : evalO s x = a) (hy : evalO s y = c)
    (e : ∀ ρ : Opd → VV, ρ x = a → ρ y = c → stepI h ρ (.app z by_ zero x y) = some (v, h1)) (hk : XO F r ⟨putD s d v, h1⟩ Q) : XO F (⟨none, d, .app z by_ zero x y⟩ :: r) ⟨s, h⟩ Q := by
  rw [XO_ins rfl, e _ hx hy, XV_some]; exact hk

theorem end35 {h hq : Heap} {els : List (List CV)} {A v : VV} {el : List CV} {ex : Bool} (hv : VF h 2 els A) (hl : els.length ≤ 1000000000000)
    (e : ∀ (x y : Opd) (ρ : Opd → VV), ρ x = A → ρ y = .cv (.sl 2 [el] ex) → stepI h ρ (.app 2 40 [.sc (.string ⟨#[]⟩), .sc (.slice none 0 0)] x y) = some (v, hq)) :
    Ret F1 35 [A, vi .i64 (els.length : Nat), .cv (.sl 2 [el] ex)] h (Is v hq) := by
  refine call_E (fn := f35) rfl ?_
  simp only [f35]
  generalize hs0 : ([A, vi .i64 (els.length : Nat), .cv (.sl 2 [el] ex)] ++ List.replicate _ VV.undef : List VV) = s
  have hs : s.length = 95 := by rw [← hs0]; rfl
  have h0 : s.getD 0 .undef = A := by rw [← hs0]; rfl
  have h1 : s.getD 1 .undef = vi .i64 (els.length : Nat) := by rw [← hs0]; rfl
  have h2 : s.getD 2 .undef = .cv (.sl 2 [el] ex) := by rw [← hs0]; rfl
  clear hs0
  obtain ⟨w, w1, w2⟩ := hv.from_ (k := .i64) (n := els.length) (Nat.le_refl _)
  have c1 : ¬ ((([el] : List (List CV)).length : Nat) : Int) = 0 := by simp
  simp only [go_sem, Nat.reduceLT, Nat.reduceEqDiff, reduceCtorEq, Int.reduceLT, Int.reduceEq, hs, h0, h1, h2, w1]
  rw [X_eq f35_0.eq_1]
  simp only [go_sem, Nat.reduceLT, Nat.reduceEqDiff, reduceCtorEq, Int.reduceLT, Int.reduceEq, hs, c1, h0, hv.ln]
  rw [X_eq f35_1.eq_1]
  simp only [go_sem, Nat.reduceLT, Nat.reduceEqDiff, reduceCtorEq, Int.reduceLT, Int.reduceEq, hs, h1, h0, h2]
  refine XO_appE (a := A) (c := .cv (.sl 2 [el] ex)) (by simp only [go_sem, Nat.reduceLT, Nat.reduceEqDiff, reduceCtorEq, Int.reduceLT, Int.reduceEq, hs]) (by simp only [go_sem, Nat.reduceLT, Nat.reduceEqDiff, reduceCtorEq, Int.reduceLT, Int.reduceEq, hs]) (fun ρ => e _ _ ρ) ?_
  simp only [go_sem, Nat.reduceLT, Nat.reduceEqDiff, reduceCtorEq, Int.reduceLT, Int.reduceEq, hs]
  exact Is.refl _ _
end Go.V07

set_option linter.unusedSimpArgs false
set_option linter.unusedVariables false
namespace Go.V07
open Go Go.Vm

/-- What stands where, behind an element laid into a row of two cells each. -/
theorem cells_ins {σ : Stab} {els : List (List CV)} {el : List CV} {i len : Nat} {old new : Nat → Option Value}
    (ho : ∀ k e, els[k]? = some e → ∀ j c, e[j]? = some c → ∃ u, old (k * 2 + j) = some u ∧ CR σ u c) (h2 : ∀ e ∈ els, e.length = 2) (hel : el.length = 2)
    (hv : ∀ j c, el[j]? = some c → ∃ u, new (i * 2 + j) = some u ∧ CR σ u c) (hi : i ≤ len) (hlen : len ≤ els.length)
    (n1 : ∀ q, q < i * 2 → new q = old q) (n2 : ∀ q, i * 2 ≤ q → q < len * 2 → new (q + 2) = old q) :
    ∀ k e, ((els.take len).take i ++ el :: (els.take len).drop i)[k]? = some e → ∀ j c, e[j]? = some c → ∃ u, new (k * 2 + j) = some u ∧ CR σ u c := by
  intro k e hk j c hj
  have hl1 : ((els.take len).take i).length = i := by rw [List.length_take, List.length_take]; omega
  rw [List.getElem?_append, hl1] at hk
  split at hk
  · rename_i hlt
    rw [List.getElem?_take, if_pos hlt, List.getElem?_take, if_pos (by omega)] at hk
    have hj2 : j < 2 := by rw [← h2 e (List.mem_of_getElem? hk)]; exact (List.getElem?_eq_some_iff.1 hj).1
    obtain ⟨u, u1, u2⟩ := ho k e hk j c hj
    exact ⟨u, by rw [n1 _ (by omega)]; exact u1, u2⟩
  · rename_i hge
    by_cases hki : k = i
    · subst hki
      rw [Nat.sub_self, List.getElem?_cons_zero] at hk
      cases hk
      exact hv j c hj
    · obtain ⟨m, rfl⟩ : ∃ m, k = i + m + 1 := ⟨k - i - 1, by omega⟩
      rw [show i + m + 1 - i = m + 1 by omega, List.getElem?_cons_succ, List.getElem?_drop, List.getElem?_take] at hk
      split at hk
      · rename_i hlt
        have hj2 : j < 2 := by rw [← h2 e (List.mem_of_getElem? hk)]; exact (List.getElem?_eq_some_iff.1 hj).1
        obtain ⟨u, u1, u2⟩ := ho _ e hk j c hj
        refine ⟨u, ?_, u2⟩
        rw [show (i + m + 1) * 2 + j = ((i + m) * 2 + j) + 2 by omega, n2 _ (by omega) (by omega)]
        exact u1
      · cases hk

theorem cell_block {w : World} {b o : Nat} {v : Value} (h : w.cell? ⟨b, o, none⟩ = some v) : ∃ C E fz, w.heap[b]? = some (.cells C E fz) ∧ C[o]? = some v := by
  simp only [World.cell?] at h
  split at h
  · rename_i C E fz hC; exact ⟨C, E, fz, hC, by simpa using h⟩
  · cases h

theorem CR.one {σ : Stab} {v : Value} {c : CV} (h : CR σ v c) : v.oneCell' = true := by
  cases h with
  | sc _ hs => cases v <;> first | rfl | cases hs
  | sl => rfl

section
variable {prot : Nat → Prop} {σ : Stab} {β : Nat → Option Vm.Loc} {w : World} {h : Heap}
/-- slices.Insert, in the middle. -/
theorem mid35 {id g len : Nat} {els : List (List CV)} {el : List CV} {ex : Bool} {i : Nat} {X0 X1 X2 : Value} (hw : WR Proofs.Try.prog prot σ β h w) (hobj : h[id]? = some (.arr 2 els g false)) (hlen : len ≤ els.length) (hj : i < len) (hb : (len + 1) * 40 ≤ 35184372088832)
    (r0 : VR σ β X0 (.own id g 0 len false)) (r1 : VR σ β X1 (.cv (.sc (.int .i64 (i : Nat))))) (r2 : VR σ β X2 (.cv (.sl 2 [el] ex))) :
    Calls Proofs.Try.prog 35 #[X0, X1, X2] w (CPost Proofs.Try.prog prot σ β w (.ret (.own id (g + 1) 0 (len + 1) false)) (h.set id (.arr 2 ((els.take len).take i ++ el :: (els.take len).drop i) (g + 1) false))) := by
  obtain ⟨rfl, _⟩ := r1.sc_inv
  obtain ⟨L, hL, hO⟩ := hw.obj id _ hobj
  obtain ⟨o1, o2, o3, o4, o5, o6, ⟨C, E, fz, hC, hCs, hfz⟩, o8⟩ := hO
  have hfz : fz.1 = fz.2 := hfz.resolve_right (fun h => by omega)
  have hcell : ∀ k, w.cell? ⟨L.blk, k, none⟩ = C[k]? := fun k => by simp [World.cell?, hC]
  have hfrz : ∀ k, w.frozen? ⟨L.blk, k, none⟩ = false := fun k => by
    obtain ⟨lo, hi⟩ := fz
    have h : lo = hi := hfz
    subst h
    simp only [World.frozen?, hC]
    rw [← Bool.not_eq_true, Bool.and_eq_true, decide_eq_true_eq, decide_eq_true_eq]
    omega
  -- the row
  cases r0 with
  | own A' cap _ _ _ _ _ L' hL' hb' hg' hA' hc' hx' =>
  rw [hL] at hL'; cases hL'
  obtain ⟨a1, a2, a3, a4⟩ := hA' o2.symm
  have hcap0 : cap ≠ 0 := by omega
  have hA3 : A'.off = L.boff := by
    rcases a3 with a3 | a3
    · exact absurd a3 hcap0
    · rw [a3]; omega
  have hAe : A' = ⟨L.blk, L.boff, none⟩ := by obtain ⟨x, y, z⟩ := A'; simp only at a1 a2 hA3; rw [a1, a2, hA3]
  rw [hAe]
  rw [o3, Nat.zero_add] at a4
  have hcsz : L.boff + cap * 2 ≤ C.size := by rw [hCs]; exact a4
  -- the element
  cases r2 with
  | cv _ _ hcr =>
  generalize hsl : CV.sl 2 [el] ex = X at hcr
  cases hcr with
  | sc => cases hsl
  | sl A vc z els' ex' f hs hc hx hz hl hm hr =>
  cases hsl
  have hvc : vc ≠ 0 := by have : ([el] : List (List CV)).length = 1 := rfl; omega
  have hsp := hs.resolve_left hvc
  have hAe : A = ⟨A.block, A.off, none⟩ := by obtain ⟨x, y, z⟩ := A; simp only at hsp; rw [hsp]
  have hel : el.length = 2 := hl el (by simp)
  have hvr : ∀ j c, el[j]? = some c → CR σ (f 0 j) c := fun j c hj => hr 0 el rfl j c hj
  have hvm : ∀ j c, el[j]? = some c → σ ⟨A.block, A.off + j, none⟩ = some (f 0 j) := fun j c hj => by have := hm 0 el rfl j c hj; rwa [Nat.zero_mul, Nat.add_zero] at this
  have hj0 : ∃ c, el[0]? = some c := ⟨el[0], List.getElem?_eq_getElem (by omega)⟩
  have hj1 : ∃ c, el[1]? = some c := ⟨el[1], List.getElem?_eq_getElem (by omega)⟩
  obtain ⟨c0, hc0⟩ := hj0
  obtain ⟨c1, hc1⟩ := hj1
  obtain ⟨vs, hvs⟩ : ∃ vs : List Value, vs = [f 0 0, f 0 1] := ⟨_, rfl⟩
  have hvl : vs.length = 2 := by rw [hvs]; rfl
  have hvj : ∀ j v, vs[j]? = some v → ∃ c, el[j]? = some c ∧ v = f 0 j := by
    intro j v hv
    rw [hvs] at hv
    match j, hv with
    | 0, hv => exact ⟨c0, hc0, by simpa using hv.symm⟩
    | 1, hv => exact ⟨c1, hc1, by simpa using hv.symm⟩
    | j + 2, hv => simp at hv
  have hvj' : ∀ j c, el[j]? = some c → vs[j]? = some (f 0 j) := by
    intro j c hc
    have hlt := (List.getElem?_eq_some_iff.1 hc).1
    rw [hvs]
    match j, hlt with
    | 0, _ => rfl
    | 1, _ => rfl
    | j + 2, h => omega
  have hvs1 : ∀ j v, vs[j]? = some v → w.cell? ⟨A.block, A.off + j, none⟩ = some v := fun j v hv => by
    obtain ⟨c, hc, rfl⟩ := hvj j v hv
    exact hw.stab _ _ (hvm j c hc)
  have h1v : ∀ v ∈ vs, v.oneCell' = true := fun v hv => by
    obtain ⟨j, hj⟩ := List.getElem?_of_mem hv
    obtain ⟨c, hc, rfl⟩ := hvj j v hj
    exact CR.one (hvr j c hc)
  obtain ⟨CA, tA, fa, hCA, hCA0⟩ := cell_block (hvs1 0 (f 0 0) (by rw [hvs]; rfl))
  have hA0 : CA.size ≠ 0 := by have := (Array.getElem?_eq_some_iff.1 hCA0).1; omega
  have hlive := hw.live id _ L hobj rfl hL
  have hvb : A.block ≠ L.blk := by
    intro e
    have := hlive.2 ⟨A.block, A.off + 0, none⟩ e
    rw [hvm 0 c0 hc0] at this; cases this
  have hablt : A.block < w.heap.size := (Array.getElem?_eq_some_iff.1 hCA).1
  have hblt : L.blk < w.heap.size := (Array.getElem?_eq_some_iff.1 hC).1
  -- what stands in the row
  obtain ⟨cs, hcs⟩ : ∃ cs : List Value, cs = (C.toList.drop L.boff).take (len * 2) := ⟨_, rfl⟩
  have hcl : cs.length = len * 2 := by rw [hcs, List.length_take, List.length_drop, Array.length_toList]; omega
  have hcj : ∀ j, j < len * 2 → cs[j]? = C[L.boff + j]? := fun j hj => by rw [hcs, List.getElem?_take, if_pos hj, List.getElem?_drop, Array.getElem?_toList]
  have hcs1 : ∀ j v, cs[j]? = some v → w.cell? ⟨L.blk, L.boff + j, none⟩ = some v := fun j v hj => by
    have hlt := (List.getElem?_eq_some_iff.1 hj).1
    rw [hcell, ← hcj j (by omega)]; exact hj
  have ho : ∀ k e, els[k]? = some e → ∀ j c, e[j]? = some c → ∃ u, C[L.boff + (k * 2 + j)]? = some u ∧ CR σ u c := fun k e hk j c hj => by
    obtain ⟨u, u1, u2, _⟩ := o8 k e hk j c hj
    rw [hcell, Nat.add_assoc] at u1
    exact ⟨u, u1, u2⟩
  have h1c : ∀ v ∈ cs, v.oneCell' = true := fun v hv => by
    obtain ⟨q, hq⟩ := List.getElem?_of_mem hv
    have hlt := (List.getElem?_eq_some_iff.1 hq).1
    rw [hcj q (by omega)] at hq
    have hk : q / 2 < els.length := by omega
    have he := o5 els[q / 2] (List.getElem_mem hk)
    have hjj : q % 2 < els[q / 2].length := by omega
    obtain ⟨u, u1, u2⟩ := ho (q / 2) els[q / 2] (List.getElem?_eq_getElem hk) (q % 2) els[q / 2][q % 2] (List.getElem?_eq_getElem hjj)
    rw [show q / 2 * 2 + q % 2 = q by omega, hq] at u1
    cases u1
    exact CR.one u2
  have hnewl : ((els.take len).take i ++ el :: (els.take len).drop i).length = len + 1 := by
    rw [List.length_append, List.length_cons, List.length_take, List.length_drop, List.length_take]; omega
  have hall : ∀ e ∈ (els.take len).take i ++ el :: (els.take len).drop i, e.length = 2 := by
    intro e he
    rcases List.mem_append.1 he with he | he
    · exact o5 e (List.mem_of_mem_take (List.mem_of_mem_take he))
    · rcases List.mem_cons.1 he with rfl | he
      · exact hel
      · exact o5 e (List.mem_of_mem_take (List.mem_of_mem_drop he))
  rw [show (([el] : List (List CV)).length) = 1 from rfl, hAe]
  by_cases hroom : len + 1 ≤ cap
  · -- in its place
    have hB0 : C.size ≠ 0 := by omega
    refine (ins_shift L.blk L.boff len cap i A.block A.off vc cs vs w hj hroom (by omega) hvb hcl hvl hcs1 (fun j hj => by rw [hcell, Array.getElem?_eq_getElem (by omega)]; rfl) (fun j => hfrz _) hvs1 h1c h1v CA C tA E fa fz hCA hC hA0 hB0 hfz).mono ?_
    rintro e w' ⟨rfl, rfl⟩
    have hdl : (cs.drop (i * 2)).length = (len - i) * 2 := by rw [List.length_drop, hcl]; omega
    obtain ⟨p1, p2, p3, C1, p4, p5, p6⟩ := setCells_facts L.blk (cs.drop (i * 2)) (L.boff + (i + 1) * 2) w.drew C E fz hC (by omega)
    obtain ⟨q1, q2, q3, C2, q4, q5, q6⟩ := setCells_facts L.blk vs (L.boff + i * 2) (w.drew.setCells L.blk (L.boff + (i + 1) * 2) (cs.drop (i * 2))) C1 E fz p4 (by omega)
    obtain ⟨W, hW⟩ : ∃ W, W = (w.drew.setCells L.blk (L.boff + (i + 1) * 2) (cs.drop (i * 2))).setCells L.blk (L.boff + i * 2) vs := ⟨_, rfl⟩
    rw [← hW] at q1 q2 q3 q4 ⊢
    have hcalm : Vm.Calm w W := ⟨by rw [q1.os, p1.os]; rfl, by rw [q1.tape, p1.tape]; rfl, by rw [q1.output, p1.output]; rfl⟩
    have hsz : W.heap.size = w.heap.size := by rw [q2, p2]; rfl
    have hrest : ∀ k, k ≠ L.blk → W.heap[k]? = w.heap[k]? := fun k hk => by rw [q3 k hk, p3 k hk]; rfl
    have hWc : ∀ k, W.cell? ⟨L.blk, k, none⟩ = C2[k]? := fun k => by simp [World.cell?, q4]
    have key := cells_ins (σ := σ) (els := els) (el := el) (i := i) (len := len) (old := fun q => C[L.boff + q]?) (new := fun q => C2[L.boff + q]?) ho o5 hel
      (fun j c hj => by
        have hlt := (List.getElem?_eq_some_iff.1 hj).1
        refine ⟨f 0 j, ?_, hvr j c hj⟩
        show C2[L.boff + (i * 2 + j)]? = _
        rw [q6, if_pos (by omega), show L.boff + (i * 2 + j) - (L.boff + i * 2) = j by omega]
        exact hvj' j c hj) (by omega) hlen
      (fun q hq => by
        show C2[L.boff + q]? = C[L.boff + q]?
        rw [q6, if_neg (by omega), p6, if_neg (by omega)])
      (fun q h1 h2 => by
        show C2[L.boff + (q + 2)]? = C[L.boff + q]?
        rw [q6, if_neg (by omega), p6, if_pos (by omega), List.getElem?_drop, ← hcj q h2]
        congr 1; omega)
    obtain ⟨β', hF, hW', hβ, _⟩ := hw.upd hcalm id (o' := .arr 2 ((els.take len).take i ++ el :: (els.take len).drop i) (g + 1) false) (L' := { L with g := g + 1 }) hobj rfl hL (by rw [hsz]; exact Nat.le_refl _) (fun b _ hb => hrest b hb) (.inr ⟨o1, o1, by simp only; omega⟩) (.inl rfl) (by
      intro β' hbet hβ hF
      refine ⟨o1, rfl, o3, o4, hall, by rw [hnewl]; simp only; omega, ⟨C2, E, fz, q4, by simp only; omega, .inl hfz⟩, fun k e hk j c hj => ?_⟩
      obtain ⟨u, u1, u2⟩ := key k e hk j c hj
      exact ⟨u, by simp only; rw [hWc, Nat.add_assoc]; exact u1, u2, fun e => by cases e⟩)
    refine ⟨σ, β', _, hF, hW', .inl ⟨_, rfl, rfl, ?_⟩⟩
    exact .own _ _ _ _ _ _ _ _ hβ o1 (Nat.le_refl _) (fun _ => ⟨rfl, rfl, .inr (by simp), by simp only [Nat.zero_add]; rw [o3]; exact a4⟩) hroom (fun e => by cases e)
  · -- moved
    obtain ⟨Z, G, hG, hZ, hcall⟩ := ins_grow L.blk L.boff len cap i A.block A.off vc cs vs w hj hc' (by omega) (by omega) hcl hvl hcs1 hvs1 h1c h1v
    refine hcall.mono ?_
    rintro e w' ⟨rfl, rfl⟩
    have hdl : (cs.drop (i * 2)).length = (len - i) * 2 := by rw [List.length_drop, hcl]; omega
    have htl : (cs.take (i * 2)).length = i * 2 := by rw [List.length_take, hcl]; omega
    obtain ⟨R, hR⟩ : ∃ R : Array Value, R = (cs.take (i * 2)).toArray ++ Z := ⟨_, rfl⟩
    have hRs : R.size = G * 2 := by rw [hR, Array.size_append, hZ, List.size_toArray, htl]; omega
    rw [← hR]
    have hN0 : ((w.alloc (.cells R 53)).drew).heap[w.heap.size]? = some (.cells R 53 (0, 0)) := by
      show (w.heap.push (.cells R 53))[w.heap.size]? = _
      rw [Array.getElem?_push, if_pos rfl]
    obtain ⟨p1, p2, p3, C1, p4, p5, p6⟩ := setCells_facts w.heap.size vs (i * 2) ((w.alloc (.cells R 53)).drew) R 53 (0, 0) hN0 (by omega)
    obtain ⟨q1, q2, q3, C2, q4, q5, q6⟩ := setCells_facts w.heap.size (cs.drop (i * 2)) ((i + 1) * 2) (((w.alloc (.cells R 53)).drew.setCells w.heap.size (i * 2) vs).drew) C1 53 (0, 0) p4 (by omega)
    obtain ⟨W, hW⟩ : ∃ W, W = (((w.alloc (.cells R 53)).drew.setCells w.heap.size (i * 2) vs).drew).setCells w.heap.size ((i + 1) * 2) (cs.drop (i * 2)) := ⟨_, rfl⟩
    rw [← hW] at q1 q2 q3 q4 ⊢
    have hcalm : Vm.Calm w W := ⟨by rw [q1.os]; show (((w.alloc (.cells R 53)).drew).setCells _ _ _).os = _; rw [p1.os]; rfl, by rw [q1.tape]; show (((w.alloc (.cells R 53)).drew).setCells _ _ _).tape = _; rw [p1.tape]; rfl, by rw [q1.output]; show (((w.alloc (.cells R 53)).drew).setCells _ _ _).output = _; rw [p1.output]; rfl⟩
    have hsz : W.heap.size = w.heap.size + 1 := by
      rw [q2]; show (((w.alloc (.cells R 53)).drew).setCells _ _ _).heap.size = _; rw [p2]; show (w.heap.push (.cells R 53)).size = _; rw [Array.size_push]
    have hrest : ∀ k, k < w.heap.size → W.heap[k]? = w.heap[k]? := fun k hk => by
      rw [q3 k (by omega)]; show (((w.alloc (.cells R 53)).drew).setCells _ _ _).heap[k]? = _; rw [p3 k (by omega)]; show (w.heap.push (.cells R 53))[k]? = _; rw [Array.getElem?_push, if_neg (Nat.ne_of_lt hk)]
    have hWc : ∀ k, W.cell? ⟨w.heap.size, k, none⟩ = C2[k]? := fun k => by simp [World.cell?, q4]
    have key := cells_ins (σ := σ) (els := els) (el := el) (i := i) (len := len) (old := fun q => C[L.boff + q]?) (new := fun q => C2[q]?) ho o5 hel
      (fun j c hj => by
        have hlt := (List.getElem?_eq_some_iff.1 hj).1
        refine ⟨f 0 j, ?_, hvr j c hj⟩
        show C2[i * 2 + j]? = _
        rw [q6, if_neg (by omega), p6, if_pos (by omega), show i * 2 + j - i * 2 = j by omega]
        exact hvj' j c hj) (by omega) hlen
      (fun q hq => by
        show C2[q]? = C[L.boff + q]?
        rw [q6, if_neg (by omega), p6, if_neg (by omega), hR, Array.getElem?_append, List.size_toArray, htl, if_pos hq, List.getElem?_toArray, List.getElem?_take, if_pos hq, hcj q (by omega)])
      (fun q h1 h2 => by
        show C2[q + 2]? = C[L.boff + q]?
        rw [q6, if_pos (by omega), List.getElem?_drop, ← hcj q h2]
        congr 1; omega)
    obtain ⟨β', hF, hW', hβ, _⟩ := hw.upd hcalm id (o' := .arr 2 ((els.take len).take i ++ el :: (els.take len).drop i) (g + 1) false) (L' := ⟨w.heap.size, 0, g + 1, 2, R.size, false⟩) hobj rfl hL (by rw [hsz]; omega) (fun b hb _ => hrest b hb) (.inr ⟨o1, rfl, by simp only; omega⟩) (.inr (Nat.le_refl _)) (by
      intro β' hbet hβ hF
      refine ⟨rfl, rfl, rfl, o4, hall, by rw [hnewl]; simp only; omega, ⟨C2, 53, (0, 0), q4, by simp only; omega, .inl rfl⟩, fun k e hk j c hj => ?_⟩
      obtain ⟨u, u1, u2⟩ := key k e hk j c hj
      exact ⟨u, by simp only; rw [hWc, Nat.zero_add]; exact u1, u2, fun e => by cases e⟩)
    refine ⟨σ, β', _, hF, hW', .inl ⟨_, rfl, rfl, ?_⟩⟩
    exact .own _ _ _ _ _ _ _ _ hβ rfl (Nat.le_refl _) (fun _ => ⟨rfl, rfl, .inr (by simp), by simp only [Nat.zero_add]; omega⟩) hG (fun e => by cases e)
end

theorem args3 {rargs : Array Value} (h : rargs.size = 3) : ∃ X0 X1 X2, rargs = #[X0, X1, X2] := by
  obtain ⟨l⟩ := rargs
  match l, h with
  | [X0, X1, X2], _ => exact ⟨X0, X1, X2, rfl⟩

/-- slices.Insert is what its instruction says. -/
theorem nat35 : NatOK Proofs.Try.prog 35 f35x := by
  refine ⟨⟨_, Proofs.Try.func35, by kernel_rfl, by kernel_rfl⟩, fun call n args h r h' hc hr rargs prot σ β w hl hrel hw => ?_⟩
  obtain ⟨a, b, c, v, rfl, rfl, hst⟩ := runx hr
  obtain ⟨el, ex, j, he, hi, hcase⟩ := ins_inv hst
  have he : c = .cv (.sl 2 [el] ex) := he
  have hi : b = .cv (.sc (.int .i64 j)) := hi
  subst he hi
  have fin : Ret F1 35 [a, .cv (.sc (.int .i64 j)), .cv (.sl 2 [el] ex)] h (Is v h') → Calls Proofs.Try.prog 35 rargs w (CPost Proofs.Try.prog prot σ β w (.ret v) h') := by
    rintro ⟨v1, h1, hcall, rfl, rfl⟩
    obtain ⟨m, hm⟩ := call_iff.mp hcall
    exact (callF_sound tbl1 m).go 35 _ h _ _ (by decide) hm rargs prot σ β w hl hrel hw
  rcases hcase with ⟨ha, rfl, rfl, rfl⟩ | ⟨ha, rfl, rfl, rfl⟩ | ⟨id, g, len, els, ha, hobj, h3, h4, h5, h6, h7, rfl, rfl⟩
  · have ha : a = nilS := ha
    subst ha
    exact fin (end35 (els := []) VF.nil (by simp) (fun x y ρ hx hy => by simp [stepI, hx, hy, nilS, srcOf, elsOf, lenV, maxBytes]))
  · have ha : a = .cv (.sl 2 [] true) := ha
    subst ha
    exact fin (end35 (els := []) (.inl (.inr ⟨true, rfl⟩)) (by simp) (fun x y ρ hx hy => by simp [stepI, hx, hy, srcOf, elsOf, lenV, maxBytes]))
  · have ha : a = .own id g 0 len false := ha
    subst ha
    have hm : maxBytes = 35184372088832 := rfl
    rw [hm] at h6 h7
    obtain ⟨i, rfl⟩ : ∃ i : Nat, j = (i : Int) := ⟨j.toNat, by omega⟩
    rw [Int.toNat_natCast] at fin ⊢
    by_cases hj : i = len
    · subst hj
      have hl1 : (els.take i).length = i := by rw [List.length_take]; omega
      have hV : VF h 2 (els.take i) (.own id g 0 (els.take i).length false) := .inr ⟨id, g, 0, false, false, els, rfl, hobj, by omega, by rw [List.drop_zero, hl1]⟩
      have := end35 (el := el) (ex := ex) (v := .own id (g + 1) 0 (i + 1) false) (hq := h.set id (.arr 2 ((els.take i).take i ++ el :: (els.take i).drop i) (g + 1) false)) hV (by omega) (fun x y ρ hx hy => by
        simp [stepI, hx, hy, srcOf, elsOf, lenV, hm, hobj, h3, h6, h7, hl1, List.take_take])
      rw [hl1] at this
      exact fin this
    · obtain ⟨X0, X1, X2, rfl⟩ := args3 hl
      exact mid35 hw hobj h3 (by omega) h6 (hrel 0 X0 _ rfl rfl) (hrel 1 X1 _ rfl rfl) (hrel 2 X2 _ rfl rfl)

theorem tbl : TblOK Proofs.Try.prog F := tbl0 nat35
end Go.V07

set_option linter.unusedSimpArgs false
set_option linter.unusedVariables false
namespace Go.V07
open Go Go.Vm

theorem take_C {els : List (List CV)} {l : List Ch} (hR : ChsE els l) (n : Nat) : ChsE (els.take n) (l.take n) := by
  induction hR generalizing n with
  | nil => simp; exact .nil
  | cons h t ih =>
    cases n with
    | zero => exact .nil
    | succ n => exact .cons h (ih n)
theorem drop_C {els : List (List CV)} {l : List Ch} (hR : ChsE els l) (n : Nat) : ChsE (els.drop n) (l.drop n) := by
  induction hR generalizing n with
  | nil => simp; exact .nil
  | cons h t ih =>
    cases n with
    | zero => exact .cons h t
    | succ n => exact ih n

/-- Apply, of whatever. -/
theorem apply_any {els elsC : List (List CV)} {l : List KV} {cs : List Ch} {u uc : VV} (hu : SlV 2 els u) (hR : RowsE els l) (hl : l.length ≤ 100000) (hC : ChsE elsC cs) (huc : SlV 3 elsC uc) (hcl : cs.length ≤ 100000) (hval : ∀ x ∈ cs, x.2.1.length ≤ 1000000000) :
    RetP F 18 [u, uc] fun w => ∃ els', SlV 2 els' w ∧ RowsE els' (applyF l cs) :=
  apply_f18 (G := True) insC hu hR hl hC huc hcl hval (.inl trivial)

end Go.V07

set_option linter.unusedSimpArgs false
set_option linter.unusedVariables false
namespace Go.V07
open Go Go.Vm

theorem app_C {l m : List (List CV)} {k j : List Ch} (h : ChsE l k) (h2 : ChsE m j) : ChsE (l ++ m) (k ++ j) := by
  induction h with
  | nil => exact h2
  | cons h _ ih => exact .cons h ih

theorem mem_layS (r : KV) : ∀ (l : List KV) (b : Bool), ∀ q ∈ (layS r l b).1, q ∈ l ∨ q = r
  | [], b, q, h => by simp [layS] at h
  | p :: t, b, q, h => by
    unfold layS at h
    split at h
    · rcases mem_layS r t b q h with h | h
      · exact .inl (List.mem_cons_of_mem _ h)
      · exact .inr h
    · split at h
      · rcases List.mem_cons.1 h with h | h
        · exact .inr h
        · rcases List.mem_cons.1 h with h | h
          · exact .inl (by rw [h]; simp)
          · rcases mem_layS r t true q h with h | h
            · exact .inl (List.mem_cons_of_mem _ h)
            · exact .inr h
      · rcases List.mem_cons.1 h with h | h
        · exact .inl (by rw [h]; simp)
        · rcases mem_layS r t b q h with h | h
          · exact .inl (List.mem_cons_of_mem _ h)
          · exact .inr h
theorem mem_layF (r : KV) (l : List KV) : ∀ q ∈ layF l r, q ∈ l ∨ q = r := by
  intro q h
  unfold layF at h
  split at h
  · exact mem_layS r l false q h
  · rcases List.mem_append.1 h with h | h
    · exact mem_layS r l false q h
    · exact .inr (by simpa using h)
theorem mem_fold : ∀ (L acc : List KV), ∀ q ∈ L.foldl layF acc, q ∈ acc ∨ q ∈ L
  | [], acc, q, h => .inl h
  | r :: L, acc, q, h => by
    rcases mem_fold L (layF acc r) q h with h | h
    · rcases mem_layF r acc q h with h | h
      · exact .inl h
      · exact .inr (by rw [h]; simp)
    · exact .inr (List.mem_cons_of_mem _ h)
theorem risL_fits (n : Nat) (c : List UInt8) : ∀ r ∈ risL n c, r.1.length ≤ 30 ∧ r.2.length ≤ 150 := by
  intro r hr
  rcases mem_fold _ _ r hr with h | h
  · cases h
  · exact rowL_fits n c r h
theorem delta_len (x y : Option KV) : (delta x y).length ≤ 1 := by
  unfold delta; split <;> try simp
  split <;> simp
theorem diffP_len : ∀ (n : Nat) (a b : List KV), (diffP n a b).length ≤ n
  | 0, a, b => by unfold diffP; simp
  | n + 1, [], [] => by show ([] : List Ch).length ≤ _; simp
  | n + 1, x :: a, [] => by
    show (delta (some x) none ++ diffP n a []).length ≤ _
    have := diffP_len n a []; have := delta_len (some x) none; rw [List.length_append]; omega
  | n + 1, [], y :: b => by
    show (delta none (some y) ++ diffP n [] b).length ≤ _
    have := diffP_len n [] b; have := delta_len none (some y); rw [List.length_append]; omega
  | n + 1, x :: a, y :: b => by
    show (if bl_le x.1 y.1 = true then (if y.1 = x.1 then delta (some x) (some y) ++ diffP n a b else delta (some x) none ++ diffP n a (y :: b)) else delta none (some y) ++ diffP n (x :: a) b).length ≤ _
    split
    · split
      · have := diffP_len n a b; have := delta_len (some x) (some y); rw [List.length_append]; omega
      · have := diffP_len n a (y :: b); have := delta_len (some x) none; rw [List.length_append]; omega
    · have := diffP_len n (x :: a) b; have := delta_len none (some y); rw [List.length_append]; omega

theorem delta_gone (x y : Option KV) : ∀ c ∈ delta x y, c.2.2 = true → c.2.1 = [] := by
  intro c hc hg
  unfold delta at hc
  split at hc
  · simp at hc; rw [hc]
  · simp at hc; rw [hc] at hg; cases hg
  · split at hc
    · cases hc
    · simp at hc; rw [hc] at hg; cases hg
  · cases hc
theorem diffP_gone : ∀ (n : Nat) (a b : List KV), ∀ c ∈ diffP n a b, c.2.2 = true → c.2.1 = []
  | 0, a, b, c, hc, _ => by unfold diffP at hc; cases hc
  | n + 1, [], [], c, hc, _ => by cases hc
  | n + 1, x :: a, [], c, hc, hg => by
    rcases List.mem_append.1 (show c ∈ delta (some x) none ++ diffP n a [] from hc) with h | h
    · exact delta_gone _ _ c h hg
    · exact diffP_gone n a [] c h hg
  | n + 1, [], y :: b, c, hc, hg => by
    rcases List.mem_append.1 (show c ∈ delta none (some y) ++ diffP n [] b from hc) with h | h
    · exact delta_gone _ _ c h hg
    · exact diffP_gone n [] b c h hg
  | n + 1, x :: a, y :: b, c, hc, hg => by
    have hc : c ∈ (if bl_le x.1 y.1 = true then (if y.1 = x.1 then delta (some x) (some y) ++ diffP n a b else delta (some x) none ++ diffP n a (y :: b)) else delta none (some y) ++ diffP n (x :: a) b) := hc
    split at hc
    · split at hc
      · rcases List.mem_append.1 hc with h | h
        · exact delta_gone _ _ c h hg
        · exact diffP_gone n a b c h hg
      · rcases List.mem_append.1 hc with h | h
        · exact delta_gone _ _ c h hg
        · exact diffP_gone n a (y :: b) c h hg
    · rcases List.mem_append.1 hc with h | h
      · exact delta_gone _ _ c h hg
      · exact diffP_gone n (x :: a) b c h hg

section
variable {a b : List KV} {x : List Ch} {ea eb ex : List (List CV)} {ua ub ux : VV}
theorem f6_loop (Sa : SlV 2 ea ua) (Ra : RowsE ea a) (Sb : SlV 2 eb ub) (Rb : RowsE eb b) (Sx : SlV 3 ex ux) (Cx : ChsE ex x) (hla : a.length ≤ 1000) (hlb : b.length ≤ 1000) (hlx : x.length ≤ 1000) (hval : ∀ y ∈ x, y.2.1.length ≤ 1000000000)
    (hne : ∀ x1 c x2, x = x1 ++ c :: x2 → applyF a (x1 ++ x2) ≠ b) : ∀ (m i : Nat) (s : List VV) (h : Heap) (Q : Pst), i + m = x.length → s.length = 47 → s.getD 5 .undef = ua → s.getD 6 .undef = ub → s.getD 7 .undef = ux → s.getD 8 .undef = vi .i64 i →
      (∀ s' h', s'.length = 47 → s'.getD 5 .undef = ua → s'.getD 6 .undef = ub → s'.getD 7 .undef = ux → Q (.exit 0) ⟨s', h'⟩) → X F (.loop f6_0) ⟨s, h⟩ Q := by
  intro m
  have hpl := Cx.len
  induction m with
  | zero =>
    intro i s h Q hi hs e5 e6 e7 e8 hQ
    have c : ¬ ((i : Nat) : Int) < (ex.length : Int) := by omega
    rw [X_loop, X_eq f6_0.eq_1]
    simp only [go_sem, Nat.reduceLT, Nat.reduceEqDiff, reduceCtorEq, Int.reduceLT, Int.reduceEq, hs, e7, e8, Sx.ln, c]
    exact hQ _ _ (by simp only [slot_len, hs]) (by simp only [go_sem, Nat.reduceLT, Nat.reduceEqDiff, reduceCtorEq, Int.reduceLT, Int.reduceEq, e5]) (by simp only [go_sem, Nat.reduceLT, Nat.reduceEqDiff, reduceCtorEq, Int.reduceLT, Int.reduceEq, e6]) (by simp only [go_sem, Nat.reduceLT, Nat.reduceEqDiff, reduceCtorEq, Int.reduceLT, Int.reduceEq, e7])
  | succ m ih =>
    intro i s h Q hi hs e5 e6 e7 e8 hQ
    have c : ((i : Nat) : Int) < (ex.length : Int) := by omega
    have w8 : IntKind.i64.wrap ((i : Int) + 1) = ((i + 1 : Nat) : Int) := by rw [IntWalk.i64_in _ (by omega)]; omega
    obtain ⟨u1, Su1, sl1⟩ := Sx.upto (h := h) (k := .i64) (b := (i : Int)) (by omega) (by omega)
    rw [Int.toNat_natCast] at Su1
    obtain ⟨la, ci⟩ : ∃ ci, x[i]? = some ci := ⟨x[i]'(by omega), List.getElem?_eq_getElem (by omega)⟩
    have hxx : x = x.take i ++ la :: x.drop (i + 1) := by
      obtain ⟨p, q⟩ := List.getElem?_eq_some_iff.1 ci
      conv => lhs; rw [← List.take_append_drop i x, List.drop_eq_getElem_cons p, q]
    have hlen : (x.take i ++ x.drop (i + 1)).length ≤ 1000 := by rw [List.length_append, List.length_take, List.length_drop]; omega
    have hn := hne _ _ _ hxx
    rw [X_loop, X_eq f6_0.eq_1]
    simp only [go_sem, Nat.reduceLT, Nat.reduceEqDiff, reduceCtorEq, Int.reduceLT, Int.reduceEq, hs, e7, e8, Sx.ln, c, sl1]
    refine XO_appNB (NB.nil h 3) (new := ex.take i) (by simp only [go_sem, Nat.reduceLT, Nat.reduceEqDiff, reduceCtorEq, Int.reduceLT, Int.reduceEq, hs]) (by simp only [go_sem, Nat.reduceLT, Nat.reduceEqDiff, reduceCtorEq, Int.reduceLT, Int.reduceEq, hs]; exact Su1.src) (by rw [List.length_take]; simp only [List.length_nil]; omega) (by rw [List.length_take]; simp only [List.length_nil]; omega) (fun v1 g1 B1 _ _ _ => ?_)
    obtain ⟨u2, Su2, sl2⟩ := Sx.from_ (h := g1) (k := .i64) (a := ((i + 1 : Nat) : Int)) (by omega) (by omega)
    rw [Int.toNat_natCast] at Su2
    simp only [go_sem, Nat.reduceLT, Nat.reduceEqDiff, reduceCtorEq, Int.reduceLT, Int.reduceEq, hs, e7, e8, w8, sl2]
    refine XO_appNB B1 (new := ex.drop (i + 1)) (by simp only [go_sem, Nat.reduceLT, Nat.reduceEqDiff, reduceCtorEq, Int.reduceLT, Int.reduceEq, hs]) (by simp only [go_sem, Nat.reduceLT, Nat.reduceEqDiff, reduceCtorEq, Int.reduceLT, Int.reduceEq, hs]; exact Su2.src) (by rw [List.length_drop, List.nil_append, List.length_take]; omega) (by rw [List.length_drop, List.nil_append, List.length_take]; omega) (fun v2 g2 B2 _ _ _ => ?_)
    rw [List.nil_append] at B2
    obtain ⟨wc, g3, cl, Sc⟩ := B2.clos
    obtain ⟨va, ga, na, wa, ra, elsa, Sa', Ra'⟩ := apply_any Sa Ra (by omega) (app_C (take_C Cx i) (drop_C Cx (i + 1))) Sc (by omega) (fun y hy => by
      rcases List.mem_append.1 hy with hy | hy
      · exact hval y (List.mem_of_mem_take hy)
      · exact hval y (List.mem_of_mem_drop hy))
    have ll := applyF_len (x.take i ++ x.drop (i + 1)) a
    obtain ⟨v3, h3, n17, rfl, _⟩ := same_f17d Sa' Sb Ra' Rb (by omega) (by omega) []
    rw [decide_eq_false hn] at n17
    simp only [go_sem, Nat.reduceLT, Nat.reduceEqDiff, reduceCtorEq, Int.reduceLT, Int.reduceEq, hs, e5]
    refine XO_callP (h1 := g3) (by simp only [List.map, go_sem, Nat.reduceLT, Nat.reduceEqDiff, reduceCtorEq, Int.reduceLT, Int.reduceEq, hs]; exact Sa.clos (closAs_cons cl rfl)) na ra ?_
    simp only [go_sem, Nat.reduceLT, Nat.reduceEqDiff, reduceCtorEq, Int.reduceLT, Int.reduceEq, hs, e6]
    refine XO_callP (h1 := g3) (by simp only [List.map, go_sem, Nat.reduceLT, Nat.reduceEqDiff, reduceCtorEq, Int.reduceLT, Int.reduceEq, hs]; exact Sa'.clos (Sb.clos rfl)) n17 rfl ?_
    simp only [go_sem, Nat.reduceLT, Nat.reduceEqDiff, reduceCtorEq, Int.reduceLT, Int.reduceEq, hs, e8, w8]
    exact ih (i + 1) _ _ Q (by omega) (by simp only [slot_len, hs]) (by simp only [go_sem, Nat.reduceLT, Nat.reduceEqDiff, reduceCtorEq, Int.reduceLT, Int.reduceEq, e5]) (by simp only [go_sem, Nat.reduceLT, Nat.reduceEqDiff, reduceCtorEq, Int.reduceLT, Int.reduceEq, e6]) (by simp only [go_sem, Nat.reduceLT, Nat.reduceEqDiff, reduceCtorEq, Int.reduceLT, Int.reduceEq, e7]) (by simp only [go_sem, Nat.reduceLT, Nat.reduceEqDiff, reduceCtorEq, Int.reduceLT, Int.reduceEq, hs]) hQ
end

theorem law_back {c d : List UInt8} {vc vd : VV} (hc : SlV 1 (eB c) vc) (hd : SlV 1 (eB d) vd) : ∃ h', call F 6 [vc, vd] [] = some (.ret (vb true), h') := by
  have : Ret F 6 [vc, vd] [] fun v h' => v = vb true := by
    refine call_E (fn := f6) rfl ?_
    simp only [f6]
    generalize hs0 : ([vc, vd] ++ List.replicate _ VV.undef : List VV) = s
    have hs : s.length = 47 := by rw [← hs0]; rfl
    have h0 : s.getD 0 .undef = vc := by rw [← hs0]; rfl
    have h1 : s.getD 1 .undef = vd := by rw [← hs0]; rfl
    clear hs0
    obtain ⟨h11, n11⟩ := known_f11
    obtain ⟨va, ga, na, wa, ra, ea, Sa, Ra⟩ := rising_pure hc (n := 20) (by omega)
    obtain ⟨vb_, gb, nb, wb, rb, eb, Sb, Rb⟩ := rising_pure hd (n := 20) (by omega)
    have la := risL_len 20 c
    have lb := risL_len 20 d
    have sa := risL_srt 20 c
    have sb := risL_srt 20 d
    have fa : SmallV (risL 20 c) := fun r hr => by have := (risL_fits 20 c r hr).2; omega
    have fb : SmallV (risL 20 d) := fun r hr => by have := (risL_fits 20 d r hr).2; omega
    generalize risL 20 c = a at *
    generalize risL 20 d = b at *
    obtain ⟨vx, gx, nx, wx, rx, ex, Sx, Cx⟩ := diff_f21 Ra Rb Sa Sb fa fb (by omega)
    have lx : (diffF a b).length ≤ 80 := by have := diffP_len (a.length + b.length) a b; unfold diffF; omega
    have hval : ∀ y ∈ diffF a b, y.2.1.length ≤ 1000000000 := fun y hy => by
      by_cases hg : y.2.2 = true
      · rw [diffP_gone _ a b y hy hg]; simp
      · exact fb _ ((diffF_ok sa sb).new y hy (by simpa using hg)).1
    obtain ⟨vz, gz, nz, wz, rz, elz, Sz, Rz⟩ := apply_any Sa Ra (by omega) Cx Sx (by omega) hval
    rw [apply_diff sa sb] at Rz
    obtain ⟨v3, h3, n17, rfl, _⟩ := same_f17d Sz Sb Rz Rb (by omega) (by omega) []
    rw [decide_eq_true rfl] at n17
    simp only [go_sem, Nat.reduceLT, Nat.reduceEqDiff, reduceCtorEq, Int.reduceLT, Int.reduceEq, hs, h0]
    refine XO_callP (h1 := []) (by simp only [List.map, go_sem, Nat.reduceLT, Nat.reduceEqDiff, reduceCtorEq, Int.reduceLT, Int.reduceEq, hs]; exact hc.clos rfl) na ra ?_
    simp only [go_sem, Nat.reduceLT, Nat.reduceEqDiff, reduceCtorEq, Int.reduceLT, Int.reduceEq, hs, h1]
    refine XO_callP (h1 := []) (by simp only [List.map, go_sem, Nat.reduceLT, Nat.reduceEqDiff, reduceCtorEq, Int.reduceLT, Int.reduceEq, hs]; exact hd.clos rfl) nb rb ?_
    simp only [go_sem, Nat.reduceLT, Nat.reduceEqDiff, reduceCtorEq, Int.reduceLT, Int.reduceEq, hs]
    refine XO_callP (h1 := []) (by simp only [List.map, go_sem, Nat.reduceLT, Nat.reduceEqDiff, reduceCtorEq, Int.reduceLT, Int.reduceEq, hs]; exact Sa.clos (Sb.clos rfl)) nx rx ?_
    simp only [go_sem, Nat.reduceLT, Nat.reduceEqDiff, reduceCtorEq, Int.reduceLT, Int.reduceEq, hs]
    refine f6_loop Sa Ra Sb Rb Sx Cx (by omega) (by omega) (by omega) hval (fun x1 c x2 e => apply_short sa sb e) (diffF a b).length 0 _ _ _ (by omega) (by simp only [slot_len, hs]) (by simp only [go_sem, Nat.reduceLT, Nat.reduceEqDiff, reduceCtorEq, Int.reduceLT, Int.reduceEq, hs]) (by simp only [go_sem, Nat.reduceLT, Nat.reduceEqDiff, reduceCtorEq, Int.reduceLT, Int.reduceEq, hs]) (by simp only [go_sem, Nat.reduceLT, Nat.reduceEqDiff, reduceCtorEq, Int.reduceLT, Int.reduceEq, hs]) (by simp only [go_sem, Nat.reduceLT, Nat.reduceEqDiff, reduceCtorEq, Int.reduceLT, Int.reduceEq, hs]; rfl) (fun s1 g1 hs1 b5 b6 b7 => ?_)
    simp only [go_sem, Nat.reduceLT, Nat.reduceEqDiff, reduceCtorEq, Int.reduceLT, Int.reduceEq, hs1]
    refine XO_callP (h1 := g1) (by simp only [List.map, go_sem, Nat.reduceLT, Nat.reduceEqDiff, reduceCtorEq, Int.reduceLT, Int.reduceEq, hs1]; rfl) n11 rfl ?_
    simp only [go_sem, Nat.reduceLT, Nat.reduceEqDiff, reduceCtorEq, Int.reduceLT, Int.reduceEq, hs1, b5, b6, b7]
    refine XO_callP (h1 := g1) (by simp only [List.map, go_sem, Nat.reduceLT, Nat.reduceEqDiff, reduceCtorEq, Int.reduceLT, Int.reduceEq, hs1]; exact Sa.clos (Sx.clos rfl)) nz rz ?_
    simp only [go_sem, Nat.reduceLT, Nat.reduceEqDiff, reduceCtorEq, Int.reduceLT, Int.reduceEq, hs1, b6]
    refine XO_callP (h1 := g1) (by simp only [List.map, go_sem, Nat.reduceLT, Nat.reduceEqDiff, reduceCtorEq, Int.reduceLT, Int.reduceEq, hs1]; exact Sz.clos (Sb.clos rfl)) n17 rfl ?_
    simp only [go_sem, Nat.reduceLT, Nat.reduceEqDiff, reduceCtorEq, Int.reduceLT, Int.reduceEq, hs1]
  obtain ⟨v, h', n1, rfl⟩ := this
  exact ⟨h', n1⟩

theorem back_in {H : Type} {d0 d1 : DataW H} {u0 u1 : VV} (h0 : DV Proofs.Try.prog 23 d0 u0) (h1 : DV Proofs.Try.prog 23 d1 u1) :
    ∃ h', call F 6 [u0, u1] [] = some (.ret (vb true), h') := by
  obtain ⟨c, hc, _⟩ := DV_bytes (e := 5) (by kernel_rfl) (by kernel_rfl) (by kernel_rfl) h0
  obtain ⟨d, hd, _⟩ := DV_bytes (e := 5) (by kernel_rfl) (by kernel_rfl) (by kernel_rfl) h1
  exact law_back hc hd
end Go.V07
