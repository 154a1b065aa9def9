/- Part of a proof: of what it says, and when, each theorem tells itself. -/
import Derived.Shelf.RegionOpenPlain
import Derived.WalkKit
import Derived.Lib.Walk
import Derived.Lib.SliceRun
import Derived.Lib.JoinLaws
import Derived.Lib.AppendZeros
import Derived.Lib.AppendZerosOnto
import Derived.Lib.Overlaps
import Derived.Laws.Externs
import Derived.Laws.IdiomCopy
import Derived.Laws.NewBlocks
import Derived.Test.YtbhoknaipfnlnaaProg
import Derived.Test.YtbhoknaipfnlnaaC08Ir
import Derived.Test.YtbhoknaipfnlnaaVmAll2
import Derived.Test.YtbhoknaipfnlnaaC08All5
import Derived.Test.YtbhoknaipfnlnaaC08All4
set_option linter.unusedSimpArgs false
set_option linter.unusedVariables false
/-
 What a walk of slices.Insert over elements of more than one cell asks for: copy, overlaps. (Own lemmas; no program.)
-/
namespace Go.VmIns
open Go Go.Lib
variable {P : Program}
theorem abm (w : World) (dT sT ty elem : TypeId) (z : Nat) (b o dLen dCap : Nat) (a : Addr) (sLen sCap : Nat) (cs : List Value)
  (hu : P.underlying dT = some (.slice elem)) (hs : (P.info? elem).map (·.size) = some z) (hn : cs.length = Nat.min sLen dLen * z)
  (hsrc : ∀ j v, cs[j]? = some v -> w.cell? (a.add j) = some v) (hc : ∀ j, j < cs.length -> (w.cell? ⟨b, o + j, none⟩).isSome = true) (hf : ∀ j, j < cs.length -> w.frozen? ⟨b, o + j, none⟩ = false) (h1 : ∀ v ∈ cs, v.oneCell' = true) :
  (Builtin.copy_ #[dT, sT] ty #[.slice (some ⟨b, o, none⟩) dLen dCap, .slice (some a) sLen sCap]).run P w = .ok (goInt (Nat.min sLen dLen)) (w.setCells b o cs) := by
 have hl := run_loadCells_list (P := P) w a cs hsrc
 have hst := run_storeCells_cells (P := P) b o cs 0 w (by omega) (by omega) h1
 cases hq : P.info? elem with
 | none => grind
 | some i =>
  have hi : i.size = z := by grind
  simp [Builtin.copy_, run_underlying hu, Builtin.lenOf, Builtin.firstCells, sizeOf, typeInfo, hq, hi, <- hn, hl, hst]
theorem Km (w : World) (tS tR e : TypeId) (ht : P.underlying tS = some (.slice e)) (size : Nat) (hz : ∀ w, (Go.sizeOf e).run P w = .ok size w)
  (a b : Addr) (la ca lb cb : Nat) (hne : a.block ≠ b.block) (CA CB : Array Value) (tA tB : TypeId) (fa : Nat × Nat) (fb : Nat × Nat)
  (ha : w.heap[a.block]? = some (.cells CA tA fa)) (hb : w.heap[b.block]? = some (.cells CB tB fb)) (hA : CA.size ≠ 0) (hB : CB.size ≠ 0) (hfb : fb.1 = fb.2) :
  (Extern.SlicesOverlaps.overlaps #[tS, tS] #[tR] #[.slice (some a) la ca, .slice (some b) lb cb]).run P w = .ok (.bool false) w := by
 have hnb : (a.block != b.block) = true := by grind
 have hnb' : (a.block == b.block) = false := by grind
 have hfz : ∀ o s, w.frozen? ⟨b.block, o, s⟩ = false := by
  intro o s
  obtain ⟨lo, hi⟩ := fb
  have h : lo = hi := hfb
  subst h
  simp only [World.frozen?, hb]
  grind
 have hfb1 : w.frozen? b = false := hfz b.off b.spot
 have hfb2 := hfz CB.size none
 have hsa : w.shape? a.block = some (tA, CA.size) := by simp [World.shape?, ha]
 have hsb : w.shape? b.block = some (tB, CB.size) := by simp [World.shape?, hb]
 change Sem.run P (α := Value) (do
  let some t := (#[tS, tS] : Array TypeId)[0]? | stuck "slices.overlaps: no parameter types"
  let .slice elem <- underlying t | stuck "slices.overlaps: slice type expected"
  let size <- sizeOf elem
  match (some a : Option Addr), (some b : Option Addr) with
  | some a, some b =>
   if la = 0 \/ lb = 0 \/ size = 0 then pure (Value.bool false)
   else if a.block != b.block && (<- frozen a) && (<- frozen b) then unsupported .addressObserved
   else do
    if a.block != b.block then do
     noView a; noView b
     if <- mayBeOne a b then return Value.bool ((<- choose (.extern "sameAddr.stringBytes" 2)) == 1)
    pure (Value.bool (a.block == b.block && a.off < b.off + lb * size && b.off < a.off + la * size))
  | _, _ => pure (Value.bool false)) w = _
 by_cases h0 : la = 0 \/ lb = 0 \/ size = 0
 ·simp [run_underlying ht, hz, h0]
 ·generalize hkA : CA.size = kA at *
  generalize hkB : CB.size = kB at *
  cases kA with
  | zero => omega
  | succ kA =>
   cases kB with
   | zero => omega
   | succ kB =>
    cases hf1 : w.frozen? a <;> cases hf2 : w.frozen? { block := a.block, off := kA + 1 } <;>
     simp [run_underlying ht, hz, h0, hnb, hnb', frozen, noView, viewAt, mayBeOne, stringish, shape, Sem.run, hsa, hsb, hfb1, hfb2, hf1, hf2]
theorem aeh (w : World) {o : Oper} {a : Act} {K : Act -> World -> Prop} {Q : Exit -> Act -> World -> Prop} (d s : Operand) (t t' : TypeId)
  (ho : o.op = .call { callee := .builtin .copy, args := #[d, s], argTypes := #[t, t'] }) (v u : Value) (hd : a.eval d = v) (hs : a.eval s = u) {v' : Value} {w' : World}
  (hr : (Builtin.copy_ #[t, t'] o.type #[v, u]).run P w = .ok v' w') (h : K (a.put o.dst v') w') : o.wp P a w K Q := by
 unfold Oper.wp execOp
 simp only [ho, resolve, invoke, builtin, Sem.run_bind, Sem.run_pure, Result.andThen_ok, List.map_toArray, List.map_cons, List.map_nil, hd, hs, hr]
 exact h
theorem ue (w : World) {ops : Array Oper} {rest : List Oper} {o : Oper} {a : Act} {Q : Exit -> Act -> World -> Prop} (hgd : o.guard = none) (d s : Operand) (t t' : TypeId)
  (ho : o.op = .call { callee := .builtin .copy, args := #[d, s], argTypes := #[t, t'] }) (v u : Value) (hd : a.eval d = v) (hs : a.eval s = u) {v' : Value} {w' : World}
  (hr : (Builtin.copy_ #[t, t'] o.type #[v, u]).run P w = .ok v' w') (h : wpList P ops Q rest (a.put o.dst v') w') : wpList P ops Q (o :: rest) a w :=
 wpList_plain hgd fun _ hK => aeh w d s t t' ho v u hd hs hr (hK _ _ h)
theorem Jo {ops : Array Oper} {o : Oper} {a : Act} {w : World} {K : Act -> World -> Prop} {Q : Exit -> Act -> World -> Prop} {E : Prop}
  (hg : o.guard = none) (d x : Operand) (dT sT : TypeId) (hop : o.op = Op.call { callee := Callee.builtin Builtin.copy, args := #[d, x], argTypes := #[dT, sT] })
  (v u : Value) (hd : a.eval d = v) (hx : a.eval x = u) {v' : Value} {w' : World} (hr : (Builtin.copy_ #[dT, sT] o.type #[v, u]).run P w = .ok v' w') (hK : K (a.put o.dst v') w') :
  if Region.wanted o (yielded ops a.tmps) = true then Oper.wp P o a w K Q else E := by
 have hw : Region.wanted o (yielded ops a.tmps) = true := by simp [Region.wanted, hg]
 rw [if_pos hw]
 unfold Oper.wp
 simp [execOp, hop, resolve, invoke, builtin, hd, hx, hr, Result.andThen]
 exact hK
theorem Dq (b : Nat) (vs : List Value) (o : Nat) (w : World) (h : ∀ j, j < vs.length -> (w.cell? ⟨b, o + j, none⟩).isSome = true) (k : Nat) (hk : (w.cell? ⟨b, k, none⟩).isSome = true) : ((w.setCells b o vs).cell? ⟨b, k, none⟩).isSome = true := by
 by_cases hin : o <= k /\ k < o + vs.length
 ·have := World.cell?_setCells_in b vs o w h (k - o) (by omega)
  grind
 ·rw [World.cell?_setCells_out b vs o w ⟨b, k, none⟩ (fun _ _ => by grind)]
  exact hk
end Go.VmIns
namespace Go.V08
open Go Go.Lib Go.VmIns
theorem ag6 : Proofs.Try.prog.underlying 37 = some (.slice 40) := by kernel_rfl
theorem ak6 : (Proofs.Try.prog.info? 40).map (·.size) = some 2 := by kernel_rfl
set_option maxHeartbeats 4000000 in
set_option maxRecDepth 100000 in
theorem Vn (b off n c i vb voff vc : Nat) (cs vs : List Value) (w : World) (hi : i < n) (hroom : n + 1 <= c) (hbig : (n + 1) * 40 <= 140737488355328) (hvb : vb ≠ b)
  (hcl : cs.length = n * 2) (hvl : vs.length = 2)
  (hcs : ∀ j v, cs[j]? = some v -> w.cell? ⟨b, off + j, none⟩ = some v) (hsp : ∀ j, j < (n + 1) * 2 -> (w.cell? ⟨b, off + j, none⟩).isSome = true) (hfz : ∀ j, w.frozen? ⟨b, off + j, none⟩ = false)
  (hvs : ∀ j v, vs[j]? = some v -> w.cell? ⟨vb, voff + j, none⟩ = some v) (h1c : ∀ v ∈ cs, v.oneCell' = true) (h1v : ∀ v ∈ vs, v.oneCell' = true)
  (CA CB : Array Value) (tA tB : TypeId) (fa fb : Nat × Nat) (ha : w.heap[vb]? = some (.cells CA tA fa)) (hb : w.heap[b]? = some (.cells CB tB fb)) (hA : CA.size ≠ 0) (hB : CB.size ≠ 0) (hfb : fb.1 = fb.2) :
  Calls Proofs.Try.prog 70 #[.slice (some ⟨b, off, none⟩) n c, .int .i64 i, .slice (some ⟨vb, voff, none⟩) 1 vc] w fun e w' =>
   e = .returned (.slice (some ⟨b, off, none⟩) (n + 1) c) /\ w' = (w.drew.setCells b (off + (i + 1) * 2) (cs.drop (i * 2))).setCells b (off + i * 2) vs := by
 have hz2 : ¬ ((i : Int) = (n : Int)) := by omega
 have hsz40 : ∀ w, (Go.sizeOf 40).run Proofs.Try.prog w = .ok 2 w := fun w => by
  simp_all
 have hov : ∀ lb cb, (callFunc 85 #[.slice (some ⟨vb, voff, none⟩) 1 vc, .slice (some ⟨b, off + (i + 1) * 2, none⟩) lb cb]).run Proofs.Try.prog w = .ok (.value (.bool false)) w := fun lb cb => by
  rw [run_callFunc_extern Proofs.Try.func85 (by kernel_rfl) (by kernel_rfl) (by kernel_rfl) (e := Extern.SlicesOverlaps.overlaps #[37, 37] #[4]) (by kernel_rfl),
   Km w 37 4 40 ag6 2 hsz40 ⟨vb, voff, none⟩ ⟨b, off + (i + 1) * 2, none⟩ 1 vc lb cb hvb CA CB tA tB fa fb ha hb hA hB hfb]
  rfl
 have hdl : (cs.drop (i * 2)).length = (n - i) * 2 := by grind
 have mixed : Proofs.Try.prog.follows .mixedOrders = true := by kernel_rfl
 have hw1 : IntKind.i64.wrap ((i : Int) + 1) = (i : Int) + 1 := by rw [IntKind.wrap_i64]; omega
 have hw2 : IntKind.i64.wrap ((n : Int) + 1) = (n : Int) + 1 := by rw [IntKind.wrap_i64]; omega
 have hb1 : (0 : Int) <= (i : Int) + 1 := by omega
 have hin : i <= n := by omega
 have htn : ((i : Int) + 1).toNat = i + 1 := by omega
 have htm : ((n : Int) + 1).toNat = n + 1 := by omega
 have hb2 : ¬ (c = i + 1) := by omega
 have hb3 : (i : Int) <= (n : Int) + 1 := by omega
 have hb4 : ¬ (c = i) := by omega
 have hm1 : Nat.min (n + 1 - i) (n - i) = n - i := by grind
 have hm2 : Nat.min 1 (n + 1 - i) = 1 := by grind
 have hcp1 : ∀ ty dc sc, (Builtin.copy_ #[37, 37] ty #[.slice (some ⟨b, off + (i + 1) * 2, none⟩) (n - i) dc, .slice (some ⟨b, off + i * 2, none⟩) (n + 1 - i) sc]).run Proofs.Try.prog w.drew = .ok (goInt ((n - i : Nat) : Int)) (w.drew.setCells b (off + (i + 1) * 2) (cs.drop (i * 2))) := fun ty dc sc => by
  have h := abm w.drew 37 37 ty 40 2 b (off + (i + 1) * 2) (n - i) dc ⟨b, off + i * 2, none⟩ (n + 1 - i) sc (cs.drop (i * 2)) ag6 ak6 (by rw [hdl, hm1])
   (fun j v hj => by rw [Addr.add_lit, Nat.add_assoc]; simp_all)
   (fun j hj => by rw [Nat.add_assoc]; exact hsp _ (by omega)) (fun j hj => by rw [Nat.add_assoc]; exact hfz _) (fun v hv => h1c v (List.mem_of_mem_drop hv))
  grind
 obtain ⟨W1, hW1⟩ : ∃ W1, W1 = w.drew.setCells b (off + (i + 1) * 2) (cs.drop (i * 2)) := ⟨_, rfl⟩
 have hsp1 : ∀ k, k < (n + 1) * 2 -> (W1.cell? ⟨b, off + k, none⟩).isSome = true := fun k hk => by
  rw [hW1]
  exact Dq b _ _ _ (fun j hj => by rw [Nat.add_assoc]; exact hsp _ (by omega)) _ (hsp k hk)
 have hcp2 : ∀ (W : World), (∀ x, W.cell? x = W1.cell? x) -> (∀ x, W.frozen? x = W1.frozen? x) -> ∀ ty dc, (Builtin.copy_ #[37, 37] ty #[.slice (some ⟨b, off + i * 2, none⟩) (n + 1 - i) dc, .slice (some ⟨vb, voff, none⟩) 1 vc]).run Proofs.Try.prog W = .ok (goInt 1) (W.setCells b (off + i * 2) vs) := fun W hWc hWf ty dc => by
  have h := abm W 37 37 ty 40 2 b (off + i * 2) (n + 1 - i) dc ⟨vb, voff, none⟩ 1 vc vs ag6 ak6 (by rw [hvl, hm2])
   (fun j v hj => by
    rw [Addr.add_lit, hWc, hW1, World.cell?_setCells_out b _ _ _ _ (fun h _ => absurd h hvb)]
    simp_all)
   (fun j hj => by rw [hWc, Nat.add_assoc]; exact hsp1 _ (by omega)) (fun j hj => by rw [hWf, hW1, World.frozen?_setCells, Nat.add_assoc]; exact hfz _) h1v
  grind
 rw [<- hW1] at hcp1
 go_enter Proofs.Try.func70, Proofs.Try.ntmps70
 go_wp2_with (simp only [hov])
 go_region_law_o (refine Jo rfl _ _ 37 37 rfl _ _ (by simp [Act.eval, Act.put]) (by simp [Act.eval, Act.put]) (hcp1 _ _ _) ?_)
 go_wp2_with (at_builtin; refine ue _ rfl _ _ 37 37 rfl _ _ rfl rfl (hcp2 _ (fun _ => rfl) (fun _ => rfl) _ _) ?_)
 go_ret
 simp_all
theorem anu : (Proofs.Try.prog.info? 40).map (fun i => (i.size, i.bytes, i.zero.map (fun z => z.cells))) = some (2, 40, some #[.string ⟨#[]⟩, .slice none 0 0]) := by kernel_rfl
theorem ty3 : Proofs.Try.prog.underlying 3 = some (.int .i64) := by kernel_rfl
theorem qt (z : Array Value) (n : Nat) : (Builtin.zeroCells z n).size = n * z.size := by simp [Builtin.zeroCells]
set_option maxHeartbeats 4000000 in
set_option maxRecDepth 100000 in
theorem aam (b off n c i vb voff vc : Nat) (cs vs : List Value) (w : World) (hi : i < n) (hnc : n ≤ c) (hroom : c < n + 1) (hbig : (n + 1) * 40 ≤ 140737488355328)
    (hcl : cs.length = n * 2) (hvl : vs.length = 2)
    (hcs : ∀ j v, cs[j]? = some v → w.cell? ⟨b, off + j, none⟩ = some v)
    (hvs : ∀ j v, vs[j]? = some v → w.cell? ⟨vb, voff + j, none⟩ = some v) (h1c : ∀ v ∈ cs, v.oneCell' = true) (h1v : ∀ v ∈ vs, v.oneCell' = true) :
    ∃ (Z : Array Value) (G : Nat), n + 1 ≤ G ∧ Z.size = (G - (n + 1) + (n + 1 - i)) * 2 ∧
    Calls Proofs.Try.prog 70 #[.slice (some ⟨b, off, none⟩) n c, .int .i64 i, .slice (some ⟨vb, voff, none⟩) 1 vc] w fun e w' =>
      e = .returned (.slice (some ⟨w.heap.size, 0, none⟩) (n + 1) G) ∧
      w' = (((w.alloc (.cells ((cs.take (i * 2)).toArray ++ Z) 40)).drew.setCells w.heap.size (i * 2) vs).drew).setCells w.heap.size ((i + 1) * 2) (cs.drop (i * 2)) := by
  have mixed : Proofs.Try.prog.follows .mixedOrders = true := by kernel_rfl
  obtain ⟨i0, z0, hi0, hz0, hzs, hzb, hzc⟩ : ∃ i0 z0, Proofs.Try.prog.info? 40 = some i0 ∧ i0.zero = some z0 ∧ i0.size = 2 ∧ i0.bytes = 40 ∧ z0.cells.size = 2 := by
    have h := anu
    cases hq : Proofs.Try.prog.info? 40 with
    | none => simp [hq] at h
    | some i0 =>
      rw [hq] at h
      simp only [Option.map_some, Option.some.injEq, Prod.mk.injEq] at h
      obtain ⟨h1, h2, h3⟩ := h
      cases hz : i0.zero with
      | none => simp [hz] at h3
      | some z0 =>
        rw [hz] at h3
        simp only [Option.map_some, Option.some.injEq] at h3
        exact ⟨i0, z0, rfl, hz, h1, h2, by rw [h3]; rfl⟩
  have hz2 : ¬ ((i : Int) = (n : Int)) := by omega
  have hz3 : (c : Int) < (n : Int) + 1 := by omega
  have hbw : b < w.heap.size := block_lt_of_cell (hcs 0 _ (List.getElem?_eq_getElem (by omega)))
  have hvw : vb < w.heap.size := block_lt_of_cell (hvs 0 _ (List.getElem?_eq_getElem (by omega)))
  have hkk : (n : Int) + 1 - (i : Int) = ((n + 1 - i : Nat) : Int) := by omega
  have hik : i + (n + 1 - i) = n + 1 := by omega
  have hold : (Builtin.firstCells i0.size i (.slice (some ⟨b, off, none⟩) i c)).run Proofs.Try.prog w.drew = .ok (cs.take (i * 2)).toArray w.drew := by
    rw [hzs]
    exact run_firstCells_some w.drew 2 i ⟨b, off, none⟩ i c (cs.take (i * 2)) (by rw [List.length_take]; omega) (fun j v hj => by
      rw [Addr.add_lit]
      rw [List.getElem?_take] at hj
      split at hj
      · exact hcs j v hj
      · cases hj)
  have hrz : ∀ ty, (Builtin.append_ #[37, 3] ty #[.slice (some ⟨b, off, none⟩) i c, .int .i64 ((n : Int) + 1 - (i : Int))]).run Proofs.Try.prog w =
      .ok (.slice (some ⟨w.heap.size, 0, none⟩) (n + 1) (grownCap w (n + 1) c 40)) (w.drew.alloc (.cells ((cs.take (i * 2)).toArray ++ Builtin.zeroCells z0.cells (n + 1 - i) ++ Builtin.zeroCells z0.cells (grownCap w (n + 1) c 40 - (n + 1))) 40)) := fun ty => by
    have h := Lib.run_append_grow_zeros w 37 3 ty 40 i0 z0 .i64 .i64 ag6 ty3 hi0 hz0 (some ⟨b, off, none⟩) i c (cs.take (i * 2)) hold (n + 1 - i) (by omega) (by omega) (by omega) (by omega) (by rw [hzb]; omega) (by rw [hzb, hik]; exact growslice_fits hroom hbig)
    rw [hik] at h
    rw [hkk]
    exact h
  obtain ⟨G, hG⟩ : ∃ G, G = grownCap w (n + 1) c 40 := ⟨_, rfl⟩
  have hGn : n + 1 ≤ G := by rw [hG]; exact grownCap_ge w _ _ _
  have hG63 : G ≤ 9223372036854775807 := by
    have := grownCap_le_maxLen w (n + 1) c 40 (by unfold maxLen; omega)
    rw [← hG] at this
    unfold maxLen at this
    omega
  obtain ⟨Z, hZ⟩ : ∃ Z : Array Value, Z = Builtin.zeroCells z0.cells (n + 1 - i) ++ Builtin.zeroCells z0.cells (G - (n + 1)) := ⟨_, rfl⟩
  have hZs : Z.size = (G - (n + 1) + (n + 1 - i)) * 2 := by
    rw [hZ, Array.size_append, qt, qt, hzc]; omega
  refine ⟨Z, G, hGn, hZs, ?_⟩
  obtain ⟨ROW, hROW⟩ : ∃ ROW : Array Value, ROW = (cs.take (i * 2)).toArray ++ Z := ⟨_, rfl⟩
  rw [← hG] at hrz
  rw [Array.append_assoc, ← hZ, ← hROW] at hrz
  rw [← hROW]
  have hRl : (n + 1) * 2 ≤ ROW.size := by
    rw [hROW, Array.size_append, hZs, List.size_toArray, List.length_take]
    omega
  obtain ⟨W1, hW1⟩ : ∃ W1, W1 = w.drew.alloc (.cells ROW 40) := ⟨_, rfl⟩
  rw [← hW1] at hrz
  have hN : ∀ j, j < (n + 1) * 2 → (W1.cell? ⟨w.heap.size, j, none⟩).isSome = true := fun j hj => by
    rw [hW1, World.cell?_alloc_at (w := w.drew) ROW _ w.heap.size j rfl, Array.getElem?_eq_getElem (by omega)]; rfl
  have hNf : ∀ j, W1.frozen? ⟨w.heap.size, j, none⟩ = false := fun j => by rw [hW1]; exact World.frozen?_alloc_at (w := w.drew) ROW _ w.heap.size j rfl
  have hOb : ∀ j v, w.cell? ⟨b, j, none⟩ = some v → W1.cell? ⟨b, j, none⟩ = some v := fun j v h => by rw [hW1, World.cell?_alloc_past (w := w.drew) _ b j hbw]; exact h
  have hOv : ∀ j v, w.cell? ⟨vb, j, none⟩ = some v → W1.cell? ⟨vb, j, none⟩ = some v := fun j v h => by rw [hW1, World.cell?_alloc_past (w := w.drew) _ vb j hvw]; exact h
  have hm2 : Nat.min 1 (n + 1 - i) = 1 := by simp only [Nat.min_def]; split <;> omega
  have hm1 : Nat.min (n - i) (n - i) = n - i := Nat.min_self _
  have hcpA : ∀ (W : World), (∀ x, W.cell? x = W1.cell? x) → (∀ x, W.frozen? x = W1.frozen? x) → ∀ ty dc, (Builtin.copy_ #[37, 37] ty #[.slice (some ⟨w.heap.size, i * 2, none⟩) (n + 1 - i) dc, .slice (some ⟨vb, voff, none⟩) 1 vc]).run Proofs.Try.prog W = .ok (goInt 1) (W.setCells w.heap.size (i * 2) vs) := fun W hWc hWf ty dc => by
    have h := abm W 37 37 ty 40 2 w.heap.size (i * 2) (n + 1 - i) dc ⟨vb, voff, none⟩ 1 vc vs ag6 ak6 (by rw [hvl, hm2])
      (fun j v hj => by rw [Addr.add_lit, hWc]; exact hOv _ v (hvs j v hj))
      (fun j hj => by rw [hWc]; exact hN _ (by omega)) (fun j hj => by rw [hWf]; exact hNf _) h1v
    rw [hm2] at h
    exact h
  have hGi : ¬ (G = i) := by omega
  have hGim : ¬ (G = i + 1) := by omega
  have hci : ¬ (c = i) := by omega
  have hbN : b ≠ w.heap.size := by omega
  have hdl : (cs.drop (i * 2)).length = (n - i) * 2 := by rw [List.length_drop, hcl]; omega
  have hcpB : ∀ (W : World), (∀ x, W.cell? x = (W1.setCells w.heap.size (i * 2) vs).cell? x) → (∀ x, W.frozen? x = (W1.setCells w.heap.size (i * 2) vs).frozen? x) → ∀ ty dc sc, (Builtin.copy_ #[37, 37] ty #[.slice (some ⟨w.heap.size, (i + 1) * 2, none⟩) (n - i) dc, .slice (some ⟨b, off + i * 2, none⟩) (n - i) sc]).run Proofs.Try.prog W = .ok (goInt ((n - i : Nat) : Int)) (W.setCells w.heap.size ((i + 1) * 2) (cs.drop (i * 2))) := fun W hWc hWf ty dc sc => by
    have h := abm W 37 37 ty 40 2 w.heap.size ((i + 1) * 2) (n - i) dc ⟨b, off + i * 2, none⟩ (n - i) sc (cs.drop (i * 2)) ag6 ak6 (by rw [hdl, hm1])
      (fun j v hj => by
        rw [Addr.add_lit, hWc, World.cell?_setCells_out _ _ _ _ _ (fun h _ => absurd h hbN), Nat.add_assoc]
        exact hOb _ v (hcs (i * 2 + j) v (by rwa [List.getElem?_drop] at hj)))
      (fun j hj => by rw [hWc]; exact Dq _ _ _ _ (fun t ht => hN _ (by omega)) _ (hN _ (by omega)))
      (fun j hj => by rw [hWf, World.frozen?_setCells]; exact hNf _) (fun v hv => h1c v (List.mem_of_mem_drop hv))
    rw [hm1] at h
    exact h
  subst hW1
  have hE1 : ∀ x, ((w.alloc (.cells ROW 40)).drew).cell? x = (w.drew.alloc (.cells ROW 40)).cell? x := fun x => rfl
  have hE2 : ∀ x, ((w.alloc (.cells ROW 40)).drew).frozen? x = (w.drew.alloc (.cells ROW 40)).frozen? x := fun x => rfl
  have hF1 : ∀ x, (((w.alloc (.cells ROW 40)).drew.setCells w.heap.size (i * 2) vs).drew).cell? x = ((w.drew.alloc (.cells ROW 40)).setCells w.heap.size (i * 2) vs).cell? x := fun x => rfl
  have hF2 : ∀ x, (((w.alloc (.cells ROW 40)).drew.setCells w.heap.size (i * 2) vs).drew).frozen? x = ((w.drew.alloc (.cells ROW 40)).setCells w.heap.size (i * 2) vs).frozen? x := fun x => rfl
  have hw1 : IntKind.i64.wrap ((i : Int) + 1) = (i : Int) + 1 := by rw [IntKind.wrap_i64]; omega
  have hw2 : IntKind.i64.wrap ((n : Int) + 1) = (n : Int) + 1 := by rw [IntKind.wrap_i64]; omega
  have hw3 : IntKind.i64.wrap ((n : Int) + 1 - i) = (n : Int) + 1 - i := by rw [IntKind.wrap_i64]; omega
  have hb1 : (0 : Int) ≤ (i : Int) + 1 := by omega
  have hin : i ≤ n := by omega
  have htn : ((i : Int) + 1).toNat = i + 1 := by omega
  have htm : ((n : Int) + 1).toNat = n + 1 := by omega
  have hb3 : (i : Int) ≤ (n : Int) := by omega
  clear hkk hik hold hROW hG hRl
  go_enter Proofs.Try.func70, Proofs.Try.ntmps70
  go_wp2_with (first
    | (at_builtin; refine Lib.wpList_append_run _ rfl _ _ _ _ rfl _ _ rfl rfl _ _ (hrz _) ?_)
    | (at_builtin; refine ue _ rfl _ _ 37 37 rfl _ _ rfl rfl (hcpA _ hE1 hE2 _ _) ?_)
    | (at_builtin; refine ue _ rfl _ _ 37 37 rfl _ _ rfl rfl (hcpB _ (fun _ => rfl) (fun _ => rfl) _ _ _) ?_))
  go_region_law_o (refine Jo rfl _ _ 37 37 rfl (.slice (some ⟨w.heap.size, (i + 1) * 2, none⟩) (n - i) (G - (i + 1))) (.slice (some ⟨b, off + i * 2, none⟩) (n - i) (c - i)) (by simp [Act.eval, Act.put]) (by simp [Act.eval, Act.put]) (hcpB _ hF1 hF2 3 (G - (i + 1)) (c - i)) ?_)
  go_wp2
  go_ret
  exact ⟨rfl, rfl⟩
open Go Go.Vm
theorem af8 {z bytes : Nat} {h h' : ae} {ρ : Opd -> VV} {s i e : Opd} {v : VV} (hs : ai h ρ (.ins z bytes s i e) = some (v, h')) :
  ∃ el ex j, ρ e = .cv (.sl z [el] ex) /\ ρ i = .cv (.sc (.int .i64 j)) /\
   ((ρ s = .cv (.sc (.slice none 0 0)) /\ j = 0 /\ v = .own h.length 0 0 1 false /\ h' = h ++ [.arr z [el] 0 false]) \/
    (ρ s = .cv (.sl z [] true) /\ j = 0 /\ v = .own h.length 0 0 1 false /\ h' = h ++ [.arr z [el] 0 false]) \/
    ∃ id g len els, ρ s = .own id g 0 len false /\ h[id]? = some (.arr z els g false) /\ len <= els.length /\ 0 <= j /\ j <= len /\ (len + 1) * bytes <= cz /\ len + 1 <= cz /\
     v = .own id (g + 1) 0 (len + 1) false /\ h' = h.set id (.arr z ((els.take len).take j.toNat ++ el :: (els.take len).drop j.toNat) (g + 1) false)) := by
 simp only [ai] at hs
 split at hs
 rotate_left
 ·cases hs
 rename_i z1 el ex j he hi
 split at hs
 rotate_left
 ·cases hs
 rename_i hz
 subst hz
 refine ⟨el, ex, j, he, hi, ?_⟩
 split at hs
 ·rename_i e1
  split at hs
  ·grind
  ·cases hs
 ·rename_i z2 e1
  split at hs
  ·grind
  ·cases hs
 ·rename_i id g len e1
  split at hs
  ·rename_i z' els g' ho
   split at hs
   ·grind
   ·cases hs
  ·cases hs
 ·cases hs
theorem am9 {call : bj} {n : Nat} {args : List VV} {h : ae} {r : CRes} {h' : ae} (hr : xe (exec call n) f70x args h = some (r, h')) :
  ∃ a b c v, args = [a, b, c] /\ r = .ret v /\ ai h (ad [a, b, c]) (.ins 2 40 (.t 0) (.t 1) (.t 2)) = some (v, h') := by
 unfold xe f70x at hr
 split at hr
 ·cases hr
 rename_i hb
 simp only [exec, dj, bm, dw] at hr
 have hlen : args.length <= 3 := by
  simp_all
 match args, hlen with
 | [], _ => simp [ai, ad] at hr
 | [a], _ => simp [ai, ad] at hr
 | [a, b], _ => simp [ai, ad] at hr
 | [a, b, c], _ =>
  refine ⟨a, b, c, ?_⟩
  simp only [List.length_cons, List.length_nil, Nat.zero_add, Nat.reduceAdd, Nat.sub_self, List.replicate_zero, List.append_nil] at hr
  cases hq : ai h (ad [a, b, c]) (.ins 2 40 (.t 0) (.t 1) (.t 2)) with
  | none => grind
  | some p =>
   obtain ⟨v, h1⟩ := p
   rw [hq] at hr
   simp [ke, yq, df, afr] at hr
   grind
def F1 : Nat -> Option FnIR := fun n => match n with
 | 70 => some f70
 | _ => none
theorem ans : Sw Proofs.Try.prog F1 := by
 refine ⟨by kernel_rfl, fun f fn h => ?_⟩
 unfold F1 at h
 split at h
 ·cases h; exact ⟨by decide, .inl ⟨_, _, _, Proofs.Try.func70, by kernel_rfl, f70_ok⟩⟩
 ·cases h
theorem adw {F : Nat -> Option FnIR} {z by_ : Nat} {zero : List CV} {x y : Opd} {s : List VV} {h h1 : ae} {d : Option Nat} {r : List Op1} {Q : Pst} {a c v : VV} (hx : ad s x = a) (hy : ad s y = c)
  (e : ∀ ρ : Opd -> VV, ρ x = a -> ρ y = c -> ai h ρ (.app z by_ zero x y) = some (v, h1)) (hk : XO F r ⟨df s d v, h1⟩ Q) : XO F (⟨none, d, .app z by_ zero x y⟩ :: r) ⟨s, h⟩ Q := by
 rw [ig rfl, e _ hx hy, kj]; exact hk
theorem aey {h hq : ae} {els : List (List CV)} {A v : VV} {el : List CV} {ex : Bool} (hv : VF h 2 els A) (hl : els.length <= 1000000000000)
  (e : ∀ (x y : Opd) (ρ : Opd -> VV), ρ x = A -> ρ y = .cv (.sl 2 [el] ex) -> ai h ρ (.app 2 40 [.sc (.string ⟨#[]⟩), .sc (.slice none 0 0)] x y) = some (v, hq)) :
  Ret F1 70 [A, vi .i64 (els.length : Nat), .cv (.sl 2 [el] ex)] h (Is v hq) := by
 refine bc (fn := f70) rfl ?_
 simp only [f70]
 generalize hs0 : ([A, vi .i64 (els.length : Nat), .cv (.sl 2 [el] ex)] ++ List.replicate _ VV.undef : List VV) = s
 have hs : s.length = 95 := by grind
 have h0 : s.getD 0 .undef = A := by grind
 have h1 : s.getD 1 .undef = vi .i64 (els.length : Nat) := by grind
 have h2 : s.getD 2 .undef = .cv (.sl 2 [el] ex) := by grind
 clear hs0
 obtain ⟨w, w1, w2⟩ := hv.from_ (k := .i64) (n := els.length) (Nat.le_refl _)
 have c1 : ¬ ((([el] : List (List CV)).length : Nat) : Int) = 0 := by simp
 simp only [go_sem, seval, hs, h0, h1, h2, w1]
 rw [bi f70_0.eq_1]
 simp only [go_sem, seval, hs, c1, h0, hv.ln]
 rw [bi f70_1.eq_1]
 simp only [go_sem, seval, hs, h1, h0, h2]
 refine adw (a := A) (c := .cv (.sl 2 [el] ex)) (by simp only [go_sem, seval, hs]) (by simp only [go_sem, seval, hs]) (fun ρ => e _ _ ρ) ?_
 simp only [go_sem, seval, hs]
 exact Is.refl _ _
open Go Go.Vm
theorem Jm {σ : gq} {els : List (List CV)} {el : List CV} {i len : Nat} {old new : Nat -> Option Value}
  (ho : ∀ k e, els[k]? = some e -> ∀ j c, e[j]? = some c -> ∃ u, old (k * 2 + j) = some u /\ CR σ u c) (h2 : ∀ e ∈ els, e.length = 2) (hel : el.length = 2)
  (hv : ∀ j c, el[j]? = some c -> ∃ u, new (i * 2 + j) = some u /\ CR σ u c) (hi : i <= len) (hlen : len <= els.length)
  (n1 : ∀ q, q < i * 2 -> new q = old q) (n2 : ∀ q, i * 2 <= q -> q < len * 2 -> new (q + 2) = old q) :
  ∀ k e, ((els.take len).take i ++ el :: (els.take len).drop i)[k]? = some e -> ∀ j c, e[j]? = some c -> ∃ u, new (k * 2 + j) = some u /\ CR σ u c := by
 grind
theorem Rv {w : World} {b o : Nat} {v : Value} (h : w.cell? ⟨b, o, none⟩ = some v) : ∃ C E fz, w.heap[b]? = some (.cells C E fz) /\ C[o]? = some v := by
 simp only [World.cell?] at h
 grind
theorem CR.one {σ : gq} {v : Value} {c : CV} (h : CR σ v c) : v.oneCell' = true := by
 cases h with
 | sc _ hs => cases v <;> first | rfl | cases hs
 | sl => rfl
section
variable {prot : Nat -> Prop} {σ : gq} {β : Nat -> Option Vm.Loc} {w : World} {h : ae}
theorem alx {id g len : Nat} {els : List (List CV)} {el : List CV} {ex : Bool} {i : Nat} {X0 X1 X2 : Value} (hw : WR Proofs.Try.prog prot σ β h w) (hobj : h[id]? = some (.arr 2 els g false)) (hlen : len <= els.length) (hj : i < len) (hb : (len + 1) * 40 <= 35184372088832)
  (r0 : VR σ β X0 (.own id g 0 len false)) (r1 : VR σ β X1 (.cv (.sc (.int .i64 (i : Nat))))) (r2 : VR σ β X2 (.cv (.sl 2 [el] ex))) :
  Calls Proofs.Try.prog 70 #[X0, X1, X2] w (rn Proofs.Try.prog prot σ β w (.ret (.own id (g + 1) 0 (len + 1) false)) (h.set id (.arr 2 ((els.take len).take i ++ el :: (els.take len).drop i) (g + 1) false))) := by
 obtain ⟨rfl, _⟩ := r1.sc_inv
 obtain ⟨L, hL, hO⟩ := hw.obj id _ hobj
 obtain ⟨o1, o2, o3, o4, o5, o6, ⟨C, E, fz, hC, hCs, hfz⟩, o8⟩ := hO
 have hfz : fz.1 = fz.2 := hfz.resolve_right (fun h => by omega)
 have hcell : ∀ k, w.cell? ⟨L.blk, k, none⟩ = C[k]? := fun k => by simp [World.cell?, hC]
 have hfrz : ∀ k, w.frozen? ⟨L.blk, k, none⟩ = false := fun k => by
  obtain ⟨lo, hi⟩ := fz
  have h : lo = hi := hfz
  subst h
  simp only [World.frozen?, hC]
  rw [<- Bool.not_eq_true, Bool.and_eq_true, decide_eq_true_eq, decide_eq_true_eq]
  omega
 -- the row
 cases r0 with
 | own A' cap _ _ _ _ _ L' hL' hb' hg' hA' hc' hx' =>
 rw [hL] at hL'; cases hL'
 obtain ⟨a1, a2, a3, a4⟩ := hA' o2.symm
 have hcap0 : cap ≠ 0 := by omega
 have hA3 : A'.off = L.boff := by
  rcases a3 with a3 | a3
  ·exact absurd a3 hcap0
  ·rw [a3]; omega
 have hAe : A' = ⟨L.blk, L.boff, none⟩ := by obtain ⟨x, y, z⟩ := A'; simp only at a1 a2 hA3; rw [a1, a2, hA3]
 rw [hAe]
 rw [o3, Nat.zero_add] at a4
 have hcsz : L.boff + cap * 2 <= C.size := by rw [hCs]; exact a4
 -- the element
 cases r2 with
 | cv _ _ hcr =>
 generalize hsl : CV.sl 2 [el] ex = X at hcr
 cases hcr with
 | sc => cases hsl
 | sl A vc z els' ex' f hs hc hx hz hl hm hr =>
 cases hsl
 have hvc : vc ≠ 0 := by have : ([el] : List (List CV)).length = 1 := rfl; omega
 have hsp := hs.resolve_left hvc
 have hAe : A = ⟨A.block, A.off, none⟩ := by obtain ⟨x, y, z⟩ := A; simp only at hsp; rw [hsp]
 have hel : el.length = 2 := hl el (by simp)
 have hvr : ∀ j c, el[j]? = some c -> CR σ (f 0 j) c := fun j c hj => hr 0 el rfl j c hj
 have hvm : ∀ j c, el[j]? = some c -> σ ⟨A.block, A.off + j, none⟩ = some (f 0 j) := fun j c hj => by have := hm 0 el rfl j c hj; rwa [Nat.zero_mul, Nat.add_zero] at this
 have hj0 : ∃ c, el[0]? = some c := ⟨el[0], List.getElem?_eq_getElem (by omega)⟩
 have hj1 : ∃ c, el[1]? = some c := ⟨el[1], List.getElem?_eq_getElem (by omega)⟩
 obtain ⟨c0, hc0⟩ := hj0
 obtain ⟨c1, hc1⟩ := hj1
 obtain ⟨vs, hvs⟩ : ∃ vs : List Value, vs = [f 0 0, f 0 1] := ⟨_, rfl⟩
 have hvl : vs.length = 2 := by rw [hvs]; rfl
 have hvj : ∀ j v, vs[j]? = some v -> ∃ c, el[j]? = some c /\ v = f 0 j := by
  intro j v hv
  rw [hvs] at hv
  match j, hv with
  | 0, hv => exact ⟨c0, hc0, by simpa using hv.symm⟩
  | 1, hv => exact ⟨c1, hc1, by simpa using hv.symm⟩
  | j + 2, hv => simp at hv
 have hvj' : ∀ j c, el[j]? = some c -> vs[j]? = some (f 0 j) := by
  intro j c hc
  have hlt := (List.getElem?_eq_some_iff.1 hc).1
  rw [hvs]
  match j, hlt with
  | 0, _ => rfl
  | 1, _ => rfl
  | j + 2, h => omega
 have hvs1 : ∀ j v, vs[j]? = some v -> w.cell? ⟨A.block, A.off + j, none⟩ = some v := fun j v hv => by
  obtain ⟨c, hc, rfl⟩ := hvj j v hv
  exact hw.stab _ _ (hvm j c hc)
 have h1v : ∀ v ∈ vs, v.oneCell' = true := fun v hv => by
  obtain ⟨j, hj⟩ := List.getElem?_of_mem hv
  obtain ⟨c, hc, rfl⟩ := hvj j v hj
  exact CR.one (hvr j c hc)
 obtain ⟨CA, tA, fa, hCA, hCA0⟩ := Rv (hvs1 0 (f 0 0) (by rw [hvs]; rfl))
 have hA0 : CA.size ≠ 0 := by have := (Array.getElem?_eq_some_iff.1 hCA0).1; omega
 have hlive := hw.live id _ L hobj rfl hL
 have hvb : A.block ≠ L.blk := by
  intro e
  have := hlive.2 ⟨A.block, A.off + 0, none⟩ e
  rw [hvm 0 c0 hc0] at this; cases this
 have hablt : A.block < w.heap.size := (Array.getElem?_eq_some_iff.1 hCA).1
 have hblt : L.blk < w.heap.size := (Array.getElem?_eq_some_iff.1 hC).1
 -- what stands in the row
 obtain ⟨cs, hcs⟩ : ∃ cs : List Value, cs = (C.toList.drop L.boff).take (len * 2) := ⟨_, rfl⟩
 have hcl : cs.length = len * 2 := by rw [hcs, List.length_take, List.length_drop, Array.length_toList]; omega
 have hcj : ∀ j, j < len * 2 -> cs[j]? = C[L.boff + j]? := fun j hj => by rw [hcs, List.getElem?_take, if_pos hj, List.getElem?_drop, Array.getElem?_toList]
 have hcs1 : ∀ j v, cs[j]? = some v -> w.cell? ⟨L.blk, L.boff + j, none⟩ = some v := fun j v hj => by
  have hlt := (List.getElem?_eq_some_iff.1 hj).1
  rw [hcell, <- hcj j (by omega)]; exact hj
 have ho : ∀ k e, els[k]? = some e -> ∀ j c, e[j]? = some c -> ∃ u, C[L.boff + (k * 2 + j)]? = some u /\ CR σ u c := fun k e hk j c hj => by
  obtain ⟨u, u1, u2, _⟩ := o8 k e hk j c hj
  rw [hcell, Nat.add_assoc] at u1
  exact ⟨u, u1, u2⟩
 have h1c : ∀ v ∈ cs, v.oneCell' = true := fun v hv => by
  obtain ⟨q, hq⟩ := List.getElem?_of_mem hv
  have hlt := (List.getElem?_eq_some_iff.1 hq).1
  rw [hcj q (by omega)] at hq
  have hk : q / 2 < els.length := by omega
  have he := o5 els[q / 2] (List.getElem_mem hk)
  have hjj : q % 2 < els[q / 2].length := by omega
  obtain ⟨u, u1, u2⟩ := ho (q / 2) els[q / 2] (List.getElem?_eq_getElem hk) (q % 2) els[q / 2][q % 2] (List.getElem?_eq_getElem hjj)
  rw [show q / 2 * 2 + q % 2 = q by omega, hq] at u1
  cases u1
  exact CR.one u2
 have hnewl : ((els.take len).take i ++ el :: (els.take len).drop i).length = len + 1 := by
  rw [List.length_append, List.length_cons, List.length_take, List.length_drop, List.length_take]; omega
 have hall : ∀ e ∈ (els.take len).take i ++ el :: (els.take len).drop i, e.length = 2 := by
  intro e he
  rcases List.mem_append.1 he with he | he
  ·exact o5 e (List.mem_of_mem_take (List.mem_of_mem_take he))
  ·rcases List.mem_cons.1 he with rfl | he
   ·exact hel
   ·exact o5 e (List.mem_of_mem_take (List.mem_of_mem_drop he))
 rw [show (([el] : List (List CV)).length) = 1 from rfl, hAe]
 by_cases hroom : len + 1 <= cap
 ·-- in its place
  have hB0 : C.size ≠ 0 := by omega
  refine (Vn L.blk L.boff len cap i A.block A.off vc cs vs w hj hroom (by omega) hvb hcl hvl hcs1 (fun j hj => by rw [hcell, Array.getElem?_eq_getElem (by omega)]; rfl) (fun j => hfrz _) hvs1 h1c h1v CA C tA E fa fz hCA hC hA0 hB0 hfz).mono ?_
  rintro e w' ⟨rfl, rfl⟩
  have hdl : (cs.drop (i * 2)).length = (len - i) * 2 := by rw [List.length_drop, hcl]; omega
  obtain ⟨p1, p2, p3, C1, p4, p5, p6⟩ := gb L.blk (cs.drop (i * 2)) (L.boff + (i + 1) * 2) w.drew C E fz hC (by omega)
  obtain ⟨q1, q2, q3, C2, q4, q5, q6⟩ := gb L.blk vs (L.boff + i * 2) (w.drew.setCells L.blk (L.boff + (i + 1) * 2) (cs.drop (i * 2))) C1 E fz p4 (by omega)
  obtain ⟨W, hW⟩ : ∃ W, W = (w.drew.setCells L.blk (L.boff + (i + 1) * 2) (cs.drop (i * 2))).setCells L.blk (L.boff + i * 2) vs := ⟨_, rfl⟩
  rw [<- hW] at q1 q2 q3 q4 |-
  have hcalm : Vm.Calm w W := ⟨by rw [q1.os, p1.os]; rfl, by rw [q1.tape, p1.tape]; rfl, by rw [q1.output, p1.output]; rfl⟩
  have hsz : W.heap.size = w.heap.size := by rw [q2, p2]; rfl
  have hrest : ∀ k, k ≠ L.blk -> W.heap[k]? = w.heap[k]? := fun k hk => by rw [q3 k hk, p3 k hk]; rfl
  have hWc : ∀ k, W.cell? ⟨L.blk, k, none⟩ = C2[k]? := fun k => by simp [World.cell?, q4]
  have key := Jm (σ := σ) (els := els) (el := el) (i := i) (len := len) (old := fun q => C[L.boff + q]?) (new := fun q => C2[L.boff + q]?) ho o5 hel
   (fun j c hj => by
    have hlt := (List.getElem?_eq_some_iff.1 hj).1
    refine ⟨f 0 j, ?_, hvr j c hj⟩
    show C2[L.boff + (i * 2 + j)]? = _
    rw [q6, if_pos (by omega), show L.boff + (i * 2 + j) - (L.boff + i * 2) = j by omega]
    exact hvj' j c hj) (by omega) hlen
   (fun q hq => by
    show C2[L.boff + q]? = C[L.boff + q]?
    rw [q6, if_neg (by omega), p6, if_neg (by omega)])
   (fun q h1 h2 => by
    show C2[L.boff + (q + 2)]? = C[L.boff + q]?
    rw [q6, if_neg (by omega), p6, if_pos (by omega), List.getElem?_drop, <- hcj q h2]
    congr 1; omega)
  obtain ⟨β', hF, hW', hβ, _⟩ := hw.upd hcalm id (o' := .arr 2 ((els.take len).take i ++ el :: (els.take len).drop i) (g + 1) false) (L' := { L with g := g + 1 }) hobj rfl hL (by rw [hsz]; exact Nat.le_refl _) (fun b _ hb => hrest b hb) (.inr ⟨o1, o1, by simp only; omega⟩) (.inl rfl) (by
   intro β' hbet hβ hF
   refine ⟨o1, rfl, o3, o4, hall, by rw [hnewl]; simp only; omega, ⟨C2, E, fz, q4, by simp only; omega, .inl hfz⟩, fun k e hk j c hj => ?_⟩
   obtain ⟨u, u1, u2⟩ := key k e hk j c hj
   exact ⟨u, by simp only; rw [hWc, Nat.add_assoc]; exact u1, u2, fun e => by cases e⟩)
  refine ⟨σ, β', _, hF, hW', .inl ⟨_, rfl, rfl, ?_⟩⟩
  exact .own _ _ _ _ _ _ _ _ hβ o1 (Nat.le_refl _) (fun _ => ⟨rfl, rfl, .inr (by simp), by simp only [Nat.zero_add]; rw [o3]; exact a4⟩) hroom (fun e => by cases e)
 ·-- moved
  obtain ⟨Z, G, hG, hZ, hcall⟩ := aam L.blk L.boff len cap i A.block A.off vc cs vs w hj hc' (by omega) (by omega) hcl hvl hcs1 hvs1 h1c h1v
  refine hcall.mono ?_
  rintro e w' ⟨rfl, rfl⟩
  have hdl : (cs.drop (i * 2)).length = (len - i) * 2 := by rw [List.length_drop, hcl]; omega
  have htl : (cs.take (i * 2)).length = i * 2 := by rw [List.length_take, hcl]; omega
  obtain ⟨R, hR⟩ : ∃ R : Array Value, R = (cs.take (i * 2)).toArray ++ Z := ⟨_, rfl⟩
  have hRs : R.size = G * 2 := by rw [hR, Array.size_append, hZ, List.size_toArray, htl]; omega
  rw [<- hR]
  have hN0 : ((w.alloc (.cells R 40)).drew).heap[w.heap.size]? = some (.cells R 40 (0, 0)) := by
   show (w.heap.push (.cells R 40))[w.heap.size]? = _
   rw [Array.getElem?_push, if_pos rfl]
  obtain ⟨p1, p2, p3, C1, p4, p5, p6⟩ := gb w.heap.size vs (i * 2) ((w.alloc (.cells R 40)).drew) R 40 (0, 0) hN0 (by omega)
  obtain ⟨q1, q2, q3, C2, q4, q5, q6⟩ := gb w.heap.size (cs.drop (i * 2)) ((i + 1) * 2) (((w.alloc (.cells R 40)).drew.setCells w.heap.size (i * 2) vs).drew) C1 40 (0, 0) p4 (by omega)
  obtain ⟨W, hW⟩ : ∃ W, W = (((w.alloc (.cells R 40)).drew.setCells w.heap.size (i * 2) vs).drew).setCells w.heap.size ((i + 1) * 2) (cs.drop (i * 2)) := ⟨_, rfl⟩
  rw [<- hW] at q1 q2 q3 q4 |-
  have hcalm : Vm.Calm w W := ⟨by rw [q1.os]; show (((w.alloc (.cells R 40)).drew).setCells _ _ _).os = _; rw [p1.os]; rfl, by rw [q1.tape]; show (((w.alloc (.cells R 40)).drew).setCells _ _ _).tape = _; rw [p1.tape]; rfl, by rw [q1.output]; show (((w.alloc (.cells R 40)).drew).setCells _ _ _).output = _; rw [p1.output]; rfl⟩
  have hsz : W.heap.size = w.heap.size + 1 := by
   rw [q2]; show (((w.alloc (.cells R 40)).drew).setCells _ _ _).heap.size = _; rw [p2]; show (w.heap.push (.cells R 40)).size = _; rw [Array.size_push]
  have hrest : ∀ k, k < w.heap.size -> W.heap[k]? = w.heap[k]? := fun k hk => by
   rw [q3 k (by omega)]; show (((w.alloc (.cells R 40)).drew).setCells _ _ _).heap[k]? = _; rw [p3 k (by omega)]; show (w.heap.push (.cells R 40))[k]? = _; rw [Array.getElem?_push, if_neg (Nat.ne_of_lt hk)]
  have hWc : ∀ k, W.cell? ⟨w.heap.size, k, none⟩ = C2[k]? := fun k => by simp [World.cell?, q4]
  have key := Jm (σ := σ) (els := els) (el := el) (i := i) (len := len) (old := fun q => C[L.boff + q]?) (new := fun q => C2[q]?) ho o5 hel
   (fun j c hj => by
    have hlt := (List.getElem?_eq_some_iff.1 hj).1
    refine ⟨f 0 j, ?_, hvr j c hj⟩
    show C2[i * 2 + j]? = _
    rw [q6, if_neg (by omega), p6, if_pos (by omega), show i * 2 + j - i * 2 = j by omega]
    exact hvj' j c hj) (by omega) hlen
   (fun q hq => by
    show C2[q]? = C[L.boff + q]?
    rw [q6, if_neg (by omega), p6, if_neg (by omega), hR, Array.getElem?_append, List.size_toArray, htl, if_pos hq, List.getElem?_toArray, List.getElem?_take, if_pos hq, hcj q (by omega)])
   (fun q h1 h2 => by
    show C2[q + 2]? = C[L.boff + q]?
    rw [q6, if_pos (by omega), List.getElem?_drop, <- hcj q h2]
    congr 1; omega)
  obtain ⟨β', hF, hW', hβ, _⟩ := hw.upd hcalm id (o' := .arr 2 ((els.take len).take i ++ el :: (els.take len).drop i) (g + 1) false) (L' := ⟨w.heap.size, 0, g + 1, 2, R.size, false⟩) hobj rfl hL (by rw [hsz]; omega) (fun b hb _ => hrest b hb) (.inr ⟨o1, rfl, by simp only; omega⟩) (.inr (Nat.le_refl _)) (by
   intro β' hbet hβ hF
   refine ⟨rfl, rfl, rfl, o4, hall, by rw [hnewl]; simp only; omega, ⟨C2, 40, (0, 0), q4, by simp only; omega, .inl rfl⟩, fun k e hk j c hj => ?_⟩
   obtain ⟨u, u1, u2⟩ := key k e hk j c hj
   exact ⟨u, by simp only; rw [hWc, Nat.zero_add]; exact u1, u2, fun e => by cases e⟩)
  refine ⟨σ, β', _, hF, hW', .inl ⟨_, rfl, rfl, ?_⟩⟩
  exact .own _ _ _ _ _ _ _ _ hβ rfl (Nat.le_refl _) (fun _ => ⟨rfl, rfl, .inr (by simp), by simp only [Nat.zero_add]; omega⟩) hG (fun e => by cases e)
end
theorem alp {rargs : Array Value} (h : rargs.size = 3) : ∃ X0 X1 X2, rargs = #[X0, X1, X2] := by
 obtain ⟨l⟩ := rargs
 match l, h with
 | [X0, X1, X2], _ => grind
theorem amj : afu Proofs.Try.prog 70 f70x := by
 refine ⟨⟨_, Proofs.Try.func70, by kernel_rfl, by kernel_rfl⟩, fun call n args h r h' hc hr rargs prot σ β w hl hrel hw => ?_⟩
 obtain ⟨a, b, c, v, rfl, rfl, hst⟩ := am9 hr
 obtain ⟨el, ex, j, he, hi, hcase⟩ := af8 hst
 have he : c = .cv (.sl 2 [el] ex) := he
 have hi : b = .cv (.sc (.int .i64 j)) := hi
 subst he hi
 have fin : Ret F1 70 [a, .cv (.sc (.int .i64 j)), .cv (.sl 2 [el] ex)] h (Is v h') -> Calls Proofs.Try.prog 70 rargs w (rn Proofs.Try.prog prot σ β w (.ret v) h') := by
  rintro ⟨v1, h1, hcall, rfl, rfl⟩
  obtain ⟨m, hm⟩ := pv.mp hcall
  exact (ud ans m).go 70 _ h _ _ (by decide) hm rargs prot σ β w hl hrel hw
 rcases hcase with ⟨ha, rfl, rfl, rfl⟩ | ⟨ha, rfl, rfl, rfl⟩ | ⟨id, g, len, els, ha, hobj, h3, h4, h5, h6, h7, rfl, rfl⟩
 ·have ha : a = ct := ha
  subst ha
  exact fin (aey (els := []) VF.nil (by simp) (fun x y ρ hx hy => by simp [ai, hx, hy, ct, jq, gi, lz, cz]))
 ·have ha : a = .cv (.sl 2 [] true) := ha
  subst ha
  exact fin (aey (els := []) (.inl (.inr ⟨true, rfl⟩)) (by simp) (fun x y ρ hx hy => by simp [ai, hx, hy, jq, gi, lz, cz]))
 ·have ha : a = .own id g 0 len false := ha
  subst ha
  have hm : cz = 35184372088832 := rfl
  rw [hm] at h6 h7
  obtain ⟨i, rfl⟩ : ∃ i : Nat, j = (i : Int) := ⟨j.toNat, by omega⟩
  rw [Int.toNat_natCast] at fin |-
  by_cases hj : i = len
  ·subst hj
   have hl1 : (els.take i).length = i := by grind
   have hV : VF h 2 (els.take i) (.own id g 0 (els.take i).length false) := .inr ⟨id, g, 0, false, false, els, rfl, hobj, by omega, by grind⟩
   have := aey (el := el) (ex := ex) (v := .own id (g + 1) 0 (i + 1) false) (hq := h.set id (.arr 2 ((els.take i).take i ++ el :: (els.take i).drop i) (g + 1) false)) hV (by omega) (fun x y ρ hx hy => by
    simp [ai, hx, hy, jq, gi, lz, hm, hobj, h3, h6, h7, hl1, List.take_take])
   grind
  ·obtain ⟨X0, X1, X2, rfl⟩ := alp hl
   exact alx hw hobj h3 (by omega) h6 (hrel 0 X0 _ rfl rfl) (hrel 1 X1 _ rfl rfl) (hrel 2 X2 _ rfl rfl)
theorem tbl : Sw Proofs.Try.prog F := anb amj
open Go Go.Vm
theorem Xc {els elsC : List (List CV)} {l : List KV} {cs : List Ch} {u uc : VV} (hu : SlV 2 els u) (hR : RowsE els l) (hl : l.length <= 100000) (hC : ChsE elsC cs) (huc : SlV 3 elsC uc) (hcl : cs.length <= 100000) (hval : ∀ x ∈ cs, x.2.1.length <= 1000000000) :
  Er F 39 [u, uc] fun w => ∃ els', SlV 2 els' w /\ RowsE els' (cj l cs) :=
 Ji (G := True) amy hu hR hl hC huc hcl hval (.inl trivial)
open Go Go.Vm
open Go Go.Vm
section
variable {a b : List KV} {R : List Ch}
end
open Go Go.Vm
open Go Go.Vm
open Go Go.Vm
theorem HExt.ext {h h' : ae} (e : HExt h h') : Ext h h' := ⟨e.len, e.same⟩
theorem Ext.hext {h h' : ae} (e : Ext h h') : HExt h h' := ⟨e.len, e.same⟩
def bk (n : Nat) : Nat × Nat := if n < 64 then (0, 0) else (n / 4, (n - 2 - n / 4) / 8)
theorem ub {n : Int} (h1 : -9223372036854775808 <= n) (h2 : n <= 9223372036854775807) : Er F 30 [vi .i64 n] fun w => w = .tup [vi .i64 ((bk n.toNat).1 : Nat), vi .i64 ((bk n.toNat).2 : Nat)] := by
 have : Ret F 30 [vi .i64 n] [] fun v g => v = .tup [vi .i64 ((bk n.toNat).1 : Nat), vi .i64 ((bk n.toNat).2 : Nat)] := by
  refine bc (fn := f30) rfl ?_
  simp only [f30]
  generalize hs0 : ([vi .i64 n] ++ List.replicate _ VV.undef : List VV) = s
  have hs : s.length = 15 := by grind
  have h0 : s.getD 0 .undef = vi .i64 n := by grind
  clear hs0
  simp only [go_sem, seval, hs]
  rw [bi f30_0.eq_1]
  by_cases c : n < 64
  ·have e : bk n.toNat = (0, 0) := by unfold bk; grind
   simp only [go_sem, seval, hs, h0, c, e, Int.cast_ofNat_Int, Int.ofNat_zero, BEq.rfl, beq_self_eq_true]
  ·obtain ⟨m, rfl⟩ : ∃ m : Nat, n = (m : Int) := ⟨n.toNat, by omega⟩
   have e : bk (m : Int).toNat = (m / 4, (m - 2 - m / 4) / 8) := by unfold bk; grind
   have q0 : (4 : Int) ≠ 0 := by decide
   have q1 : (8 : Int) ≠ 0 := by decide
   have e1 : IntKind.i64.wrap ((m : Int).tdiv 4) = ((m / 4 : Nat) : Int) := by
    have : (m : Int).tdiv 4 = ((m / 4 : Nat) : Int) := rfl
    rw [this, IntWalk.i64_in _ (by omega)]
   have e2 : IntKind.i64.wrap ((m : Int) - 2) = ((m - 2 : Nat) : Int) := by rw [IntWalk.i64_in _ (by omega)]; omega
   have e3 : IntKind.i64.wrap (((m - 2 : Nat) : Int) - ((m / 4 : Nat) : Int)) = ((m - 2 - m / 4 : Nat) : Int) := by rw [IntWalk.i64_in _ (by omega)]; omega
   have e4 : IntKind.i64.wrap (((m - 2 - m / 4 : Nat) : Int).tdiv 8) = (((m - 2 - m / 4) / 8 : Nat) : Int) := by
    have : ((m - 2 - m / 4 : Nat) : Int).tdiv 8 = (((m - 2 - m / 4) / 8 : Nat) : Int) := rfl
    rw [this, IntWalk.i64_in _ (by omega)]
   simp only [go_sem, seval, hs, h0, c, Lw q0, Lw q1, e1, e2, e3, e4, e]
 obtain ⟨v, g, n1, rfl⟩ := this
 exact ⟨_, _, n1, _, rfl, rfl⟩
theorem iz {n : Nat} (h : n <= 4096) : (bk n).1 <= 1024 /\ (bk n).2 <= 512 := by
 unfold bk; grind
def Qg (e a p : Nat) : List UInt8 := [82, 83] ++ wd e ++ [u8 a, u8 (p / 256), u8 p] ++ List.replicate 51 0
def ge (e a p : Nat) : List UInt8 := oc (Qg e a p)
theorem Kh {e a p : Nat} : (Qg e a p).length = 60 := by unfold Qg wd; simp
theorem qu {e a p : Nat} : (ge e a p).length = 64 := by unfold ge; rw [pd, Kh]
theorem Lx {e a p : Nat} : (((am (am (List.replicate 60 0) 0 [82, 83]) 2 (wd e)).set 6 (u8 a)).set 7 (u8 (p / 256))).set 8 (u8 p) = Qg e a p := by
 simp [am, wd, Qg, List.replicate_succ]
abbrev qi (e a p : Nat) : VV := .agg [vi .i64 e, vi .i64 a, vi .i64 p]
theorem f62_loop {e : Nat} (he : e < 9223372036854775808) {b : List UInt8} (hl : b.length = 60) {hd : VV} {xs : List VV} (hxs : xs = [vi .i64 e, hd, hd]) : ∀ (r i : Nat) (s : List VV) (h : ae) (Q : Pst), i + r = 4 -> (∃ x1 x2, h[0]? = some (.box [vi .i64 e, x1, x2] false)) -> h[1]? = some (jz (am b 2 ((wd e).take i))) -> s.length = 36 ->
  s.getD 1 .undef = .ptr 0 0 -> s.getD 3 .undef = .ptr 1 0 -> s.getD 7 .undef = vi .i64 i ->
  (∀ s' h', s'.length = 36 -> s'.getD 1 .undef = .ptr 0 0 -> s'.getD 3 .undef = .ptr 1 0 -> h'[0]? = h[0]? -> h'[1]? = some (jz (am b 2 (wd e))) -> Q (.exit 0) ⟨s', h'⟩) -> X F (.loop f62_1) ⟨s, h⟩ Q := by
 intro r
 induction r with
 | zero =>
  intro i s h Q hi h0 hb hs e1 e3 e7 hQ
  have c : ¬ ((i : Nat) : Int) < 4 := by omega
  rw [ba, bi f62_1.eq_1]
  simp only [go_sem, seval, hs, e7]
  rw [bi f62_0.eq_1]
  simp only [go_sem, seval, hs, c]
  have : (wd e).take i = wd e := List.take_of_length_le (by rw [Jw]; omega)
  grind
 | succ r ih =>
  intro i s h Q hi h0 hb hs e1 e3 e7 hQ
  have c : ((i : Nat) : Int) < 4 := by omega
  have hi4 : i < 4 := by omega
  have w0 : IntKind.i64.wrap (2 + (i : Int)) = ((2 + i : Nat) : Int) := by rw [IntWalk.i64_in _ (by omega)]; omega
  have w1 : IntKind.i64.wrap (8 * (i : Int)) = 8 * (i : Int) := IntWalk.i64_in _ (by omega)
  have w2 : IntKind.i64.wrap (24 - 8 * (i : Int)) = 24 - 8 * (i : Int) := IntWalk.i64_in _ (by omega)
  have w3 : ¬ (24 - 8 * (i : Int)) < 0 := by omega
  have w4 : IntKind.i64.wrap ((i : Int) + 1) = ((i + 1 : Nat) : Int) := by rw [IntWalk.i64_in _ (by omega)]; omega
  have hlk : ((wd e).take i).length = i := by rw [List.length_take, Jw]; omega
  have hsl : (am b 2 ((wd e).take i)).length = b.length := ey (by omega)
  obtain ⟨x1, x2, h0'⟩ := h0
  have ld0 : ldO h false 1 (.ptr 0 0) = some (vi .i64 e, h) := bg h0' rfl
  have ia : Hq 60 1 (.ptr 1 0) (vi .i64 ((2 + i : Nat) : Int)) = some (.ptr 1 (2 + i)) := by
   have : 2 + i < 60 := by omega
   simp [Hq, ai, mi, qg]
   omega
  have st := Bl (x := u8 (e / 2 ^ (24 - 8 * i) % 256)) hb (j := 2 + i) (by omega)
  rw [Ci (by omega) hlk, <- Vf hi4] at st
  rw [ba, bi f62_1.eq_1]
  simp only [go_sem, seval, hs, e7]
  rw [bi f62_0.eq_1]
  simp only [go_sem, seval, hs, c, e1, e3, w0, w1, w2, oh w3, ac4 hi4, ia, st, ld0, e7, w4]
  refine ih (i + 1) _ _ Q (by omega) ⟨x1, x2, by grind⟩ (List.getElem?_set_self (ev hb)) (by simp only [ah, hs]) (by simp only [go_sem, seval, hs, e1]) (by simp only [go_sem, seval, hs, e3]) (by simp only [go_sem, seval, hs]) (fun s' h' a1 a2 a3 a4 a5 => hQ s' h' a1 a2 a3 ?_ a5)
  grind
theorem Jn {e a p : Nat} (he : e < 9223372036854775808) (ha : a < 256) (hp : p < 65536) : Er F 62 [qi e a p] (SlV 1 (eB (ge e a p))) := by
 have : Ret F 62 [qi e a p] [] fun v g => ∃ w, au g v = some w /\ SlV 1 (eB (ge e a p)) w := by
  refine eE1 (fn := f62) (n := 36) rfl rfl fun s hs h0 => ?_
  simp only [f62]
  have wu : ∀ m : Nat, IntKind.u8.wrap (m : Int) = ((u8 m).toNat : Int) := fun m => by
   rw [Cd]; unfold u8; rw [UInt8.toNat_ofNat']
  simp only [go_sem, Nat.reduceLT, Nat.reduceEqDiff, reduceCtorEq, Int.reduceLT, Int.reduceEq, hs, h0]
  rw [yn (show [vi .i64 e, vi .i64 a, vi .i64 p].length = 3 from rfl)]
  simp only [go_sem, Nat.reduceLT, Nat.reduceEqDiff, reduceCtorEq, Int.reduceLT, Int.reduceEq, hs, List.nil_append, List.length_nil, List.length_singleton, List.singleton_append]
  generalize hg0 : ([VO.box [vi .i64 e, vi .i64 a, vi .i64 p] false, VO.box (List.replicate 60 (VV.cv (.sc (.int .u8 0)))) false] : ae) = g0
  have hh0 : g0[0]? = some (.box [vi .i64 e, vi .i64 a, vi .i64 p] false) := by rw [<- hg0]; rfl
  have hbox : g0[1]? = some (jz (List.replicate 60 0)) := by
   rw [<- hg0, rp]; rfl
  have sa : ∀ {g : ae} {b : List UInt8}, g[1]? = some (jz b) -> b.length = 60 -> saO g 60 1 (.ptr 1 0) none none = some (.ob 1 0 60 1 true, g) := fun hb hl => Ix hb (by simp [sb]; omega)
  have l0 : (List.replicate 60 (0 : UInt8)).length = 60 := by simp
  unfold ge
  rw [<- Lx]
  generalize List.replicate 60 (0 : UInt8) = c0 at hbox l0 |-
  have t0 := ac9 (off := 0) (len := 60) (ex := true) (w := txt [82, 83]) (c := [82, 83]) hbox (by omega) rfl (by show 2 <= 60; omega)
  have b1 := List.getElem?_set_self (a := jz (am c0 0 [82, 83])) (ev hbox)
  have l1 : (am c0 0 [82, 83]).length = 60 := by rw [ey (by show 0 + 2 <= c0.length; omega), l0]
  have hh1 : (g0.set 1 (jz (am c0 0 [82, 83])))[0]? = some (.box [vi .i64 e, vi .i64 a, vi .i64 p] false) := by rw [List.getElem?_set_ne (by decide)]; exact hh0
  simp only [go_sem, Nat.reduceLT, Nat.reduceEqDiff, reduceCtorEq, Int.reduceLT, Int.reduceEq, hs, sa hbox l0, t0]
  generalize g0.set 1 (jz (am c0 0 [82, 83])) = g1 at b1 hh1
  generalize am c0 0 [82, 83] = c1 at b1 l1 |-
  refine f62_loop he l1 (hd := .undef) (xs := _) rfl 4 0 _ _ _ rfl ⟨_, _, hh1⟩ (by rw [b1]; simp [am]) (by simp only [ah, hs]) (by simp only [go_sem, Nat.reduceLT, Nat.reduceEqDiff, reduceCtorEq, Int.reduceLT, Int.reduceEq, hs]) (by simp only [go_sem, Nat.reduceLT, Nat.reduceEqDiff, reduceCtorEq, Int.reduceLT, Int.reduceEq, hs]) (by simp only [go_sem, Nat.reduceLT, Nat.reduceEqDiff, reduceCtorEq, Int.reduceLT, Int.reduceEq, hs]; rfl) (fun s' h' hs' e1 e3 a0 b2 => ?_)
  rw [hh1] at a0
  have l2 : (am c1 2 (wd e)).length = 60 := by rw [ey (by rw [Jw]; omega), l1]
  generalize am c1 2 (wd e) = c2 at b2 l2 |-
  have i6 : Hq 60 1 (.ptr 1 0) (vi .i64 6) = some (.ptr 1 6) := rfl
  have i7 : Hq 60 1 (.ptr 1 0) (vi .i64 7) = some (.ptr 1 7) := rfl
  have i8 : Hq 60 1 (.ptr 1 0) (vi .i64 8) = some (.ptr 1 8) := rfl
  have d1 : ldO h' false 1 (.ptr 0 1) = some (vi .i64 a, h') := bg a0 rfl
  have d2 : ldO h' false 1 (.ptr 0 2) = some (vi .i64 p, h') := bg a0 rfl
  have t3 := Bl (x := u8 a) b2 (j := 6) (by omega)
  have b3 := List.getElem?_set_self (a := jz (c2.set 6 (u8 a))) (ev b2)
  have l3 : (c2.set 6 (u8 a)).length = 60 := by rw [List.length_set, l2]
  have x1 : (h'.set 1 (jz (c2.set 6 (u8 a))))[0]? = some (.box [vi .i64 e, vi .i64 a, vi .i64 p] false) := by rw [List.getElem?_set_ne (by decide)]; exact a0
  generalize h'.set 1 (jz (c2.set 6 (u8 a))) = g3 at t3 b3 x1
  generalize c2.set 6 (u8 a) = c3 at b3 l3 |-
  have d3 : ldO g3 false 1 (.ptr 0 2) = some (vi .i64 p, g3) := bg x1 rfl
  have t4 := Bl (x := u8 (p / 256)) b3 (j := 7) (by omega)
  have b4 := List.getElem?_set_self (a := jz (c3.set 7 (u8 (p / 256)))) (ev b3)
  have l4 : (c3.set 7 (u8 (p / 256))).length = 60 := by rw [List.length_set, l3]
  have x2 : (g3.set 1 (jz (c3.set 7 (u8 (p / 256)))))[0]? = some (.box [vi .i64 e, vi .i64 a, vi .i64 p] false) := by rw [List.getElem?_set_ne (by decide)]; exact x1
  generalize g3.set 1 (jz (c3.set 7 (u8 (p / 256)))) = g4 at t4 b4 x2
  generalize c3.set 7 (u8 (p / 256)) = c4 at b4 l4 |-
  have d4 : ldO g4 false 1 (.ptr 0 2) = some (vi .i64 p, g4) := bg x2 rfl
  have t5 := Bl (x := u8 p) b4 (j := 8) (by omega)
  have b5 := List.getElem?_set_self (a := jz (c4.set 8 (u8 p))) (ev b4)
  have l5 : (c4.set 8 (u8 p)).length = 60 := by rw [List.length_set, l4]
  have x3 : (g4.set 1 (jz (c4.set 8 (u8 p))))[0]? = some (.box [vi .i64 e, vi .i64 a, vi .i64 p] false) := by rw [List.getElem?_set_ne (by decide)]; exact x2
  generalize g4.set 1 (jz (c4.set 8 (u8 p))) = g5 at t5 b5 x3
  generalize c4.set 8 (u8 p) = c5 at b5 l5 |-
  have ws : ¬ ((8 : Int) < 0) := by decide
  have sh : (p : Int).fdiv (2 ^ min (Int.toNat 8) IntKind.i64.bits) = ((p / 256 : Nat) : Int) := by
   have : (2 : Int) ^ min (Int.toNat 8) IntKind.i64.bits = 256 := by decide
   rw [this, Int.fdiv_eq_ediv_of_nonneg _ (by decide)]; rfl
  have sh' : (p : Int).fdiv (2 ^ min (Int.toNat 8) 64) = ((p / 256 : Nat) : Int) := sh
  have wp : IntKind.i64.wrap ((p / 256 : Nat) : Int) = ((p / 256 : Nat) : Int) := IntWalk.i64_in _ (by omega)
  have cl := Nf (ex := true) (off := 0) (len := 60) b5 (by omega)
  rw [List.drop_zero, List.take_of_length_le (by omega)] at cl
  obtain ⟨v7, h7, n7, w7, r7, S7⟩ := Ai (b := c5) (u := .cv (.sl 1 (eB c5) true)) (.inr ⟨true, rfl⟩) (by omega)
  simp only [go_sem, seval]
  refine qy 16 (fun g => g[0]? = some (.box [vi .i64 e, vi .i64 a, vi .i64 p] false)) a0 rfl rfl ?_
  simp only [List.take_succ_cons, List.take_zero]
  refine pm (v := .ptr 0 1) rfl (by rw [vm]; simp only [go_sem, seval, hs', e1]) ?_
  refine tz (v := vi .i64 a) rfl (by rw [ki]; simp only [go_sem, seval, hs']; exact d1) ?_
  refine pm (v := vi .u8 (u8 a).toNat) rfl (by rw [Eb]; simp only [go_sem, seval, hs', wu]) ?_
  refine pm (v := .ptr 0 2) rfl (by rw [vm]; simp only [go_sem, seval, hs', e1]) ?_
  refine ox (v := vi .i64 p) rfl a0 (fun g hg => by rw [ki]; simp only [go_sem, Nat.reduceLT, Nat.reduceEqDiff, reduceCtorEq, Int.reduceLT, Int.reduceEq, hs']; exact bg hg rfl) ?_
  refine pm (v := vi .i64 ((p / 256 : Nat) : Int)) rfl (by rw [Hr]; simp only [go_sem, Nat.reduceLT, Nat.reduceEqDiff, reduceCtorEq, Int.reduceLT, Int.reduceEq, hs', oh ws, sh, sh', wp]) ?_
  refine pm (v := vi .u8 (u8 (p / 256)).toNat) rfl (by rw [Eb]; simp only [go_sem, seval, hs', wu]) ?_
  refine pm (v := .ptr 0 2) rfl (by rw [vm]; simp only [go_sem, seval, hs', e1]) ?_
  refine ox (v := vi .i64 p) rfl a0 (fun g hg => by rw [ki]; simp only [go_sem, seval, hs']; exact bg hg rfl) ?_
  refine pm (v := vi .u8 (u8 p).toNat) rfl (by rw [Eb]; simp only [go_sem, seval, hs', wu]) ?_
  refine pm (v := .ptr 1 6) rfl (by rw [xc]; simp only [go_sem, seval, hs', e3, i6]) ?_
  refine Ay (v := .undef) rfl (by rw [Kk]; simp only [go_sem, seval, hs']; exact t3) x1 ?_
  refine pm (v := .ptr 1 7) rfl (by rw [xc]; simp only [go_sem, seval, hs', e3, i7]) ?_
  refine Ay (v := .undef) rfl (by rw [Kk]; simp only [go_sem, seval, hs']; exact t4) x2 ?_
  refine pm (v := .ptr 1 8) rfl (by rw [xc]; simp only [go_sem, seval, hs', e3, i8]) ?_
  refine Ay (v := .undef) rfl (by rw [Kk]; simp only [go_sem, seval, hs']; exact t5) x3 ?_
  simp only [XDA, List.drop_succ_cons, List.drop_zero, XD]
  simp only [go_sem, seval, hs', e3, sa b5 l5]
  refine ap (by simp only [List.map, go_sem, seval, hs']; exact bf cl rfl) n7 r7 ?_
  simp only [go_sem, seval, hs']
  refine ⟨w7, ?_, S7⟩
  rcases S7 with ⟨rfl, _⟩ | ⟨ex, rfl⟩ <;> rfl
 obtain ⟨v, g, n1, w, e1, e2⟩ := this
 exact ⟨v, g, n1, w, e1, e2⟩
open Go Go.Vm
abbrev dI (p : Nat) : VV := .iface 23 (.ptr p 0)
theorem Wh {h0 h : ae} {b : List UInt8} {id : Nat} (hx : Ext h0 h) (hid : h0.length <= id) (hb : h[id]? = some (.box ((cB b).map .cv) false)) :
  ∃ h', clos h (.ob id 0 b.length 1 true) = some (.sl 1 (eB b) true, h') /\ Ext h0 h' /\ (∀ j, j ≠ id -> h'[j]? = h[j]?) := by
 have hl : (cB b).length = b.length := nk
 have e1 : ((cB b).map VV.cv).take (b.length * 1) = (cB b).map VV.cv := List.take_of_length_le (by grind)
 refine ⟨h.set id (.box ((cB b).map .cv) true), ?_, ⟨by grind, fun j hj => by rw [List.getElem?_set_ne (by omega)]; exact hx.same j hj⟩, fun j hj => List.getElem?_set_ne (fun e => hj e.symm)⟩
 unfold clos
 simp only [hb, List.drop_zero]
 rw [e1, Hc (cB b) _ (fun _ => rfl)]
 simp only [hl, Nat.mul_one, if_true]
 rw [Ye _ _ hl]
 have : ((cB b).map fun c => [c]) = eB b := by simp [cB, eB, br]
 rw [this]
theorem abi {h : ae} {c : CV} : clos h (.cv c) = some (c, h) := rfl
def be (b : List UInt8) (i : Nat) : Nat := (b.getD i 0).toNat
def gy (b : List UInt8) : Nat := be b 2 * 16777216 + be b 3 * 65536 + be b 4 * 256 + be b 5
def gw (b : List UInt8) : Nat := be b 7 * 256 + be b 8
def jy (n : Nat) (b : List UInt8) : Option (Nat × Nat × Nat) :=
 if 1 <= gy b /\ gy b <= 1073741824 /\ be b 6 <= 1 /\ 1 <= gw b /\ gw b <= (bk n).2 /\ ge (gy b) (be b 6) (gw b) = b then some (gy b, be b 6, gw b) else none
theorem qh (b : List UInt8) (i : Nat) : be b i < 256 := UInt8.toNat_lt _
theorem ale {b : List UInt8} {i : Nat} (h : i < b.length) : b[i]? = some (b.getD i 0) := by
 grind
theorem pz {P : ae -> Prop} {id j d1 d2 : Nat} {b : List UInt8} {x : Opd} {lo hi lo' hi' : Nat} {r : List (Op1 × Cl)} {s : List VV} {h : ae} {Q : St -> Prop} (hP : P h) (hg : ∀ g, P g -> g[id]? = some (.box ((cB b).map .cv) false)) (hj : j < b.length) (hd : d1 < s.length) (hx : ad s x = .ob id 0 b.length 1 true)
  (hk : XDA F P r ⟨df (df s (some d1) (.ptr id j)) (some d2) (vi .u8 (be b j)), h⟩ Q) :
  XDA F P ((⟨none, some d1, .iadL 1 x (.c (vi .i64 j))⟩, .r lo hi) :: (⟨none, some d2, .ld false 1 (.t d1)⟩, .r lo' hi') :: r) ⟨s, h⟩ Q := by
 refine ox (v := .ptr id j) rfl hP (fun g hg' => ?_) (ox (v := vi .u8 (be b j)) rfl hP (fun g hg' => ?_) hk)
 ·rw [Xj, hx]
  have : (j : Int) < (b.length : Int) := by omega
  simp [iaO, ai, mi, qg, hj, ad]
 ·rw [ki]
  have : ad (df s (some d1) (.ptr id j)) (.t d1) = .ptr id j := by
   simp only [ad, oi, List.getD_eq_getElem?_getD, List.getElem?_set_self hd, Option.getD_some]
  rw [this]
  refine bg (hg g hg') ?_
  have h1 : (cB b)[j]? = some (.sc (.int .u8 (be b j))) := by unfold cB; rw [List.getElem?_map, ale hj]; rfl
  grind
theorem adt {a b c d : Nat} (ha : a < 256) (hb : b < 256) (hc : c < 256) (hd : d < 256) : ((a <<< 24 ||| b <<< 16) ||| c <<< 8) ||| d = a * 16777216 + b * 65536 + c * 256 + d := by
 have e1 : a <<< 24 ||| b <<< 16 = (a * 256 + b) <<< 16 := by
  rw [show a <<< 24 = (a <<< 8) <<< 16 by omega, <- Nat.shiftLeft_or_distrib, <- Nat.shiftLeft_add_eq_or_of_lt (by omega : b < 2 ^ 8), Nat.shiftLeft_eq, Nat.shiftLeft_eq, Nat.shiftLeft_eq]
 have e2 : (a * 256 + b) <<< 16 ||| c <<< 8 = ((a * 256 + b) * 256 + c) <<< 8 := by
  rw [show (a * 256 + b) <<< 16 = ((a * 256 + b) <<< 8) <<< 8 by omega, <- Nat.shiftLeft_or_distrib, <- Nat.shiftLeft_add_eq_or_of_lt (by omega : c < 2 ^ 8), Nat.shiftLeft_eq, Nat.shiftLeft_eq, Nat.shiftLeft_eq]
 rw [e1, e2, <- Nat.shiftLeft_add_eq_or_of_lt (by omega : d < 2 ^ 8), Nat.shiftLeft_eq]
 omega
theorem agq {a b : Nat} (ha : a < 256) (hb : b < 256) : a <<< 8 ||| b = a * 256 + b := by
 rw [<- Nat.shiftLeft_add_eq_or_of_lt (by omega : b < 2 ^ 8), Nat.shiftLeft_eq]
theorem ors {x y : Nat} (hx : x < 2 ^ 63) (hy : y < 2 ^ 63) : bits .or .i64 (x : Int) (y : Int) = ((x ||| y : Nat) : Int) :=
 (bits_nat .i64 63 (by decide) (fun n a b => IntWalk.i64_in _ (by omega)) x y hx hy).2
theorem al9 {m k : Nat} (hm : m < 256) (hk : k <= 24) : IntKind.i64.wrap ((m : Int) * 2 ^ min (Int.toNat (k : Int)) IntKind.i64.bits) = ((m <<< k : Nat) : Int) := by
 have e : min (Int.toNat (k : Int)) IntKind.i64.bits = k := by
  show min k 64 = k
  omega
 have h2 : (2 : Nat) ^ k <= 2 ^ 24 := Nat.pow_le_pow_right (by decide) hk
 have h3 : m * 2 ^ k <= 255 * 2 ^ 24 := Nat.mul_le_mul (by omega) h2
 rw [e, Nat.shiftLeft_eq, IntWalk.i64_in _ (by
  grind)]
 simp
theorem Nn {m k : Nat} (hm : m < 256) (hk : k <= 24) : m <<< k < 2 ^ 32 := by
 have h2 : (2 : Nat) ^ k <= 2 ^ 24 := Nat.pow_le_pow_right (by decide) hk
 have h3 : m * 2 ^ k <= 255 * 2 ^ 24 := Nat.mul_le_mul (by omega) h2
 omega
theorem Ms {d : D} (hO : d.OK) {i : Nat} (hi : i < d.firm.length) : (d.cell i).length = 64 := by
 unfold D.cell
 refine Ot (fun o ho => ⟨(hO.l64 o ho).1, trivial⟩) (hO.f64 _ ?_)
 grind
structure HdI (h : ae) (p : Nat) (f l : Option Nat) (d : D) (b : List UInt8) (q id : Nat) (g : ae) : Prop where
 ext : Ext h g
 dev : dq g p f l d
 hq : h.length < q
 q1 : g[q]? = some (.box [vi .i64 (gy b), vi .i64 (be b 6), vi .i64 (gw b)] false)
 hid : h.length < id
 hb : g[id]? = some (.box ((cB b).map .cv) false)
 r : ∃ x y z, g[h.length]? = some (.box [vi .i64 x, vi .i64 y, vi .i64 z] false)
theorem Ki {h : ae} {p : Nat} {f l : Option Nat} {d : D} (hD : dq h p f l d) (hO : d.OK) {i : Nat} (hi : i < d.firm.length) : Ret F 63 [dI p, vi .i64 i] h fun v g => Ext h g ∧
    (∀ e a pg, jy d.firm.length (d.cell i) = some (e, a, pg) → v = .tup [qi e a pg, vb true]) ∧ (jy d.firm.length (d.cell i) = none → ∃ e a pg : Nat, v = .tup [qi e a pg, vb false]) := by
  refine eE2 (fn := f63) (n := 96) rfl rfl fun s hs h0 h1 => ?_
  simp only [f63]
  have h64 := Ms hO hi
  have hn : d.firm.length ≤ 4096 := hO.n
  generalize hb : d.cell i = b at h64 ⊢
  simp only [go_sem, Nat.reduceLT, Nat.reduceEqDiff, reduceCtorEq, Int.reduceLT, Int.reduceEq, hs]
  have x1 := Ext.push h (VO.box [.cv (.sc (.int .i64 0)), .cv (.sc (.int .i64 0)), .cv (.sc (.int .i64 0))] false)
  have q1 : (h ++ [VO.box [.cv (.sc (.int .i64 0)), .cv (.sc (.int .i64 0)), .cv (.sc (.int .i64 0))] false])[h.length]? = some (.box [.cv (.sc (.int .i64 0)), .cv (.sc (.int .i64 0)), .cv (.sc (.int .i64 0))] false) := bp
  have hl1 : (h ++ [VO.box [.cv (.sc (.int .i64 0)), .cv (.sc (.int .i64 0)), .cv (.sc (.int .i64 0))] false]).length = h.length + 1 := by simp
  generalize h ++ [VO.box [.cv (.sc (.int .i64 0)), .cv (.sc (.int .i64 0)), .cv (.sc (.int .i64 0))] false] = g1 at x1 q1 hl1
  have hh : d.has (i : Int) = true := by unfold D.has; simp; omega
  obtain ⟨v2, g2, c2, r2⟩ := Il (hD.ext x1) hO (i : Int)
  obtain ⟨o, rfl, id, rfl, hb2⟩ := r2.yes hh
  have hid := r2.new _ _ _ _ _ _ rfl
  have ei : (i : Int).toNat = i := rfl
  rw [ei, hb] at hb2 c2
  refine tr (t := 23) (u := .ptr p 0) (f := 119) (by simp only [go_sem, Nat.reduceLT, Nat.reduceEqDiff, reduceCtorEq, Int.reduceLT, Int.reduceEq, hs, h0]) rfl (by simp only [List.map, go_sem, Nat.reduceLT, Nat.reduceEqDiff, reduceCtorEq, Int.reduceLT, Int.reduceEq, hs, h1]; exact c2) ?_
  simp only [go_sem, Nat.reduceLT, Nat.reduceEqDiff, reduceCtorEq, Int.reduceLT, Int.reduceEq, hs]
  rw [bi f63_0.eq_1]
  simp only [go_sem, Nat.reduceLT, Nat.reduceEqDiff, reduceCtorEq, Int.reduceLT, Int.reduceEq, hs]
  have x2 := x1.trans r2.ext
  have q2 := r2.ext.get q1
  have hlt2 := az hb2
  refine alv (fun s' g => s'.length = 96 ∧ s'.getD 0 .undef = dI p ∧ s'.getD 4 .undef = .ptr h.length 0 ∧ s'.getD 6 .undef = .ob id 0 b.length 1 true ∧ ∃ q, s'.getD 8 .undef = .ptr q 0 ∧ HdI h p f l d b q id g) ?_ ?_
  · have nn : ∀ {k : Nat}, k ≤ 24 → ¬ ((k : Int) < 0) := fun _ => by omega
    have n24 : ¬ ((24 : Int) < 0) := by decide
    have n16 : ¬ ((16 : Int) < 0) := by decide
    have n8 : ¬ ((8 : Int) < 0) := by decide
    have wb : ∀ j, IntKind.i64.wrap ((be b j : Nat) : Int) = ((be b j : Nat) : Int) := fun j => IntWalk.i64_in _ (by have := qh b j; omega)
    have s24 : ∀ j, IntKind.i64.wrap ((be b j : Int) * 2 ^ min (Int.toNat 24) 64) = ((be b j <<< 24 : Nat) : Int) := fun j => al9 (k := 24) (qh b j) (by decide)
    have s16 : ∀ j, IntKind.i64.wrap ((be b j : Int) * 2 ^ min (Int.toNat 16) 64) = ((be b j <<< 16 : Nat) : Int) := fun j => al9 (k := 16) (qh b j) (by decide)
    have s8 : ∀ j, IntKind.i64.wrap ((be b j : Int) * 2 ^ min (Int.toNat 8) 64) = ((be b j <<< 8 : Nat) : Int) := fun j => al9 (k := 8) (qh b j) (by decide)
    have t63 : (2 : Nat) ^ 32 < 2 ^ 63 := by decide
    have l24 : be b 2 <<< 24 < 2 ^ 32 := Nn (qh b 2) (by decide)
    have l16 : be b 3 <<< 16 < 2 ^ 32 := Nn (qh b 3) (by decide)
    have l8 : be b 4 <<< 8 < 2 ^ 32 := Nn (qh b 4) (by decide)
    have l8' : be b 7 <<< 8 < 2 ^ 32 := Nn (qh b 7) (by decide)
    have l0 : be b 5 < 2 ^ 32 := by have := qh b 5; omega
    have l0' : be b 8 < 2 ^ 32 := by have := qh b 8; omega
    have o1 := ors (x := be b 2 <<< 24) (y := be b 3 <<< 16) (by omega) (by omega)
    have k1 : (be b 2 <<< 24 ||| be b 3 <<< 16) < 2 ^ 32 := Nat.or_lt_two_pow l24 l16
    have o2 := ors (x := be b 2 <<< 24 ||| be b 3 <<< 16) (y := be b 4 <<< 8) (by omega) (by omega)
    have k2 : (be b 2 <<< 24 ||| be b 3 <<< 16 ||| be b 4 <<< 8) < 2 ^ 32 := Nat.or_lt_two_pow k1 l8
    have o3 := ors (x := be b 2 <<< 24 ||| be b 3 <<< 16 ||| be b 4 <<< 8) (y := be b 5) (by omega) (by omega)
    have o4 := ors (x := be b 7 <<< 8) (y := be b 8) (by omega) (by omega)
    rw [adt (qh b 2) (qh b 3) (qh b 4) (qh b 5)] at o3
    rw [agq (qh b 7) (qh b 8)] at o4
    refine qy 39 (fun g => g[id]? = some (.box ((cB b).map .cv) false)) hb2 rfl rfl ?_
    simp only [List.take_succ_cons, List.take_zero, List.drop_succ_cons, List.drop_zero, go_sem, Nat.reduceLT, Nat.reduceEqDiff, reduceCtorEq, Int.reduceLT, Int.reduceEq, hs]
    refine pz (j := 2) hb2 (fun _ hg => hg) (by omega) (by simp only [ah, hs]; decide) (by simp only [go_sem, Nat.reduceLT, Nat.reduceEqDiff, reduceCtorEq, Int.reduceLT, Int.reduceEq, hs]) ?_
    simp only [go_sem, Nat.reduceLT, Nat.reduceEqDiff, reduceCtorEq, Int.reduceLT, Int.reduceEq, hs, wb, Av n24, s24]
    refine pz (j := 3) hb2 (fun _ hg => hg) (by omega) (by simp only [ah, hs]; decide) (by simp only [go_sem, Nat.reduceLT, Nat.reduceEqDiff, reduceCtorEq, Int.reduceLT, Int.reduceEq, hs]) ?_
    simp only [go_sem, Nat.reduceLT, Nat.reduceEqDiff, reduceCtorEq, Int.reduceLT, Int.reduceEq, hs, wb, Av n16, s16, o1]
    refine pz (j := 4) hb2 (fun _ hg => hg) (by omega) (by simp only [ah, hs]; decide) (by simp only [go_sem, Nat.reduceLT, Nat.reduceEqDiff, reduceCtorEq, Int.reduceLT, Int.reduceEq, hs]) ?_
    simp only [go_sem, Nat.reduceLT, Nat.reduceEqDiff, reduceCtorEq, Int.reduceLT, Int.reduceEq, hs, wb, Av n8, s8, o2]
    refine pz (j := 5) hb2 (fun _ hg => hg) (by omega) (by simp only [ah, hs]; decide) (by simp only [go_sem, Nat.reduceLT, Nat.reduceEqDiff, reduceCtorEq, Int.reduceLT, Int.reduceEq, hs]) ?_
    simp only [go_sem, Nat.reduceLT, Nat.reduceEqDiff, reduceCtorEq, Int.reduceLT, Int.reduceEq, hs, wb, o3]
    refine pz (j := 6) hb2 (fun _ hg => hg) (by omega) (by simp only [ah, hs]; decide) (by simp only [go_sem, Nat.reduceLT, Nat.reduceEqDiff, reduceCtorEq, Int.reduceLT, Int.reduceEq, hs]) ?_
    simp only [go_sem, Nat.reduceLT, Nat.reduceEqDiff, reduceCtorEq, Int.reduceLT, Int.reduceEq, hs, wb]
    refine pz (j := 7) hb2 (fun _ hg => hg) (by omega) (by simp only [ah, hs]; decide) (by simp only [go_sem, Nat.reduceLT, Nat.reduceEqDiff, reduceCtorEq, Int.reduceLT, Int.reduceEq, hs]) ?_
    simp only [go_sem, Nat.reduceLT, Nat.reduceEqDiff, reduceCtorEq, Int.reduceLT, Int.reduceEq, hs, wb, Av n8, s8]
    refine pz (j := 8) hb2 (fun _ hg => hg) (by omega) (by simp only [ah, hs]; decide) (by simp only [go_sem, Nat.reduceLT, Nat.reduceEqDiff, reduceCtorEq, Int.reduceLT, Int.reduceEq, hs]) ?_
    simp only [go_sem, Nat.reduceLT, Nat.reduceEqDiff, reduceCtorEq, Int.reduceLT, Int.reduceEq, hs, wb, o4]
    refine Ay (v := .ptr g2.length 0) rfl rfl (by rw [List.getElem?_append_left hlt2]; exact hb2) ?_
    simp only [go_sem, Nat.reduceLT, Nat.reduceEqDiff, reduceCtorEq, Int.reduceLT, Int.reduceEq, hs]
    refine Ay (v := .undef) (h' := g2 ++ [.box [vi .i64 (gy b), vi .i64 (be b 6), vi .i64 (gw b)] false]) rfl (by rw [Kk]; simp only [go_sem, Nat.reduceLT, Nat.reduceEqDiff, reduceCtorEq, Int.reduceLT, Int.reduceEq, hs]; rfl) (by rw [List.getElem?_append_left hlt2]; exact hb2) ?_
    simp only [go_sem, Nat.reduceLT, Nat.reduceEqDiff, reduceCtorEq, Int.reduceLT, Int.reduceEq, ac1]
    have x3 := Ext.push g2 (.box [vi .i64 (gy b), vi .i64 (be b 6), vi .i64 (gw b)] false)
    exact ⟨trivial, by simp only [ah, hs], by simp only [go_sem, Nat.reduceLT, Nat.reduceEqDiff, reduceCtorEq, Int.reduceLT, Int.reduceEq, hs, h0], by simp only [go_sem, Nat.reduceLT, Nat.reduceEqDiff, reduceCtorEq, Int.reduceLT, Int.reduceEq, hs], by simp only [go_sem, Nat.reduceLT, Nat.reduceEqDiff, reduceCtorEq, Int.reduceLT, Int.reduceEq, hs], g2.length, by simp only [go_sem, Nat.reduceLT, Nat.reduceEqDiff, reduceCtorEq, Int.reduceLT, Int.reduceEq, hs], x2.trans x3, hD.ext (x2.trans x3), by have := r2.ext.len; omega, bp, by omega, x3.get hb2, _, _, _, x3.get q2⟩
  · rintro s' g ⟨hs', e0, e4, e6, q, e8, I⟩
    obtain ⟨v3, g3, n3, w3, y3, rfl⟩ := ub (n := (d.firm.length : Int)) (by omega) (by omega)
    have d0 : ldO g false 1 (.ptr q 0) = some (vi .i64 (gy b), g) := bg I.q1 rfl
    have d1 : ldO g false 1 (.ptr q 1) = some (vi .i64 (be b 6), g) := bg I.q1 rfl
    have d2 : ldO g false 1 (.ptr q 2) = some (vi .i64 (gw b), g) := bg I.q1 rfl
    have dd : ldO g true 3 (.ptr q 0) = some (qi (gy b) (be b 6) (gw b), g) := oa I.q1 rfl
    simp only [go_sem, Nat.reduceLT, Nat.reduceEqDiff, reduceCtorEq, Int.reduceLT, Int.reduceEq]
    refine tr (t := 23) (u := .ptr p 0) (f := 29) (by simp only [go_sem, Nat.reduceLT, Nat.reduceEqDiff, reduceCtorEq, Int.reduceLT, Int.reduceEq, hs', e0]) rfl (by simp only [List.map, go_sem, Nat.reduceLT, Nat.reduceEqDiff, reduceCtorEq, Int.reduceLT, Int.reduceEq, hs']; exact rj I.dev) ?_
    simp only [go_sem, Nat.reduceLT, Nat.reduceEqDiff, reduceCtorEq, Int.reduceLT, Int.reduceEq, hs']
    refine ap (h1 := g) (by simp only [List.map, go_sem, Nat.reduceLT, Nat.reduceEqDiff, reduceCtorEq, Int.reduceLT, Int.reduceEq, hs']; rfl) n3 y3 ?_
    have eN : ((d.firm.length : Int)).toNat = d.firm.length := rfl
    simp only [go_sem, Nat.reduceLT, Nat.reduceEqDiff, reduceCtorEq, Int.reduceLT, Int.reduceEq, hs', e8, d0, d1, d2, eN]
    generalize hQ : K F _ _ = Qk
    have fin : ∀ (s2 : List VV) (M : Bool), s2.length = 96 → s2.getD 4 .undef = .ptr h.length 0 → s2.getD 6 .undef = .ob id 0 b.length 1 true → s2.getD 8 .undef = .ptr q 0 → s2.getD 11 .undef = vb M →
        M = decide (1 ≤ gy b ∧ gy b ≤ 1073741824 ∧ be b 6 ≤ 1 ∧ 1 ≤ gw b ∧ gw b ≤ (bk d.firm.length).2) → Qk .norm ⟨s2, g⟩ := by
      intro s2 M hs2 k4 k6 k8 k11 hM
      rw [← hQ]
      simp only [go_sem, Nat.reduceLT, Nat.reduceEqDiff, reduceCtorEq, Int.reduceLT, Int.reduceEq]
      refine nv rfl ?_
      obtain ⟨rx, ry, rz, hr⟩ := I.r
      cases M with
      | false =>
        have hn : jy d.firm.length b = none := by
          unfold jy
          rw [if_neg]
          intro hc
          have := of_decide_eq_false hM.symm
          exact this ⟨hc.1, hc.2.1, hc.2.2.1, hc.2.2.2.1, hc.2.2.2.2.1⟩
        have st := ly (n := 3) (cs := [vi .i64 (gy b), vi .i64 (be b 6), vi .i64 (gw b)]) rfl hr rfl
        have ld3 := oa (n := 3) (List.getElem?_set_self (a := VO.box [vi .i64 (gy b), vi .i64 (be b 6), vi .i64 (gw b)] false) (az hr)) rfl
        simp only [go_sem, Nat.reduceLT, Nat.reduceEqDiff, reduceCtorEq, Int.reduceLT, Int.reduceEq, hs2, k4, k6, k8, k11, dd, st, ld3]
        refine Ys (id := h.length) (by simp only [go_sem, Nat.reduceLT, Nat.reduceEqDiff, reduceCtorEq, Int.reduceLT, Int.reduceEq, hs2, k4]) (List.getElem?_set_self (az hr)) rfl (by simp only [ah, hs2]; decide) ?_
        simp only [go_sem, Nat.reduceLT, Nat.reduceEqDiff, reduceCtorEq, Int.reduceLT, Int.reduceEq, hs2]
        refine ⟨⟨by rw [List.length_set]; exact I.ext.len, fun j hj => by rw [List.getElem?_set_ne (by omega)]; exact I.ext.same j hj⟩, fun e a pg he => (by rw [hn] at he; cases he), fun _ => ⟨_, _, _, rfl⟩⟩
      | true =>
        have hc := of_decide_eq_true hM.symm
        have st := ly (n := 3) (cs := [vi .i64 (gy b), vi .i64 (be b 6), vi .i64 (gw b)]) rfl hr rfl
        have ld3 := oa (n := 3) (List.getElem?_set_self (a := VO.box [vi .i64 (gy b), vi .i64 (be b 6), vi .i64 (gw b)] false) (az hr)) rfl
        obtain ⟨v4, g4, n4, w4, y4, S4⟩ := Jn (e := gy b) (a := be b 6) (p := gw b) (by omega) (by omega) (by
          have := qh b 7
          have := qh b 8
          unfold gw; omega)
        obtain ⟨g5, cl5, _, _⟩ := Wh I.ext (by have := I.hid; omega) I.hb
        have eq5 := rm S4 (show SlV 1 (eB b) (.cv (.sl 1 (eB b) true)) from .inr ⟨true, rfl⟩)
        have cw : cf g [w4, .ob id 0 b.length 1 true] = some ([w4, .cv (.sl 1 (eB b) true)], g5) := by
          rcases S4 with ⟨rfl, _⟩ | ⟨ex, rfl⟩ <;> simp [cf, gc, abi, cl5]
        simp only [go_sem, Nat.reduceLT, Nat.reduceEqDiff, reduceCtorEq, Int.reduceLT, Int.reduceEq, hs2, k4, k6, k8, k11, dd]
        refine vx (by simp only [List.map, go_sem, Nat.reduceLT, Nat.reduceEqDiff, reduceCtorEq, Int.reduceLT, Int.reduceEq, hs2]; rfl) n4 y4 ?_
        simp only [go_sem, Nat.reduceLT, Nat.reduceEqDiff, reduceCtorEq, Int.reduceLT, Int.reduceEq, hs2, k6]
        refine Zk (by simp only [List.map, go_sem, Nat.reduceLT, Nat.reduceEqDiff, reduceCtorEq, Int.reduceLT, Int.reduceEq, hs2]; exact cw) eq5 rfl rfl ?_
        simp only [go_sem, Nat.reduceLT, Nat.reduceEqDiff, reduceCtorEq, Int.reduceLT, Int.reduceEq, hs2, k4, k6, k8, k11, dd, st, ld3]
        refine Ys (id := h.length) (by simp only [go_sem, Nat.reduceLT, Nat.reduceEqDiff, reduceCtorEq, Int.reduceLT, Int.reduceEq, hs2, k4]) (List.getElem?_set_self (az hr)) rfl (by simp only [ah, hs2]; decide) ?_
        simp only [go_sem, Nat.reduceLT, Nat.reduceEqDiff, reduceCtorEq, Int.reduceLT, Int.reduceEq, hs2]
        refine ⟨⟨by rw [List.length_set]; exact I.ext.len, fun j hj => by rw [List.getElem?_set_ne (by omega)]; exact I.ext.same j hj⟩, fun e a pg he => ?_, fun he => ⟨gy b, be b 6, gw b, ?_⟩⟩
        · unfold jy at he
          split at he
          · rename_i hx
            cases he
            rw [decide_eq_true hx.2.2.2.2.2]
          · cases he
        · unfold jy at he
          split at he
          · cases he
          · rename_i hx
            have : ¬ ge (gy b) (be b 6) (gw b) = b := fun e => hx ⟨hc.1, hc.2.1, hc.2.2.1, hc.2.2.2.1, hc.2.2.2.2, e⟩
            rw [decide_eq_false this]
    have r0 : ∀ m : Nat, ((1 : Int) ≤ (m : Int)) = (1 ≤ m) := fun m => by apply propext; omega
    have r1 : ∀ m : Nat, ((m : Int) ≤ 1) = (m ≤ 1) := fun m => by apply propext; omega
    have r2 : ((gy b : Int) ≤ 1073741824) = (gy b ≤ 1073741824) := by apply propext; omega
    have r3 : ((gw b : Int) ≤ ((bk d.firm.length).2 : Int)) = (gw b ≤ (bk d.firm.length).2) := by apply propext; omega
    by_cases c1 : 1 ≤ gy b
    · by_cases c2 : gy b ≤ 1073741824
      · by_cases c3 : be b 6 ≤ 1
        · by_cases c4 : 1 ≤ gw b
          · simp only [go_sem, Nat.reduceLT, Nat.reduceEqDiff, reduceCtorEq, Int.reduceLT, Int.reduceEq, hs', r0, r1, r2, r3, c1, c2, c3, c4, e8, d0, d1, d2]
            refine fin _ (decide (gw b ≤ (bk d.firm.length).2)) (by simp only [ah, hs']) (by simp only [go_sem, Nat.reduceLT, Nat.reduceEqDiff, reduceCtorEq, Int.reduceLT, Int.reduceEq, hs', e4]) (by simp only [go_sem, Nat.reduceLT, Nat.reduceEqDiff, reduceCtorEq, Int.reduceLT, Int.reduceEq, hs', e6]) (by simp only [go_sem, Nat.reduceLT, Nat.reduceEqDiff, reduceCtorEq, Int.reduceLT, Int.reduceEq, hs', e8]) (by simp only [go_sem, Nat.reduceLT, Nat.reduceEqDiff, reduceCtorEq, Int.reduceLT, Int.reduceEq, hs']) (by simp only [c1, c2, c3, c4, true_and])
          · simp only [go_sem, Nat.reduceLT, Nat.reduceEqDiff, reduceCtorEq, Int.reduceLT, Int.reduceEq, hs', r0, r1, r2, r3, c1, c2, c3, c4, e8, d0, d1, d2]
            exact fin _ false (by simp only [ah, hs']) (by simp only [go_sem, Nat.reduceLT, Nat.reduceEqDiff, reduceCtorEq, Int.reduceLT, Int.reduceEq, hs', e4]) (by simp only [go_sem, Nat.reduceLT, Nat.reduceEqDiff, reduceCtorEq, Int.reduceLT, Int.reduceEq, hs', e6]) (by simp only [go_sem, Nat.reduceLT, Nat.reduceEqDiff, reduceCtorEq, Int.reduceLT, Int.reduceEq, hs', e8]) (by simp only [go_sem, Nat.reduceLT, Nat.reduceEqDiff, reduceCtorEq, Int.reduceLT, Int.reduceEq, hs']) (by simp [c4])
        · simp only [go_sem, Nat.reduceLT, Nat.reduceEqDiff, reduceCtorEq, Int.reduceLT, Int.reduceEq, hs', r0, r1, r2, r3, c1, c2, c3, e8, d0, d1, d2]
          exact fin _ false (by simp only [ah, hs']) (by simp only [go_sem, Nat.reduceLT, Nat.reduceEqDiff, reduceCtorEq, Int.reduceLT, Int.reduceEq, hs', e4]) (by simp only [go_sem, Nat.reduceLT, Nat.reduceEqDiff, reduceCtorEq, Int.reduceLT, Int.reduceEq, hs', e6]) (by simp only [go_sem, Nat.reduceLT, Nat.reduceEqDiff, reduceCtorEq, Int.reduceLT, Int.reduceEq, hs', e8]) (by simp only [go_sem, Nat.reduceLT, Nat.reduceEqDiff, reduceCtorEq, Int.reduceLT, Int.reduceEq, hs']) (by simp [c3])
      · simp only [go_sem, Nat.reduceLT, Nat.reduceEqDiff, reduceCtorEq, Int.reduceLT, Int.reduceEq, hs', r0, r1, r2, r3, c1, c2, e8, d0, d1, d2]
        exact fin _ false (by simp only [ah, hs']) (by simp only [go_sem, Nat.reduceLT, Nat.reduceEqDiff, reduceCtorEq, Int.reduceLT, Int.reduceEq, hs', e4]) (by simp only [go_sem, Nat.reduceLT, Nat.reduceEqDiff, reduceCtorEq, Int.reduceLT, Int.reduceEq, hs', e6]) (by simp only [go_sem, Nat.reduceLT, Nat.reduceEqDiff, reduceCtorEq, Int.reduceLT, Int.reduceEq, hs', e8]) (by simp only [go_sem, Nat.reduceLT, Nat.reduceEqDiff, reduceCtorEq, Int.reduceLT, Int.reduceEq, hs']) (by simp [c2])
    · simp only [go_sem, Nat.reduceLT, Nat.reduceEqDiff, reduceCtorEq, Int.reduceLT, Int.reduceEq, hs', r0, r1, r2, r3, c1, e8, d0, d1, d2]
      exact fin _ false (by simp only [ah, hs']) (by simp only [go_sem, Nat.reduceLT, Nat.reduceEqDiff, reduceCtorEq, Int.reduceLT, Int.reduceEq, hs', e4]) (by simp only [go_sem, Nat.reduceLT, Nat.reduceEqDiff, reduceCtorEq, Int.reduceLT, Int.reduceEq, hs', e6]) (by simp only [go_sem, Nat.reduceLT, Nat.reduceEqDiff, reduceCtorEq, Int.reduceLT, Int.reduceEq, hs', e8]) (by simp only [go_sem, Nat.reduceLT, Nat.reduceEqDiff, reduceCtorEq, Int.reduceLT, Int.reduceEq, hs']) (by simp [c1])
open Go Go.Vm
abbrev z3 : List VV := [.cv (.sc (.int .i64 0)), .cv (.sc (.int .i64 0)), .cv (.sc (.int .i64 0))]
theorem acp {h : ae} {p : Nat} {f l : Option Nat} {d : D} (hD : dq h p f l d) (hO : d.OK) {i : Nat} (hi : i < d.firm.length) :
  ∃ g e a pg t, call F 63 [dI p, vi .i64 i] h = some (.ret (.tup [qi e a pg, vb t]), g) /\ Ext h g /\ jy d.firm.length (d.cell i) = if t then some (e, a, pg) else none := by
 obtain ⟨v, g, n1, x1, y1, y2⟩ := Ki hD hO hi
 cases hx : jy d.firm.length (d.cell i) with
 | none =>
  grind
 | some x =>
  grind
def Ya (x y : Option (Nat × Nat × Nat)) : Option (Nat × Nat × Nat) := match x, y with
 | none, y => y
 | some x, none => some x
 | some x, some y => if x.1 < y.1 then some y else some x
def re (d : D) : Option (Nat × Nat × Nat) := Ya (jy d.firm.length (d.cell 0)) (jy d.firm.length (d.cell 1))
theorem sv {d : D} {x y z : Option (Nat × Nat × Nat)} (h1 : jy d.firm.length (d.cell 0) = x) (h2 : jy d.firm.length (d.cell 1) = y) (h : Ya x y = z) : re d = z := by
 unfold re
 grind
theorem Rq {h : ae} {p : Nat} {f l : Option Nat} {d : D} (hD : dq h p f l d) (hO : d.OK) (hn : 2 ≤ d.firm.length) :
    Ret F 35 [dI p] h fun v g => Ext h g ∧ ∃ e a pg t, v = .tup [qi e a pg, vb t] ∧ re d = if t then some (e, a, pg) else none := by
  refine bc (fn := f35) rfl ?_
  simp only [f35]
  generalize hs0 : ([dI p] ++ List.replicate _ VV.undef : List VV) = s
  have hs : s.length = 33 := by grind
  have h0 : s.getD 0 .undef = dI p := by grind
  clear hs0
  simp only [go_sem, seval, hs, h0]
  have x0 := Ext.push h (.box z3 false)
  have q0 : (h ++ [VO.box z3 false])[h.length]? = some (.box z3 false) := bp
  have ln0 : (h ++ [VO.box z3 false]).length = h.length + 1 := by simp
  generalize h ++ [VO.box z3 false] = g0 at x0 q0 ln0
  obtain ⟨g1, e1, a1, p1, t1, n1, x1, y1⟩ := acp (hD.ext x0) hO (i := 0) (by omega)
  refine ao (by simp only [List.map, go_sem, seval, hs, h0]; exact n1) ?_
  simp only [go_sem, seval, hs, h0]
  have x2 := Ext.push g1 (.box [vi .i64 e1, vi .i64 a1, vi .i64 p1] false)
  have q2 : (g1 ++ [VO.box [vi .i64 e1, vi .i64 a1, vi .i64 p1] false])[g1.length]? = some (.box [vi .i64 e1, vi .i64 a1, vi .i64 p1] false) := bp
  generalize g1 ++ [VO.box [vi .i64 e1, vi .i64 a1, vi .i64 p1] false] = g2 at x2 q2
  obtain ⟨g3, e3, a3, p3, t3, n3, x3, y3⟩ := acp (hD.ext ((x0.trans x1).trans x2)) hO (i := 1) (by omega)
  refine ao (by simp only [List.map, go_sem, seval, hs, h0]; exact n3) ?_
  simp only [go_sem, seval, hs, h0]
  have x4 := Ext.push g3 (.box [vi .i64 e3, vi .i64 a3, vi .i64 p3] false)
  have q4 : (g3 ++ [VO.box [vi .i64 e3, vi .i64 a3, vi .i64 p3] false])[g3.length]? = some (.box [vi .i64 e3, vi .i64 a3, vi .i64 p3] false) := bp
  generalize g3 ++ [VO.box [vi .i64 e3, vi .i64 a3, vi .i64 p3] false] = g4 at x4 q4
  have xx := x3.trans x4
  have q2' := xx.get q2
  have q0' := ((x1.trans x2).trans xx).get q0
  have l2 : ldO g4 false 1 (.ptr g1.length 0) = some (vi .i64 e1, g4) := bg q2' rfl
  have l4 : ldO g4 false 1 (.ptr g3.length 0) = some (vi .i64 e3, g4) := bg q4 rfl
  have L2 : ldO g4 true 3 (.ptr g1.length 0) = some (qi e1 a1 p1, g4) := oa q2' rfl
  have L4 : ldO g4 true 3 (.ptr g3.length 0) = some (qi e3 a3 p3, g4) := oa q4 rfl
  have s2 := ly (n := 3) (cs := [vi .i64 e1, vi .i64 a1, vi .i64 p1]) rfl q0' rfl
  have s4 := ly (n := 3) (cs := [vi .i64 e3, vi .i64 a3, vi .i64 p3]) rfl q0' rfl
  have X : Ext h g4 := (((x0.trans x1).trans x2).trans xx)
  have XS : ∀ o, Ext h (g4.set h.length o) := fun o => ⟨by grind, fun j hj => by rw [List.getElem?_set_ne (by omega)]; exact X.same j hj⟩
  rw [bi f35_0.eq_1]
  have fin1 : ∀ (s5 : List VV) (b : Bool), s5.length = 33 → s5.getD 2 .undef = .ptr h.length 0 → s5.getD 3 .undef = vb b → (re d = if b then some (e1, a1, p1) else none) →
      RQ [.cell 2 true 3, .t 3] (fun v g => Ext h g ∧ ∃ e a pg t, v = .tup [qi e a pg, vb t] ∧ re d = if t then some (e, a, pg) else none) .ret ⟨s5, g4.set h.length (.box [vi .i64 e1, vi .i64 a1, vi .i64 p1] false)⟩ := by
    intro s5 b k0 k2 k3 hf
    refine Ys (id := h.length) k2 (List.getElem?_set_self (az q0')) rfl (by omega) ?_
    grind
  have fin3 : ∀ (s5 : List VV), s5.length = 33 → s5.getD 2 .undef = .ptr h.length 0 → s5.getD 3 .undef = vb true → (re d = some (e3, a3, p3)) →
      RQ [.cell 2 true 3, .t 3] (fun v g => Ext h g ∧ ∃ e a pg t, v = .tup [qi e a pg, vb t] ∧ re d = if t then some (e, a, pg) else none) .ret ⟨s5, g4.set h.length (.box [vi .i64 e3, vi .i64 a3, vi .i64 p3] false)⟩ := by
    intro s5 k0 k2 k3 hf
    refine Ys (id := h.length) k2 (List.getElem?_set_self (az q0')) rfl (by omega) ?_
    grind
  cases t3 with
  | false =>
    simp only [go_sem, seval, hs, L2, s2]
    refine fin1 _ t1 (by simp only [ah, hs]) (by simp_all) (by simp only [go_sem, seval, hs]) ?_
    exact sv y1 y3 (by cases t1 <;> rfl)
  | true =>
    cases t1 with
    | false =>
      simp only [go_sem, seval, hs, L4, s4]
      refine fin3 _ (by simp_all) (by simp_all) (by simp_all) ?_
      exact sv y1 y3 rfl
    | true =>
      have hr : ((e1 : Int) < (e3 : Int)) = (e1 < e3) := by grind
      by_cases c : e1 < e3
      · simp only [go_sem, seval, hs, l2, l4, gt_iff_lt, hr, c, L4, s4]
        refine fin3 _ (by simp_all) (by simp_all) (by simp only [go_sem, seval, hs]) ?_
        exact sv y1 y3 (by simp [Ya, c])
      · simp only [go_sem, seval, hs, l2, l4, gt_iff_lt, hr, c, L2, s2]
        refine fin1 _ true (by simp_all) (by simp_all) (by simp only [go_sem, seval, hs]) ?_
        exact sv y1 y3 (by simp [Ya, c])
open Go Go.Vm
def lq (n a : Nat) : Nat := 2 + (bk n).1 + a * (bk n).2 * 4
theorem Ii {h : ae} {p : Nat} {f l : Option Nat} {d : D} (hD : dq h p f l d) (hO : d.OK) {a : Nat} (ha : a <= 1) : call F 60 [dI p, vi .i64 a] h = some (.ret (vi .i64 (lq d.firm.length a : Nat)), h) := by
 have : ∃ v h', call F 60 [dI p, vi .i64 a] h = some (.ret v, h') /\ (fun v h' => v = vi .i64 (lq d.firm.length a : Nat) /\ h' = h) v h' := by
  refine bc (fn := f60) rfl ?_
  simp only [f60]
  generalize hs0 : ([dI p, vi .i64 a] ++ List.replicate _ VV.undef : List VV) = s
  have hs : s.length = 20 := by grind
  have h0 : s.getD 0 .undef = dI p := by grind
  have h1 : s.getD 1 .undef = vi .i64 a := by grind
  clear hs0
  have hn : d.firm.length <= 4096 := hO.n
  have hp := iz hn
  obtain ⟨v3, g3, n3, w3, y3, rfl⟩ := ub (n := (d.firm.length : Int)) (by omega) (by omega)
  have eN : ((d.firm.length : Int)).toNat = d.firm.length := rfl
  rw [eN] at y3
  simp only [go_sem, seval, hs, h0]
  refine tr (t := 23) (u := .ptr p 0) (f := 29) (by simp only [go_sem, seval, hs, h0]) rfl (by simp only [List.map, go_sem, seval, hs]; exact rj hD) ?_
  simp only [go_sem, seval, hs]
  refine ap (h1 := h) (by simp only [List.map, go_sem, seval, hs]; rfl) n3 y3 ?_
  have hm : a * (bk d.firm.length).2 <= 1 * (bk d.firm.length).2 := Nat.mul_le_mul_right _ ha
  have w1 : IntKind.i64.wrap (2 + ((bk d.firm.length).1 : Int)) = ((2 + (bk d.firm.length).1 : Nat) : Int) := by rw [IntWalk.i64_in _ (by omega)]; omega
  have w2 : IntKind.i64.wrap ((a : Int) * ((bk d.firm.length).2 : Int)) = ((a * (bk d.firm.length).2 : Nat) : Int) := by
   rw [<- Int.natCast_mul, IntWalk.i64_in _ (by omega)]
  have w3 : IntKind.i64.wrap (((a * (bk d.firm.length).2 : Nat) : Int) * 4) = ((a * (bk d.firm.length).2 * 4 : Nat) : Int) := by rw [IntWalk.i64_in _ (by omega)]; omega
  have w4 : IntKind.i64.wrap (((2 + (bk d.firm.length).1 : Nat) : Int) + ((a * (bk d.firm.length).2 * 4 : Nat) : Int)) = ((lq d.firm.length a : Nat) : Int) := by
   unfold lq
   rw [IntWalk.i64_in _ (by omega)]; omega
  simp only [go_sem, seval, hs, h1, w1, w2, w3, w4]
  grind
 grind
def ej (n : Nat) (l : List KV) : Option (List (List UInt8)) := match dl l with
 | some pg => if pg.length <= (bk n).2 then some pg else none
 | none => none
theorem vn {h : ae} {p : Nat} {f l : Option Nat} {d : D} (hD : dq h p f l d) (hO : d.OK) {u : VV} {els : List (List CV)} {rows : List KV} (hS : SlV 2 els u) (hR : RowsE els rows) (hl : rows.length ≤ 9223372036854775807) :
    ∃ x t, call F 33 [dI p, u] h = some (.ret (.tup [x, vb t]), h) ∧ (match ej d.firm.length rows with
      | some pg => t = true ∧ ∃ elsP, SlV 1 elsP x ∧ PgE elsP pg
      | none => t = false) := by
  have : ∃ v h', call F 33 [dI p, u] h = some (.ret v, h') ∧ (fun v h' => h' = h ∧ ∃ x t, v = .tup [x, vb t] ∧ (match ej d.firm.length rows with
      | some pg => t = true ∧ ∃ elsP, SlV 1 elsP x ∧ PgE elsP pg
      | none => t = false)) v h' := by
    refine bc (fn := f33) rfl ?_
    simp only [f33]
    generalize hs0 : ([dI p, u] ++ List.replicate _ VV.undef : List VV) = s
    have hs : s.length = 29 := by grind
    have h0 : s.getD 0 .undef = dI p := by grind
    have h1 : s.getD 1 .undef = u := by grind
    clear hs0
    have hn : d.firm.length ≤ 4096 := hO.n
    obtain ⟨v3, g3, n3, w3, y3, rfl⟩ := ub (n := (d.firm.length : Int)) (by omega) (by omega)
    have eN : ((d.firm.length : Int)).toNat = d.firm.length := rfl
    rw [eN] at y3
    obtain ⟨v4, g4, n4, w4, y4, B⟩ := Ef hS hR hl
    simp only [go_sem, seval, hs, h0]
    refine tr (t := 23) (u := .ptr p 0) (f := 29) (by simp only [go_sem, seval, hs, h0]) rfl (by simp only [List.map, go_sem, seval, hs]; exact rj hD) ?_
    simp only [go_sem, seval, hs]
    refine ap (h1 := h) (by simp only [List.map, go_sem, seval, hs]; rfl) n3 y3 ?_
    have hcl : cf h [u] = some ([u], h) := by rcases hS with ⟨rfl, _⟩ | ⟨ex, rfl⟩ <;> rfl
    simp only [go_sem, seval, hs, h1]
    refine ap (h1 := h) (by simp only [List.map, go_sem, seval, hs, h1]; exact hcl) n4 y4 ?_
    unfold ej
    cases hb : dl rows with
    | none =>
      rw [hb] at B
      have B : w4 = .tup [ct, vb false] := B
      subst B
      simp only [go_sem, seval, hs]
      grind
    | some pg =>
      rw [hb] at B
      obtain ⟨x, elsP, rfl, S4, E4⟩ := B
      have hlen : elsP.length = pg.length := E4.len
      have hr : ((pg.length : Int) ≤ ((bk d.firm.length).2 : Int)) = (pg.length ≤ (bk d.firm.length).2) := by grind
      simp only [go_sem, seval, hs, S4.ln, hlen, hr]
      grind
  grind
open Go Go.Vm
theorem ako {d : Option Nat} {r : List Op1} {s : List VV} {h : ae} {Q : Pst} {z by_ : Nat} {zero : List CV} {x y : Opd} {n : Nat} (hx : ad s x = ct) (hy : ad s y = vi .i64 n) (h0 : 0 < n) (h1 : n * by_ <= 35184372088832) (h2 : n <= 35184372088832)
  (hk : XO F r ⟨df s d (.own h.length 0 0 n false), h ++ [.arr z (List.replicate n zero) 0 false]⟩ Q) : XO F (⟨none, d, .apz z by_ zero x y⟩ :: r) ⟨s, h⟩ Q := by
 have hm : (cz : Int) = 35184372088832 := rfl
 have e : ai h (ad s) (.apz z by_ zero x y) = some (.own h.length 0 0 n false, h ++ [.arr z (List.replicate n zero) 0 false]) := by
  have c1 : (0 : Int) < (n : Int) := by omega
  have c2 : (n : Int) * (by_ : Int) <= 35184372088832 := by omega
  have c3 : (n : Int) <= 35184372088832 := by omega
  simp only [ai, hx, hy, qg, hm, c1, c2, c3, and_self, if_true, Int.toNat_natCast]
 exact (uy rfl e).2 hk
theorem aa9 {n : Nat} (hn : n <= 1000000000) (h : ae) : Ret F 80 [ct, vi .i64 n] h fun v g => PB h g 1 [] v := by
 refine bc (fn := f80) rfl ?_
 simp only [f80]
 generalize hs0 : ([ct, vi .i64 n] ++ List.replicate _ VV.undef : List VV) = s
 have hs : s.length = 27 := by grind
 have h0 : s.getD 0 .undef = ct := by grind
 have h1 : s.getD 1 .undef = vi .i64 n := by grind
 clear hs0
 have c0 : ¬ ((n : Int) < 0) := by omega
 have w1 : IntKind.i64.wrap (n : Int) = (n : Int) := IntWalk.i64_in _ (by omega)
 have w2 : (n : Int) - 0 = (n : Int) := by omega
 have w0 : IntKind.i64.wrap ((0 : Int) - 0) = 0 := by decide
 have cp : ∀ {g : ae} {s2 : List VV} {x : Opd}, ad s2 x = ct -> ai g (ad s2) (.cap x) = some (vi .i64 0, g) := fun e => by simp [ai, e]
 simp only [go_sem, seval, hs]
 rw [bi f80_0.eq_1]
 simp only [go_sem, seval, hs, h0, h1, c0]
 refine (uy (v := vi .i64 0) rfl (cp (by simp only [go_sem, seval, hs]))).2 ?_
 simp only [go_sem, Nat.reduceLT, Nat.reduceEqDiff, reduceCtorEq, Int.reduceLT, Int.reduceEq, hs, h0, h1, w0, w1, w2]
 by_cases c : 0 < n
 ·have c' : (0 : Int) < (n : Int) := by omega
  simp only [go_sem, Nat.reduceLT, Nat.reduceEqDiff, reduceCtorEq, Int.reduceLT, Int.reduceEq, hs, h0, gt_iff_lt, c']
  refine (uy (v := vi .i64 0) rfl (cp (by simp only [go_sem, seval, hs]))).2 ?_
  have s1 : slO h 1 ct none (some (vi .i64 0)) none = some (ct, h) := by rfl
  simp only [go_sem, seval, hs, h0, s1]
  refine ako (n := n) (by simp only [go_sem, seval, hs]) (by simp only [go_sem, seval, hs]) c (by omega) (by omega) ?_
  have s2 : slO (h ++ [VO.arr 1 (List.replicate n [CV.sc (.int .u8 0)]) 0 false]) 1 (.own h.length 0 0 n false) none (some (vi .i64 0)) none = some (.own h.length 0 0 0 false, h ++ [VO.arr 1 (List.replicate n [CV.sc (.int .u8 0)]) 0 false]) := by
   simp [slO, ai, mi, lz, bnd, qg, bp]
  simp only [go_sem, Nat.reduceLT, Nat.reduceEqDiff, reduceCtorEq, Int.reduceLT, Int.reduceEq, hs, h0, s2]
  exact ⟨HExt.push _ _, .inr (.inr ⟨h.length, 0, _, Nat.le_refl _, rfl, bp, Nat.zero_le _, rfl⟩)⟩
 ·have c' : ¬ (0 : Int) < (n : Int) := by omega
  simp only [go_sem, Nat.reduceLT, Nat.reduceEqDiff, reduceCtorEq, Int.reduceLT, Int.reduceEq, hs, h0, gt_iff_lt, c']
  exact ⟨HExt.refl _, .inl ⟨rfl, rfl⟩⟩
section
variable {u : VV} {ep : List (List CV)} {pg : List (List UInt8)}
theorem f61_loop1 (hp : PgE ep pg) (hu : SlV 1 ep u) (hn : pg.length <= 100000) (hb : ∀ b ∈ pg, b.length <= 1000) : ∀ (r i m : Nat) (s : List VV) (h : ae) (Q : Pst), i + r = pg.length -> m <= 1000 * i -> m = (pg.take i).flatten.length -> s.length = 36 -> s.getD 0 .undef = u -> s.getD 3 .undef = vi .i64 m ->
  s.getD 9 .undef = u -> s.getD 10 .undef = vi .i64 pg.length -> s.getD 11 .undef = vi .i64 i ->
  (∀ s', s'.length = 36 -> s'.getD 0 .undef = u -> s'.getD 3 .undef = vi .i64 pg.flatten.length -> Q (.exit 0) ⟨s', h⟩) -> X F (.loop f61_1) ⟨s, h⟩ Q := by
 intro r
 induction r with
 | zero =>
  intro i m s h Q hi hm hm2 hs e0 e3 e9 e10 e11 hQ
  have c : ¬ ((i : Nat) : Int) < (pg.length : Int) := by omega
  rw [ba, bi f61_1.eq_1]
  simp only [go_sem, seval, hs, e11, e10, c]
  rw [bi f61_0.eq_1]
  simp only [go_sem, seval, hs]
  grind
 | succ r ih =>
  intro i m s h Q hi hm hm2 hs e0 e3 e9 e10 e11 hQ
  have c : ((i : Nat) : Int) < (pg.length : Int) := by omega
  obtain ⟨ca, b, a1, a2, a3⟩ := hp.get (i := i) (by omega)
  have hbl : b.length <= 1000 := hb b (List.mem_of_getElem? a2)
  have ia : iaO h 1 u (vi .i64 (i : Int)) = some (.rptr [ca], h) := hu.ia (by omega) (by grind)
  have la : ldO h false 1 (.rptr [ca]) = some (.cv ca, h) := ij
  have hwr : IntKind.i64.wrap ((i : Int) + 1) = ((i + 1 : Nat) : Int) := by rw [IntWalk.i64_in _ (by omega)]; omega
  have hws : IntKind.i64.wrap ((m : Int) + (b.length : Int)) = ((m + b.length : Nat) : Int) := by rw [IntWalk.i64_in _ (by omega)]; omega
  have c2 : ¬ (((m + b.length : Nat) : Int) < 0) := by omega
  rw [ba, bi f61_1.eq_1]
  simp only [go_sem, seval, hs, e11, e10, c]
  rw [bi f61_0.eq_1]
  simp only [go_sem, seval, hs, e9, e11, ia, la, e3, a3.ln, ax, hws, c2, hwr]
  refine ih (i + 1) (m + b.length) _ _ Q (by omega) (by omega) ?_ (by simp only [ah, hs]) (by simp only [go_sem, seval, hs, e0]) (by simp only [go_sem, seval, hs]) (by simp only [go_sem, seval, hs, e9]) (by simp only [go_sem, seval, hs, e10]) (by simp only [go_sem, seval, hs]) hQ
  obtain ⟨hlt, rfl⟩ := List.getElem?_eq_some_iff.1 a2
  rw [List.take_succ_eq_append_getElem hlt, List.flatten_append, List.length_append, <- hm2]
  simp
theorem f61_loop2 (hp : PgE ep pg) (hu : SlV 1 ep u) (hn : pg.length <= 100000) (hb : ∀ b ∈ pg, b.length <= 1000) {h0 : ae} : ∀ (r i : Nat) (v : VV) (s : List VV) (h : ae) (Q : Pst), i + r = pg.length -> (pg.take i).flatten.length <= 1000 * i -> PB h0 h 1 (eB (pg.take i).flatten) v -> s.length = 36 -> s.getD 6 .undef = v ->
  s.getD 25 .undef = u -> s.getD 26 .undef = vi .i64 pg.length -> s.getD 27 .undef = vi .i64 i ->
  (∀ s' h' v', s'.length = 36 -> s'.getD 6 .undef = v' -> PB h0 h' 1 (eB pg.flatten) v' -> Q (.exit 2) ⟨s', h'⟩) -> X F (.loop f61_3) ⟨s, h⟩ Q := by
 intro r
 induction r with
 | zero =>
  intro i v s h Q hi hm hB hs e6 e25 e26 e27 hQ
  have c : ¬ ((i : Nat) : Int) < (pg.length : Int) := by omega
  rw [ba, bi f61_3.eq_1]
  simp only [go_sem, seval, hs, e26, e27, c]
  rw [bi f61_2.eq_1]
  simp only [go_sem, seval, hs]
  grind
 | succ r ih =>
  intro i v s h Q hi hm hB hs e6 e25 e26 e27 hQ
  have c : ((i : Nat) : Int) < (pg.length : Int) := by omega
  obtain ⟨ca, b, a1, a2, a3⟩ := hp.get (i := i) (by omega)
  have hbl : b.length <= 1000 := hb b (List.mem_of_getElem? a2)
  have ia : iaO h 1 u (vi .i64 (i : Int)) = some (.rptr [ca], h) := hu.ia (by omega) (by grind)
  have la : ldO h false 1 (.rptr [ca]) = some (.cv ca, h) := ij
  have hwr : IntKind.i64.wrap ((i : Int) + 1) = ((i + 1 : Nat) : Int) := by rw [IntWalk.i64_in _ (by omega)]; omega
  obtain ⟨hlt, hbe⟩ := List.getElem?_eq_some_iff.1 a2
  have htk : (pg.take (i + 1)).flatten = (pg.take i).flatten ++ b := by
   rw [List.take_succ_eq_append_getElem hlt, List.flatten_append, hbe]; simp
  rw [ba, bi f61_3.eq_1]
  simp only [go_sem, seval, hs, e26, e27, c]
  rw [bi f61_2.eq_1]
  simp only [go_sem, seval, hs, e25, e27, ia, la, e6]
  refine Hg hB (new := eB b) (by simp only [go_sem, seval, hs, e6]) (by simp only [go_sem, seval, hs]; exact a3.src) (by rw [ax, ax]; omega) (by rw [ax, ax]; omega) (fun v' h' hB' _ _ => ?_)
  rw [<- im, <- htk] at hB'
  simp only [go_sem, seval, hs, e27, hwr]
  refine ih (i + 1) v' _ _ Q (by omega) (by grind) hB' (by simp only [ah, hs]) (by simp only [go_sem, seval, hs]) (by simp only [go_sem, seval, hs, e25]) (by simp only [go_sem, seval, hs, e26]) (by simp only [go_sem, seval, hs]) hQ
theorem Ea (hp : PgE ep pg) (hu : SlV 1 ep u) (hn : pg.length <= 100000) (hb : ∀ b ∈ pg, b.length <= 1000) : Er F 61 [u] (SlV 1 (eB pg.flatten)) := by
 have : Ret F 61 [u] [] fun v g => PB [] g 1 (eB pg.flatten) v := by
  refine bc (fn := f61) rfl ?_
  simp only [f61]
  generalize hs0 : ([u] ++ List.replicate _ VV.undef : List VV) = s
  have hs : s.length = 36 := by grind
  have h0 : s.getD 0 .undef = u := by grind
  clear hs0
  have hpl := hp.len
  have hfl : pg.flatten.length <= 1000 * pg.length := by
   clear hs h0 hpl hp hn
   induction pg with
   | nil => simp
   | cons b l ih =>
    grind
  simp only [go_sem, Nat.reduceLT, Nat.reduceEqDiff, reduceCtorEq, Int.reduceLT, Int.reduceEq, hs, h0, hu.ln, hpl]
  refine f61_loop1 hp hu hn hb pg.length 0 0 _ _ _ (by omega) (by omega) (by simp) (by grind) (by grind) (by grind) (by grind) (by grind) (by grind) (fun s1 hs1 k0 k3 => ?_)
  obtain ⟨v6, g6, n6, B6⟩ := aa9 (n := pg.flatten.length) (by omega) []
  simp only [go_sem, seval, hs1, k3]
  refine ao (by simp only [List.map, go_sem, seval, hs1]; exact n6) ?_
  simp only [go_sem, Nat.reduceLT, Nat.reduceEqDiff, reduceCtorEq, Int.reduceLT, Int.reduceEq, hs1, k0, hu.ln, hpl]
  refine f61_loop2 hp hu hn hb pg.length 0 v6 _ _ _ (by omega) (by simp) (by simpa [eB] using B6) (by grind) (by grind) (by grind) (by grind) (by grind) (fun s2 h2 v2 hs2 k6 B2 => ?_)
  simp only [go_sem, seval, hs2, k6]
  exact B2
 obtain ⟨v, g, n1, B⟩ := this
 refine ⟨v, g, n1, ?_⟩
 rcases B.v with ⟨e, rfl⟩ | ⟨e, rfl⟩ | ⟨id, gg, full, _, rfl, a2, a3, a4⟩
 ·exact ⟨_, rfl, .inl ⟨rfl, e⟩⟩
 ·exact ⟨_, rfl, .inr ⟨true, by rw [e]⟩⟩
 ·refine ⟨.cv (.sl 1 (eB pg.flatten) false), ?_, .inr ⟨false, rfl⟩⟩
  have : gc g (.own id gg 0 (eB pg.flatten).length false) = some (.cv (.sl 1 (eB pg.flatten) false), g.set id (.arr 1 full gg true)) := by
   simp only [gc, Go.Vm.clos, a2, Nat.zero_add, a3, and_self, if_true, List.drop_zero]
   rw [<- a4]
  simp only [au, this, Option.map]
end
open Go Go.Vm
def Cn (d : D) (from_ n : Nat) : List (List UInt8) := (List.range n).map fun i => d.cell (from_ + i)
theorem alk {h h' : ae} {c : CV} {id len : Nat} {zero : VV} (hc : clos h (.ob id 0 len 1 true) = some (c, h')) : mkO h 1 1 [zero] [(0, 1, .ob id 0 len 1 true)] = some (.cv (.sl 1 [[c]] true), h') := by
 have e1 : fill [zero] [(0, 1, .ob id 0 len 1 true)] = some [.ob id 0 len 1 true] := by simp [fill, cellsOf, am]
 simp only [mkO, e1, vr, hc]
 rfl
theorem f38_loop {h0 : ae} {p : Nat} {f l : Option Nat} {d : D} (hD : dq h0 p f l d) (hO : d.OK) {from_ n : Nat} (hn : from_ + n <= d.firm.length) : ∀ (r i : Nat) (els : List (List CV)) (v : VV) (s : List VV) (h : ae) (Q : Pst), i + r = n -> NB h0 h 1 els v -> PgE els (Cn d from_ i) -> s.length = 29 -> s.getD 0 .undef = dI p -> s.getD 1 .undef = vi .i64 from_ ->
  s.getD 7 .undef = v -> s.getD 11 .undef = vi .i64 n -> s.getD 12 .undef = vi .i64 i ->
  (∀ s' h' els' v', s'.length = 29 -> s'.getD 7 .undef = v' -> NB h0 h' 1 els' v' -> PgE els' (Cn d from_ n) -> Q (.exit 0) ⟨s', h'⟩) -> X F (.loop f38_1) ⟨s, h⟩ Q := by
 intro r
 have hnn := hO.n
 induction r with
 | zero =>
  intro i els v s h Q hi hB hE hs e0 e1 e7 e11 e12 hQ
  have c : ¬ ((i : Nat) : Int) < (n : Int) := by omega
  obtain rfl : i = n := by omega
  rw [ba, bi f38_1.eq_1]
  simp only [go_sem, seval, hs, e11, e12, c]
  rw [bi f38_0.eq_1]
  simp only [go_sem, seval, hs]
  grind
 | succ r ih =>
  intro i els v s h Q hi hB hE hs e0 e1 e7 e11 e12 hQ
  have c : ((i : Nat) : Int) < (n : Int) := by omega
  have hx : Ext h0 h := HExt.ext hB.ext
  have hh : d.has ((from_ + i : Nat) : Int) = true := by unfold D.has; simp; omega
  have h64 := Ms hO (i := from_ + i) (by omega)
  obtain ⟨v2, g2, c2, r2⟩ := Il (hD.ext hx) hO ((from_ + i : Nat) : Int)
  obtain ⟨o, rfl, id, rfl, hb2⟩ := r2.yes hh
  have hid := r2.new _ _ _ _ _ _ rfl
  have ei : (((from_ + i : Nat) : Int)).toNat = from_ + i := rfl
  rw [ei] at hb2 c2
  obtain ⟨g3, cl3, x3, k3⟩ := Wh r2.ext hid hb2
  have w1 : IntKind.i64.wrap ((from_ : Int) + (i : Int)) = ((from_ + i : Nat) : Int) := by rw [IntWalk.i64_in _ (by omega)]; omega
  have hwr : IntKind.i64.wrap ((i : Int) + 1) = ((i + 1 : Nat) : Int) := by rw [IntWalk.i64_in _ (by omega)]; omega
  rw [ba, bi f38_1.eq_1]
  simp only [go_sem, seval, hs, e11, e12, c]
  rw [bi f38_0.eq_1]
  simp only [go_sem, seval, hs, e0, e1, e12, w1]
  refine tr (t := 23) (u := .ptr p 0) (f := 119) (by simp only [go_sem, seval, hs, e0]) rfl (by simp only [List.map, go_sem, seval, hs]; exact c2) ?_
  have mk := alk (zero := ct) cl3
  simp only [go_sem, seval, hs, e7, mk]
  have hB3 := hB.then x3.hext
  have hel := hE.len
  have hsl : (Cn d from_ i).length = i := by unfold Cn; simp
  refine nl hB3 (new := [[.sl 1 (eB (d.cell (from_ + i))) true]]) (by simp only [go_sem, seval, hs, e7]) (by simp only [go_sem, seval, hs]) (by grind) (by grind) (fun v' h' hB' _ _ _ => ?_)
  simp only [go_sem, seval, hs, e12, hwr]
  have hsec : Cn d from_ (i + 1) = Cn d from_ i ++ [d.cell (from_ + i)] := by unfold Cn; rw [List.range_succ, List.map_append]; rfl
  exact ih (i + 1) _ v' _ _ Q (by omega) hB' (by rw [hsec]; exact hE.snoc (.inr ⟨true, rfl⟩)) (by simp only [ah, hs]) (by simp only [go_sem, seval, hs, e0]) (by simp only [go_sem, seval, hs, e1]) (by simp only [go_sem, seval, hs]) (by simp only [go_sem, seval, hs, e11]) (by simp only [go_sem, seval, hs]) hQ
theorem Oq {h : ae} {p : Nat} {f l : Option Nat} {d : D} (hD : dq h p f l d) (hO : d.OK) {from_ n : Nat} (hn : from_ + n <= d.firm.length) : Ret F 38 [dI p, vi .i64 from_, vi .i64 n] h fun v g => ∃ els, NB h g 1 els v /\ PgE els (Cn d from_ n) := by
 refine bc (fn := f38) rfl ?_
 simp only [f38]
 generalize hs0 : ([dI p, vi .i64 from_, vi .i64 n] ++ List.replicate _ VV.undef : List VV) = s
 have hs : s.length = 29 := by grind
 have h0 : s.getD 0 .undef = dI p := by grind
 have h1 : s.getD 1 .undef = vi .i64 from_ := by grind
 have h2 : s.getD 2 .undef = vi .i64 n := by grind
 clear hs0
 simp only [go_sem, Nat.reduceLT, Nat.reduceEqDiff, reduceCtorEq, Int.reduceLT, Int.reduceEq, hs, h2]
 refine f38_loop hD hO hn n 0 [] ct _ _ _ (by omega) (NB.nil _ _) .nil (by grind) (by grind) (by grind) (by grind) (by grind) (by grind) (fun s' h' els' v' hs' k7 B E => ?_)
 simp only [go_sem, seval, hs', k7]
 grind
open Go Go.Vm
theorem Ik {u : VV} (cu : en u = true) {k : Nat} (hk : 1 <= k) (h : ae) : call F 45 [u, vi .i64 k] h = some (.ret (.func 73 [.ptr h.length 0, .ptr (h.length + 1) 0]), h ++ [VO.box [u] false, .box [vi .i64 k] false]) := by
 have : Ret F 45 [u, vi .i64 k] h fun v g => v = .func 73 [.ptr h.length 0, .ptr (h.length + 1) 0] /\ g = h ++ [VO.box [u] false, .box [vi .i64 k] false] := by
  refine bc (fn := f45) rfl ?_
  simp only [f45]
  generalize hs0 : ([u, vi .i64 k] ++ List.replicate _ VV.undef : List VV) = s
  have hs : s.length = 9 := by grind
  have h0 : s.getD 0 .undef = u := by grind
  have h1 : s.getD 1 .undef = vi .i64 k := by grind
  clear hs0
  simp only [go_sem, seval, hs, h0]
  rw [Yj cu]
  simp only [go_sem, seval, hs, h1]
  rw [Yj rfl]
  simp only [go_sem, seval, hs, List.append_assoc, List.singleton_append, List.length_append, List.length_singleton]
  have q1 : (h ++ [VO.box [u] false, VO.box [vi .i64 k] false])[h.length + 1]? = some (.box [vi .i64 k] false) := by simp
  have l1 := iu q1
  have c : ¬ (k : Int) < 1 := by omega
  rw [bi f45_0.eq_1]
  simp only [go_sem, seval, hs, l1, c, List.map]
  grind
 obtain ⟨v, h', e1, rfl, rfl⟩ := this
 exact e1
theorem Va {k : Nat} (hk : 0 < k) : ∀ (n1 n2 : Nat) (l : List UInt8), l.length <= n1 -> l.length <= n2 -> ma k n1 l = ma k n2 l := by
 intro n1
 induction n1 with
 | zero =>
  intro n2 l h1 h2
  have : l = [] := List.eq_nil_of_length_eq_zero (by omega)
  subst this
  cases n2 <;> simp [ma]
 | succ n1 ih1 =>
  intro n2 l h1 h2
  by_cases hl : l = []
  ·grind
  ·cases n2 with
   | zero => grind
   | succ n2 =>
    have : 0 < l.length := List.length_pos_iff.2 hl
    rw [ma, if_neg hl, ma, if_neg hl, ih1 n2 _ (by grind) (by grind)]
section
variable {N k id : Nat} {b : List UInt8} {u : VV} {I : List (List UInt8) -> ae -> Prop}
theorem f73_any (hk : 0 < k) (hk2 : k <= 1000000) (hu : SlV 1 (eB b) u) (hbl : b.length <= 1000000000)
  (hI : ∀ ps g, I ps g -> g[N]? = some (.box [u] false) /\ g[N + 1]? = some (.box [vi .i64 k] false))
  (hstep : ∀ (ps : List (List UInt8)) (x : List UInt8) (rest : List (List UInt8)) (g : ae) (c : CV), ps ++ x :: rest = pcs k b -> I ps g -> SlV 1 (eB x) (.cv c) -> ∃ g', call F (YB + id) [.cv c] g = some (.ret (vb true), g') /\ I (ps ++ [x]) g') :
  ∀ (m i : Nat) (ps : List (List UInt8)) (s : List VV) (g : ae) (Q : Pst), i + m = b.length -> I ps g -> ps ++ ma k m (b.drop i) = pcs k b ->
   s.length = 31 -> s.getD 0 .undef = .yield id -> s.getD 1 .undef = .ptr N 0 -> s.getD 2 .undef = .ptr (N + 1) 0 -> s.getD 4 .undef = vi .i64 i ->
   (∀ s' g', s'.length = 31 -> I (pcs k b) g' -> Q (.exit 0) ⟨s', g'⟩) -> X F (.loop f73_0) ⟨s, g⟩ Q := by
 intro m
 induction m using Nat.strongRecOn with
 | _ m ih =>
  intro i ps s g Q hi hJ hP hs e0 e1 e2 e4 hQ
  obtain ⟨hN, hN1⟩ := hI ps g hJ
  by_cases hm : m = 0
  ·subst hm
   have c : ¬ ((i : Nat) : Int) < (b.length : Int) := by omega
   simp only [ma, List.append_nil] at hP
   subst hP
   rw [ba, bi f73_0.eq_1]
   simp only [go_sem, seval, hs, e4, e1, iu hN, hu.ln, ax, c]
   grind
  ·have c : ((i : Nat) : Int) < (b.length : Int) := by omega
   obtain ⟨m', rfl⟩ : ∃ m', m = m' + 1 := ⟨m - 1, by omega⟩
   obtain ⟨w1, w1a, w1b⟩ := hu.from_ (h := g) (k := .i64) (a := (i : Int)) (by omega) (by rw [ax]; omega)
   rw [Int.toNat_natCast, Xq] at w1a
   have hln := w1a.ln
   rw [ax, List.length_drop] at hln
   have hmn : min (k : Int) ((b.length - i : Nat) : Int) = ((min k (b.length - i) : Nat) : Int) := by omega
   have hend : IntKind.i64.wrap ((i : Int) + ((min k (b.length - i) : Nat) : Int)) = ((i + min k (b.length - i) : Nat) : Int) := by rw [IntWalk.i64_in _ (by omega)]; omega
   have hnx : IntKind.i64.wrap ((i : Int) + (k : Int)) = ((i + k : Nat) : Int) := by rw [IntWalk.i64_in _ (by omega)]; omega
   obtain ⟨w2, w2a, w2b⟩ := ajf (h := g) hu (k1 := .i64) (k2 := .i64) (k3 := .i64) (a := i) (b := i + min k (b.length - i)) (by omega) (by rw [ax]; omega)
   rw [Hn, Nat.add_sub_cancel_left] at w2a
   have htk : (b.drop i).take (min k (b.length - i)) = (b.drop i).take k := by
    rw [List.take_eq_take_iff, List.length_drop]; omega
   rw [htk] at w2a
   obtain ⟨c2, rfl⟩ : ∃ c2, w2 = .cv c2 := by rcases w2a with ⟨rfl, _⟩ | ⟨ex, rfl⟩ <;> exact ⟨_, rfl⟩
   have hne : b.drop i ≠ [] := by
    simp_all
   have hpc : ma k (m' + 1) (b.drop i) = (b.drop i).take k :: ma k m' ((b.drop i).drop k) := by
    rw [ma, if_neg hne]
   rw [hpc] at hP
   obtain ⟨g2, n2, J2⟩ := hstep ps _ _ g c2 hP hJ w2a
   obtain ⟨hN2, hN12⟩ := hI _ g2 J2
   have hP2 : (ps ++ [(b.drop i).take k]) ++ ma k m' ((b.drop i).drop k) = pcs k b := by grind
   rw [ba, bi f73_0.eq_1]
   simp only [go_sem, seval, hs, e4, e1, iu hN, hu.ln, ax, c]
   refine nv rfl ?_
   simp only [go_sem, seval, hs, e4, e1, e2, iu hN, iu hN1, w1b, hln, hmn]
   simp only [go_sem, seval, hs, e4, e1, e0, iu hN, hend, w2b]
   refine Gz (id := id) (by simp only [go_sem, seval, hs]) (by simp only [List.map, go_sem, seval, hs]; exact n2) ?_
   simp only [go_sem, seval, hs, e4, e2, iu hN12, hnx]
   by_cases hlast : b.length <= i + k
   ·have hdk : (b.drop i).drop k = [] := by rw [List.drop_drop]; exact List.drop_eq_nil_of_le (by omega)
    have hnil : ∀ n, ma k n ([] : List UInt8) = [] := fun n => by cases n <;> simp [ma]
    have c9 : ¬ ((i + k : Nat) : Int) < (b.length : Int) := by omega
    rw [hdk, hnil, List.append_nil] at hP2
    rw [ba, bi f73_0.eq_1]
    simp only [go_sem, seval, hs, e1, iu hN2, hu.ln, ax, c9]
    exact hQ _ g2 (by simp only [ah, hs]) (by grind)
   ·refine ih (m' + 1 - k) (by omega) (i + k) _ _ _ Q (by omega) J2 ?_ (by simp_all) (by simp_all) (by simp_all) (by simp_all) (by simp_all) hQ
    rw [<- hP2, List.drop_drop]
    congr 1
    exact Va hk _ _ _ (by grind) (by grind)
theorem On (hk : 0 < k) (hk2 : k <= 1000000) (hu : SlV 1 (eB b) u) (hbl : b.length <= 1000000000)
  (hI : ∀ ps g, I ps g -> g[N]? = some (.box [u] false) /\ g[N + 1]? = some (.box [vi .i64 k] false))
  (hstep : ∀ (ps : List (List UInt8)) (x : List UInt8) (rest : List (List UInt8)) (g : ae) (c : CV), ps ++ x :: rest = pcs k b -> I ps g -> SlV 1 (eB x) (.cv c) -> ∃ g', call F (YB + id) [.cv c] g = some (.ret (vb true), g') /\ I (ps ++ [x]) g')
  {g : ae} (h0 : I [] g) : Ret F 73 [.yield id, .ptr N 0, .ptr (N + 1) 0] g fun v g' => I (pcs k b) g' := by
 have hI0 := h0
 refine bc (fn := f73) rfl ?_
 simp only [f73]
 generalize hs0 : ([.yield id, .ptr N 0, .ptr (N + 1) 0] ++ List.replicate _ VV.undef : List VV) = s
 have hs : s.length = 31 := by grind
 have h0 : s.getD 0 .undef = .yield id := by grind
 have h1 : s.getD 1 .undef = .ptr N 0 := by grind
 have h2 : s.getD 2 .undef = .ptr (N + 1) 0 := by grind
 clear hs0
 simp only [go_sem, Nat.reduceLT, Nat.reduceEqDiff, reduceCtorEq, Int.reduceLT, Int.reduceEq, hs]
 refine f73_any hk hk2 hu hbl hI hstep b.length 0 [] _ _ _ (by omega) hI0 (by simp [pcs]) (by grind) (by grind) (by grind) (by grind) (by grind) (fun s' g' b0 b1 => ?_)
 simp only [go_sem, seval, b0]
 exact b1
end
open Go Go.Vm
theorem Ca {h0 h : ae} {z : Nat} {els : List (List CV)} {v : VV} (b : NB h0 h z els v) {i : Nat} (hi : h0.length <= i) {o0 : VO} (hb : h[i]? = some o0) (hn : ∀ z e g fr, o0 ≠ .arr z e g fr) (o : VO) : NB h0 (h.set i o) z els v := by
 refine ⟨b.ext.set hi o, ?_⟩
 rcases b.v with x | ⟨id, g, a1, a3, a4⟩
 ·exact .inl x
 grind
structure Col (h : ae) (N : Nat) (s0 : List VV) (u : VV) (k : Nat) (ps : List (List UInt8)) (g : ae) : Prop where
 i0 : g[N]? = some (.box [u] false) /\ g[N + 1]? = some (.box [vi .i64 k] false)
 lp : g[N + 3]? = some (.loop [7] f72_0 f72_1 s0 .ready none)
 c : ∃ els va, g[N + 2]? = some (.box [va] false) /\ NB h g 1 els va /\ PgE els ps
theorem abf {h : ae} {N k : Nat} {s0 : List VV} (hs0 : s0.length = 13) (k2 : s0.getD 2 .undef = .ptr (N + 2) 0) {u : VV} (hN : h.length = N + 2) {ps : List (List UInt8)} {x : List UInt8} {g : ae} {c : CV} (hl : ps.length <= 1000000000) (J : Col h N s0 u k ps g) (hx : SlV 1 (eB x) (.cv c)) :
  ∃ g', call F (YB + (N + 3)) [.cv c] g = some (.ret (vb true), g') /\ Col h N s0 u k (ps ++ [x]) g' := by
 have key := Gs (F := F) (id := N + 3) (by cases h : F (YB + (N + 3)) with
  | none => rfl
  | some fn => have := tlt h; omega) (ps := [7]) (asg := f72_0) (body := f72_1) (s0 := s0) (a := [.cv c]) (h := g) (P := fun v g' => v = vb true /\ Col h N s0 u k (ps ++ [x]) g') J.lp rfl ?_
 ·grind
 obtain ⟨⟨j0, j1⟩, hp, els, va, hA, hB, hE⟩ := J
 have hset : tq s0 [7] [.cv c] = s0.set 7 (.cv c) := rfl
 rw [hset, bi f72_0.eq_1]
 simp only [go_sem, seval, hs0]
 refine ⟨rfl, none, hp, ?_⟩
 dsimp only
 have hp1 : (g.set (N + 3) (.loop [7] f72_0 f72_1 s0 .busy none))[N + 3]? = some (.loop [7] f72_0 f72_1 s0 .busy none) := List.getElem?_set_self (ev hp)
 have hA1 : (g.set (N + 3) (.loop [7] f72_0 f72_1 s0 .busy none))[N + 2]? = some (.box [va] false) := by grind
 have j01 : (g.set (N + 3) (.loop [7] f72_0 f72_1 s0 .busy none))[N]? = some (.box [u] false) := by grind
 have j11 : (g.set (N + 3) (.loop [7] f72_0 f72_1 s0 .busy none))[N + 1]? = some (.box [vi .i64 k] false) := by grind
 have hB1 : NB h (g.set (N + 3) (.loop [7] f72_0 f72_1 s0 .busy none)) 1 els va := Ca hB (by omega) hp (by grind) _
 generalize g.set (N + 3) (.loop [7] f72_0 f72_1 s0 .busy none) = g1 at hp1 hA1 hB1 j01 j11
 have m1 : ∀ h : ae, mkO h 1 1 [.cv (.sc (.slice none 0 0))] [(0, 1, .cv c)] = some (.cv (.sl 1 [[c]] true), h) := fun _ => rfl
 have hel := hE.len
 rw [bi f72_1.eq_1]
 simp only [go_sem, seval, hs0, k2, iu hA1, m1]
 refine nl hB1 (new := [[c]]) (by simp only [go_sem, seval, hs0]) (by simp only [go_sem, seval, hs0]) (by grind) (by grind) (fun va' g2 B2 hlen kn kb => ?_)
 have hA2 := kb _ _ _ hA1
 have j02 := kb _ _ _ j01
 have j12 := kb _ _ _ j11
 have hp2 : g2[N + 3]? = some (.loop [7] f72_0 f72_1 s0 .busy none) := by
  rw [kn _ (ev hp1) ?_]; exact hp1
  rintro gg l e rfl
  rcases hB1.v with ⟨_, e⟩ | ⟨id, g', _, e, a4⟩
  ·cases e
  grind
 have st2 := Af (v := va') B2.cell hA2 (show 0 < 1 by decide)
 simp only [List.set_cons_zero] at st2
 simp only [go_sem, seval, hs0, k2, st2]
 refine ⟨none, .busy, none, rfl, by grind, rfl, ⟨?_, ?_⟩, ?_, ⟨_, va', ?_, ?_, hE.snoc hx⟩⟩
 ·grind
 ·grind
 ·grind
 ·grind
 ·have b3 := B2.setBox (i := N + 2) (by omega) hA2 (.box [va'] false)
  exact Ca b3 (by omega) (by rw [List.getElem?_set_ne (by omega)]; exact hp2) (by grind) _
theorem Wa {k : Nat} {b : List UInt8} {ps : List (List UInt8)} {x : List UInt8} {rest : List (List UInt8)} (h : ps ++ x :: rest = pcs k b) : ps.length <= b.length := by
 have := Gk k b.length b
 have e := congrArg List.length h
 unfold pcs at e
 grind
theorem Rz {b : List UInt8} {u : VV} (hu : SlV 1 (eB b) u) (hbl : b.length <= 1000000000) {h : ae} {k N : Nat} (hk : 0 < k) (hk2 : k <= 1000000) (hN : h.length = N + 2) (hN1 : h[N]? = some (.box [u] false)) (hN2 : h[N + 1]? = some (.box [vi .i64 k] false)) :
  Ret F 44 [.func 73 [.ptr N 0, .ptr (N + 1) 0]] h fun v g => ∃ els, NB h g 1 els v /\ PgE els (pcs k b) := by
 have n55 : Ret F 72 [ct, .func 73 [.ptr N 0, .ptr (N + 1) 0]] h fun v g => ∃ els, NB h g 1 els v /\ PgE els (pcs k b) := by
  refine bc (fn := f72) rfl ?_
  simp only [f72]
  generalize hs0 : ([ct, .func 73 [.ptr N 0, .ptr (N + 1) 0]] ++ List.replicate _ VV.undef : List VV) = s
  have hs : s.length = 13 := by grind
  have h0 : s.getD 0 .undef = ct := by grind
  have h1 : s.getD 1 .undef = .func 73 [.ptr N 0, .ptr (N + 1) 0] := by grind
  clear hs0
  simp only [go_sem, seval, hs, h0]
  rw [Yj rfl]
  simp only [go_sem, seval, hs, h1, hN]
  generalize hs1 : ((s.set 2 (VV.ptr (N + 2) 0)).set 4 ct).set 6 (.func 73 [.ptr N 0, .ptr (N + 1) 0]) = s1
  have a0 : s1.length = 13 := by grind
  have a2 : s1.getD 2 .undef = .ptr (N + 2) 0 := by grind
  have a6 : s1.getD 6 .undef = .func 73 [.ptr N 0, .ptr (N + 1) 0] := by grind
  have gl : (h ++ [VO.box [ct] false]).length = N + 3 := by grind
  have g0 : (h ++ [VO.box [ct] false])[N]? = some (.box [u] false) := by grind
  have g1 : (h ++ [VO.box [ct] false])[N + 1]? = some (.box [vi .i64 k] false) := by grind
  have g2 : (h ++ [VO.box [ct] false])[N + 2]? = some (.box [ct] false) := by grind
  have x0 := HExt.push h (VO.box [ct] false)
  generalize h ++ [VO.box [ct] false] = g at gl g0 g1 g2 x0
  have p2 : ∀ (j : Nat) (o : VO), g[j]? = some o -> (g ++ [.loop [7] f72_0 f72_1 s1 .ready none])[j]? = some o := fun j o ho => by grind
  have hloop : (g ++ [.loop [7] f72_0 f72_1 s1 .ready none])[N + 3]? = some (.loop [7] f72_0 f72_1 s1 .ready none) := by grind
  have C0 : Col h N s1 u k [] (g ++ [.loop [7] f72_0 f72_1 s1 .ready none]) := ⟨⟨p2 _ _ g0, p2 _ _ g1⟩, hloop, [], ct, p2 _ _ g2, (NB.nil h 1).then (x0.trans (HExt.push _ _)), .nil⟩
  obtain ⟨v56, g3, n56, C⟩ := On (N := N) (id := N + 3) (I := Col h N s1 u k) hk hk2 hu hbl (fun ps g J => J.i0) (fun ps x rest g c e J hx => abf a0 a2 hN (by have := Wa e; omega) J hx) C0
  refine zg (f := 73) (caps := [.ptr N 0, .ptr (N + 1) 0]) (t := .ready) (p := none) a6 (by rw [gl]; exact n56) (by rw [gl]; exact C.lp) (by grind) ?_
  rw [gl]
  obtain ⟨els', va', c1, c2, c3⟩ := C.c
  have d1 : (g3.set (N + 3) (.loop [7] f72_0 f72_1 s1 .exhausted none))[N + 2]? = some (.box [va'] false) := by grind
  have d2 : NB h (g3.set (N + 3) (.loop [7] f72_0 f72_1 s1 .exhausted none)) 1 els' va' := Ca c2 (by omega) C.lp (by grind) _
  generalize g3.set (N + 3) (.loop [7] f72_0 f72_1 s1 .exhausted none) = g4 at d1 d2
  simp only [go_sem, seval, Mj, a0, a2, iu d1]
  grind
 obtain ⟨v, g, n1, P⟩ := n55
 refine bc (fn := f44) rfl ?_
 simp only [f44]
 generalize hs0 : ([.func 73 [.ptr N 0, .ptr (N + 1) 0]] ++ List.replicate _ VV.undef : List VV) = s
 have hs : s.length = 5 := by grind
 have h0 : s.getD 0 .undef = .func 73 [.ptr N 0, .ptr (N + 1) 0] := by grind
 clear hs0
 simp only [go_sem, seval, hs, h0]
 refine ao (by simp only [List.map, go_sem, seval, hs]; exact n1) ?_
 simp only [go_sem, seval, hs]
 exact P
theorem Mh {h0 h : ae} {z : Nat} {els : List (List CV)} {v : VV} (b : NB h0 h z els v) : ∃ w h1, gc h v = some (w, h1) /\ SlV z els w /\ HExt h0 h1 := by
 rcases b.v with ⟨rfl, rfl⟩ | ⟨id, g, hi, rfl, a4⟩
 ·exact ⟨ct, h, rfl, .inl ⟨rfl, rfl⟩, b.ext⟩
 ·exact ⟨.cv (.sl z els false), _, by simp [gc, Go.Vm.clos, a4]; rfl, .inr ⟨false, rfl⟩, b.ext.set hi _⟩
theorem Wr : ∀ (L : List (List UInt8)), (∀ b ∈ L, b.length = 64) -> L.flatten.length = 64 * L.length
 | [], _ => by simp
 | x :: L, h => by
  have h1 := h x List.mem_cons_self
  have h2 := Wr L fun y hy => h y (List.mem_cons_of_mem _ hy)
  grind
theorem No {k : Nat} : ∀ (m : Nat) (l : List UInt8) (b : List UInt8), b ∈ ma k m l -> b.length <= k
 | 0, _, _, h => by simp [ma] at h
 | m + 1, l, b, h => by
  unfold ma at h
  split at h
  ·simp at h
  ·rcases List.mem_cons.1 h with rfl | h
   ·grind
   ·exact No m _ b h
def Wn (d : D) (a pg : Nat) : List KV × Nat := wn (pcs 256 (Cn d (lq d.firm.length a) (pg * 4)).flatten)
theorem aal {h : ae} {p : Nat} {f l : Option Nat} {d : D} (hD : dq h p f l d) (hO : d.OK) {e a pg : Nat} (ha : a <= 1) (hpg : lq d.firm.length a + pg * 4 <= d.firm.length) :
  Ret F 36 [dI p, qi e a pg] h fun v g => Ext h g /\ ∃ x els, v = .tup [x, vi .u16 ((Wn d a pg).2 : Nat)] /\ SlV 2 els x /\ RowsE els (Wn d a pg).1 := by
 have hnn := hO.n
 refine bc (fn := f36) rfl ?_
 simp only [f36]
 generalize hs0 : ([dI p, qi e a pg] ++ List.replicate _ VV.undef : List VV) = s
 have hs : s.length = 23 := by grind
 have h0 : s.getD 0 .undef = dI p := by grind
 have h1 : s.getD 1 .undef = qi e a pg := by grind
 clear hs0
 simp only [go_sem, seval, hs, h1]
 rw [yn (show [vi .i64 e, vi .i64 a, vi .i64 pg].length = 3 from rfl)]
 simp only [go_sem, seval, hs]
 have x0 := Ext.push h (.box [vi .i64 e, vi .i64 a, vi .i64 pg] false)
 have q0 : (h ++ [VO.box [vi .i64 e, vi .i64 a, vi .i64 pg] false])[h.length]? = some (.box [vi .i64 e, vi .i64 a, vi .i64 pg] false) := bp
 generalize h ++ [VO.box [vi .i64 e, vi .i64 a, vi .i64 pg] false] = g0 at x0 q0
 have hD0 := hD.ext x0
 have n60 := Ii hD0 hO ha
 obtain ⟨v38, g1, n38, els, B1, E1⟩ := Oq (from_ := lq d.firm.length a) (n := pg * 4) hD0 hO hpg
 have w1 : IntKind.i64.wrap ((pg : Int) * 4) = ((pg * 4 : Nat) : Int) := by rw [IntWalk.i64_in _ (by omega)]; omega
 obtain ⟨w2, cl2, hcl, S2, x2⟩ := Mh B1
 have hsl : (Cn d (lq d.firm.length a) (pg * 4)).length = pg * 4 := by unfold Cn; simp
 have h64 : ∀ b ∈ Cn d (lq d.firm.length a) (pg * 4), b.length = 64 := by
  intro b hb
  obtain ⟨i, hi, rfl⟩ := List.mem_map.1 hb
  have := List.mem_range.1 hi
  exact Ms hO (by omega)
 obtain ⟨v61, g61, n61, w61, r61, S61⟩ := Ea E1 S2 (by omega) (fun b hb => by grind)
 refine qy 7 (fun g => g[h.length]? = some (.box [vi .i64 e, vi .i64 a, vi .i64 pg] false)) q0 rfl rfl ?_
 simp only [List.take_succ_cons, List.take_zero]
 simp only [go_sem, seval, hs, h0]
 refine tz (v := vi .i64 a) rfl (by rw [ki]; simp only [go_sem, seval, hs]; exact bg q0 rfl) ?_
 refine wh (by simp only [List.map, go_sem, seval, hs]; exact n60) q0 ?_
 simp only [go_sem, seval, hs]
 refine ox (v := vi .i64 pg) rfl q0 (fun g hg => by rw [ki]; simp only [go_sem, seval, hs]; exact bg hg rfl) ?_
 simp only [XDA, List.drop_succ_cons, List.drop_zero]
 simp only [go_sem, seval, hs, w1]
 refine vu (by simp only [List.map, go_sem, seval, hs]; exact n38) ?_
 simp only [go_sem, seval, hs]
 refine Jb (by simp only [List.map, go_sem, seval, hs]; exact bf hcl rfl) n61 r61 ?_
 simp only [go_sem, seval, hs]
 have cw : en w61 = true := by rcases S61 with ⟨rfl, _⟩ | ⟨ex, rfl⟩ <;> rfl
 have n45 := Ik cw (k := 256) (by omega) cl2
 have x45 : Ext cl2 (cl2 ++ [VO.box [w61] false, .box [vi .i64 256] false]) := ⟨by simp, fun j hj => by grind⟩
 have b0 : (cl2 ++ [VO.box [w61] false, .box [vi .i64 256] false])[cl2.length]? = some (.box [w61] false) := by simp
 have b1 : (cl2 ++ [VO.box [w61] false, .box [vi .i64 256] false])[cl2.length + 1]? = some (.box [vi .i64 256] false) := by simp
 have bl : (cl2 ++ [VO.box [w61] false, .box [vi .i64 256] false]).length = cl2.length + 2 := by simp
 have n45 : call F 45 [w61, vi .i64 256] cl2 = some (.ret (.func 73 [.ptr cl2.length 0, .ptr (cl2.length + 1) 0]), (cl2 ++ [VO.box [w61] false, .box [vi .i64 256] false])) := n45
 generalize cl2 ++ [VO.box [w61] false, .box [vi .i64 256] false] = g3 at x45 b0 b1 bl n45
 have hfl := Wr _ h64
 rw [hsl] at hfl
 obtain ⟨v44, g4, n44, els4, B4, E4⟩ := Rz S61 (by omega) (h := g3) (k := 256) (N := cl2.length) (by omega) (by omega) bl b0 b1
 obtain ⟨w4, cl4, hcl4, S4, x4⟩ := Mh B4
 have hpl : (pcs 256 (Cn d (lq d.firm.length a) (pg * 4)).flatten).length <= (Cn d (lq d.firm.length a) (pg * 4)).flatten.length := Gk _ _ _
 obtain ⟨v64, g64, n64, w64, r64, x5, els5, rfl, S5, E5⟩ := Zn E4 S4 (by omega) (fun b hb => by have := No _ _ _ hb; omega)
 refine ao (by simp only [List.map, go_sem, seval, hs]; exact n45) ?_
 simp only [go_sem, seval, hs]
 refine ao (by simp only [List.map, go_sem, seval, hs]; exact n44) ?_
 simp only [go_sem, seval, hs]
 refine ap (by simp only [List.map, go_sem, seval, hs]; exact bf hcl4 rfl) n64 r64 ?_
 simp only [go_sem, seval, hs]
 exact ⟨x0.trans ((HExt.ext x2).trans (x45.trans (HExt.ext x4))), x5, els5, rfl, S5, E5⟩
open Go Go.Vm
structure D.Lim (d : D) (k : Nat) : Prop where
 ok : d.OK
 w : d.w + k < 800000
 f : d.f + k < 800000
 l : d.loose.length + k < 800000
theorem D.Lim.le {d : D} {k m : Nat} (h : d.Lim k) (hm : m <= k) : d.Lim m := ⟨h.ok, by have := h.w; omega, by have := h.f; omega, by have := h.l; omega⟩
theorem Lj {d : D} {i : Int} {b : List UInt8} : (d.write i b).1.firm = d.firm := by
 unfold D.write
 split
 ·rfl
 ·split
  ·rfl
  ·split
   ·rfl
   ·exact iv d
theorem Gu {d : D} : d.flush.firm.length = d.firm.length := by
 unfold D.flush
 split
 ·rfl
 ·show (jw _ 0 d.burnt.firm d.burnt.loose).length = _
  rw [xl, iv]
theorem Aa (d : D) (i : Int) (b : List UInt8) : (d.write i b).1 = d \/ (d.has i = true /\ b.length <= 64 /\ d.dark = false /\ (d.write i b).1 = { d.burnt with loose := d.loose ++ [(i.toNat, pad b)], w := d.w + 1 }) := by
 unfold D.write
 grind
theorem rr {d : D} {k : Nat} (h : d.Lim (k + 1)) (i : Int) (b : List UInt8) : (d.write i b).1.Lim k := by
 have h1 := h.w
 have h2 := h.f
 have h3 := h.l
 rcases Aa d i b with e | ⟨_, _, _, e⟩
 ·rw [e]; exact h.le (by omega)
 ·refine ⟨Zu h.ok (by omega) (by omega) i b, ?_, ?_, ?_⟩ <;> rw [e]
  ·grind
  ·show d.burnt.f + k < _; rw [rt]; omega
  grind
theorem ow {d : D} {k : Nat} (h : d.Lim (k + 1)) : d.flush.Lim k := by
 have h1 := h.w
 have h2 := h.f
 have h3 := h.l
 refine ⟨Zs h.ok (by omega), ?_, ?_, ?_⟩ <;> unfold D.flush <;> split <;> try omega
 ·grind
 ·grind
 ·show 0 + k < _; omega
theorem Kept.loop {h h' : ae} {p : Nat} {f l : Option Nat} {d : D} (hD : dq h p f l d) (k : Kept h h' p f l) {j : Nat} {ps : List Nat} {a b : IR} {s : List VV} {t : LoopState} {q : Option Jmp} (hj : h[j]? = some (.loop ps a b s t q)) : h'[j]? = some (.loop ps a b s t q) := by
 obtain ⟨vf, vl, h1, h2, h3⟩ := hD
 rw [k.same j (az hj) (by grind) ?_ ?_, hj]
 ·rintro e
  rcases h2 with ⟨id, g, ex, e1, _, e2⟩ | ⟨e1, _⟩
  ·grind
  grind
 ·rintro e
  rcases h3 with ⟨id, g, e1, _, _, e2⟩ | ⟨e1, _⟩
  ·grind
  grind
theorem Tj {h : ae} {p : Nat} {f l : Option Nat} {d : D} (hD : dq h p f l d) {j : Nat} {o0 : VO} (hj : h[j]? = some o0) (hp : j ≠ p) (hn : ∀ z e g fr, o0 ≠ .arr z e g fr) (o : VO) : dq (h.set j o) p f l d := by
 obtain ⟨vf, vl, h1, h2, h3⟩ := hD
 refine ⟨vf, vl, by grind, ?_, ?_⟩
 ·rcases h2 with ⟨id, g, ex, e1, e2, e3⟩ | e
  ·refine .inl ⟨id, g, ex, e1, e2, ?_⟩
   grind
  ·exact .inr e
 ·rcases h3 with ⟨id, g, e1, e2, e4, e3⟩ | e
  ·refine .inl ⟨id, g, e1, e2, e4, ?_⟩
   grind
  ·exact .inr e
theorem ri {h h1 : ae} {p : Nat} {f l l' : Option Nat} {d : D} (m : Moved h h1 p f l l' d) {j : Nat} {o0 : VO} (hj : h1[j]? = some o0) (hp : j ≠ p) (hh : h.length <= j) (hn : ∀ z e g fr, o0 ≠ .arr z e g fr) (o : VO) : Moved h (h1.set j o) p f l l' d := by
 refine ⟨Tj m.dev hj hp hn o, ⟨by grind, fun i hi h1 h2 h3 => ?_⟩, m.new⟩
 rw [List.getElem?_set_ne (by omega)]; exact m.kept.same i hi h1 h2 h3
theorem Jy {h h1 : ae} {p : Nat} {f l : Option Nat} {d : D} (hD : dq h p f l d) (e : Ext h h1) : Moved h h1 p f l l d := ⟨hD.ext e, e.kept p f l, Kn.refl _ _⟩
def po (d : D) (a : Nat) : List (List UInt8) -> D
 | [] => d
 | b :: l => po (d.write (a : Int) b).1 (a + 1) l
theorem Io : ∀ (l : List (List UInt8)) (d : D) (a : Nat) (b : List UInt8), po d a (l ++ [b]) = ((po d a l).write ((a + l.length : Nat) : Int) b).1
 | [], d, a, b => rfl
 | x :: l, d, a, b => by
  show po (d.write (a : Int) x).1 (a + 1) (l ++ [b]) = _
  rw [Io l]
  show _ = ((po (d.write (a : Int) x).1 (a + 1) l).write _ b).1
  grind
theorem Hu : ∀ (l : List (List UInt8)) (d : D) (a : Nat), (po d a l).firm = d.firm
 | [], _, _ => rfl
 | x :: l, d, a => by
  show (po (d.write (a : Int) x).1 (a + 1) l).firm = _
  rw [Hu l, Lj]
theorem nj : ∀ (l : List (List UInt8)) (d : D) (a k : Nat), d.Lim (l.length + k) -> (po d a l).Lim k
 | [], d, a, k, h => by show d.Lim k; grind
 | x :: l, d, a, k, h => nj l _ _ _ (rr (by grind) _ _)
def yv (d : D) (pg : List (List UInt8)) (a e : Nat) : D :=
 let d1 := (po d (lq d.firm.length a) (pcs 64 pg.flatten)).flush
 (d1.write ((e % 2 : Nat) : Int) (ge e a pg.length)).1.flush
theorem Xa {d : D} {pg : List (List UInt8)} {a e : Nat} : (yv d pg a e).firm.length = d.firm.length := by
 unfold yv; dsimp only
 rw [Gu, Lj, Gu, Hu]
theorem zl {d : D} {pg : List (List UInt8)} {a e k : Nat} (h : d.Lim ((pcs 64 pg.flatten).length + k + 3)) : (yv d pg a e).Lim k := by
 unfold yv; dsimp only
 exact ow (rr (ow (nj _ _ _ _ (by omega))) _ _)
structure LayI (h : ae) (p : Nat) (f l : Option Nat) (d : D) (b0 N : Nat) (s0 : List VV) (u : VV) (ps : List (List UInt8)) (g : ae) : Prop where
 m : ∃ l', Moved h g p f l l' (po d b0 ps)
 i4 : g[N]? = some (.box [dI p] false)
 i8 : g[N + 1]? = some (.box z3 false)
 i9 : g[N + 2]? = some (.box [vi .i64 ((b0 + ps.length : Nat) : Int)] false)
 i0 : g[N + 3]? = some (.box [u] false) /\ g[N + 4]? = some (.box [vi .i64 64] false)
 lp : g[N + 5]? = some (.loop [18] f34_0 f34_1 s0 .ready none)
theorem xk {c : List VV} {b : Bool} : ∀ z e g fr, VO.box c b ≠ .arr z e g fr := by grind
theorem uk {ps : List Nat} {a b : IR} {s : List VV} {t : LoopState} {q : Option Jmp} : ∀ z e g fr, VO.loop ps a b s t q ≠ .arr z e g fr := by grind
theorem abn {h : ae} {p : Nat} {f l : Option Nat} {d : D} {b0 N : Nat} {s0 : List VV} (hp : p < h.length) (hN : h.length = N) (hs0 : s0.length = 44) (k4 : s0.getD 4 .undef = .ptr N 0) (k9 : s0.getD 9 .undef = .ptr (N + 2) 0) {u : VV} {ps : List (List UInt8)} {x : List UInt8} {g : ae} {c : CV} (hL : d.Lim (ps.length + 1)) (hb : b0 + ps.length <= 1000000000)
  (J : LayI h p f l d b0 N s0 u ps g) (hx : SlV 1 (eB x) (.cv c)) : ∃ g', call F (YB + (N + 5)) [.cv c] g = some (.ret (vb true), g') /\ LayI h p f l d b0 N s0 u (ps ++ [x]) g' := by
 have key := Gs (F := F) (id := N + 5) (by cases h : F (YB + (N + 5)) with
  | none => rfl
  | some fn => have := tlt h; omega) (ps := [18]) (asg := f34_0) (body := f34_1) (s0 := s0) (a := [.cv c]) (h := g) (P := fun v g' => v = vb true /\ LayI h p f l d b0 N s0 u (ps ++ [x]) g') J.lp rfl ?_
 ·grind
 obtain ⟨⟨l', M⟩, j4, j8, j9, ⟨j0, j1⟩, hlp⟩ := J
 have hset : tq s0 [18] [.cv c] = s0.set 18 (.cv c) := rfl
 rw [hset, bi f34_0.eq_1]
 simp only [go_sem, seval, hs0]
 refine ⟨rfl, none, hlp, ?_⟩
 dsimp only
 have M1 := ri M hlp (by omega) (by omega) uk (.loop [18] f34_0 f34_1 s0 .busy none)
 have hp1 : (g.set (N + 5) (.loop [18] f34_0 f34_1 s0 .busy none))[N + 5]? = some (.loop [18] f34_0 f34_1 s0 .busy none) := List.getElem?_set_self (ev hlp)
 have ne : ∀ {j : Nat} {o : VO}, j ≠ N + 5 -> g[j]? = some o -> (g.set (N + 5) (.loop [18] f34_0 f34_1 s0 .busy none))[j]? = some o := fun hj ho => by grind
 have j41 := ne (by omega) j4
 have j81 := ne (by omega) j8
 have j91 := ne (by omega) j9
 have j01 := ne (by omega) j0
 have j11 := ne (by omega) j1
 generalize g.set (N + 5) (.loop [18] f34_0 f34_1 s0 .busy none) = g1 at M1 hp1 j41 j81 j91 j01 j11
 have L1 := nj ps d b0 1 hL
 have w1 := L1.w
 have w2 := L1.l
 obtain ⟨v2, g2, n2, W2⟩ := wm M1.dev L1.ok (by omega) (by omega) ((b0 + ps.length : Nat) : Int) x (.cv c) hx
 obtain ⟨l2, M2⟩ := W2.m
 have bx : ∀ {j : Nat} {cells : List VV}, j ≠ p -> g1[j]? = some (.box cells false) -> g2[j]? = some (.box cells false) := fun hj ho => Kept.box M1.dev M2.kept ho hj
 have j42 := bx (by omega) j41
 have j82 := bx (by omega) j81
 have j92 := bx (by omega) j91
 have j02 := bx (by omega) j01
 have j12 := bx (by omega) j11
 have hp2 := Kept.loop M1.dev M2.kept hp1
 have M3 := M1.trans M2
 rw [<- Io] at M3
 have hwr : IntKind.i64.wrap (((b0 + ps.length : Nat) : Int) + 1) = ((b0 + (ps ++ [x]).length : Nat) : Int) := by rw [IntWalk.i64_in _ (by omega)]; simp; omega
 have st2 := Af (v := vi .i64 ((b0 + (ps ++ [x]).length : Nat) : Int)) rfl j92 (show 0 < 1 by decide)
 simp only [List.set_cons_zero] at st2
 rw [bi f34_1.eq_1]
 simp only [go_sem, seval, hs0, k4, k9, iu j41, iu j91]
 refine tr (t := 23) (u := .ptr p 0) (f := 31) (by simp only [go_sem, seval, hs0]) rfl (by simp only [List.map, go_sem, seval, hs0]; exact n2) ?_
 simp only [go_sem, seval, hs0, k9, iu j92, hwr, st2]
 have M4 := ri M3 j92 (by omega) (by omega) xk (.box [vi .i64 ((b0 + (ps ++ [x]).length : Nat) : Int)] false)
 have ne2 : ∀ {j : Nat} {o : VO}, j ≠ N + 2 -> g2[j]? = some o -> (g2.set (N + 2) (.box [vi .i64 ((b0 + (ps ++ [x]).length : Nat) : Int)] false))[j]? = some o := fun hj ho => by grind
 have q4 := ne2 (by omega) j42
 have q8 := ne2 (by omega) j82
 have q0 := ne2 (by omega) j02
 have q1 := ne2 (by omega) j12
 have qp := ne2 (by omega) hp2
 have q9 : (g2.set (N + 2) (.box [vi .i64 ((b0 + (ps ++ [x]).length : Nat) : Int)] false))[N + 2]? = some (.box [vi .i64 ((b0 + (ps ++ [x]).length : Nat) : Int)] false) := List.getElem?_set_self (ev j92)
 generalize g2.set (N + 2) (.box [vi .i64 ((b0 + (ps ++ [x]).length : Nat) : Int)] false) = g3 at M4 q4 q8 q0 q1 qp q9
 have ne3 : ∀ {j : Nat} {o : VO}, j ≠ N + 5 -> g3[j]? = some o -> (g3.set (N + 5) (.loop [18] f34_0 f34_1 s0 .ready none))[j]? = some o := fun hj ho => by grind
 exact ⟨none, .busy, none, rfl, qp, rfl, ⟨_, ri M4 qp (by omega) (by omega) uk _⟩, ne3 (by omega) q4, ne3 (by omega) q8, ne3 (by omega) q9, ⟨ne3 (by omega) q0, ne3 (by omega) q1⟩, List.getElem?_set_self (ev qp)⟩
open Go Go.Vm
theorem Rw {h h1 : ae} {p : Nat} {f l l' : Option Nat} {d : D} (m : Moved h h1 p f l l' d) {j : Nat} {c : List VV} {b : Bool} (hj : h1[j]? = some (.box c b)) (hp : j ≠ p) (hh : h.length <= j) (o : VO) : Moved h (h1.set j o) p f l l' d := ri m hj hp hh xk o
theorem Tr {h : ae} {p : Nat} {f l : Option Nat} {d : D} (hD : dq h p f l d) {u : VV} {ep : List (List CV)} {pg : List (List UInt8)} (hu : SlV 1 ep u) (hE : PgE ep pg) (hn : pg.length < 65536) (hb : ∀ b ∈ pg, b.length <= 1000) {a e : Nat} (ha : a <= 1) (he : e < 9223372036854775808)
  (hL : d.Lim ((pcs 64 pg.flatten).length + 3)) (hp : p < h.length) :
  Ret F 34 [dI p, u, vi .i64 a, vi .i64 e] h fun v g => v = qi e a pg.length /\ ∃ l', Moved h g p f l l' (yv d pg a e) := by
 have hO := hL.ok
 have hnn := hO.n
 have hpt := iz hnn
 have hm : a * (bk d.firm.length).2 <= 1 * (bk d.firm.length).2 := Nat.mul_le_mul_right _ ha
 have hbg : lq d.firm.length a <= 10000 := by unfold lq; omega
 obtain ⟨v61, g61, n61, w61, r61, S61⟩ := Ea hE hu (by omega) hb
 have cw : en w61 = true := by rcases S61 with ⟨rfl, _⟩ | ⟨ex, rfl⟩ <;> rfl
 have clu : ∀ g : ae, cf g [u] = some ([u], g) := fun g => by rcases hu with ⟨rfl, _⟩ | ⟨ex, rfl⟩ <;> rfl
 have hfl : pg.flatten.length <= 1000 * pg.length := by
  clear hL hE hu n61 S61
  induction pg with
  | nil => simp
  | cons b l ih =>
   have h1 := hb b List.mem_cons_self
   have h2 := ih (by simp only [List.length_cons] at hn; omega) (fun x hx => hb x (List.mem_cons_of_mem _ hx))
   simp only [List.flatten_cons, List.length_append, List.length_cons]; omega
 refine eE4 (fn := f34) (n := 44) rfl rfl fun s hs h0 h1 h2 h3 => ?_
 simp only [f34]
 simp only [go_sem, seval, hs, h0]
 rw [Yj rfl]
 simp only [go_sem, seval, hs, h2]
 have x0 : Ext h (h ++ [VO.box [dI p] false] ++ [VO.box z3 false]) := (Ext.push _ _).trans (Ext.push _ _)
 have q4 : (h ++ [VO.box [dI p] false] ++ [VO.box z3 false])[h.length]? = some (.box [dI p] false) := by simp
 have q8 : (h ++ [VO.box [dI p] false] ++ [VO.box z3 false])[h.length + 1]? = some (.box z3 false) := by simp
 have ln : (h ++ [VO.box [dI p] false] ++ [VO.box z3 false]).length = h.length + 2 := by simp
 have elen : (h ++ [VO.box [dI p] false]).length = h.length + 1 := by simp
 rw [elen]
 generalize h ++ [VO.box [dI p] false] ++ [VO.box z3 false] = g0 at x0 q4 q8 ln
 have n60 := Ii (hD.ext x0) hO ha
 simp only [go_sem, seval, hs, iu q4, ln]
 refine ao (by simp only [List.map, go_sem, seval, hs, h2]; exact n60) ?_
 have q9 : (g0 ++ [VO.box [vi .i64 0] false])[h.length + 2]? = some (.box [vi .i64 0] false) := by rw [<- ln]; exact bp
 have st9 := Af (v := vi .i64 (lq d.firm.length a : Nat)) rfl q9 (show 0 < 1 by decide)
 simp only [List.set_cons_zero] at st9
 simp only [go_sem, seval, hs, ln]
 simp only [go_sem, seval, hs, st9]
 have hx1 : Ext h ((g0 ++ [VO.box [vi .i64 0] false]).set (h.length + 2) (.box [vi .i64 (lq d.firm.length a : Nat)] false)) := by
  have := (HExt.ext (((x0.trans (Ext.push g0 (.box [vi .i64 0] false))).hext).set (i := h.length + 2) (by omega) (.box [vi .i64 (lq d.firm.length a : Nat)] false)))
  exact this
 have y4 : ((g0 ++ [VO.box [vi .i64 0] false]).set (h.length + 2) (.box [vi .i64 (lq d.firm.length a : Nat)] false))[h.length]? = some (.box [dI p] false) := by rw [List.getElem?_set_ne (by omega), List.getElem?_append_left (by omega)]; exact q4
 have y8 : ((g0 ++ [VO.box [vi .i64 0] false]).set (h.length + 2) (.box [vi .i64 (lq d.firm.length a : Nat)] false))[h.length + 1]? = some (.box z3 false) := by rw [List.getElem?_set_ne (by omega), List.getElem?_append_left (by omega)]; exact q8
 have y9 : ((g0 ++ [VO.box [vi .i64 0] false]).set (h.length + 2) (.box [vi .i64 (lq d.firm.length a : Nat)] false))[h.length + 2]? = some (.box [vi .i64 (lq d.firm.length a : Nat)] false) := List.getElem?_set_self (az q9)
 have yl : ((g0 ++ [VO.box [vi .i64 0] false]).set (h.length + 2) (.box [vi .i64 (lq d.firm.length a : Nat)] false)).length = h.length + 3 := by simp [ln]
 generalize (g0 ++ [VO.box [vi .i64 0] false]).set (h.length + 2) (.box [vi .i64 (lq d.firm.length a : Nat)] false) = g1 at hx1 y4 y8 y9 yl
 refine ap (by simp only [List.map, go_sem, seval, hs, h1]; exact clu _) n61 r61 ?_
 have n45 := Ik cw (k := 64) (by omega) g1
 have x45 : Ext g1 (g1 ++ [VO.box [w61] false, .box [vi .i64 64] false]) := ⟨by simp, fun j hj => by rw [List.getElem?_append_left hj]⟩
 have b0 : (g1 ++ [VO.box [w61] false, .box [vi .i64 64] false])[h.length + 3]? = some (.box [w61] false) := by rw [<- yl]; simp
 have b1 : (g1 ++ [VO.box [w61] false, .box [vi .i64 64] false])[h.length + 4]? = some (.box [vi .i64 64] false) := by rw [show h.length + 4 = g1.length + 1 from by omega]; simp
 have bl : (g1 ++ [VO.box [w61] false, .box [vi .i64 64] false]).length = h.length + 5 := by simp [yl]
 rw [yl] at n45
 have n45 : call F 45 [w61, vi .i64 64] g1 = some (.ret (.func 73 [.ptr (h.length + 3) 0, .ptr (h.length + 4) 0]), g1 ++ [VO.box [w61] false, .box [vi .i64 64] false]) := n45
 have z4 := x45.get y4
 have z8 := x45.get y8
 have z9 := x45.get y9
 have xx := hx1.trans x45
 generalize g1 ++ [VO.box [w61] false, .box [vi .i64 64] false] = g2 at x45 b0 b1 bl n45 z4 z8 z9 xx
 simp only [go_sem, seval, hs]
 refine ao (by simp only [List.map, go_sem, seval, hs]; exact n45) ?_
 simp only [go_sem, seval, hs]
 generalize hs1 : ((((((((s.set 4 (VV.ptr (List.length h) 0)).set 8 (VV.ptr (List.length h + 1) 0)).set 12 (dI p)).set 13 (s.getD 2 VV.undef)).set 14 (vi IntKind.i64 ↑(lq d.firm.length a))).set 9 (VV.ptr (List.length h + 2) 0)).set 15 (s.getD 1 VV.undef)).set 16 w61).set 17 (.func 73 [.ptr (h.length + 3) 0, .ptr (h.length + 4) 0]) = s1
 have hl1 : s1.length = 44 := by rw [<- hs1]; simp only [ah, hs]
 have k1 : s1.getD 1 .undef = u := by rw [<- hs1]; simp only [go_sem, seval, hs, h1]
 have k2 : s1.getD 2 .undef = vi .i64 a := by rw [<- hs1]; simp only [go_sem, seval, hs, h2]
 have k3 : s1.getD 3 .undef = vi .i64 e := by rw [<- hs1]; simp only [go_sem, seval, hs, h3]
 have k4 : s1.getD 4 .undef = .ptr h.length 0 := by rw [<- hs1]; simp only [go_sem, seval, hs]
 have k8 : s1.getD 8 .undef = .ptr (h.length + 1) 0 := by rw [<- hs1]; simp only [go_sem, seval, hs]
 have k9 : s1.getD 9 .undef = .ptr (h.length + 2) 0 := by rw [<- hs1]; simp only [go_sem, seval, hs]
 have k17 : s1.getD 17 .undef = .func 73 [.ptr (h.length + 3) 0, .ptr (h.length + 4) 0] := by rw [<- hs1]; simp only [go_sem, seval, hs]
 have p2 : ∀ (j : Nat) (o : VO), g2[j]? = some o -> (g2 ++ [.loop [18] f34_0 f34_1 s1 .ready none])[j]? = some o := fun j o ho => by rw [List.getElem?_append_left (ev ho)]; exact ho
 have hloop : (g2 ++ [.loop [18] f34_0 f34_1 s1 .ready none])[h.length + 5]? = some (.loop [18] f34_0 f34_1 s1 .ready none) := by rw [<- bl]; exact bp
 have I0 : LayI h p f l d (lq d.firm.length a) h.length s1 w61 [] (g2 ++ [.loop [18] f34_0 f34_1 s1 .ready none]) :=
  ⟨⟨l, Jy hD (xx.trans (Ext.push _ _))⟩, p2 _ _ z4, p2 _ _ z8, p2 _ _ z9, ⟨p2 _ _ b0, p2 _ _ b1⟩, hloop⟩
 have hpl : (pcs 64 pg.flatten).length <= pg.flatten.length := Gk _ _ _
 obtain ⟨v73, g3, n73, I3⟩ := On (N := h.length + 3) (id := h.length + 5) (I := LayI h p f l d (lq d.firm.length a) h.length s1 w61) (k := 64) (by omega) (by omega) S61 (by omega) (fun ps g J => J.i0)
  (fun ps x rest g c eq J hx => abn hp rfl hl1 k4 k9 (by
   have := congrArg List.length eq
   simp only [List.length_append, List.length_cons] at this
   exact hL.le (by omega)) (by have := Wa eq; omega) J hx) I0
 refine zg (f := 73) (caps := [.ptr (h.length + 3) 0, .ptr (h.length + 4) 0]) (t := .ready) (p := none) k17 (by rw [bl]; exact n73) (by rw [bl]; exact I3.lp) (by intro e; cases e) ?_
 rw [bl]
 obtain ⟨⟨l', M⟩, i4, i8, _, _, ilp⟩ := I3
 have M4 := ri M ilp (by omega) (by omega) uk (.loop [18] f34_0 f34_1 s1 .exhausted none)
 have i44 : (g3.set (h.length + 5) (.loop [18] f34_0 f34_1 s1 .exhausted none))[h.length]? = some (.box [dI p] false) := by rw [List.getElem?_set_ne (by omega)]; exact i4
 have i84 : (g3.set (h.length + 5) (.loop [18] f34_0 f34_1 s1 .exhausted none))[h.length + 1]? = some (.box z3 false) := by rw [List.getElem?_set_ne (by omega)]; exact i8
 generalize g3.set (h.length + 5) (.loop [18] f34_0 f34_1 s1 .exhausted none) = g4 at M4 i44 i84
 have L4 : (po d (lq d.firm.length a) (pcs 64 pg.flatten)).Lim (1 + 1 + 1) := nj _ _ _ _ hL
 have hf4 := L4.f
 obtain ⟨v5, g5, n5, W5⟩ := vk M4.dev L4.ok (by omega)
 obtain ⟨l5, M5⟩ := W5.m
 have hfl4 := M4.dev
 have i45 := Kept.box M4.dev M5.kept i44 (by omega)
 have i85 := Kept.box M4.dev M5.kept i84 (by omega)
 have M5' := M4.trans M5
 have L5 := ow L4
 simp only [go_sem, seval, Mj, hl1, k4, iu i44]
 refine tr (t := 23) (u := .ptr p 0) (f := 32) (by simp only [go_sem, seval, hl1]) rfl (by simp only [List.map, go_sem, seval, hl1]; exact n5) ?_
 simp only [go_sem, seval, hl1, k1, k2, k3, hu.ln, hE.len, am0]
 have q11 : (g5 ++ [VO.box [vi .i64 e, vi .i64 a, vi .i64 pg.length] false])[g5.length]? = some (.box [vi .i64 e, vi .i64 a, vi .i64 pg.length] false) := bp
 have M6 := M5'.trans (Jy M5'.dev (Ext.push g5 (.box [vi .i64 e, vi .i64 a, vi .i64 pg.length] false)))
 have i46 := (Ext.push g5 (.box [vi .i64 e, vi .i64 a, vi .i64 pg.length] false)).get i45
 have i86 := (Ext.push g5 (.box [vi .i64 e, vi .i64 a, vi .i64 pg.length] false)).get i85
 have gl : h.length <= g5.length := M5'.kept.len
 generalize hN6 : g5.length = N6 at *
 generalize g5 ++ [VO.box [vi .i64 e, vi .i64 a, vi .i64 pg.length] false] = g6 at q11 M6 i46 i86
 obtain ⟨v62, g62, n62, w62, r62, S62⟩ := Jn (e := e) (a := a) (p := pg.length) he (by omega) (by omega)
 have ld11 := oa (n := 3) q11 rfl
 have q2 : (2 : Int) ≠ 0 := by decide
 have em : (e : Int).tmod 2 = ((e % 2 : Nat) : Int) := rfl
 have hw5 := L5.w
 have hl5 := L5.l
 obtain ⟨v7, g7, n7, W7⟩ := wm M6.dev L5.ok (by omega) (by omega) ((e % 2 : Nat) : Int) (ge e a pg.length) w62 S62
 obtain ⟨l7, M7⟩ := W7.m
 have i47 := Kept.box M6.dev M7.kept i46 (by omega)
 have i87 := Kept.box M6.dev M7.kept i86 (by omega)
 have q17 := Kept.box M6.dev M7.kept q11 (by omega)
 have M7' := M6.trans M7
 have L7 := rr L5 ((e % 2 : Nat) : Int) (ge e a pg.length)
 have hf7 := L7.f
 obtain ⟨v8, g8, n8, W8⟩ := vk M7'.dev L7.ok (by omega)
 obtain ⟨l8, M8⟩ := W8.m
 have i48 := Kept.box M7'.dev M8.kept i47 (by omega)
 have i88 := Kept.box M7'.dev M8.kept i87 (by omega)
 have q18 := Kept.box M7'.dev M8.kept q17 (by omega)
 have M8' := M7'.trans M8
 refine nv rfl ?_
 have mv1 : ∀ g : ae, ∀ s' : List VV, ad s' (.t 32) = dI p -> ai g (ad s') (.mkmv "Write" (.t 32)) = some (.mval "Write" 23, g) := fun g s' e' => by simp only [ai, e']
 have nk1 : ∀ g : ae, ∀ s' : List VV, ad s' (.t 37) = .mval "Write" 23 -> ai g (ad s') (.nilckM "Write" [23] (.t 37)) = some (.mval "Write" 23, g) := fun g s' e' => by simp [ai, e']
 simp only [go_sem, seval, hl1, k4, k3, iu i46, ld11, Gb q2, em]
 refine vx (by simp only [List.map, go_sem, seval, hl1]; rfl) n62 r62 ?_
 simp only [go_sem, seval, hl1]
 refine (pi rfl).2 ?_
 rw [mv1 _ _ (by simp only [go_sem, seval, hl1])]
 simp only [go_sem, seval, hl1]
 refine (pi rfl).2 ?_
 rw [nk1 _ _ (by simp only [go_sem, seval, hl1])]
 simp only [go_sem, seval, hl1]
 refine aco (t := 23) (u := .ptr p 0) (f := 31) (by simp only [go_sem, seval, hl1]) rfl (by simp only [List.map, go_sem, seval, hl1]; exact n7) ?_
 simp only [go_sem, seval, hl1, k4, iu i47]
 refine tr (t := 23) (u := .ptr p 0) (f := 32) (by simp only [go_sem, seval, hl1]) rfl (by simp only [List.map, go_sem, seval, hl1]; exact n8) ?_
 have st8 := ly (n := 3) (cs := [vi .i64 e, vi .i64 a, vi .i64 pg.length]) rfl i88 rfl
 have ld18 := oa (n := 3) q18 rfl
 simp only [go_sem, seval, hl1, k8, ld18, st8]
 refine Sr (id := h.length + 1) (by simp only [go_sem, seval, hl1, k8]) (List.getElem?_set_self (az i88)) rfl ?_
 exact ⟨rfl, l8, Rw M8' i88 (by omega) (by omega) _⟩
open Go Go.Vm
theorem ae8 {k : Nat} : pcs k [] = [] := rfl
theorem Tk {k : Nat} (hk : 0 < k) {x r : List UInt8} (hx : x.length = k) : pcs k (x ++ r) = x :: pcs k r := by
 have hne : x ++ r ≠ [] := by
  intro e
  simp_all
 unfold pcs
 rw [List.length_append, hx]
 obtain ⟨m, rfl⟩ : ∃ m, k = m + 1 := ⟨k - 1, by omega⟩
 rw [show m + 1 + r.length = (m + r.length) + 1 from by omega, ma, if_neg hne]
 rw [List.take_left' hx, List.drop_left' hx, Va hk (m + r.length) r.length r (by omega) (by omega)]
theorem Ns {k : Nat} (hk : 0 < k) : ∀ (L : List (List UInt8)) (r : List UInt8), (∀ x ∈ L, x.length = k) -> pcs k (L.flatten ++ r) = L ++ pcs k r
 | [], r, _ => rfl
 | x :: L, r, h => by
  rw [List.flatten_cons, List.append_assoc, Tk hk (h x List.mem_cons_self), Ns hk L r fun y hy => h y (List.mem_cons_of_mem _ hy)]
  rfl
theorem afo {k : Nat} (hk : 0 < k) (L : List (List UInt8)) (h : ∀ x ∈ L, x.length = k) : pcs k L.flatten = L := by
 have := Ns hk L [] h
 simpa [ae8] using this
theorem xd {k : Nat} (hk : 0 < k) : ∀ (m : Nat) (l : List UInt8), l.length = k * m -> (pcs k l).length = m /\ (∀ x ∈ pcs k l, x.length = k) /\ (pcs k l).flatten = l
 | 0, l, h => by
  have : l = [] := List.eq_nil_of_length_eq_zero (by simpa using h)
  subst this
  exact ⟨rfl, fun x hx => (by cases hx), rfl⟩
 | m + 1, l, h => by
  have e : l = l.take k ++ l.drop k := (List.take_append_drop k l).symm
  have hm : k * (m + 1) = k * m + k := Nat.mul_succ k m
  have h1 : (l.take k).length = k := by grind
  obtain ⟨a, b, c⟩ := xd hk m (l.drop k) (by grind)
  rw [e, Tk hk h1]
  grind
theorem tf {k : Nat} : ∀ (L : List (List UInt8)), (∀ x ∈ L, x.length = k) -> L.flatten.length = k * L.length
 | [], _ => by simp
 | x :: L, h => by
  have h1 := h x List.mem_cons_self
  have h2 := tf L fun y hy => h y (List.mem_cons_of_mem _ hy)
  grind
theorem gm {n : Nat} {l : List KV} {pg : List (List UInt8)} (h : ej n l = some pg) : dl l = some pg /\ pg.length <= (bk n).2 := by
 unfold ej at h
 grind
theorem ou {n : Nat} {l : List KV} {pg : List (List UInt8)} (h : ej n l = some pg) : (pcs 64 pg.flatten).length = 4 * pg.length := by
 have h1 := tf (k := 256) pg (ml (gm h).1)
 exact (xd (by omega) (4 * pg.length) pg.flatten (by omega)).1
structure S where
 d : D
 rows : List KV
 e : Nat
 a : Nat
 pn : Nat
 used : Nat
 fr : Nat
structure StoreAt (h : ae) (q p : Nat) (f l : Option Nat) (s : S) : Prop where
 box : ∃ u els, h[q]? = some (.box [dI p, u, vi .i64 s.e, vi .i64 s.a, vi .i64 s.pn, vi .i64 s.used, vi .i64 s.fr] false) /\ SlV 2 els u /\ RowsE els s.rows
 dev : dq h p f l s.d
 qp : q ≠ p
structure KeptS (h h' : ae) (q p : Nat) (f l : Option Nat) : Prop where
 len : h.length <= h'.length
 same : ∀ j, j < h.length -> j ≠ q -> j ≠ p -> f ≠ some j -> l ≠ some j -> h'[j]? = h[j]?
theorem KeptS.refl (h : ae) (q p : Nat) (f l : Option Nat) : KeptS h h q p f l := ⟨Nat.le_refl _, fun _ _ _ _ _ _ => rfl⟩
theorem KeptS.trans {h h1 h2 : ae} {q p : Nat} {f l l1 : Option Nat} (k : KeptS h h1 q p f l) (k1 : KeptS h1 h2 q p f l1) (hl : Kn h l l1) : KeptS h h2 q p f l := by
 refine ⟨Nat.le_trans k.len k1.len, fun j hj h0 h1 h2 h3 => ?_⟩
 rw [k1.same j (Nat.lt_of_lt_of_le hj k.len) h0 h1 h2 (fun e => ?_), k.same j hj h0 h1 h2 h3]
 rcases hl j e with e' | e'
 ·exact h3 e'
 ·omega
theorem Kept.s {h h' : ae} {p : Nat} {f l : Option Nat} (k : Kept h h' p f l) (q : Nat) : KeptS h h' q p f l := ⟨k.len, fun j hj _ h1 h2 h3 => k.same j hj h1 h2 h3⟩
structure MovedS (h h' : ae) (q p : Nat) (f l l' : Option Nat) (s' : S) : Prop where
 st : StoreAt h' q p f l' s'
 kept : KeptS h h' q p f l
 new : Kn h l l'
theorem MovedS.refl {h : ae} {q p : Nat} {f l : Option Nat} {s : S} (hS : StoreAt h q p f l s) : MovedS h h q p f l l s := ⟨hS, KeptS.refl _ _ _ _ _, Kn.refl _ _⟩
theorem MovedS.trans {h h1 h2 : ae} {q p : Nat} {f l l1 l2 : Option Nat} {s1 s2 : S} (a : MovedS h h1 q p f l l1 s1) (b : MovedS h1 h2 q p f l1 l2 s2) : MovedS h h2 q p f l l2 s2 :=
 ⟨b.st, a.kept.trans b.kept a.new, a.new.trans b.new a.kept.len⟩
theorem StoreAt.moved {h h1 : ae} {q p : Nat} {f l l' : Option Nat} {s : S} {d' : D} (hS : StoreAt h q p f l s) (m : Moved h h1 p f l l' d') : MovedS h h1 q p f l l' { s with d := d' } := by
 obtain ⟨u, els, b1, b2, b3⟩ := hS.box
 exact ⟨⟨⟨u, els, Kept.box hS.dev m.kept b1 hS.qp, b2, b3⟩, m.dev, hS.qp⟩, m.kept.s q, m.new⟩
theorem StoreAt.ext {h h1 : ae} {q p : Nat} {f l : Option Nat} {s : S} (hS : StoreAt h q p f l s) (e : Ext h h1) : StoreAt h1 q p f l s := by
 obtain ⟨u, els, b1, b2, b3⟩ := hS.box
 exact ⟨⟨u, els, e.get b1, b2, b3⟩, hS.dev.ext e, hS.qp⟩
theorem StoreAt.turn {h : ae} {q p : Nat} {f l : Option Nat} {s s' : S} (hS : StoreAt h q p f l s) {u : VV} {els : List (List CV)} (hu : SlV 2 els u) (hE : RowsE els s'.rows) (hd : s'.d = s.d) :
  MovedS h (h.set q (.box [dI p, u, vi .i64 s'.e, vi .i64 s'.a, vi .i64 s'.pn, vi .i64 s'.used, vi .i64 s'.fr] false)) q p f l l s' := by
 obtain ⟨u0, els0, b1, b2, b3⟩ := hS.box
 refine ⟨⟨⟨u, els, List.getElem?_set_self (az b1), hu, hE⟩, by rw [hd]; exact Tj hS.dev b1 hS.qp xk _, hS.qp⟩, ⟨by simp, fun j hj h0 _ _ _ => by grind⟩, Kn.refl _ _⟩
def ckF (s : S) (pg : List (List UInt8)) : S := { s with d := yv s.d pg (1 - s.a) (s.e + 1), e := s.e + 1, a := 1 - s.a, pn := pg.length, used := 0, fr := 0 }
theorem aef {h : ae} {q : Nat} {a b c d e f g x y z : VV} (ho : h[q]? = some (.box [a, b, c, d, e, f, g] false)) : stO h 3 (.ptr q 2) (.agg [x, y, z]) = some (.undef, h.set q (.box [a, b, x, y, z, f, g] false)) := by
 have := Pq (n := 3) (off := 2) (cs := [x, y, z]) rfl ho (by grind)
 exact this
theorem Tm {h : ae} {q p : Nat} {f l : Option Nat} {z : S} (hS : StoreAt h q p f l z) {pg : List (List UInt8)} (hr : ej z.d.firm.length z.rows = some pg) (hL : z.d.Lim (4 * pg.length + 3)) (ha : z.a <= 1) (he : z.e < 1073741824) (hrl : z.rows.length <= 9223372036854775807) :
  Ret F 15 [.ptr q 0] h fun v g => v = vi .u16 0 /\ ∃ l', MovedS h g q p f l l' (ckF z pg) := by
 have hS0 := hS
 obtain ⟨⟨u, els, hb, hu, hE⟩, hD, hqp⟩ := hS
 have hpn := ou hr
 obtain ⟨hbld, hpl⟩ := gm hr
 have hpt := iz hL.ok.n
 have h256 := ml hbld
 have hpp : p < h.length := by obtain ⟨_, _, x, _⟩ := hD; grind
 obtain ⟨x33, t33, n33, P33⟩ := vn hD hL.ok hu hE hrl
 rw [hr] at P33
 obtain ⟨rfl, elsP, S33, E33⟩ := P33
 have ea : IntKind.i64.wrap (1 - (z.a : Int)) = ((1 - z.a : Nat) : Int) := by rw [IntWalk.i64_in _ (by omega)]; omega
 have ee : IntKind.i64.wrap ((z.e : Int) + 1) = ((z.e + 1 : Nat) : Int) := by rw [IntWalk.i64_in _ (by omega)]; omega
 obtain ⟨v34, g, n34, rfl, l', M⟩ := Tr hD S33 E33 (a := 1 - z.a) (e := z.e + 1) (by omega) (fun b hb => by grind) (by omega) (by omega) (by grind) hpp
 have M1 := hS0.moved M
 have hb1 := Kept.box hD M.kept hb hqp
 have st3 := aef (x := vi .i64 ((z.e + 1 : Nat) : Int)) (y := vi .i64 ((1 - z.a : Nat) : Int)) (z := vi .i64 pg.length) hb1
 refine bc (fn := f15) rfl ?_
 simp only [f15]
 generalize hs0 : ([.ptr q 0] ++ List.replicate _ VV.undef : List VV) = s
 have hs : s.length = 54 := by grind
 have h0 : s.getD 0 .undef = .ptr q 0 := by grind
 clear hs0
 have c1 : ¬ (z.e : Int) = 1073741824 := by omega
 have l0 : ldO h false 1 (.ptr q 0) = some (dI p, h) := bg hb rfl
 have l1 : ldO h false 1 (.ptr q 1) = some (u, h) := bg hb rfl
 have l2 : ldO h false 1 (.ptr q 2) = some (vi .i64 z.e, h) := bg hb rfl
 have l3 : ldO h false 1 (.ptr q 3) = some (vi .i64 z.a, h) := bg hb rfl
 simp only [go_sem, seval, hs, h0, l2, c1]
 refine nv rfl ?_
 simp only [go_sem, seval, hs, h0, l0, l1]
 refine vu (by simp only [List.map, go_sem, seval, hs]; exact n33) ?_
 simp only [go_sem, seval, hs]
 refine nv rfl ?_
 simp only [go_sem, seval, hs, h0, l0, l2, l3, ea, ee]
 refine vu (by simp only [List.map, go_sem, seval, hs]; exact n34) ?_
 have hb2 := List.getElem?_set_self (a := VO.box [dI p, u, vi .i64 ((z.e + 1 : Nat) : Int), vi .i64 ((1 - z.a : Nat) : Int), vi .i64 pg.length, vi .i64 z.used, vi .i64 z.fr] false) (az hb1)
 have s5 := Af (v := vi .i64 0) rfl hb2 (show 5 < 7 by decide)
 simp only [List.set_cons_succ, List.set_cons_zero, List.set_set] at s5
 have hb3 := List.getElem?_set_self (a := VO.box [dI p, u, vi .i64 ((z.e + 1 : Nat) : Int), vi .i64 ((1 - z.a : Nat) : Int), vi .i64 pg.length, vi .i64 0, vi .i64 z.fr] false) (az hb1)
 have s6 := Af (v := vi .i64 0) rfl hb3 (show 6 < 7 by decide)
 simp only [List.set_cons_succ, List.set_cons_zero, List.set_set] at s6
 simp only [go_sem, seval, hs, st3]
 simp only [go_sem, seval, hs, h0, s5, s6]
 exact ⟨trivial, l', M1.trans (M1.st.turn (s' := ckF z pg) hu hE rfl)⟩
open Go Go.Vm
theorem zm : dl [] = some [ga 0 []] := by
 unfold dl
 rw [if_pos ⟨rfl, by simp⟩]
 rfl
theorem zi {n : Nat} (hn : 64 <= n) : ej n [] = some [ga 0 []] := by
 have : 1 <= (bk n).2 := by unfold bk; grind
 unfold ej
 rw [zm]
 grind
def ql (d : D) : D := yv (po d 0 (List.replicate (2 + (bk d.firm.length).1) [])).flush [ga 0 []] 0 1
theorem f11_loop {h0 : ae} {p : Nat} {f l : Option Nat} {m : Nat} (hm : m <= 10000) : ∀ (r i : Nat) (d : D) (l' : Option Nat) (s : List VV) (h : ae) (Q : Pst), i + r = m -> Moved h0 h p f l l' d -> d.Lim (r + 3) -> s.length = 38 -> s.getD 0 .undef = .ptr p 0 -> s.getD 18 .undef = vi .i64 m -> s.getD 19 .undef = vi .i64 i ->
  (∀ s' h' l'', s'.length = 38 -> s'.getD 0 .undef = .ptr p 0 -> Moved h0 h' p f l l'' (po d i (List.replicate r [])) -> Q (.exit 0) ⟨s', h'⟩) -> X F (.loop f11_2) ⟨s, h⟩ Q := by
 intro r
 induction r with
 | zero =>
  intro i d l' s h Q hi M hL hs e0 e18 e19 hQ
  have c : ¬ ((i : Nat) : Int) < (m : Int) := by omega
  rw [ba, bi f11_2.eq_1]
  simp only [go_sem, seval, hs, e18, e19, c]
  rw [bi f11_1.eq_1]
  simp only [go_sem, seval, hs]
  exact hQ _ _ l' (by grind) (by grind) M
 | succ r ih =>
  intro i d l' s h Q hi M hL hs e0 e18 e19 hQ
  have c : ((i : Nat) : Int) < (m : Int) := by omega
  have hw := hL.w
  have hl := hL.l
  obtain ⟨v2, g2, n2, W2⟩ := wm M.dev hL.ok (by omega) (by omega) ((i : Nat) : Int) [] ct (.inl ⟨rfl, rfl⟩)
  obtain ⟨l2, M2⟩ := W2.m
  have hwr : IntKind.i64.wrap ((i : Int) + 1) = ((i + 1 : Nat) : Int) := by rw [IntWalk.i64_in _ (by omega)]; omega
  rw [ba, bi f11_2.eq_1]
  simp only [go_sem, seval, hs, e18, e19, c]
  rw [bi f11_1.eq_1]
  simp only [go_sem, seval, hs, e0, e19]
  refine ao (by simp only [List.map, go_sem, seval, hs, e0]; exact n2) ?_
  simp only [go_sem, seval, hs, e19, hwr]
  refine ih (i + 1) _ l2 _ _ Q (by omega) (M.trans M2) (rr (hL.le (by omega)) _ _) (by grind) (by simp_all) (by simp_all) (by simp_all) (fun s' h' l'' a1 a2 a3 => hQ s' h' l'' a1 a2 ?_)
  rw [List.replicate_succ]
  exact a3
theorem Qp {h : ae} {p : Nat} {f l : Option Nat} {d : D} (hD : dq h p f l d) (hn : 64 <= d.firm.length) (hL : d.Lim ((bk d.firm.length).1 + 16)) :
  Ret F 11 [.ptr p 0] h fun v g => v = vi .u16 0 /\ ∃ l', Moved h g p f l l' (ql d) := by
 have hnn := hL.ok.n
 have hpt := iz hnn
 have hpp : p < h.length := by obtain ⟨_, _, x, _⟩ := hD; grind
 have nlen := rj hD
 obtain ⟨v3, g3, n3, w3, y3, rfl⟩ := ub (n := (d.firm.length : Int)) (by omega) (by omega)
 have eN : ((d.firm.length : Int)).toNat = d.firm.length := rfl
 rw [eN] at y3
 refine bc (fn := f11) rfl ?_
 simp only [f11]
 generalize hs0 : ([.ptr p 0] ++ List.replicate _ VV.undef : List VV) = s
 have hs : s.length = 38 := by grind
 have h0 : s.getD 0 .undef = .ptr p 0 := by grind
 clear hs0
 have c1 : ¬ ((d.firm.length : Int) < 64) := by omega
 simp only [go_sem, seval, hs, h0]
 rw [bi f11_0.eq_1]
 simp only [go_sem, seval, hs, h0]
 refine ao (by simp only [List.map, go_sem, seval, hs, h0]; exact nlen) ?_
 simp only [go_sem, seval, hs, c1, h0]
 refine ao (by simp only [List.map, go_sem, seval, hs, h0]; exact nlen) ?_
 simp only [go_sem, seval, hs]
 refine ap (h1 := h) (by simp only [List.map, go_sem, seval, hs]; rfl) n3 y3 ?_
 have w1 : IntKind.i64.wrap (2 + ((bk d.firm.length).1 : Int)) = ((2 + (bk d.firm.length).1 : Nat) : Int) := by rw [IntWalk.i64_in _ (by omega)]; omega
 simp only [go_sem, Nat.reduceLT, Nat.reduceEqDiff, reduceCtorEq, Int.reduceLT, Int.reduceEq, hs, w1]
 refine f11_loop (m := 2 + (bk d.firm.length).1) (by omega) (2 + (bk d.firm.length).1) 0 d l _ _ _ (by omega) (Moved.refl hD) (hL.le (by omega)) (by simp_all) (by simp only [go_sem, Nat.reduceLT, Nat.reduceEqDiff, reduceCtorEq, Int.reduceLT, Int.reduceEq, hs, h0]) (by simp_all) (by simp_all) (fun s1 h1 l1 hs1 k0 M1 => ?_)
 have L1 : (po d 0 (List.replicate (2 + (bk d.firm.length).1) [])).Lim (13 + 1) := nj _ _ _ _ (hL.le (by grind))
 have hf1 := L1.f
 obtain ⟨v5, g5, n5, W5⟩ := vk M1.dev L1.ok (by omega)
 obtain ⟨l5, M5⟩ := W5.m
 have L5 := ow L1
 have M5' := M1.trans M5
 have hn5 : (po d 0 (List.replicate (2 + (bk d.firm.length).1) [])).flush.firm.length = d.firm.length := by rw [Gu, Hu]
 obtain ⟨x33, t33, n33, P33⟩ := vn M5'.dev L5.ok (u := ct) (els := []) (rows := []) (.inl ⟨rfl, rfl⟩) .nil (by simp)
 rw [hn5, zi hn] at P33
 obtain ⟨rfl, elsP, S33, E33⟩ := P33
 have h256 := ml zm
 have hps := ou (zi hn)
 obtain ⟨v34, g6, n34, rfl, l6, M6⟩ := Tr M5'.dev S33 E33 (a := 0) (e := 1) (by grind) (fun b hb => by grind) (by omega) (by omega) (by rw [hps]; exact L5.le (by grind)) (by have := M5'.kept.len; omega)
 simp only [go_sem, seval, hs1, k0]
 refine ao (by simp only [List.map, go_sem, seval, hs1, k0]; exact n5) ?_
 simp only [go_sem, seval, hs1, k0]
 refine ao (by simp only [List.map, go_sem, seval, hs1, k0]; exact n33) ?_
 simp only [go_sem, seval, hs1, k0]
 refine ao (by simp only [List.map, go_sem, seval, hs1, k0]; exact n34) ?_
 simp only [go_sem, seval, hs1]
 exact ⟨trivial, l6, M5'.trans M6⟩
open Go Go.Vm
inductive FrL : List (List (List CV)) -> List (List Ch) -> Prop
 | nil : FrL [] []
 | cons {b : List (List CV)} {kv : List Ch} {l : List (List (List CV))} {k : List (List Ch)} (h : ChsE b kv) (hl : kv.length <= 5000) (hv : ∀ x ∈ kv, x.2.1.length <= 150) (t : FrL l k) : FrL (b :: l) (kv :: k)
theorem FrL.len {l : List (List (List CV))} {k : List (List Ch)} (h : FrL l k) : l.length = k.length := by
 induction h with
 | nil => rfl
 | cons _ _ _ _ ih => simp [ih]
theorem FrL.get {l : List (List (List CV))} {k : List (List Ch)} (h : FrL l k) {i : Nat} (hi : i < k.length) : ∃ b kv, l[i]? = some b /\ k[i]? = some kv /\ ChsE b kv /\ kv.length <= 5000 /\ ∀ x ∈ kv, x.2.1.length <= 150 := by
 induction h generalizing i with
 | nil => simp at hi
 | cons h hl hv t ih =>
  grind
def om (l : List KV) (k : List (List Ch)) : List KV := k.foldl cj l
theorem aa8 (l : List KV) (key : List UInt8) : (gd l key).length <= l.length := List.length_filter_le _ _
theorem abu (l : List KV) (x : Ch) : (lm l x).length <= l.length + 1 := by
 have h1 := aa8 l x.1
 unfold lm
 grind
theorem Bb : ∀ (c : List Ch) (l : List KV), (cj l c).length <= l.length + c.length
 | [], l => by simp [cj]
 | x :: c, l => by
  have h1 := abu l x
  have h2 := Bb c (lm l x)
  show (cj (lm l x) c).length <= _
  grind
def Sk (k : List (List Ch)) : Nat := (k.map List.length).sum
theorem f13_loop {ef : List (List CV)} {fr : List (List (List CV))} {L : List (List Ch)} {uf : VV} (hu : SlV 1 ef uf) (hE : FrE ef fr) (hF : FrL fr L) (hLn : L.length <= 1000000) (h : ae) : ∀ (r i : Nat) (rows : List KV) (els : List (List CV)) (u : VV) (s : List VV) (Q : Pst), i + r = L.length -> SlV 2 els u -> RowsE els rows ->
  rows.length + Sk (L.drop i) <= 100000 -> s.length = 87 -> s.getD 6 .undef = u -> s.getD 54 .undef = uf -> s.getD 55 .undef = vi .i64 L.length -> s.getD 56 .undef = vi .i64 i ->
  (∀ s' u' els', s'.length = 87 -> s'.getD 6 .undef = u' -> SlV 2 els' u' -> RowsE els' (om rows (L.drop i)) -> (∀ j, j ≠ 6 -> j ≠ 13 -> j < 56 -> s'.getD j .undef = s.getD j .undef) -> Q (.exit 0) ⟨s', h⟩) -> X F (.loop f13_4) ⟨s, h⟩ Q := by
 intro r
 have hl1 := hE.len
 have hl2 := hF.len
 induction r with
 | zero =>
  intro i rows els u s Q hi hU hR hsum hs e6 e54 e55 e56 hQ
  have c : ¬ ((i : Nat) : Int) < (L.length : Int) := by omega
  rw [ba, bi f13_4.eq_1]
  simp only [go_sem, seval, hs, e55, e56, c]
  rw [bi f13_3.eq_1]
  simp only [go_sem, seval, hs]
  have : L.drop i = [] := List.drop_eq_nil_of_le (by omega)
  rw [this] at hQ
  refine hQ _ u els (by grind) (by grind) hU hR (fun j h1 h2 h3 => ?_)
  grind
 | succ r ih =>
  intro i rows els u s Q hi hU hR hsum hs e6 e54 e55 e56 hQ
  have c : ((i : Nat) : Int) < (L.length : Int) := by omega
  obtain ⟨b, kv, g1, g2, g3, g4, g5⟩ := hF.get (i := i) (by omega)
  obtain ⟨ca, b', a1, a2, a3⟩ := hE.get (i := i) (by omega)
  rw [g1] at a2
  obtain rfl := Option.some.inj a2
  have ia : iaO h 1 uf (vi .i64 (i : Int)) = some (.rptr [ca], h) := hu.ia (by omega) (by grind)
  have la : ldO h false 1 (.rptr [ca]) = some (.cv ca, h) := ij
  have hwr : IntKind.i64.wrap ((i : Int) + 1) = ((i + 1 : Nat) : Int) := by rw [IntWalk.i64_in _ (by omega)]; omega
  have hdr : L.drop i = kv :: L.drop (i + 1) := by
   obtain ⟨hlt, rfl⟩ := List.getElem?_eq_some_iff.1 g2
   exact List.drop_eq_getElem_cons hlt
  rw [hdr] at hsum hQ
  have hsn : Sk (kv :: L.drop (i + 1)) = kv.length + Sk (L.drop (i + 1)) := by simp [Sk]
  rw [hsn] at hsum
  obtain ⟨v4, g6, n4, w4, y4, els4, S4, R4⟩ := Ji (G := True) amy hU hR (by omega) g3 a3 (by omega) (fun x hx => by grind) (.inl trivial)
  have hle := Bb kv rows
  have clu : cf h [u, .cv ca] = some ([u, .cv ca], h) := by rcases hU with ⟨rfl, _⟩ | ⟨ex, rfl⟩ <;> rfl
  rw [ba, bi f13_4.eq_1]
  simp only [go_sem, seval, hs, e55, e56, c]
  rw [bi f13_3.eq_1]
  simp only [go_sem, seval, hs, e54, e56, ia, la, e6]
  refine ap (h1 := h) (by simp only [List.map, go_sem, seval, hs, e6]; exact clu) n4 y4 ?_
  simp only [go_sem, seval, hs, e56, hwr]
  refine ih (i + 1) (cj rows kv) els4 w4 _ Q (by omega) S4 R4 (by omega) (by simp only [ah, hs]) (by simp only [go_sem, seval, hs]) (by simp only [go_sem, seval, hs, e54]) (by simp only [go_sem, seval, hs, e55]) (by simp only [go_sem, seval, hs]) (fun s' u' els' k0 k1 k2 k3 k4 => hQ s' u' els' k0 k1 k2 k3 (fun j h1 h2 h3 => ?_))
  rw [k4 j h1 h2 h3]
  have n1 : (57 : Nat) ≠ j := by omega
  have n2 : (58 : Nat) ≠ j := by omega
  have n3 : (59 : Nat) ≠ j := by omega
  have n4 : (60 : Nat) ≠ j := by omega
  have n5 : (61 : Nat) ≠ j := by omega
  have n6 : (62 : Nat) ≠ j := by omega
  have n7 : (63 : Nat) ≠ j := by omega
  have n8 : (56 : Nat) ≠ j := by omega
  simp [List.getD_eq_getElem?_getD, List.getElem?_set_ne, n1, n2, n3, n4, n5, n6, n7, n8, Ne.symm h1, Ne.symm h2]
theorem aad {n : Nat} {b : List UInt8} {e a pg : Nat} (h : jy n b = some (e, a, pg)) : 1 <= e /\ e <= 1073741824 /\ a <= 1 /\ 1 <= pg /\ pg <= (bk n).2 := by
 unfold jy at h
 split at h
 ·rename_i c
  cases h
  exact ⟨c.1, c.2.1, c.2.2.1, c.2.2.2.1, c.2.2.2.2.1⟩
 ·cases h
theorem aau {x y : Option (Nat × Nat × Nat)} {z : Nat × Nat × Nat} (h : Ya x y = some z) : x = some z \/ y = some z := by
 cases x with
 | none => exact .inr h
 | some x =>
  cases y with
  | none => exact .inl h
  | some y =>
   have h : (if x.1 < y.1 then some y else some x) = some z := h
   grind
theorem aaq {d : D} {e a pg : Nat} (h : re d = some (e, a, pg)) : 1 <= e /\ e <= 1073741824 /\ a <= 1 /\ 1 <= pg /\ pg <= (bk d.firm.length).2 := by
 rcases aau h with h | h <;> exact aad h
theorem Lh {n a pg : Nat} (hn : 64 <= n) (ha : a <= 1) (hpg : pg <= (bk n).2) : lq n a + pg * 4 <= n /\ 2 + (bk n).1 <= lq n a := by
 have e1 : (bk n).1 = n / 4 := by unfold bk; grind
 have e2 : (bk n).2 = (n - 2 - n / 4) / 8 := by unfold bk; grind
 unfold lq
 have : a * (bk n).2 <= 1 * (bk n).2 := Nat.mul_le_mul_right _ ha
 omega
theorem Ho {c : IR} {s : List VV} {h : ae} {Q : Pst} (k : ∀ s1, s1 = s -> X F c ⟨s1, h⟩ Q) : X F c ⟨s, h⟩ Q := k s rfl
theorem afy {h : ae} {p : Nat} {f l : Option Nat} {d : D} (hD : dq h p f l d) (hn : 64 ≤ d.firm.length) {e a pg : Nat} (hf : re d = some (e, a, pg)) {rows0 : List KV} (hlaid : Wn d a pg = (rows0, 0)) {L : List (List Ch)} (hF : FrL (tg e (Cn d 2 (bk d.firm.length).1)).1 L)
    (hsum : rows0.length + Sk L ≤ 100000) {pgs : List (List UInt8)} (hr : ej d.firm.length (om rows0 L) = some pgs) (he : e < 1073741824) (hL : d.Lim (4 * pgs.length + 3)) :
    Ret F 13 [.ptr p 0] h fun v g => ∃ q l', v = .tup [.ptr q 0, vi .u16 0] ∧ h.length ≤ q ∧ Moved h g p f l l' (ckF ⟨d, om rows0 L, e, a, pg, 0, 0⟩ pgs).d ∧ StoreAt g q p f l' (ckF ⟨d, om rows0 L, e, a, pg, 0, 0⟩ pgs) := by
  have hO := hL.ok
  have hnn := hO.n
  have hpt := iz hnn
  obtain ⟨he1, _, ha, hp1, hp2⟩ := aaq hf
  obtain ⟨hin, _⟩ := Lh hn ha hp2
  have hpp : p < h.length := by obtain ⟨_, _, x, _⟩ := hD; exact az x
  have nlen := rj hD
  obtain ⟨v3, g3, n3, w3, y3, rfl⟩ := ub (n := (d.firm.length : Int)) (by omega) (by omega)
  have eN : ((d.firm.length : Int)).toNat = d.firm.length := rfl
  rw [eN] at y3
  obtain ⟨v35, g35, n35, x35, e', a', pg', t', rfl, hf'⟩ := Rq hD hO (by omega)
  rw [hf] at hf'
  obtain rfl : t' = true := by cases t' with
    | true => rfl
    | false => cases hf'
  simp only [if_true] at hf'
  cases hf'
  refine eE1 (fn := f13) (n := 87) rfl rfl fun s hs h0 => ?_
  simp only [f13]
  have c1 : ¬ ((d.firm.length : Int) < 64) := by omega
  simp only [go_sem, seval, hs, h0]
  rw [bi f13_0.eq_1]
  simp only [go_sem, seval, hs, h0]
  refine ao (by simp only [List.map, go_sem, seval, hs, h0]; exact nlen) ?_
  simp only [go_sem, seval, hs, c1, h0]
  refine ao (by simp only [List.map, go_sem, seval, hs, h0]; exact n35) ?_
  simp only [go_sem, seval, hs, h0]
  have q4 : (g35 ++ [VO.box [vi .i64 e, vi .i64 a, vi .i64 pg] false])[g35.length]? = some (.box [vi .i64 e, vi .i64 a, vi .i64 pg] false) := bp
  have x4 := x35.trans (Ext.push g35 (.box [vi .i64 e, vi .i64 a, vi .i64 pg] false))
  rw [bi f13_1.eq_1]
  simp only [go_sem, seval, hs]
  generalize g35 ++ [VO.box [vi .i64 e, vi .i64 a, vi .i64 pg] false] = g4 at q4 x4
  generalize g35.length = N4 at q4
  have hD4 := hD.ext x4
  obtain ⟨v36, g36, n36, x36, xr, els0, rfl, S0, R0⟩ := aal (e := e) hD4 hO ha hin
  rw [hlaid] at n36 R0
  have R0 : RowsE els0 rows0 := R0
  have n36 : call F 36 [dI p, qi e a pg] g4 = some (.ret (.tup [xr, vi .u16 0]), g36) := n36
  refine ao (by simp only [List.map, go_sem, seval, hs, h0]; exact n36) ?_
  simp only [go_sem, seval, hs, h0]
  rw [bi f13_2.eq_1]
  simp only [go_sem, seval, hs, h0]
  have x5 := x4.trans x36
  have q5 := x36.get q4
  have hD5 := hD.ext x5
  refine ao (by simp only [List.map, go_sem, seval, hs, h0]; exact rj hD5) ?_
  simp only [go_sem, seval, hs]
  refine ap (h1 := g36) (by simp only [List.map, go_sem, seval, hs]; rfl) n3 y3 ?_
  simp only [go_sem, seval, hs]
  refine Ho fun s1 es1 => ?_
  have hs1 : s1.length = 87 := by rw [es1]; simp only [ah, hs]
  have k0 : s1.getD 0 .undef = .ptr p 0 := by rw [es1]; simp only [go_sem, seval, hs, h0]
  have k4 : s1.getD 4 .undef = .ptr N4 0 := by rw [es1]; simp only [go_sem, seval, hs]
  have k6 : s1.getD 6 .undef = xr := by rw [es1]; simp only [go_sem, seval, hs]
  have k8 : s1.getD 8 .undef = vi .i64 ((bk d.firm.length).1 : Nat) := by rw [es1]; simp only [go_sem, seval, hs]
  clear es1
  have hin2 : 2 + (bk d.firm.length).1 ≤ d.firm.length := by
    have := (Lh hn (Nat.zero_le 1) (Nat.le_refl _)); omega
  obtain ⟨v38, g6, n38, elsS, B6, E6⟩ := Oq (from_ := 2) (n := (bk d.firm.length).1) hD5 hO hin2
  have q6 := (HExt.ext B6.ext).get q5
  obtain ⟨w6, g7, hcl, S6, x7⟩ := Mh B6
  have hsl : (Cn d 2 (bk d.firm.length).1).length = (bk d.firm.length).1 := by unfold Cn; simp
  obtain ⟨v37, g37, n37, w37, r37, xf, ef, rfl, SF, EF⟩ := Uz E6 S6 (by omega) (e : Int)
  refine qy 6 (fun g => g[N4]? = some (.box [vi .i64 e, vi .i64 a, vi .i64 pg] false)) q5 rfl rfl ?_
  simp only [List.take_succ_cons, List.take_zero]
  simp only [go_sem, seval, hs1, k4]
  refine ox (v := vi .i64 e) rfl q5 (fun g hg => by rw [ki]; simp only [go_sem, seval, hs1]; exact bg hg rfl) ?_
  simp only [go_sem, seval, hs1, k0, k8]
  refine wh (by simp only [List.map, go_sem, seval, hs1]; exact n38) q6 ?_
  simp only [XDA, List.drop_succ_cons, List.drop_zero]
  simp only [go_sem, seval, hs1]
  refine Jb (by simp only [List.map, go_sem, seval, hs1]; exact bf rfl (bf hcl rfl)) n37 r37 ?_
  have hfl := hF.len
  have hel := EF.len
  simp only [go_sem, Nat.reduceLT, Nat.reduceEqDiff, reduceCtorEq, Int.reduceLT, Int.reduceEq, hs1, SF.ln, hel, hfl]
  have hLn : L.length ≤ 1000000 := by
    have := (Xf (e : Int) (Cn d 2 (bk d.firm.length).1)).2
    omega
  refine f13_loop SF EF hF hLn g7 L.length 0 rows0 els0 xr _ _ (by omega) S0 R0 (by rw [List.drop_zero]; exact hsum) (by simp only [ah, hs1]) (by simp only [go_sem, Nat.reduceLT, Nat.reduceEqDiff, reduceCtorEq, Int.reduceLT, Int.reduceEq, hs1, k6]) (by simp only [go_sem, Nat.reduceLT, Nat.reduceEqDiff, reduceCtorEq, Int.reduceLT, Int.reduceEq, hs1]) (by simp only [go_sem, Nat.reduceLT, Nat.reduceEqDiff, reduceCtorEq, Int.reduceLT, Int.reduceEq, hs1]) (by simp only [go_sem, Nat.reduceLT, Nat.reduceEqDiff, reduceCtorEq, Int.reduceLT, Int.reduceEq, hs1]; rfl) (fun s2 u2 els2 hs2 m6 S2 R2 keep => ?_)
  rw [List.drop_zero] at R2
  have m0 : s2.getD 0 .undef = .ptr p 0 := by rw [keep 0 (by decide) (by decide) (by decide)]; simp only [go_sem, seval, hs1, k0]
  have m4 : s2.getD 4 .undef = .ptr N4 0 := by rw [keep 4 (by decide) (by decide) (by decide)]; simp only [go_sem, seval, hs1, k4]
  clear keep
  have x8 := x5.trans (HExt.ext x7)
  have hD8 := hD.ext x8
  have q8 := (HExt.ext x7).get q5
  have hbp := (gm hr)
  obtain ⟨x33, t33, n33, P33⟩ := vn hD8 hO S2 R2 (by
    have : (om rows0 L).length ≤ 5000 := by
      have := hbp.1
      unfold dl at this
      split at this
      · rename_i c; exact c.2
      · cases this
    omega)
  rw [hr] at P33
  obtain ⟨rfl, elsP, S33, E33⟩ := P33
  have c2 : ¬ (e : Int) = 1073741824 := by omega
  have ld4 : ldO g7 false 1 (.ptr N4 0) = some (vi .i64 e, g7) := bg q8 rfl
  have L4 : ldO g7 true 3 (.ptr N4 0) = some (qi e a pg, g7) := oa q8 rfl
  simp only [go_sem, seval, hs2, m0, m6]
  refine ao (by simp only [List.map, go_sem, seval, hs2, m0, m6]; exact n33) ?_
  simp only [go_sem, seval, hs2, m4, ld4, c2, m0, m6, L4]
  have hbd : bdO [VV.cv (CV.sc Value.nilIface), VV.cv (CV.sc (Value.slice none 0 0)), VV.cv (CV.sc (Value.int IntKind.i64 0)), VV.cv (CV.sc (Value.int IntKind.i64 0)), VV.cv (CV.sc (Value.int IntKind.i64 0)), VV.cv (CV.sc (Value.int IntKind.i64 0)), VV.cv (CV.sc (Value.int IntKind.i64 0))]
      [(0, 1, VV.iface 23 (VV.ptr p 0)), (1, 1, u2), (2, 3, qi e a pg)] = some (.agg [dI p, u2, vi .i64 e, vi .i64 a, vi .i64 pg, vi .i64 0, vi .i64 0]) := by
    rcases S2 with ⟨rfl, _⟩ | ⟨ex, rfl⟩ <;> rfl
  simp only [go_sem, seval, hs2, hbd]
  rw [yn (show [dI p, u2, vi .i64 e, vi .i64 a, vi .i64 pg, vi .i64 0, vi .i64 0].length = 7 from rfl)]
  have x9 := x8.trans (Ext.push g7 (.box [dI p, u2, vi .i64 e, vi .i64 a, vi .i64 pg, vi .i64 0, vi .i64 0] false))
  have q9 : (g7 ++ [VO.box [dI p, u2, vi .i64 e, vi .i64 a, vi .i64 pg, vi .i64 0, vi .i64 0] false])[g7.length]? = some (.box [dI p, u2, vi .i64 e, vi .i64 a, vi .i64 pg, vi .i64 0, vi .i64 0] false) := bp
  have hq : h.length ≤ g7.length := x8.len
  generalize g7 ++ [VO.box [dI p, u2, vi .i64 e, vi .i64 a, vi .i64 pg, vi .i64 0, vi .i64 0] false] = g9 at x9 q9
  generalize g7.length = q at q9 hq
  have hS : StoreAt g9 q p f l ⟨d, om rows0 L, e, a, pg, 0, 0⟩ := ⟨⟨u2, els2, q9, S2, R2⟩, hD.ext x9, by omega⟩
  obtain ⟨v15, g10, n15, rfl, l', M⟩ := Tm hS hr hL ha he (by
    show (om rows0 L).length ≤ _
    have : (om rows0 L).length ≤ 5000 := by
      have := hbp.1
      unfold dl at this
      split at this
      · rename_i c; exact c.2
      · cases this
    omega)
  simp only [go_sem, seval, hs2]
  refine ao (by simp only [List.map, go_sem, seval, hs2]; exact n15) ?_
  simp only [go_sem, seval, hs2]
  refine ⟨q, l', rfl, hq, ⟨M.st.dev, ⟨Nat.le_trans x9.len M.kept.len, fun j hj h1 h2 h3 => ?_⟩, fun i hi => ?_⟩, M.st⟩
  · rw [M.kept.same j (Nat.lt_of_lt_of_le hj x9.len) (by omega) h1 h2 h3, x9.same j hj]
  · rcases M.new i hi with e | e
    · exact .inl e
    · exact .inr (Nat.le_trans x9.len e)
open Go Go.Vm
def lng (x : Ch) : Bool := decide (30 < x.1.length) || decide (150 < x.2.1.length)
theorem Zm {k v : List UInt8} {g : Bool} {c : CV} (hc : SlV 1 (eB v) (.cv c)) : Er F 41 [.agg [txt k, .cv c, vb g]] fun w => w = vb (lng (k, v, g)) := by
 have : Ret F 41 [.agg [txt k, .cv c, vb g]] [] fun v' _ => v' = vb (lng (k, v, g)) := by
  refine bc (fn := f41) rfl ?_
  simp only [f41]
  generalize hs0 : ([.agg [txt k, .cv c, vb g]] ++ List.replicate _ VV.undef : List VV) = s
  have hs : s.length = 13 := by grind
  have h0 : s.getD 0 .undef = .agg [txt k, .cv c, vb g] := by grind
  clear hs0
  simp only [go_sem, seval, hs, h0]
  rw [yn (show [txt k, VV.cv c, vb g].length = 3 from rfl)]
  simp only [go_sem, seval, hs, List.nil_append, List.length_nil]
  have l0 : ldO ([VO.box [txt k, VV.cv c, vb g] false] : ae) false 1 (.ptr 0 0) = some (txt k, [VO.box [txt k, VV.cv c, vb g] false]) := bg rfl rfl
  have l1 : ldO ([VO.box [txt k, VV.cv c, vb g] false] : ae) false 1 (.ptr 0 1) = some (.cv c, [VO.box [txt k, VV.cv c, vb g] false]) := bg rfl rfl
  have r1 : ((30 : Int) < (k.length : Int)) = (30 < k.length) := by grind
  have r2 : ((150 : Int) < (v.length : Int)) = (150 < v.length) := by grind
  by_cases c1 : 30 < k.length
  ·simp only [go_sem, seval, hs, l0, l1, gt_iff_lt, hc.ln, ax, r1, c1]
   simp [lng, c1]
  ·simp only [go_sem, seval, hs, l0, l1, gt_iff_lt, hc.ln, ax, r1, r2, c1]
   by_cases c2 : 150 < v.length <;> simp [lng, c1, c2]
 obtain ⟨w, g1, n1, rfl⟩ := this
 exact ⟨_, _, n1, _, rfl, rfl⟩
theorem f71_loop {ec : List (List CV)} {k : List Ch} {u : VV} (hu : SlV 3 ec u) (hC : ChsE ec k) (hl : k.length <= 1000000000) {h : ae} : ∀ (r i : Nat) (s : List VV) (Q : Pst), i + r = k.length -> s.length = 19 -> s.getD 0 .undef = u -> s.getD 1 .undef = .func 41 [] -> s.getD 7 .undef = vi .i64 k.length -> s.getD 8 .undef = vi .i64 i ->
  ((k.drop i).any lng = false -> ∀ s', s'.length = 19 -> Q (.exit 0) ⟨s', h⟩) -> ((k.drop i).any lng = true -> ∀ s' j, s'.length = 19 -> s'.getD 4 .undef = vi .i64 (j : Nat) -> Q .ret ⟨s', h⟩) -> X F (.loop f71_1) ⟨s, h⟩ Q := by
 intro r
 have hcl := hC.len
 induction r with
 | zero =>
  intro i s Q hi hs e0 e1 e7 e8 hN hY
  have c : ¬ ((i : Nat) : Int) < (k.length : Int) := by omega
  rw [ba, bi f71_1.eq_1]
  simp only [go_sem, seval, hs, e7, e8, c]
  rw [bi f71_0.eq_1]
  simp only [go_sem, seval, hs]
  grind
 | succ r ih =>
  intro i s Q hi hs e0 e1 e7 e8 hN hY
  have c : ((i : Nat) : Int) < (k.length : Int) := by omega
  obtain ⟨e, x, a1, a2, cc, rfl, a3⟩ := hC.get (i := i) (by omega)
  have hd : k.drop i = x :: k.drop (i + 1) := by
   obtain ⟨la, e⟩ := List.getElem?_eq_some_iff.1 a2
   rw [List.drop_eq_getElem_cons la, e]
  have ia : iaO h 3 u (vi .i64 (i : Int)) = some (.rptr [.sc (.string ⟨x.1.toArray⟩), cc, .sc (.bool x.2.2)], h) := hu.ia (by omega) (by grind)
  have la : ldO h true 3 (.rptr [.sc (.string ⟨x.1.toArray⟩), cc, .sc (.bool x.2.2)]) = some (.agg [txt x.1, .cv cc, vb x.2.2], h) := rfl
  have hwr : IntKind.i64.wrap ((i : Int) + 1) = ((i + 1 : Nat) : Int) := by rw [IntWalk.i64_in _ (by omega)]; omega
  obtain ⟨v4, g4, n4, w4, y4, rfl⟩ := Zm (k := x.1) (v := x.2.1) (g := x.2.2) a3
  rw [hd, List.any_cons] at hN hY
  rw [ba, bi f71_1.eq_1]
  simp only [go_sem, seval, hs, e7, e8, c]
  rw [bi f71_0.eq_1]
  simp only [go_sem, seval, hs, e0, e1, e8, ia, la]
  refine As (f := 41) (by simp only [go_sem, seval, hs]) (h1 := h) (by simp only [List.map, go_sem, seval, hs]; rfl) n4 y4 ?_
  cases hp : lng (x.1, x.2.1, x.2.2) with
  | true =>
   have hp : lng x = true := hp
   rw [hp] at hY
   simp only [go_sem, seval, hs]
   exact hY rfl _ i (by simp only [ah, hs]) (by simp only [go_sem, seval, hs])
  | false =>
   have hp : lng x = false := hp
   rw [hp] at hN hY
   simp only [go_sem, seval, hs, e8, hwr]
   exact ih (i + 1) _ Q (by omega) (by simp_all) (by simp_all) (by simp_all) (by simp_all) (by simp_all) (fun e => hN (by simpa using e)) (fun e => hY (by simpa using e))
theorem yg {ec : List (List CV)} {k : List Ch} {u : VV} (hu : SlV 3 ec u) (hC : ChsE ec k) (hl : k.length <= 1000000000) : Er F 40 [u, .func 41 []] fun w => w = vb (k.any lng) := by
 have n71 : ∃ j : Int, (0 <= j ↔ k.any lng = true) /\ Ret F 71 [u, .func 41 []] [] fun v _ => v = vi .i64 j := by
  cases hp : k.any lng with
  | false =>
   refine ⟨-1, by simp, ?_⟩
   refine bc (fn := f71) rfl ?_
   simp only [f71]
   generalize hs0 : ([u, .func 41 []] ++ List.replicate _ VV.undef : List VV) = s
   have hs : s.length = 19 := by grind
   have h0 : s.getD 0 .undef = u := by grind
   have h1 : s.getD 1 .undef = .func 41 [] := by grind
   clear hs0
   simp only [go_sem, Nat.reduceLT, Nat.reduceEqDiff, reduceCtorEq, Int.reduceLT, Int.reduceEq, hs, h0, hu.ln, hC.len]
   refine f71_loop hu hC hl k.length 0 _ _ (by omega) (by grind) (by grind) (by grind) (by grind) (by grind) (fun _ s' hs' => ?_) (fun e => by grind)
   simp only [go_sem, seval, hs']
   all_goals trivial
  | true =>
   suffices h : Ret F 71 [u, .func 41 []] [] fun v _ => ∃ j : Nat, v = vi .i64 (j : Nat) by
    obtain ⟨v, g, n1, j, rfl⟩ := h
    exact ⟨j, by simp, _, _, n1, rfl⟩
   refine bc (fn := f71) rfl ?_
   simp only [f71]
   generalize hs0 : ([u, .func 41 []] ++ List.replicate _ VV.undef : List VV) = s
   have hs : s.length = 19 := by grind
   have h0 : s.getD 0 .undef = u := by grind
   have h1 : s.getD 1 .undef = .func 41 [] := by grind
   clear hs0
   simp only [go_sem, Nat.reduceLT, Nat.reduceEqDiff, reduceCtorEq, Int.reduceLT, Int.reduceEq, hs, h0, hu.ln, hC.len]
   refine f71_loop hu hC hl k.length 0 _ _ (by omega) (by grind) (by grind) (by grind) (by grind) (by grind) (fun e => by grind) (fun _ s' j hs' e4 => ?_)
   simp only [go_sem, seval, hs', e4]
   grind
 obtain ⟨j, hj, v, g, n1, rfl⟩ := n71
 have : Ret F 40 [u, .func 41 []] [] fun v' _ => v' = vb (k.any lng) := by
  have clu : cf ([] : ae) [u, .func 41 []] = some ([u, .func 41 []], []) := by rcases hu with ⟨rfl, _⟩ | ⟨ex, rfl⟩ <;> rfl
  refine bc (fn := f40) rfl ?_
  simp only [f40]
  generalize hs0 : ([u, .func 41 []] ++ List.replicate _ VV.undef : List VV) = s
  have hs : s.length = 9 := by grind
  have h0 : s.getD 0 .undef = u := by grind
  have h1 : s.getD 1 .undef = .func 41 [] := by grind
  clear hs0
  simp only [go_sem, seval, hs, h0, h1]
  refine ap (h1 := []) (by simp only [List.map, go_sem, seval, hs, h0, h1]; exact clu) n1 rfl ?_
  cases hp : k.any lng with
  | true =>
   have c := hj.2 hp
   have c' : (j >= 0) := c
   simp only [go_sem, seval, hs, c']
   all_goals trivial
  | false =>
   have c : ¬ (j >= 0) := fun h => by grind
   simp only [go_sem, seval, hs, c]
   all_goals trivial
 obtain ⟨w, g1, n1, rfl⟩ := this
 exact ⟨_, _, n1, _, rfl, rfl⟩
open Go Go.Vm
theorem anp {t : Nat} {v : VV} : nkO (.iface t v) = some (.iface t v) := rfl
theorem f14_loop {h0 : ae} {q p : Nat} {f l : Option Nat} {ps : List (List UInt8)} {ep : List (List CV)} {up ua : VV} (hE : PgE ep ps) (hu : SlV 1 ep up) (hps : ps.length <= 10000) : ∀ (r i : Nat) (z : S) (l' : Option Nat) (s : List VV) (h : ae) (Q : Pst), i + r = ps.length -> MovedS h0 h q p f l l' z -> z.d.Lim (r + 3) -> z.used <= 10000 ->
  s.length = 152 -> s.getD 0 .undef = .ptr q 0 -> s.getD 5 .undef = ua -> s.getD 10 .undef = up -> s.getD 103 .undef = up -> s.getD 104 .undef = vi .i64 ps.length -> s.getD 105 .undef = vi .i64 i ->
  (∀ s' h' l'', s'.length = 152 -> s'.getD 0 .undef = .ptr q 0 -> s'.getD 5 .undef = ua -> s'.getD 10 .undef = up -> MovedS h0 h' q p f l l'' { z with d := po z.d (2 + z.used + i) (ps.drop i) } -> Q (.exit 1) ⟨s', h'⟩) -> X F (.loop f14_3) ⟨s, h⟩ Q := by
 intro r
 have hel := hE.len
 induction r with
 | zero =>
  intro i z l' s h Q hi M hL hus hs e0 e5 e10 e103 e104 e105 hQ
  have c : ¬ ((i : Nat) : Int) < (ps.length : Int) := by omega
  rw [ba, bi f14_3.eq_1]
  simp only [go_sem, seval, hs, e104, e105, c]
  rw [bi f14_2.eq_1]
  simp only [go_sem, seval, hs]
  refine hQ _ _ l' (by grind) (by grind) (by grind) (by grind) ?_
  rw [List.drop_eq_nil_of_le (by omega)]
  exact M
 | succ r ih =>
  intro i z l' s h Q hi M hL hus hs e0 e5 e10 e103 e104 e105 hQ
  have c : ((i : Nat) : Int) < (ps.length : Int) := by omega
  have hw := hL.w
  have hl := hL.l
  obtain ⟨ca, b, a1, a2, a3⟩ := hE.get (i := i) (by omega)
  have hd : ps.drop i = b :: ps.drop (i + 1) := by
   obtain ⟨la, e⟩ := List.getElem?_eq_some_iff.1 a2
   rw [List.drop_eq_getElem_cons la, e]
  have ia : iaO h 1 up (vi .i64 (i : Int)) = some (.rptr [ca], h) := hu.ia (by omega) (by grind)
  have la : ldO h false 1 (.rptr [ca]) = some (.cv ca, h) := ij
  obtain ⟨u0, els0, hb, b2, b3⟩ := M.st.box
  have l0 : ldO h false 1 (.ptr q 0) = some (dI p, h) := bg hb rfl
  have l5 : ldO h false 1 (.ptr q 5) = some (vi .i64 z.used, h) := bg hb rfl
  obtain ⟨v2, g2, n2, W2⟩ := wm M.st.dev hL.ok (by omega) (by omega) ((2 + z.used + i : Nat) : Int) b (.cv ca) a3
  obtain ⟨l2, M2⟩ := W2.m
  have M3 := M.trans (M.st.moved M2)
  have w1 : IntKind.i64.wrap (2 + (z.used : Int)) = ((2 + z.used : Nat) : Int) := by rw [IntWalk.i64_in _ (by omega)]; omega
  have w2 : IntKind.i64.wrap (((2 + z.used : Nat) : Int) + (i : Int)) = ((2 + z.used + i : Nat) : Int) := by rw [IntWalk.i64_in _ (by omega)]; omega
  have hwr : IntKind.i64.wrap ((i : Int) + 1) = ((i + 1 : Nat) : Int) := by rw [IntWalk.i64_in _ (by omega)]; omega
  rw [ba, bi f14_3.eq_1]
  simp only [go_sem, seval, hs, e104, e105, c]
  rw [bi f14_2.eq_1]
  simp only [go_sem, seval, hs, e103, e105, ia, la]
  refine nv rfl ?_
  simp only [go_sem, seval, hs, e0, l0, l5, w1, w2, anp]
  refine aco (t := 23) (u := .ptr p 0) (f := 31) (by simp only [go_sem, seval, hs]) rfl (by simp only [List.map, go_sem, seval, hs]; exact n2) ?_
  simp only [go_sem, seval, hs, e105, hwr]
  refine ih (i + 1) _ l2 _ _ Q (by omega) M3 (rr (hL.le (by omega)) _ _) hus (by simp_all) (by simp_all) (by simp_all) (by simp_all) (by simp_all) (by simp_all) (by simp_all) (fun s' h' l'' k1 k2 k3 k4 k5 => hQ s' h' l'' k1 k2 k3 k4 ?_)
  rw [hd]
  exact k5
def uh (z : S) (c : List Ch) (ps : List (List UInt8)) : S := { z with d := (po z.d (2 + z.used) ps).flush, rows := cj z.rows c, used := z.used + ps.length, fr := z.fr + 1 }
def bw (z : S) (c : List Ch) : S × Nat :=
  if c = [] then (z, 0) else if c.any lng = true then (z, 3) else
  match ej z.d.firm.length (cj z.rows c), er z.e z.fr c with
  | some _, some ps => if (bk z.d.firm.length).1 < ps.length then (z, 21) else
      if (bk z.d.firm.length).1 < z.used + ps.length then
        match ej z.d.firm.length z.rows with
        | some pg => match er (z.e + 1 : Nat) 0 c with
          | some ps' => (uh (ckF z pg) c ps', 0)
          | none => (z, 21)
        | none => (z, 21)
      else (uh z c ps, 0)
  | _, _ => (z, 21)
structure PreC (z : S) (c : List Ch) : Prop where
 ok : z.d.OK
 rows : z.rows.length <= 50000
 cl : c.length <= 5000
 cb : (gu c).length <= 1000000
 cv : ∀ x ∈ c, x.2.1.length <= 1000000000
theorem Do {h : ae} {q p : Nat} {f l : Option Nat} {z : S} {uc : VV} (hu : SlV 3 [] uc) : call F 14 [.ptr q 0, uc] h = some (.ret (vi .u16 0), h) := by
 have : Ret F 14 [.ptr q 0, uc] h fun v g => v = vi .u16 0 /\ g = h := by
  refine bc (fn := f14) rfl ?_
  simp only [f14]
  generalize hs0 : ([.ptr q 0, uc] ++ List.replicate _ VV.undef : List VV) = s
  have hs : s.length = 152 := by grind
  have h0 : s.getD 0 .undef = .ptr q 0 := by grind
  have h1 : s.getD 1 .undef = uc := by grind
  clear hs0
  have c0 : ((0 : Nat) : Int) = 0 := rfl
  simp only [go_sem, seval, hs, h0, h1, hu.ln, List.length_nil, c0]
  grind
 obtain ⟨v, g, e, rfl, rfl⟩ := this
 exact e
theorem Mc {h0' h : ae} {q : Nat} {ec : List (List CV)} {c : List Ch} {uo uc : VV} (hu : SlV 3 ec uc) (hC : ChsE ec c) (hl : c.length <= 5000) (hn : c ≠ []) (hlg : c.any lng = true) (hln : lnO false uo = some (vi .i64 ec.length)) (cl : cf h0' [uo, .func 41 []] = some ([uc, .func 41 []], h)) : call F 14 [.ptr q 0, uo] h0' = some (.ret (vi .u16 3), h) := by
 have : Ret F 14 [.ptr q 0, uo] h0' fun v g => v = vi .u16 3 /\ g = h := by
  obtain ⟨v4, g4, n4, w4, y4, rfl⟩ := yg hu hC (by omega)
  have hpos : 0 < c.length := List.length_pos_iff.2 hn
  have c1 : ¬ ((c.length : Int) = 0) := by omega
  refine bc (fn := f14) rfl ?_
  simp only [f14]
  generalize hs0 : ([.ptr q 0, uo] ++ List.replicate _ VV.undef : List VV) = s
  have hs : s.length = 152 := by grind
  have h0 : s.getD 0 .undef = .ptr q 0 := by grind
  have h1 : s.getD 1 .undef = uo := by grind
  clear hs0
  simp only [go_sem, seval, hs, h0, h1, hln, hC.len, c1]
  refine ap (h1 := h) (by simp only [List.map, go_sem, seval, hs, h1]; exact cl) n4 y4 ?_
  simp only [go_sem, seval, hs, hlg]
  grind
 obtain ⟨v, g, e, rfl, rfl⟩ := this
 exact e
def f14_t : IR :=
 (.seq
 (.seq (.reg [
 ⟨none, (some 103), (.mv (.t 10))⟩,
 ⟨none, (some 104), (.len false (.t 103))⟩,
 ⟨none, (some 105), (.mv (.c (.cv (.sc (.int .i64 0)))))⟩])
 (.block 1 (.loop f14_3)))
 (.seq (.reg [
 ⟨none, (some 126), (.mv (.t 0))⟩,
 ⟨none, (some 127), (.nilck (.t 126))⟩,
 ⟨none, (some 128), (.fad 0 (.t 127))⟩,
 ⟨none, (some 129), (.ld false 1 (.t 128))⟩,
 ⟨none, (some 130), (.inv [(23, 32)] (.t 129) [])⟩])
 (.seq (.reg [
 ⟨none, (some 131), (.mv (.t 0))⟩,
 ⟨none, (some 132), (.mv (.t 0))⟩,
 ⟨none, (some 133), (.mv (.t 5))⟩,
 ⟨none, (some 134), (.mv (.t 0))⟩,
 ⟨none, (some 135), (.nilck (.t 134))⟩,
 ⟨none, (some 136), (.fad 5 (.t 135))⟩,
 ⟨none, (some 137), (.ld false 1 (.t 136))⟩,
 ⟨none, (some 138), (.mv (.t 10))⟩,
 ⟨none, (some 139), (.len false (.t 138))⟩,
 ⟨none, (some 140), (.bin .add (.t 137) (.t 139))⟩,
 ⟨none, (some 141), (.nilck (.t 131))⟩,
 ⟨none, (some 142), (.fad 1 (.t 141))⟩,
 ⟨none, none, (.st 1 (.t 142) (.t 133))⟩,
 ⟨none, (some 143), (.nilck (.t 132))⟩,
 ⟨none, (some 144), (.fad 5 (.t 143))⟩,
 ⟨none, none, (.st 1 (.t 144) (.t 140))⟩])
 (.seq (.reg [
 ⟨none, (some 145), (.mv (.t 0))⟩,
 ⟨none, (some 146), (.nilck (.t 145))⟩,
 ⟨none, (some 147), (.fad 6 (.t 146))⟩,
 ⟨none, (some 148), (.ld false 1 (.t 147))⟩,
 ⟨none, (some 149), (.bin .add (.t 148) (.c (.cv (.sc (.int .i64 1)))))⟩,
 ⟨none, (some 150), (.nilck (.t 145))⟩,
 ⟨none, (some 151), (.fad 6 (.t 150))⟩,
 ⟨none, none, (.st 1 (.t 151) (.t 149))⟩])
 (.seq (.reg [
 ⟨none, (some 4), (.mv (.c (.cv (.sc (.int .u16 0)))))⟩])
 .ret)))))
theorem Kx {h g : ae} {q p : Nat} {f l l' : Option Nat} {z' : S} {c : List Ch} {w39 up : VV} {els9 ep : List (List CV)} {ps' : List (List UInt8)} {s2 : List VV} (S9 : SlV 2 els9 w39) (R9 : RowsE els9 (cj z'.rows c)) (hs2 : s2.length = 152) (m0 : s2.getD 0 .undef = .ptr q 0) (m5 : s2.getD 5 .undef = w39) (m10 : s2.getD 10 .undef = up)
  (Sp : SlV 1 ep up) (Ep : PgE ep ps') (M : MovedS h g q p f l l' z') (L2 : z'.d.Lim 1900) (hus2 : z'.used <= 2000) (hps : ps'.length <= 1024) (hfr2 : z'.fr < 1073741824) :
  X F f14_t ⟨s2, g⟩ (RQ [.t 4] fun v g => v = vi .u16 0 /\ ∃ l', MovedS h g q p f l l' (uh z' c ps')) := by
 rw [bi f14_t.eq_1]
 have hel := Ep.len
 simp only [go_sem, Nat.reduceLT, Nat.reduceEqDiff, reduceCtorEq, Int.reduceLT, Int.reduceEq, hs2, m10, Sp.ln, hel]
 refine f14_loop (ua := w39) Ep Sp (by omega) ps'.length 0 z' l' _ _ _ (by omega) M (L2.le (by omega)) (by omega) (by grind) (by grind) (by grind) (by grind) (by grind) (by grind) (by grind) (fun s3 g3 l3 hs3 j0 j5 j10 M3 => ?_)
 rw [List.drop_zero] at M3
 have L3 : (po z'.d (2 + z'.used + 0) ps').Lim 3 := nj _ _ _ _ (L2.le (by omega))
 have hf3 := L3.f
 obtain ⟨v5, g5, n5, W5⟩ := vk M3.st.dev L3.ok (by grind)
 obtain ⟨l5', M5⟩ := W5.m
 have M4 := M3.trans (M3.st.moved M5)
 obtain ⟨u3, els3, hb3, hU3, hR3⟩ := M3.st.box
 have e0 : ldO g3 false 1 (.ptr q 0) = some (dI p, g3) := bg hb3 rfl
 obtain ⟨u4, els4, hb4, hU4, hR4⟩ := M4.st.box
 have d5 : ldO g5 false 1 (.ptr q 5) = some (vi .i64 z'.used, g5) := bg hb4 rfl
 have w7 : IntKind.i64.wrap ((z'.used : Int) + (ps'.length : Int)) = ((z'.used + ps'.length : Nat) : Int) := by rw [IntWalk.i64_in _ (by omega)]; omega
 have w8 : IntKind.i64.wrap ((z'.fr : Int) + 1) = ((z'.fr + 1 : Nat) : Int) := by rw [IntWalk.i64_in _ (by omega)]; omega
 have cw : en w39 = true := by rcases S9 with ⟨rfl, _⟩ | ⟨ex, rfl⟩ <;> rfl
 have t1 := Af (v := w39) cw hb4 (show 1 < 7 by decide)
 simp only [List.set_cons_succ, List.set_cons_zero] at t1
 have hb5 := List.getElem?_set_self (a := VO.box [dI p, w39, vi .i64 z'.e, vi .i64 z'.a, vi .i64 z'.pn, vi .i64 z'.used, vi .i64 z'.fr] false) (az hb4)
 have t5 := Af (v := vi .i64 ((z'.used + ps'.length : Nat) : Int)) rfl hb5 (show 5 < 7 by decide)
 simp only [List.set_cons_succ, List.set_cons_zero, List.set_set] at t5
 have hb6 := List.getElem?_set_self (a := VO.box [dI p, w39, vi .i64 z'.e, vi .i64 z'.a, vi .i64 z'.pn, vi .i64 ((z'.used + ps'.length : Nat) : Int), vi .i64 z'.fr] false) (az hb4)
 have d6 : ldO (g5.set q (VO.box [dI p, w39, vi .i64 z'.e, vi .i64 z'.a, vi .i64 z'.pn, vi .i64 ((z'.used + ps'.length : Nat) : Int), vi .i64 z'.fr] false)) false 1 (.ptr q 6) = some (vi .i64 z'.fr, _) := bg hb6 rfl
 have t6 := Af (v := vi .i64 ((z'.fr + 1 : Nat) : Int)) rfl hb6 (show 6 < 7 by decide)
 simp only [List.set_cons_succ, List.set_cons_zero, List.set_set] at t6
 simp only [go_sem, seval, hs3, j0, e0]
 refine tr (t := 23) (u := .ptr p 0) (f := 32) (by simp only [go_sem, seval, hs3]) rfl (by simp only [List.map, go_sem, seval, hs3]; exact n5) ?_
 simp only [go_sem, seval, hs3, j0, j5, j10, Sp.ln, hel, d5, w7, t1, t5, d6, w8, t6]
 exact ⟨trivial, l5', M4.trans (M4.st.turn (s' := uh z' c ps') S9 (R9) rfl)⟩
theorem Ni {r : Option (List (List UInt8))} {ps : List (List UInt8)} {w : VV} (h : Hs r w) (e : r = some ps) : ∃ x els, w = .tup [x, vb true] /\ SlV 1 els x /\ PgE els ps := by subst e; exact h
theorem Ui {r : Option (List (List UInt8))} {w : VV} (h : Hs r w) : ∃ xp tp, w = .tup [xp, vb tp] /\ (∀ ps, r = some ps -> tp = true /\ ∃ elsP, SlV 1 elsP xp /\ PgE elsP ps) /\ (r = none -> tp = false /\ xp = ct) := by
 cases r with
 | none => exact ⟨_, _, h, fun ps e => (by cases e), fun _ => ⟨rfl, rfl⟩⟩
 | some ps => obtain ⟨x, e, a1, a2, a3⟩ := h; grind
theorem Rk {e n : Int} {ps : List (List UInt8)} {ec : List (List CV)} {c : List Ch} {uc : VV} (hu : SlV 3 ec uc) (hC : ChsE ec c) (h1 : (gu c).length <= 1000000) (h2 : c.length <= 1000000) (h : er e n c = some ps) :
  Er F 19 [vi .i64 e, vi .i64 n, uc] fun w => ∃ x els, w = .tup [x, vb true] /\ SlV 1 els x /\ PgE els ps := by
 obtain ⟨v, g, n1, w, y, P⟩ := Ja (epoch := e) (n := n) hu hC h1 h2
 exact ⟨v, g, n1, w, y, Ni P h⟩
theorem ve {n : Nat} : ks (n : Int) = true ↔ n <= 1073741824 := by unfold ks; simp; omega
theorem xg {e n e' : Nat} {c : List Ch} {ps : List (List UInt8)} (h : er e n c = some ps) (he : e' <= 1073741824) : ∃ ps', er (e' : Int) 0 c = some ps' /\ ps'.length = ps.length := by
 have hn1 := ve.2 he
 have hn0 : ks 0 = true := by unfold ks; simp
 unfold er at h |-
 generalize ks (e' : Int) = x1 at hn1
 generalize ks (0 : Int) = x2 at hn0
 subst hn1 hn0
 by_cases hx : ks (e : Int) = true /\ ks (n : Int) = true /\ (pcs 49 (gu c)).length <= 200
 ·rw [if_pos hx] at h
  have h := Option.some.inj h
  refine ⟨_, if_pos ⟨rfl, rfl, hx.2.2⟩, ?_⟩
  rw [<- h, kq, kq]
 grind
theorem We {h g15 : ae} {q p : Nat} {f l l15 : Option Nat} {z : S} {elsP eq : List (List CV)} {c : List Ch} {uo uc xp xq w39 : VV} {ps ps' pg0 : List (List UInt8)} {s1 : List VV} (hcl : gc g15 uo = some (uc, g15))
  (l5 : ldO h false 1 (.ptr q 5) = some (vi .i64 z.used, h)) {v20 : VV} {g20 : ae} (n20 : call F 19 [vi .i64 ((z.e + 1 : Nat) : Int), vi .i64 0, uc] [] = some (.ret v20, g20)) (y20 : au g20 v20 = some (.tup [xq, vb true])) (S20 : SlV 1 eq xq) (E20 : PgE eq ps')
  (n15 : call F 15 [.ptr q 0] h = some (.ret (vi .u16 0), g15)) (M15 : MovedS h g15 q p f l l15 (ckF z pg0)) (hL15 : (ckF z pg0).d.Lim 1900) (hpl : ps'.length <= 1024)
  (hs1 : s1.length = 152) (k0 : s1.getD 0 .undef = .ptr q 0) (k1 : s1.getD 1 .undef = uo) (k5 : s1.getD 5 .undef = w39) (k6 : s1.getD 6 .undef = vi .i64 ((bk z.d.firm.length).1 : Nat)) (k10 : s1.getD 10 .undef = xp) (S19 : SlV 1 elsP xp) (hplen : elsP.length = ps.length) (c3 : (bk z.d.firm.length).1 < z.used + ps.length) (hus : z.used + ps.length <= 100000)
  (hcc : bw z c = (uh (ckF z pg0) c ps', 0)) :
  X F f14_1 ⟨s1, h⟩ fun o st' => o = .norm /\ (fun s g => ∃ z' l' up ep ps', s.length = 152 /\ s.getD 0 .undef = .ptr q 0 /\ s.getD 5 .undef = w39 /\ s.getD 10 .undef = up /\ SlV 1 ep up /\ PgE ep ps' /\ MovedS h g q p f l l' z' /\ z'.d.Lim 1900 /\ z'.rows = z.rows /\ bw z c = (uh z' c ps', 0) /\ z'.used <= 2000 /\ ps'.length <= 1024 /\ z'.fr < 1073741824) st'.s st'.h := by
 have cl19 : ∀ a b : Int, cf g15 [vi .i64 a, vi .i64 b, uo] = some ([vi .i64 a, vi .i64 b, uc], g15) := fun a b => bf rfl (bf rfl (bf hcl rfl))
 rw [bi f14_1.eq_1]
 have w5 : IntKind.i64.wrap ((z.used : Int) + (ps.length : Int)) = ((z.used + ps.length : Nat) : Int) := by rw [IntWalk.i64_in _ (by omega)]; omega
 have r2 : (((z.used + ps.length : Nat) : Int) > ((bk z.d.firm.length).1 : Int)) = ((bk z.d.firm.length).1 < z.used + ps.length) := by grind
 obtain ⟨u9, els15, hb9, hU9, hR9⟩ := M15.st.box
 have e2 : ldO g15 false 1 (.ptr q 2) = some (vi .i64 ((z.e + 1 : Nat) : Int), g15) := bg hb9 rfl
 have e6 : ldO g15 false 1 (.ptr q 6) = some (vi .i64 0, g15) := bg hb9 rfl
 have w16 : ¬ (0 : Int) ≠ 0 := by decide
 simp only [go_sem, seval, hs1, k0, l5, k10, S19.ln, hplen, w5, k6, r2, c3]
 refine ao (by simp only [List.map, go_sem, seval, hs1]; exact n15) ?_
 simp only [go_sem, seval, hs1]
 refine Ho fun s5 es5 => ?_
 have hs5 : s5.length = 152 := by simp_all
 have j0 : s5.getD 0 .undef = .ptr q 0 := by rw [es5]; simp_all
 have j1 : s5.getD 1 .undef = uo := by rw [es5]; simp only [go_sem, seval, hs1, k1]
 have j5 : s5.getD 5 .undef = w39 := by rw [es5]; simp only [go_sem, seval, hs1, k5]
 clear es5
 refine nv rfl ?_
 simp only [go_sem, seval, hs5, j0, e2, e6, j1]
 refine vx (by simp only [List.map, go_sem, seval, hs5]; grind) n20 y20 ?_
 simp only [go_sem, seval, hs5]
 exact ⟨trivial, ckF z pg0, l15, xq, eq, ps', by grind, by omega, by omega, by grind, S20, E20, M15, hL15, rfl, hcc, Nat.zero_le _, hpl, by show 0 < 1073741824; omega⟩
def UV (h : ae) (q p : Nat) (f l : Option Nat) (uo uc : VV) : Prop := ∀ g, KeptS h g q p f l -> gc g uo = some (uc, g)
theorem Qx {h : ae} {q p : Nat} {f l : Option Nat} {z : S} (hS0 : StoreAt h q p f l z) {ec elsP : List (List CV)} {c : List Ch} {uo uc xp w39 : VV} {ps pg0 : List (List UInt8)} {s1 : List VV} (hu : SlV 3 ec uc) (hV : UV h q p f l uo uc) (hC : ChsE ec c) (hP : PreC z c) (hr0 : ej z.d.firm.length z.rows = some pg0) (ha : z.a ≤ 1) (he : z.e < 1073741823) (hfr : z.fr < 1073741824) (hus : z.used ≤ 2000) (hL : z.d.Lim 4000)
    (hs1 : s1.length = 152) (k0 : s1.getD 0 .undef = .ptr q 0) (k1 : s1.getD 1 .undef = uo) (k5 : s1.getD 5 .undef = w39) (k6 : s1.getD 6 .undef = vi .i64 ((bk z.d.firm.length).1 : Nat)) (k10 : s1.getD 10 .undef = xp) (S19 : SlV 1 elsP xp) (E19 : PgE elsP ps) (hpf : er z.e z.fr c = some ps) (c2 : ¬ (bk z.d.firm.length).1 < ps.length)
    (cc : bw z c = if (bk z.d.firm.length).1 < z.used + ps.length then
        match ej z.d.firm.length z.rows with
        | some pg => match er (z.e + 1 : Nat) 0 c with
          | some ps' => (uh (ckF z pg) c ps', 0)
          | none => (z, 21)
        | none => (z, 21)
      else (uh z c ps, 0)) :
    X F f14_1 ⟨s1, h⟩ fun o st' => o = .norm ∧ (fun s g => ∃ z' l' up ep ps', s.length = 152 ∧ s.getD 0 .undef = .ptr q 0 ∧ s.getD 5 .undef = w39 ∧ s.getD 10 .undef = up ∧ SlV 1 ep up ∧ PgE ep ps' ∧ MovedS h g q p f l l' z' ∧ z'.d.Lim 1900 ∧ z'.rows = z.rows ∧ bw z c = (uh z' c ps', 0) ∧ z'.used ≤ 2000 ∧ ps'.length ≤ 1024 ∧ z'.fr < 1073741824) st'.s st'.h := by
  obtain ⟨u, els, hb, hU, hR⟩ := hS0.box
  have hpt := iz hL.ok.n
  have hll := hP.rows
  have hcl := hP.cl
  have hplen := E19.len
  have l5 : ldO h false 1 (.ptr q 5) = some (vi .i64 z.used, h) := bg hb rfl
  have w5 : IntKind.i64.wrap ((z.used : Int) + (ps.length : Int)) = ((z.used + ps.length : Nat) : Int) := by rw [IntWalk.i64_in _ (by omega)]; omega
  have r2 : (((z.used + ps.length : Nat) : Int) > ((bk z.d.firm.length).1 : Int)) = ((bk z.d.firm.length).1 < z.used + ps.length) := by apply propext; omega
  by_cases c3 : (bk z.d.firm.length).1 < z.used + ps.length
  · obtain ⟨hb0, hpl0⟩ := gm hr0
    obtain ⟨v15, g15, n15, rfl, l15, M15⟩ := Tm hS0 hr0 (hL.le (by omega)) ha (by omega) (by omega)
    obtain ⟨ps', hp20, hpl⟩ := xg hpf (e' := z.e + 1) (by omega)
    obtain ⟨v20, g20, n20, w20, y20, xq, eq, rfl, S20, E20⟩ := Rk hu hC hP.cb (by omega) hp20
    refine We (hV _ M15.kept) l5 n20 y20 S20 E20 n15 M15 (zl (by rw [ou hr0]; exact hL.le (by omega))) (by omega) hs1 k0 k1 k5 k6 k10 S19 hplen c3 (by omega) ?_
    rw [cc, if_pos c3, hr0, hp20]
  · rw [bi f14_1.eq_1]
    simp only [go_sem, seval, hs1, k0, l5, k10, S19.ln, hplen, w5, k6, r2, c3]
    simp only [if_neg c3] at cc
    exact ⟨trivial, z, l, xp, elsP, ps, by simp only [ah, hs1], by simp only [go_sem, seval, hs1, k0], by simp only [go_sem, seval, hs1, k5], by simp only [go_sem, seval, hs1, k10], S19, E19, MovedS.refl hS0, hL.le (by omega), rfl, cc, hus, by omega, hfr⟩
theorem Eg {h0' h : ae} {q p : Nat} {f l : Option Nat} {z : S} (hS : StoreAt h q p f l z) {ec : List (List CV)} {c : List Ch} {uo uc : VV} (hu : SlV 3 ec uc) (hln : lnO false uo = some (vi .i64 ec.length)) (cl40 : cf h0' [uo, .func 41 []] = some ([uc, .func 41 []], h)) (hV : UV h q p f l uo uc) (hC : ChsE ec c) (hP : PreC z c) {pg0 : List (List UInt8)} (hr0 : ej z.d.firm.length z.rows = some pg0) (ha : z.a <= 1) (he : z.e < 1073741823) (hfr : z.fr < 1073741824) (hus : z.used <= 2000) (hL : z.d.Lim 4000) (hn : c ≠ []) :
  Ret F 14 [.ptr q 0, uo] h0' fun v g => v = vi .u16 (bw z c).2 /\ ∃ l', MovedS h g q p f l l' (bw z c).1 := by
 by_cases hlg : c.any lng = true
 ·have e := Mc (q := q) hu hC hP.cl hn hlg hln cl40
  have ec : bw z c = (z, 3) := by unfold bw; rw [if_neg hn, if_pos hlg]
  rw [ec]
  exact ⟨_, _, e, rfl, l, MovedS.refl hS⟩
 have hlg' : c.any lng = false := by simpa using hlg
 have hS0 := hS
 obtain ⟨⟨u, els, hb, hU, hR⟩, hD, hqp⟩ := hS
 have hO := hL.ok
 have hnn := hO.n
 have hpt := iz hnn
 have hll := hP.rows
 have hcl := hP.cl
 obtain ⟨v40, g40, n40, w40, y40, rfl⟩ := yg hu hC (by omega)
 obtain ⟨v39, g39, n39, w39, y39, els9, S9, R9⟩ := Xc hU hR (by omega) hC hu (by omega) hP.cv
 have hal := Bb c z.rows
 obtain ⟨v3, g3, n3, w3, y3, rfl⟩ := ub (n := (z.d.firm.length : Int)) (by omega) (by omega)
 have eN : ((z.d.firm.length : Int)).toNat = z.d.firm.length := rfl
 rw [eN] at y3
 obtain ⟨x33, t33, n33, P33⟩ := vn hD hO S9 R9 (by omega)
 obtain ⟨v19, g19, n19, w19, y19, P19⟩ := Ja (epoch := (z.e : Int)) (n := (z.fr : Int)) hu hC hP.cb (by omega)
 have hpos : 0 < c.length := List.length_pos_iff.2 hn
 have c1 : ¬ ((c.length : Int) = 0) := by omega
 have hcl : gc h uo = some (uc, h) := hV h (KeptS.refl _ _ _ _ _)
 have cl39 : cf h [u, uo] = some ([u, uc], h) := bf (by rcases hU with ⟨rfl, _⟩ | ⟨ex, rfl⟩ <;> rfl) (bf hcl rfl)
 have cl19 : ∀ a b : Int, cf h [vi .i64 a, vi .i64 b, uo] = some ([vi .i64 a, vi .i64 b, uc], h) := fun a b => bf rfl (bf rfl (bf hcl rfl))
 have l0 : ldO h false 1 (.ptr q 0) = some (dI p, h) := bg hb rfl
 have l1 : ldO h false 1 (.ptr q 1) = some (u, h) := bg hb rfl
 have l2 : ldO h false 1 (.ptr q 2) = some (vi .i64 z.e, h) := bg hb rfl
 have l6 : ldO h false 1 (.ptr q 6) = some (vi .i64 z.fr, h) := bg hb rfl
 have l5 : ldO h false 1 (.ptr q 5) = some (vi .i64 z.used, h) := bg hb rfl
 obtain ⟨xp, tp, rfl, hpS, hpN⟩ := Ui P19
 refine eE2 (fn := f14) (n := 152) rfl rfl fun s hs h0 h1 => ?_
 simp only [f14]
 simp only [go_sem, seval, hs, h0, h1, hln, hC.len, c1]
 refine ap (h1 := h) (by simp only [List.map, go_sem, seval, hs, h1]; exact cl40) n40 y40 ?_
 simp only [go_sem, seval, hs, hlg', h0, h1, l1]
 refine ap (h1 := h) (by simp only [List.map, go_sem, seval, hs, h1]; exact cl39) n39 y39 ?_
 simp only [go_sem, seval, hs, h0, l0]
 refine tr (t := 23) (u := .ptr p 0) (f := 29) (by simp only [go_sem, seval, hs]) rfl (by simp only [List.map, go_sem, seval, hs]; exact rj hD) ?_
 simp only [go_sem, seval, hs]
 refine ap (h1 := h) (by simp only [List.map, go_sem, seval, hs]; rfl) n3 y3 ?_
 simp only [go_sem, seval, hs, h0, l0]
 refine ao (by simp only [List.map, go_sem, seval, hs]; exact n33) ?_
 simp only [go_sem, seval, hs]
 refine nv rfl ?_
 simp only [go_sem, seval, hs, h0, h1, l2, l6]
 refine vx (by simp only [List.map, go_sem, seval, hs, h1]; exact cl19 _ _) n19 y19 ?_
 simp only [go_sem, seval, hs]
 refine Ho fun s1 es1 => ?_
 have hs1 : s1.length = 152 := by rw [es1]; simp only [ah, hs]
 have k0 : s1.getD 0 .undef = .ptr q 0 := by rw [es1]; simp only [go_sem, seval, hs, h0]
 have k1 : s1.getD 1 .undef = uo := by rw [es1]; simp only [go_sem, seval, hs, h1]
 have k5 : s1.getD 5 .undef = w39 := by rw [es1]; simp only [go_sem, seval, hs]
 have k6 : s1.getD 6 .undef = vi .i64 ((bk z.d.firm.length).1 : Nat) := by rw [es1]; simp only [go_sem, seval, hs]
 have k9 : s1.getD 9 .undef = vb t33 := by rw [es1]; simp only [go_sem, seval, hs]
 have k10 : s1.getD 10 .undef = xp := by rw [es1]; simp only [go_sem, seval, hs]
 have k11 : s1.getD 11 .undef = vb tp := by rw [es1]; simp only [go_sem, seval, hs]
 clear es1
 have cc : bw z c = match ej z.d.firm.length (cj z.rows c), er z.e z.fr c with
  | some _, some ps => if (bk z.d.firm.length).1 < ps.length then (z, 21) else
   if (bk z.d.firm.length).1 < z.used + ps.length then
    match ej z.d.firm.length z.rows with
    | some pg => match er (z.e + 1 : Nat) 0 c with
     | some ps' => (uh (ckF z pg) c ps', 0)
     | none => (z, 21)
    | none => (z, 21)
   else (uh z c ps, 0)
  | _, _ => (z, 21) := by unfold bw; rw [if_neg hn, if_neg (by rw [hlg']; decide)]
 rw [bi f14_0.eq_1]
 cases hrm : ej z.d.firm.length (cj z.rows c) with
 | none =>
  rw [hrm] at P33 cc
  obtain rfl : t33 = false := P33
  simp only [go_sem, seval, hs1, k9]
  rw [cc]
  exact ⟨rfl, l, MovedS.refl hS0⟩
 | some pgA =>
  rw [hrm] at P33 cc
  obtain ⟨rfl, _⟩ := P33
  cases hpf : er z.e z.fr c with
  | none =>
   rw [hpf] at cc
   obtain ⟨rfl, rfl⟩ := hpN hpf
   simp only [go_sem, seval, hs1, k9, k11]
   rw [cc]
   exact ⟨rfl, l, MovedS.refl hS0⟩
  | some ps =>
   rw [hpf] at cc
   obtain ⟨rfl, elsP, S19, E19⟩ := hpS ps hpf
   have hplen := E19.len
   have r1 : ((ps.length : Int) > ((bk z.d.firm.length).1 : Int)) = ((bk z.d.firm.length).1 < ps.length) := by apply propext; omega
   by_cases c2 : (bk z.d.firm.length).1 < ps.length
   ·simp only [go_sem, seval, hs1, k9, k11, k10, S19.ln, hplen, k6, r1, c2]
    simp only [if_pos c2] at cc
    rw [cc]
    exact ⟨rfl, l, MovedS.refl hS0⟩
   ·simp only [go_sem, seval, hs1, k9, k11, k10, S19.ln, hplen, k6, r1, c2]
    simp only [if_neg c2] at cc
    refine alv (fun s g => ∃ z' l' up ep ps', s.length = 152 /\ s.getD 0 .undef = .ptr q 0 /\ s.getD 5 .undef = w39 /\ s.getD 10 .undef = up /\ SlV 1 ep up /\ PgE ep ps' /\ MovedS h g q p f l l' z' /\ z'.d.Lim 1900 /\ z'.rows = z.rows /\ bw z c = (uh z' c ps', 0) /\ z'.used <= 2000 /\ ps'.length <= 1024 /\ z'.fr < 1073741824) (Qx hS0 hu hV hC hP hr0 ha he hfr hus hL (by simp only [ah, hs1]) (by simp only [go_sem, seval, hs1, k0]) (by simp only [go_sem, seval, hs1, k1]) (by simp only [go_sem, seval, hs1, k5]) (by simp only [go_sem, seval, hs1, k6]) (by simp only [go_sem, seval, hs1, k10]) S19 E19 hpf c2 cc) ?_
    rintro s2 g2 ⟨z', l', up, ep, ps', hs2, m0, m5, m10, Sp, Ep, M, L2, hrows, hcc, hus2, hps, hfr2⟩
    rw [hcc]
    exact Kx S9 (by rw [hrows]; exact R9) hs2 m0 m5 m10 Sp Ep M L2 hus2 hps hfr2
theorem Dh {h : ae} {q p : Nat} {f l : Option Nat} {z : S} (hS : StoreAt h q p f l z) {ec : List (List CV)} {c : List Ch} {uc : VV} (hu : SlV 3 ec uc) (hC : ChsE ec c) (hP : PreC z c) {pg0 : List (List UInt8)} (hr0 : ej z.d.firm.length z.rows = some pg0) (ha : z.a <= 1) (he : z.e < 1073741823) (hfr : z.fr < 1073741824) (hus : z.used <= 2000) (hL : z.d.Lim 4000) :
  Ret F 14 [.ptr q 0, uc] h fun v g => v = vi .u16 (bw z c).2 /\ ∃ l', MovedS h g q p f l l' (bw z c).1 := by
 by_cases hn : c = []
 ·subst hn
  have : ec = [] := List.eq_nil_of_length_eq_zero (by have := hC.len; simpa using this)
  subst this
  have e := Do (q := q) (h := h) (p := p) (f := f) (l := l) (z := z) hu
  have ec : bw z [] = (z, 0) := by unfold bw; rw [if_pos rfl]
  rw [ec]
  exact ⟨_, _, e, rfl, l, MovedS.refl hS⟩
 exact Eg hS hu hu.ln (by rcases hu with ⟨rfl, _⟩ | ⟨ex, rfl⟩ <;> rfl) (fun g _ => by rcases hu with ⟨rfl, _⟩ | ⟨ex, rfl⟩ <;> rfl) hC hP hr0 ha he hfr hus hL hn
open Go Go.Vm
abbrev Sec := List (List UInt8)
def pl (f : Sec) (l : List (Nat × List UInt8)) : Sec := l.foldl (fun f o => f.set o.1 o.2) f
def wl (a : Nat) : List (List UInt8) -> List (Nat × List UInt8)
 | [] => []
 | b :: L => (a, pad b) :: wl (a + 1) L
theorem ac2 : ∀ (L : List (List UInt8)) (a : Nat), (wl a L).length = L.length
 | [], _ => rfl
 | b :: L, a => by simp [wl, ac2 L]
theorem Pv : ∀ (l : List (Nat × List UInt8)) (f : Sec), (pl f l).length = f.length
 | [], _ => rfl
 | o :: l, f => by
  show (pl (f.set o.1 o.2) l).length = _
  rw [Pv l, List.length_set]
theorem Dk : ∀ (l : List (Nat × List UInt8)) (k : Nat) (f : Sec), jw (fun _ => true) k f l = pl f l
 | [], _, _ => rfl
 | o :: l, k, f => by
  show jw (fun _ => true) (k + 1) (if true = true then f.set o.1 o.2 else f) l = _
  rw [if_pos rfl]
  exact Dk l _ _
def Out (d : D) (F : Sec) : Prop := ∃ l', l'.Sublist d.loose /\ F = pl d.firm l'
theorem Yt {d : D} (h : d.loose = []) {F : Sec} (o : Out d F) : F = d.firm := by
 obtain ⟨l', h1, rfl⟩ := o
 rw [h] at h1
 rw [List.sublist_nil.1 h1]; rfl
theorem Sg {d : D} (h : d.dark = true) (i : Int) (b : List UInt8) : (d.write i b).1 = d := by
 rcases Aa d i b with e | ⟨_, _, e, _⟩
 ·exact e
 grind
theorem Am : ∀ (L : List (List UInt8)) {d : D} (a : Nat), d.dark = true -> po d a L = d
 | [], _, _, _ => rfl
 | b :: L, d, a, h => by
  show po (d.write (a : Int) b).1 (a + 1) L = d
  rw [Sg h, Am L _ h]
theorem Dj {d : D} (h : d.dark = true) : d.flush = d := by unfold D.flush; rw [if_pos h]
theorem Yv {d : D} (h : d.dark = false) {a : Nat} {b : List UInt8} (ha : a < d.firm.length) (hb : b.length <= 64) : (d.write (a : Int) b).1 = { d.burnt with loose := d.loose ++ [(a, pad b)], w := d.w + 1 } := by
 have h1 : d.has (a : Int) = true := by unfold D.has; grind
 unfold D.write
 grind
theorem ach : ∀ (L : List (List UInt8)) (d : D) (a : Nat), d.dark = false -> a + L.length <= d.firm.length -> (∀ b ∈ L, b.length <= 64) ->
  ∃ k, k <= L.length /\ (po d a L).loose = d.loose ++ (wl a L).take k /\ (k < L.length -> (po d a L).dark = true) /\ (po d a L).w = d.w + k /\ (po d a L).f = d.f /\ (po d a L).fused = d.fused /\ (L ≠ [] -> 1 <= k)
 | [], d, a, h, _, _ => ⟨0, Nat.le_refl _, by simp [po, wl], fun h => by simp at h, rfl, rfl, rfl, fun h => absurd rfl h⟩
 | b :: L, d, a, h, hn, hb => by
  have hw := Yv h (a := a) (b := b) (by grind) (hb b List.mem_cons_self)
  have hfm : (d.write (a : Int) b).1.firm = d.firm := Lj
  show ∃ k, _ /\ (po (d.write (a : Int) b).1 (a + 1) L).loose = _ /\ (_ -> (po (d.write (a : Int) b).1 (a + 1) L).dark = true) /\ (po (d.write (a : Int) b).1 (a + 1) L).w = _ /\ (po (d.write (a : Int) b).1 (a + 1) L).f = _ /\ (po (d.write (a : Int) b).1 (a + 1) L).fused = _ /\ _
  have hf0 : d.burnt.fused = d.fused := by unfold D.burnt; split <;> rfl
  cases hd : (d.write (a : Int) b).1.dark with
  | true =>
   rw [Am L _ hd]
   refine ⟨1, by simp, ?_, fun _ => hd, ?_, ?_, ?_, fun _ => Nat.le_refl _⟩
   ·rw [hw]; simp [wl]
   ·rw [hw]
   ·rw [hw]; exact rt d
   grind
  | false =>
   obtain ⟨k, k1, k2, k3, k4, k5, k6, _⟩ := ach L (d.write (a : Int) b).1 (a + 1) hd (by grind) (fun x hx => hb x (List.mem_cons_of_mem _ hx))
   refine ⟨k + 1, by grind, ?_, fun h => k3 (by grind), ?_, ?_, ?_, fun _ => by omega⟩
   ·rw [k2, hw]; simp [wl]
   ·grind
   ·rw [k5, hw]; exact rt d
   grind
theorem Zi {d : D} (h : d.dark = false) : d.flush.firm = pl d.firm d.loose /\ d.flush.loose = [] /\ d.flush.w = d.w /\ d.flush.fused = d.fused := by
 unfold D.flush
 rw [if_neg (by grind)]
 refine ⟨?_, rfl, rfl, ?_⟩
 ·show jw (fun _ => true) 0 d.burnt.firm d.burnt.loose = _
  rw [Dk, iv, mn]
 ·show d.burnt.fused = d.fused
  unfold D.burnt; split <;> rfl
def ph (d : D) (a : Nat) (L : List (List UInt8)) : D := (po d a L).flush
theorem Gl {d : D} (h : d.dark = true) (a : Nat) (L : List (List UInt8)) : ph d a L = d := by unfold ph; rw [Am L a h, Dj h]
structure Live (d : D) : Prop where
 loose : d.loose = []
 dark : d.dark = false
inductive PhP (d : D) (a : Nat) (L : List (List UInt8)) : Prop
 | done (h1 : (ph d a L).loose = []) (h2 : (ph d a L).firm = pl d.firm (wl a L))
 | cut (h1 : (ph d a L).dark = true) (h2 : (ph d a L).firm = d.firm) (k : Nat) (h3 : (ph d a L).loose = (wl a L).take k)
theorem ak2 {d : D} (hl : Live d) {a : Nat} {L : List (List UInt8)} (hn : a + L.length <= d.firm.length) (hb : ∀ b ∈ L, b.length <= 64) : PhP d a L /\ (L ≠ [] -> d.w < (ph d a L).w) /\ (d.fused = false -> (ph d a L).fused = false) := by
 obtain ⟨k, k1, k2, k3, k4, k5, k6, k7⟩ := ach L d a hl.dark hn hb
 have hfm : (po d a L).firm = d.firm := Hu L d a
 rw [hl.loose, List.nil_append] at k2
 cases hd : (po d a L).dark with
 | true =>
  have e : ph d a L = po d a L := Dj hd
  refine ⟨.cut (by grind) (by grind) k (by grind), fun h => ?_, fun h => by rw [e, k6, h]⟩
  grind
 | false =>
  have hk : k = L.length := by
   grind
  obtain ⟨f1, f2, f3, f4⟩ := Zi hd
  refine ⟨.done f2 ?_, fun h => ?_, fun h => ?_⟩
  ·show (po d a L).flush.firm = _
   rw [f1, hfm, k2, hk, List.take_of_length_le (by rw [ac2]; omega)]
  ·show d.w < (po d a L).flush.w
   grind
  ·show (po d a L).flush.fused = _
   grind
theorem Mq (d : D) (pg : List (List UInt8)) (a e : Nat) : yv d pg a e = ph (ph d (lq d.firm.length a) (pcs 64 pg.flatten)) (e % 2) [ge e a pg.length] := rfl
theorem ag7 {d : D} {a : Nat} {L : List (List UInt8)} : (ph d a L).firm.length = d.firm.length := by unfold ph; rw [Gu, Hu]
theorem km : ∀ (l : List (Nat × List UInt8)) (f : Sec) (i : Nat), (∀ o ∈ l, o.1 ≠ i) -> (pl f l)[i]? = f[i]?
 | [], _, _, _ => rfl
 | o :: l, f, i, h => by
  show (pl (f.set o.1 o.2) l)[i]? = _
  rw [km l _ _ (fun x hx => h x (List.mem_cons_of_mem _ hx)), List.getElem?_set_ne (h o List.mem_cons_self)]
theorem Bm : ∀ (L : List (List UInt8)) (a : Nat) (o : Nat × List UInt8), o ∈ wl a L -> ∃ j, j < L.length /\ o.1 = a + j /\ L[j]?.map pad = some o.2
 | [], _, _, h => by cases h
 | b :: L, a, o, h => by
  rcases List.mem_cons.1 h with rfl | h
  ·exact ⟨0, by simp, rfl, rfl⟩
  ·obtain ⟨j, j1, j2, j3⟩ := Bm L (a + 1) o h
   exact ⟨j + 1, by grind, by omega, by grind⟩
theorem Nx : ∀ (L : List (List UInt8)) (f : Sec) (a i : Nat), a + L.length <= f.length -> i < L.length -> (pl f (wl a L))[a + i]? = L[i]?.map pad
 | [], _, _, _, _, h => by simp at h
 | b :: L, f, a, 0, hn, _ => by
  show (pl (f.set a (pad b)) (wl (a + 1) L))[a + 0]? = _
  rw [km _ _ _ (fun o ho => by obtain ⟨j, _, e, _⟩ := Bm _ _ _ ho; omega)]
  grind
 | b :: L, f, a, i + 1, hn, hi => by
  show (pl (f.set a (pad b)) (wl (a + 1) L))[a + (i + 1)]? = _
  simp only [List.length_cons] at hn hi
  have := Nx L (f.set a (pad b)) (a + 1) i (by grind) (by omega)
  grind
theorem Pc {b : List UInt8} (h : b.length = 64) : pad b = b := by unfold pad; rw [h]; simp
theorem Ex : ∀ (L : List (List UInt8)) (f : Sec) (a i : Nat) (l' : List (Nat × List UInt8)), l'.Sublist (wl a L) -> a + L.length <= f.length -> i < L.length -> (pl f l')[a + i]? = f[a + i]? \/ (pl f l')[a + i]? = L[i]?.map pad
 | [], _, _, _, _, _, _, h => by simp at h
 | b :: L, f, a, i, l', hs, hn, hi => by
  simp only [List.length_cons] at hn hi
  have hs : l'.Sublist ((a, pad b) :: wl (a + 1) L) := hs
  cases hs with
  | cons _ h =>
   cases i with
   | zero =>
    refine .inl (km _ _ _ fun o ho => ?_)
    obtain ⟨j, _, e, _⟩ := Bm _ _ _ (h.subset ho); omega
   | succ i =>
    have := Ex L f (a + 1) i l' h (by omega) (by omega)
    grind
  | cons_cons _ h =>
   rename_i l2
   show (pl (f.set a (pad b)) l2)[a + i]? = _ \/ (pl (f.set a (pad b)) l2)[a + i]? = _
   cases i with
   | zero =>
    refine .inr ?_
    rw [km _ _ _ (fun o ho => by obtain ⟨j, _, e, _⟩ := Bm _ _ _ (h.subset ho); omega), Nat.add_zero, List.getElem?_set_self (by omega)]; rfl
   | succ i =>
    have := Ex L (f.set a (pad b)) (a + 1) i l2 h (by grind) (by omega)
    grind
theorem Lv {L : List (List UInt8)} {f : Sec} {a i : Nat} {l' : List (Nat × List UInt8)} (hs : l'.Sublist (wl a L)) (hi : i < a \/ a + L.length <= i) : (pl f l')[i]? = f[i]? := by
 refine km _ _ _ fun o ho => ?_
 obtain ⟨j, j1, e, _⟩ := Bm _ _ _ (hs.subset ho); omega
theorem Ty : ∀ (L : List (List UInt8)) (f : Sec) (a : Nat) (l' : List (Nat × List UInt8)), l'.Sublist (wl a L) -> a + L.length <= f.length -> l' = wl a L \/ ∃ i, i < L.length /\ (pl f l')[a + i]? = f[a + i]?
 | [], _, _, l', hs, _ => .inl (List.sublist_nil.1 hs)
 | b :: L, f, a, l', hs, hn => by
  simp only [List.length_cons] at hn
  have hs : l'.Sublist ((a, pad b) :: wl (a + 1) L) := hs
  cases hs with
  | cons _ h =>
   refine .inr ⟨0, by simp, km _ _ _ fun o ho => ?_⟩
   obtain ⟨j, _, e, _⟩ := Bm _ _ _ (h.subset ho); omega
  | cons_cons _ h =>
   rename_i l2
   rcases Ty L (f.set a (pad b)) (a + 1) l2 h (by grind) with rfl | ⟨i, i1, i2⟩
   ·exact .inl rfl
   ·refine .inr ⟨i + 1, by grind, ?_⟩
    show (pl (f.set a (pad b)) l2)[a + (i + 1)]? = _
    grind
open Go Go.Vm
structure FrOK (c : List Ch) : Prop where
 fits : qd c
 len : c.length <= 5000
 p200 : (pcs 49 (gu c)).length <= 200
theorem Ax {k : Nat} (hk : 0 < k) : ∀ (m : Nat) (l : List UInt8), l.length <= m -> l.length <= k * (ma k m l).length
 | 0, l, h => by
  omega
 | m + 1, l, h => by
  by_cases hl : l = []
  ·grind
  ·have hp : 0 < l.length := List.length_pos_iff.2 hl
   have := Ax hk m (l.drop k) (by grind)
   rw [ma, if_neg hl, List.length_cons, Nat.mul_succ]
   grind
theorem agu (p : Ch) : 1 <= (chB p).length := by
 unfold chB
 grind
theorem ady (c : List Ch) : c.length <= (gu c).length := by
 have : ∀ c : List Ch, c.length <= ((c.map chB).flatten).length := by
  intro c
  induction c with
  | nil => simp
  | cons p c ih =>
   have := agu p
   grind
 have := this c
 unfold gu
 grind
def cq (e : Nat) : Nat -> List (List Ch) -> Sec
 | _, [] => []
 | j, c :: r => aq e j c ++ cq e (j + 1) r
theorem mg (e j : Nat) (c : List Ch) : (aq e j c).length = (pcs 49 (gu c)).length := kq _ _
theorem ji (e j : Nat) (c : List Ch) : 1 <= (aq e j c).length := by
 rw [mg, su (by omega) (Kv c)]
 simp
theorem ui (e : Nat) : ∀ (L : List (List Ch)) (j : Nat) (c : List Ch), cq e j (L ++ [c]) = cq e j L ++ aq e (j + L.length) c
 | [], j, c => by simp [cq]
 | x :: L, j, c => by
  show aq e j x ++ cq e (j + 1) (L ++ [c]) = (aq e j x ++ cq e (j + 1) L) ++ _
  rw [ui e L (j + 1) c, List.append_assoc, List.length_cons]
  grind
theorem Ei (e : Nat) : ∀ (L : List (List Ch)) (j : Nat), L.length <= (cq e j L).length
 | [], _ => by simp
 | x :: L, j => by
  have h1 := ji e j x
  have h2 := Ei e L (j + 1)
  show _ <= (aq e j x ++ cq e (j + 1) L).length
  grind
theorem ut (e : Nat) : ∀ (L : List (List Ch)) (j : Nat), Sk L <= 49 * (cq e j L).length
 | [], _ => by simp [Sk]
 | x :: L, j => by
  have h2 := ut e L (j + 1)
  have h3 := Ax (k := 49) (by omega) _ (gu x) (Nat.le_refl _)
  have h4 := ady x
  have h5 : (ma 49 (gu x).length (gu x)).length = (aq e j x).length := (mg e j x).symm
  show Sk (x :: L) <= 49 * (aq e j x ++ cq e (j + 1) L).length
  have : Sk (x :: L) = x.length + Sk L := by simp [Sk]
  grind
theorem ahm {e : Nat} : ∀ (L : List (List Ch)) (j m : Nat) (rest : Sec), (∀ c ∈ L, FrOK c) -> rdA e (L.length + m) j (cq e j L ++ rest) = (L.map ur ++ (rdA e m (j + L.length) rest).1, (cq e j L).length + (rdA e m (j + L.length) rest).2)
 | [], j, m, rest, _ => by simp [cq]
 | c :: r, j, m, rest, hk => by
  have hc := hk c List.mem_cons_self
  have hs := ji e j c
  have e1 := Ir (epoch := e) (n := j) hc.fits hc.len hc.p200 (cq e (j + 1) r ++ rest)
  have e2 : cq e j (c :: r) ++ rest = li e j (pcs 49 (gu c)).length 0 (pcs 49 (gu c)) ++ (cq e (j + 1) r ++ rest) := by
   simp only [cq, aq, List.append_assoc]
  have e3 := mg e j c
  have e4 : (c :: r).length + m = (r.length + m) + 1 := by grind
  rw [e4, e2, rdA, e1]
  simp only
  rw [if_neg (by omega)]
  have e5 : (li e j (pcs 49 (gu c)).length 0 (pcs 49 (gu c)) ++ (cq e (j + 1) r ++ rest)).drop (pcs 49 (gu c)).length = cq e (j + 1) r ++ rest := by
   rw [List.drop_append, kq, Nat.sub_self, List.drop_zero, List.drop_of_length_le (by rw [kq]; omega), List.nil_append]
  rw [e5, ahm r (j + 1) m rest (fun x hx => hk x (List.mem_cons_of_mem _ hx))]
  have e6 : j + (c :: r).length = j + 1 + r.length := by omega
  rw [e6]
  simp only [List.map_cons, List.cons_append, cq, List.length_append, e3, Nat.add_assoc]
theorem Wx {e : Nat} (he : e <= 1073741824) {L : List (List Ch)} (hk : ∀ c ∈ L, FrOK c) {rest : Sec} (hr : (ed e L.length rest).2 = 0) : tg e (cq e 0 L ++ rest) = (L.map ur, (cq e 0 L).length) := by
 have hl := Ei e L 0
 have h1 : rdA e ((cq e 0 L ++ rest).length + 1) 0 (cq e 0 L ++ rest) = (L.map ur, (cq e 0 L).length) := by
  obtain ⟨m, hm⟩ : ∃ m, (cq e 0 L ++ rest).length + 1 = L.length + (m + 1) := ⟨(cq e 0 L ++ rest).length - L.length, by grind⟩
  rw [hm, ahm L 0 (m + 1) rest hk]
  have : rdA e (m + 1) (0 + L.length) rest = ([], 0) := by
   rw [Nat.zero_add, rdA, if_pos hr]
  grind
 unfold tg
 have hn := ve.2 he
 grind
theorem Pt {e n of_ : Nat} : ∀ (m i : Nat) (ss : Sec) (acc : List UInt8) (j : Nat), (∃ b, ss[j]? = some b /\ Bad e b) -> i + j < of_ -> of_ <= m + i -> frL e n of_ m i ss acc = none
 | 0, i, ss, acc, j, _, h1, h2 => by omega
 | m + 1, i, [], acc, j, ⟨b, hb, _⟩, _, _ => by simp at hb
 | m + 1, i, s :: r, acc, j, ⟨b, hb, hB⟩, h1, h2 => by
  by_cases ok : ov e n i of_ s
  ·simp only [frL, if_pos ok]
   cases j with
   | zero => cases hb; exact absurd ok (hB _ _ _)
   | succ j =>
    rw [if_pos (by omega)]
    exact Pt m (i + 1) r _ j ⟨b, by grind, hB⟩ (by omega) (by omega)
  ·exact Wf ok
theorem Ro {e n of_ : Nat} {ss : Sec} (h0 : ∀ b, ss[0]? = some b → Bad e b ∨ Lz b = of_) {j : Nat} (hj : j < of_) (hof : of_ ≤ 200) (hb : ∃ b, ss[j]? = some b ∧ Bad e b) : (ed e n ss).2 = 0 := by
  cases ss with
  | nil => grind
  | cons s r =>
    rcases h0 s rfl with h | h
    · rw [Dr (h _ _ _)]
    · have k : tl e n (s :: r) = none := by
        unfold tl
        have : ofS (s :: r) = of_ := h
        rw [this]
        exact Pt 200 0 (s :: r) [] j hb (by omega) (by omega)
      unfold ed
      rw [k]
theorem Kt {e n : Nat} {ss : Sec} (h : ∀ b ∈ ss, Bad e b) : (ed e n ss).2 = 0 := by
  cases ss with
  | nil => have : tl e n [] = none := rfl
           unfold ed; rw [this]
  | cons s r => rw [Dr (h s List.mem_cons_self _ _ _)]
def ag8 (e : Nat) (b : List UInt8) : Prop := ∀ e', e < e' -> e' < 4294967296 -> Bad e' b
theorem Ip {e j : Nat} {c : List Ch} {b : List UInt8} (h : b ∈ aq e j c) : ∃ n i of_ p, b = kd e n i of_ p /\ p.length <= 49 := by
 have key : ∀ (ps : List (List UInt8)) (i of_ : Nat), (∀ p ∈ ps, p.length <= 49) -> b ∈ li e j of_ i ps -> ∃ n i of_ p, b = kd e n i of_ p /\ p.length <= 49 := by
  intro ps
  induction ps with
  | nil => intro i of_ _ hb; simp [li] at hb
  | cons p ps ih =>
   intro i of_ hp hb
   rcases List.mem_cons.1 hb with rfl | hb
   ·grind
   grind
 exact key _ _ _ (fun p hp => Qa p hp) h
theorem abe {e n i of_ : Nat} {p : List UInt8} (he : e < 4294967296) : ag8 e (kd e n i of_ p) := fun e' h1 h2 n' i' of' => Ql (.inl fun h => by have := ag9 h2 he h; omega)
theorem yp {e j : Nat} {c : List Ch} (he : e < 4294967296) : ∀ b ∈ aq e j c, ag8 e b /\ b.length = 64 := by
 intro b hb
 obtain ⟨n, i, of_, p, rfl, hp⟩ := Ip hb
 exact ⟨abe he, Jk hp⟩
theorem Oh (e : Nat) : Bad e z64 /\ ag8 e z64 := ⟨Nv e, fun e' _ _ => Nv e'⟩
theorem Mw {e j : Nat} {c : List Ch} (h : (pcs 49 (gu c)).length <= 200) : ∀ b, (aq e j c)[0]? = some b -> Lz b = (pcs 49 (gu c)).length := by
 intro b hb
 have hne : pcs 49 (gu c) ≠ [] := by rw [su (by omega) (Kv c)]; simp
 unfold aq at hb
 cases hp : pcs 49 (gu c) with
 | nil => grind
 | cons p r =>
  rw [hp] at hb h
  have hb : some (kd e j 0 (p :: r).length p) = some b := hb
  cases hb
  rw [Th (by omega)]
theorem pt {e n : Nat} {c : List Ch} {ps : Sec} (h : er e n c = some ps) : ps = aq e n c /\ (pcs 49 (gu c)).length <= 200 := by
 unfold er at h
 by_cases hx : ks (e : Int) = true /\ ks (n : Int) = true /\ (pcs 49 (gu c)).length <= 200
 ·rw [if_pos hx, Int.toNat_natCast, Int.toNat_natCast] at h
  exact ⟨(Option.some.inj h).symm, hx.2.2⟩
 grind
theorem aj8 {L : List (List Ch)} (hk : ∀ c ∈ L, FrOK c) : FrL (L.map ur) L := by
 induction L with
 | nil => exact .nil
 | cons c L ih =>
  have h := hk c List.mem_cons_self
  exact .cons (So c h.fits) h.len (fun x hx => (h.fits x hx).2.1) (ih fun x hx => hk x (List.mem_cons_of_mem _ hx))
theorem tx {e a p i : Nat} (hi : i < 60) : be (ge e a p) i = ((Qg e a p).getD i 0).toNat := by
 unfold be ge oc
 rw [List.getD_eq_getElem?_getD, List.getElem?_append_left (by rw [Kh]; exact hi), <- List.getD_eq_getElem?_getD]
theorem Aq {n e a p : Nat} (h1 : 1 <= e) (h2 : e <= 1073741824) (ha : a <= 1) (hp1 : 1 <= p) (hp2 : p <= (bk n).2) (hn : n <= 4096) : jy n (ge e a p) = some (e, a, p) := by
 have hpt := iz hn
 have t : ∀ x : Nat, x < 256 -> (u8 x).toNat = x := fun x h => nu x h
 have b2 : be (ge e a p) 2 = e / 16777216 % 256 := by rw [tx (by omega)]; exact t _ (by omega)
 have b3 : be (ge e a p) 3 = e / 65536 % 256 := by rw [tx (by omega)]; exact t _ (by omega)
 have b4 : be (ge e a p) 4 = e / 256 % 256 := by rw [tx (by omega)]; exact t _ (by omega)
 have b5 : be (ge e a p) 5 = e % 256 := by rw [tx (by omega)]; exact t _ (by omega)
 have b6 : be (ge e a p) 6 = a := by rw [tx (by omega)]; exact t _ (by omega)
 have b7 : be (ge e a p) 7 = p / 256 := by rw [tx (by omega)]; exact t _ (by omega)
 have b8 : be (ge e a p) 8 = p % 256 := by
  rw [tx (by omega)]
  show (u8 p).toNat = _
  unfold u8; rw [UInt8.toNat_ofNat']
 have he : gy (ge e a p) = e := by
  unfold gy
  rw [b2, b3, b4, b5]
  generalize hb2 : e / 16777216 % 256 = x2
  generalize hb3 : e / 65536 % 256 = x3
  generalize hb4 : e / 256 % 256 = x4
  generalize hb5 : e % 256 = x5
  omega
 have hpg : gw (ge e a p) = p := by unfold gw; rw [b7, b8]; omega
 unfold jy
 rw [he, b6, hpg, if_pos ⟨h1, h2, ha, hp1, hp2, rfl⟩]
theorem Qq {n : Nat} : jy n z64 = none := by
 have : gy z64 = 0 := by decide
 unfold jy
 grind
open Go Go.Vm
abbrev jn (n : Nat) : Nat := (bk n).1
abbrev an (n : Nat) : Nat := (bk n).2
def jr (n : Nat) (F : Sec) : Sec := (F.drop 2).take (jn n)
def ar (n : Nat) (F : Sec) (a m : Nat) : Sec := (F.drop (lq n a)).take m
def Hd (n : Nat) (F : Sec) (e a pg : Nat) : Prop := jy n (F.getD (e % 2) []) = some (e, a, pg) /\ ∀ x, jy n (F.getD (1 - e % 2) []) = some x -> x.1 < e
structure Dn (n : Nat) (F : Sec) : Prop where
 lo : 64 <= n
 hi : n <= 4096
 len : F.length = n
 f64 : ∀ b ∈ F, b.length = 64
structure Rc (n : Nat) (F : Sec) (e a : Nat) (rows : List KV) : Prop where
 dn : Dn n F
 a1 : a <= 1
 e1 : 1 <= e
 e2 : e <= 1073741824
 ex : ∃ base pgs L, Hd n F e a pgs.length /\ ej n base = some pgs /\ ar n F a (4 * pgs.length) = pcs 64 pgs.flatten /\ (tg e (jr n F)).1 = L.map ur /\ (∀ c ∈ L, FrOK c) /\ Sk L <= 60000 /\ rows = om base L
 room : ∃ p, ej n rows = some p
 old : ∀ i b, i < jn n -> F[2 + i]? = some b -> ag8 e b
structure Vd (n : Nat) (F : Sec) (e a : Nat) (base : List KV) (L : List (List Ch)) (used : Nat) : Prop where
 dn : Dn n F
 a1 : a <= 1
 e1 : 1 <= e
 e2 : e <= 1073741824
 pgs : ∃ pgs, Hd n F e a pgs.length /\ ej n base = some pgs /\ ar n F a (4 * pgs.length) = pcs 64 pgs.flatten
 jl : (F.drop 2).take used = cq e 0 L
 ul : used = (cq e 0 L).length
 uj : used <= jn n
 bad : ∀ i b, used <= i -> i < jn n -> F[2 + i]? = some b -> Bad e b
 fr : ∀ c ∈ L, FrOK c
 room : ∃ p, ej n (om base L) = some p
 old : ∀ i b, i < jn n -> F[2 + i]? = some b -> ag8 e b
theorem pw {n : Nat} (h : 64 <= n) : jn n = n / 4 /\ an n = (n - 2 - n / 4) / 8 := by
 unfold jn an bk; grind
theorem xw (n : Nat) : lq n 0 = 2 + jn n /\ lq n 1 = 2 + jn n + an n * 4 := by
 unfold lq; grind
theorem pj {F F' : Sec} {a m : Nat} (h : ∀ i, i < m -> F'[a + i]? = F[a + i]?) : (F'.drop a).take m = (F.drop a).take m := by
 apply List.ext_getElem?
 grind
theorem Um : ∀ (l : List (Nat × List UInt8)) (f : Sec), (∀ b ∈ f, b.length = 64) -> (∀ o ∈ l, o.2.length = 64) -> ∀ b ∈ pl f l, b.length = 64
 | [], _, h, _ => h
 | o :: l, f, h, hl => by
  show ∀ b ∈ pl (f.set o.1 o.2) l, b.length = 64
  refine Um l _ (fun b hb => ?_) (fun x hx => hl x (List.mem_cons_of_mem _ hx))
  grind
theorem amc {L : List (List UInt8)} (hL : ∀ b ∈ L, b.length <= 64) {a : Nat} : ∀ o ∈ wl a L, o.2.length = 64 := by
 intro o ho
 obtain ⟨j, j1, _, j3⟩ := Bm _ _ _ ho
 obtain ⟨b, hb, e⟩ := Option.map_eq_some_iff.1 j3
 rw [<- e]
 exact Mi (hL b (List.mem_of_getElem? hb))
theorem Dn.sub {n : Nat} {F : Sec} (h : Dn n F) {L : List (List UInt8)} {a : Nat} (hL : ∀ b ∈ L, b.length <= 64) {l' : List (Nat × List UInt8)} (hs : l'.Sublist (wl a L)) : Dn n (pl F l') :=
 ⟨h.lo, h.hi, by rw [Pv]; exact h.len, Um _ _ h.f64 fun o ho => amc hL o (hs.subset ho)⟩
theorem Kc {F F' : Sec} {i : Nat} (h : F'[i]? = F[i]?) : F'.getD i [] = F.getD i [] := by
 grind
theorem Rc.same {n : Nat} {F F' : Sec} {e a : Nat} {rows : List KV} (h : Rc n F e a rows) (hd : Dn n F') (hs : ∀ i, i < 2 + jn n \/ (lq n a <= i /\ i < lq n a + 4 * an n) -> F'[i]? = F[i]?) : Rc n F' e a rows := by
 obtain ⟨base, pgs, L, ⟨h1, h1'⟩, h2, h3, h4, h5, h6, h7⟩ := h.ex
 have hj : jr n F' = jr n F := pj fun i hi => hs _ (.inl (by omega))
 have hp : pgs.length <= an n := (gm h2).2
 refine ⟨hd, h.a1, h.e1, h.e2, ⟨base, pgs, L, ⟨?_, ?_⟩, h2, ?_, by grind, h5, h6, h7⟩, h.room, fun i b hi hb => h.old i b hi (by grind)⟩
 ·grind
 ·grind
 ·rw [<- h3]
  exact pj fun i hi => hs _ (.inr ⟨by omega, by omega⟩)
theorem Vd.rc {n : Nat} {F : Sec} {e a : Nat} {base : List KV} {L : List (List Ch)} {used : Nat} (h : Vd n F e a base L used) : Rc n F e a (om base L) := by
  obtain ⟨pgs, h1, h2, h3⟩ := h.pgs
  refine ⟨h.dn, h.a1, h.e1, h.e2, ⟨base, pgs, L, h1, h2, h3, ?_, h.fr, ?_, rfl⟩, h.room, h.old⟩
  · have e1 : jr n F = cq e 0 L ++ (F.drop (2 + used)).take (jn n - used) := by
      have hu := h.uj
      have : jn n = used + (jn n - used) := by omega
      unfold jr
      rw [this, List.take_add, h.jl, List.drop_drop, Nat.add_sub_cancel_left]
    rw [e1, Wx h.e2 h.fr (Kt fun b hb => ?_)]
    obtain ⟨i, hi⟩ := List.getElem?_of_mem hb
    have hlt : i < jn n - used := by
      grind
    rw [List.getElem?_take_of_lt hlt, List.getElem?_drop] at hi
    exact h.bad (used + i) b (by omega) (by omega) (by grind)
  · have h4 := ut e L 0
    have h5 := h.uj
    have h6 := h.ul
    have := iz h.dn.hi
    grind
theorem Rc.area {n : Nat} {F : Sec} {e a : Nat} {rows : List KV} (h : Rc n F e a rows) {Ls : Sec} (hl : Ls.length <= 4 * an n) (h64 : ∀ b ∈ Ls, b.length <= 64) {l' : List (Nat × List UInt8)} (hs : l'.Sublist (wl (lq n (1 - a)) Ls)) : Rc n (pl F l') e a rows := by
 obtain ⟨b0, b1⟩ := xw n
 have ha := h.a1
 refine h.same (h.dn.sub h64 hs) fun i hi => Lv hs ?_
 grind
theorem acj {n : Nat} {F : Sec} {a : Nat} {Ls : Sec} (ha : a <= 1) (hn : Dn n F) (hl : Ls.length <= 4 * an n) (h64 : ∀ b ∈ Ls, b.length = 64) : ar n (pl F (wl (lq n a) Ls)) a Ls.length = Ls := by
 obtain ⟨b0, b1⟩ := xw n
 obtain ⟨p1, p2⟩ := pw hn.lo
 have hlo := hn.lo
 have hb : lq n a + Ls.length <= n := by
  grind
 apply List.ext_getElem?
 intro i
 unfold ar
 by_cases hi : i < Ls.length
 ·rw [List.getElem?_take_of_lt hi, List.getElem?_drop, Nx Ls F _ i (by rw [hn.len]; exact hb) hi]
  obtain ⟨b, hb⟩ : ∃ b, Ls[i]? = some b := ⟨Ls[i], List.getElem?_eq_getElem hi⟩
  rw [hb, Option.map_some, Pc (h64 b (List.mem_of_getElem? hb))]
 grind
theorem Rc.head {n : Nat} {F : Sec} {e a : Nat} {rows : List KV} (h : Rc n F e a rows) (he : e < 1073741824) {pgs : Sec} (hr : ej n rows = some pgs) (hA : ar n F (1 - a) (4 * pgs.length) = pcs 64 pgs.flatten) :
  Vd n (F.set ((e + 1) % 2) (ge (e + 1) (1 - a) pgs.length)) (e + 1) (1 - a) rows [] 0 := by
 obtain ⟨b0, b1⟩ := xw n
 obtain ⟨p1, p2⟩ := pw h.dn.lo
 have ha := h.a1
 have hlo := h.dn.lo
 have hp : pgs.length <= an n := (gm hr).2
 have hpos : 1 <= pgs.length := by
  have := If (gm hr).1
  cases pgs with
  | nil =>
   have hb := yd (gm hr).1
   grind
  | cons _ _ => simp
 have bge : lq n (1 - a) >= 2 + jn n := by
  grind
 have ne : ∀ i, 2 <= i -> (F.set ((e + 1) % 2) (ge (e + 1) (1 - a) pgs.length))[i]? = F[i]? := fun i hi => List.getElem?_set_ne (by omega)
 have hlen := h.dn.len
 refine ⟨⟨h.dn.lo, h.dn.hi, by grind, fun b hb => ?_⟩, by omega, by omega, by omega, ⟨pgs, ⟨?_, fun x hx => ?_⟩, hr, ?_⟩, by simp [cq], rfl, Nat.zero_le _, fun i b _ hi hb => ?_, fun c hc => (by cases hc), ⟨pgs, hr⟩, fun i b hi hb => ?_⟩
 ·rcases List.mem_or_eq_of_mem_set hb with e' | e'
  ·exact h.dn.f64 b e'
  ·rw [e']; exact qu
 ·rw [List.getD_eq_getElem?_getD, List.getElem?_set_self (by omega)]
  exact Aq (by omega) (by omega) (by omega) hpos hp h.dn.hi
 ·obtain ⟨base, pgs0, L, ⟨h1, _⟩, _⟩ := h.ex
  grind
 ·rw [<- hA]
  exact pj fun i hi => ne _ (by omega)
 ·rw [ne _ (by omega)] at hb
  exact h.old i b hi hb (e + 1) (by omega) (by omega)
 ·rw [ne _ (by omega)] at hb
  exact fun e' h1 h2 => h.old i b hi hb e' (by omega) h2
theorem Vd.part {n : Nat} {F : Sec} {e a : Nat} {base : List KV} {L : List (List Ch)} {used : Nat} (h : Vd n F e a base L used) {c : List Ch} (hc : FrOK c) (hu : used + (aq e L.length c).length ≤ jn n) (hroom : ∃ p, ej n (cj (om base L) c) = some p) {l' : List (Nat × List UInt8)} (hs : l'.Sublist (wl (2 + used) (aq e L.length c))) :
    (l' = wl (2 + used) (aq e L.length c) → Vd n (pl F l') e a base (L ++ [c]) (used + (aq e L.length c).length)) ∧ (Rc n (pl F l') e a (om base L) ∨ l' = wl (2 + used) (aq e L.length c)) := by
  obtain ⟨b0, b1⟩ := xw n
  obtain ⟨p1, p2⟩ := pw h.dn.lo
  have ha := h.a1
  have hlo := h.dn.lo
  have hlen := h.dn.len
  have he : e < 4294967296 := by have := h.e2; omega
  have hold := fun b hb => yp (e := e) (j := L.length) (c := c) he b hb
  have h64 : ∀ b ∈ aq e L.length c, b.length ≤ 64 := fun b hb => by rw [(hold b hb).2]; exact Nat.le_refl _
  have hn2 : 2 + used + (aq e L.length c).length ≤ F.length := by omega
  have hout : ∀ i, i < 2 + used ∨ 2 + used + (aq e L.length c).length ≤ i → (pl F l')[i]? = F[i]? := fun i hi => Lv hs hi
  have hbeg : 2 + jn n ≤ lq n a := by rcases (show a = 0 ∨ a = 1 by omega) with rfl | rfl <;> omega
  obtain ⟨pgs, ⟨h1, h1'⟩, h2, h3⟩ := h.pgs
  have hhd : Hd n (pl F l') e a pgs.length := ⟨by rw [Kc (hout _ (.inl (by omega)))]; exact h1, by rw [Kc (hout _ (.inl (by omega)))]; exact h1'⟩
  have har : ar n (pl F l') a (4 * pgs.length) = pcs 64 pgs.flatten := by rw [← h3]; exact pj fun i hi => hout _ (.inr (by omega))
  have hjl : ((pl F l').drop 2).take used = cq e 0 L := by rw [← h.jl]; exact pj fun i hi => hout _ (.inl (by omega))
  have hget : ∀ i, i < (aq e L.length c).length → ∃ x, (aq e L.length c)[i]? = some x ∧ pad x = x ∧ x ∈ aq e L.length c := fun i hi => by
    obtain ⟨x, hx⟩ : ∃ x, (aq e L.length c)[i]? = some x := ⟨_, List.getElem?_eq_getElem hi⟩
    have hm := List.mem_of_getElem? hx
    exact ⟨x, hx, Pc (hold x hm).2, hm⟩
  have hold2 : ∀ i b, i < jn n → (pl F l')[2 + i]? = some b → ag8 e b := by
    intro i b hi hb
    by_cases hr : i < used ∨ used + (aq e L.length c).length ≤ i
    · rw [hout _ (by omega)] at hb
      exact h.old i b hi hb
    · obtain ⟨x, hx, hp, hm⟩ := hget (i - used) (by omega)
      have := Ex _ F (2 + used) (i - used) l' hs hn2 (by omega)
      rw [show 2 + used + (i - used) = 2 + i from by omega, hx, Option.map_some, hp, hb] at this
      rcases this with e1 | e1
      · exact h.old i b hi e1.symm
      · cases e1; exact (hold _ hm).1
  refine ⟨?_, ?_⟩
  · rintro rfl
    refine ⟨h.dn.sub h64 hs, h.a1, h.e1, h.e2, ⟨pgs, hhd, h2, har⟩, ?_, ?_, hu, ?_, ?_, ?_, hold2⟩
    · rw [ui, List.take_add, hjl, List.drop_drop, Nat.zero_add]
      congr 1
      apply List.ext_getElem?
      intro i
      by_cases hi : i < (aq e L.length c).length
      · rw [List.getElem?_take_of_lt hi, List.getElem?_drop]
        rw [Nx _ F (2 + used) i hn2 hi]
        obtain ⟨x, hx, hp, _⟩ := hget i hi
        rw [hx, Option.map_some, hp]
      · rw [List.getElem?_eq_none (by rw [List.length_take]; omega), List.getElem?_eq_none (by omega)]
    · rw [ui, List.length_append, ← h.ul, Nat.zero_add]
    · intro i b hi1 hi2 hb
      rw [hout _ (by omega)] at hb
      exact h.bad i b (by omega) hi2 hb
    · intro x hx
      rcases List.mem_append.1 hx with hx | hx
      · exact h.fr x hx
      · rw [List.mem_singleton.1 hx]; exact hc
    · unfold om at hroom ⊢
      rw [List.foldl_append]
      exact hroom
  · rcases Ty _ F (2 + used) l' hs hn2 with e0 | ⟨k, k1, k2⟩
    · exact .inr e0
    refine .inl ⟨h.dn.sub h64 hs, h.a1, h.e1, h.e2, ⟨base, pgs, L, hhd, h2, har, ?_, h.fr, ?_, rfl⟩, h.room, hold2⟩
    · have e1 : jr n (pl F l') = cq e 0 L ++ ((pl F l').drop (2 + used)).take (jn n - used) := by
        have : jn n = used + (jn n - used) := by omega
        unfold jr
        rw [this, List.take_add, hjl, List.drop_drop, Nat.add_sub_cancel_left]
      have hrest : ∀ i, i < jn n - used → (((pl F l').drop (2 + used)).take (jn n - used))[i]? = (pl F l')[2 + used + i]? := fun i hi => by rw [List.getElem?_take_of_lt hi, List.getElem?_drop]
      have hbadF : ∀ i, i < jn n - used → ∃ b, F[2 + used + i]? = some b ∧ Bad e b := fun i hi => by
        obtain ⟨b, hb⟩ : ∃ b, F[2 + used + i]? = some b := ⟨_, List.getElem?_eq_getElem (by omega)⟩
        exact ⟨b, hb, h.bad (used + i) b (by omega) (by omega) (by rw [← hb]; congr 1; omega)⟩
      rw [e1, Wx h.e2 h.fr (Ro (of_ := (pcs 49 (gu c)).length) (j := k) ?_ (by rw [← mg e L.length c]; exact k1) hc.p200 ?_)]
      · intro b hb
        have hpos := ji e L.length c
        rw [hrest 0 (by omega)] at hb
        rcases Ex _ F (2 + used) 0 l' hs hn2 (by omega) with e2 | e2
        · obtain ⟨b', hb', hB⟩ := hbadF 0 (by omega)
          rw [e2, hb'] at hb; cases hb
          exact .inl hB
        · obtain ⟨x, hx, hp, _⟩ := hget 0 (by omega)
          rw [e2, hx, Option.map_some, hp] at hb; cases hb
          exact .inr (Mw hc.p200 _ hx)
      · obtain ⟨b', hb', hB⟩ := hbadF k (by omega)
        exact ⟨b', by rw [hrest k (by omega), k2, hb'], hB⟩
    · have h4 := ut e L 0
      have h5 := h.uj
      have h6 := h.ul
      have : jn n ≤ 1024 := (iz h.dn.hi).1
      omega
end Go.V08
