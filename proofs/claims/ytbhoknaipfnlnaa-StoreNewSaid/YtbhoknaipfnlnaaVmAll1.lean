/- Part of a proof: of what it says, and when, each theorem tells itself. -/
import Derived.Test.YtbhoknaipfnlnaaVmAll0
import Derived.Lib.AppendZeros
import Derived.OrdersIn
import Derived.RangeFuncNested
import Derived.Still
set_option linter.unusedSimpArgs false
set_option linter.unusedVariables false
/-
 Vm: cap, and clear (own work).
-/
namespace Go.Vm
open Go Go.RowKit
variable {P : Program} {prot : Nat -> Prop} {σ : gq} {β : Nat -> Option Loc} {h : ae} {w : World} {a : Act} {s : List VV}
theorem agt {o : Oper} {c : Call} {x : Operand} {t e : TypeId} {y : Opd} {v : VV} {h' : ae} (ho : o.op = .call c) (hc : c.callee = .builtin .cap) (ha : c.args.toList = [x]) (ht : c.argTypes.toList = [t])
  (hd : P.underlying t = some (.slice e)) (h1 : opd x = some y)
  (hs : ai h (ad s) (.cap y) = some (v, h')) (hf : FR σ β a.tmps s) (hw : WR P prot σ β h w) : Sim P o a prot σ β w v h' := by
 have r1 := av h1 hf
 have hargs : c.args = #[x] := by rw [<- ha]
 have htys : c.argTypes = #[t] := by rw [<- ht]
 have go : ∀ (A : Option Addr) (n m : Nat), a.eval x = .slice A n m -> (execOp a.eval o).run P w = .ok (.value (.int .i64 m)) w := by
  intro A n m e1
  unfold execOp; rw [ho]
  simp [resolve, hc, hargs, htys, invoke, builtin, Builtin.cap_, aw hd, e1, goInt]
 simp only [ai] at hs
 generalize hX : a.eval x = X at r1 go
 generalize ad s y = U at r1 hs
 split at hs
 ·cases hs
  have := r1.sc_inv
  obtain ⟨e1, _⟩ := this
  exact .pure hw (go none 0 0 e1) (.sc rfl)
 ·cases hs
  cases r1 with
  | cv _ _ hcr => cases hcr with
   | sl A cap z els ex f hs' hcp hx hz hl hm hr =>
    have := hx rfl
    subst this
    exact .pure hw (go _ _ _ rfl) (.sc rfl)
 ·cases hs
  cases r1 with
  | own A cap id g off len ex L hL hb hg hA hcp hx =>
   have := hx rfl
   subst this
   exact .pure hw (go _ _ _ rfl) (.sc rfl)
 ·cases hs
  cases r1 with
  | ob A cap id off len z ex L hL hb hs' hB hA hcs hcp hx hz =>
   have := hx rfl
   subst this
   exact .pure hw (go _ _ _ rfl) (.sc rfl)
 ·cases hs
theorem ye {zs : Array Value} {n i : Nat} {x : Value} (hx : (Builtin.zeroCells zs n).toList[i]? = some x) : i < n * zs.size /\ zs[i % zs.size]? = some x := by
 unfold Builtin.zeroCells at hx
 simp only [Array.toList_map, Array.toList_range, List.getElem?_map, List.getElem?_range'] at hx
 by_cases hi : i < n * zs.size
 ·refine ⟨hi, ?_⟩
  have hz : 0 < zs.size := by
   grind
  have hm := Nat.mod_lt i hz
  grind
 grind
theorem afd {o : Oper} {c : Call} {x : Operand} {t e : TypeId} {y : Opd} {z : Nat} {zr : List CV} {v : VV} {h' : ae} (ho : o.op = .call c) (hc : c.callee = .builtin .clear) (ha : c.args.toList = [x]) (ht : c.argTypes.toList = [t])
    (hd : P.underlying t = some (.slice e)) (hz : kx P e = some z) (hz0 : 0 < z) (hzr : kh P e = some zr) (h1 : opd x = some y)
    (hs : ai h (ad s) (.clr z zr y) = some (v, h')) (hf : FR σ β a.tmps s) (hw : WR P prot σ β h w) : Sim P o a prot σ β w v h' := by
  have r1 := av h1 hf
  have hargs : c.args = #[x] := by rw [← ha]
  have htys : c.argTypes = #[t] := by rw [← ht]
  have go0 : ∀ (A : Option Addr) (m : Nat), a.eval x = .slice A 0 m → (execOp a.eval o).run P w = .ok (.value (.tuple #[])) w := by
    intro A m e1
    unfold execOp; rw [ho]
    cases A <;> simp [resolve, hc, hargs, htys, invoke, builtin, Builtin.clear_, aw hd, e1]
  obtain ⟨ti, zv, hti, hzv, y1, y2, y3⟩ := iw hzr
  have hzz : ti.size = z := by
    unfold kx at hz
    rw [hti] at hz; simpa using hz
  have hzl : zr.length = z := by rw [y2, hzz]
  have go1 : ∀ (A : Addr) (n m : Nat) (w' : World), n ≠ 0 → a.eval x = .slice (some A) n m → (storeCells A (Builtin.zeroCells zv.cells n).toList).run P w = .ok () w' → (execOp a.eval o).run P w = .ok (.value (.tuple #[])) w' := by
    intro A n m w' hn e1 hst
    unfold execOp; rw [ho]
    simp only [resolve, hc, hargs]
    simp only [Sem.run_bind, Sem.run_pure, Result.andThen_ok, invoke, builtin]
    have hcl : (Builtin.clear_ c.argTypes o.type (#[x].map a.eval)).run P w = .ok (.tuple #[]) w' := by
      unfold Builtin.clear_
      simp only [htys, List.map_toArray, List.map_cons, List.map_nil, List.getElem?_toArray, List.getElem?_cons_zero]
      rw [ac (aw hd w)]
      simp only [e1]
      cases n with
      | zero => exact absurd rfl hn
      | succ n =>
        simp only [Sem.run_bind]
        rw [gp hti hzv w]
        simp only [Result.andThen_ok]
        rw [hst]; rfl
    rw [hcl]; rfl
  simp only [ai] at hs
  split at hs
  · rename_i id g off len ex e1
    rw [e1] at r1
    split at hs
    · rename_i z' els g' hobj
      split at hs
      · rename_i hcond
        obtain ⟨hzz', hgg, hb⟩ := hcond
        subst hzz'
        cases hs
        obtain ⟨L, hL, hO⟩ := hw.obj id _ hobj
        obtain ⟨o1, o2, o3, o4, o5, o6, o7, o8⟩ := hO
        generalize hX : a.eval x = X at r1
        by_cases hk0 : len = 0
        · subst hk0
          have : h.set id (.arr z' (am els off (List.replicate 0 zr)) g' false) = h := by simp only [List.replicate_zero, yb]; exact Gf hobj
          rw [this]
          cases r1 with
          | own A' cap' _ _ _ _ _ L' hL' hb' hg' hA' hc' hx' => exact ⟨_, w, σ, β, .inl (go0 _ _ hX), .refl, hw, .undef _⟩
        · cases r1 with
          | own A' cap' _ _ _ _ _ L' hL' hb' hg' hA' hc' hx' =>
            rw [hL] at hL'; cases hL'
            obtain ⟨a1, a2, a3, a4⟩ := hA' (by rw [o2]; exact hgg)
            have hvl : (Builtin.zeroCells zv.cells len).toList.length = len * z' := by
              simp only [Builtin.zeroCells, Array.toList_map, Array.toList_range, List.length_map, List.length_range, y1, hzl]
            have hat : ∀ (i j : Nat), i < len → j < z' → ∃ q cc, (Builtin.zeroCells zv.cells len).toList[i * z' + j]? = some q ∧ zr[j]? = some cc ∧ CR σ q cc := by
              intro i j hi hj
              have hlt : i * z' + j < (Builtin.zeroCells zv.cells len).toList.length := by
                rw [hvl]
                have : (i + 1) * z' ≤ len * z' := Nat.mul_le_mul_right _ hi
                rw [Nat.add_mul] at this; omega
              have hx := List.getElem?_eq_getElem hlt
              obtain ⟨_, hx2⟩ := ye hx
              have hm : (i * z' + j) % zv.cells.size = j := by
                rw [y1, hzl, Nat.mul_comm, Nat.mul_add_mod, Nat.mod_eq_of_lt hj]
              rw [hm] at hx2
              have hc2 : zr[j]? = some zr[j] := List.getElem?_eq_getElem (by omega)
              obtain ⟨s1, s2⟩ := y3 j _ _ hx2 hc2
              exact ⟨_, _, hx, hc2, by rw [s2]; exact .sc _ s1⟩
            have hone : ∀ q ∈ (Builtin.zeroCells zv.cells len).toList, q.oneCell' = true := by
              intro q hq
              obtain ⟨i, hi⟩ := List.mem_iff_getElem?.1 hq
              obtain ⟨_, hx2⟩ := ye hi
              have hlt : i % zv.cells.size < zr.length := by
                rw [← y1]; exact (Array.getElem?_eq_some_iff.1 hx2).1
              obtain ⟨s1, _⟩ := y3 _ _ _ hx2 (List.getElem?_eq_getElem hlt)
              exact Ps (σ := σ) (β := β) (VR.sc s1) rfl
            have hksl : (List.replicate len zr).length = len := by simp
            have hbz : off * z' + len * z' ≤ els.length * z' := by rw [← Nat.add_mul]; exact Nat.mul_le_mul_right _ (by omega)
            obtain ⟨w', β', hst, hF, hW⟩ := Bq (P := P) (off := off * z') (els' := am els off (List.replicate len zr)) (vs := (Builtin.zeroCells zv.cells len).toList) hw hobj hL (gr _ _ _ (by rw [hksl]; omega)) (by
                intro q hq
                unfold am at hq
                rw [List.mem_append, List.mem_append] at hq
                rcases hq with (hq | hq) | hq
                · exact o5 q (List.mem_of_mem_take hq)
                · rw [List.eq_of_mem_replicate hq]; exact hzl
                · exact o5 q (List.mem_of_mem_drop hq)) (by rw [hvl]; exact hbz) hone (by
                intro i el hi j cc hj
                rw [ik _ _ _ (by rw [hksl]; omega), hksl] at hi
                rw [hvl]
                split at hi
                · rename_i hin
                  rw [List.getElem?_replicate] at hi
                  split at hi
                  rotate_left
                  · cases hi
                  cases hi
                  have hjz : j < z' := by rw [← hzl]; exact (List.getElem?_eq_some_iff.1 hj).1
                  have e1 : i * z' = off * z' + (i - off) * z' := by rw [← Nat.add_mul]; congr 1; omega
                  have e2 : (i - off + 1) * z' ≤ len * z' := Nat.mul_le_mul_right _ (by omega)
                  rw [Nat.add_mul] at e2
                  rw [if_pos (by omega)]
                  obtain ⟨q, c2, hq1, hq2, hq3⟩ := hat (i - off) j (by omega) hjz
                  rw [hj] at hq2; cases hq2
                  refine ⟨q, ?_, hq3⟩
                  rw [← hq1]; congr 1; omega
                · rename_i hin
                  have hjz : j < z' := by rw [← o5 el (List.mem_of_getElem? hi)]; exact (List.getElem?_eq_some_iff.1 hj).1
                  rw [if_neg]
                  · exact ⟨el, hi, hj⟩
                  · intro ⟨k1, k2⟩
                    apply hin
                    constructor
                    · rcases Nat.lt_or_ge i off with hlt | hge
                      · have : (i + 1) * z' ≤ off * z' := Nat.mul_le_mul_right _ hlt
                        rw [Nat.add_mul] at this; omega
                      · exact hge
                    · rcases Nat.lt_or_ge i (off + len) with hlt | hge
                      · exact hlt
                      · have : (off + len) * z' ≤ i * z' := Nat.mul_le_mul_right _ hge
                        rw [Nat.add_mul] at this; omega)
            have hAe : A' = ⟨L.blk, L.boff + off * z', none⟩ := by
              obtain ⟨bb, oo, ss⟩ := A'
              simp only at a1 a2 a3
              rcases a3 with a3 | a3
              · omega
              · rw [a1, a2, a3, o3]
            rw [hAe] at hX
            exact ⟨_, w', σ, β', .inl (go1 _ _ _ w' hk0 hX hst), hF, hW, .undef _⟩
      · cases hs
    · cases hs
  · split at hs
    · rename_i hn
      cases hs
      obtain ⟨A, cap, hA, hcap⟩ := vh r1 hn
      exact ⟨_, w, σ, β, .inl (go0 _ _ hA), .refl, hw, .undef _⟩
    · cases hs
end Go.Vm
/-
 Vm: the jk steps are the machine's (own work): noughts behind no slice.
-/
namespace Go.Vm
open Go Go.RowKit
variable {P : Program} {prot : Nat -> Prop} {σ : gq} {β : Nat -> Option Loc} {h : ae} {w : World} {a : Act} {s : List VV}
theorem afw {o : Oper} {c : Call} {t t' e : TypeId} {kn : IntKind} {x y : Operand} {x' y' : Opd} {z by_ : Nat} {zr : List CV} {v : VV} {h' : ae} (ho : o.op = .call c) (hc : c.callee = .builtin .append) (ha : c.args.toList = [x, y]) (ht : c.argTypes.toList = [t, t'])
  (hd : P.underlying t = some (.slice e)) (hd' : P.underlying t' = some (.int kn)) (hz : kx P e = some z) (hby : abs P e = some by_) (hzr : kh P e = some zr) (hz0 : 0 < z) (hx : opd x = some x') (hy : opd y = some y')
  (hs : ai h (ad s) (.apz z by_ zr x' y') = some (v, h')) (hf : FR σ β a.tmps s) (hw : WR P prot σ β h w) : Sim P o a prot σ β w v h' := by
 have r1 := av hx hf
 have r2 := av hy hf
 obtain ⟨i, zv, hi, hzv, z1, z2, z3⟩ := iw hzr
 obtain ⟨i', hi', hin⟩ := pk hz
 rw [hi] at hi'; cases hi'
 have hib : i.bytes = by_ := by unfold abs at hby; grind
 have hzc : zv.cells.size = z := by omega
 have hzl : zr.length = z := by omega
 simp only [ai] at hs
 split at hs
 ·rename_i n e1 hn
  split at hs
  ·rename_i hcond
   obtain ⟨b1, b3, b4⟩ := hcond
   unfold cz at b3 b4
   cases hs
   rw [e1] at r1
   have q := bu r1
   obtain ⟨kl, hkl⟩ := nz r2 hn
   obtain ⟨m, rfl⟩ : ∃ m : Nat, n = (m : Int) := ⟨n.toNat, by omega⟩
   have hb3 : m * i.bytes <= 281474976710656 := by
    grind
   have hrun := Lib.run_append_nil_zeros (P := P) w t t' o.type e i zv kl kn hd hd' hi hzv m (by omega) (by omega) (by omega) hb3
   have hgo := Jr (w := w) ho hc ha ht (by rw [q, hkl]; exact hrun)
   have hge : m <= grownCap w m 0 e := grownCap_ge _ _ _ _
   have hsz : ∀ (zs : Array Value) (n : Nat), (Builtin.zeroCells zs n).size = n * zs.size := by intro zs n; simp [Builtin.zeroCells]
   obtain ⟨σ2, β2, hF2, hW2, hV2⟩ := Gm (C := Builtin.zeroCells zv.cells m ++ Builtin.zeroCells zv.cells (grownCap w m 0 e - m)) (E := e) (z := z) (els := List.replicate m zr) (len := m) (cap := grownCap w m 0 e) (w' := w.drew.alloc (.cells (Builtin.zeroCells zv.cells m ++ Builtin.zeroCells zv.cells (grownCap w m 0 e - m)) e)) (fz := (0, 0)) true false hw ⟨rfl, rfl, rfl⟩ rfl (.inl rfl) hz0
    (fun el he => by grind) (by simp) hge (by rw [Array.size_append, hsz, hsz, hzc, <- Nat.add_mul]; grind) (fun e => by cases e) (by
     intro k el hk j cc hj
     rw [List.getElem?_replicate] at hk
     split at hk
     ·rename_i hlt
      cases hk
      have hjn : j < z := by grind
      have hb : k * z + j < m * z := by
       have : (k + 1) * z <= m * z := Nat.mul_le_mul_right _ (by omega)
       grind
      have hmod : (k * z + j) % z = j := by rw [Nat.mul_comm, Nat.mul_add_mod, Nat.mod_eq_of_lt hjn]
      have hjs : j < zv.cells.size := by omega
      obtain ⟨e1, rfl⟩ := z3 j zv.cells[j] cc (by simp [hjs]) hj
      refine ⟨zv.cells[j], ?_, .sc _ e1⟩
      rw [Array.getElem?_append_left (by grind)]
      unfold Builtin.zeroCells
      grind
     ·cases hk)
   refine ⟨_, _, σ2, β2, .inl hgo, hF2, hW2, ?_⟩
   grind
  ·cases hs
 ·cases hs
end Go.Vm
/-
 Vm: every jk step is the machine's (own work).
-/
namespace Go.Vm
open Go Go.RowKit
variable {P : Program} {prot : Nat -> Prop} {σ : gq} {β : Nat -> Option Loc} {h : ae} {w : World} {a : Act} {s : List VV}
theorem map_some {α γ : Type} {x : Option α} {f : α -> γ} {y : γ} (h : x.map f = some y) : ∃ z, x = some z /\ f z = y := by
 simp_all
theorem Qv {refs : List Nat} {own : Bool} {o : Oper} {i : Ins} {v : VV} {h' : ae} (hc : lj P refs own o = some i) (hs : ai h (ad s) i = some (v, h')) (hf : FR σ β a.tmps s) (hw : WR P prot σ β h w) : Sim P o a prot σ β w v h' := by
 unfold lj at hc
 cases hop : o.op <;> rw [hop] at hc <;> simp only at hc <;> try (cases hc; done)
 case move x => exact acv (.inl hop) hc hs hf hw
 case assign x => exact acv (.inr hop) hc hs hf hw
 case pick c x y =>
  split at hc
  ·cases hc; exact Yn hop (by assumption) (by assumption) (by assumption) hs hf hw
  ·cases hc
 case alloc t =>
  obtain ⟨z, hz, rfl⟩ := map_some hc
  exact Xr hop hz hs hf hw
 case box t x =>
  split at hc
  ·cases hc; exact agj hop (by assumption) hs hf hw
  ·cases hc
 case build t parts =>
  split at hc
  ·rename_i z hz
   split at hc
   ·rename_i fields hd
    split at hc
    ·rename_i hall
     obtain ⟨l, hl, rfl⟩ := map_some hc
     exact Rf hop hz hd hall hl hs hf hw
    ·cases hc
   ·rename_i n e hd
    split at hc
    ·rename_i k hk
     obtain ⟨l, hl, rfl⟩ := map_some hc
     exact Qe hop hz hd hk hl hs hf hw
    ·cases hc
   ·cases hc
  ·cases hc
 case buildSlice t len parts =>
  split at hc
  ·rename_i e hd
   split at hc
   ·rename_i n z hn hz
    split at hc
    ·rename_i hcond
     obtain ⟨l, hl, rfl⟩ := map_some hc
     exact aaf hop hd hn hz hcond.1 hcond.2 hl hs hf hw
    ·cases hc
   ·cases hc
  ·cases hc
 case load t x =>
  split at hc
  ·rename_i n ag y hn hg hx
   split at hc
   ·rename_i h1; cases hc; exact aj9 hop hn hg (by omega) hx hs hf hw
   ·cases hc
  ·cases hc
 case store t x y =>
  split at hc
  ·rename_i n x' y' hn hx hy; cases hc; exact aiw hop hn hx hy hs hf hw
  ·cases hc
 case nilCheck x => exact Xu hop hc hs hf hw
 case binOp op t x y yt =>
  split at hc
  ·rename_i k a' b' hd hx hy; cases hc; exact Ks hop hx hy hs hf hw
  ·rename_i a' b' hd hx hy; cases hc; exact Ks hop hx hy hs hf hw
  ·rename_i k a' b' hd hx hy; cases hc; exact Ks hop hx hy hs hf hw
  ·rename_i a' b' hd hx hy
   split at hc
   ·cases hc; exact Sl (neg := false) hop hd hx hy hs hf hw
   ·cases hc; exact Sl (neg := true) hop hd hx hy hs hf hw
   ·cases hc
  ·rename_i d a' b' _ _ _ _ hd hx hy
   split at hc
   ·rename_i k hk
    split at hc
    ·split at hc
     ·rename_i hy'; cases hc; exact Hi (neg := false) hop hd hk (.inl ⟨hx, hy'⟩) hs hf hw
     ·split at hc
      ·rename_i hx'; cases hc; exact Hi (neg := false) hop hd hk (.inr ⟨hy, hx'⟩) hs hf hw
      ·cases hc
    ·split at hc
     ·rename_i hy'; cases hc; exact Hi (neg := true) hop hd hk (.inl ⟨hx, hy'⟩) hs hf hw
     ·split at hc
      ·rename_i hx'; cases hc; exact Hi (neg := true) hop hd hk (.inr ⟨hy, hx'⟩) hs hf hw
      ·cases hc
    ·cases hc
   ·cases hc
  ·cases hc
 case unOp op t x =>
  obtain ⟨y, hy, rfl⟩ := map_some hc
  exact ai6 hop hy hs hf hw
 case convert src dst x =>
  split at hc
  ·rename_i k0 k y hd1 hd2 hx; cases hc; exact agi hop hd1 hd2 hx hs hf hw
  ·rename_i k0 k y hd1 hd2 hx; cases hc; exact ad8 hop hd1 hd2 hx hs hf hw
  ·rename_i y hd1 hd2 hx; cases hc; exact aak hop hd1 hd2 hx hs hf hw
  ·rename_i e y hd1 hd2 hx
   split at hc
   ·rename_i he hz; cases hc; exact aba hop hd1 hd2 he hx hs hf hw
   ·cases hc
  ·rename_i e y hd1 hd2 hx
   split at hc
   ·rename_i he hz; cases hc; exact aag hop hd1 he hd2 hx hs hf hw
   ·cases hc
  ·rename_i e e' y hd1 hd2 hx
   split at hc
   ·rename_i hsd
    have hsd' : src = dst := by grind
    subst hsd'
    split at hc
    ·rename_i he; cases hc; exact af6 hop hd1 hd2 he hx hs hf hw
    ·cases hc
   ·cases hc
  ·cases hc
 case makeInterface t x =>
  split at hc
  ·cases hc
  ·rename_i d y hn hd hx
   cases hc
   exact Yp hop hd (fun ms e => hn ms e) hx hs hf hw
  ·cases hc
 case makeFunc fn first caps =>
  cases fn
  case func f =>
   simp only at hc
   split at hc
   ·rename_i he
    obtain ⟨l, hl, rfl⟩ := map_some hc
    exact aah hop he hl hs hf hw
   ·cases hc
  case method m =>
   simp only at hc
   split at hc
   ·rename_i x hx
    obtain ⟨y, hy, rfl⟩ := map_some hc
    have hfx : first = #[x] := by rw [<- hx]
    subst hfx
    exact aaa hop hy hs hf hw
   ·cases hc
  all_goals (simp only at hc; cases hc)
 case makeSlice t l c =>
  split at hc
  ·rename_i e hd
   split at hc
   ·rename_i n by_ z l' c' hn hby hz hl hcc
    split at hc
    ·rename_i h0; cases hc; exact ad1 hop hd hn hby hz h0 hl hcc hs hf hw
    ·cases hc
   ·cases hc
  ·cases hc
 case slice t x lo hi mx =>
  split at hc
  ·rename_i x' lo' hi' hd hx hlo hhi hmx
   cases hc
   have : mx = none := by
    cases mx with
    | none => rfl
    | some m => simp only [Cr] at hmx; simp_all
   subst this
   exact ae9 hop hd hx hlo hhi hs hf hw
  ·rename_i e x' lo' hi' mx' hd hx hlo hhi hmx
   split at hc
   ·rename_i n hn
    split at hc
    ·rename_i h0
     cases hc
     exact agv hop hd hn h0.1 hx hlo hhi hmx (by grind) hs hf hw
    ·cases hc
   ·cases hc
  ·rename_i n e x' lo' hi' hd hx hlo hhi hmx
   split at hc
   ·rename_i z hz
    split at hc
    ·rename_i h0
     cases hc
     have : mx = none := by
      cases mx with
      | none => rfl
      | some m => simp only [Cr] at hmx; simp_all
     subst this
     exact ae0 hop hd hz h0 hx hlo hhi hs hf hw
    ·cases hc
   ·cases hc
  ·cases hc
 case fieldAddr t x f =>
  split at hc
  ·rename_i fields y hd hx
   split at hc
   ·rename_i fd hfd
    split at hc
    ·rename_i n hn
     split at hc
     ·rename_i h0; cases hc; exact ada hop hd hfd hn h0 hx hs hf hw
     ·cases hc
    ·cases hc
   ·cases hc
  ·cases hc
 case field t x f =>
  split at hc
  ·rename_i fields y hd hx
   split at hc
   ·rename_i fd hfd
    split at hc
    ·rename_i n ag hn hg
     split at hc
     ·rename_i h1; cases hc; exact afb hop hd hfd hn hg (by omega) hx hs hf hw
     ·cases hc
    ·cases hc
   ·cases hc
  ·cases hc
 case indexAddr t x i' =>
  split at hc
  ·rename_i e x' j hd hx hj
   split at hc
   ·rename_i z hz
    split at hc
    ·rename_i h0; cases hc; exact Yr hop hd hz h0 hx hj hs hf hw
    ·cases hc
   ·cases hc
  ·rename_i n e x' j hd hx hj
   split at hc
   ·rename_i z hz
    split at hc
    ·rename_i h0; cases hc; exact Zp hop hd hz h0 hx hj hs hf hw
    ·cases hc
   ·cases hc
  ·cases hc
 case index t x i' =>
  split at hc
  ·rename_i n e x' j hd hx hj
   split at hc
   ·rename_i z ag hz hg
    split at hc
    ·rename_i h1; cases hc; exact afz hop hd hz hg (by omega) hx hj hs hf hw
    ·cases hc
   ·cases hc
  ·rename_i x' j hd hx hj
   cases hc; exact afs hop hd hx hj hs hf hw
  ·cases hc
 case extract x k =>
  obtain ⟨y, hy, rfl⟩ := map_some hc
  exact agf hop hy hs hf hw
 case panic x =>
  obtain ⟨y, hy, rfl⟩ := map_some hc
  simp [ai] at hs
 case call c =>
  split at hc
  ·split at hc
   ·obtain ⟨l, hl, rfl⟩ := map_some hc
    split at hs <;> simp [ai] at hs
   ·cases hc
  ·split at hc
   ·cases hc; simp [ai] at hs
   ·cases hc
  ·split at hc
   ·cases hc; simp [ai] at hs
   ·cases hc
  ·rename_i b hcb
   split at hc
   ·rename_i x t hax hat
    split at hc
    ·rename_i y hd hx; cases hc; exact aav hop hcb hax hat hd hx hs hf hw
    ·rename_i e y hd hx; cases hc; exact af1 hop hcb hax hat hd hx hs hf hw
    ·cases hc
   ·rename_i s' x t t' hax hat
    split at hc
    ·rename_i e kn hd hd'
     split at hc
     ·rename_i z by_ zr s1 x1 hz hby hzr hs1 hx1
      split at hc
      ·rename_i h0
       cases hc
       exact afw hop hcb hax hat hd hd' hz hby hzr h0 hs1 hx1 hs hf hw
      ·cases hc
     ·cases hc
    ·cases hc
    ·rename_i e d' hni0 hni hd hd'
     split at hc
     ·rename_i z by_ zr s1 x1 hz hby hzr hs1 hx1
      split at hc
      ·rename_i h0
       cases hc
       exact aem hop hcb hax hat hd hd' (fun k e => by grind) hz hby hzr h0.1 hs1 hx1 hs hf hw
      ·cases hc
     ·cases hc
    ·cases hc
   ·rename_i x y t tys hax hat
    split at hc
    ·rename_i e hd
     split at hc
     ·rename_i z x1 y1 hz hx1 hy1
      split at hc
      ·rename_i h0; cases hc; exact aen hop hcb hax hat hd hz h0 hx1 hy1 hs hf hw
      ·cases hc
     ·cases hc
    ·cases hc
   ·rename_i x t hax hat
    split at hc
    ·rename_i e y hd hx; cases hc; exact agt hop hcb hax hat hd hx hs hf hw
    ·cases hc
   ·rename_i x t hax hat
    split at hc
    ·rename_i e hd
     split at hc
     ·rename_i z zr y hz hzr hy
      split at hc
      ·rename_i h0; cases hc; exact afd hop hcb hax hat hd hz h0 hzr hy hs hf hw
      ·cases hc
     ·cases hc
    ·cases hc
   ·obtain ⟨l, hl, rfl⟩ := map_some hc
    exact Pk (isMin := true) hop hcb (by omega) hs hf hw
   ·obtain ⟨l, hl, rfl⟩ := map_some hc
    exact Pk (isMin := false) hop hcb (by omega) hs hf hw
   ·rename_i x y hax
    split at hc
    ·rename_i x1 y1 hx1 hy1; cases hc; exact Ym hop hcb hax hx1 hy1 hs hf hw
    ·cases hc
   ·cases hc
end Go.Vm
/-
 Vm: calls, and regions whose order is the text's (own work).
-/
namespace Go.Vm
open Go Go.RowKit
variable {P : Program} {prot : Nat -> Prop} {σ : gq} {β : Nat -> Option Loc} {h : ae} {w : World} {a : Act} {s : List VV}
def rn (P : Program) (prot : Nat -> Prop) (σ : gq) (β : Nat -> Option Loc) (w : World) (r : CRes) (h' : ae) (e : Ending) (w' : World) : Prop :=
 ∃ σ' β' rv, Fut prot σ β w σ' β' w' /\ WR P prot σ' β' h' w' /\
  ((∃ v, r = .ret v /\ e = .returned rv /\ VR σ' β' rv v) \/ ∃ v, r = .pan v /\ e = .panicked [{ v := rv, recovered := false }] /\ VR σ' β' rv v)
def Fn (r : Option Nat) : Fence := { Fence.wide with round := r }
theorem xu {r : Option Nat} {n : Nat} {f : FuncId} {args : Array Value} {w : World} {R : Ending -> World -> Prop} (h : Calls P f args w R) : CallsIn (Fn r) n P f args w R :=
 show CallsIn Fence.wide n P f args w R from callsIn_wide.2 h
theorem Dy {r : Option Nat} {n l : Nat} {f : FuncId} {tmps : Array Value} {x y : Code} {w : World} {R : Ending -> World -> Prop} (h : RoundIn Fence.wide n P l f tmps x y w R) : RoundIn (Fn r) n P l f tmps x y w R := h
structure CallsOK (P : Program) (call : bj) : Prop where
 fn : ∀ f args h r, f < YB -> call f args h = some r -> ∃ fnc, P.funcs[f]? = some fnc /\ (fnc.name == "runtime.NumGoroutine") = false /\ fnc.body.isNone = false
 go : ∀ f args h r h', f < YB -> call f args h = some (r, h') -> ∀ (rargs : Array Value) (prot : Nat -> Prop) (σ : gq) (β : Nat -> Option Loc) (w : World), rargs.size = args.length ->
  (∀ (i : Nat) (v : Value) (u : VV), rargs[i]? = some v -> args[i]? = some u -> VR σ β v u) -> WR P prot σ β h w -> Calls P f rargs w (rn P prot σ β w r h')
 rd : ∀ id args h r h', call (YB + id) args h = some (r, h') -> ∀ (rargs : Array Value) (prot : Nat -> Prop) (σ : gq) (β : Nat -> Option Loc) (w : World) (L : Loc), rargs.size = args.length -> β id = some L ->
  (∀ (i : Nat) (v : Value) (u : VV), rargs[i]? = some v -> args[i]? = some u -> VR σ β v u) -> WR P prot σ β h w ->
  ∃ fn tmps x y, (Instr.yield L.blk rargs).run P w = .ok (.round L.blk fn tmps x y) w /\ ∀ m, RoundIn Fence.wide m P L.blk fn tmps x y w (rn P prot σ β w r h')
def noβ : Nat -> Option Loc := fun _ => none
theorem Jc {v : Value} {u c : VV} {h' : ae} (hw : WR P prot σ β h w) (hr : VR σ β v u) (hc : gc h u = some (c, h')) : ∃ σ', Fut prot σ β w σ' β w /\ WR P prot σ' β h' w /\ VR σ' noβ v c := by
 unfold gc at hc
 split at hc
 ·rename_i cells
  split at hc
  ·rename_i cs h1 hcl
   cases hc
   cases hr with
   | agg vs _ hn hk hr =>
    obtain ⟨σ', hF, hW, hlen, hR⟩ := Ac (vs := vs.toList) hw (by omega) (fun i v u hv hu => hr i v u (by grind) hu) hcl
    refine ⟨σ', hF, hW, .agg _ _ (by grind) (fun c hc => ?_) (fun i v c hv hc => ?_)⟩
    ·simp only [List.mem_map] at hc
     obtain ⟨q, _, rfl⟩ := hc; rfl
    ·rw [List.getElem?_map] at hc
     cases hq : cs[i]? with
     | none => grind
     | some q => rw [hq] at hc; cases hc; exact .cv _ _ (hR i v q (by grind) hq)
  ·cases hc
 ·cases hc
  cases hr with
  | rptr A _ f hs hm hr => exact ⟨σ, .refl, hw, .rptr A _ f hs hm hr⟩
 ·cases hc
  cases hr with
  | func _ cs _ hn hr => exact ⟨σ, .refl, hw, .func _ cs [] hn (fun i v c hv hc => by simp at hc)⟩
 ·split at hc
  ·rename_i c1 h1 hcl
   cases hc
   obtain ⟨σ', hF, hW, hR⟩ := Pd hw hr hcl
   exact ⟨σ', hF, hW, .cv _ _ hR⟩
  ·cases hc
theorem xt {us : List VV} : ∀ {σ : gq} {h : ae} {vs : List Value} {cs : List VV} {h' : ae}, WR P prot σ β h w -> vs.length = us.length -> (∀ (i : Nat) (v : Value) (u : VV), vs[i]? = some v -> us[i]? = some u -> VR σ β v u) -> cf h us = some (cs, h') ->
  ∃ σ', Fut prot σ β w σ' β w /\ WR P prot σ' β h' w /\ cs.length = us.length /\ ∀ (i : Nat) (v : Value) (c : VV), vs[i]? = some v -> cs[i]? = some c -> VR σ' noβ v c := by
 induction us with
 | nil =>
  intro σ h vs cs h' hw hl hr hc
  cases hc
  exact ⟨σ, .refl, hw, rfl, fun i v c hv hc => by simp at hc⟩
 | cons u us ih =>
  intro σ h vs cs h' hw hl hr hc
  cases vs with
  | nil => simp at hl
  | cons v vs =>
   simp only [cf] at hc
   split at hc
   ·rename_i c1 h1 e1
    split at hc
    ·rename_i cs1 h2 e2
     cases hc
     obtain ⟨σ1, hF1, hW1, hR1⟩ := Jc hw (hr 0 v u rfl rfl) e1
     obtain ⟨σ2, hF2, hW2, hlen, hR2⟩ := ih hW1 (by simpa using hl) (fun i v u hv hu => (hr (i + 1) v u (by grind) (by grind)).mono hF1) e2
     refine ⟨σ2, hF1.trans hF2, hW2, by simp [hlen], fun i v' c' hv hc => ?_⟩
     cases i with
     | zero => simp at hv hc; subst hv hc; exact hR1.mono' hF2.sig (fun id L hL => by cases hL)
     | succ i => grind
    ·cases hc
   ·cases hc
theorem zp {v : Value} {u c : VV} (hw : WR P prot σ β h w) (hr : VR σ β v u) (hc : au h u = some c) : ∃ σ' h', Fut prot σ β w σ' β w /\ WR P prot σ' β h' w /\ VR σ' noβ v c := by
 unfold au at hc
 split at hc
 ·rename_i vs
  cases hcl : cf h vs with
  | none => grind
  | some p =>
   rw [hcl] at hc; cases hc
   cases hr with
   | tup rs us hn hr =>
    obtain ⟨σ', hF, hW, hlen, hR⟩ := xt (vs := rs.toList) hw (by omega) (fun i v u hv hu => hr i v u (by grind) hu) (cs := p.1) (h' := p.2) hcl
    exact ⟨σ', p.2, hF, hW, .tup _ _ (by omega) (fun i v c hv hc => hR i v c (by grind) hc)⟩
 ·cases hcl : gc h u with
  | none => grind
  | some p =>
   rw [hcl] at hc; cases hc
   obtain ⟨σ', hF, hW, hR⟩ := Jc hw hr (c := p.1) (h' := p.2) hcl
   grind
theorem WR.inside (hw : WR P prot σ β h w) : WR P (fun b => b < w.heap.size) σ noβ [] w :=
 ⟨fun _ h => h, hw.stab, fun id o ho => (by simp at ho), fun id L hL => (by cases hL), fun id o L ho => (by simp at ho), fun id id' o o' L L' _ ho => (by simp at ho)⟩
theorem WR.back {w1 : World} {σ1 : gq} {β1 : Nat -> Option Loc} {hc : ae} (hw : WR P prot σ β h w) (hF : Fut (fun b => b < w.heap.size) σ noβ w σ1 β1 w1) (hW : WR P (fun b => b < w.heap.size) σ1 β1 hc w1) :
  Fut prot σ β w σ1 β w1 /\ WR P prot σ1 β h w1 := by
 have hheap : ∀ b, b < w.heap.size -> w1.heap[b]? = w.heap[b]? := fun b hb => hF.prot b hb hb
 have hnews : ∀ a, σ1 a ≠ none -> σ a ≠ none \/ w.heap.size <= a.block := by
  intro a ha
  rcases hF.news a ha with h | h | ⟨id, L, hL, _⟩
  ·exact .inl h
  ·exact .inr h
  ·cases hL
 have F : Fut prot σ β w σ1 β w1 := ⟨hF.os, hF.tape, hF.output, hF.size, fun b _ hb => hheap b hb, hF.sig, fun id L hL => ⟨L, hL, .inl rfl⟩, fun a ha => (hnews a ha).imp id .inl, fun id L hL => .inr ⟨L, hL, rfl⟩⟩
 refine ⟨F, fun b hb => Nat.lt_of_lt_of_le (hw.pr b hb) hF.size, hW.stab, ?_, hw.dom, ?_, hw.inj⟩
 ·intro id o ho
  obtain ⟨L, hL, hO⟩ := hw.obj id o ho
  exact ⟨L, hL, hO.keep F (hheap _ (hO.lt))⟩
 ·intro id o L ho hfr hL
  obtain ⟨h1, h2⟩ := hw.live id o L ho hfr hL
  refine ⟨h1, fun a ha => ?_⟩
  cases hs : σ1 a with
  | none => rfl
  | some v =>
   obtain ⟨L', hL', hO⟩ := hw.obj id o ho
   rw [hL] at hL'; cases hL'
   have := hO.lt
   grind
theorem ll {call : bj} (hcall : CallsOK P call) {f : Nat} (hyb : f < YB) {pure : Bool} {args : List VV} {r : CRes} {h' : ae} (hd : du call h f pure args = some (r, h')) {rargs : Array Value} (hl : rargs.size = args.length)
    (hr : ∀ (i : Nat) (v : Value) (u : VV), rargs[i]? = some v → args[i]? = some u → VR σ β v u) (hw : WR P prot σ β h w) :
    (∃ fnc, P.funcs[f]? = some fnc ∧ (fnc.name == "runtime.NumGoroutine") = false ∧ fnc.body.isNone = false) ∧ Calls P f rargs w (rn P prot σ β w r h') := by
  unfold du at hd
  cases pure with
  | false =>
    simp only [Bool.false_eq_true, if_false] at hd
    exact ⟨hcall.fn _ _ _ _ hyb hd, hcall.go _ _ _ _ _ hyb hd rargs prot σ β w hl hr hw⟩
  | true =>
    simp only [if_true] at hd
    split at hd
    · rename_i as h1 hcl
      obtain ⟨σ0, hF0, hW0, hlen0, hR0⟩ := xt (vs := rargs.toList) hw (by omega) (fun i v u hv hu => hr i v u (by grind) hu) hcl
      have main : ∀ (q : CRes) (hc : ae), call f as [] = some (q, hc) → ∀ (u : VV), (q = .ret u ∨ q = .pan u) → ∀ u', au hc u = some u' → (r = (match q with | .ret _ => .ret u' | .pan _ => .pan u')) → h' = h1 →
          Calls P f rargs w (rn P prot σ β w r h') := by
        intro q hc hq u hqu u' hcr hrr hh
        subst hh
        refine (hcall.go _ _ _ _ _ hyb hq rargs (fun b => b < w.heap.size) σ0 noβ w (by omega) (fun i v u hv hu => hR0 i v u (by grind) hu) hW0.inside).mono ?_
        rintro e w' ⟨σ1, β1, rv, hF1, hW1, hres⟩
        have hrv : VR σ1 β1 rv u := by
          grind
        obtain ⟨σ2, hh2, hF2, hW2, hV2⟩ := zp hW1 hrv hcr
        obtain ⟨hF3, hW3⟩ := hW0.back (hF1.trans hF2) hW2
        refine ⟨σ2, β, rv, hF0.trans hF3, hW3, ?_⟩
        have hV3 : VR σ2 β rv u' := hV2.ext (fun id L hL => by cases hL)
        grind
      split at hd
      · rename_i v hc hq
        cases hcr : au hc v with
        | none => grind
        | some u' =>
          rw [hcr] at hd; cases hd
          exact ⟨hcall.fn _ _ _ _ hyb hq, main _ hc hq v (.inl rfl) u' hcr rfl rfl⟩
      · rename_i v hc hq
        cases hcr : au hc v with
        | none => grind
        | some u' =>
          rw [hcr] at hd; cases hd
          exact ⟨hcall.fn _ _ _ _ hyb hq, main _ hc hq v (.inr rfl) u' hcr rfl rfl⟩
      · cases hd
    · cases hd
theorem WR.lent {w1 : World} {σ0 σ1 : gq} {β1 : Nat -> Option Loc} (hw : WR P prot σ β h w) (hF : Fut (fun b => b < w.heap.size) σ0 noβ w σ1 β1 w1) : Fut prot σ β w σ β w1 /\ WR P prot σ β h w1 := by
 have hheap : ∀ b, b < w.heap.size -> w1.heap[b]? = w.heap[b]? := fun b hb => hF.prot b hb hb
 have F : Fut prot σ β w σ β w1 := ⟨hF.os, hF.tape, hF.output, hF.size, fun b _ hb => hheap b hb, fun _ _ h => h, fun id L hL => ⟨L, hL, .inl rfl⟩, fun a ha => .inl ha, fun id L hL => .inr ⟨L, hL, rfl⟩⟩
 refine ⟨F, fun b hb => Nat.lt_of_lt_of_le (hw.pr b hb) hF.size, ?_, ?_, hw.dom, hw.live, hw.inj⟩
 ·intro a v ha
  have hc := hw.stab a v ha
  have hb : a.block < w.heap.size := by
   cases hx : w.heap[a.block]? with
   | none => simp [World.cell?, hx] at hc
   | some o => grind
  rw [<- hc]
  simp [World.cell?, hheap _ hb]
 ·intro id o ho
  obtain ⟨L, hL, hO⟩ := hw.obj id o ho
  exact ⟨L, hL, hO.keep F (hheap _ (hO.lt))⟩
theorem VR.scal1 {σ σ' : gq} {β β' : Nat -> Option Loc} {v : Value} {u : VV} (hr : VR σ β v u) (hs : scal1 u = true) : VR σ' β' v u := by
 cases hr with
 | cv v c h => cases h with
  | sc _ h1 => exact .cv _ _ (.sc _ h1)
  | _ => simp [Go.Vm.scal1] at hs
 | agg vs cells hn hk hr =>
  simp only [Go.Vm.scal1, List.all_eq_true] at hs
  refine .agg vs cells hn hk fun i v c hv hc => ?_
  have q1 := hs c (List.mem_of_getElem? hc)
  have q2 := hr i v c hv hc
  clear hr hs
  cases q2 with
  | cv v c q3 => cases q3 with
   | sc _ q4 => exact .cv _ _ (.sc _ q4)
   | _ => simp at q1
  | _ => simp at q1
 | _ => simp [Go.Vm.scal1] at hs
theorem VR.scalV {σ σ' : gq} {β β' : Nat -> Option Loc} {v : Value} {u : VV} (hr : VR σ β v u) (hs : scalV u = true) : VR σ' β' v u := by
 unfold Go.Vm.scalV at hs
 split at hs
 ·rename_i us
  cases hr with
  | tup vs _ hn hr => exact .tup vs us hn fun i v c hv hc => (hr i v c hv hc).scal1 (List.all_eq_true.1 hs c (List.mem_of_getElem? hc))
 ·exact hr.scal1 hs
theorem Jl {call : bj} (hcall : CallsOK P call) {f : Nat} (hyb : f < YB) {args : List VV} {r : CRes} {h' : ae} (hd : Cx call h f args = some (r, h')) {rargs : Array Value} (hl : rargs.size = args.length)
  (hr : ∀ (i : Nat) (v : Value) (u : VV), rargs[i]? = some v -> args[i]? = some u -> VR σ β v u) (hw : WR P prot σ β h w) :
  (∃ fnc, P.funcs[f]? = some fnc /\ (fnc.name == "runtime.NumGoroutine") = false /\ fnc.body.isNone = false) /\ Calls P f rargs w (rn P prot σ β w r h') := by
 unfold Cx at hd
 split at hd
 ·rename_i u' h1 hdc
  by_cases hsc : scalV u' = true
  ·rw [if_pos hsc] at hd
   cases hd
   unfold du at hdc
   simp only [if_true] at hdc
   split at hdc
   ·rename_i as h1' hcl
    obtain ⟨σ0, hF0, hW0, hlen0, hR0⟩ := xt (vs := rargs.toList) hw (by omega) (fun i v u hv hu => hr i v u (by grind) hu) hcl
    split at hdc
    ·rename_i v hc hq
     cases hcr : au hc v with
     | none => grind
     | some u'' =>
      rw [hcr] at hdc; cases hdc
      refine ⟨hcall.fn _ _ _ _ hyb hq, ?_⟩
      refine (hcall.go _ _ _ _ _ hyb hq rargs (fun b => b < w.heap.size) σ0 noβ w (by omega) (fun i v u hv hu => hR0 i v u (by grind) hu) hW0.inside).mono ?_
      rintro e w' ⟨σ1, β1, rv, hF1, hW1, hres⟩
      rcases hres with ⟨v', hv, he, hR⟩ | ⟨v', hv, _, _⟩
      ·cases hv
       obtain ⟨σ2, hh2, hF2, hW2, hV2⟩ := zp hW1 hR hcr
       obtain ⟨hF3, hW3⟩ := hw.lent (hF1.trans hF2)
       exact ⟨σ, β, rv, hF3, hW3, .inl ⟨_, rfl, he, hV2.scalV hsc⟩⟩
      ·cases hv
    ·simp_all
    ·cases hdc
   ·cases hdc
  ·rw [if_neg hsc] at hd
   cases hd
   exact ll hcall hyb hdc hl hr hw
 ·rename_i u' h1 hdc
  cases hd
  exact ll hcall hyb hdc hl hr hw
 ·cases hd
theorem Kf {call : bj} (hcall : CallsOK P call) {f n : Nat} {pure : Bool} {args : List VV} {r : CRes} {h' : ae} (hlt : f < Ar) (hn : n = f \/ n = f + Ar) (hd : jv call h n pure args = some (r, h')) {rargs : Array Value} (hl : rargs.size = args.length)
  (hr : ∀ (i : Nat) (v : Value) (u : VV), rargs[i]? = some v -> args[i]? = some u -> VR σ β v u) (hw : WR P prot σ β h w) :
  (∃ fnc, P.funcs[f]? = some fnc /\ (fnc.name == "runtime.NumGoroutine") = false /\ fnc.body.isNone = false) /\ Calls P f rargs w (rn P prot σ β w r h') := by
 unfold jv at hd
 have hyb : f < YB := Nat.lt_trans hlt (by decide)
 rcases hn with rfl | rfl
 ·rw [if_pos hlt] at hd; exact ll hcall hyb hd hl hr hw
 ·rw [if_neg (by omega), Nat.add_sub_cancel] at hd; exact Jl hcall hyb hd hl hr hw
def GR (ops : Array Oper) (o : Oper) (g : Option (Nat × Bool)) : Prop :=
 (o.guard = none /\ g = none) \/ ∃ j b d, o.guard = some (j, b) /\ (ops[j]?).bind (·.dst) = some d /\ g = some (d, b)
theorem js {refs : List Nat} {own : Bool} {ops : Array Oper} {o : Oper} {o1 : Op1} (hc : Es P refs own ops o = some o1) : (lj P refs own o = some o1.i \/ ∃ name x y, o.op = .nilCheck x /\ opd x = some y /\ o1.i = .nilckM name ((oe P name).map (·.1)) y) /\ o1.d = o.dst /\ GR ops o o1.g := by
 unfold Es at hc
 split at hc
 ·rename_i i hi0
  have hi : lj P refs own o = some i \/ ∃ name x y, o.op = .nilCheck x /\ opd x = some y /\ i = .nilckM name ((oe P name).map (·.1)) y := by
   unfold akp at hi0
   split at hi0
   ·rename_i name x hn
    cases hi0
    unfold amz at hn
    split at hn
    ·rename_i d hop
     split at hn
     ·split at hn
      ·cases hn; exact .inr ⟨_, _, _, hop, rfl, rfl⟩
      ·cases hn
     ·cases hn
    ·cases hn
   grind
  split at hc
  ·rename_i hg; cases hc; exact ⟨hi, rfl, .inl ⟨hg, rfl⟩⟩
  ·rename_i j b hg
   split at hc
   ·rename_i d hd; cases hc; exact ⟨hi, rfl, .inr ⟨j, b, d, hg, hd, rfl⟩⟩
   ·cases hc
 ·cases hc
theorem so {ops : Array Oper} {o : Oper} {g : Option (Nat × Bool)} {t : Bool} (hg : GR ops o g) (hf : FR σ β a.tmps s) (hw : bm s g = some t) : Region.wanted o (yielded ops a.tmps) = t := by
 unfold Region.wanted
 rcases hg with ⟨h1, rfl⟩ | ⟨j, b, d, h1, h2, rfl⟩
 ·rw [h1]; cases hw; rfl
 ·rw [h1]
  simp only [bm] at hw
  split at hw
  ·rename_i t' hs
   cases hw
   have hlt : d < a.tmps.size := by rw [hf.1]; grind
   have := bu (hf.2 d a.tmps[d] _ (by simp [hlt]) hs)
   unfold yielded
   grind
  ·rename_i hs
   cases hw
   have hlt : d < a.tmps.size := by rw [hf.1]; grind
   have hv := hf.2 d a.tmps[d] _ (by simp [hlt]) hs
   unfold yielded
   simp only [h2, Option.bind_some]
   rw [Array.getElem?_eq_getElem hlt]
   generalize a.tmps[d] = v0 at hv
   cases hv with
   | tup vs _ _ _ => simp
  ·cases hw
theorem acq {σ : gq} {β : Nat -> Option Loc} : VR σ β undef skp := .tup #[] [] rfl (fun i v c h _ => by simp at h)
theorem ku {f : Nat} {args : Array Value} {fnc : Func} (h1 : P.funcs[f]? = some fnc) (h2 : (fnc.name == "runtime.NumGoroutine") = false) (h3 : fnc.body.isNone = false) (w : World) : (callFunc f args).run P w = .ok (.enter f args) w := by
 unfold callFunc
 rw [ac (x := P) (w1 := w) rfl]
 simp only [h1, h2, h3, Bool.false_eq_true, if_false]
 rfl
theorem Zf {refs : List Nat} {own : Bool} {o : Oper} {f : Nat} {pure : Bool} {args : List Opd} (hc : lj P refs own o = some (.call f pure args)) : ∃ c f', o.op = .call c /\ c.callee = .value (.func f') /\ Oi c.args.toList = some args /\ f' < Ar /\ (f = f' \/ f = f' + Ar) := by
 unfold lj at hc
 cases hop : o.op with
 | call c =>
  rw [hop] at hc; simp only at hc
  repeat' (first | (cases hc; done) | (obtain ⟨_, _, e⟩ := map_some hc; cases e; done) | split at hc)
  ·rename_i f' hcal hlt hso
   obtain ⟨l, hl, e⟩ := map_some hc
   cases e
   exact ⟨c, f', rfl, hcal, hl, hlt, .inr rfl⟩
  ·rename_i f' hcal hlt hso
   obtain ⟨l, hl, e⟩ := map_some hc
   cases e
   exact ⟨c, _, rfl, hcal, hl, hlt, .inl rfl⟩
 | _ =>
  exfalso
  rw [hop] at hc; simp only at hc
  repeat' (first | (cases hc; done) | (obtain ⟨_, _, e⟩ := map_some hc; cases e; done) | (rename_i hq; cases hq; done) | split at hc)
theorem Tv {refs : List Nat} {own : Bool} {o : Oper} {pure : Bool} {x : Opd} {args : List Opd} (hc : lj P refs own o = some (.callv pure x args)) : ∃ c y, o.op = .call c /\ c.callee = .value y /\ opd y = some x /\ Oi c.args.toList = some args := by
 unfold lj at hc
 cases hop : o.op with
 | call c =>
  rw [hop] at hc; simp only at hc
  repeat' (first | (cases hc; done) | (obtain ⟨_, _, e⟩ := map_some hc; cases e; done) | split at hc)
  rename_i y hnf hcal _ _ x' l hx hl
  cases hc
  exact ⟨c, y, rfl, hcal, hx, hl⟩
 | _ =>
  exfalso
  rw [hop] at hc; simp only at hc
  repeat' (first | (cases hc; done) | (obtain ⟨_, _, e⟩ := map_some hc; cases e; done) | (rename_i hq; cases hq; done) | split at hc)
theorem aed {refs : List Nat} {own : Bool} {o : Oper} {tbl : List (Nat × Nat)} {x : Opd} {args : List Opd} (hc : lj P refs own o = some (.inv tbl x args)) : ∃ c r name, o.op = .call c /\ c.callee = .invoke r name /\ opd r = some x /\ Oi c.args.toList = some args /\ tbl = oe P name := by
 unfold lj at hc
 cases hop : o.op with
 | call c =>
  rw [hop] at hc; simp only at hc
  repeat' (first | (cases hc; done) | (obtain ⟨_, _, e⟩ := map_some hc; cases e; done) | split at hc)
  rename_i r name hcal _ _ x' l hx hl
  cases hc
  exact ⟨c, r, name, rfl, hcal, hx, hl, rfl⟩
 | _ =>
  exfalso
  rw [hop] at hc; simp only at hc
  repeat' (first | (cases hc; done) | (obtain ⟨_, _, e⟩ := map_some hc; cases e; done) | (rename_i hq; cases hq; done) | split at hc)
theorem Ss {name : String} {t f : Nat} (hm : (t, f) ∈ oe P name) (v : Value) (w : World) : (method (P.types.size + Made.depth) t v name).run P w = .ok (f, v) w := by
 obtain ⟨t', ht', he⟩ := List.mem_filterMap.1 hm
 have hpos : 0 < P.types.size := Nat.lt_of_le_of_lt (Nat.zero_le _) (List.mem_range.1 ht')
 split at he
 rotate_left
 ·cases he
 rename_i i hi
 split at he
 rotate_left
 ·cases he
 rename_i m hf
 split at he
 rotate_left
 ·cases he
 rename_i f' e hp hfn hu
 cases he
 obtain ⟨k, hk⟩ : ∃ k, P.types.size + Made.depth = k + 1 := ⟨P.types.size + Made.depth - 1, by omega⟩
 rw [hk]
 simp only [method]
 rw [ac (x := i) (w1 := w) (by simp [typeInfo, hi])]
 simp only [hf]
 rw [hp]
 simp only [follow]
 rw [ac (x := (t, Place.val v)) (w1 := w) rfl]
 simp only [hfn]
 rw [ac (x := v) (w1 := w) ?_]
 ·rfl
 ·simp only [receiverAt]
  rw [ac (x := TypeDesc.pointer e) (w1 := w) (run_underlying hu w)]
  rfl
theorem Uo {refs : List Nat} {own : Bool} {o : Oper} {x : Opd} (hc : lj P refs own o = some (.panic x)) : ∃ y, o.op = .panic y /\ opd y = some x := by
 unfold lj at hc
 cases hop : o.op with
 | panic y =>
  rw [hop] at hc; simp only at hc
  obtain ⟨z, hz, e⟩ := map_some hc
  cases e
  exact ⟨y, rfl, hz⟩
 | _ =>
  exfalso
  rw [hop] at hc; simp only at hc
  repeat' (first | (cases hc; done) | (obtain ⟨_, _, e⟩ := map_some hc; cases e; done) | (rename_i hq; cases hq; done) | split at hc)
theorem Ic {refs : List Nat} {own : Bool} {o : Oper} {i : Ins} (h : lj P refs own o = some i) : ∀ c, o.op ≠ .defer c := by
 intro c e
 unfold lj at h
 grind
theorem Cm {refs : List Nat} {own : Bool} {ops : Array Oper} {o : Oper} {o1 : Op1} (h : Es P refs own ops o = some o1) : ∀ c, o.op ≠ .defer c := by
 intro c e
 rcases (js h).1 with h | ⟨_, _, _, h, _⟩
 ·exact Ic h c e
 grind
theorem Mn {name : String} {t : Nat} (hm : ((oe P name).map (·.1)).contains t = true) (v : Value) (w : World) : (nilAhead (P.types.size + Made.depth) t v name).run P w = .ok (some false) w := by
 have hm' : t ∈ (oe P name).map (·.1) := by grind
 obtain ⟨⟨t1, f⟩, hm1, rfl⟩ := List.mem_map.1 hm'
 obtain ⟨t', ht', he⟩ := List.mem_filterMap.1 hm1
 have hpos : 0 < P.types.size := Nat.lt_of_le_of_lt (Nat.zero_le _) (List.mem_range.1 ht')
 split at he
 rotate_left
 ·cases he
 rename_i i hi
 split at he
 rotate_left
 ·cases he
 rename_i m hf
 split at he
 rotate_left
 ·cases he
 rename_i f' e hp hfn hu
 cases he
 obtain ⟨k, hk⟩ : ∃ k, P.types.size + Made.depth = k + 1 := ⟨P.types.size + Made.depth - 1, by omega⟩
 rw [hk]
 simp only [nilAhead]
 rw [ac (x := i) (w1 := w) (by simp [typeInfo, hi])]
 simp only [hf]
 rw [hp]
 simp only [followBlind]
 simp_all
theorem Rn {o : Oper} {name : String} {x : Operand} {y : Opd} {v : VV} {h' : ae} (ho : o.op = .nilCheck x) (hx : opd x = some y)
  (hs : ai h (ad s) (.nilckM name ((oe P name).map (·.1)) y) = some (v, h')) (hf : FR σ β a.tmps s) (hw : WR P prot σ β h w) : Sim P o a prot σ β w v h' := by
 have r := av hx hf
 simp only [ai] at hs
 split at hs
 ·rename_i m t e1
  rw [e1] at r
  split at hs
  ·rename_i hc
   obtain ⟨rfl, hc⟩ := hc
   cases hs
   generalize hX : a.eval x = X at r
   cases r with
   | mval _ _ rv cs =>
    refine .pure hw (rv := .func (.method name) #[.iface t rv] cs) ?_ (.mval _ _ _ _)
    unfold execOp; rw [ho]
    simp only [hX]
    have e0 : (#[Value.iface t rv] : Array Value)[0]? = some (.iface t rv) := rfl
    simp only [e0]
    rw [ac (x := P) (w1 := w) rfl, ac (Mn hc rv w)]
    rfl
  ·cases hs
 ·cases hs
theorem ug {ro : Option Nat} {n : Nat} {call : bj} (hcall : CallsOK P call) {refs : List Nat} {own : Bool} {ops : Array Oper} {o : Oper} {o1 : Op1} {out : Out} {s' : List VV} {h' : ae} (hc : Es P refs own ops o = some o1) (hs : dw call ⟨s, h⟩ o1 = some (out, ⟨s', h'⟩))
    (hf : FR σ β a.tmps s) (hw : WR P prot σ β h w) :
    (out = .norm ∧ ∃ u, s' = df s o.dst u ∧ ∀ K Q, (∀ rv w' σ' β', Fut prot σ β w σ' β' w' → WR P prot σ' β' h' w' → VR σ' β' rv u → K (a.put o.dst rv) w') → o.wpIn (Fn ro) n P a w K Q) ∨
    (∃ v, out = .pan v ∧ s' = s ∧ ∀ K Q, (∀ rv w' σ' β', Fut prot σ β w σ' β' w' → WR P prot σ' β' h' w' → VR σ' β' rv v → Q (.panic [{ v := rv, recovered := false }]) a w') → o.wpIn (Fn ro) n P a w K Q) := by
  obtain ⟨hci0, hd, hg⟩ := js hc
  have hsem : ∀ ρ, o.semAt (Fn ro).round ρ = execOp ρ o := fun ρ => Oper.semAt_eq _ _ _ (Cm hc)
  have callGo : ∀ (f : Nat) (rargs : Array Value),
      (∀ fnc, P.funcs[f]? = some fnc → (fnc.name == "runtime.NumGoroutine") = false → fnc.body.isNone = false → (execOp a.eval o).run P w = .ok (.enter f rargs) w) →
      ∀ (dc : Option (CRes × ae)), (∀ r hh, dc = some (r, hh) → (∃ fnc, P.funcs[f]? = some fnc ∧ (fnc.name == "runtime.NumGoroutine") = false ∧ fnc.body.isNone = false) ∧ Calls P f rargs w (rn P prot σ β w r hh)) →
      (match dc with
        | some (.ret v, h) => some (Out.norm, (⟨df s o1.d v, h⟩ : St))
        | some (.pan v, h) => some (.pan v, ⟨s, h⟩)
        | none => none) = some (out, ⟨s', h'⟩) →
      (out = .norm ∧ ∃ u, s' = df s o.dst u ∧ ∀ K Q, (∀ rv w' σ' β', Fut prot σ β w σ' β' w' → WR P prot σ' β' h' w' → VR σ' β' rv u → K (a.put o.dst rv) w') → o.wpIn (Fn ro) n P a w K Q) ∨
      (∃ v, out = .pan v ∧ s' = s ∧ ∀ K Q, (∀ rv w' σ' β', Fut prot σ β w σ' β' w' → WR P prot σ' β' h' w' → VR σ' β' rv v → Q (.panic [{ v := rv, recovered := false }]) a w') → o.wpIn (Fn ro) n P a w K Q) := by
    intro f rargs hgo dc hdcs hs
    split at hs
    · rename_i v hh
      cases hs
      obtain ⟨⟨fnc, q1, q2, q3⟩, hC⟩ := hdcs _ _ rfl
      refine .inl ⟨rfl, v, by rw [hd], fun K Q hK => ?_⟩
      refine ⟨fun _ _ => trivial, ?_⟩
      rw [hsem, hgo fnc q1 q2 q3, Oper.uponIn_enter]
      refine ⟨fun h => (by cases h), (xu hC).mono ?_⟩
      rintro e w' ⟨σ', β', rv, hF, hW, hres⟩
      rcases hres with ⟨v', hv, rfl, hR⟩ | ⟨v', hv, _, _⟩
      · cases hv; exact hK rv w' σ' β' hF hW hR
      · cases hv
    · rename_i v hh
      cases hs
      obtain ⟨⟨fnc, q1, q2, q3⟩, hC⟩ := hdcs _ _ rfl
      refine .inr ⟨v, rfl, rfl, fun K Q hK => ?_⟩
      refine ⟨fun _ _ => trivial, ?_⟩
      rw [hsem, hgo fnc q1 q2 q3, Oper.uponIn_enter]
      refine ⟨fun h => (by cases h), (xu hC).mono ?_⟩
      rintro e w' ⟨σ', β', rv, hF, hW, hres⟩
      rcases hres with ⟨v', hv, _, _⟩ | ⟨v', hv, rfl, hR⟩
      · cases hv
      · cases hv; exact hK rv w' σ' β' hF hW hR
    · cases hs
  have hsim : ∀ v hh, ai h (ad s) o1.i = some (v, hh) → Sim P o a prot σ β w v hh := by
    intro v hh hst
    rcases hci0 with hci | ⟨name, x, y, h1, h2, h3⟩
    · exact Qv hci hst hf hw
    · rw [h3] at hst; exact Rn h1 h2 hst hf hw
  have jk : ∀ v hh, ai h (ad s) o1.i = some (v, hh) → out = .norm → s' = df s o1.d v → h' = hh →
      (out = .norm ∧ ∃ u, s' = df s o.dst u ∧ ∀ K Q, (∀ rv w' σ' β', Fut prot σ β w σ' β' w' → WR P prot σ' β' h' w' → VR σ' β' rv u → K (a.put o.dst rv) w') → o.wpIn (Fn ro) n P a w K Q) ∨
      (∃ v, out = .pan v ∧ s' = s ∧ ∀ K Q, (∀ rv w' σ' β', Fut prot σ β w σ' β' w' → WR P prot σ' β' h' w' → VR σ' β' rv v → Q (.panic [{ v := rv, recovered := false }]) a w') → o.wpIn (Fn ro) n P a w K Q) := by
    intro v hh hst e1 e2 e3
    subst e1 e2 e3
    obtain ⟨rv, w', σ', β', hgo, hF, hW, hV⟩ := hsim _ _ hst
    refine .inl ⟨rfl, v, by rw [hd], fun K Q hK => ?_⟩
    refine ⟨fun _ _ => trivial, ?_⟩
    rw [hsem]
    rcases hgo with hgo | ⟨hgo, rfl⟩
    · rw [hgo, Oper.uponIn_value]; exact hK rv w' σ' β' hF hW hV
    · rw [hgo, Oper.uponIn_skip]; exact hK _ w' σ' β' hF hW hV
  unfold dw at hs
  simp only at hs
  rcases hci0 with hci | ⟨name, x, y, h1, h2, h3⟩
  rotate_left
  · rw [h3] at hs jk
    simp only at hs
    split at hs
    · rename_i v hh hst
      cases hs
      exact jk v _ hst rfl rfl rfl
    · cases hs
  split at hs
  · -- a call of a function
    rename_i f pure args hi
    rw [hi] at hci
    obtain ⟨c, f', hop, hcal, hargs, hlt, hn⟩ := Zf hci
    obtain ⟨hl, hr⟩ := wg hargs hf
    refine callGo f' (c.args.map a.eval) (fun fnc q1 q2 q3 => ?_) _ (fun r hh hd => Kf hcall hlt hn hd (by simpa using hl) (fun i v u hv hu => hr i v u (by simpa using hv) hu) hw) hs
    unfold execOp; rw [hop]
    have hres : (resolve a.eval c o.type).run P w = .ok { target := .fn (.func f') #[], args := c.args.map a.eval } w := by
      have : resolve a.eval c o.type = Deferred.ofValue (.func (.func f') #[] #[]) (c.args.map a.eval) := by unfold resolve; rw [hcal]; rfl
      rw [this]; simp [Deferred.ofValue]
    rw [ac hres]
    simp only [invoke, Array.append_empty]
    exact ku q1 q2 q3 w
  · -- a call of a value
    rename_i pure x args hi
    rw [hi] at hci
    obtain ⟨c, y, hop, hcal, hy, hargs⟩ := Tv hci
    obtain ⟨hl, hr⟩ := wg hargs hf
    have ry := av hy hf
    split at hs
    · rename_i f caps e1
      generalize hX : a.eval y = X at ry
      generalize ad s x = U at ry e1
      cases ry <;> simp only [sr] at e1 <;> try (cases e1; done)
      case func f0 cs caps0 hn hcr =>
        split at e1
        rotate_left
        · cases e1
        rename_i hyb
        cases e1
        refine callGo f (c.args.map a.eval ++ cs) (fun fnc q1 q2 q3 => ?_) _ (fun r hh hd => ll hcall hyb hd (by simp at hl; simp [hl, hn]) (fun i v u hv hu => ?_) hw) hs
        rotate_left
        · rw [Array.getElem?_append] at hv
          rw [List.getElem?_append] at hu
          have hsz : (c.args.map a.eval).size = (args.map (ad s)).length := by simpa using hl
          rw [hsz] at hv
          split at hv
          · rename_i hlt
            rw [if_pos hlt] at hu
            exact hr i v u (by simpa using hv) hu
          · rename_i hge
            rw [if_neg hge] at hu
            exact hcr _ v u hv hu
        · unfold execOp; rw [hop]
          have hres : (resolve a.eval c o.type).run P w = .ok { target := .fn (.func f) cs, args := c.args.map a.eval } w := by
            have : resolve a.eval c o.type = Deferred.ofValue (.func (.func f) #[] cs) (c.args.map a.eval) := by unfold resolve; rw [hcal]; simp only [hX]
            rw [this]; simp [Deferred.ofValue]
          rw [ac hres]
          simp only [invoke]
          exact ku q1 q2 q3 w
      case yield id L hL hb =>
        split at e1
        · cases e1
        rename_i hpu
        cases e1
        have hpf : pure = false := by simpa using hpu
        subst hpf
        rw [List.append_nil] at hs
        have hres : (execOp a.eval o).run P w = (Instr.yield L.blk (c.args.map a.eval)).run P w := by
          unfold execOp; rw [hop]
          have h1 : (resolve a.eval c o.type).run P w = .ok { target := .fn (.yield L.blk) #[], args := c.args.map a.eval } w := by
            have : resolve a.eval c o.type = Deferred.ofValue (.func (.yield L.blk) #[] #[]) (c.args.map a.eval) := by unfold resolve; rw [hcal]; simp only [hX]
            rw [this]; simp [Deferred.ofValue]
          rw [ac h1]
          rfl
        simp only [du, Bool.false_eq_true, if_false] at hs
        split at hs
        · rename_i v hh hdc
          cases hs
          obtain ⟨fn, tmps, x1, y1, hy1, hR⟩ := hcall.rd _ _ _ _ _ hdc (c.args.map a.eval) prot σ β w L (by simpa using hl) hL (fun i v u hv hu => hr i v u (by simpa using hv) hu) hw
          refine .inl ⟨rfl, v, by rw [hd], fun K Q hK => ⟨fun _ _ => trivial, ?_⟩⟩
          rw [hsem, hres, hy1, Oper.uponIn_round]
          refine ⟨fun h => (by cases h), (Dy (hR _)).mono ?_⟩
          rintro e w' ⟨σ', β', rv, hF, hW, hres⟩
          rcases hres with ⟨v', hv, rfl, hR⟩ | ⟨v', hv, _, _⟩
          · cases hv; exact hK rv w' σ' β' hF hW hR
          · cases hv
        · rename_i v hh hdc
          cases hs
          obtain ⟨fn, tmps, x1, y1, hy1, hR⟩ := hcall.rd _ _ _ _ _ hdc (c.args.map a.eval) prot σ β w L (by simpa using hl) hL (fun i v u hv hu => hr i v u (by simpa using hv) hu) hw
          refine .inr ⟨v, rfl, rfl, fun K Q hK => ⟨fun _ _ => trivial, ?_⟩⟩
          rw [hsem, hres, hy1, Oper.uponIn_round]
          refine ⟨fun h => (by cases h), (Dy (hR _)).mono ?_⟩
          rintro e w' ⟨σ', β', rv, hF, hW, hres⟩
          rcases hres with ⟨v', hv, _, _⟩ | ⟨v', hv, rfl, hR⟩
          · cases hv
          · cases hv; exact hK rv w' σ' β' hF hW hR
        · cases hs
    · cases hs
  · -- a call of an interface's method
    rename_i tbl x args hi
    rw [hi] at hci
    obtain ⟨c, r, name, hop, hcal, hy, hargs, rfl⟩ := aed hci
    obtain ⟨hl, hr⟩ := wg hargs hf
    have ry := av hy hf
    split at hs
    rotate_left
    · cases hs
    rename_i f v e1
    generalize hX : a.eval r = X at ry
    generalize ad s x = U at ry e1
    unfold Rt at e1
    split at e1
    rotate_left
    · cases e1
    rename_i t v'
    split at e1
    rotate_left
    · cases e1
    rename_i p hp
    split at e1
    rotate_left
    · cases e1
    rename_i hyb
    cases e1
    cases ry with
    | iface _ rv _ hrv =>
    have hpt : p.1 = t := by have := List.find?_some hp; simpa using this
    have hmem : (t, p.2) ∈ oe P name := by rw [← hpt]; exact List.mem_of_find?_eq_some hp
    have hmeth := Ss hmem rv w
    refine callGo p.2 (#[rv] ++ c.args.map a.eval) (fun fnc q1 q2 q3 => ?_) _ (fun r hh hd => ll hcall hyb hd (by simp at hl; simp [hl]; omega) (fun i v u hv hu => ?_) hw) hs
    rotate_left
    · cases i with
      | zero =>
        rw [Array.getElem?_append_left (by simp)] at hv
        simp at hv hu
        subst hv hu
        exact hrv
      | succ i =>
        rw [Array.getElem?_append_right (by simp)] at hv
        rw [List.getElem?_cons_succ] at hu
        exact hr i v u (by simpa using hv) hu
    · unfold execOp; rw [hop]
      have hres : (resolve a.eval c o.type).run P w = .ok { target := .fn (.method name) #[], args := #[.iface t rv] ++ c.args.map a.eval } w := by
        unfold resolve; rw [hcal]; simp only [hX]; rfl
      rw [ac hres]
      have e0 : (#[Value.iface t rv] ++ c.args.map a.eval)[0]? = some (.iface t rv) := by
        rw [Array.getElem?_append_left (by show 0 < 1; decide)]; rfl
      have e2 : (#[Value.iface t rv] ++ c.args.map a.eval).extract 1 (#[Value.iface t rv] ++ c.args.map a.eval).size = c.args.map a.eval := by
        apply Array.ext'
        simp
        exact List.take_of_length_le (by simp)
      simp only [invoke, e0, e2, callMethod]
      rw [ac (x := P) (w1 := w) rfl, ac hmeth]
      exact ku q1 q2 q3 w
  · -- a panic
    rename_i x hi
    rw [hi] at hci
    obtain ⟨y, hop, hy⟩ := Uo hci
    have ry := av hy hf
    split at hs
    · rename_i t v e1
      cases hs
      rw [e1] at ry
      generalize hX : a.eval y = X at ry
      cases ry with
      | iface _ x _ hr =>
        refine .inr ⟨.iface t v, rfl, rfl, fun K Q hK => ?_⟩
        refine ⟨fun _ _ => trivial, ?_⟩
        have : (execOp a.eval o).run P w = .halt (.panic (.iface t x)) w := by
          unfold execOp; rw [hop]
          simp only [hX, Instr.panic, goPanic]
          rfl
        rw [hsem, this, Oper.uponIn_panic]
        exact hK _ w σ β .refl hw (.iface t x v hr)
    · cases hs
  · rename_i i hn1 hn2 hn3
    split at hs
    · rename_i v hh hst
      cases hs
      exact jk v _ hst rfl rfl rfl
    · cases hs
end Go.Vm
/-
 Vm: regions that draw their order (own work), first part: what an operation looks at; the trace of the text's order.
-/
namespace Go.Vm
open Go Go.RowKit
theorem mr {ρ ρ' : Opd -> VV} {x : Option Opd} {d y : Nat} (h : ∀ o ∈ x.toList, ρ o = ρ' o) : bnd ρ x d y = bnd ρ' x d y := by
 cases x with
 | none => rfl
 | some o => simp only [bnd, h o (by simp)]
theorem Ma {h : ae} {ρ ρ' : Opd -> VV} {i : Ins} (hr : ∀ x ∈ qf i, ρ x = ρ' x) : ai h ρ i = ai h ρ' i := by
 cases i <;> simp only [qf, List.mem_cons, List.not_mem_nil, or_false, forall_eq_or_imp, forall_eq, List.mem_append] at hr
 case mv x => simp only [ai, hr]
 case pick c a b => simp only [ai, hr.1, hr.2.1, hr.2.2]
 case alloc => rfl
 case box n x => simp only [ai, hr]
 case build z ps =>
  have : (ps.map fun p => (p.1, p.2.1, ρ p.2.2)) = ps.map fun p => (p.1, p.2.1, ρ' p.2.2) := List.map_congr_left fun p hp => by grind
  simp only [ai, this]
 case mksl z len zero ps own =>
  have : (ps.map fun p => (p.1, p.2.1, ρ p.2.2)) = ps.map fun p => (p.1, p.2.1, ρ' p.2.2) := List.map_congr_left fun p hp => by grind
  simp only [ai, this]
 case mkfn f xs =>
  have : xs.map ρ = xs.map ρ' := List.map_congr_left hr
  simp only [ai, this]
 case mnmx m xs =>
  have : xs.map ρ = xs.map ρ' := List.map_congr_left hr
  simp only [ai, this]
 case pf φ xs =>
  have : xs.map ρ = xs.map ρ' := List.map_congr_left hr
  simp only [ai, this]
 case slS x lo hi =>
  simp only [ai, hr x (by simp), mr (fun o ho => hr o (by simp [ho]) : ∀ o ∈ lo.toList, ρ o = ρ' o), mr (fun o ho => hr o (by simp [ho]) : ∀ o ∈ hi.toList, ρ o = ρ' o)]
 case slA n z x lo hi =>
  simp only [ai, hr x (by simp), mr (fun o ho => hr o (by simp [ho]) : ∀ o ∈ lo.toList, ρ o = ρ' o), mr (fun o ho => hr o (by simp [ho]) : ∀ o ∈ hi.toList, ρ o = ρ' o)]
 case slL z x lo hi mx =>
  simp only [ai, hr x (by simp), mr (fun o ho => hr o (by simp [ho]) : ∀ o ∈ lo.toList, ρ o = ρ' o), mr (fun o ho => hr o (by simp [ho]) : ∀ o ∈ hi.toList, ρ o = ρ' o), mr (fun o ho => hr o (by simp [ho]) : ∀ o ∈ mx.toList, ρ o = ρ' o)]
 case call => rfl
 case callv => rfl
 case inv => rfl
 case panic => rfl
 all_goals first | (simp only [ai, hr]; done) | (simp only [ai, hr.1, hr.2]; done)
theorem Cf {s s2 : List VV} {g : Option (Nat × Bool)} {xs : List Opd} (h : ∀ n ∈ sk g xs, s[n]? = s2[n]?) : (∀ x ∈ xs, ad s x = ad s2 x) /\ bm s g = bm s2 g := by
 constructor
 ·intro x hx
  cases x with
  | c v => rfl
  | t n =>
   simp only [ad, List.getD_eq_getElem?_getD]
   rw [h n]
   unfold sk
   grind
 ·cases g with
  | none => rfl
  | some p =>
   obtain ⟨d, b⟩ := p
   simp only [bm]
   rw [h d]
   unfold sk
   simp
theorem mh {call : bj} {st : St} {o : Op1} {s' : List VV} {h' : ae} (hs : dw call st o = some (.norm, ⟨s', h'⟩)) : ∃ v, s' = df st.s o.d v := by
 unfold dw at hs
 grind
theorem Lc {call : bj} {s s2 : List VV} {h h' : ae} {o : Op1} {s' : List VV} (hl : ∀ n ∈ sk o.g (qf o.i), s[n]? = s2[n]?) (hs : dw call ⟨s, h⟩ o = some (.norm, ⟨s', h'⟩)) : ∃ v, s' = df s o.d v /\ dw call ⟨s2, h⟩ o = some (.norm, ⟨df s2 o.d v, h'⟩) := by
 obtain ⟨hev, _⟩ := Cf hl
 unfold dw at hs |-
 simp only at hs |-
 cases hi : o.i
 case call f pure args =>
  rw [hi] at hs hev
  simp only at hs |-
  have : args.map (ad s) = args.map (ad s2) := List.map_congr_left hev
  grind
 case callv pure x args =>
  rw [hi] at hs hev
  simp only at hs |-
  simp only [qf, List.mem_cons, forall_eq_or_imp] at hev
  have : args.map (ad s) = args.map (ad s2) := List.map_congr_left hev.2
  grind
 case inv tbl x args =>
  rw [hi] at hs hev
  simp only at hs |-
  simp only [qf, List.mem_cons, forall_eq_or_imp] at hev
  have : args.map (ad s) = args.map (ad s2) := List.map_congr_left hev.2
  grind
 case panic x =>
  grind
 all_goals
  rw [hi] at hs hev
  simp only at hs |-
  rw [<- Ma hev]
  grind
theorem adl {h h' : ae} {ρ : Opd -> VV} {i : Ins} {v : VV} (hk : mj i = 0) (hs : ai h ρ i = some (v, h')) : ∀ h2, ai h2 ρ i = some (v, h2) := by
 intro h2
 cases i <;> simp only [mj] at hk <;> (try (cases hk; done)) <;> simp only [ai] at hs |-
 case cvSB own x =>
  cases own
  ·simp only [Bool.false_eq_true, if_false] at hs |-
   split at hs
   ·cases hs; rfl
   ·cases hs
  ·simp at hk
 case mks z b zero l c own =>
  cases own
  ·simp only [Bool.false_eq_true, if_false] at hs |-
   split at hs
   ·split at hs
    ·rename_i hc; cases hs; rw [if_pos hc]
    ·cases hs
   ·cases hs
  ·simp at hk
 case mksl => split at hk <;> cases hk
 case call => split at hk <;> cases hk
 case callv => split at hk <;> cases hk
 all_goals first
  | (cases hs; rfl)
  | (repeat' (first | (cases hs; done) | (cases hs; rfl) | (obtain ⟨z, hz, hzz⟩ := map_some hs; cases hzz; simp only [*, Option.map_some]; done) | (cases hs; simp only [*]; done) | (cases hs; rw [if_pos (by assumption)]; done) | (obtain ⟨z, hz, hzz⟩ := map_some hs; cases hzz; rw [if_pos (by assumption), hz]; rfl) | split at hs))
theorem ac8 {call : bj} {s : List VV} {h h' : ae} {o : Op1} {s' : List VV} (hk : mj o.i = 0) (hs : dw call ⟨s, h⟩ o = some (.norm, ⟨s', h'⟩)) : ∀ h2, dw call ⟨s, h2⟩ o = some (.norm, ⟨s', h2⟩) := by
 intro h2
 unfold dw at hs |-
 simp only at hs |-
 cases hi : o.i
 case call => rw [hi] at hk; simp only [mj] at hk; grind
 case callv => rw [hi] at hk; simp only [mj] at hk; grind
 case inv => rw [hi] at hk; cases hk
 case panic => grind
 all_goals
  rw [hi] at hs hk
  simp only at hs |-
  split at hs
  ·rename_i v h1 hd; cases hs; rw [adl hk hd h2]
  ·cases hs
def kc : List (Op1 × Cl) -> Nat -> Nat
 | _, 0 => 0
 | [], _ + 1 => 0
 | (_, .k) :: r, i + 1 => kc r i + 1
 | (_, .p) :: r, i + 1 => kc r i
 | (_, .r _ _) :: r, i + 1 => kc r i
def ak0 (call : bj) (hs : List ae) (ck : List (Nat × Nat × (ae -> Prop))) (x : Op1 × Cl) (c : Nat) (S S' : List VV) (V : VV) (W : Bool) : Prop :=
 bm S x.1.g = some W /\ S' = df S x.1.d V /\ (W = false -> V = skp) /\ ∃ h, hs[c]? = some h /\
  (W = false -> x.2 = .k -> hs[c + 1]? = some h) /\
  (W = true -> match x.2 with
   | .p => ∃ h1, dw call ⟨S, h⟩ x.1 = some (.norm, ⟨S', h1⟩)
   | .r lo hi => ∃ h1, dw call ⟨S, h⟩ x.1 = some (.norm, ⟨S', h1⟩) /\ (if lo = hi then ((lo, hi + 1, fun _ => h1 = h) : Nat × Nat × (ae -> Prop)) ∈ ck else ((lo, hi + 1, fun h => adu call ⟨S, h⟩ x.1 h S') : Nat × Nat × (ae -> Prop)) ∈ ck)
   | .k => ∃ h1, dw call ⟨S, h⟩ x.1 = some (.norm, ⟨S', h1⟩) /\ hs[c + 1]? = some h1)
theorem En {call : bj} : ∀ (r : List (Op1 × Cl)) (hs : List ae) (ck : List (Nat × Nat × (ae → Prop))) (st st' : St) (hs' : List ae) (ck' : List (Nat × Nat × (ae → Prop))) (c : Nat), hs.length = c + 1 → hs[c]? = some st.h →
    bz call r hs ck st = some (st', hs', ck') →
    (∀ (b : Nat) (h : ae), hs[b]? = some h → hs'[b]? = some h) ∧ (∀ x ∈ ck, x ∈ ck') ∧ hs'[c + kc r r.length]? = some st'.h ∧
    ∃ (S : Nat → List VV) (V : Nat → VV) (W : Nat → Bool), S 0 = st.s ∧ S r.length = st'.s ∧ ∀ (i : Nat) (x : Op1 × Cl), r[i]? = some x → ak0 call hs' ck' x (c + kc r i) (S i) (S (i + 1)) (V i) (W i)
  | [], hs, ck, st, st', hs', ck', c, hl, hc, hd => by
    cases hd
    exact ⟨fun _ _ h => h, fun _ h => h, by simpa [kc] using hc, fun _ => st.s, fun _ => .undef, fun _ => false, rfl, rfl, fun i x hx => by simp at hx⟩
  | (o, cl) :: r, hs, ck, st, st', hs', ck', c, hl, hc, hd => by
    unfold bz at hd
    have cons : ∀ (hs1 : List ae) (ck1 : List (Nat × Nat × (ae → Prop))) (st1 : St) (c1 : Nat) (v0 : VV) (w0 : Bool), hs1.length = c1 + 1 → hs1[c1]? = some st1.h → bz call r hs1 ck1 st1 = some (st', hs', ck') → (∀ (b : Nat) (h : ae), hs[b]? = some h → hs1[b]? = some h) → (∀ x ∈ ck, x ∈ ck1) →
        c1 = c + kc ((o, cl) :: r) 1 →
        (∀ i, kc ((o, cl) :: r) (i + 1) = kc ((o, cl) :: r) 1 + kc r i) →
        ((∀ (b : Nat) (h : ae), hs1[b]? = some h → hs'[b]? = some h) → (∀ x ∈ ck1, x ∈ ck') → ak0 call hs' ck' (o, cl) c st.s st1.s v0 w0) →
        (∀ (b : Nat) (h : ae), hs[b]? = some h → hs'[b]? = some h) ∧ (∀ x ∈ ck, x ∈ ck') ∧ hs'[c + kc ((o, cl) :: r) ((o, cl) :: r).length]? = some st'.h ∧
        ∃ (S : Nat → List VV) (V : Nat → VV) (W : Nat → Bool), S 0 = st.s ∧ S ((o, cl) :: r).length = st'.s ∧ ∀ (i : Nat) (x : Op1 × Cl), ((o, cl) :: r)[i]? = some x → ak0 call hs' ck' x (c + kc ((o, cl) :: r) i) (S i) (S (i + 1)) (V i) (W i) := by
      intro hs1 ck1 st1 c1 v0 w0 hl1 hc1 hd1 hext hck hcc hkc hseen
      obtain ⟨i1, i2, i3, S, V, W, s0, sn, hall⟩ := En r hs1 ck1 st1 st' hs' ck' c1 hl1 hc1 hd1
      refine ⟨fun b h hb => i1 b h (hext b h hb), fun x hx => i2 x (hck x hx), ?_, fun i => match i with | 0 => st.s | i + 1 => S i, fun i => match i with | 0 => v0 | i + 1 => V i, fun i => match i with | 0 => w0 | i + 1 => W i, rfl, sn, fun i x hx => ?_⟩
      · grind
      · cases i with
        | zero =>
          simp at hx; subst hx
          simp only [kc, Nat.add_zero, s0]
          grind
        | succ i =>
          grind
    split at hd
    · rename_i hwt
      split at hd
      · rename_i st1 hst
        cases cl with
        | p =>
          simp only at hd
          refine cons hs ck ⟨st1.s, st.h⟩ c (Classical.choose (mh hst)) true hl hc hd (fun _ _ h => h) (fun _ h => h) (by simp [kc]) (fun i => by simp [kc]) (fun k1 k2 => ?_)
          exact ⟨hwt, Classical.choose_spec (mh hst), fun e => (by cases e), st.h, k1 _ _ hc, fun e => (by cases e), fun _ => ⟨st1.h, hst⟩⟩
        | r lo hi =>
          simp only at hd
          refine cons hs _ ⟨st1.s, st.h⟩ c (Classical.choose (mh hst)) true hl hc hd (fun _ _ h => h) (fun x h => by grind) (by simp [kc]) (fun i => by simp [kc]) (fun k1 k2 => ?_)
          refine ⟨hwt, Classical.choose_spec (mh hst), fun e => (by cases e), st.h, k1 _ _ hc, fun e => (by cases e), fun _ => ⟨st1.h, hst, ?_⟩⟩
          split
          · grind
          · rename_i e; rw [if_neg e] at k2; exact k2 _ (List.mem_cons_self)
        | k =>
          simp only at hd
          have hnew : (hs ++ [st1.h])[c + 1]? = some st1.h := by grind
          refine cons (hs ++ [st1.h]) ck st1 (c + 1) (Classical.choose (mh hst)) true (by simp [hl]) hnew hd (fun b h hb => by grind) (fun _ h => h) (by simp [kc]) (fun i => by simp [kc]; omega) (fun k1 k2 => ?_)
          refine ⟨hwt, Classical.choose_spec (mh hst), fun e => (by cases e), st.h, k1 _ _ (by grind), fun e => (by cases e), fun _ => ⟨st1.h, hst, k1 _ _ hnew⟩⟩
      · cases hd
    · rename_i hwt
      cases cl with
      | p =>
        simp only at hd
        refine cons hs ck ⟨df st.s o.d skp, st.h⟩ c skp false hl hc hd (fun _ _ h => h) (fun _ h => h) (by simp [kc]) (fun i => by simp [kc]) (fun k1 k2 => ?_)
        exact ⟨hwt, rfl, fun _ => rfl, st.h, k1 _ _ hc, fun _ e => (by cases e), fun e => (by cases e)⟩
      | r lo hi =>
        simp only at hd
        refine cons hs ck ⟨df st.s o.d skp, st.h⟩ c skp false hl hc hd (fun _ _ h => h) (fun _ h => h) (by simp [kc]) (fun i => by simp [kc]) (fun k1 k2 => ?_)
        exact ⟨hwt, rfl, fun _ => rfl, st.h, k1 _ _ hc, fun _ e => (by cases e), fun e => (by cases e)⟩
      | k =>
        simp only at hd
        have hnew : (hs ++ [st.h])[c + 1]? = some st.h := by grind
        refine cons (hs ++ [st.h]) ck ⟨df st.s o.d skp, st.h⟩ (c + 1) skp false (by simp [hl]) hnew hd (fun b h hb => by grind) (fun _ h => h) (by simp [kc]) (fun i => by simp [kc]; omega) (fun k1 k2 => ?_)
        exact ⟨hwt, rfl, fun _ => rfl, st.h, k1 _ _ (by grind), fun _ _ => k1 _ _ hnew, fun e => (by cases e)⟩
    · cases hd
end Go.Vm
/-
 Vm: regions that draw their order (own work), second part: every order comes to what the text's comes to.
-/
namespace Go.Vm
open Go Go.RowKit
variable {P : Program} {prot : Nat -> Prop} {σ : gq} {β : Nat -> Option Loc} {h : ae} {w : World} {a : Act} {s : List VV}
def ER (σ : gq) (β : Nat -> Option Loc) (out : Out) (s : List VV) (a : Act) (e : Exit) : Prop :=
 match out with
  | .norm => e = .normal /\ FR σ β a.tmps s
  | .exit i => e = .exit i /\ FR σ β a.tmps s
  | .goto l => e = .goto l /\ FR σ β a.tmps s
  | .ret => e = .ret /\ FR σ β a.tmps s
  | .pan v => ∃ rv, e = .panic [{ v := rv, recovered := false }] /\ VR σ β rv v
def De (D : Nat) : Deferred := { target := .collected D, args := #[] }
def jb (B : Nat) (prot : Nat -> Prop) (ds : List Deferred) (w : World) : Prop :=
 ∃ Ds : List Nat, ds = Ds.map De /\ Ds.Nodup /\ ∀ D ∈ Ds, B <= D /\ prot D /\ w.heap[D]? = some (.deferred (some []))
theorem jb.nil {B : Nat} {prot : Nat -> Prop} {w : World} : jb B prot [] w := ⟨[], rfl, List.nodup_nil, fun D hD => by cases hD⟩
theorem jb.fut {B : Nat} {prot : Nat -> Prop} {ds : List Deferred} {σ σ' : gq} {β β' : Nat -> Option Loc} {w w' : World} (h : jb B prot ds w) (hF : Fut prot σ β w σ' β' w') : jb B prot ds w' := by
 obtain ⟨Ds, h1, h2, h3⟩ := h
 refine ⟨Ds, h1, h2, fun D hD => ?_⟩
 obtain ⟨a1, a2, a3⟩ := h3 D hD
 exact ⟨a1, a2, by rw [hF.prot D a2 (Array.getElem?_eq_some_iff.1 a3).1]; exact a3⟩
def jf (P : Program) (B : Nat) (prot : Nat -> Prop) (σ : gq) (β : Nat -> Option Loc) (w : World) (out : Out) (st : St) (e : Exit) (a' : Act) (w' : World) : Prop :=
 ∃ prot' σ' β', (∀ b, prot b -> prot' b) /\ Fut prot σ β w σ' β' w' /\ WR P prot' σ' β' st.h w' /\ jb B prot' a'.defers w' /\ ER σ' β' out st.s a' e
theorem Fut.weaken {prot prot' : Nat -> Prop} {σ σ' : gq} {β β' : Nat -> Option Loc} {w w' : World} (h : Fut prot' σ β w σ' β' w') (k : ∀ b, prot b -> prot' b) : Fut prot σ β w σ' β' w' :=
 ⟨h.os, h.tape, h.output, h.size, fun b hb hs => h.prot b (k b hb) hs, h.sig, h.bet, h.news, h.newb⟩
theorem WR.weaken {prot prot' : Nat -> Prop} (h1 : WR P prot' σ β h w) (k : ∀ b, prot b -> prot' b) : WR P prot σ β h w :=
 ⟨fun b hb => h1.pr b (k b hb), h1.stab, h1.obj, h1.dom, fun id o L ho hfr hL => ⟨fun hp => (h1.live id o L ho hfr hL).1 (k _ hp), (h1.live id o L ho hfr hL).2⟩, h1.inj⟩
theorem jf.after {B : Nat} {prot1 : Nat -> Prop} {σ1 : gq} {β1 : Nat -> Option Loc} {w1 w' : World} {out : Out} {st : St} {e : Exit} {a' : Act} (hp : ∀ b, prot b -> prot1 b) (hF : Fut prot σ β w σ1 β1 w1) (h : jf P B prot1 σ1 β1 w1 out st e a' w') : jf P B prot σ β w out st e a' w' := by
 obtain ⟨prot', σ', β', h0, h1, h2, h3⟩ := h
 exact ⟨prot', σ', β', fun b hb => h0 b (hp b hb), hF.trans (h1.weaken hp), h2, h3⟩
theorem og {l : List (Op1 × Cl)} {f g : Nat -> Bool} (h : ∀ k, k < l.length -> isK l k = true -> f k = true -> g k = true) : tn l f <= tn l g := by
 unfold tn
 have : ∀ (m : List Nat), (∀ k ∈ m, k < l.length) -> (m.filter fun k => isK l k && f k).length <= (m.filter fun k => isK l k && g k).length := by
  intro m
  induction m with
  | nil => intro _; simp
  | cons k m ih =>
   grind
 grind
theorem Bi {l : List (Op1 × Cl)} {f g : Nat -> Bool} (h : ∀ k, k < l.length -> isK l k = true -> f k = g k) : tn l f = tn l g :=
 Nat.le_antisymm (og fun k h1 h2 h3 => by grind) (og fun k h1 h2 h3 => by grind)
theorem zo {l : List (Op1 × Cl)} {f g : Nat -> Bool} (i : Nat) (hi : i < l.length) (hf : f i = false) (hg : g i = true) (h : ∀ k, k ≠ i -> f k = g k) : tn l g = tn l f + if isK l i = true then 1 else 0 := by
 unfold tn
 have : ∀ (n : Nat), ((List.range n).filter fun k => isK l k && g k).length = ((List.range n).filter fun k => isK l k && f k).length + if i < n /\ isK l i = true then 1 else 0 := by
  intro n
  induction n with
  | zero => simp
  | succ n ih =>
   rw [List.range_succ, List.filter_append, List.filter_append, List.length_append, List.length_append, ih]
   grind
 grind
theorem Ce {l : List (Op1 × Cl)} {i : Nat} {x : Op1} {c : Cl} (h : l[i]? = some (x, c)) : isK l i = true ↔ c = .k := by
 unfold isK
 grind
theorem Dm : ∀ (l : List (Op1 × Cl)) (i : Nat), i <= l.length -> kc l i = tn l (fun k => decide (k < i)) := by
 intro l i
 induction i with
 | zero =>
  intro _
  have : tn l (fun k => decide (k < 0)) = 0 := by unfold tn; simp
  rw [this]; cases l <;> simp [kc]
 | succ i ih =>
  intro hi
  have h1 := zo (l := l) (f := fun k => decide (k < i)) (g := fun k => decide (k < i + 1)) i (by omega) (by simp) (by simp) (fun k hk => by grind)
  rw [h1, <- ih (by omega)]
  have step : ∀ (l : List (Op1 × Cl)) (i : Nat), i < l.length -> kc l (i + 1) = kc l i + if isK l i = true then 1 else 0 := by
   intro l
   induction l with
   | nil => grind
   | cons x l ih2 =>
    intro i hi
    obtain ⟨o, c⟩ := x
    cases i with
    | zero =>
     have hk : isK ((o, c) :: l) 0 = true ↔ c = .k := Ce rfl
     cases c <;> simp [kc, hk]
    | succ i =>
     have : isK ((o, c) :: l) (i + 1) = isK l i := by simp [isK]
     have h2 := ih2 i (by grind)
     rw [this]
     cases c <;> simp only [kc] <;> omega
  grind
theorem Dz {refs : List Nat} {owns : List (Nat × Nat)} {id : Nat} {ops : Array Oper} : ∀ {l : List Oper} {k : Nat} {lo : List Op1}, uq P refs owns id ops k l = some lo -> lo.length = l.length /\ ∀ (j : Nat) (o : Oper), l[j]? = some o -> ∃ x own, lo[j]? = some x /\ Es P refs own ops o = some x
 | [], k, lo, h => by cases h; grind
 | o :: l, k, lo, h => by
  simp only [uq] at h
  split at h
  ·rename_i x lr e1 e2
   cases h
   obtain ⟨h1, h2⟩ := Dz e2
   grind
  ·cases h
structure DOK (P : Program) (refs : List Nat) (ops : Array Oper) (l : List (Op1 × Cl)) (T : Nat -> List Nat) (α : Option Nat) : Prop where
 len : l.length = ops.size
 op : ∀ (i : Nat) (o : Oper), ops[i]? = some o -> ∃ x c own, l[i]? = some (x, c) /\ Es P refs own ops o = some x
 af : ∀ (i : Nat) (o : Oper), ops[i]? = some o -> ∀ e ∈ o.after, Region.binds .any e = true -> e.on < i
 tt : ∀ (i : Nat) (o : Oper), ops[i]? = some o -> ∀ j ∈ T i, ∃ e ∈ o.after, Region.binds .any e = true /\ (j = e.on \/ j ∈ T e.on)
 cp : ∀ (i : Nat) (x : Op1), l[i]? = some (x, Cl.p) -> mj x.i = 0
 cr : ∀ (i : Nat) (x : Op1) (lo hi : Nat), l[i]? = some (x, Cl.r lo hi) -> lo = tn l (fun k => (T i).contains k) /\ hi = tn l (fun k => !(T k).contains i)
 dst : ∀ (i j : Nat) (x y : Op1) (c c' : Cl), i ≠ j -> l[i]? = some (x, c) -> l[j]? = some (y, c') -> ∀ d, x.d = some d -> y.d ≠ some d /\ (d ∈ sk y.g (qf y.i) -> if i < j then i ∈ T j else j ∈ T i)
 ch : ∀ (i j : Nat), isK l i = true -> isK l j = true -> i < j -> j < l.length -> α ≠ some j -> i ∈ T j
 al : ∀ (a : Nat), α = some a -> ∃ d zs, l[a]? = some (⟨none, some d, .alloc zs⟩, .k)
 aj : ∀ (a : Nat), α = some a -> ∀ (j : Nat), j < l.length -> a ∈ T j -> ∀ i, i < a -> isK l i = true -> i ∈ T j
theorem ajj {refs : List Nat} {owns : List (Nat × Nat)} {id : Nat} {ops : Array Oper} {l : List (Op1 × Cl)} (hc : yz P refs owns id ops = some l) : ∃ T α, DOK P refs ops l T α := by
  unfold yz at hc
  split at hc
  · rename_i l1 hl1
    simp only at hc
    split at hc
    · rename_i hok
      cases hc
      obtain ⟨c1, c2⟩ := Dz hl1
      rw [List.any_eq_true] at hok
      obtain ⟨α, _, hok⟩ := hok
      generalize hT : als ops.toList [] = Tl at hok
      generalize hcl : (fun (x : Op1 × Nat) => (x.1, if (owns.contains (id, x.2) || mj x.1.i == 2) = true then Cl.k else if (mj x.1.i == 0) = true then Cl.p else
          Cl.r (tn (l1.zipIdx.map fun (x : Op1 × Nat) => (x.1, if (owns.contains (id, x.2) || mj x.1.i == 2) = true then Cl.k else Cl.p)) fun k => (Tl.getD x.2 []).contains k) (tn (l1.zipIdx.map fun (x : Op1 × Nat) => (x.1, if (owns.contains (id, x.2) || mj x.1.i == 2) = true then Cl.k else Cl.p)) fun k => !(Tl.getD k []).contains x.2))) = F at hok
      have hF : ∀ y, (F y).1 = y.1 := by intro y; rw [← hcl]
      have hlen : (l1.zipIdx.map F).length = ops.size := by simp [c1]
      have hat : ∀ (i : Nat) (o : Oper), ops[i]? = some o → ∃ x c own, (l1.zipIdx.map F)[i]? = some (x, c) ∧ Es P refs own ops o = some x := by
        intro i o ho
        obtain ⟨x, own, h1, h2⟩ := c2 i o (by simpa using ho)
        refine ⟨x, (F (x, i)).2, own, ?_, h2⟩
        rw [List.getElem?_map, List.getElem?_zipIdx, h1]
        simp only [Option.map_some, Nat.zero_add, Option.some.injEq]
        exact Prod.ext (hF _) rfl
      generalize hL : l1.zipIdx.map F = L at hok hlen hat
      unfold acz at hok
      simp only [Bool.and_eq_true, beq_iff_eq] at hok
      obtain ⟨⟨⟨k1, k2⟩, k4⟩, k3⟩ := hok
      rw [List.all_eq_true] at k3
      have haf : ∀ (i : Nat) (o : Oper), ops[i]? = some o → (ops.toList.map tu).getD i [] = tu o := by
        intro i o ho
        simp [List.getD_eq_getElem?_getD, ho]
      have memaf : ∀ (o : Oper) (j : Nat), j ∈ tu o ↔ ∃ e ∈ o.after, Region.binds .any e = true ∧ e.on = j := by
        intro o j
        unfold tu
        rw [List.mem_filterMap]
        constructor
        · rintro ⟨e, he, h⟩
          split at h
          · rename_i hb; cases h; exact ⟨e, by simpa using he, hb, rfl⟩
          · cases h
        · rintro ⟨e, he, hb, rfl⟩
          exact ⟨e, by simpa using he, by rw [if_pos hb]⟩
      have hi_of : ∀ (i : Nat) (o : Oper), ops[i]? = some o → i ∈ List.range L.length := by
        intro i o ho
        rw [List.mem_range, hlen]; exact (Array.getElem?_eq_some_iff.1 ho).1
      refine ⟨fun i => Tl.getD i [], α, ⟨hlen, hat, ?_, ?_, ?_, ?_, ?_, ?_, ?_, ?_⟩⟩
      · intro i o ho e he hb
        have := k3 i (hi_of i o ho)
        simp only [Bool.and_eq_true] at this
        have h1 := this.1.1.1
        rw [haf i o ho, List.all_eq_true] at h1
        simpa using h1 e.on ((memaf o e.on).2 ⟨e, he, hb, rfl⟩)
      · intro i o ho j hj
        have := k3 i (hi_of i o ho)
        simp only [Bool.and_eq_true] at this
        have h1 := this.1.1.2
        rw [haf i o ho, List.all_eq_true] at h1
        have h2 := h1 j hj
        simp only [Bool.or_eq_true, List.contains_iff_mem, List.any_eq_true] at h2
        rcases h2 with h2 | ⟨e, he, h2⟩
        · obtain ⟨e, he, hb, rfl⟩ := (memaf o j).1 h2
          exact ⟨e, he, hb, .inl rfl⟩
        · obtain ⟨e', he', hb, rfl⟩ := (memaf o e).1 he
          exact ⟨e', he', hb, .inr h2⟩
      · intro i x hx
        have := k3 i (by rw [List.mem_range]; exact (List.getElem?_eq_some_iff.1 hx).1)
        simp only [Bool.and_eq_true] at this
        have h1 := this.1.2
        rw [hx] at h1
        simpa using h1
      · intro i x lo hi hx
        have := k3 i (by rw [List.mem_range]; exact (List.getElem?_eq_some_iff.1 hx).1)
        simp only [Bool.and_eq_true] at this
        have h1 := this.1.2
        rw [hx] at h1
        simpa using h1
      · intro i j x y c c' hij hx hy d hd
        have := k3 i (by rw [List.mem_range]; exact (List.getElem?_eq_some_iff.1 hx).1)
        simp only [Bool.and_eq_true] at this
        have h1 := this.2
        rw [List.all_eq_true] at h1
        have h2 := h1 j (by rw [List.mem_range]; exact (List.getElem?_eq_some_iff.1 hy).1)
        rw [hx, hy] at h2
        simp only [Bool.or_eq_true, beq_iff_eq, hij, false_or, hd, Bool.and_eq_true] at h2
        obtain ⟨⟨h3, h4⟩, _⟩ := h2
        refine ⟨by simpa using h3, fun hm => ?_⟩
        rcases h4 with h4 | h4
        · exact absurd hm (by simpa using h4)
        · split at h4
          · rename_i hlt; rw [if_pos hlt]; simpa using h4
          · rename_i hlt; rw [if_neg hlt]; simpa using h4
      · intro i j hi hj hlt hjl hα
        have := k3 i (by rw [List.mem_range]; omega)
        simp only [Bool.and_eq_true] at this
        have h1 := this.2
        rw [List.all_eq_true] at h1
        have h2 := h1 j (by rw [List.mem_range]; exact hjl)
        have hij : i ≠ j := by omega
        cases hx : L[i]? with
        | none => rw [List.getElem?_eq_none_iff] at hx; omega
        | some x =>
          cases hy : L[j]? with
          | none => rw [List.getElem?_eq_none_iff] at hy; omega
          | some y =>
            rw [hx, hy] at h2
            simp only [Bool.or_eq_true, beq_iff_eq, hij, false_or, Bool.and_eq_true] at h2
            have h3 := h2.2
            rw [if_pos ⟨⟨⟨hi, hj⟩, by simpa using hlt⟩, by simpa using hα⟩] at h3
            simpa using h3
      · intro a ha
        subst ha
        simp only [To, Bool.and_eq_true] at k4
        have k5 := k4.1
        split at k5
        · rename_i d zs he; exact ⟨d, zs, he⟩
        · cases k5
      · intro a ha j hj haj i hia hki
        subst ha
        simp only [To, Bool.and_eq_true, List.all_eq_true] at k4
        have k5 := k4.2 j (by rw [List.mem_range]; exact hj)
        simp only [Bool.or_eq_true, Bool.not_eq_true', List.all_eq_true] at k5
        rcases k5 with k5 | k5
        · have : (Tl.getD j []).contains a = true := by simpa using haj
          rw [this] at k5; cases k5
        · have := k5 i (by rw [List.mem_range]; exact hia)
          rcases this with h | h
          · rw [hki] at h; cases h
          · simpa using h
    · cases hc
  · cases hc
end Go.Vm
/-
 Vm: regions that draw their order (own work), third part: the theorem.
-/
namespace Go.Vm
open Go Go.RowKit
variable {P : Program} {prot : Nat -> Prop} {σ : gq} {β : Nat -> Option Loc} {h : ae} {w : World} {a : Act} {s : List VV}
theorem abz (s : List VV) (d : Option Nat) (v : VV) : (df s d v).length = s.length := by cases d <;> simp [df]
theorem uv (s : List VV) (d : Nat) (v : VV) (t : Nat) : (df s (some d) v)[t]? = if d = t then (if d < s.length then some v else none) else s[t]? := by
 simp only [df, List.getElem?_set]
def SL (l : List (Op1 × Cl)) (s0 : List VV) (V : Nat -> VV) (L : Nat -> Bool) (s : List VV) : Prop :=
 s.length = s0.length /\ (∀ i x c d, l[i]? = some (x, c) -> L i = true -> x.d = some d -> d < s0.length -> s[d]? = some (V i)) /\
 ∀ t, (∀ i x c, l[i]? = some (x, c) -> L i = true -> x.d ≠ some t) -> s[t]? = s0[t]?
theorem SL.put {refs : List Nat} {ops : Array Oper} {l : List (Op1 × Cl)} {T : Nat -> List Nat} {α : Option Nat} (D : DOK P refs ops l T α) {s0 s : List VV} {V : Nat -> VV} {L L' : Nat -> Bool} (h : SL l s0 V L s) (i : Nat) (x : Op1) (c : Cl) (hx : l[i]? = some (x, c)) (hL : L i = false)
  (hL' : L' i = true) (hne : ∀ k, k ≠ i -> k < l.length -> L' k = L k) : SL l s0 V L' (df s x.d (V i)) := by
 obtain ⟨h1, h2, h3⟩ := h
 have lt : ∀ {j y}, l[j]? = some y -> j < l.length := fun hj => (List.getElem?_eq_some_iff.1 hj).1
 refine ⟨by rw [abz, h1], fun j y c' d hy hLj hd hlt => ?_, fun t ht => ?_⟩
 ·by_cases hj : j = i
  ·subst hj
   rw [hx] at hy; cases hy
   rw [hd, uv, if_pos rfl, if_pos (by omega)]
  ·rw [hne j hj (lt hy)] at hLj
   cases hxd : x.d with
   | none => exact h2 j y c' d hy hLj hd hlt
   | some e =>
    have := (D.dst i j x y c c' (fun e => hj e.symm) hx hy e hxd).1
    rw [uv, if_neg (fun e2 => this (by rw [hd, e2]))]
    grind
 ·have hxt := ht i x c hx hL'
  have : s[t]? = s0[t]? := h3 t fun j y c' hy hLj => by
   grind
  cases hxd : x.d with
  | none => exact this
  | some e => rw [uv, if_neg (fun e2 => hxt (by rw [hxd, e2]))]; exact this
theorem SL.same {l : List (Op1 × Cl)} {s0 s s2 : List VV} {V V2 : Nat -> VV} {L L2 : Nat -> Bool} (h : SL l s0 V L s) (k : SL l s0 V2 L2 s2) (x : Op1)
  (ha : ∀ j y c', l[j]? = some (y, c') -> (∃ d, y.d = some d /\ d ∈ sk x.g (qf x.i)) -> L j = L2 j /\ (L j = true -> V j = V2 j)) : ∀ n ∈ sk x.g (qf x.i), s[n]? = s2[n]? := by
 intro n hn
 by_cases hw : ∃ j y c', l[j]? = some (y, c') /\ L j = true /\ y.d = some n
 ·obtain ⟨j, y, c', hy, hLj, hd⟩ := hw
  obtain ⟨e1, e2⟩ := ha j y c' hy ⟨n, hd, hn⟩
  have hL2 : L2 j = true := by grind
  by_cases hlt : n < s0.length
  ·rw [h.2.1 j y c' n hy hLj hd hlt, k.2.1 j y c' n hy hL2 hd hlt, e2 hLj]
  ·rw [List.getElem?_eq_none (by rw [h.1]; omega), List.getElem?_eq_none (by rw [k.1]; omega)]
 ·rw [h.2.2 n fun j y c' hy hLj hd => hw ⟨j, y, c', hy, hLj, hd⟩, k.2.2 n fun j y c' hy hLj hd => hw ⟨j, y, c', hy, by grind, hd⟩]
theorem WR.dom_blk (hw : WR P prot σ β h w) {id : Nat} {L : Loc} (hL : β id = some L) : L.blk < w.heap.size := by
 have hlt := hw.dom id L hL
 obtain ⟨L', hL', hO⟩ := hw.obj id h[id] (by simp [hlt])
 rw [hL] at hL'; cases hL'
 exact hO.lt
theorem WR.reserve (hw : WR P prot σ β h w) {w' : World} {o : Obj} (hc : Calm w w') (hh : w'.heap = w.heap.push o) :
  Fut prot σ β w σ β w' /\ WR P (fun x => prot x \/ x = w.heap.size) σ β h w' /\ (∀ a, a.block = w.heap.size -> σ a = none) /\ (∀ id L, β id = some L -> L.blk ≠ w.heap.size) /\ ¬ prot w.heap.size := by
 have hF : Fut prot σ β w σ β w' := ⟨hc.os, hc.tape, hc.output, by rw [hh]; simp, fun b _ hs => na hh b hs, fun _ _ h => h, fun _ L h => ⟨L, h, .inl rfl⟩, fun _ h => .inl h, fun _ L' h => .inr ⟨L', h, rfl⟩⟩
 have hβ : ∀ id L, β id = some L -> L.blk ≠ w.heap.size := fun id L hL => by have := hw.dom_blk hL; omega
 refine ⟨hF, ⟨?_, fun a v ha => by rw [Ao hh a (si hw ha)]; exact hw.stab a v ha, ?_, hw.dom, ?_, hw.inj⟩, fun a ha => ?_, hβ, fun hp => by have := hw.pr _ hp; omega⟩
 ·intro b hb
  rw [hh, Array.size_push]
  rcases hb with hb | hb
  ·have := hw.pr b hb; omega
  ·omega
 ·intro id o ho
  obtain ⟨L, hL, hO⟩ := hw.obj id o ho
  exact ⟨L, hL, hO.keep hF (na hh _ (hO.lt))⟩
 ·intro id o L ho hfr hL
  obtain ⟨h1, h2⟩ := hw.live id o L ho hfr hL
  grind
 ·cases hs : σ a with
  | none => rfl
  | some v => have := si hw hs; omega
theorem WR.mat {b : Nat} (hw : WR P (fun x => prot x \/ x = b) σ β h w) (hnp : ¬ prot b) (hσ : ∀ a, a.block = b -> σ a = none) (hβ : ∀ id L, β id = some L -> L.blk ≠ b) (x : VO) (L : Loc) (hL : L.blk = b)
  (hO : ∀ β', (∀ id L, β id = some L -> β' id = some L) -> OR P σ β' w L x) :
  WR P prot σ (fun id => if id = h.length then some L else β id) (h ++ [x]) w /\ ∀ id L', β id = some L' -> (if id = h.length then some L else β id) = some L' := by
 have hext : ∀ id L', β id = some L' -> (if id = h.length then some L else β id) = some L' := by
  intro id L' hid
  have := hw.dom id L' hid
  grind
 have hF : ∀ L0 o, OR P σ β w L0 o -> OR P σ (fun id => if id = h.length then some L else β id) w L0 o := by
  intro L0 o hO0
  cases o with
  | loop ps asg body s st pend =>
   obtain ⟨h1, h2, r, h3, h4⟩ := hO0
   exact ⟨h1, h2, r, h3, h4.ext hext⟩
  | arr z els g fr => exact hO0
  | box cells fr =>
   obtain ⟨h1, h2, h3, h4, h5, h6, h7⟩ := hO0
   refine ⟨h1, h2, h3, h4, h5, h6, fun j c hj => ?_⟩
   obtain ⟨v, a1, a2, a3⟩ := h7 j c hj
   exact ⟨v, a1, a2.ext hext, a3⟩
 refine ⟨⟨fun b hb => hw.pr b (.inl hb), hw.stab, ?_, ?_, ?_, ?_⟩, hext⟩
 ·intro id y hy
  rw [List.getElem?_append] at hy
  split at hy
  ·obtain ⟨L', hL', hO'⟩ := hw.obj id y hy
   grind
  ·rename_i hge
   rw [List.getElem?_singleton] at hy
   split at hy
   ·cases hy
    have : id = h.length := by omega
    simp_all
   ·cases hy
 ·intro id L' hid
  simp only [List.length_append, List.length_singleton]
  split at hid
  ·omega
  ·have := hw.dom id L' hid; omega
 ·intro id y L' hy hyfr hid
  rw [List.getElem?_append] at hy
  split at hy
  ·rename_i hlt
   simp only [if_neg (show ¬ id = h.length by omega)] at hid
   obtain ⟨h1, h2⟩ := hw.live id y L' hy hyfr hid
   grind
  grind
 ·intro id id' y y' L1 L2 hne hy hy' hyfr h1 h2
  rw [List.getElem?_append] at hy hy'
  have old : ∀ i, i < h.length -> ∀ L', (if i = h.length then some L else β i) = some L' -> β i = some L' := fun i hi L' hL' => by
   grind
  split at hy
  ·rename_i hlt
   have h1' := old id hlt L1 h1
   split at hy'
   ·rename_i hlt'
    exact hw.inj id id' y y' L1 L2 hne hy hy' hyfr h1' (old id' hlt' L2 h2)
   grind
  grind
theorem Ts {refs : List Nat} {own : Bool} {o : Oper} {zs : List VV} (hc : lj P refs own o = some (.alloc zs)) : ∃ t z, o.op = .alloc t /\ kh P t = some z /\ zs = z.map .cv := by
 unfold lj at hc
 cases hop : o.op with
 | alloc t =>
  rw [hop] at hc; simp only at hc
  obtain ⟨z, hz, e⟩ := map_some hc
  cases e
  exact ⟨t, z, rfl, hz, rfl⟩
 | _ =>
  exfalso
  rw [hop] at hc; simp only at hc
  repeat' (first | (cases hc; done) | (obtain ⟨_, _, e⟩ := map_some hc; cases e; done) | (rename_i hq; cases hq; done) | split at hc)
theorem Jx {ro : Option Nat} {m : Nat} {call : bj} (hcall : CallsOK P call) {refs : List Nat} {own : Bool} {ops : Array Oper} {o : Oper} {x : Op1} {c : Cl} {hs : List ae} {ck : List (Nat × Nat × (ae -> Prop))} {Si Si1 : List VV} {Vi : VV} {Wi : Bool} {n i kci iK : Nat} {K : Act -> World -> Prop} {Q : Exit -> Act -> World -> Prop}
  (ho : ops[i]? = some o) (hcomp : Es P refs own ops o = some x) (hseen : ak0 call hs ck (x, c) kci Si Si1 Vi Wi)
  (hck : ∀ z ∈ ck, ∀ b, z.1 <= b -> b < z.2.1 -> ∀ h, hs[b]? = some h -> z.2.2 h)
  (hagree : ∀ n ∈ sk x.g (qf x.i), Si[n]? = s[n]?) (hlen : Si.length = s.length) (hcp : c = .p -> mj x.i = 0) (hhb : hs[n]? = some h)
  (hbr : ∀ lo hi, c = .r lo hi -> lo <= n /\ n <= hi /\ lo <= kci /\ kci <= hi) (hbk : c = .k -> n = kci) (hik1 : c = .k -> iK = 1) (hik0 : c ≠ .k -> iK = 0)
  (hf : FR σ β a.tmps s) (hw : WR P prot σ β h w)
  (hK : ∀ rv w2 σ2 β2 h2 u, Fut prot σ β w σ2 β2 w2 -> WR P prot σ2 β2 h2 w2 -> VR σ2 β2 rv u -> df s x.d u = df s x.d Vi -> hs[n + iK]? = some h2 -> K (a.put o.dst rv) w2) :
  wpOpIn (Fn ro) m P ops Q i K a w := by
 obtain ⟨hev, hwt⟩ := Cf hagree
 obtain ⟨z1, z2, z3, hc0, z4, z5, z6⟩ := hseen
 simp only at z1 z2 z5 z6
 unfold wpOpIn
 rw [ho]
 simp only
 have hGR := (js hcomp).2.2
 have hwt1 : bm s x.g = some Wi := by grind
 rw [so hGR hf hwt1]
 cases hWi : Wi with
 | false =>
  simp only [Bool.false_eq_true, if_false]
  refine ⟨fun _ _ => trivial, ?_⟩
  refine hK _ w σ β h skp .refl hw acq (by rw [z3 hWi]) ?_
  grind
 | true =>
  simp only [if_true]
  have z6 := z6 hWi
  have step : ∃ h2 u, dw call ⟨s, h⟩ x = some (.norm, ⟨df s x.d u, h2⟩) /\ df s x.d u = df s x.d Vi /\ hs[n + iK]? = some h2 := by
   have fit : ∀ (h1 h2 : ae), dw call ⟨Si, h1⟩ x = some (.norm, ⟨Si1, h2⟩) -> ∃ u, dw call ⟨s, h1⟩ x = some (.norm, ⟨df s x.d u, h2⟩) /\ df s x.d u = df s x.d Vi := by
    intro h1 h2 hst
    obtain ⟨v, e1, e2⟩ := Lc hagree hst
    refine ⟨v, e2, ?_⟩
    cases hxd : x.d with
    | none => rfl
    | some d =>
     by_cases hlt : d < s.length
     ·have e3 : Si1[d]? = some v := by rw [e1, hxd, uv, if_pos rfl, if_pos (by omega)]
      have e4 : Si1[d]? = some Vi := by rw [z2, hxd, uv, if_pos rfl, if_pos (by omega)]
      grind
     ·simp only [df]
      rw [List.set_eq_of_length_le (by omega), List.set_eq_of_length_le (by omega)]
   cases c with
   | p =>
    obtain ⟨h1, hst⟩ := z6
    have hst' := ac8 (hcp rfl) hst h
    grind
   | r lo hi' =>
    obtain ⟨b1, b2, b3, b4⟩ := hbr lo hi' rfl
    obtain ⟨h1, hst, hck1⟩ := z6
    have hst' : dw call ⟨Si, h⟩ x = some (.norm, ⟨Si1, h⟩) := by
     split at hck1
     ·rename_i he
      have e0 : kci = n := by omega
      rw [e0] at z4
      rw [hhb] at z4; cases z4
      have := hck _ hck1 n (by omega) (by grind) h hhb
      grind
     ·exact hck _ hck1 n b1 (by grind) h hhb
    grind
   | k =>
    grind
  obtain ⟨h2, u, hst, hu, hh2⟩ := step
  rcases ug hcall hcomp hst hf hw with ⟨_, u', hu', hgo⟩ | ⟨v, hv, _⟩
  ·refine hgo K Q fun rv w2 σ2 β2 hF2 hW2 hV => hK rv w2 σ2 β2 h2 u' hF2 hW2 hV ?_ hh2
   rw [(js hcomp).2.1] at hu |-
   rw [(js hcomp).2.1] at hu'
   grind
  ·cases hv
theorem Rh {ro : Option Nat} {m B : Nat} {call : bj} (hcall : CallsOK P call) {refs : List Nat} {owns : List (Nat × Nat)} {id : Nat} {ops : Array Oper} {l : List (Op1 × Cl)} {out : Out} {st' : St} (hm : P.follows .mixedOrders = true) (hc : yz P refs owns id ops = some l)
    (hx : ix call l ⟨s, h⟩ = some (out, st')) (hf : FR σ β a.tmps s) (hw : WR P prot σ β h w) (hd : jb B prot a.defers w) {Q : Exit → Act → World → Prop} (hQ : ∀ e a' w', jf P B prot σ β w out st' e a' w' → Q e a' w') :
    (Code.region id ops true).wpIn (Fn ro) m P Q a w := by
  obtain ⟨T, α, D⟩ := ajj hc
  unfold ix at hx
  split at hx
  · rename_i st1 hs ck hdr
    split at hx
    · rename_i hck
      cases hx
      obtain ⟨t1, _, t3, S, V, W, s0, sn, hseen⟩ := En l [h] [] ⟨s, h⟩ _ hs ck 0 rfl rfl hdr
      simp only [Nat.zero_add] at t3 hseen
      simp only at s0
      -- indices
      have lat : ∀ i, i < l.length → ∃ x c, l[i]? = some (x, c) := fun i hi => ⟨l[i].1, l[i].2, by simp [hi]⟩
      have llt : ∀ {j y}, l[j]? = some y → j < l.length := fun hj => (List.getElem?_eq_some_iff.1 hj).1
      have oat : ∀ i, i < l.length → ∃ o, ops[i]? = some o := fun i hi => by rw [D.len] at hi; exact ⟨ops[i], by simp [hi]⟩
      -- what comes ahead has smaller numbers
      have tlt : ∀ i, i < l.length → ∀ j ∈ T i, j < i := by
        intro i
        induction i using Nat.strongRecOn with
        | _ i ih =>
          intro hi j hj
          obtain ⟨o, ho⟩ := oat i hi
          obtain ⟨e, he, hb, h1⟩ := D.tt i o ho j hj
          have hlt := D.af i o ho e he hb
          rcases h1 with rfl | h1
          · exact hlt
          · have := ih e.on hlt (by omega) j h1; omega
      -- the text's slots
      have hSL : ∀ i, i ≤ l.length → SL l s V (fun k => decide (k < i)) (S i) := by
        intro i
        induction i with
        | zero => intro _; rw [s0]; exact ⟨rfl, fun i x c d _ h => by simp at h, fun t _ => rfl⟩
        | succ i ih =>
          intro hi
          obtain ⟨x, c, hxi⟩ := lat i (by omega)
          have hse := (hseen i (x, c) hxi).2.1
          rw [hse]
          exact (ih (by omega)).put D i x c hxi (by simp) (by simp) (fun k hk _ => by simp only [decide_eq_decide]; omega)
      have hslen : ∀ i, i ≤ l.length → (S i).length = s.length := fun i hi => (hSL i hi).1
      -- the relation in whatever order
      let Lf : Array Bool → Nat → Bool := fun L k => L.getD k false
      let StdP : Array Bool → Act → World → Prop := fun L a1 w1 => (∀ aa, α = some aa → Lf L aa = true → ∀ i, i < aa → isK l i = true → Lf L i = true) ∧
        ∃ σ1 β1 hb s1, Fut prot σ β w σ1 β1 w1 ∧ hs[tn l (Lf L)]? = some hb ∧ WR P prot σ1 β1 hb w1 ∧ FR σ1 β1 a1.tmps s1 ∧ SL l s V (Lf L) s1
      let PF : Nat → Array Bool → Act → World → Prop := fun aa L a1 w1 => ∃ b d z σ1 β1 hb s1 C t, l[aa]? = some (⟨none, some d, .alloc ((z : List CV).map .cv)⟩, Cl.k) ∧ w.heap.size ≤ b ∧ Fut prot σ β w σ1 β1 w1 ∧ hs[tn l (fun k => Lf L k && decide (k ≠ aa))]? = some hb ∧
        WR P (fun x => prot x ∨ x = b) σ1 β1 hb w1 ∧ (∀ a : Addr, a.block = b → σ1 a = none) ∧ (∀ id L, β1 id = some L → L.blk ≠ b) ∧ ¬ prot b ∧ FR σ1 β1 a1.tmps s1 ∧ SL l s (fun k => if k = aa then .undef else V k) (Lf L) s1 ∧
        (∀ v, a1.tmps[d]? = some v → v = .pointer (some ⟨b, 0, none⟩)) ∧ w1.heap[b]? = some (.cells C t) ∧ C.size = z.length ∧ ∀ (j : Nat) (x : Value) (c : CV), C[j]? = some x → z[j]? = some c → ny x = true ∧ c = .sc x
      let I : Array Bool → Act → World → Prop := fun L a1 w1 => L.size = ops.size ∧ (∀ i, i < l.length → Lf L i = true → ∀ j ∈ T i, Lf L j = true) ∧ a1.defers = a.defers ∧
        (StdP L a1 w1 ∨ ∃ aa, α = some aa ∧ Lf L aa = true ∧ (∃ i, i < aa ∧ isK l i = true ∧ Lf L i = false) ∧ PF aa L a1 w1)
      -- the protected block becomes the object
      have mat : ∀ (aa : Nat), α = some aa → ∀ (L : Array Bool) (a1 : Act) (w1 : World), PF aa L a1 w1 → Lf L aa = true → (∀ i, i < aa → isK l i = true → Lf L i = true) → (∀ k, aa < k → k < l.length → isK l k = true → Lf L k = false) → StdP L a1 w1 := by
        intro aa hα L a1 w1 ⟨b, d, z, σ1, β1, hb, s1, C, t, hla, hbw, hF, hhb, hW, hσ, hβ, hnp, hFR, hSL1, htm, hheap, hCs, hCz⟩ hLa hpre hpost
        have hal : aa < l.length := llt hla
        have hka : isK l aa = true := (Ce hla).2 rfl
        have hcnt : tn l (fun k => Lf L k && decide (k ≠ aa)) = kc l aa := by
          rw [Dm l aa (by omega)]
          refine Bi fun k hk hkk => ?_
          rcases Nat.lt_trichotomy k aa with hlt | he | hgt
          · rw [hpre k hlt hkk]; simp [hlt]; omega
          · subst he; simp
          · rw [hpost k hgt hk hkk]; simp; omega
        have hcnt2 : tn l (Lf L) = kc l aa + 1 := by
          have := zo (l := l) (f := fun k => Lf L k && decide (k ≠ aa)) (g := Lf L) aa hal (by simp) hLa (fun k hk => by simp [hk])
          rw [this, hcnt, if_pos hka]
        obtain ⟨z1, z2, z3, hc0, z4, z5, z6⟩ := hseen aa _ hla
        simp only at z1 z2 z6
        have hWa : W aa = true := (Option.some.inj (show some true = some (W aa) from z1)).symm
        obtain ⟨h1, hst, hnx⟩ := z6 hWa
        rw [hcnt] at hhb
        rw [z4] at hhb; cases hhb
        simp only [dw, ai, Option.some.injEq, Prod.mk.injEq, St.mk.injEq, true_and] at hst
        obtain ⟨e5, e6⟩ := hst
        subst e6
        have hVa : d < s.length → V aa = .ptr hb.length 0 := by
          intro hlt
          have hl2 := hslen aa (by omega)
          have e4 : (df (S aa) (some d) (.ptr hb.length 0))[d]? = (df (S aa) (some d) (V aa))[d]? := by rw [← z2]; exact congrArg (fun (q : List VV) => q[d]?) e5
          rw [uv, uv, if_pos rfl, if_pos rfl, if_pos (by omega), if_pos (by omega)] at e4
          exact (Option.some.inj e4).symm
        obtain ⟨hW2, hext⟩ := hW.mat hnp hσ hβ (.box (z.map .cv) false) ⟨b, 0, 0, 1, (z.map VV.cv).length, true⟩ rfl (by
          intro β' hext
          refine ⟨rfl, rfl, rfl, rfl, fun c hc => ?_, ⟨C, t, (0, 0), hheap, by rw [hCs]; simp, .inl rfl⟩, fun j c hj => ?_⟩
          · simp only [List.mem_map] at hc
            obtain ⟨q, _, rfl⟩ := hc; rfl
          · have hlt : j < C.size := by have := (List.getElem?_eq_some_iff.1 hj).1; rw [hCs]; simpa using this
            rw [List.getElem?_map] at hj
            cases hq : z[j]? with
            | none => rw [hq] at hj; cases hj
            | some q =>
              rw [hq] at hj; cases hj
              obtain ⟨e1, rfl⟩ := hCz j C[j] q (by simp [hlt]) hq
              exact ⟨C[j], by simp [World.cell?, hheap, hlt], .sc e1, fun e => (by cases e)⟩)
        refine ⟨fun aa' ha' _ => by rw [hα] at ha'; cases ha'; exact hpre, σ1, _, _, s1.set d (V aa), ?_, by rw [hcnt2]; exact hnx, hW2, ?_, ?_⟩
        · refine ⟨hF.os, hF.tape, hF.output, hF.size, hF.prot, hF.sig, fun id L hL => ?_, hF.news, fun id L' hL' => ?_⟩
          · obtain ⟨L', q1, q2⟩ := hF.bet id L hL
            exact ⟨L', hext id L' q1, q2⟩
          · split at hL'
            · cases hL'; exact .inl hbw
            · exact hF.newb id L' hL'
        · refine ⟨by rw [List.length_set]; exact hFR.1, fun i v u hv hu => ?_⟩
          rw [List.getElem?_set] at hu
          split at hu
          · rename_i hdi; subst hdi
            split at hu
            · rename_i hlt
              cases hu
              rw [htm v hv, hVa (by rw [← hSL1.1]; exact hlt)]
              exact .ptr _ _ ⟨b, 0, 0, 1, (z.map VV.cv).length, true⟩ (by simp) rfl
            · cases hu
          · exact (hFR.2 i v u hv hu).ext hext
        · refine ⟨by rw [List.length_set]; exact hSL1.1, fun i x c d' hx hLi hd' hlt => ?_, fun t' ht' => ?_⟩
          · by_cases hia : i = aa
            · subst hia
              rw [hla] at hx; cases hx
              cases hd'
              rw [List.getElem?_set, if_pos rfl, if_pos (by rw [hSL1.1]; exact hlt)]
            · have := (D.dst aa i _ _ _ _ (fun e => hia e.symm) hla hx d rfl).1
              rw [List.getElem?_set, if_neg (fun e => this (by rw [hd', e]))]
              have := hSL1.2.1 i x c d' hx hLi hd' hlt
              simp only [if_neg hia] at this
              exact this
          · have := ht' aa _ _ hla hLa
            rw [List.getElem?_set, if_neg (fun e => this (by rw [e]))]
            exact hSL1.2.2 t' ht'
      have key : ∀ (fuel : Nat) (L : Array Bool) (a1 : Act) (w1 : World), ((List.range l.length).filter fun k => !(Lf L k)).length ≤ fuel → I L a1 w1 → wpAnyIn (Fn ro) m P .any ops Q fuel L a1 w1 := by
        -- all are listed
        have fin : ∀ (L : Array Bool) (a1 : Act) (w1 : World), I L a1 w1 → Region.ready .any ops L = [] → Q .normal a1 w1 := by
          intro L a1 w1 ⟨hsz, hcl, hdf, hI⟩ hr
          have hall : ∀ i, i < l.length → Lf L i = true := by
            intro i
            induction i using Nat.strongRecOn with
            | _ i ih =>
              intro hi
              cases hLi : Lf L i with
              | true => rfl
              | false =>
                exfalso
                obtain ⟨o, ho⟩ := oat i hi
                have : i ∈ Region.ready .any ops L := mem_ready.2 ⟨by
                  have hlt : i < L.size := by rw [hsz, ← D.len]; exact hi
                  simp only [Lf, Array.getD_eq_getD_getElem?, Array.getElem?_eq_getElem hlt, Option.getD_some] at hLi ⊢
                  exact hLi, o, ho, fun e he hb => ih e.on (D.af i o ho e he hb) (by have := D.af i o ho e he hb; omega)⟩
                rw [hr] at this; cases this
          rcases hI with ⟨_, σ1, β1, hb, s1, hF, hhb, hW, hFR, hSL1⟩ | ⟨aa, hα, _, ⟨i0, hi0, _, hi0L⟩, b, d, z, σ1, β1, hb, s1, C, t, hla, _⟩
          · have hcn : tn l (Lf L) = kc l l.length := by
              rw [Dm l l.length (Nat.le_refl _)]
              exact Bi fun k hk _ => by rw [hall k hk]; simp [hk]
            rw [hcn, t3] at hhb
            cases hhb
            have hss : s1 = S l.length := by
              apply List.ext_getElem?
              intro t
              have hk := hSL l.length (Nat.le_refl _)
              by_cases hw' : ∃ (j : Nat) (y : Op1) (c' : Cl), l[j]? = some (y, c') ∧ y.d = some t
              · obtain ⟨j, y, c', hy, hd'⟩ := hw'
                by_cases hlt : t < s.length
                · rw [hSL1.2.1 j y c' t hy (hall j (llt hy)) hd' hlt, hk.2.1 j y c' t hy (by simp [llt hy]) hd' hlt]
                · rw [List.getElem?_eq_none (by rw [hSL1.1]; omega), List.getElem?_eq_none (by rw [hk.1]; omega)]
              · rw [hSL1.2.2 t fun j y c' hy _ hd' => hw' ⟨j, y, c', hy, hd'⟩, hk.2.2 t fun j y c' hy _ hd' => hw' ⟨j, y, c', hy, hd'⟩]
            exact hQ _ _ _ ⟨prot, σ1, β1, fun _ h => h, hF, hW, by rw [hdf]; exact hd.fut hF, rfl, by rw [← sn, ← hss]; exact hFR⟩
          · have := llt hla
            rw [hall i0 (by omega)] at hi0L; cases hi0L
        -- one more comes up
        have one : ∀ (L : Array Bool) (a1 : Act) (w1 : World) (K : Act → World → Prop), I L a1 w1 → ∀ i ∈ Region.ready .any ops L, (∀ a2 w2, I (L.setIfInBounds i true) a2 w2 → K a2 w2) → wpOpIn (Fn ro) m P ops Q i K a1 w1 := by
          intro L a1 w1 K ⟨hsz, hcl, hdf, hI⟩ i hi hK
          obtain ⟨hun, o, ho, haft⟩ := mem_ready.1 hi
          have hil : i < l.length := by rw [D.len]; exact (Array.getElem?_eq_some_iff.1 ho).1
          have hiL : i < L.size := by rw [hsz, ← D.len]; exact hil
          have hLi : Lf L i = false := by
            simp only [Lf, Array.getD_eq_getD_getElem?, Array.getElem?_eq_getElem hiL, Option.getD_some] at hun ⊢
            exact hun
          obtain ⟨x, c, own, hxi, hcomp⟩ := D.op i o ho
          -- all that must come ahead has
          have ahead : ∀ j ∈ T i, Lf L j = true := by
            intro j hj
            obtain ⟨e, he, hbd, h1⟩ := D.tt i o ho j hj
            have hel := haft e he hbd
            rcases h1 with rfl | h1
            · exact hel
            · exact hcl e.on (by have := D.af i o ho e he hbd; omega) hel j h1
          have behind : ∀ j, j < l.length → i ∈ T j → Lf L j = false := by
            intro j hj hij
            cases hLj : Lf L j with
            | false => rfl
            | true => have := hcl j hj hLj i hij; rw [hLi] at this; cases this
          have hLs : ∀ k, Lf (L.setIfInBounds i true) k = if k = i then true else Lf L k := by
            intro k
            simp only [Lf, Array.getD_eq_getD_getElem?, Array.getElem?_setIfInBounds]
            by_cases hk : i = k
            · subst hk; simp [hiL]
            · rw [if_neg hk, if_neg (fun e => hk e.symm)]
          have hcl' : ∀ j, j < l.length → Lf (L.setIfInBounds i true) j = true → ∀ q ∈ T j, Lf (L.setIfInBounds i true) q = true := by
            intro j hj hLj q hq
            rw [hLs] at hLj ⊢
            split at hLj
            · rename_i hji; subst hji; rw [ahead q hq]; split <;> rfl
            · rw [hcl j hj hLj q hq]; split <;> rfl
          have hdf' : ∀ rv, (a1.put o.dst rv).defers = a.defers := fun rv => by cases o.dst <;> simpa [Act.put] using hdf
          have hik1 : c = .k → (if isK l i = true then 1 else 0) = 1 := fun e => if_pos ((Ce hxi).2 e)
          have hik0 : c ≠ .k → (if isK l i = true then 1 else 0) = 0 := fun e => if_neg fun h => e ((Ce hxi).1 h)
          have hdx := (js hcomp).2.1
          rcases hI with ⟨hpre, σ1, β1, hb, s1, hF, hhb, hW, hFR, hSL1⟩ | ⟨aa, hα, hLa, ⟨i0, hi0, hi0k, hi0L⟩, b, d, z, σ1, β1, hb, s1, C, t, hla, hbw, hF, hhb, hW, hσ, hβ, hnp, hFR, hSL1, htm, hheap, hCs, hCz⟩
          · by_cases hfree : ∃ aa, α = some aa ∧ i = aa ∧ ∃ i', i' < aa ∧ isK l i' = true ∧ Lf L i' = false
            · -- the new box comes up ahead of a change
              obtain ⟨aa, hα, rfl, i0, hi0, hi0k, hi0L⟩ := hfree
              obtain ⟨d, zs, hla⟩ := D.al i hα
              rw [hxi] at hla; cases hla
              obtain ⟨t, z, hop, hz, rfl⟩ := Ts ((js hcomp).1.resolve_right (by rintro ⟨_, _, _, _, _, h⟩; cases h))
              obtain ⟨ti, zv, hti, hzv, y1, y2, y3⟩ := iw hz
              obtain ⟨r1, r2, r3, r4, r5⟩ := hW.reserve (w' := { w1 with heap := w1.heap.push (.cells zv.cells t) }) ⟨rfl, rfl, rfl⟩ rfl
              have hgo : (execOp a1.eval o).run P w1 = .ok (.value (.pointer (some ⟨w1.heap.size, 0, none⟩))) { w1 with heap := w1.heap.push (.cells zv.cells t) } := by
                unfold execOp; rw [hop]
                simp only [Instr.alloc]
                rw [ac (x := .pointer (some ⟨w1.heap.size, 0, none⟩)) (w1 := { w1 with heap := w1.heap.push (.cells zv.cells t) })]
                · rfl
                · rw [ac (gp hti hzv w1)]; rfl
              unfold wpOpIn
              rw [ho]
              simp only
              rw [so (t := true) (js hcomp).2.2 hFR rfl]
              simp only [if_true]
              refine ⟨fun _ _ => trivial, ?_⟩
              rw [Oper.semAt_eq _ _ _ (Cm hcomp), hgo, Oper.uponIn_value]
              refine hK _ _ ⟨by simp [hsz], hcl', hdf' _, .inr ⟨i, hα, by rw [hLs]; simp, ⟨i0, hi0, hi0k, by rw [hLs, if_neg (by omega)]; exact hi0L⟩, w1.heap.size, d, z, σ1, β1, hb, df s1 (some d) .undef, zv.cells, t, hxi, hF.size, hF.trans r1, ?_, r2, r3, r4, r5, ?_, ?_, ?_, by simp, by simpa using y1, fun j x c hx hc => y3 j x c hx hc⟩⟩
              · rw [Bi (f := fun k => Lf (L.setIfInBounds i true) k && decide (k ≠ i)) (g := Lf L) (fun k hk _ => by
                  rw [hLs]
                  by_cases hki : k = i
                  · subst hki; simp [hLi]
                  · simp [hki])]
                exact hhb
              · have := hFR.put (d := o.dst) (VR.undef (σ := σ1) (β := β1) (.pointer (some ⟨w1.heap.size, 0, none⟩)))
                rw [← hdx] at this ⊢
                exact this
              · have h1 : SL l s (fun k => if k = i then .undef else V k) (Lf L) s1 := by
                  refine ⟨hSL1.1, fun j y c' d' hy hLj hd' hlt => ?_, hSL1.2.2⟩
                  have hji : j ≠ i := by rintro rfl; rw [hLi] at hLj; cases hLj
                  simp only [if_neg hji]
                  exact hSL1.2.1 j y c' d' hy hLj hd' hlt
                have h2 := h1.put D (L' := Lf (L.setIfInBounds i true)) i _ _ hxi hLi (by rw [hLs]; simp) (fun k hk _ => by rw [hLs, if_neg hk])
                simpa using h2
              · intro v hv
                rw [← hdx] at hv
                simp only [Act.put, Array.getElem?_setIfInBounds] at hv
                split at hv
                · split at hv
                  · cases hv; rfl
                  · cases hv
                · rename_i hne; exact absurd trivial hne
            · -- in its turn
              have pre' : ∀ aa, α = some aa → i = aa → ∀ i', i' < aa → isK l i' = true → Lf L i' = true := by
                intro aa hα hia i' h1 h2
                cases hq : Lf L i' with
                | true => rfl
                | false => exact absurd ⟨aa, hα, hia, i', h1, h2, hq⟩ hfree
              have hagree : ∀ n ∈ sk x.g (qf x.i), (S i)[n]? = s1[n]? := by
                refine (hSL i (by omega)).same hSL1 x fun j y c' hy ⟨d, hd1, hd2⟩ => ⟨?_, fun _ => rfl⟩
                by_cases hji : j = i
                · subst hji; simp [hLi]
                · have := (D.dst j i y x c' c hji hy hxi d hd1).2 hd2
                  split at this
                  · rename_i hlt; rw [ahead j this]; simp [hlt]
                  · rename_i hlt; rw [behind j (llt hy) this]; simp; omega
              have hbr : ∀ lo hi, c = .r lo hi → lo ≤ tn l (Lf L) ∧ tn l (Lf L) ≤ hi ∧ lo ≤ kc l i ∧ kc l i ≤ hi := by
                intro lo hi' hcc
                subst hcc
                obtain ⟨e1, e2⟩ := D.cr i x lo hi' hxi
                rw [Dm l i (by omega), e1, e2]
                refine ⟨og fun k hk _ h1 => ahead k (by simpa using h1), og fun k hk _ h1 => ?_, og fun k hk _ h1 => ?_, og fun k hk _ h1 => ?_⟩
                · cases hq : (T k).contains i with
                  | false => rfl
                  | true => have := behind k hk (by simpa using hq); rw [this] at h1; cases h1
                · have := tlt i hil k (by simpa using h1); simpa using this
                · cases hq : (T k).contains i with
                  | false => rfl
                  | true => have := tlt k hk i (by simpa using hq); simp at h1; omega
              have hbk : c = .k → tn l (Lf L) = kc l i := by
                intro hcc
                subst hcc
                rw [Dm l i (by omega)]
                have hik : isK l i = true := (Ce hxi).2 rfl
                refine Bi fun k hk hkk => ?_
                rcases Nat.lt_trichotomy k i with hlt | he | hgt
                · have : Lf L k = true := by
                    by_cases hα : α = some i
                    · exact pre' i hα rfl k hlt hkk
                    · exact ahead k (D.ch k i hkk hik hlt hil hα)
                  rw [this]; simp [hlt]
                · subst he; rw [hLi]; simp
                · have : Lf L k = false := by
                    by_cases hα : α = some k
                    · cases hq : Lf L k with
                      | false => rfl
                      | true => have := hpre k hα hq i hgt hik; rw [hLi] at this; cases this
                    · exact behind k hk (D.ch i k hik hkk hgt hk hα)
                  rw [this]; simp; omega
              refine Jx hcall ho hcomp (hseen i (x, c) hxi) hck hagree (by rw [hslen i (by omega), hSL1.1]) (fun e => D.cp i x (by rw [hxi, e])) hhb hbr hbk hik1 hik0 hFR hW (fun rv w2 σ2 β2 h2 u hF2 hW2 hV hu hh2 => ?_)
              refine hK _ _ ⟨by simp [hsz], hcl', hdf' _, .inl ⟨fun aa hα hLaa i' h1 h2 => ?_, σ2, β2, h2, df s1 x.d (V i), hF.trans hF2, ?_, hW2, ?_, ?_⟩⟩
              · rw [hLs] at hLaa ⊢
                split
                · rfl
                · split at hLaa
                  · rename_i hia; exact pre' aa hα hia.symm i' h1 h2
                  · exact hpre aa hα hLaa i' h1 h2
              · rw [zo (l := l) (f := Lf L) (g := Lf (L.setIfInBounds i true)) i hil hLi (by rw [hLs]; simp) (fun k hk => by rw [hLs, if_neg hk])]
                exact hh2
              · have := (hFR.mono hF2).put (d := o.dst) hV
                rw [← hdx, hu] at this
                rw [← hdx]
                exact this
              · exact hSL1.put D i x c hxi hLi (by rw [hLs]; simp) (fun k hk _ => by rw [hLs, if_neg hk])
          · -- while the box waits
            have hia : i ≠ aa := by rintro rfl; rw [hLi] at hLa; cases hLa
            have hka : isK l aa = true := (Ce hla).2 rfl
            have hal : aa < l.length := llt hla
            have hni : aa ∉ T i := by
              intro hm
              have := ahead i0 (D.aj aa hα i hil hm i0 hi0 hi0k)
              rw [hi0L] at this; cases this
            have hαi : α ≠ some i := by rw [hα]; intro e; cases e; exact hia rfl
            have hkia : isK l i = true → i < aa := by
              intro hik
              rcases Nat.lt_trichotomy i aa with h | h | h
              · exact h
              · exact absurd h hia
              · exact absurd (D.ch aa i hka hik h hil hαi) hni
            have hagree : ∀ n ∈ sk x.g (qf x.i), (S i)[n]? = s1[n]? := by
              refine (hSL i (by omega)).same hSL1 x fun j y c' hy ⟨d', hd1, hd2⟩ => ?_
              by_cases hji : j = i
              · subst hji; exact ⟨by simp [hLi], fun h => by simp at h⟩
              · have := (D.dst j i y x c' c hji hy hxi d' hd1).2 hd2
                split at this
                · rename_i hlt
                  have hja : j ≠ aa := by rintro rfl; exact hni this
                  exact ⟨by rw [ahead j this]; simp [hlt], fun _ => by rw [if_neg hja]⟩
                · rename_i hlt
                  exact ⟨by rw [behind j (llt hy) this]; simp; omega, fun h => by simp at h; omega⟩
            have hbr : ∀ lo hi, c = .r lo hi → lo ≤ tn l (fun k => Lf L k && decide (k ≠ aa)) ∧ tn l (fun k => Lf L k && decide (k ≠ aa)) ≤ hi ∧ lo ≤ kc l i ∧ kc l i ≤ hi := by
              intro lo hi' hcc
              subst hcc
              obtain ⟨e1, e2⟩ := D.cr i x lo hi' hxi
              rw [Dm l i (by omega), e1, e2]
              refine ⟨og fun k hk _ h1 => ?_, og fun k hk _ h1 => ?_, og fun k hk _ h1 => ?_, og fun k hk _ h1 => ?_⟩
              · have hm : k ∈ T i := by simpa using h1
                rw [ahead k hm]
                have : k ≠ aa := by rintro rfl; exact hni hm
                simp [this]
              · cases hq : (T k).contains i with
                | false => rfl
                | true => have := behind k hk (by simpa using hq); rw [this] at h1; cases h1
              · have := tlt i hil k (by simpa using h1); simpa using this
              · cases hq : (T k).contains i with
                | false => rfl
                | true => have := tlt k hk i (by simpa using hq); simp at h1; omega
            have hbk : c = .k → tn l (fun k => Lf L k && decide (k ≠ aa)) = kc l i := by
              intro hcc
              subst hcc
              rw [Dm l i (by omega)]
              have hik : isK l i = true := (Ce hxi).2 rfl
              have hlt' := hkia hik
              refine Bi fun k hk hkk => ?_
              rcases Nat.lt_trichotomy k i with hlt | he | hgt
              · rw [ahead k (D.ch k i hkk hik hlt hil hαi)]; simp [hlt]; omega
              · subst he; rw [hLi]; simp
              · by_cases hkaa : k = aa
                · subst hkaa; simp; omega
                · rw [behind k hk (D.ch i k hik hkk hgt hk (by rw [hα]; intro e; cases e; exact hkaa rfl))]; simp; omega
            refine Jx hcall ho hcomp (hseen i (x, c) hxi) hck hagree (by rw [hslen i (by omega), hSL1.1]) (fun e => D.cp i x (by rw [hxi, e])) hhb hbr hbk hik1 hik0 hFR hW (fun rv w2 σ2 β2 h2 u hF2 hW2 hV hu hh2 => ?_)
            have hbsz : b < w1.heap.size := hW.pr b (.inr rfl)
            have pf : PF aa (L.setIfInBounds i true) (a1.put o.dst rv) w2 := by
              refine ⟨b, d, z, σ2, β2, h2, df s1 x.d (V i), C, t, hla, hbw, hF.trans (hF2.weaken fun _ h => .inl h), ?_, hW2, fun a ha => ?_, fun id L' hL' => ?_, hnp, ?_, ?_, ?_, ?_, hCs, hCz⟩
              · rw [zo (l := l) (f := fun k => Lf L k && decide (k ≠ aa)) (g := fun k => Lf (L.setIfInBounds i true) k && decide (k ≠ aa)) i hil (by simp [hLi]) (by rw [hLs]; simp [hia]) (fun k hk => by rw [hLs, if_neg hk])]
                exact hh2
              · cases hq : σ2 a with
                | none => rfl
                | some v =>
                  rcases hF2.news a (by rw [hq]; simp) with h | h | ⟨id, L', hL', hbb⟩
                  · exact absurd (hσ a ha) h
                  · omega
                  · exact absurd (hbb.trans ha) (hβ id L' hL')
              · rcases hF2.newb id L' hL' with h | ⟨L0, h0, h1⟩
                · omega
                · rw [← h1]; exact hβ id L0 h0
              · have := (hFR.mono hF2).put (d := o.dst) hV
                rw [← hdx, hu] at this
                rw [← hdx]
                exact this
              · have := hSL1.put D (L' := Lf (L.setIfInBounds i true)) i x c hxi hLi (by rw [hLs]; simp) (fun k hk _ => by rw [hLs, if_neg hk])
                simpa only [if_neg hia] using this
              · intro v hv
                have hne := (D.dst aa i _ _ _ _ (fun e => hia e.symm) hla hxi d rfl).1
                rw [hdx] at hne
                refine htm v ?_
                cases hod : o.dst with
                | none => rw [hod] at hv; exact hv
                | some e =>
                  rw [hod] at hv hne
                  simp only [Act.put, Array.getElem?_setIfInBounds] at hv
                  rw [if_neg (fun e2 => hne (by rw [e2]))] at hv
                  exact hv
              · rw [hF2.prot b (.inr rfl) hbsz]; exact hheap
            refine hK _ _ ⟨by simp [hsz], hcl', hdf' _, ?_⟩
            by_cases hp : ∃ i', i' < aa ∧ isK l i' = true ∧ Lf (L.setIfInBounds i true) i' = false
            · exact .inr ⟨aa, hα, by rw [hLs]; simp [hLa], hp, pf⟩
            · refine .inl (mat aa hα _ _ _ pf (by rw [hLs]; simp [hLa]) (fun i' h1 h2 => ?_) (fun k h1 h2 h3 => ?_))
              · cases hq : Lf (L.setIfInBounds i true) i' with
                | true => rfl
                | false => exact absurd ⟨i', h1, h2, hq⟩ hp
              · have hαk : α ≠ some k := by rw [hα]; intro e; cases e; omega
                have hk0 : Lf L k = false := by
                  cases hq : Lf L k with
                  | false => rfl
                  | true =>
                    have := hcl k h2 hq i0 (D.ch i0 k hi0k h3 (by omega) h2 hαk)
                    rw [hi0L] at this; cases this
                have hki : k ≠ i := by
                  rintro rfl
                  have := hkia h3; omega
                rw [hLs, if_neg hki]; exact hk0
        intro fuel
        induction fuel with
        | zero =>
          intro L a1 w1 hfu hI
          have hr : Region.ready .any ops L = [] := by
            cases hrr : Region.ready .any ops L with
            | nil => rfl
            | cons i r =>
              have hi : i ∈ Region.ready .any ops L := by rw [hrr]; simp
              obtain ⟨hun, o, ho, _⟩ := mem_ready.1 hi
              have hil : i < l.length := by rw [D.len]; exact (Array.getElem?_eq_some_iff.1 ho).1
              have hiL : i < L.size := by rw [hI.1, ← D.len]; exact hil
              have hLi : Lf L i = false := by
                simp only [Lf, Array.getD_eq_getD_getElem?, Array.getElem?_eq_getElem hiL, Option.getD_some] at hun ⊢
                exact hun
              have : i ∈ (List.range l.length).filter fun k => !(Lf L k) := by simp [hil, hLi]
              have hpos := List.length_pos_of_mem this
              omega
          exact ⟨hr, fin L a1 w1 hI hr⟩
        | succ fuel ih =>
          intro L a1 w1 hfu hI
          refine ⟨fin L a1 w1 hI, fun i hi => one L a1 w1 _ hI i hi fun a2 w2 hI2 => ih _ a2 w2 ?_ hI2⟩
          obtain ⟨hun, o, ho, _⟩ := mem_ready.1 hi
          have hil : i < l.length := by rw [D.len]; exact (Array.getElem?_eq_some_iff.1 ho).1
          have hiL : i < L.size := by rw [hI.1, ← D.len]; exact hil
          have hLi : Lf L i = false := by
            simp only [Lf, Array.getD_eq_getD_getElem?, Array.getElem?_eq_getElem hiL, Option.getD_some] at hun ⊢
            exact hun
          -- one fewer is open
          have cnt : ∀ (n : Nat), ((List.range n).filter fun k => !(Lf (L.setIfInBounds i true) k)).length + (if i < n then 1 else 0) = ((List.range n).filter fun k => !(Lf L k)).length := by
            intro n
            induction n with
            | zero => simp
            | succ n ihn =>
              rw [List.range_succ, List.filter_append, List.filter_append, List.length_append, List.length_append, ← ihn]
              have hLs : ∀ k, Lf (L.setIfInBounds i true) k = if k = i then true else Lf L k := by
                intro k
                simp only [Lf, Array.getD_eq_getD_getElem?, Array.getElem?_setIfInBounds]
                by_cases hk : i = k
                · subst hk; simp [hiL]
                · rw [if_neg hk, if_neg (fun e => hk e.symm)]
              simp only [List.filter_cons, List.filter_nil, hLs n]
              by_cases hn : n = i
              · subst hn
                simp [hLi]
              · rw [if_neg hn]
                have e : (i < n + 1) ↔ (i < n) := by omega
                simp only [e]
                omega
          have := cnt l.length
          rw [if_pos hil] at this
          omega
      refine wpIn_region_any hm (key _ _ _ _ (by
        have h1 := List.length_filter_le (fun k => !(Lf (Array.replicate ops.size false) k)) (List.range l.length)
        exact Nat.le_trans h1 (by rw [List.length_range, D.len]; exact Nat.le_refl _)) ?_)
      have hz : ∀ k, Lf (Array.replicate ops.size false) k = false := by
        intro k
        simp only [Lf, Array.getD_eq_getD_getElem?, Array.getElem?_replicate]
        split <;> rfl
      refine ⟨by simp, fun i _ h => (by rw [hz] at h; cases h), rfl, .inl ⟨fun aa _ h => (by rw [hz] at h; cases h), σ, β, h, s, Fut.heap rfl rfl rfl rfl, ?_, hw.heap rfl, hf, rfl, fun i x c d _ h => (by rw [hz] at h; cases h), fun t _ => rfl⟩⟩
      have : tn l (Lf (Array.replicate ops.size false)) = 0 := by
        unfold tn
        rw [List.filter_eq_nil_iff.2]
        · rfl
        · intro k _; simp [hz]
      rw [this]
      exact t1 0 h rfl
    · cases hx
  · cases hx
end Go.Vm
/-
 Vm: code and functions (own work): what the abstract machine tells of a call, the machine does.
-/
namespace Go.Vm
open Go Go.RowKit
variable {P : Program} {prot : Nat -> Prop} {σ : gq} {β : Nat -> Option Loc} {h : ae} {w : World} {a : Act} {s : List VV}
theorem Al {ro : Option Nat} {m B : Nat} {call : bj} (hcall : CallsOK P call) {refs : List Nat} {owns : List (Nat × Nat)} {id : Nat} {ops : Array Oper} : ∀ (l : List Oper) (k : Nat) (lo : List Op1), (∀ j, l[j]? = ops[k + j]?) -> uq P refs owns id ops k l = some lo ->
  ∀ {σ : gq} {β : Nat -> Option Loc} {s : List VV} {h : ae} {a : Act} {w : World} {out : Out} {st' : St} {Q : Exit -> Act -> World -> Prop}, dj call lo ⟨s, h⟩ = some (out, st') -> FR σ β a.tmps s -> WR P prot σ β h w -> jb B prot a.defers w -> (∀ e a' w', jf P B prot σ β w out st' e a' w' -> Q e a' w') ->
  wpOpsIn (Fn ro) m P ops Q (List.range' k l.length) a w
 | [], k, lo, hl, hc, σ, β, s, h, a, w, out, st', Q, hx, hf, hw, hd, hQ => by
  cases hc
  cases hx
  exact hQ _ _ _ ⟨prot, σ, β, fun _ h => h, .refl, hw, hd, rfl, hf⟩
 | o :: l, k, lo, hl, hc, σ, β, s, h, a, w, out, st', Q, hx, hf, hw, hd, hQ => by
  have ho : ops[k]? = some o := by have := hl 0; grind
  simp only [uq] at hc
  split at hc
  ·rename_i x lr e1 e2
   cases hc
   have hl' : ∀ j, l[j]? = ops[k + 1 + j]? := fun j => by have := hl (j + 1); grind
   rw [List.length_cons, List.range'_succ]
   simp only [wpOpsIn, ho]
   obtain ⟨c1, c2, c3⟩ := js e1
   simp only [dj] at hx
   split at hx
   ·rename_i hwt
    rw [so c3 hf hwt]
    simp only [if_true]
    split at hx
    ·rename_i st1 hst
     obtain ⟨s1, h1⟩ := st1
     rcases ug hcall e1 hst hf hw with ⟨_, u, hu, hgo⟩ | ⟨v, hv, _⟩
     ·refine hgo _ Q fun rv w' σ' β' hF hW hV => ?_
      refine Al hcall l (k + 1) lr hl' e2 hx ?_ hW ?_ fun e a' w'' hS => hQ e a' w'' (hS.after (fun _ h => h) hF)
      ·rw [hu]; exact (hf.mono hF).put o.dst hV
      ·have := hd.fut hF; cases o.dst <;> simpa [Act.put] using this
     ·cases hv
    ·rename_i hne
     cases hst : dw call ⟨s, h⟩ x with
     | none => grind
     | some r =>
      obtain ⟨o1, st1⟩ := r
      obtain ⟨s1, h1⟩ := st1
      rcases ug hcall e1 hst hf hw with ⟨ho1, _⟩ | ⟨v, hv, hs1, hgo⟩
      ·simp_all
      ·rw [hst] at hx
       cases hx
       subst hv hs1
       exact hgo _ Q fun rv w' σ' β' hF hW hV => hQ _ _ _ ⟨prot, σ', β', fun _ h => h, hF, hW, hd.fut hF, rv, rfl, hV⟩
   ·rename_i hwt
    rw [so c3 hf hwt]
    simp only [Bool.false_eq_true, if_false]
    refine ⟨fun _ _ => trivial, ?_⟩
    refine Al hcall l (k + 1) lr hl' e2 hx ?_ hw ?_ hQ
    ·rw [c2]; exact hf.put o.dst acq
    ·cases o.dst <;> simpa [Act.put] using hd
   ·cases hx
  ·cases hc
theorem ta {refs : List Nat} {owns : List (Nat × Nat)} {l : Nat} : ∀ {c : Code} {ir : IR}, jo P refs owns c = some ir -> ((od ir l).isSome = (findLabel c l).isSome)
 | .seq x y, ir, h => by
  simp only [jo] at h
  split at h
  ·rename_i x' y' h1 h2
   cases h
   have i1 := ta (l := l) h1
   have i2 := ta (l := l) h2
   simp only [od, findLabel]
   grind
  ·cases h
 | .label l', ir, h => by
  cases h
  simp only [od, findLabel]
  split <;> rfl
 | .skip, ir, h => by cases h; rfl
 | .region id ops d, ir, h => by
  simp only [jo] at h
  split at h
  ·rename_i x hx
   cases h
   split at hx
   ·obtain ⟨z, _, rfl⟩ := map_some hx; rfl
   ·obtain ⟨z, _, rfl⟩ := map_some hx; rfl
  ·split at h
   ·cases h; rfl
   ·cases h
 | .cond c x y, ir, h => by
  simp only [jo] at h
  split at h
  ·cases h; rfl
  ·cases h
 | .block id b, ir, h => by simp only [jo] at h; obtain ⟨z, _, rfl⟩ := map_some h; rfl
 | .loop b, ir, h => by simp only [jo] at h; obtain ⟨z, _, rfl⟩ := map_some h; rfl
 | .exit id, ir, h => by cases h; rfl
 | .scope b, ir, h => by simp only [jo] at h; obtain ⟨z, _, rfl⟩ := map_some h; rfl
 | .goto l', ir, h => by cases h; rfl
 | .ret, ir, h => by cases h; rfl
 | .rangeFunc _ _ _ _, ir, h => by
  simp only [jo] at h
  split at h
  ·split at h
   ·cases h; rfl
   ·cases h
  ·cases h
 | .refuse _, ir, h => by cases h
def ab4 (P : Program) (ro : Option Nat) (n : Nat) (c : Code) (run : St -> Option (Out × St)) : Prop :=
 ∀ (B : Nat) (prot : Nat -> Prop) (σ : gq) (β : Nat -> Option Loc) (s : List VV) (h : ae) (a : Act) (w : World) (out : Out) (st' : St), run ⟨s, h⟩ = some (out, st') -> FR σ β a.tmps s -> WR P prot σ β h w -> B <= w.heap.size /\ jb B prot a.defers w ->
  c.wpIn (Fn ro) n P (jf P B prot σ β w out st') a w
theorem ab4.wp {ro : Option Nat} {n B : Nat} {c : Code} {run : St -> Option (Out × St)} (hd : ab4 P ro n c run) {out : Out} {st' : St} (hx : run ⟨s, h⟩ = some (out, st')) (hf : FR σ β a.tmps s) (hw : WR P prot σ β h w) (hda : B <= w.heap.size /\ jb B prot a.defers w) {Q : Exit -> Act -> World -> Prop} (hQ : ∀ e a' w', jf P B prot σ β w out st' e a' w' -> Q e a' w') : c.wpIn (Fn ro) n P Q a w :=
 wpIn_mono (hd B prot σ β s h a w out st' hx hf hw hda) hQ
theorem zz {ro : Option Nat} {k : Nat} : (Fn ro).room k := fun _ h => by cases h
theorem Gi {ro : Option Nat} {fr : Frame} {cs : List Frame} {w : World} (ha : fr.about P w = none) : (lone fr cs w).fenced P (Fn ro) := fenced_calm (n := 0) trivial zz ha
theorem Me {b : Frame} {k : List Item} {cs : List Frame} {c : Code} : step P (lone (b.atR a (.code (.scope c) :: k)) cs w) = .next (lone (b.atR a (.code c :: .inScope c :: k)) cs w) :=
 step_lone_go (by simp [stepG, stepG.exec, Frame.atR])
theorem Gy {b : Frame} {k : List Item} {cs : List Frame} {c : Code} : step P (lone (b.atR a (.inScope c :: k)) cs w) = .next (lone (b.atR a k) cs w) :=
 step_lone_go (by simp [stepG, stepG.exec, Frame.atR])
theorem Tz {ro : Option Nat} {m : Nat} {c : Code} {run : St -> Option (Out × St)} (hd : ab4 P ro m c run) : ∀ (n B : Nat) (prot : Nat -> Prop) (σ : gq) (β : Nat -> Option Loc) (s : List VV) (h : ae) (a : Act) (w : World) (out : Out) (st' : St), zb run n ⟨s, h⟩ = some (out, st') -> FR σ β a.tmps s -> WR P prot σ β h w -> B <= w.heap.size /\ jb B prot a.defers w ->
  ∀ (b : Frame) (k : List Item) (cs : List Frame), b.roundOf = ro -> ∃ e a' w', jf P B prot σ β w out st' e a' w' /\ ArrivesIn (Machine.fenced P (Fn ro)) P (lone (b.atR a (.code c :: .inLoop c :: k)) cs w) b k cs e a' w'
 | 0, B, prot, σ, β, s, h, a, w, out, st', hx, hf, hw, hda, b, k, cs, hb => by cases hx
 | n + 1, B, prot, σ, β, s, h, a, w, out, st', hx, hf, hw, hda, b, k, cs, hb => by
  simp only [zb] at hx
  split at hx
  ·rename_i st1 hr
   obtain ⟨s1, h1⟩ := st1
   obtain ⟨e, a1, w1, ⟨prot1, σ1, β1, hp, hF, hW, hd1, he, hf1⟩, harr⟩ := hd B prot σ β s h a w _ _ hr hf hw hda b (.inLoop c :: k) cs hb trivial zz
   subst he
   obtain ⟨e2, a2, w2, hS, harr2⟩ := Tz hd n B prot1 σ1 β1 s1 h1 a1 w1 out st' hx hf1 hW ⟨Nat.le_trans hda.1 hF.size, hd1⟩ b k cs hb
   exact ⟨e2, a2, w2, hS.after hp hF, .of_steps (StepsIn.trans harr (.one (Gi rfl) stepR_inLoop)) harr2⟩
  ·rename_i hne
   obtain ⟨e, a1, w1, hS, harr⟩ := hd B prot σ β s h a w _ _ hx hf hw hda b (.inLoop c :: k) cs hb trivial zz
   refine ⟨e, a1, w1, hS, .pass (x := .inLoop c) rfl (fun a' w' => .inl ?_) harr⟩
   intro he
   subst he
   obtain ⟨prot1, σ1, β1, hp, hF, hW, hd1, hER⟩ := hS
   cases out <;> simp only [ER] at hER
   ·grind
   ·cases hER.1
   ·cases hER.1
   ·cases hER.1
   grind
theorem aeb {ro : Option Nat} {p : Nat} {c : Code} {frm : Nat → St → Option (Out × St)} {has : Nat → Bool} (hhas : ∀ l, has l = (findLabel c l).isSome) (hfrm : ∀ l rest, findLabel c l = some rest → ab4 P ro p rest (frm l)) :
    ∀ (m : Nat) (X : Code) (B : Nat) (prot : Nat → Prop) (σ : gq) (β : Nat → Option Loc) (a : Act) (w : World) (o1 : Out) (st1 : St) (out : Out) (st' : St), B ≤ w.heap.size → X.wpIn (Fn ro) p P (jf P B prot σ β w o1 st1) a w → bt frm has m (some (o1, st1)) = some (out, st') →
    ∀ (b : Frame) (k : List Item) (cs : List Frame), b.roundOf = ro → ∃ e a' w', jf P B prot σ β w out st' e a' w' ∧ ArrivesIn (Machine.fenced P (Fn ro)) P (lone (b.atR a (.code X :: .inScope c :: k)) cs w) b k cs e a' w' := by
  intro m
  -- a way out that is no jump into the scope
  have leave : ∀ (X : Code) (B : Nat) (prot : Nat → Prop) (σ : gq) (β : Nat → Option Loc) (a : Act) (w : World) (o1 : Out) (st1 : St), X.wpIn (Fn ro) p P (jf P B prot σ β w o1 st1) a w → (∀ l, o1 = .goto l → findLabel c l = none) →
      ∀ (b : Frame) (k : List Item) (cs : List Frame), b.roundOf = ro → ∃ e a' w', jf P B prot σ β w o1 st1 e a' w' ∧ ArrivesIn (Machine.fenced P (Fn ro)) P (lone (b.atR a (.code X :: .inScope c :: k)) cs w) b k cs e a' w' := by
    intro X B prot σ β a w o1 st1 hX hg b k cs hb
    obtain ⟨e, a1, w1, hS, harr⟩ := hX b (.inScope c :: k) cs hb trivial zz
    refine ⟨e, a1, w1, hS, ?_⟩
    obtain ⟨prot1, σ1, β1, hp, hF, hW, hd1, hER⟩ := hS
    cases o1 <;> simp only [ER] at hER
    · obtain ⟨rfl, _⟩ := hER; exact StepsIn.trans harr (.one (Gi rfl) Gy)
    · obtain ⟨rfl, _⟩ := hER
      exact ⟨fun k' hk => harr.1 k' (by simp [exitTo, hk]), fun hr hk => harr.2 hr (by simp [exitTo, hk])⟩
    · rename_i l
      obtain ⟨rfl, _⟩ := hER
      have hn := hg l rfl
      exact ⟨fun k' hk => harr.1 k' (by simp [gotoIn, hn, hk]), fun hr hk => harr.2 hr (by simp [gotoIn, hn, hk])⟩
    · obtain ⟨rfl, _⟩ := hER; exact harr
    · obtain ⟨rv, rfl, _⟩ := hER; exact harr
  induction m with
  | zero =>
    intro X B prot σ β a w o1 st1 out st' hB hX hj b k cs hb
    have hj' : (o1 = out ∧ st1 = st') ∧ (∀ l, o1 = .goto l → has l = false) := by
      unfold bt at hj
      grind
    simp_all
  | succ m ih =>
    intro X B prot σ β a w o1 st1 out st' hB hX hj b k cs hb
    by_cases hgo : ∃ l, o1 = .goto l ∧ has l = true
    · obtain ⟨l, rfl, hl⟩ := hgo
      simp only [bt, hl, if_true] at hj
      obtain ⟨e, a1, w1, ⟨prot1, σ1, β1, hp, hF, hW, hd1, rfl, hf1⟩, harr⟩ := hX b (.inScope c :: k) cs hb trivial zz
      cases hr : frm l st1 with
      | none =>
        rw [hr] at hj
        cases m <;> simp [bt] at hj
      | some q =>
        obtain ⟨o2, st2⟩ := q
        rw [hr] at hj
        rw [hhas l] at hl
        obtain ⟨rest, hrest⟩ := Option.isSome_iff_exists.1 hl
        have hD := hfrm l rest hrest
        obtain ⟨s1, h1⟩ := st1
        have hB1 := Nat.le_trans hB hF.size
        obtain ⟨e2, a2, w2, hS, harr2⟩ := ih rest B prot1 σ1 β1 a1 w1 o2 st2 out st' hB1 (hD B prot1 σ1 β1 s1 h1 a1 w1 o2 st2 hr hf1 hW ⟨hB1, hd1⟩) hj b k cs hb
        have hg : gotoIn l (.inScope c :: k) = some (.code rest :: .inScope c :: k) := by simp [gotoIn, hrest]
        exact ⟨e2, a2, w2, hS.after hp hF, .of_steps (harr.1 _ hg) harr2⟩
    · have hj' : o1 = out ∧ st1 = st' := by
        simp only [bt] at hj
        grind
      simp_all
theorem WR.setLoop (hw : WR P prot σ β h w) {id : Nat} {ps : List Nat} {asg body : IR} {s0 : List VV} {st : LoopState} {pend : Option Jmp} {L : Loc} (ho : h[id]? = some (.loop ps asg body s0 st pend)) (hL : β id = some L) {r : Loop}
  (hr : w.heap[L.blk]? = some (.loop r)) (r' : Loop) {st' : LoopState} {pend' : Option Jmp} (hR : Hp P σ β r' ps asg body s0 st' pend') :
  Fut prot σ β w σ β (w.putObj L.blk (.loop r')) /\ WR P prot σ β (h.set id (.loop ps asg body s0 st' pend')) (w.putObj L.blk (.loop r')) := by
 have hlt := (Array.getElem?_eq_some_iff.1 hr).1
 obtain ⟨L0, hL0, hO0⟩ := hw.obj id _ ho
 rw [hL] at hL0; cases hL0
 obtain ⟨β', hF, hW, hb, hrest⟩ := hw.upd (w' := w.putObj L.blk (.loop r')) (o' := .loop ps asg body s0 st' pend') (L' := L) ⟨rfl, rfl, rfl⟩ id ho rfl hL (by simp) (fun b _ hb => World.putObj_heap_other hb) (.inl rfl) (.inl rfl)
  (fun β' hbet hb hF => ⟨hO0.1, hO0.2.1, r', World.putObj_heap_same hlt, hR.mono hF⟩)
 have : β' = β := by
  grind
 grind
theorem Fut.loc {prot : Nat -> Prop} {σ σ' : gq} {β β' : Nat -> Option Loc} {w w' : World} (hF : Fut prot σ β w σ' β' w') {id : Nat} {L : Loc} (hL : β id = some L) (hb : L.box = true) : β' id = some L := by
 obtain ⟨L', h1, h2 | ⟨h2, _⟩⟩ := hF.bet id L hL
 ·rw [h1, h2]
 grind
theorem Lm {call : bj} (hcall : CallsOK P call) {m B : Nat} {g : Operand} {g' : Opd} {ps : Array Tmp} {x y : Code} {x' y' : IR} {out : Out} {st' : St} (hg : opd g = some g') (hnr : il x = true /\ il y = true) (hc : ∃ refs owns, jo P refs owns x = some x' /\ jo P refs owns y = some y')
  (hx : mq call (ad s g') ps.toList x' y' ⟨s, h⟩ = some (out, st')) (hf : FR σ β a.tmps s) (hw : WR P prot σ β h w) (hd : B <= w.heap.size /\ jb B prot a.defers w) :
  (Code.rangeFunc g ps x y).wpIn (Fn none) m P (jf P B prot σ β w out st') a w := by
 have ry := av hg hf
 unfold mq at hx
 split at hx
 rotate_left
 ·cases hx
 rename_i f caps e1
 rw [e1] at ry
 split at hx
 rotate_left
 ·cases hx
 rename_i hyb
 split at hx
 rotate_left
 ·cases hx
 rename_i v0 h2 hcl
 dsimp only at hcl hx
 generalize hX : a.eval g = X at ry
 cases ry with
 | func _ cs _ hn hcr =>
  refine wpIn_rangeFunc fun fn _ => ?_
  -- the block for deferred calls
  obtain ⟨r1, r2, r3, r4, r5⟩ := hw.reserve (w' := w.alloc (.deferred (some []))) ⟨rfl, rfl, rfl⟩ rfl
  have hsz : (w.alloc (.deferred (some []))).heap.size = w.heap.size + 1 := World.size_alloc ..
  have hk0 : (w.alloc (.deferred (some []))).heap[w.heap.size]? = some (.deferred (some [])) := World.alloc_heap_new w _
  -- the record
  generalize hrec : ({ state := .ready, pending := none, fn := fn, tmps := a.tmps, params := ps, assign := x, body := y, defers := w.heap.size } : Loop) = rec
  generalize hw1 : w.alloc (.deferred (some [])) = w1 at r1 r2 hsz hk0
  have hbox : Hp P σ β rec ps.toList x' y' s .ready none := by
   subst hrec
   exact ⟨rfl, hc, hnr.1, hnr.2, hf, rfl, rfl⟩
  obtain ⟨β2, F2, W2, hb2, hext2⟩ := r2.new (w' := w1.alloc (.loop rec)) (o := .loop rec) ⟨rfl, rfl, rfl⟩ rfl (.loop ps.toList x' y' s .ready none) ⟨w1.heap.size, 0, 0, 0, 0, true⟩ rfl
   (fun β' hβ' => ⟨rfl, rfl, rec, World.alloc_heap_new w1 _, hbox.ext hβ'⟩)
  have hF2 : Fut (fun b => prot b \/ b = w.heap.size) σ β w1 σ β2 (w1.alloc (.loop rec)) := F2
  generalize hw2 : w1.alloc (.loop rec) = w2 at F2 W2 hF2
  have hfa : ∀ (i : Nat) (v : Value) (u : VV), (#[Value.func (.yield w1.heap.size) #[] #[]] ++ cs)[i]? = some v -> (VV.yield h.length :: caps)[i]? = some u -> VR σ β2 v u := by
   intro i v u hv hu
   cases i with
   | zero =>
    rw [Array.getElem?_append_left (by simp)] at hv
    simp at hv hu; subst hv hu; exact .yield h.length ⟨w1.heap.size, 0, 0, 0, 0, true⟩ hb2 rfl
   | succ i =>
    simp at hu
    rw [Array.getElem?_append_right (by simp)] at hv
    simp at hv
    exact (hcr i v u hv hu).ext hext2
  obtain ⟨fnc, q1, q2, q3⟩ := hcall.fn _ _ _ _ hyb hcl
  have hC := hcall.go _ _ _ _ _ hyb hcl (#[Value.func (.yield w1.heap.size) #[] #[]] ++ cs) (fun b => prot b \/ b = w.heap.size) σ β2 w2 (by grind) hfa W2
  have hC' : CallsIn (Fn none) (m - 1) P f (#[Value.func (.yield w1.heap.size) #[] #[]] ++ cs) w2 (rn P (fun b => prot b \/ b = w.heap.size) σ β2 w2 (.ret v0) h2) := xu hC
  have hdep : (Fn none).depth.isSome = true -> 1 <= m := fun h => (by cases h)
  have hlead : ∀ f', Target.leads P w2 (.fn (.func f) cs) #[.func (.yield w1.heap.size) #[] #[]] = some f' -> (Fn none).fn f' := fun _ _ => trivial
  refine ⟨w1.heap.size, [De w.heap.size], w2, ⟨.fn (.func f) cs, #[.func (.yield w1.heap.size) #[] #[]]⟩, w2, f, #[.func (.yield w1.heap.size) #[] #[]] ++ cs, w2, ?g1, ?g2, ?g3, ?g4, ?g5, ?g6⟩
  case g3 => exact hlead
  case g5 => exact hdep
  case g1 =>
   have := run_enterLoop_outer (P := P) (w := w) fn a.tmps ps x y
   rw [hrec, hw1, hw2] at this
   rw [show (Fn none).round = none from rfl, this, hsz]
   rfl
  case g2 =>
   simp only [resolve, hX]
   simp [go_sem]
  case g4 =>
   simp only [invoke]
   exact ku q1 q2 q3 w2
  case g6 =>
   refine hC'.mono ?_
   rintro e w3 ⟨σ3, β3, rv, hF3, hW3, hres⟩
   rcases hres with ⟨v', hv, rfl, hR⟩ | ⟨v', hv, _, _⟩
   rotate_left
   ·cases hv
   split at hx
   rotate_left
   ·cases hx
   rename_i ps2 asg2 body2 s2 t2 p2 hl2
   have hb3 := hF3.loc hb2 rfl
   obtain ⟨L3, hL3, hO3⟩ := hW3.obj _ _ hl2
   rw [hb3] at hL3; cases hL3
   obtain ⟨_, _, r3', hr3, hR3⟩ := hO3
   have hnb : r3'.state ≠ .busy := by
    rw [hR3.2.2.2.2.2.1]
    grind
   obtain ⟨hF4, hW4⟩ := hW3.setLoop hl2 hb3 hr3 { r3' with state := .exhausted } (st' := .exhausted) (pend' := p2) ⟨hR3.1, hR3.2.1, hR3.2.2.1, hR3.2.2.2.1, hR3.2.2.2.2.1, rfl, hR3.2.2.2.2.2.2⟩
   have hx' : out = Mj p2 /\ st' = ⟨s, h2.set h.length (.loop ps2 asg2 body2 s2 .exhausted p2)⟩ := by
    grind
   obtain ⟨rfl, rfl⟩ := hx'
   have hend := run_endLoop (P := P) hr3 hnb
   have hFt : Fut (fun b => prot b \/ b = w.heap.size) σ β2 w2 σ3 β3 (w3.putObj w1.heap.size (.loop { r3' with state := .exhausted })) := hF3.trans hF4
   have hFall : Fut prot σ β w σ3 β3 (w3.putObj w1.heap.size (.loop { r3' with state := .exhausted })) := r1.trans ((hF2.trans hFt).weaken fun _ h => .inl h)
   have hmk : jb B (fun b => prot b \/ b = w.heap.size) (De w.heap.size :: a.defers) (w3.putObj w1.heap.size (.loop { r3' with state := .exhausted })) := by
    obtain ⟨Ds, e1, e2, e3⟩ := hd.2
    have hk2 := (hF2.trans hFt).prot w.heap.size (.inr rfl) (by omega)
    refine ⟨w.heap.size :: Ds, by rw [e1]; rfl, List.nodup_cons.2 ⟨fun hm => r5 (e3 _ hm).2.1, e2⟩, fun D hD => ?_⟩
    rcases List.mem_cons.1 hD with rfl | hD
    ·grind
    ·obtain ⟨b1, b2, b3⟩ := e3 D hD
     refine ⟨b1, .inl b2, ?_⟩
     rw [hFall.prot D b2 (Array.getElem?_eq_some_iff.1 b3).1]; exact b3
   have hfr : FR σ3 β3 a.tmps s := ⟨hf.1, fun i v u h1 h2 => ((hf.2 i v u h1 h2).ext hext2).mono hFt⟩
   have post : ∀ (e : Exit) (out : Out), ER σ3 β3 out s { a with defers := De w.heap.size :: a.defers } e -> jf P B prot σ β w out ⟨s, h2.set h.length (.loop ps2 asg2 body2 s2 .exhausted p2)⟩ e { a with defers := De w.heap.size :: a.defers } (w3.putObj w1.heap.size (.loop { r3' with state := .exhausted })) :=
    fun e out hER => ⟨_, σ3, β3, fun _ h => .inl h, hFall, hW4, hmk, hER⟩
   have hpe := hR3.2.2.2.2.2.2
   dsimp only at hend
   generalize w3.putObj w1.heap.size (.loop { r3' with state := .exhausted }) = w5 at hend post
   refine ⟨r3'.pending, w5, hend, ?_⟩
   rw [hpe]
   cases p2 with
   | none => exact post .normal .norm ⟨rfl, hfr⟩
   | some j => cases j with
    | ret => exact wpIn_ret (post .ret .ret ⟨rfl, hfr⟩)
    | exit i => exact wpIn_exit (post (.exit i) (.exit i) ⟨rfl, hfr⟩)
    | goto l => exact wpIn_goto (post (.goto l) (.goto l) ⟨rfl, hfr⟩)
theorem Qr (call : bj) (n : Nat) (st : St) (r : Out × St) : exec call n (.loop .skip) st ≠ some r := by
 have key : ∀ (k : Nat) (st : St), zb (fun st => some (Out.norm, st)) k st = none := by
  intro k
  induction k with
  | zero => intro st; rfl
  | succ k ih => intro st; exact ih st
 simp only [exec]
 grind
theorem gz {ro : Option Nat} {m : Nat} {call : bj} (hcall : CallsOK P call) (hm : P.follows .mixedOrders = true) {refs : List Nat} {owns : List (Nat × Nat)} (n : Nat) : ∀ (c : Code) (ir : IR), (ro = none \/ il c = true) -> jo P refs owns c = some ir ->
  ab4 P ro m c (exec call n ir) /\ ∀ l rest, findLabel c l = some rest -> ab4 P ro m rest (cg call n ir l)
 | .skip, ir, hrn, hc => by
  cases hc
  refine ⟨fun B prot σ β s h a w out st' hx hf hw hd => ?_, fun l rest hl => by cases hl⟩
  cases hx
  exact wpIn_skip ⟨prot, σ, β, fun _ h => h, .refl, hw, hd.2, rfl, hf⟩
 | .region id ops d, ir, hrn, hc => by
  refine ⟨fun B prot σ β s h a w out st' hx hf hw hd => ?_, fun l rest hl => by cases hl⟩
  simp only [jo] at hc
  split at hc
  case h_2 =>
   split at hc
   ·cases hc
    exact absurd hx (Qr _ _ _ _)
   ·cases hc
  rename_i y hy
  cases hc
  have hc := hy
  clear hy
  split at hc
  ·rename_i hdr
   obtain ⟨l, hl, rfl⟩ := map_some hc
   subst hdr
   exact Rh hcall hm hl hx hf hw hd.2 fun _ _ _ h => h
  ·rename_i hdr
   obtain ⟨l, hl, rfl⟩ := map_some hc
   have hdf : d = false := by grind
   subst hdf
   have := Al (ro := ro) (m := m) (Q := jf P B prot σ β w out st') hcall ops.toList 0 l (fun j => by simp) hl hx hf hw hd.2 fun _ _ _ h => h
   refine wpIn_region ?_
   rw [List.range_eq_range']
   omega
 | .seq x y, ir, hrn, hc => by
  simp only [jo] at hc
  split at hc
  ·rename_i x' y' h1 h2
   cases hc
   obtain ⟨x1, x2⟩ := gz (m := m) hcall hm n x x' (hrn.imp_right fun q => by simp only [il, Bool.and_eq_true] at q; exact q.1) h1
   obtain ⟨y1, y2⟩ := gz (m := m) hcall hm n y y' (hrn.imp_right fun q => by simp only [il, Bool.and_eq_true] at q; exact q.2) h2
   have seq : ∀ (X : Code) (run : St -> Option (Out × St)), ab4 P ro m X run -> ab4 P ro m (.seq X y) (fun st => match run st with | some (.norm, st1) => exec call n y' st1 | x => x) := by
    intro X run hX B prot σ β s h a w out st' hx hf hw hd
    simp only at hx
    refine wpIn_seq ?_
    split at hx
    ·rename_i st1 hr
     obtain ⟨s1, h1⟩ := st1
     refine hX.wp hr hf hw hd ?_
     rintro e a' w' ⟨prot', σ', β', hp', hF, hW, hd', rfl, hf'⟩
     exact y1.wp hx hf' hW ⟨Nat.le_trans hd.1 hF.size, hd'⟩ fun e a'' w'' hS => hS.after hp' hF
    ·rename_i hne
     refine hX.wp hx hf hw hd ?_
     rintro e a' w' hS
     have hS' := hS
     obtain ⟨prot', σ', β', hp', hF, hW, hd', hER⟩ := hS
     cases out <;> simp only [ER] at hER
     ·grind
     ·obtain ⟨rfl, _⟩ := hER; exact hS'
     ·obtain ⟨rfl, _⟩ := hER; exact hS'
     ·obtain ⟨rfl, _⟩ := hER; exact hS'
     ·obtain ⟨rv, rfl, _⟩ := hER; exact hS'
   refine ⟨fun B prot σ β s h a w out st' hx hf hw hd => seq x _ x1 B prot σ β s h a w out st' (by simp only [exec] at hx; exact hx) hf hw hd, fun l rest hl => ?_⟩
   simp only [findLabel] at hl
   have hsome := ta (l := l) h1
   cases hq : findLabel x l with
   | some rx =>
    rw [hq] at hl hsome
    cases hl
    obtain ⟨q, hq'⟩ := Option.isSome_iff_exists.1 (show (od x' l).isSome = true by grind)
    intro B prot σ β s h a w out st' hx hf hw hd
    simp only [cg, hq'] at hx
    exact seq rx _ (x2 l rx hq) B prot σ β s h a w out st' hx hf hw hd
   | none =>
    rw [hq] at hl hsome
    simp only at hl
    have hq' : od x' l = none := by simp_all
    intro B prot σ β s h a w out st' hx hf hw hd
    simp only [cg, hq'] at hx
    exact y2 l rest hl B prot σ β s h a w out st' hx hf hw hd
  ·cases hc
 | .cond c x y, ir, hrn, hc => by
  refine ⟨fun B prot σ β s h a w out st' hx hf hw hd => ?_, fun l rest hl => by cases hl⟩
  simp only [jo] at hc
  split at hc
  ·rename_i c' x' y' hcc h1 h2
   cases hc
   obtain ⟨x1, x2⟩ := gz (m := m) hcall hm n x x' (hrn.imp_right fun q => by simp only [il, Bool.and_eq_true] at q; exact q.1) h1
   obtain ⟨y1, y2⟩ := gz (m := m) hcall hm n y y' (hrn.imp_right fun q => by simp only [il, Bool.and_eq_true] at q; exact q.2) h2
   simp only [exec] at hx
   split at hx
   ·rename_i t ht
    have := av hcc hf
    rw [ht] at this
    have q := bu this
    cases t with
    | true => exact wpIn_cond_true q (x1 B prot σ β s h a w out st' (by grind) hf hw hd)
    | false => exact wpIn_cond_false q (y1 B prot σ β s h a w out st' (by grind) hf hw hd)
   ·cases hx
  ·cases hc
 | .block id b, ir, hrn, hc => by
  refine ⟨fun B prot σ β s h a w out st' hx hf hw hd => ?_, fun l rest hl => by cases hl⟩
  simp only [jo] at hc
  obtain ⟨b', hb, rfl⟩ := map_some hc
  obtain ⟨b1, b2⟩ := gz (m := m) hcall hm n b b' (hrn.imp_right fun q => by simpa only [il] using q) hb
  simp only [exec] at hx
  refine wpIn_block ?_
  split at hx
  ·rename_i id' st1 hr
   refine b1.wp hr hf hw hd ?_
   rintro e a' w' ⟨prot', σ', β', hp', hF, hW, hd', rfl, hf'⟩
   simp only [Exit.inBlock]
   split at hx
   ·rename_i hid; rw [if_pos hid]; cases hx; exact ⟨prot', σ', β', hp', hF, hW, hd', rfl, hf'⟩
   ·rename_i hid; rw [if_neg hid]; cases hx; exact ⟨prot', σ', β', hp', hF, hW, hd', rfl, hf'⟩
  ·rename_i hne
   refine b1.wp hx hf hw hd ?_
   rintro e a' w' hS
   have hS' := hS
   obtain ⟨prot', σ', β', hp', hF, hW, hd', hER⟩ := hS
   cases out <;> simp only [ER] at hER
   ·obtain ⟨rfl, _⟩ := hER; exact hS'
   ·grind
   ·obtain ⟨rfl, _⟩ := hER; exact hS'
   ·obtain ⟨rfl, _⟩ := hER; exact hS'
   ·obtain ⟨rv, rfl, _⟩ := hER; exact hS'
 | .loop b, ir, hrn, hc => by
  refine ⟨fun B prot σ β s h a w out st' hx hf hw hd => ?_, fun l rest hl => by cases hl⟩
  simp only [jo] at hc
  obtain ⟨b', hb, rfl⟩ := map_some hc
  obtain ⟨b1, b2⟩ := gz (m := m) hcall hm n b b' (hrn.imp_right fun q => by simpa only [il] using q) hb
  simp only [exec] at hx
  intro fb k cs hro _ _
  obtain ⟨e, a', w', hS, harr⟩ := Tz b1 n B prot σ β s h a w out st' hx hf hw hd fb k cs hro
  exact ⟨e, a', w', hS, .of_steps (.one (Gi rfl) stepR_loop) harr⟩
 | .exit id, ir, hrn, hc => by
  cases hc
  refine ⟨fun B prot σ β s h a w out st' hx hf hw hd => ?_, fun l rest hl => by cases hl⟩
  cases hx
  exact wpIn_exit ⟨prot, σ, β, fun _ h => h, .refl, hw, hd.2, rfl, hf⟩
 | .scope b, ir, hrn, hc => by
  refine ⟨fun B prot σ β s h a w out st' hx hf hw hd => ?_, fun l rest hl => by cases hl⟩
  simp only [jo] at hc
  obtain ⟨b', hb, rfl⟩ := map_some hc
  obtain ⟨b1, b2⟩ := gz (m := m) hcall hm n b b' (hrn.imp_right fun q => by simpa only [il] using q) hb
  simp only [exec] at hx
  cases hr : exec call n b' ⟨s, h⟩ with
  | none => rw [hr] at hx; cases n <;> simp [bt] at hx
  | some q =>
   obtain ⟨o1, st1⟩ := q
   rw [hr] at hx
   intro fb k cs hro _ _
   obtain ⟨e, a', w', hS, harr⟩ := aeb (p := m) (fun l => ta hb) b2 n b B prot σ β a w o1 st1 out st' hd.1 (b1 B prot σ β s h a w o1 st1 hr hf hw hd) hx fb k cs hro
   exact ⟨e, a', w', hS, .of_steps (.one (Gi rfl) Me) harr⟩
 | .label l', ir, hrn, hc => by
  cases hc
  refine ⟨fun B prot σ β s h a w out st' hx hf hw hd => ?_, fun l rest hl => ?_⟩
  ·cases hx
   exact wpIn_label ⟨prot, σ, β, fun _ h => h, .refl, hw, hd.2, rfl, hf⟩
  ·simp only [findLabel] at hl
   split at hl
   ·rename_i hh
    cases hl
    intro B prot σ β s h a w out st' hx hf hw hd
    simp only [cg, hh, if_true] at hx
    cases hx
    exact wpIn_skip ⟨prot, σ, β, fun _ h => h, .refl, hw, hd.2, rfl, hf⟩
   ·cases hl
 | .goto l', ir, hrn, hc => by
  cases hc
  refine ⟨fun B prot σ β s h a w out st' hx hf hw hd => ?_, fun l rest hl => by cases hl⟩
  cases hx
  exact wpIn_goto ⟨prot, σ, β, fun _ h => h, .refl, hw, hd.2, rfl, hf⟩
 | .ret, ir, hrn, hc => by
  cases hc
  refine ⟨fun B prot σ β s h a w out st' hx hf hw hd => ?_, fun l rest hl => by cases hl⟩
  cases hx
  exact wpIn_ret ⟨prot, σ, β, fun _ h => h, .refl, hw, hd.2, rfl, hf⟩
 | .rangeFunc g ps x y, ir, hrn, hc => by
  have hro : ro = none := by rcases hrn with h | h; exact h; cases h
  subst hro
  refine ⟨fun B prot σ β s h a w out st' hx hf hw hd => ?_, fun l rest hl => by cases hl⟩
  simp only [jo] at hc
  split at hc
  ·rename_i hnr
   split at hc
   ·rename_i g' x' y' hg h1 h2
    cases hc
    simp only [exec] at hx
    exact Lm hcall hg (by grind) ⟨refs, owns, h1, h2⟩ hx hf hw hd
   ·cases hc
  ·cases hc
 | .refuse _, ir, hrn, hc => by cases hc
theorem aea {rs : List ResultVar} : ∀ {rv : List ResV} {vs : List VV}, Mg P rs = some rv → FR σ β a.tmps s → WR P prot σ β h w → ke ⟨s, h⟩ rv = some vs →
    ∃ xs : List Value, (rs.mapM (fun | .tmp t => pure (a.tmps.getD t undef) | .cell b t => do loadVar t (← asAddr (a.tmps.getD b undef))) : Sem (List Value)).run P w = .ok xs w ∧ xs.length = vs.length ∧ ∀ (i : Nat) (x : Value) (v : VV), xs[i]? = some x → vs[i]? = some v → VR σ β x v := by
  induction rs with
  | nil =>
    intro rv vs hc hf hw hr
    cases hc; cases hr
    simp_all
  | cons r rs ih =>
    intro rv vs hc hf hw hr
    have slot : ∀ n u, s[n]? = some u → VR σ β (a.tmps.getD n undef) u := by
      intro n u hu
      have hlt : n < a.tmps.size := by rw [hf.1]; grind
      have : a.tmps.getD n undef = a.tmps[n] := by simp [hlt]
      rw [this]
      exact hf.2 n _ u (by simp [hlt]) hu
    have fin : ∀ (r1 : ResV) (l : List ResV) (y : Value), rv = r1 :: l → Mg P rs = some l → (∀ u, yq ⟨s, h⟩ r1 = some u → ∃ x, ((fun | .tmp t => pure (a.tmps.getD t undef) | .cell b t => do loadVar t (← asAddr (a.tmps.getD b undef)) : ResultVar → Sem Value) r).run P w = .ok x w ∧ VR σ β x u) →
        ∃ xs : List Value, ((r :: rs).mapM (fun | .tmp t => pure (a.tmps.getD t undef) | .cell b t => do loadVar t (← asAddr (a.tmps.getD b undef))) : Sem (List Value)).run P w = .ok xs w ∧ xs.length = vs.length ∧ ∀ (i : Nat) (x : Value) (v : VV), xs[i]? = some x → vs[i]? = some v → VR σ β x v := by
      intro r1 l y hrv hl hone
      subst hrv
      simp only [ke] at hr
      split at hr
      · rename_i u hu
        split at hr
        · rename_i us hus
          cases hr
          obtain ⟨x, hx, hxr⟩ := hone u hu
          obtain ⟨xs, h1, h2, h3⟩ := ih hl hf hw hus
          refine ⟨x :: xs, ?_, by simp [h2], fun i x' v' hx' hv' => ?_⟩
          · simp_all
          grind
        · cases hr
      · cases hr
    cases r with
    | tmp t =>
      simp only [Mg] at hc
      obtain ⟨l, hl, rfl⟩ := map_some hc
      refine fin (.t t) l undef rfl hl fun u hu => ⟨_, rfl, slot t u hu⟩
    | cell b t =>
      simp only [Mg] at hc
      split at hc
      · rename_i n ag l hn hg hl
        split at hc
        · rename_i h1
          cases hc
          refine fin (.cell b ag n) l undef rfl hl fun u hu => ?_
          simp only [yq] at hu
          split at hu
          · rename_i id off hp
            split at hu
            · rename_i cells fr hobj
              have hb : s[b]? = some (.ptr id off) := by
                grind
              have hV := slot b _ hb
              generalize hX : a.tmps.getD b undef = X at hV
              obtain ⟨L, hL, hO⟩ := hw.obj id _ hobj
              obtain ⟨o1, o2, o3, o4, o5, o6, o7⟩ := hO
              cases hV with
              | ptr _ _ L' hL' hbx =>
                rw [hL] at hL'; cases hL'
                obtain ⟨x, hx, hxr⟩ := pe (P := P) (B := ⟨L.blk, off, none⟩) (cs := (cells.drop off).take n) rfl hn hg (by omega) (fun c hc => o5 c (List.mem_of_mem_drop (List.mem_of_mem_take hc))) (fun j c hj => by
                    rw [List.getElem?_take] at hj
                    split at hj
                    · rw [List.getElem?_drop] at hj
                      obtain ⟨x, hx1, hx2, _⟩ := o7 _ c hj
                      exact ⟨x, hx1, hx2⟩
                    · cases hj) hu
                refine ⟨x, ?_, hxr⟩
                simp only [hX]
                rw [ac (x := ⟨L.blk, off, none⟩) (w1 := w) rfl]; exact hx
            · cases hu
          · cases hu
        · cases hc
      · cases hc
def afu (P : Program) (f : Nat) (fn : FnIR) : Prop :=
 (∃ fnc, P.funcs[f]? = some fnc /\ (fnc.name == "runtime.NumGoroutine") = false /\ fnc.body.isNone = false) /\
 ∀ (call : bj) (n : Nat) (args : List VV) (h : ae) (r : CRes) (h' : ae), CallsOK P call -> xe (exec call n) fn args h = some (r, h') -> ∀ (rargs : Array Value) (prot : Nat -> Prop) (σ : gq) (β : Nat -> Option Loc) (w : World), rargs.size = args.length ->
  (∀ (i : Nat) (v : Value) (u : VV), rargs[i]? = some v -> args[i]? = some u -> VR σ β v u) -> WR P prot σ β h w -> Calls P f rargs w (rn P prot σ β w r h')
def Sw (P : Program) (F : Nat -> Option FnIR) : Prop :=
 P.follows .mixedOrders = true /\ ∀ f fn, F f = some fn -> f < YB /\ ((∃ fnc refs owns, P.funcs[f]? = some fnc /\ (fnc.name == "runtime.NumGoroutine") = false /\ Qs P refs owns fnc = some fn) \/ afu P f fn)
theorem WR.shut {B : Nat} {prot' : Nat -> Prop} {D : Nat} (hw : WR P prot' σ β h w) (hk : w.heap[D]? = some (.deferred (some []))) (hp : prot' D) : WR P (fun b => prot' b /\ b ≠ D) σ β h (w.putObj D (.deferred none)) := by
 have hne : ∀ {L : Loc} {o : VO}, OR P σ β w L o -> L.blk ≠ D := by
  intro L o hO e
  have hB : ∀ c, Blk w L.blk c -> False := fun c ⟨C, E, fz, h1, _, _⟩ => by grind
  cases o with
  | arr z els g fr => obtain ⟨_, _, _, _, _, _, h7, _⟩ := hO; exact hB _ h7.blk
  | box cells fr => obtain ⟨_, _, _, _, _, h6, _⟩ := hO; exact hB _ h6
  | loop ps asg body s st pend => obtain ⟨_, _, r, h3, _⟩ := hO; grind
 have hoth : ∀ b, b ≠ D -> (w.putObj D (.deferred none)).heap[b]? = w.heap[b]? := fun b hb => World.putObj_heap_other hb
 have hF : Fut (fun b => prot' b /\ b ≠ D) σ β w σ β (w.putObj D (.deferred none)) :=
  ⟨rfl, rfl, rfl, by simp, fun b hb _ => hoth b hb.2, fun _ _ h => h, fun id L hL => ⟨L, hL, .inl rfl⟩, fun a ha => .inl ha, fun id L hL => .inr ⟨L, hL, rfl⟩⟩
 refine ⟨fun b hb => by simpa using hw.pr b hb.1, fun a v ha => ?_, fun id o ho => ?_, hw.dom, fun id o L ho hfr hL => ⟨fun hp => (hw.live id o L ho hfr hL).1 hp.1, (hw.live id o L ho hfr hL).2⟩, hw.inj⟩
 ·have hc := hw.stab a v ha
  have hb : a.block ≠ D := by
   intro e
   simp [World.cell?, e, hk] at hc
  rw [<- hc]
  simp [World.cell?, hoth _ hb]
 ·obtain ⟨L, hL, hO⟩ := hw.obj id o ho
  exact ⟨L, hL, hO.keep hF (hoth _ (hne hO))⟩
theorem qm {B n : Nat} {fn : Func} {R : Ending -> World -> Prop} {u : FrameMode} (hu : u ≠ .run) : ∀ (Ds : List Nat) (prot' : Nat -> Prop) (w : World), Ds.Nodup -> (∀ D ∈ Ds, B <= D /\ prot' D /\ w.heap[D]? = some (.deferred (some []))) -> WR P prot' σ β h w ->
  (∀ (prot2 : Nat -> Prop) w2, w2.os = w.os -> w2.tape = w.tape -> w2.output = w.output -> w2.heap.size = w.heap.size -> (∀ b, b < B -> w2.heap[b]? = w.heap[b]?) -> (∀ b, b < B -> prot' b -> prot2 b) -> WR P prot2 σ β h w2 -> LeavesIn (Fn none) n P fn a.tmps R [] u w2) -> LeavesInM (Fn none) n P fn a.tmps R (Ds.map De) u w
 | [], prot', w, _, _, hw, hK => hK prot' w rfl rfl rfl rfl (fun _ _ => rfl) (fun _ _ h => h) hw
 | D :: Ds, prot', w, hn, hD, hw, hK => by
  obtain ⟨d1, d2, d3⟩ := hD D (List.mem_cons_self)
  obtain ⟨n1, n2⟩ := List.nodup_cons.1 hn
  have hoth : ∀ b, b ≠ D -> (w.putObj D (.deferred none)).heap[b]? = w.heap[b]? := fun b hb => World.putObj_heap_other hb
  refine ⟨hu, .inl ⟨D, _, rfl, run_takeDeferred d3, ?_⟩⟩
  refine qm hu Ds (fun b => prot' b /\ b ≠ D) _ n2 (fun E hE => ?_) (hw.shut (B := B) d3 d2) (fun prot2 w2 e1 e2 e3 e4 e5 e6 hW => hK prot2 w2 e1 e2 e3 (by rw [e4]; simp) (fun b hb => by grind) (fun b hb hp => e6 b hb ⟨hp, by omega⟩) hW)
  grind
theorem El {σ : gq} {β : Nat -> Option Loc} : ∀ (ps : List Nat) (rs : List Value) (us : List VV) (tmps : Array Value) (s : List VV), FR σ β tmps s -> rs.length = us.length -> (∀ (i : Nat) (v : Value) (u : VV), rs[i]? = some v -> us[i]? = some u -> VR σ β v u) ->
  FR σ β ((ps.zip rs).foldl (fun t (p, v) => t.setIfInBounds p v) tmps) (tq s ps us)
 | [], rs, us, tmps, s, hf, _, _ => by cases us <;> exact hf
 | p :: ps, [], [], tmps, s, hf, _, _ => hf
 | p :: ps, r :: rs, u :: us, tmps, s, hf, hl, hr => by
  simp only [List.zip_cons_cons, List.foldl_cons, tq]
  refine El ps rs us _ _ ?_ (by grind) (fun i v w h1 h2 => hr (i + 1) v w (by grind) (by grind))
  have := FR.put (a := ⟨tmps, []⟩) hf (some p) (hr 0 r u rfl rfl)
  exact this
 | p :: ps, [], u :: us, _, _, _, hl, _ => by cases hl
 | p :: ps, r :: rs, [], _, _, _, hl, _ => by cases hl
theorem Lr {call : bj} (hcall : CallsOK P call) (hm : P.follows .mixedOrders = true) {n id : Nat} {args : List VV} {r : CRes} {h' : ae} (hr : rq (exec call n) id args h = some (r, h')) {rargs : Array Value} {L : Loc}
  (hl : rargs.size = args.length) (hL : β id = some L) (hrel : ∀ (i : Nat) (v : Value) (u : VV), rargs[i]? = some v -> args[i]? = some u -> VR σ β v u) (hw : WR P prot σ β h w) :
  ∃ fn tmps x y, (Instr.yield L.blk rargs).run P w = .ok (.round L.blk fn tmps x y) w /\ ∀ m, RoundIn Fence.wide m P L.blk fn tmps x y w (rn P prot σ β w r h') := by
 unfold rq at hr
 split at hr
 rotate_left
 ·cases hr
 rename_i ps asg body s0 st0 p0 ho
 split at hr
 rotate_left
 ·cases hr
 rename_i hlen
 obtain ⟨L0, hL0, hO⟩ := hw.obj _ _ ho
 rw [hL] at hL0; cases hL0
 obtain ⟨hbox, _, rc, hrc, hps, ⟨refs, owns, hca, hcb⟩, hna, hnb, hfr, hst, hpe⟩ := hO
 have hy := run_yield (P := P) (args := rargs) hrc (by grind)
 refine ⟨_, _, _, _, hy, fun m => roundIn_of_wpIn trivial ?_⟩
 split at hr
 rotate_left
 ·cases hr
 rename_i st1 hx1
 obtain ⟨s1, h1⟩ := st1
 have hfr1 : FR σ β ((rc.params.zip rargs).foldl (fun t (p, v) => t.setIfInBounds p v) rc.tmps) (tq s0 ps args) := by
  have := El ps rargs.toList args rc.tmps s0 hfr (by omega) (fun i v u h1 h2 => hrel i v u (by grind) h2)
  rw [<- hps] at this |-
  rw [<- Array.foldl_toList, Array.toList_zip]
  exact this
 obtain ⟨x1, _⟩ := gz (ro := some L.blk) (m := m) hcall hm n rc.assign asg (.inr hna) hca
 refine (x1.wp (B := w.heap.size) (a := ⟨_, []⟩) hx1 hfr1 hw ⟨Nat.le_refl _, jb.nil⟩ ?_ : (rc.assign).wpIn (Fn (some L.blk)) m P _ _ _)
 rintro e a1 w1 ⟨prot1, σ1, β1, hp1, hF1, hW1, hm1, rfl, hf1⟩
 have hL1 := hF1.loc hL hbox
 simp only at hr
 split at hr
 rotate_left
 ·cases hr
 rename_i ps1 asg1 body1 s1' p1 ho1
 obtain ⟨L1, hL1', hO1⟩ := hW1.obj _ _ ho1
 rw [hL1] at hL1'; cases hL1'
 obtain ⟨_, _, rc1, hrc1, hR1⟩ := hO1
 have hbr := run_beginRound (P := P) hrc1 hR1.2.2.2.2.2.1
 obtain ⟨hF2, hW2⟩ := hW1.setLoop ho1 hL1 hrc1 { rc1 with state := .busy } (st' := .busy) (pend' := p1) ⟨hR1.1, hR1.2.1, hR1.2.2.1, hR1.2.2.2.1, hR1.2.2.2.2.1, rfl, hR1.2.2.2.2.2.2⟩
 refine ⟨_, hbr, ?_⟩
 split at hr
 rotate_left
 ·cases hr
 rename_i out st2 hx2
 obtain ⟨s2, h2⟩ := st2
 obtain ⟨y1, _⟩ := gz (ro := some L.blk) (m := m) hcall hm n rc.body body (.inr hnb) hcb
 have hsz2 : w.heap.size <= (w1.putObj L.blk (.loop { rc1 with state := .busy })).heap.size := by simpa using hF1.size
 refine (y1.wp (B := w.heap.size) hx2 (hf1.mono hF2) hW2 ⟨hsz2, hm1.fut hF2⟩ ?_ : (rc.body).wpIn (Fn (some L.blk)) m P _ _ _)
 rintro e a3 w3 ⟨prot3, σ3, β3, hp3, hF3, hW3, hm3, hER⟩
 split at hr
 rotate_left
 ·cases hr
 rename_i j hj
 simp only at hr
 split at hr
 rotate_left
 ·cases hr
 rename_i ps2 asg2 body2 s2' t2 p2 ho2
 cases hr
 have hL3 := hF3.loc (hF2.loc hL1 hbox) hbox
 obtain ⟨L3, hL3', hO3⟩ := hW3.obj _ _ ho2
 rw [hL3] at hL3'; cases hL3'
 obtain ⟨_, _, rc3, hrc3, hR3⟩ := hO3
 obtain ⟨hF4, hW4⟩ := hW3.setLoop ho2 hL3 hrc3 { rc3 with state := if j.isNone then .ready else .done, pending := j.map Ed } (st' := if j.isNone then .ready else .done) (pend' := j) ⟨hR3.1, hR3.2.1, hR3.2.2.1, hR3.2.2.2.1, hR3.2.2.2.2.1, rfl, rfl⟩
 have hend := run_endRound (P := P) (j.map Ed) hrc3
 have hin : (j.map Ed).isNone = j.isNone := by grind
 rw [hin] at hend
 have hFall : Fut prot σ β w σ3 β3 (w3.putObj L.blk (.loop { rc3 with state := if j.isNone then .ready else .done, pending := j.map Ed })) :=
  hF1.trans (((hF2.trans ((hF3.trans (hF4.weaken hp3)))).weaken hp1))
 have hpost : rn P prot σ β w (.ret (.cv (.sc (.bool j.isNone)))) (h2.set id (.loop ps2 asg2 body2 s2' (if j.isNone then .ready else .done) j)) (.returned (.bool j.isNone)) (w3.putObj L.blk (.loop { rc3 with state := if j.isNone then .ready else .done, pending := j.map Ed })) :=
  ⟨σ3, β3, _, hFall, hW4.weaken fun b hb => hp3 b (hp1 b hb), .inl ⟨_, rfl, rfl, .sc rfl⟩⟩
 cases out <;> simp only [adc, Option.some.injEq] at hj
 ·obtain ⟨rfl, _⟩ := hER; subst hj; exact ⟨_, _, hend, hpost⟩
 ·obtain ⟨rfl, _⟩ := hER; subst hj; exact ⟨_, _, hend, hpost⟩
 ·obtain ⟨rfl, _⟩ := hER; subst hj; exact ⟨_, _, hend, hpost⟩
 ·obtain ⟨rfl, _⟩ := hER; subst hj; exact ⟨_, _, hend, hpost⟩
 ·cases hj
theorem Mv {call : bj} (hcall : CallsOK P call) (hm : P.follows .mixedOrders = true) {n f : Nat} {fn : FnIR} {fnc : Func} {refs : List Nat} {owns : List (Nat × Nat)} (h1 : P.funcs[f]? = some fnc) (h2 : (fnc.name == "runtime.NumGoroutine") = false) (h3 : Qs P refs owns fnc = some fn)
    {args : List VV} {h : ae} {r : CRes} {h' : ae} (hr : xe (exec call n) fn args h = some (r, h')) {rargs : Array Value} (hl : rargs.size = args.length)
    (hrel : ∀ (i : Nat) (v : Value) (u : VV), rargs[i]? = some v → args[i]? = some u → VR σ β v u) (hw : WR P prot σ β h w) : Calls P f rargs w (rn P prot σ β w r h') := by
  unfold Qs at h3
  split at h3
  rotate_left
  · cases h3
  rename_i c hb
  split at h3
  rotate_left
  · cases h3
  rename_i b rs hcb hcr
  cases h3
  have hFR : FR σ β (rargs ++ Array.replicate (fnc.ntmps - rargs.size) undef) (args ++ List.replicate (fnc.ntmps - args.length) .undef) := by
    refine ⟨by simp [hl], fun i v u hv hu => ?_⟩
    rw [List.getElem?_append] at hu
    rw [Array.getElem?_append, hl] at hv
    split at hv
    · grind
    · rename_i hlt
      rw [if_neg hlt, List.getElem?_replicate] at hu
      split at hu
      · cases hu; exact .undef _
      · cases hu
  have hD := (gz (ro := none) (m := 0) hcall hm n c b (.inl rfl) hcb).1
  refine callsIn_wide.1 (callsIn_of_wp_marks (F := Fn none) (n := 0) h1 hb trivial ?_)
  unfold xe at hr
  split at hr
  · cases hr
  simp only at hr
  have hB : w.heap.size ≤ w.heap.size ∧ jb w.heap.size prot [] w := ⟨Nat.le_refl _, jb.nil⟩
  -- the world when the marks are taken up
  have futs : ∀ {σ' : gq} {β' : Nat → Option Loc} {w' w2 : World}, Fut prot σ β w σ' β' w' → w2.os = w'.os → w2.tape = w'.tape → w2.output = w'.output → w2.heap.size = w'.heap.size → (∀ b, b < w.heap.size → w2.heap[b]? = w'.heap[b]?) → Fut prot σ β w σ' β' w2 :=
    fun hF e1 e2 e3 e4 e5 => ⟨e1.trans hF.os, e2.trans hF.tape, e3.trans hF.output, by rw [e4]; exact hF.size, fun b hb hs => by rw [e5 b hs]; exact hF.prot b hb hs, hF.sig, hF.bet, hF.news, hF.newb⟩
  have done : ∀ (out : Out) (st : St), (out = .norm ∨ out = .ret) → exec call n b ⟨args ++ List.replicate (fnc.ntmps - args.length) .undef, h⟩ = some (out, st) → (ke st rs).map (fun vs => (CRes.ret (afr vs), st.h)) = some (r, h') →
      c.wpIn (Fn none) 0 P (bodyPostM (Fn none) 0 P fnc (rn P prot σ β w r h')) { tmps := rargs ++ Array.replicate (fnc.ntmps - rargs.size) undef, defers := [] } w := by
    intro out st ho hx hres
    obtain ⟨vs, hvs, hh⟩ := map_some hres
    cases hh
    obtain ⟨s1, h1'⟩ := st
    refine hD.wp (a := { tmps := rargs ++ Array.replicate (fnc.ntmps - rargs.size) undef, defers := [] }) hx hFR hw hB ?_
    rintro e a' w' ⟨prot', σ', β', hp, hF, hW, ⟨Ds, hds, hnd, hDs⟩, hER⟩
    have hff : (e = .normal ∨ e = .ret) ∧ FR σ' β' a'.tmps s1 := by
      rcases ho with rfl | rfl <;> simp only [ER] at hER
      · grind
      grind
    have leave : LeavesInM (Fn none) 0 P fnc a'.tmps (rn P prot σ β w (.ret (afr vs)) h1') a'.defers .returning w' := by
      rw [hds]
      refine qm (B := w.heap.size) (by grind) Ds prot' w' hnd hDs hW fun prot2 w2 e1 e2 e3 e4 e5 e6 hW2 => ?_
      obtain ⟨xs, hrun, hlen, hxr⟩ := aea hcr hff.2 hW2 hvs
      have hresult : ∃ v, (results fnc a'.tmps).run P w2 = .ok v w2 ∧ VR σ' β' v (afr vs) := by
        have hm : (fnc.results.mapM (fun | .tmp t => pure (a'.tmps.getD t undef) | .cell b t => do loadVar t (← asAddr (a'.tmps.getD b undef))) : Sem (Array Value)).run P w2 = .ok xs.toArray w2 := by
          rw [Array.mapM_eq_mapM_toList]
          simp_all
        have hrr : (results fnc a'.tmps).run P w2 = .ok (if h : xs.toArray.size = 1 then xs.toArray[0] else .tuple xs.toArray) w2 := by
          unfold results
          exact ac hm
        match vs, xs, hlen, hxr, hrr with
        | [v], [x], _, hxr, hrr => exact ⟨x, hrr, hxr 0 x v rfl rfl⟩
        | [], [], _, hxr, hrr => exact ⟨.tuple #[], hrr, .tup #[] [] rfl (fun i v c h => by simp at h)⟩
        | v1 :: v2 :: vs, x1 :: x2 :: xs, hlen, hxr, hrr =>
          refine ⟨.tuple (x1 :: x2 :: xs).toArray, ?_, .tup _ _ (by omega) (fun i v c hv hc => hxr i v c (by grind) hc)⟩
          grind
      obtain ⟨v, hv1, hv2⟩ := hresult
      exact ⟨v, hv1, σ', β', v, futs hF e1 e2 e3 e4 e5, hW2.weaken fun b hb => e6 b (hw.pr b hb) (hp b hb), .inl ⟨_, rfl, rfl, hv2⟩⟩
    rcases hff.1 with rfl | rfl
    · exact leave
    · exact leave
  split at hr
  · grind
  · grind
  · rename_i v st hx
    cases hr
    obtain ⟨s1, h1'⟩ := st
    refine hD.wp (a := { tmps := rargs ++ Array.replicate (fnc.ntmps - rargs.size) undef, defers := [] }) hx hFR hw hB ?_
    rintro e a' w' ⟨prot', σ', β', hp, hF, hW, ⟨Ds, hds, hnd, hDs⟩, rv, rfl, hV⟩
    show LeavesInM (Fn none) 0 P fnc a'.tmps (rn P prot σ β w (.pan v) h1') a'.defers (.panicking [{ v := rv, recovered := false }]) w'
    rw [hds]
    refine qm (B := w.heap.size) (by grind) Ds prot' w' hnd hDs hW fun prot2 w2 e1 e2 e3 e4 e5 e6 hW2 => ?_
    exact ⟨σ', β', rv, futs hF e1 e2 e3 e4 e5, hW2.weaken fun b hb => e6 b (hw.pr b hb) (hp b hb), .inr ⟨v, rfl, rfl, hV⟩⟩
  · cases hr
theorem ud {F : Nat -> Option FnIR} (hT : Sw P F) : ∀ n, CallsOK P (ie F n)
 | 0 => ⟨fun f args h r _ hr => (by cases hr), fun f args h r h' _ hr => (by cases hr), fun id args h r h' hr => (by cases hr)⟩
 | n + 1 => by
  have ih := ud hT n
  refine ⟨fun f args h r hyb hr => ?_, fun f args h r h' hyb hr rargs prot σ β w hl hrel hw => ?_, fun id args h r h' hr rargs prot σ β w L hl hL hrel hw => ?_⟩
  ·simp only [ie] at hr
   split at hr
   ·rename_i fn hf
    rcases (hT.2 f fn hf).2 with ⟨fnc, refs, owns, h1, h2, h3⟩ | ⟨hN, _⟩
    rotate_left
    ·exact hN
    refine ⟨fnc, h1, h2, ?_⟩
    unfold Qs at h3
    grind
   grind
  ·simp only [ie] at hr
   split at hr
   rotate_left
   ·rw [if_neg (by omega)] at hr; cases hr
   rename_i fn hf
   rcases (hT.2 f fn hf).2 with ⟨fnc, refs, owns, h1, h2, h3⟩ | ⟨_, hN⟩
   rotate_left
   ·exact hN _ n args h r h' ih hr rargs prot σ β w hl hrel hw
   exact Mv ih hT.1 h1 h2 h3 hr hl hrel hw
  ·simp only [ie] at hr
   split at hr
   ·rename_i fn hf
    have := (hT.2 _ fn hf).1
    omega
   ·rw [if_pos (by omega), Nat.add_sub_cancel_left] at hr
    exact Lr ih hT.1 hr hl hL hrel hw
end Go.Vm
/-
 Vm: the machine without a measure: the limit of its runs (own work).
-/
namespace Go.Vm
open Go
def oj (c c' : bj) : Prop := ∀ f a h r, c f a h = some r -> c' f a h = some r
theorem oj.rfl (c : bj) : oj c c := fun _ _ _ _ h => h
theorem pq {c c' : bj} (hc : oj c c') {h : ae} {f : Nat} {p : Bool} {args : List VV} {r : CRes × ae}
  (hr : du c h f p args = some r) : du c' h f p args = some r := by
 unfold du at hr |-
 cases p with
 | false => simpa using hc _ _ _ _ (by grind)
 | true =>
  simp only [if_true] at hr |-
  cases hA : cf h args with
  | none => grind
  | some x =>
   obtain ⟨as, h1⟩ := x
   rw [hA] at hr
   simp only at hr |-
   cases hB : c f as [] with
   | none => grind
   | some y =>
    rw [hB] at hr
    rw [hc _ _ _ _ hB]
    exact hr
theorem Li {c c' : bj} (hc : oj c c') {h : ae} {f : Nat} {p : Bool} {args : List VV} {r : CRes × ae}
  (hr : jv c h f p args = some r) : jv c' h f p args = some r := by
 unfold jv at hr |-
 by_cases hf : f < Ar
 ·rw [if_pos hf] at hr |-; exact pq hc hr
 ·rw [if_neg hf] at hr |-
  unfold Cx at hr |-
  cases hA : du c h (f - Ar) true args with
  | none => grind
  | some x => rw [hA] at hr; rw [pq hc hA]; exact hr
theorem jh {c c' : bj} (hc : oj c c') {st : St} {o : Op1} {r : Out × St} (hr : dw c st o = some r) : dw c' st o = some r := by
 obtain ⟨g, d, i⟩ := o
 cases i with
 | call f p args =>
  simp only [dw] at hr |-
  cases hA : jv c st.h f p (args.map (ad st.s)) with
  | none => grind
  | some x => rw [hA] at hr; rw [Li hc hA]; exact hr
 | callv p x args =>
  simp only [dw] at hr |-
  cases hx : sr p (ad st.s x) with
  | none => grind
  | some y =>
  rw [hx] at hr
  obtain ⟨f, caps⟩ := y
  simp only at hr |-
  cases hA : du c st.h f p (args.map (ad st.s) ++ caps) with
  | none => grind
  | some x => rw [hA] at hr; rw [pq hc hA]; exact hr
 | inv tbl x args =>
  simp only [dw] at hr |-
  cases hx : Rt tbl (ad st.s x) with
  | none => grind
  | some y =>
  rw [hx] at hr
  obtain ⟨f, v⟩ := y
  simp only at hr |-
  cases hA : du c st.h f false (v :: args.map (ad st.s)) with
  | none => grind
  | some x => rw [hA] at hr; rw [pq hc hA]; exact hr
 | _ => exact hr
theorem nh {c c' : bj} (hc : oj c c') : ∀ (ops : List Op1) {st : St} {r : Out × St}, dj c ops st = some r -> dj c' ops st = some r
 | [], _, _, hr => hr
 | o :: l, st, r, hr => by
  simp only [dj] at hr |-
  cases hw : bm st.s o.g with
  | none => grind
  | some b =>
   rw [hw] at hr
   cases b with
   | false => exact nh hc l hr
   | true =>
    simp only at hr |-
    cases hs : dw c st o with
    | none => grind
    | some x =>
     rw [hs] at hr
     rw [jh hc hs]
     obtain ⟨o', s'⟩ := x
     cases o' <;> first | exact nh hc l hr | exact hr
abbrev Cks := List (Nat × Nat × (ae -> Prop))
def Yi (a b : Cks) : Prop := ∀ x ∈ b, ∃ y ∈ a, y.1 = x.1 /\ y.2.1 = x.2.1 /\ ∀ h, y.2.2 h -> x.2.2 h
theorem Yi.cons {a b : Cks} (h : Yi a b) {lo hi : Nat} {p q : ae -> Prop} (hpq : ∀ h, p h -> q h) : Yi ((lo, hi, p) :: a) ((lo, hi, q) :: b) := by
 intro x hx
 rcases List.mem_cons.mp hx with rfl | hx
 ·simp_all
 ·obtain ⟨y, hy, h1, h2, h3⟩ := h x hx
  grind
theorem io {c c' : bj} (hc : oj c c') : ∀ (ops : List (Op1 × Cl)) {hs : List ae} {ck ck' : Cks} {st : St} {st1 : St} {hs1 : List ae} {ck1 : Cks},
  bz c ops hs ck st = some (st1, hs1, ck1) -> Yi ck ck' -> ∃ ck1', bz c' ops hs ck' st = some (st1, hs1, ck1') /\ Yi ck1 ck1'
 | [], _, _, _, _, _, _, _, hr, hk => by
  simp only [bz, Option.some.injEq, Prod.mk.injEq] at hr |-
  grind
 | (o, cl) :: l, hs, ck, ck', st, st1, hs1, ck1, hr, hk => by
  simp only [bz] at hr |-
  cases hw : bm st.s o.g with
  | none => grind
  | some b =>
   rw [hw] at hr
   cases b with
   | false => exact io hc l hr hk
   | true =>
    simp only at hr |-
    cases hst : dw c st o with
    | none => grind
    | some x =>
     rw [hst] at hr
     rw [jh hc hst]
     obtain ⟨o', s'⟩ := x
     cases o' <;> try (simp only at hr; cases hr; done)
     cases cl with
     | p => exact io hc l hr hk
     | k => exact io hc l hr hk
     | r lo hi =>
      refine io hc l hr ?_
      by_cases hlh : lo = hi
      ·rw [if_pos hlh, if_pos hlh]; exact hk.cons fun _ h => h
      ·rw [if_neg hlh, if_neg hlh]; exact hk.cons fun h hh => jh hc hh
theorem He {c c' : bj} (hc : oj c c') {ops : List (Op1 × Cl)} {st : St} {r : Out × St} (hr : ix c ops st = some r) : ix c' ops st = some r := by
 unfold ix at hr |-
 cases hd : bz c ops [st.h] [] st with
 | none => grind
 | some x =>
  obtain ⟨st1, hs1, ck1⟩ := x
  rw [hd] at hr
  obtain ⟨ck', hd', hk⟩ := io hc ops hd (ck' := []) (fun x hx => by cases hx)
  rw [hd']
  simp only at hr |-
  split at hr
  ·rename_i hall
   rw [if_pos]
   ·exact hr
   ·intro x hx b hb1 hb2 h hh
    obtain ⟨y, hy, h1, h2, h3⟩ := hk x hx
    grind
  ·cases hr
theorem qx {b b' : St -> Option (Out × St)} (hb : ∀ st r, b st = some r -> b' st = some r) : ∀ {n m : Nat} (_ : n <= m) {st : St} {r : Out × St}, zb b n st = some r -> zb b' m st = some r
 | 0, _, _, _, _, hr => by cases hr
 | n + 1, 0, hnm, _, _, _ => by omega
 | n + 1, m + 1, hnm, st, r, hr => by
  simp only [zb] at hr |-
  cases hs : b st with
  | none => grind
  | some x =>
   rw [hs] at hr
   rw [hb _ _ hs]
   obtain ⟨o', s'⟩ := x
   cases o' <;> first | exact qx hb (by omega) hr | exact hr
theorem ju {f f' : Nat -> St -> Option (Out × St)} {has : Nat -> Bool} (hf : ∀ l st r, f l st = some r -> f' l st = some r) :
  ∀ {n m : Nat} (_ : n <= m) {x x' : Option (Out × St)} (_ : ∀ r, x = some r -> x' = some r) {r : Out × St}, bt f has n x = some r -> bt f' has m x' = some r
 | 0, m, _, x, x', hx, r, hr => by
  cases x with
  | none => simp [bt] at hr
  | some y =>
   rw [hx _ rfl]
   obtain ⟨o, s⟩ := y
   cases o with
   | goto l =>
    simp only [bt] at hr
    split at hr
    ·cases hr
    ·rename_i hh
     cases m with
     | zero => simp only [bt]; grind
     | succ m => simp only [bt]; grind
   | _ => cases m <;> exact hr
 | n + 1, 0, hnm, _, _, _, _, _ => by omega
 | n + 1, m + 1, hnm, x, x', hx, r, hr => by
  cases x with
  | none => simp [bt] at hr
  | some y =>
   rw [hx _ rfl]
   obtain ⟨o, s⟩ := y
   cases o with
   | goto l =>
    simp only [bt] at hr |-
    split at hr
    ·rename_i hh
     rw [if_pos hh]
     exact ju hf (by omega) (hf l s) hr
    grind
   | _ => exact hr
theorem Im {c c' : bj} (hc : oj c c') {x : VV} {ps : List Nat} {asg body : IR} {st : St} {r : Out × St} (hr : mq c x ps asg body st = some r) : mq c' x ps asg body st = some r := by
 unfold mq at hr |-
 split at hr
 rotate_left
 ·cases hr
 rename_i f caps
 split at hr
 rotate_left
 ·cases hr
 rename_i hyb
 rw [if_pos hyb]
 cases hA : c f (.yield st.h.length :: caps) (st.h ++ [.loop ps asg body st.s .ready none]) with
 | none => grind
 | some y =>
  rw [hA] at hr
  rw [hc _ _ _ _ hA]; exact hr
theorem Kp {ex ex' : IR -> St -> Option (Out × St)} (he : ∀ ir st r, ex ir st = some r -> ex' ir st = some r) {id : Nat} {args : List VV} {h : ae} {r : CRes × ae} (hr : rq ex id args h = some r) : rq ex' id args h = some r := by
 unfold rq at hr |-
 split at hr
 rotate_left
 ·cases hr
 rename_i ps asg body s st0 p0 ho
 split at hr
 rotate_left
 ·cases hr
 grind
theorem vg {c c' : bj} (hc : oj c c') {n m : Nat} (hnm : n <= m) : ∀ (ir : IR),
  (∀ {st : St} {r : Out × St}, exec c n ir st = some r -> exec c' m ir st = some r) /\ (∀ {l : Nat} {st : St} {r : Out × St}, cg c n ir l st = some r -> cg c' m ir l st = some r) := by
 intro ir
 induction ir with
 | skip => exact ⟨fun h => by simpa only [exec] using h, fun h => by simp [cg] at h⟩
 | reg ops => exact ⟨fun h => by simp only [exec] at h |-; exact nh hc _ h, fun h => by simp [cg] at h⟩
 | draw ops => exact ⟨fun h => by simp only [exec] at h |-; exact He hc h, fun h => by simp [cg] at h⟩
 | seq a b iha ihb =>
  refine ⟨fun {st r} h => ?_, fun {l st r} h => ?_⟩
  ·simp only [exec] at h |-
   grind
  ·simp only [cg] at h |-
   grind
 | cond e a b iha ihb =>
  refine ⟨fun {st r} h => ?_, fun h => by simp [cg] at h⟩
  simp only [exec] at h |-
  grind
 | block id b ihb =>
  refine ⟨fun {st r} h => ?_, fun h => by simp [cg] at h⟩
  simp only [exec] at h |-
  grind
 | loop b ihb =>
  refine ⟨fun {st r} h => ?_, fun h => by simp [cg] at h⟩
  simp only [exec] at h |-
  exact qx (fun _ _ h => ihb.1 h) hnm h
 | exit id => exact ⟨fun h => by simpa only [exec] using h, fun h => by simp [cg] at h⟩
 | scope b ihb =>
  refine ⟨fun {st r} h => ?_, fun h => by simp [cg] at h⟩
  simp only [exec] at h |-
  exact ju (fun _ _ _ h => ihb.2 h) hnm (fun _ h => ihb.1 h) h
 | label l => exact ⟨fun h => by simpa only [exec] using h, fun h => by simpa only [cg] using h⟩
 | goto l => exact ⟨fun h => by simpa only [exec] using h, fun h => by simp [cg] at h⟩
 | ret => exact ⟨fun h => by simpa only [exec] using h, fun h => by simp [cg] at h⟩
 | rangeF x ps asg body _ _ => exact ⟨fun h => by simp only [exec] at h |-; exact Im hc h, fun h => by simp [cg] at h⟩
theorem Rg {ex ex' : IR -> St -> Option (Out × St)} {fn : FnIR} {args : List VV} {h : ae} {r : CRes × ae} (he : ∀ st r, ex fn.body st = some r -> ex' fn.body st = some r)
  (hr : xe ex fn args h = some r) : xe ex' fn args h = some r := by
 unfold xe at hr |-
 grind
theorem Ek (F : Nat -> Option FnIR) : ∀ n, oj (ie F n) (ie F (n + 1))
 | 0 => fun _ _ _ _ h => by cases h
 | n + 1 => fun f a h r hr => by
  have ih := Ek F n
  simp only [ie] at hr |-
  cases hf : F f with
  | none =>
   rw [hf] at hr
   simp only at hr |-
   split at hr
   ·rename_i hy
    rw [if_pos hy]
    exact Kp (fun ir st r hh => (vg ih (Nat.le_succ n) ir).1 hh) hr
   ·cases hr
  | some fn =>
   rw [hf] at hr
   exact Rg (fun st r hh => (vg ih (Nat.le_succ n) fn.body).1 hh) hr
theorem gh (F : Nat -> Option FnIR) {n m : Nat} (h : n <= m) : oj (ie F n) (ie F m) := by
 induction h with
 | refl => exact oj.rfl _
 | step _ ih => exact fun f a h r hr => Ek F _ f a h r (ih f a h r hr)
open Classical in
noncomputable def lim {α : Type} (f : Nat -> Option α) : Option α := if h : ∃ r, ∃ n, f n = some r then some (Classical.choose h) else none
theorem At {α : Type} {f : Nat -> Option α} (hf : ∀ n m r, n <= m -> f n = some r -> f m = some r) {r : α} : lim f = some r ↔ ∃ n, f n = some r := by
 unfold lim
 constructor
 ·intro h
  split at h
  ·grind
  ·cases h
 ·rintro ⟨n, hn⟩
  rw [dif_pos ⟨r, n, hn⟩]
  grind
noncomputable def call (F : Nat -> Option FnIR) : bj := fun f a h => lim fun n => ie F n f a h
theorem pv {F : Nat -> Option FnIR} {f : Nat} {a : List VV} {h : ae} {r : CRes × ae} : call F f a h = some r ↔ ∃ n, ie F n f a h = some r :=
 At fun _ _ _ hnm hr => gh F hnm _ _ _ _ hr
mutual
noncomputable def dt (F : Nat -> Option FnIR) : IR -> St -> Option (Out × St)
 | .skip, st => some (.norm, st)
 | .reg ops, st => dj (call F) ops st
 | .draw ops, st => ix (call F) ops st
 | .seq a b, st => match dt F a st with
  | some (.norm, st1) => dt F b st1
  | x => x
 | .cond c a b, st => match ad st.s c with
  | .cv (.sc (.bool t)) => if t then dt F a st else dt F b st
  | _ => none
 | .block id b, st => match dt F b st with
  | some (.exit id', st1) => if id' = id then some (.norm, st1) else some (.exit id', st1)
  | x => x
 | .loop b, st => lim fun n => zb (fun st => dt F b st) n st
 | .exit id, st => some (.exit id, st)
 | .scope b, st => lim fun n => bt (fun l st => bv F b l st) (fun l => (od b l).isSome) n (dt F b st)
 | .label _, st => some (.norm, st)
 | .goto l, st => some (.goto l, st)
 | .ret, st => some (.ret, st)
 | .rangeF x ps asg body, st => mq (call F) (ad st.s x) ps asg body st
noncomputable def bv (F : Nat -> Option FnIR) : IR -> Nat -> St -> Option (Out × St)
 | .seq a b, l, st => match od a l with
  | some _ => match bv F a l st with
   | some (.norm, st1) => dt F b st1
   | x => x
  | none => bv F b l st
 | .label l', l, st => if l' == l then some (.norm, st) else none
 | _, _, _ => none
end
theorem Sh (F : Nat → Option FnIR) (b : IR) (st : St) : dt F (.loop b) st = match dt F b st with
    | some (.norm, st1) => dt F (.loop b) st1
    | x => x := by
  have hm : ∀ st : St, ∀ n m r, n ≤ m → zb (fun st => dt F b st) n st = some r → zb (fun st => dt F b st) m st = some r :=
    fun st n m r hnm => qx (fun _ _ h => h) hnm
  apply Option.ext
  intro r
  simp only [dt]
  rw [At (hm st)]
  cases hs : dt F b st with
  | none =>
    constructor
    · rintro ⟨n, hn⟩
      cases n with
      | zero => cases hn
      | succ n => simp only [zb, hs] at hn; cases hn
    grind
  | some x =>
    obtain ⟨o, s⟩ := x
    constructor
    · rintro ⟨n, hn⟩
      cases n with
      | zero => cases hn
      | succ n =>
        simp only [zb, hs] at hn
        cases o <;> first | exact (At (hm s)).mpr ⟨n, hn⟩ | exact hn
    · intro h
      cases o with
      | norm =>
        obtain ⟨n, hn⟩ := (At (hm s)).mp h
        exact ⟨n + 1, by simp only [zb, hs]; exact hn⟩
      | _ => exact ⟨1, by simp only [zb, hs]; exact h⟩
theorem sy {F : Nat -> Option FnIR} {h : ae} {f : Nat} {p : Bool} {args : List VV} {r : CRes × ae} (hr : du (call F) h f p args = some r) : ∃ n, du (ie F n) h f p args = some r := by
 unfold du at hr |-
 cases p with
 | false =>
  simp only [Bool.false_eq_true, if_false] at hr |-
  exact pv.mp hr
 | true =>
  simp only [if_true] at hr |-
  cases hA : cf h args with
  | none => grind
  | some x =>
   obtain ⟨as, h1⟩ := x
   rw [hA] at hr
   simp only at hr |-
   cases hB : call F f as [] with
   | none => grind
   | some y =>
    rw [hB] at hr
    obtain ⟨n, hn⟩ := pv.mp hB
    grind
theorem Qi {F : Nat -> Option FnIR} {h : ae} {f : Nat} {p : Bool} {args : List VV} {r : CRes × ae} (hr : jv (call F) h f p args = some r) : ∃ n, jv (ie F n) h f p args = some r := by
 unfold jv at hr |-
 by_cases hf : f < Ar
 ·rw [if_pos hf] at hr; simp only [if_pos hf]; exact sy hr
 ·rw [if_neg hf] at hr
  simp only [if_neg hf]
  unfold Cx at hr |-
  cases hA : du (call F) h (f - Ar) true args with
  | none => grind
  | some x =>
   rw [hA] at hr
   obtain ⟨n, hn⟩ := sy hA
   grind
theorem Br {F : Nat -> Option FnIR} {st : St} {o : Op1} {r : Out × St} (hr : dw (call F) st o = some r) : ∃ n, dw (ie F n) st o = some r := by
 obtain ⟨g, d, i⟩ := o
 cases i with
 | call f p args =>
  simp only [dw] at hr |-
  cases hA : jv (call F) st.h f p (args.map (ad st.s)) with
  | none => grind
  | some x =>
   rw [hA] at hr
   obtain ⟨n, hn⟩ := Qi hA
   grind
 | callv p x args =>
  simp only [dw] at hr |-
  cases hx : sr p (ad st.s x) with
  | none => grind
  | some y =>
  rw [hx] at hr
  obtain ⟨f, caps⟩ := y
  simp only at hr |-
  cases hA : du (call F) st.h f p (args.map (ad st.s) ++ caps) with
  | none => grind
  | some x =>
   rw [hA] at hr
   obtain ⟨n, hn⟩ := sy hA
   grind
 | inv tbl x args =>
  simp only [dw] at hr |-
  cases hx : Rt tbl (ad st.s x) with
  | none => grind
  | some y =>
  rw [hx] at hr
  obtain ⟨f, v⟩ := y
  simp only at hr |-
  cases hA : du (call F) st.h f false (v :: args.map (ad st.s)) with
  | none => grind
  | some x =>
   rw [hA] at hr
   obtain ⟨n, hn⟩ := sy hA
   grind
 | _ => exact ⟨0, hr⟩
theorem Mm {F : Nat -> Option FnIR} {x : VV} {ps : List Nat} {asg body : IR} {st : St} {r : Out × St} (hr : mq (call F) x ps asg body st = some r) : ∃ n, mq (ie F n) x ps asg body st = some r := by
 unfold mq at hr |-
 split at hr
 rotate_left
 ·cases hr
 rename_i f caps
 split at hr
 rotate_left
 ·cases hr
 rename_i hyb
 cases hA : call F f (.yield st.h.length :: caps) (st.h ++ [.loop ps asg body st.s .ready none]) with
 | none => grind
 | some y =>
  rw [hA] at hr
  obtain ⟨n, hn⟩ := pv.mp hA
  grind
theorem ux {F : Nat -> Option FnIR} : ∀ (ops : List Op1) {st : St} {r : Out × St}, dj (call F) ops st = some r -> ∃ n, dj (ie F n) ops st = some r
 | [], _, _, hr => ⟨0, hr⟩
 | o :: l, st, r, hr => by
  simp only [dj] at hr |-
  cases hw : bm st.s o.g with
  | none => grind
  | some b =>
   rw [hw] at hr
   cases b with
   | false => exact ux l hr
   | true =>
    simp only at hr |-
    cases hs : dw (call F) st o with
    | none => grind
    | some x =>
     rw [hs] at hr
     obtain ⟨n, hn⟩ := Br hs
     obtain ⟨o', s'⟩ := x
     cases o' with
     | norm =>
      obtain ⟨m, hm⟩ := ux l hr
      refine ⟨max n m, ?_⟩
      rw [jh (gh F (Nat.le_max_left n m)) hn]
      exact nh (gh F (Nat.le_max_right n m)) l hm
     | _ => grind
def Sj (hs : List ae) (ck : Cks) : Prop := ∀ x ∈ ck, ∀ b, x.1 <= b -> b < x.2.1 -> ∀ h, hs[b]? = some h -> x.2.2 h
theorem Sj.le {hs : List ae} {a b : Cks} (h : Sj hs a) (hl : Yi a b) : Sj hs b := by
 intro x hx i h1 h2 hp hh
 obtain ⟨y, hy, e1, e2, e3⟩ := hl x hx
 exact e3 hp (h y hy i (by omega) (by omega) hp hh)
theorem Sj.cons {hs : List ae} {a : Cks} (h : Sj hs a) {lo hi : Nat} {p : ae -> Prop} (hp : ∀ b, lo <= b -> b < hi -> ∀ h, hs[b]? = some h -> p h) : Sj hs ((lo, hi, p) :: a) := by
 intro x hx
 rcases List.mem_cons.mp hx with rfl | hx
 ·exact hp
 ·exact h x hx
theorem Yi.refl (a : Cks) : Yi a a := fun x hx => ⟨x, hx, rfl, rfl, fun _ h => h⟩
theorem mf {c : bj} : ∀ (ops : List (Op1 × Cl)) {hs : List ae} {ck : Cks} {st : St} {st1 : St} {hs1 : List ae} {ck1 : Cks},
  bz c ops hs ck st = some (st1, hs1, ck1) -> ∀ x ∈ ck, x ∈ ck1
 | [], _, _, _, _, _, _, hr => by
  simp only [bz, Option.some.injEq, Prod.mk.injEq] at hr
  grind
 | (o, cl) :: l, hs, ck, st, st1, hs1, ck1, hr => by
  simp only [bz] at hr
  cases hw : bm st.s o.g with
  | none => grind
  | some b =>
   rw [hw] at hr
   cases b with
   | false => exact mf l hr
   | true =>
    simp only at hr
    cases hst : dw c st o with
    | none => grind
    | some x =>
     rw [hst] at hr
     obtain ⟨o', s'⟩ := x
     cases o' <;> try (simp only at hr; cases hr; done)
     cases cl with
     | p => exact mf l hr
     | k => exact mf l hr
     | r lo hi =>
      intro x hx
      refine mf l hr x ?_
      grind
theorem ab5 {p : Nat -> Nat -> Prop} (hm : ∀ n m b, n <= m -> p n b -> p m b) : ∀ (N : Nat), (∀ b < N, ∃ n, p n b) -> ∃ n, ∀ b < N, p n b
 | 0, _ => ⟨0, fun b hb => by omega⟩
 | N + 1, h => by
  obtain ⟨n, hn⟩ := ab5 hm N fun b hb => h b (by omega)
  obtain ⟨m, hm'⟩ := h N (by omega)
  refine ⟨max n m, fun b hb => ?_⟩
  by_cases hbN : b = N
  ·grind
  ·exact hm _ _ _ (Nat.le_max_left _ _) (hn b (by omega))
theorem uw {F : Nat → Option FnIR} : ∀ (ops : List (Op1 × Cl)) {hs : List ae} {ck ck' : Cks} {st : St} {st1 : St} {hs1 : List ae} {ck1 : Cks},
    bz (call F) ops hs ck st = some (st1, hs1, ck1) → Sj hs1 ck1 → Sj hs1 ck' → ∃ n ck1', bz (ie F n) ops hs ck' st = some (st1, hs1, ck1') ∧ Sj hs1 ck1'
  | [], _, _, _, _, _, _, _, hr, _, hk' => by
    simp only [bz, Option.some.injEq, Prod.mk.injEq] at hr ⊢
    simp_all
  | (o, cl) :: l, hs, ck, ck', st, st1, hs1, ck1, hr, hk, hk' => by
    simp only [bz] at hr ⊢
    cases hw : bm st.s o.g with
    | none => grind
    | some b =>
      rw [hw] at hr
      cases b with
      | false => exact uw l hr hk hk'
      | true =>
        simp only at hr ⊢
        cases hst : dw (call F) st o with
        | none => grind
        | some x =>
          rw [hst] at hr
          obtain ⟨n1, hn1⟩ := Br hst
          obtain ⟨o', s'⟩ := x
          cases o' <;> try (simp only at hr; cases hr; done)
          simp only at hr
          have fin : ∀ {hs : List ae} {ck2 : Cks} {st2 : St}, bz (call F) l hs ck2 st2 = some (st1, hs1, ck1) → ∀ {ck3 : Cks}, Sj hs1 ck3 →
              ∃ n ck1', dw (ie F n) st o = some (Out.norm, s') ∧ bz (ie F n) l hs ck3 st2 = some (st1, hs1, ck1') ∧ Sj hs1 ck1' := by
            intro hs ck2 st2 hd ck3 hk3
            obtain ⟨n2, c2, hn2, hc2⟩ := uw l hd hk hk3
            obtain ⟨c3, hd3, hc3⟩ := io (gh F (Nat.le_max_right n1 n2)) l hn2 (Yi.refl _)
            exact ⟨max n1 n2, c3, jh (gh F (Nat.le_max_left n1 n2)) hn1, hd3, hc2.le hc3⟩
          cases cl with
          | p =>
            grind
          | k =>
            grind
          | r lo hi =>
            by_cases hlh : lo = hi
            · simp only [if_pos hlh] at hr ⊢
              have hin := hk _ (mf l hr _ List.mem_cons_self)
              obtain ⟨n, c1, h1, h2, h3⟩ := fin hr (hk'.cons hin)
              grind
            · simp only [if_neg hlh] at hr ⊢
              have hin := hk _ (mf l hr _ List.mem_cons_self)
              obtain ⟨n0, hn0⟩ := ab5 (p := fun n b => lo ≤ b → b < hi + 1 → ∀ h, hs1[b]? = some h → adu (ie F n) st o h s'.s)
                (fun n m b hnm h a1 a2 h' hh => jh (gh F hnm) (h a1 a2 h' hh)) hs1.length (fun b hb => by
                  by_cases hr2 : lo ≤ b ∧ b < hi + 1
                  · obtain ⟨n, hn⟩ := Br (hin b hr2.1 hr2.2 (hs1[b]'hb) (List.getElem?_eq_getElem hb))
                    refine ⟨n, fun _ _ h hh => ?_⟩
                    rw [List.getElem?_eq_getElem hb] at hh
                    cases hh
                    exact hn
                  · exact ⟨0, fun a1 a2 => absurd ⟨a1, a2⟩ hr2⟩)
              have hck : Sj hs1 ((lo, hi + 1, fun h => adu (ie F n0) st o h s'.s) :: ck') := hk'.cons fun b a1 a2 h hh =>
                hn0 b (by
                  grind) a1 a2 h hh
              obtain ⟨n, c1, h1, h2, h3⟩ := fin hr hck
              obtain ⟨c2, h4, h5⟩ := io (gh F (Nat.le_max_left n n0)) l h2
                (ck' := (lo, hi + 1, fun h => adu (ie F (max n n0)) st o h s'.s) :: ck') ((Yi.refl _).cons fun h hh => jh (gh F (Nat.le_max_right n n0)) hh)
              exact ⟨max n n0, c2, by rw [jh (gh F (Nat.le_max_left n n0)) h1]; exact h4, h3.le h5⟩
theorem Hy {F : Nat -> Option FnIR} {ops : List (Op1 × Cl)} {st : St} {r : Out × St} (hr : ix (call F) ops st = some r) : ∃ n, ix (ie F n) ops st = some r := by
 unfold ix at hr |-
 cases hd : bz (call F) ops [st.h] [] st with
 | none => grind
 | some x =>
  obtain ⟨st1, hs1, ck1⟩ := x
  rw [hd] at hr
  simp only at hr
  split at hr
  ·rename_i hall
   obtain ⟨n, c1, h1, h2⟩ := uw ops hd hall (ck' := []) (fun x hx => by cases hx)
   refine ⟨n, ?_⟩
   rw [h1]
   simp only
   rw [if_pos (show ∀ x ∈ c1, ∀ b, x.1 <= b -> b < x.2.1 -> ∀ h, hs1[b]? = some h -> x.2.2 h from h2)]
   exact hr
  ·cases hr
theorem Ny {b : St -> Option (Out × St)} {bn : Nat -> St -> Option (Out × St)} (hm : ∀ n m st r, n <= m -> bn n st = some r -> bn m st = some r) (hb : ∀ st r, b st = some r -> ∃ n, bn n st = some r) :
  ∀ {k : Nat} {st : St} {r : Out × St}, zb b k st = some r -> ∃ n, zb (bn n) n st = some r
 | 0, _, _, hr => by cases hr
 | k + 1, st, r, hr => by
  simp only [zb] at hr
  cases hs : b st with
  | none => grind
  | some x =>
   rw [hs] at hr
   obtain ⟨n1, hn1⟩ := hb _ _ hs
   obtain ⟨o', s'⟩ := x
   cases o' with
   | norm =>
    obtain ⟨n2, hn2⟩ := Ny hm hb hr
    refine ⟨max n1 n2 + 1, ?_⟩
    simp only [zb]
    rw [hm _ _ _ _ (by omega) hn1]
    exact qx (fun st r h => hm _ _ _ _ (by omega) h) (by omega) hn2
   | _ => exact ⟨n1 + 1, by simp only [zb]; grind⟩
theorem jx {f : Nat -> St -> Option (Out × St)} {has : Nat -> Bool} {n : Nat} {y : Out × St} (h : ∀ l s, y = (.goto l, s) -> has l = false) : bt f has n (some y) = some y := by
 obtain ⟨o, s⟩ := y
 cases o with
 | goto l =>
  have := h l s rfl
  cases n <;> simp [bt, this]
 | _ => cases n <;> rfl
theorem Hv {f : Nat → St → Option (Out × St)} {fn : Nat → Nat → St → Option (Out × St)} {has : Nat → Bool} (hm : ∀ n m l st r, n ≤ m → fn n l st = some r → fn m l st = some r)
    (hf : ∀ l st r, f l st = some r → ∃ n, fn n l st = some r) :
    ∀ {k : Nat} {x : Option (Out × St)} {xn : Nat → Option (Out × St)} (_ : ∀ n m r, n ≤ m → xn n = some r → xn m = some r) (_ : ∀ r, x = some r → ∃ n, xn n = some r) {r : Out × St},
      bt f has k x = some r → ∃ n, bt (fn n) has n (xn n) = some r := by
  intro k
  induction k with
  | zero =>
    intro x xn hxm hx r hr
    cases x with
    | none => simp [bt] at hr
    | some y =>
      obtain ⟨n, hn⟩ := hx _ rfl
      have hst : ∀ l s, y = (.goto l, s) → has l = false := by
        rintro l s rfl
        simp only [bt] at hr
        grind
      rw [jx hst] at hr
      exact ⟨n, by rw [hn, jx hst]; exact hr⟩
  | succ k ih =>
    intro x xn hxm hx r hr
    cases x with
    | none => simp [bt] at hr
    | some y =>
      obtain ⟨n, hn⟩ := hx _ rfl
      by_cases hst : ∀ l s, y = (.goto l, s) → has l = false
      · rw [jx hst] at hr
        exact ⟨n, by rw [hn, jx hst]; exact hr⟩
      · have : ∃ l s, y = (.goto l, s) ∧ has l = true := by
          grind
        obtain ⟨l, s, rfl, hl⟩ := this
        simp only [bt, hl, if_true] at hr
        obtain ⟨n2, hn2⟩ := ih (xn := fun n => fn n l s) (fun n m r hnm => hm n m l s r hnm) (hf l s) hr
        refine ⟨max n n2 + 1, ?_⟩
        rw [hxm _ _ _ (by omega) hn]
        simp only [bt, hl, if_true]
        exact ju (fun l st r h => hm _ _ _ _ _ (by omega) h) (by omega) (fun r h => hm _ _ _ _ _ (by omega) h) hn2
theorem kr (F : Nat -> Option FnIR) {n m : Nat} (h : n <= m) (ir : IR) {st : St} {r : Out × St} (hr : exec (ie F n) n ir st = some r) : exec (ie F m) m ir st = some r :=
 (vg (gh F h) h ir).1 hr
theorem tk (F : Nat -> Option FnIR) {n m : Nat} (h : n <= m) (ir : IR) {l : Nat} {st : St} {r : Out × St} (hr : cg (ie F n) n ir l st = some r) : cg (ie F m) m ir l st = some r :=
 (vg (gh F h) h ir).2 hr
theorem Aw {F : Nat -> Option FnIR} : ∀ (ir : IR),
  (∀ {st : St} {r : Out × St}, dt F ir st = some r -> ∃ n, exec (ie F n) n ir st = some r) /\
  (∀ {l : Nat} {st : St} {r : Out × St}, bv F ir l st = some r -> ∃ n, cg (ie F n) n ir l st = some r) := by
 intro ir
 induction ir with
 | skip => exact ⟨fun h => ⟨0, by simpa only [exec, dt] using h⟩, fun h => by simp [bv] at h⟩
 | reg ops => exact ⟨fun h => by simp only [exec, dt] at h |-; exact ux _ h, fun h => by simp [bv] at h⟩
 | draw ops => exact ⟨fun h => by simp only [exec, dt] at h |-; exact Hy h, fun h => by simp [bv] at h⟩
 | seq a b iha ihb =>
  refine ⟨fun {st r} h => ?_, fun {l st r} h => ?_⟩
  ·simp only [exec, dt] at h |-
   cases hs : dt F a st with
   | none => grind
   | some x =>
    rw [hs] at h
    obtain ⟨n1, hn1⟩ := iha.1 hs
    obtain ⟨o', s'⟩ := x
    cases o' with
    | norm =>
     obtain ⟨n2, hn2⟩ := ihb.1 h
     exact ⟨max n1 n2, by rw [kr F (Nat.le_max_left n1 n2) a hn1]; exact kr F (Nat.le_max_right n1 n2) b hn2⟩
    | _ => grind
  ·simp only [cg, bv] at h |-
   cases hf : od a l with
   | none => grind
   | some y =>
    rw [hf] at h
    simp only at h |-
    cases hs : bv F a l st with
    | none => grind
    | some x =>
     rw [hs] at h
     obtain ⟨n1, hn1⟩ := iha.2 hs
     obtain ⟨o', s'⟩ := x
     cases o' with
     | norm =>
      obtain ⟨n2, hn2⟩ := ihb.1 h
      exact ⟨max n1 n2, by rw [tk F (Nat.le_max_left n1 n2) a hn1]; exact kr F (Nat.le_max_right n1 n2) b hn2⟩
     | _ => grind
 | cond e a b iha ihb =>
  refine ⟨fun {st r} h => ?_, fun h => by simp [bv] at h⟩
  simp only [exec, dt] at h |-
  split at h
  ·rename_i t ht
   simp only [ht]
   grind
  ·cases h
 | block id b ihb =>
  refine ⟨fun {st r} h => ?_, fun h => by simp [bv] at h⟩
  simp only [exec, dt] at h |-
  grind
 | loop b ihb =>
  refine ⟨fun {st r} h => ?_, fun h => by simp [bv] at h⟩
  simp only [exec, dt] at h |-
  obtain ⟨k, hk⟩ := (At fun n m r hnm => qx (fun _ _ h => h) hnm).mp h
  exact Ny (b := fun st => dt F b st) (bn := fun n st => exec (ie F n) n b st) (fun n m st r hnm h => kr F hnm b h) (fun st r h => ihb.1 h) hk
 | exit id => exact ⟨fun h => ⟨0, by simpa only [exec, dt] using h⟩, fun h => by simp [bv] at h⟩
 | scope b ihb =>
  refine ⟨fun {st r} h => ?_, fun h => by simp [bv] at h⟩
  simp only [exec, dt] at h |-
  obtain ⟨k, hk⟩ := (At fun n m r hnm => ju (fun _ _ _ h => h) hnm (fun _ h => h)).mp h
  exact Hv (f := fun l st => bv F b l st) (fn := fun n l st => cg (ie F n) n b l st) (has := fun l => (od b l).isSome) (fun n m l st r hnm h => tk F hnm b h) (fun l st r h => ihb.2 h) (xn := fun n => exec (ie F n) n b st) (fun n m r hnm h => kr F hnm b h) (fun r h => ihb.1 h) hk
 | label l => exact ⟨fun h => ⟨0, by simpa only [exec, dt] using h⟩, fun h => ⟨0, by simpa only [cg, bv] using h⟩⟩
 | goto l => exact ⟨fun h => ⟨0, by simpa only [exec, dt] using h⟩, fun h => by simp [bv] at h⟩
 | ret => exact ⟨fun h => ⟨0, by simpa only [exec, dt] using h⟩, fun h => by simp [bv] at h⟩
 | rangeF x ps asg body _ _ => exact ⟨fun h => by simp only [exec, dt] at h |-; exact Mm h, fun h => by simp [bv] at h⟩
theorem Qj {F : Nat -> Option FnIR} {id : Nat} (hF : F (YB + id) = none) {a : List VV} {h : ae} {r : CRes × ae} (hr : rq (dt F) id a h = some r) : call F (YB + id) a h = some r := by
 suffices ∃ n, rq (exec (ie F n) n) id a h = some r by
  obtain ⟨n, hn⟩ := this
  refine pv.mpr ⟨n + 1, ?_⟩
  simp only [ie, hF]
  grind
 unfold rq at hr
 split at hr
 rotate_left
 ·cases hr
 rename_i ps asg body s st0 p0 ho
 split at hr
 rotate_left
 ·cases hr
 rename_i hlen
 split at hr
 rotate_left
 ·cases hr
 rename_i st1 hA
 split at hr
 rotate_left
 ·cases hr
 rename_i ps1 asg1 body1 s1 p1 ho1
 split at hr
 rotate_left
 ·cases hr
 rename_i out st2 hB
 obtain ⟨n1, hn1⟩ := (Aw asg).1 hA
 obtain ⟨n2, hn2⟩ := (Aw body).1 hB
 refine ⟨max n1 n2, ?_⟩
 unfold rq
 rw [ho]
 simp only [if_pos hlen]
 rw [kr F (Nat.le_max_left n1 n2) asg hn1]
 simp only [ho1]
 rw [kr F (Nat.le_max_right n1 n2) body hn2]
 exact hr
theorem adp {F : Nat -> Option FnIR} {f : Nat} {fn : FnIR} (hf : F f = some fn) {a : List VV} {h : ae} {r : CRes × ae} (hr : xe (dt F) fn a h = some r) : call F f a h = some r := by
 unfold xe at hr
 split at hr
 ·cases hr
 rename_i hb
 cases hs : dt F fn.body ⟨a ++ List.replicate (fn.nt - a.length) .undef, h⟩ with
 | none => grind
 | some x =>
  rw [hs] at hr
  obtain ⟨n, hn⟩ := (Aw fn.body).1 hs
  refine pv.mpr ⟨n + 1, ?_⟩
  simp only [ie, hf]
  unfold xe
  grind
end Go.Vm
/-
 Vm: what must hold ahead of a piece of code (own work).
-/
namespace Go.Vm
open Go
abbrev Pst := Out -> St -> Prop
def X (F : Nat -> Option FnIR) (ir : IR) (st : St) (Q : Pst) : Prop := ∃ o st', dt F ir st = some (o, st') /\ Q o st'
def XF (F : Nat -> Option FnIR) (ir : IR) (l : Nat) (st : St) (Q : Pst) : Prop := ∃ o st', bv F ir l st = some (o, st') /\ Q o st'
def XO (F : Nat -> Option FnIR) (ops : List Op1) (st : St) (Q : Pst) : Prop := ∃ o st', dj (call F) ops st = some (o, st') /\ Q o st'
def K (F : Nat -> Option FnIR) (b : IR) (Q : Pst) : Pst := fun o st => match o with
 | .norm => X F b st Q
 | o => Q o st
def B (id : Nat) (Q : Pst) : Pst := fun o st => match o with
 | .exit id' => if id' = id then Q .norm st else Q (.exit id') st
 | o => Q o st
section
variable {F : Nat -> Option FnIR}
theorem ic {α β : Type} {a : α} {b : β} {Q : α -> β -> Prop} : (∃ o st', some (a, b) = some (o, st') /\ Q o st') ↔ Q a b := by
 grind
theorem Ap {α β : Type} {Q : α -> β -> Prop} : (∃ o st', (none : Option (α × β)) = some (o, st') /\ Q o st') ↔ False := by
 grind
theorem akc {st : St} {Q : Pst} : X F .skip st Q ↔ Q .norm st := by unfold X; simp only [dt]; exact ic
theorem akq {id : Nat} {st : St} {Q : Pst} : X F (.exit id) st Q ↔ Q (.exit id) st := by unfold X; simp only [dt]; exact ic
theorem ac7 {l : Nat} {st : St} {Q : Pst} : X F (.label l) st Q ↔ Q .norm st := by unfold X; simp only [dt]; exact ic
theorem aiy {l : Nat} {st : St} {Q : Pst} : X F (.goto l) st Q ↔ Q (.goto l) st := by unfold X; simp only [dt]; exact ic
theorem alf {st : St} {Q : Pst} : X F .ret st Q ↔ Q .ret st := by unfold X; simp only [dt]; exact ic
theorem akk {ops : List Op1} {st : St} {Q : Pst} : X F (.reg ops) st Q ↔ XO F ops st Q := by unfold X XO; simp only [dt]
def KQ (g : St -> Option (Out × St)) (Q : Pst) : Pst := fun o st => match o with
 | .norm => ∃ o st', g st = some (o, st') /\ Q o st'
 | o => Q o st
theorem Ew {x : Option (Out × St)} {g : St -> Option (Out × St)} {Q : Pst} :
  (∃ o st', (match (motive := Option (Out × St) -> Option (Out × St)) x with | some (.norm, st1) => g st1 | x => x) = some (o, st') /\ Q o st') ↔
  (∃ o st', x = some (o, st') /\ KQ g Q o st') := by
 cases x with
 | none => grind
 | some y =>
  obtain ⟨o, s⟩ := y
  rw [ic (Q := KQ g Q)]
  cases o with
  | norm => exact Iff.rfl
  | _ => exact ic
theorem aez {a b : IR} {st : St} {Q : Pst} : X F (.seq a b) st Q ↔ X F a st (K F b Q) := by
 unfold X
 simp only [dt]
 exact Ew (g := fun st1 => dt F b st1)
theorem ba {b : IR} {st : St} {Q : Pst} : X F (.loop b) st Q ↔ X F b st (K F (.loop b) Q) := by
 unfold X
 rw [Sh]
 exact Ew (g := fun st1 => dt F (.loop b) st1)
theorem ad6 {id : Nat} {b : IR} {st : St} {Q : Pst} : X F (.block id b) st Q ↔ X F b st (B id Q) := by
 unfold X
 simp only [dt]
 cases hx : dt F b st with
 | none => grind
 | some y =>
  obtain ⟨o, s⟩ := y
  rw [ic (Q := B id Q)]
  cases o with
  | exit id' =>
   by_cases hid : id' = id
   ·subst hid
    simp only [B, if_true]; exact ic
   ·simp only [B, if_neg hid]; exact ic
  | _ => exact ic
theorem Oa {b : IR} {st : St} {Q : Pst} : K F b Q .norm st ↔ X F b st Q := Iff.rfl
theorem ajl {b : IR} {id : Nat} {st : St} {Q : Pst} : K F b Q (.exit id) st ↔ Q (.exit id) st := Iff.rfl
theorem aku {b : IR} {l : Nat} {st : St} {Q : Pst} : K F b Q (.goto l) st ↔ Q (.goto l) st := Iff.rfl
theorem alt {b : IR} {st : St} {Q : Pst} : K F b Q .ret st ↔ Q .ret st := Iff.rfl
theorem amd {b : IR} {v : VV} {st : St} {Q : Pst} : K F b Q (.pan v) st ↔ Q (.pan v) st := Iff.rfl
theorem aj7 {id : Nat} {st : St} {Q : Pst} : B id Q .norm st ↔ Q .norm st := Iff.rfl
theorem Ou {id id' : Nat} {st : St} {Q : Pst} : B id Q (.exit id') st ↔ (if id' = id then Q .norm st else Q (.exit id') st) := Iff.rfl
theorem ahd {id l : Nat} {st : St} {Q : Pst} : B id Q (.goto l) st ↔ Q (.goto l) st := Iff.rfl
theorem alr {id : Nat} {st : St} {Q : Pst} : B id Q .ret st ↔ Q .ret st := Iff.rfl
theorem amw {id : Nat} {v : VV} {st : St} {Q : Pst} : B id Q (.pan v) st ↔ Q (.pan v) st := Iff.rfl
noncomputable def J (F : Nat -> Option FnIR) (b : IR) (x : Option (Out × St)) : Option (Out × St) := lim fun n => bt (fun l st => bv F b l st) (fun l => (od b l).isSome) n x
def S (F : Nat -> Option FnIR) (b : IR) (Q : Pst) : Pst := fun o st => ∃ o' st', J F b (some (o, st)) = some (o', st') /\ Q o' st'
theorem Te {b : IR} {x : Option (Out × St)} {r : Out × St} : J F b x = some r ↔ ∃ n, bt (fun l st => bv F b l st) (fun l => (od b l).isSome) n x = some r :=
 At fun _ _ _ hnm => ju (fun _ _ _ h => h) hnm (fun _ h => h)
theorem Nt {b : IR} {y : Out × St} (h : ∀ l s, y = (.goto l, s) -> (od b l).isSome = false) : J F b (some y) = some y := Te.mpr ⟨0, jx h⟩
theorem aki {b : IR} {l : Nat} {st : St} (h : (od b l).isSome = true) : J F b (some (.goto l, st)) = J F b (bv F b l st) := by
 apply Option.ext
 intro r
 rw [Te, Te]
 constructor
 ·rintro ⟨n, hn⟩
  cases n with
  | zero => simp [bt, h] at hn
  | succ n => simp only [bt, h, if_true] at hn; grind
 ·rintro ⟨n, hn⟩
  exact ⟨n + 1, by simp only [bt, h, if_true]; exact hn⟩
theorem ad7 {b : IR} {st : St} {Q : Pst} : X F (.scope b) st Q ↔ X F b st (S F b Q) := by
 unfold X
 simp only [dt]
 cases hx : dt F b st with
 | none =>
  constructor
  ·rintro ⟨o, st', h, _⟩
   obtain ⟨n, hn⟩ := Te.mp h
   cases n <;> simp [bt] at hn
  grind
 | some y =>
  obtain ⟨o, s⟩ := y
  rw [ic (Q := S F b Q)]
  exact Iff.rfl
theorem akw {b : IR} {st : St} {Q : Pst} : S F b Q .norm st ↔ Q .norm st := by unfold S; rw [Nt (fun l s h => by cases h)]; exact ic
theorem aht {b : IR} {id : Nat} {st : St} {Q : Pst} : S F b Q (.exit id) st ↔ Q (.exit id) st := by unfold S; rw [Nt (fun l s h => by cases h)]; exact ic
theorem amb {b : IR} {st : St} {Q : Pst} : S F b Q .ret st ↔ Q .ret st := by unfold S; rw [Nt (fun l s h => by cases h)]; exact ic
theorem aly {b : IR} {v : VV} {st : St} {Q : Pst} : S F b Q (.pan v) st ↔ Q (.pan v) st := by unfold S; rw [Nt (fun l s h => by cases h)]; exact ic
theorem Ol {b : IR} {l : Nat} {st : St} {Q : Pst} (h : (od b l).isSome = true) : S F b Q (.goto l) st ↔ XF F b l st (S F b Q) := by
 unfold S XF
 rw [aki h]
 cases hx : bv F b l st with
 | none =>
  constructor
  ·rintro ⟨o, st', h, _⟩
   obtain ⟨n, hn⟩ := Te.mp h
   cases n <;> simp [bt] at hn
  grind
 | some y =>
  grind
theorem Az {a b : IR} {l : Nat} {st : St} {Q : Pst} (h : (od a l).isSome = true) : XF F (.seq a b) l st Q ↔ XF F a l st (K F b Q) := by
 unfold XF
 simp only [bv]
 cases hf : od a l with
 | none => grind
 | some y => exact Ew (g := fun st1 => dt F b st1)
theorem dv {a b : IR} {l : Nat} {st : St} {Q : Pst} (h : od a l = none) : XF F (.seq a b) l st Q ↔ XF F b l st Q := by
 unfold XF
 simp only [bv, h]
theorem wj {l : Nat} {st : St} {Q : Pst} : XF F (.label l) l st Q ↔ Q .norm st := by
 unfold XF
 simp only [bv, beq_self_eq_true, if_true]
 exact ic
def jk : Ins -> Bool
 | .call _ _ _ | .callv _ _ _ | .inv _ _ _ | .panic _ => false
 | _ => true
theorem aca {st : St} {Q : Pst} : XO F [] st Q ↔ Q .norm st := by unfold XO; simp only [dj]; exact ic
theorem gt {c : bj} {st : St} {o : Op1} (hp : jk o.i = true) : dw c st o = (match ai st.h (ad st.s) o.i with
    | some (v, h) => some (.norm, ⟨df st.s o.d v, h⟩)
    | none => none) := by
  obtain ⟨g, d, i⟩ := o
  cases i <;> first | rfl | (simp [jk] at hp)
theorem uy {d : Option Nat} {i : Ins} {r : List Op1} {s : List VV} {h : ae} {Q : Pst} {v : VV} {h' : ae} (hp : jk i = true) (hs : ai h (ad s) i = some (v, h')) :
  XO F (⟨none, d, i⟩ :: r) ⟨s, h⟩ Q ↔ XO F r ⟨df s d v, h'⟩ Q := by
 unfold XO
 simp only [dj, bm]
 rw [gt hp]
 grind
theorem Zo {g : Nat} {b : Bool} {d : Option Nat} {i : Ins} {r : List Op1} {s : List VV} {h : ae} {Q : Pst} {t : Bool} (ht : s.getD g .undef = .cv (.sc (.bool t))) :
  XO F (⟨some (g, b), d, i⟩ :: r) ⟨s, h⟩ Q ↔ (if t = b then XO F (⟨none, d, i⟩ :: r) ⟨s, h⟩ Q else XO F r ⟨df s d skp, h⟩ Q) := by
 have hg : s[g]? = some (.cv (.sc (.bool t))) := by
  grind
 unfold XO
 simp only [dj, bm, hg]
 by_cases htb : t = b
 ·subst htb
  simp only [beq_self_eq_true, if_true]
  exact Iff.rfl
 grind
theorem Vo {d : Option Nat} {f : Nat} {p : Bool} {args : List Opd} {r : List Op1} {s : List VV} {h : ae} {Q : Pst} {v : VV} {h' : ae}
  (hc : jv (call F) h f p (args.map (ad s)) = some (.ret v, h')) : XO F (⟨none, d, .call f p args⟩ :: r) ⟨s, h⟩ Q ↔ XO F r ⟨df s d v, h'⟩ Q := by
 unfold XO
 simp only [dj, bm, dw, hc]
theorem oy {call : bj} {h : ae} {f : Nat} {p : Bool} {args : List VV} {x : Option (CRes × ae)} (hf : f < Ar) (hd : du call h f p args = x) : jv call h f p args = x := by
 unfold jv; grind
theorem Pw {d : Option Nat} {p : Bool} {x : Opd} {args : List Opd} {r : List Op1} {s : List VV} {h : ae} {Q : Pst} {v : VV} {h' : ae} {f : Nat} {caps : List VV}
  (hx : ad s x = .func f caps) (hc : du (call F) h f p (args.map (ad s) ++ caps) = some (.ret v, h')) (hf : f < YB := by decide) : XO F (⟨none, d, .callv p x args⟩ :: r) ⟨s, h⟩ Q ↔ XO F r ⟨df s d v, h'⟩ Q := by
 unfold XO
 simp only [dj, bm, dw, hx, sr, if_pos hf, hc]
theorem tr {d : Option Nat} {tbl : List (Nat × Nat)} {x : Opd} {args : List Opd} {r : List Op1} {s : List VV} {h : ae} {Q : Pst} {v : VV} {h' : ae} {f t : Nat} {u : VV}
  (hx : ad s x = .iface t u) (hf : Rt tbl (.iface t u) = some (f, u)) (hc : call F f (u :: args.map (ad s)) h = some (.ret v, h')) (hk : XO F r ⟨df s d v, h'⟩ Q) : XO F (⟨none, d, .inv tbl x args⟩ :: r) ⟨s, h⟩ Q := by
 obtain ⟨o, st', h1, h2⟩ := hk
 refine ⟨o, st', ?_, h2⟩
 simp only [dj, bm, dw, hx, hf, du, Bool.false_eq_true, if_false, hc]
 exact h1
theorem Gz {d : Option Nat} {x : Opd} {args : List Opd} {r : List Op1} {s : List VV} {h : ae} {Q : Pst} {v : VV} {h' : ae} {id : Nat}
  (hx : ad s x = .yield id) (hc : call F (YB + id) (args.map (ad s)) h = some (.ret v, h')) (hk : XO F r ⟨df s d v, h'⟩ Q) : XO F (⟨none, d, .callv false x args⟩ :: r) ⟨s, h⟩ Q := by
 obtain ⟨o, st', h1, h2⟩ := hk
 refine ⟨o, st', ?_, h2⟩
 simp only [dj, bm, dw, hx, sr, Bool.false_eq_true, if_false, du, List.append_nil, hc]
 exact h1
def RB (id : Nat) (ps : List Nat) (asg body : IR) (s0 : List VV) (P : VV -> ae -> Prop) : Pst := fun out st2 =>
 ∃ j t p, adc out = some j /\ st2.h[id]? = some (.loop ps asg body s0 t p) /\ P (.cv (.sc (.bool j.isNone))) (st2.h.set id (.loop ps asg body s0 (if j.isNone then .ready else .done) j))
def RA (F : Nat -> Option FnIR) (id : Nat) (ps : List Nat) (asg body : IR) (s0 : List VV) (P : VV -> ae -> Prop) : Pst := fun o st1 =>
 o = .norm /\ ∃ p, st1.h[id]? = some (.loop ps asg body s0 .ready p) /\ X F body ⟨st1.s, st1.h.set id (.loop ps asg body s0 .busy p)⟩ (RB id ps asg body s0 P)
theorem Gs {id : Nat} (hF : F (YB + id) = none) {ps : List Nat} {asg body : IR} {s0 : List VV} {t0 : LoopState} {p0 : Option Jmp} {a : List VV} {h : ae} {P : VV -> ae -> Prop} (ho : h[id]? = some (.loop ps asg body s0 t0 p0)) (hl : a.length = ps.length)
  (hx : X F asg ⟨tq s0 ps a, h⟩ (RA F id ps asg body s0 P)) : ∃ v h', call F (YB + id) a h = some (.ret v, h') /\ P v h' := by
 obtain ⟨o, st1, h1, rfl, p1, h2, out, st2, h3, j, t, p, h4, h5, h6⟩ := hx
 refine ⟨_, _, Qj hF ?_, h6⟩
 unfold rq
 grind
theorem zg {x : Opd} {ps : List Nat} {asg body : IR} {s : List VV} {h : ae} {Q : Pst} {f : Nat} {caps : List VV} {v : VV} {h2 : ae} {t : LoopState} {p : Option Jmp} (hx : ad s x = .func f caps)
  (hc : call F f (.yield h.length :: caps) (h ++ [.loop ps asg body s .ready none]) = some (.ret v, h2)) (ho : h2[h.length]? = some (.loop ps asg body s t p)) (ht : t ≠ .busy)
  (hk : Q (Mj p) ⟨s, h2.set h.length (.loop ps asg body s .exhausted p)⟩) (hf : f < YB := by decide) : X F (.rangeF x ps asg body) ⟨s, h⟩ Q := by
 refine ⟨_, _, ?_, hk⟩
 simp only [dt]
 unfold mq
 grind
theorem ae6 {s : List VV} {i : Nat} {v d : VV} (h : i < s.length) : (s.set i v).getD i d = v := by
 grind
theorem agb {s : List VV} {i j : Nat} {v d : VV} (h : i ≠ j) : (s.set i v).getD j d = s.getD j d := by
 grind
theorem ah {s : List VV} {i : Nat} {v : VV} : (s.set i v).length = s.length := List.length_set
theorem Nd {s : List VV} {n : Nat} : ad s (.t n) = s.getD n .undef := rfl
theorem af4 {s : List VV} {v : VV} : ad s (.c v) = v := rfl
theorem oi {s : List VV} {n : Nat} {v : VV} : df s (some n) v = s.set n v := rfl
theorem Cj {s : List VV} {v : VV} : df s none v = s := rfl
def RQ (res : List ResV) (P : VV -> ae -> Prop) : Pst := fun o st => (match o with | .norm | .ret => True | _ => False) /\ ∃ vs, ke st res = some vs /\ P (afr vs) st.h
theorem bc {f : Nat} {fn : FnIR} (hf : F f = some fn) {a : List VV} {h : ae} {P : VV -> ae -> Prop}
  (hx : X F fn.body ⟨a ++ List.replicate (fn.nt - a.length) .undef, h⟩ (RQ fn.res P)) (hn : Nat.ble a.length fn.nt = true := by rfl) : ∃ v h', call F f a h = some (.ret v, h') /\ P v h' := by
 obtain ⟨o, st, h1, h2, vs, h3, h4⟩ := hx
 refine ⟨afr vs, st.h, ?_, h4⟩
 refine adp hf ?_
 unfold xe
 grind
def Is (v : VV) (h : ae) (v' : VV) (h' : ae) : Prop := v' = v /\ h' = h
theorem Is.refl (v : VV) (h : ae) : Is v h v h := ⟨rfl, rfl⟩
theorem Aj {f : Nat} {fn : FnIR} (hf : F f = some fn) {a : List VV} {h : ae} {v : VV} {h' : ae}
  (hx : X F fn.body ⟨a ++ List.replicate (fn.nt - a.length) .undef, h⟩ (RQ fn.res (Is v h'))) (hn : Nat.ble a.length fn.nt = true := by rfl) : call F f a h = some (.ret v, h') := by
 obtain ⟨v1, h1, hc, e1, e2⟩ := bc hf hx hn
 grind
theorem kw {s : List VV} {n : Nat} (hn : n < s.length) : s[n]? = some (s.getD n .undef) := by
 grind
section
variable {P : VV -> ae -> Prop} {s : List VV} {h : ae} {n m k : Nat}
theorem anc : RQ [] P .ret ⟨s, h⟩ ↔ P (.tup []) h := by
 constructor
 ·rintro ⟨_, vs, h1, h2⟩; cases h1; exact h2
 ·exact fun h1 => ⟨trivial, _, rfl, h1⟩
theorem amh : RQ [] P .norm ⟨s, h⟩ ↔ P (.tup []) h := by
 constructor
 ·rintro ⟨_, vs, h1, h2⟩; cases h1; exact h2
 ·exact fun h1 => ⟨trivial, _, rfl, h1⟩
theorem am8 (hn : n < s.length) : RQ [.t n] P .ret ⟨s, h⟩ ↔ P (s.getD n .undef) h := by
 have hr : ke ⟨s, h⟩ [.t n] = some [s.getD n .undef] := by simp only [ke, yq, kw hn]
 constructor
 ·rintro ⟨_, vs, h1, h2⟩; rw [hr] at h1; cases h1; exact h2
 ·exact fun h1 => ⟨trivial, _, hr, h1⟩
theorem anh (hn : n < s.length) (hm : m < s.length) : RQ [.t n, .t m] P .ret ⟨s, h⟩ ↔ P (.tup [s.getD n .undef, s.getD m .undef]) h := by
 have hr : ke ⟨s, h⟩ [.t n, .t m] = some [s.getD n .undef, s.getD m .undef] := by simp only [ke, yq, kw hn, kw hm]
 constructor
 ·rintro ⟨_, vs, h1, h2⟩; rw [hr] at h1; cases h1; exact h2
 ·exact fun h1 => ⟨trivial, _, hr, h1⟩
theorem anv (hn : n < s.length) (hm : m < s.length) (hk : k < s.length) : RQ [.t n, .t m, .t k] P .ret ⟨s, h⟩ ↔ P (.tup [s.getD n .undef, s.getD m .undef, s.getD k .undef]) h := by
 have hr : ke ⟨s, h⟩ [.t n, .t m, .t k] = some [s.getD n .undef, s.getD m .undef, s.getD k .undef] := by simp only [ke, yq, kw hn, kw hm, kw hk]
 constructor
 ·rintro ⟨_, vs, h1, h2⟩; rw [hr] at h1; cases h1; exact h2
 ·exact fun h1 => ⟨trivial, _, hr, h1⟩
end
def XV (F : Nat -> Option FnIR) (x : Option (VV × ae)) (d : Option Nat) (r : List Op1) (s : List VV) (Q : Pst) : Prop := ∃ v h, x = some (v, h) /\ XO F r ⟨df s d v, h⟩ Q
theorem kj {v : VV} {h : ae} {d : Option Nat} {r : List Op1} {s : List VV} {Q : Pst} : XV F (some (v, h)) d r s Q ↔ XO F r ⟨df s d v, h⟩ Q := by
 constructor
 ·rintro ⟨_, _, he, hk⟩; grind
 ·exact fun hk => ⟨v, h, rfl, hk⟩
def XW (F : Nat -> Option FnIR) (x : Option VV) (h : ae) (d : Option Nat) (r : List Op1) (s : List VV) (Q : Pst) : Prop := ∃ v, x = some v /\ XO F r ⟨df s d v, h⟩ Q
theorem Xg {v : VV} {h : ae} {d : Option Nat} {r : List Op1} {s : List VV} {Q : Pst} : XW F (some v) h d r s Q ↔ XO F r ⟨df s d v, h⟩ Q := by
 constructor
 ·rintro ⟨_, he, hk⟩; grind
 ·exact fun hk => ⟨v, rfl, hk⟩
def XB (F : Nat -> Option FnIR) (v : VV) (a b : IR) (st : St) (Q : Pst) : Prop := ∃ t, v = .cv (.sc (.bool t)) /\ (if t then X F a st Q else X F b st Q)
theorem Uy {a b : IR} {st : St} {Q : Pst} : XB F (.cv (.sc (.bool true))) a b st Q ↔ X F a st Q := by
 constructor
 ·rintro ⟨_, he, hk⟩; cases he; exact hk
 ·exact fun hk => ⟨true, rfl, hk⟩
theorem Og {a b : IR} {st : St} {Q : Pst} : XB F (.cv (.sc (.bool false))) a b st Q ↔ X F b st Q := by
 constructor
 ·rintro ⟨_, he, hk⟩; cases he; simpa using hk
 ·exact fun hk => ⟨false, rfl, hk⟩
theorem Tt {p : Prop} [Decidable p] {a b : IR} {st : St} {Q : Pst} (hp : p -> X F a st Q) (hq : ¬p -> X F b st Q) : XB F (.cv (.sc (.bool (decide p)))) a b st Q := by
 by_cases h : p
 ·simp only [h, decide_true]; exact Uy.mpr (hp h)
 ·simp only [h, decide_false]; exact Og.mpr (hq h)
theorem alj {c : Opd} {a b : IR} {s : List VV} {h : ae} {Q : Pst} : X F (.cond c a b) ⟨s, h⟩ Q ↔ XB F (ad s c) a b ⟨s, h⟩ Q := by
 unfold X XB
 simp only [dt]
 constructor
 ·rintro ⟨o, st', he, hq⟩
  cases hv : ad s c with
  | cv w =>
   cases w with
   | sc u =>
    cases u with
    | bool t =>
     rw [hv] at he
     refine ⟨t, rfl, ?_⟩
     cases t
     ·exact ⟨o, st', he, hq⟩
     ·exact ⟨o, st', he, hq⟩
    | _ => grind
   | sl _ _ _ => grind
  | _ => grind
 ·rintro ⟨t, ht, hk⟩
  rw [ht]
  cases t
  ·exact hk
  ·exact hk
theorem ig {d : Option Nat} {i : Ins} {r : List Op1} {s : List VV} {h : ae} {Q : Pst} (hp : jk i = true) :
  XO F (⟨none, d, i⟩ :: r) ⟨s, h⟩ Q ↔ XV F (ai h (ad s) i) d r s Q := by
 unfold XO XV
 simp only [dj, bm]
 rw [gt hp]
 simp only
 cases hs : ai h (ad s) i with
 | none =>
  grind
 | some y =>
  obtain ⟨v, h'⟩ := y
  constructor
  ·exact fun he => ⟨v, h', rfl, he⟩
  ·rintro ⟨_, _, he, hk⟩; cases he; exact hk
def XG (F : Nat -> Option FnIR) (v : VV) (b : Bool) (d : Option Nat) (i : Ins) (r : List Op1) (s : List VV) (h : ae) (Q : Pst) : Prop := match v with
 | .cv (.sc (.bool t)) => if t = b then XO F (⟨none, d, i⟩ :: r) ⟨s, h⟩ Q else XO F r ⟨df s d skp, h⟩ Q
 | .tup [] => XO F r ⟨df s d skp, h⟩ Q
 | _ => False
section
variable {b : Bool} {d : Option Nat} {i : Ins} {r : List Op1} {s : List VV} {h : ae} {Q : Pst}
theorem ali : XG F (.cv (.sc (.bool true))) true d i r s h Q ↔ XO F (⟨none, d, i⟩ :: r) ⟨s, h⟩ Q := by simp [XG]
theorem amq : XG F (.cv (.sc (.bool false))) false d i r s h Q ↔ XO F (⟨none, d, i⟩ :: r) ⟨s, h⟩ Q := by simp [XG]
theorem amo : XG F (.cv (.sc (.bool true))) false d i r s h Q ↔ XO F r ⟨df s d skp, h⟩ Q := by simp [XG]
theorem al8 : XG F (.cv (.sc (.bool false))) true d i r s h Q ↔ XO F r ⟨df s d skp, h⟩ Q := by simp [XG]
theorem ang : XG F (.tup []) b d i r s h Q ↔ XO F r ⟨df s d skp, h⟩ Q := Iff.rfl
theorem ana {g : Nat} : XO F (⟨some (g, b), d, i⟩ :: r) ⟨s, h⟩ Q ↔ XG F (s.getD g .undef) b d i r s h Q := by
 have e : s.getD g .undef = (s[g]?).getD .undef := List.getD_eq_getElem?_getD
 cases hg : s[g]? with
 | none =>
  rw [e, hg]
  unfold XO; simp only [dj, bm, hg, Option.getD_none, XG]; exact Ap
 | some w =>
  cases w with
  | cv c => cases c with
   | sc u => cases u with
    | bool t => rw [Zo (show s.getD g .undef = .cv (.sc (.bool t)) by grind), e, hg]; exact Iff.rfl
    | _ => (rw [e, hg]; unfold XO; simp only [dj, bm, hg, Option.getD_some, XG]; exact Ap)
   | sl _ _ _ => (rw [e, hg]; unfold XO; simp only [dj, bm, hg, Option.getD_some, XG]; exact Ap)
  | tup l => cases l with
   | nil => rw [e, hg]; unfold XO; simp only [dj, bm, hg, Option.getD_some, XG]; exact Iff.rfl
   | cons _ _ => rw [e, hg]; unfold XO; simp only [dj, bm, hg, Option.getD_some, XG]; exact Ap
  | _ => (rw [e, hg]; unfold XO; simp only [dj, bm, hg, Option.getD_some, XG]; exact Ap)
end
theorem al5 {d : Nat} {x : Opd} {r : List Op1} {s : List VV} {h : ae} {Q : Pst} : XO F (⟨none, some d, .mv x⟩ :: r) ⟨s, h⟩ Q ↔ XO F r ⟨s.set d (ad s x), h⟩ Q :=
 uy rfl rfl
theorem bi {ir ir' : IR} (h : ir = ir') {st : St} {Q : Pst} : X F ir st Q ↔ X F ir' st Q := by rw [h]
theorem Vs {ir ir' : IR} (h : ir = ir') {l : Nat} {st : St} {Q : Pst} : XF F ir l st Q ↔ XF F ir' l st Q := by rw [h]
end
def yr : List (Op1 × Cl) -> Bool
 | [] => true
 | (_, .r lo hi) :: r => lo == hi && yr r
 | _ :: r => yr r
def isk : Cl -> Bool
 | .k => true
 | _ => false
def XD (F : Nat -> Option FnIR) : List (Op1 × Cl) -> St -> Pst -> Prop
 | [], st, Q => Q .norm st
 | (o, c) :: r, st, Q => match bm st.s o.g with
  | some true => ∃ st1, dw (call F) st o = some (.norm, st1) /\ (isk c = false -> st1.h = st.h) /\ XD F r st1 Q
  | some false => XD F r ⟨df st.s o.d skp, st.h⟩ Q
  | none => False
theorem Iz {F : Nat -> Option FnIR} : ∀ (ops : List (Op1 × Cl)) (hs : List ae) (ck : Cks) (st : St) (Q : Pst), yr ops = true -> XD F ops st Q -> (∀ x ∈ ck, ∀ h, x.2.2 h) ->
  ∃ st1 hs1 ck1, bz (call F) ops hs ck st = some (st1, hs1, ck1) /\ (∀ x ∈ ck1, ∀ h, x.2.2 h) /\ Q .norm st1
 | [], hs, ck, st, Q, _, hx, hc => ⟨st, hs, ck, rfl, hc, hx⟩
 | (o, c) :: r, hs, ck, st, Q, ha, hx, hc => by
  have har : yr r = true := by
   cases c with
   | p => exact ha
   | k => exact ha
   | r lo hi => simp only [yr, Bool.and_eq_true] at ha; exact ha.2
  simp only [XD] at hx
  simp only [bz]
  cases hw : bm st.s o.g with
  | none => grind
  | some b =>
   rw [hw] at hx
   cases b with
   | false => exact Iz r _ ck _ Q har hx hc
   | true =>
    obtain ⟨st1, h1, h2, h3⟩ := hx
    simp only [h1]
    cases c with
    | p =>
     have e : (⟨st1.s, st.h⟩ : St) = st1 := by rw [<- h2 rfl]
     simp only [e]
     exact Iz r _ ck _ Q har h3 hc
    | k => exact Iz r _ ck _ Q har h3 hc
    | r lo hi =>
     have e : (⟨st1.s, st.h⟩ : St) = st1 := by rw [<- h2 rfl]
     have hlh : lo = hi := by
      simp only [yr, Bool.and_eq_true, beq_iff_eq] at ha
      exact ha.1
     simp only [e, if_pos hlh]
     refine Iz r _ _ _ Q har h3 ?_
     intro x hx
     grind
theorem nv {F : Nat -> Option FnIR} {ops : List (Op1 × Cl)} {st : St} {Q : Pst} (ha : yr ops = true) (hx : XD F ops st Q) : X F (.draw ops) st Q := by
 obtain ⟨st1, hs1, ck1, h1, h2, h3⟩ := Iz ops [st.h] [] st Q ha hx (fun x hx => by cases hx)
 refine ⟨.norm, st1, ?_, h3⟩
 simp only [dt, ix, h1]
 rw [if_pos]
 exact fun x hx b _ _ h _ => h2 x hx h
section
variable {F : Nat -> Option FnIR} {d : Option Nat} {c : Cl} {q : List (Op1 × Cl)} {s : List VV} {h : ae} {Q : Pst}
theorem ac1 {st : St} : XD F [] st Q ↔ Q .norm st := Iff.rfl
def XVD (F : Nat -> Option FnIR) (x : Option (VV × ae)) (c : Cl) (h : ae) (d : Option Nat) (q : List (Op1 × Cl)) (s : List VV) (Q : Pst) : Prop :=
 ∃ v h', x = some (v, h') /\ (isk c = false -> h' = h) /\ XD F q ⟨df s d v, h'⟩ Q
theorem Pu {v : VV} : XVD F (some (v, h)) c h d q s Q ↔ XD F q ⟨df s d v, h⟩ Q := by
 constructor
 ·rintro ⟨_, _, he, _, hk⟩; cases he; exact hk
 ·exact fun hk => ⟨v, h, rfl, fun _ => rfl, hk⟩
theorem Zd {v : VV} {h' : ae} : XVD F (some (v, h')) .k h d q s Q ↔ XD F q ⟨df s d v, h'⟩ Q := by
 constructor
 ·rintro ⟨_, _, he, _, hk⟩; cases he; exact hk
 ·exact fun hk => ⟨v, h', rfl, (fun e => by cases e), hk⟩
def XWD (F : Nat -> Option FnIR) (x : Option VV) (h : ae) (d : Option Nat) (q : List (Op1 × Cl)) (s : List VV) (Q : Pst) : Prop := ∃ v, x = some v /\ XD F q ⟨df s d v, h⟩ Q
theorem zh {v : VV} : XWD F (some v) h d q s Q ↔ XD F q ⟨df s d v, h⟩ Q := by
 constructor
 ·rintro ⟨_, he, hk⟩; cases he; exact hk
 ·exact fun hk => ⟨v, rfl, hk⟩
theorem pi {i : Ins} (hp : jk i = true) : XD F ((⟨none, d, i⟩, c) :: q) ⟨s, h⟩ Q ↔ XVD F (ai h (ad s) i) c h d q s Q := by
 simp only [XD, bm]
 unfold XVD
 rw [gt hp]
 grind
theorem jj {i : Ins} {u : Option VV} (hp : jk i = true) (hs : ai h (ad s) i = u.map (·, h)) : XD F ((⟨none, d, i⟩, c) :: q) ⟨s, h⟩ Q ↔ XWD F u h d q s Q := by
 rw [pi hp, hs]
 cases u with
 | none =>
  constructor
  ·rintro ⟨_, _, he, _⟩; cases he
  ·rintro ⟨_, he, _⟩; cases he
 | some v => exact Pu.trans zh.symm
def XGD (F : Nat -> Option FnIR) (v : VV) (b : Bool) (d : Option Nat) (i : Ins) (c : Cl) (q : List (Op1 × Cl)) (s : List VV) (h : ae) (Q : Pst) : Prop := match v with
 | .cv (.sc (.bool t)) => if t = b then XD F ((⟨none, d, i⟩, c) :: q) ⟨s, h⟩ Q else XD F q ⟨df s d skp, h⟩ Q
 | .tup [] => XD F q ⟨df s d skp, h⟩ Q
 | _ => False
theorem akb {i : Ins} : XGD F (.cv (.sc (.bool true))) true d i c q s h Q ↔ XD F ((⟨none, d, i⟩, c) :: q) ⟨s, h⟩ Q := by simp [XGD]
theorem ahb {i : Ins} : XGD F (.cv (.sc (.bool false))) false d i c q s h Q ↔ XD F ((⟨none, d, i⟩, c) :: q) ⟨s, h⟩ Q := by simp [XGD]
theorem ah8 {i : Ins} : XGD F (.cv (.sc (.bool true))) false d i c q s h Q ↔ XD F q ⟨df s d skp, h⟩ Q := by simp [XGD]
theorem aij {i : Ins} : XGD F (.cv (.sc (.bool false))) true d i c q s h Q ↔ XD F q ⟨df s d skp, h⟩ Q := by simp [XGD]
theorem aln {b : Bool} {i : Ins} : XGD F (.tup []) b d i c q s h Q ↔ XD F q ⟨df s d skp, h⟩ Q := Iff.rfl
theorem ane {g : Nat} {b : Bool} {i : Ins} : XD F ((⟨some (g, b), d, i⟩, c) :: q) ⟨s, h⟩ Q ↔ XGD F (s.getD g .undef) b d i c q s h Q := by
 have e : s.getD g .undef = (s[g]?).getD .undef := List.getD_eq_getElem?_getD
 rw [e]
 cases hg : s[g]? with
 | none => simp only [XD, bm, hg, Option.getD_none, XGD]
 | some w =>
  cases w with
  | cv c => cases c with
   | sc u => cases u with
    | bool t =>
     by_cases htb : t = b
     ·subst htb
      simp only [XD, bm, hg, Option.getD_some, XGD, beq_self_eq_true, if_true]
      exact Iff.rfl
     ·have e : (t == b) = false := by grind
      simp only [XD, bm, hg, Option.getD_some, XGD, e, if_neg htb]
    | _ => simp only [XD, bm, hg, Option.getD_some, XGD]
   | sl _ _ _ => simp only [XD, bm, hg, Option.getD_some, XGD]
  | tup l => cases l with
   | nil => simp only [XD, bm, hg, Option.getD_some, XGD]
   | cons _ _ => simp only [XD, bm, hg, Option.getD_some, XGD]
  | _ => simp only [XD, bm, hg, Option.getD_some, XGD]
theorem alw {d : Nat} {x : Opd} : XD F ((⟨none, some d, .mv x⟩, c) :: q) ⟨s, h⟩ Q ↔ XD F q ⟨s.set d (ad s x), h⟩ Q :=
 (jj (u := some (ad s x)) rfl rfl).trans zh
theorem Lk {f : Nat} {p : Bool} {args : List Opd} {v : VV} (hc : jv (call F) h f p (args.map (ad s)) = some (.ret v, h)) (hk : XD F q ⟨df s d v, h⟩ Q) :
  XD F ((⟨none, d, .call f p args⟩, c) :: q) ⟨s, h⟩ Q := by
 simp only [XD, bm]
 exact ⟨⟨df s d v, h⟩, by simp only [dw, hc], fun _ => rfl, hk⟩
theorem Ok {f : Nat} {p : Bool} {args : List Opd} {v : VV} {h' : ae} (hc : jv (call F) h f p (args.map (ad s)) = some (.ret v, h')) (hk : XD F q ⟨df s d v, h'⟩ Q) :
  XD F ((⟨none, d, .call f p args⟩, .k) :: q) ⟨s, h⟩ Q := by
 simp only [XD, bm]
 exact ⟨⟨df s d v, h'⟩, by simp only [dw, hc], (fun e => by cases e), hk⟩
end
theorem aco {F : Nat -> Option FnIR} {d : Option Nat} {tbl : List (Nat × Nat)} {x : Opd} {args : List Opd} {q : List (Op1 × Cl)} {s : List VV} {h : ae} {Q : Pst} {v : VV} {h' : ae} {f t : Nat} {u : VV}
  (hx : ad s x = .iface t u) (hf : Rt tbl (.iface t u) = some (f, u)) (hc : call F f (u :: args.map (ad s)) h = some (.ret v, h')) (hk : XD F q ⟨df s d v, h'⟩ Q) : XD F ((⟨none, d, .inv tbl x args⟩, .k) :: q) ⟨s, h⟩ Q := by
 simp only [XD, bm]
 exact ⟨⟨df s d v, h'⟩, by simp only [dw, hx, hf, du, Bool.false_eq_true, if_false, hc], (fun e => by cases e), hk⟩
abbrev vi (k : IntKind) (n : Int) : VV := .cv (.sc (.int k n))
abbrev vb (t : Bool) : VV := .cv (.sc (.bool t))
abbrev vs (t : ByteArray) : VV := .cv (.sc (.string t))
abbrev ct : VV := .cv (.sc (.slice none 0 0))
def kt (op : BinOp) : VV -> VV -> Option VV
 | .cv (.sc a), .cv (.sc b) => (tm op a b).map fun v => .cv (.sc v)
 | _, _ => none
section
variable {F : Nat -> Option FnIR} {d : Option Nat} {x y z : Opd} {r : List Op1} {c : Cl} {q : List (Op1 × Cl)} {s : List VV} {h : ae} {Q : Pst}
theorem qj {i : Ins} {u : Option VV} (hp : jk i = true) (hs : ai h (ad s) i = u.map (·, h)) : XO F (⟨none, d, i⟩ :: r) ⟨s, h⟩ Q ↔ XW F u h d r s Q := by
 rw [ig hp, hs]
 cases u with
 | none =>
  constructor
  ·rintro ⟨_, _, he, _⟩; cases he
  ·rintro ⟨_, he, _⟩; cases he
 | some v => exact kj.trans Xg.symm
theorem Hr {op : BinOp} : ai h (ad s) (.bin op x y) = (kt op (ad s x) (ad s y)).map (·, h) := by
 simp only [ai]
 generalize ad s x = a
 generalize ad s y = b
 cases a with
 | cv c => cases c with
  | sc u =>
   cases b with
   | cv c' => cases c' with
    | sc u' => simp only [kt]; cases tm op u u' <;> rfl
    | sl _ _ _ => rfl
   | _ => rfl
  | sl _ _ _ => rfl
 | _ => rfl
def cvO (k : IntKind) : VV -> Option VV
 | .cv (.sc (.int _ n)) => some (vi k (k.wrap n))
 | _ => none
theorem ain {k k' : IntKind} {n : Int} : cvO k (vi k' n) = some (vi k (k.wrap n)) := rfl
theorem Eb {k : IntKind} : ai h (ad s) (.cvI k x) = (cvO k (ad s x)).map (·, h) := by
 simp only [ai]
 generalize ad s x = v
 cases v with
 | cv c => cases c with
  | sc u => cases u <;> rfl
  | sl _ _ _ => rfl
 | _ => rfl
def pkO (c a b : VV) : Option VV := match c with
 | .cv (.sc (.bool t)) => some (if t then a else b)
 | _ => none
theorem amm {a b : VV} : pkO (vb true) a b = some a := rfl
theorem al4 {a b : VV} : pkO (vb false) a b = some b := rfl
theorem Mu : ai h (ad s) (.pick x y z) = (pkO (ad s x) (ad s y) (ad s z)).map (·, h) := by
 simp only [ai]
 generalize ad s x = v
 cases v with
 | cv c => cases c with
  | sc u => cases u <;> rfl
  | sl _ _ _ => rfl
 | _ => rfl
def exO (v : VV) (i : Nat) : Option VV := match v with
 | .tup vs => vs[i]?
 | _ => none
theorem aju {l : List VV} {i : Nat} : exO (.tup l) i = l[i]? := rfl
theorem Sm {i : Nat} : ai h (ad s) (.ext x i) = (exO (ad s x) i).map (·, h) := by
 simp only [ai]
 generalize ad s x = v
 cases v with
 | tup vs => simp only [exO]; grind
 | _ => rfl
def lnO (str : Bool) (v : VV) : Option VV := (if str then Ul v else lz v).map fun n => vi .i64 n
theorem Pm {str : Bool} : ai h (ad s) (.len str x) = (lnO str (ad s x)).map (·, h) := by
 simp only [ai, lnO]
 grind
def mmO (m : Bool) : VV -> VV -> Option VV
 | .cv (.sc (.int k a)), .cv (.sc (.int _ b)) => some (vi k (if m then min a b else max a b))
 | _, _ => none
theorem afx {k : IntKind} {a b : Int} : mmO true (vi k a) (vi k b) = some (vi k (min a b)) := rfl
theorem af9 {k : IntKind} {a b : Int} : mmO false (vi k a) (vi k b) = some (vi k (max a b)) := rfl
theorem Vr {m : Bool} : ai h (ad s) (.mnmx m [x, y]) = (mmO m (ad s x) (ad s y)).map (·, h) := by
 simp only [ai, List.map]
 generalize ad s x = v
 generalize ad s y = w
 cases v with
 | cv c => cases c with
  | sc u =>
   cases w with
   | cv c' => cases c' with
    | sc u' =>
     cases u <;> cases u' <;> simp only [Qm, Zb, mmO, Option.map_none, Option.map_some]
     grind
    | sl _ _ _ => cases u <;> rfl
   | _ => cases u <;> rfl
  | sl _ _ _ => rfl
 | _ => rfl
theorem ajd {op : BinOp} : XO F (⟨none, d, .bin op x y⟩ :: r) ⟨s, h⟩ Q ↔ XW F (kt op (ad s x) (ad s y)) h d r s Q := qj rfl Hr
theorem ahw {op : BinOp} : XD F ((⟨none, d, .bin op x y⟩, c) :: q) ⟨s, h⟩ Q ↔ XWD F (kt op (ad s x) (ad s y)) h d q s Q := jj rfl Hr
theorem aim {k : IntKind} : XO F (⟨none, d, .cvI k x⟩ :: r) ⟨s, h⟩ Q ↔ XW F (cvO k (ad s x)) h d r s Q := qj rfl Eb
theorem ah2 {k : IntKind} : XD F ((⟨none, d, .cvI k x⟩, c) :: q) ⟨s, h⟩ Q ↔ XWD F (cvO k (ad s x)) h d q s Q := jj rfl Eb
theorem ago : XO F (⟨none, d, .pick x y z⟩ :: r) ⟨s, h⟩ Q ↔ XW F (pkO (ad s x) (ad s y) (ad s z)) h d r s Q := qj rfl Mu
theorem aej : XD F ((⟨none, d, .pick x y z⟩, c) :: q) ⟨s, h⟩ Q ↔ XWD F (pkO (ad s x) (ad s y) (ad s z)) h d q s Q := jj rfl Mu
theorem ajm {i : Nat} : XO F (⟨none, d, .ext x i⟩ :: r) ⟨s, h⟩ Q ↔ XW F (exO (ad s x) i) h d r s Q := qj rfl Sm
theorem ai4 {i : Nat} : XD F ((⟨none, d, .ext x i⟩, c) :: q) ⟨s, h⟩ Q ↔ XWD F (exO (ad s x) i) h d q s Q := jj rfl Sm
theorem ajb {str : Bool} : XO F (⟨none, d, .len str x⟩ :: r) ⟨s, h⟩ Q ↔ XW F (lnO str (ad s x)) h d r s Q := qj rfl Pm
theorem aih {str : Bool} : XD F ((⟨none, d, .len str x⟩, c) :: q) ⟨s, h⟩ Q ↔ XWD F (lnO str (ad s x)) h d q s Q := jj rfl Pm
theorem ael {m : Bool} : XO F (⟨none, d, .mnmx m [x, y]⟩ :: r) ⟨s, h⟩ Q ↔ XW F (mmO m (ad s x) (ad s y)) h d r s Q := qj rfl Vr
theorem aev {m : Bool} : XD F ((⟨none, d, .mnmx m [x, y]⟩, c) :: q) ⟨s, h⟩ Q ↔ XWD F (mmO m (ad s x) (ad s y)) h d q s Q := jj rfl Vr
end
end Go.Vm
