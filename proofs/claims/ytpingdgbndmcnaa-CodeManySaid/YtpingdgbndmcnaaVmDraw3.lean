/-
  Vm: regions that draw their order (own work), third part: the theorem.
-/
import Derived.Test.YtpingdgbndmcnaaVmDraw2
namespace Go.Vm
open Go Go.RowKit
set_option linter.unusedVariables false
set_option linter.unusedSimpArgs false

variable {P : Program} {prot : Nat → Prop} {σ : Stab} {β : Nat → Option Loc} {h : Heap} {w : World} {a : Act} {s : List VV}

theorem putD_len (s : List VV) (d : Option Nat) (v : VV) : (putD s d v).length = s.length := by cases d <;> simp [putD]

theorem putD_at (s : List VV) (d : Nat) (v : VV) (t : Nat) : (putD s (some d) v)[t]? = if d = t then (if d < s.length then some v else none) else s[t]? := by
  simp only [putD, List.getElem?_set]

/-- The slots when just some of the operations have come up. -/
def SL (l : List (Op1 × Cl)) (s0 : List VV) (V : Nat → VV) (L : Nat → Bool) (s : List VV) : Prop :=
  s.length = s0.length ∧ (∀ i x c d, l[i]? = some (x, c) → L i = true → x.d = some d → d < s0.length → s[d]? = some (V i)) ∧
  ∀ t, (∀ i x c, l[i]? = some (x, c) → L i = true → x.d ≠ some t) → s[t]? = s0[t]?

theorem SL.put {refs : List Nat} {ops : Array Oper} {l : List (Op1 × Cl)} {T : Nat → List Nat} (D : DOK P refs ops l T) {s0 s : List VV} {V : Nat → VV} {L L' : Nat → Bool} (h : SL l s0 V L s) (i : Nat) (x : Op1) (c : Cl) (hx : l[i]? = some (x, c)) (hL : L i = false)
    (hL' : L' i = true) (hne : ∀ k, k ≠ i → k < l.length → L' k = L k) : SL l s0 V L' (putD s x.d (V i)) := by
  obtain ⟨h1, h2, h3⟩ := h
  have lt : ∀ {j y}, l[j]? = some y → j < l.length := fun hj => (List.getElem?_eq_some_iff.1 hj).1
  refine ⟨by rw [putD_len, h1], fun j y c' d hy hLj hd hlt => ?_, fun t ht => ?_⟩
  · by_cases hj : j = i
    · subst hj
      rw [hx] at hy; cases hy
      rw [hd, putD_at, if_pos rfl, if_pos (by rw [h1]; exact hlt)]
    · rw [hne j hj (lt hy)] at hLj
      cases hxd : x.d with
      | none => exact h2 j y c' d hy hLj hd hlt
      | some e =>
        have := (D.dst i j x y c c' (fun e => hj e.symm) hx hy e hxd).1
        rw [putD_at, if_neg (fun e2 => this (by rw [hd, e2]))]
        exact h2 j y c' d hy hLj hd hlt
  · have hxt := ht i x c hx hL'
    have : s[t]? = s0[t]? := h3 t fun j y c' hy hLj => by
      by_cases hj : j = i
      · subst hj; rw [hL] at hLj; cases hLj
      · exact ht j y c' hy (by rw [hne j hj (lt hy)]; exact hLj)
    cases hxd : x.d with
    | none => exact this
    | some e => rw [putD_at, if_neg (fun e2 => hxt (by rw [hxd, e2]))]; exact this

/-- Where an operation looks, it sees the same in every order. -/
theorem SL.same {refs : List Nat} {ops : Array Oper} {l : List (Op1 × Cl)} {T : Nat → List Nat} (D : DOK P refs ops l T) {s0 s s2 : List VV} {V : Nat → VV} {L L2 : Nat → Bool} (h : SL l s0 V L s) (k : SL l s0 V L2 s2) (i : Nat) (x : Op1) (c : Cl) (hx : l[i]? = some (x, c))
    (ha : ∀ j y c', l[j]? = some (y, c') → (∃ d, y.d = some d ∧ d ∈ looks1 x.g (opdsOf x.i)) → L j = L2 j) : ∀ n ∈ looks1 x.g (opdsOf x.i), s[n]? = s2[n]? := by
  intro n hn
  by_cases hw : ∃ j y c', l[j]? = some (y, c') ∧ L j = true ∧ y.d = some n
  · obtain ⟨j, y, c', hy, hLj, hd⟩ := hw
    have hL2 : L2 j = true := by rw [← ha j y c' hy ⟨n, hd, hn⟩]; exact hLj
    by_cases hlt : n < s0.length
    · rw [h.2.1 j y c' n hy hLj hd hlt, k.2.1 j y c' n hy hL2 hd hlt]
    · rw [List.getElem?_eq_none (by rw [h.1]; omega), List.getElem?_eq_none (by rw [k.1]; omega)]
  · rw [h.2.2 n fun j y c' hy hLj hd => hw ⟨j, y, c', hy, hLj, hd⟩, k.2.2 n fun j y c' hy hLj hd => hw ⟨j, y, c', hy, by rw [ha j y c' hy ⟨n, hd, hn⟩]; exact hLj, hd⟩]

theorem draw_sound {call : CallSem} (hcall : CallsOK P call) {refs : List Nat} {owns : List (Nat × Nat)} {id : Nat} {ops : Array Oper} {l : List (Op1 × Cl)} {out : Out} {st' : St} (hm : P.follows .mixedOrders = true) (hc : compDraw P refs owns id ops = some l)
    (hx : execDraw call l ⟨s, h⟩ = some (out, st')) (hf : FR σ β a.tmps s) (hw : WR prot σ β h w) (hd : a.defers = []) {Q : Exit → Act → World → Prop} (hQ : ∀ e a' w', SimPost prot σ β w out st' e a' w' → Q e a' w') :
    (Code.region id ops true).wp P Q a w := by
  obtain ⟨T, D⟩ := dok_of hc
  unfold execDraw at hx
  split at hx
  · rename_i st1 hs ck hdr
    split at hx
    · rename_i hck
      cases hx
      obtain ⟨t1, _, t3, S, V, W, s0, sn, hseen⟩ := draw_trace l [h] [] ⟨s, h⟩ _ hs ck 0 rfl rfl hdr
      simp only [Nat.zero_add] at t3 hseen
      simp only at s0
      -- indices
      have lat : ∀ i, i < l.length → ∃ x c, l[i]? = some (x, c) := fun i hi => ⟨l[i].1, l[i].2, by simp [hi]⟩
      have llt : ∀ {j y}, l[j]? = some y → j < l.length := fun hj => (List.getElem?_eq_some_iff.1 hj).1
      have oat : ∀ i, i < l.length → ∃ o, ops[i]? = some o := fun i hi => by rw [D.len] at hi; exact ⟨ops[i], by simp [hi]⟩
      -- what comes ahead has smaller numbers
      have tlt : ∀ i, i < l.length → ∀ j ∈ T i, j < i := by
        intro i
        induction i using Nat.strongRecOn with
        | _ i ih =>
          intro hi j hj
          obtain ⟨o, ho⟩ := oat i hi
          obtain ⟨e, he, hb, h1⟩ := D.tt i o ho j hj
          have hlt := D.af i o ho e he hb
          rcases h1 with rfl | h1
          · exact hlt
          · have := ih e.on hlt (by omega) j h1; omega
      -- the text's slots
      have hSL : ∀ i, i ≤ l.length → SL l s V (fun k => decide (k < i)) (S i) := by
        intro i
        induction i with
        | zero => intro _; rw [s0]; exact ⟨rfl, fun i x c d _ h => by simp at h, fun t _ => rfl⟩
        | succ i ih =>
          intro hi
          obtain ⟨x, c, hxi⟩ := lat i (by omega)
          have hse := (hseen i (x, c) hxi).2.1
          rw [hse]
          exact (ih (by omega)).put D i x c hxi (by simp) (by simp) (fun k hk _ => by simp only [decide_eq_decide]; omega)
      have hslen : ∀ i, i ≤ l.length → (S i).length = s.length := fun i hi => (hSL i hi).1
      -- the relation in whatever order
      let Lf : Array Bool → Nat → Bool := fun L k => L.getD k false
      let I : Array Bool → Act → World → Prop := fun L a1 w1 => L.size = ops.size ∧ (∀ i, i < l.length → Lf L i = true → ∀ j ∈ T i, Lf L j = true) ∧ a1.defers = [] ∧
        ∃ σ1 β1 hb s1, Fut prot σ β w σ1 β1 w1 ∧ hs[cntK l (Lf L)]? = some hb ∧ WR prot σ1 β1 hb w1 ∧ FR σ1 β1 a1.tmps s1 ∧ SL l s V (Lf L) s1
      have key : ∀ (fuel : Nat) (L : Array Bool) (a1 : Act) (w1 : World), ((List.range l.length).filter fun k => !(Lf L k)).length ≤ fuel → I L a1 w1 → wpAny P .any ops Q fuel L a1 w1 := by
        -- all are listed
        have fin : ∀ (L : Array Bool) (a1 : Act) (w1 : World), I L a1 w1 → Region.ready .any ops L = [] → Q .normal a1 w1 := by
          intro L a1 w1 ⟨hsz, hcl, hdf, σ1, β1, hb, s1, hF, hhb, hW, hFR, hSL1⟩ hr
          have hall : ∀ i, i < l.length → Lf L i = true := by
            intro i
            induction i using Nat.strongRecOn with
            | _ i ih =>
              intro hi
              cases hLi : Lf L i with
              | true => rfl
              | false =>
                exfalso
                obtain ⟨o, ho⟩ := oat i hi
                have : i ∈ Region.ready .any ops L := mem_ready.2 ⟨by
                  have hlt : i < L.size := by rw [hsz, ← D.len]; exact hi
                  simp only [Lf, Array.getD_eq_getD_getElem?, Array.getElem?_eq_getElem hlt, Option.getD_some] at hLi ⊢
                  exact hLi, o, ho, fun e he hb => ih e.on (D.af i o ho e he hb) (by have := D.af i o ho e he hb; omega)⟩
                rw [hr] at this; cases this
          have hcn : cntK l (Lf L) = kc l l.length := by
            rw [kc_cnt l l.length (Nat.le_refl _)]
            exact cntK_eq fun k hk _ => by rw [hall k hk]; simp [hk]
          rw [hcn, t3] at hhb
          cases hhb
          have hss : s1 = S l.length := by
            apply List.ext_getElem?
            intro t
            have hk := hSL l.length (Nat.le_refl _)
            by_cases hw' : ∃ (j : Nat) (y : Op1) (c' : Cl), l[j]? = some (y, c') ∧ y.d = some t
            · obtain ⟨j, y, c', hy, hd'⟩ := hw'
              by_cases hlt : t < s.length
              · rw [hSL1.2.1 j y c' t hy (hall j (llt hy)) hd' hlt, hk.2.1 j y c' t hy (by simp [llt hy]) hd' hlt]
              · rw [List.getElem?_eq_none (by rw [hSL1.1]; omega), List.getElem?_eq_none (by rw [hk.1]; omega)]
            · rw [hSL1.2.2 t fun j y c' hy _ hd' => hw' ⟨j, y, c', hy, hd'⟩, hk.2.2 t fun j y c' hy _ hd' => hw' ⟨j, y, c', hy, hd'⟩]
          exact hQ _ _ _ ⟨σ1, β1, hF, hW, hdf, rfl, by rw [← sn, ← hss]; exact hFR⟩
        -- one more comes up
        have one : ∀ (L : Array Bool) (a1 : Act) (w1 : World) (K : Act → World → Prop), I L a1 w1 → ∀ i ∈ Region.ready .any ops L, (∀ a2 w2, I (L.setIfInBounds i true) a2 w2 → K a2 w2) → wpOp P ops Q i K a1 w1 := by
          intro L a1 w1 K ⟨hsz, hcl, hdf, σ1, β1, hb, s1, hF, hhb, hW, hFR, hSL1⟩ i hi hK
          obtain ⟨hun, o, ho, haft⟩ := mem_ready.1 hi
          have hil : i < l.length := by rw [D.len]; exact (Array.getElem?_eq_some_iff.1 ho).1
          have hiL : i < L.size := by rw [hsz, ← D.len]; exact hil
          have hLi : Lf L i = false := by
            simp only [Lf, Array.getD_eq_getD_getElem?, Array.getElem?_eq_getElem hiL, Option.getD_some] at hun ⊢
            exact hun
          obtain ⟨x, c, own, hxi, hcomp⟩ := D.op i o ho
          -- all that must come ahead has
          have ahead : ∀ j ∈ T i, Lf L j = true := by
            intro j hj
            obtain ⟨e, he, hbd, h1⟩ := D.tt i o ho j hj
            have hel := haft e he hbd
            rcases h1 with rfl | h1
            · exact hel
            · exact hcl e.on (by have := D.af i o ho e he hbd; omega) hel j h1
          have behind : ∀ j, j < l.length → i ∈ T j → Lf L j = false := by
            intro j hj hij
            cases hLj : Lf L j with
            | false => rfl
            | true => have := hcl j hj hLj i hij; rw [hLi] at this; cases this
          -- the slots
          have hagree : ∀ n ∈ looks1 x.g (opdsOf x.i), (S i)[n]? = s1[n]? := by
            refine (hSL i (by omega)).same D hSL1 i x c hxi fun j y c' hy ⟨d, hd1, hd2⟩ => ?_
            by_cases hji : j = i
            · subst hji; simp [hLi]
            · have := (D.dst j i y x c' c hji hy hxi d hd1).2 hd2
              split at this
              · rename_i hlt; rw [ahead j this]; simp [hlt]
              · rename_i hlt; rw [behind j (llt hy) this]; simp; omega
          obtain ⟨hev, hwt⟩ := evalO_congr hagree
          obtain ⟨z1, z2, z3, hc0, z4, z5, z6⟩ := hseen i (x, c) hxi
          simp only at z1 z2 z5 z6
          -- the count
          have hbnd : (∀ lo hi, c = .r lo hi → lo ≤ cntK l (Lf L) ∧ cntK l (Lf L) ≤ hi ∧ lo ≤ kc l i ∧ kc l i ≤ hi) ∧ (c = .k → cntK l (Lf L) = kc l i) := by
            refine ⟨fun lo hi' hcc => ?_, fun hcc => ?_⟩
            · subst hcc
              obtain ⟨e1, e2⟩ := D.cr i x lo hi' hxi
              rw [kc_cnt l i (by omega), e1, e2]
              refine ⟨cntK_le fun k hk _ h1 => ahead k (by simpa using h1), cntK_le fun k hk _ h1 => ?_, cntK_le fun k hk _ h1 => ?_, cntK_le fun k hk _ h1 => ?_⟩
              · cases hq : (T k).contains i with
                | false => rfl
                | true => have := behind k hk (by simpa using hq); rw [this] at h1; cases h1
              · have := tlt i hil k (by simpa using h1); simpa using this
              · cases hq : (T k).contains i with
                | false => rfl
                | true => have := tlt k hk i (by simpa using hq); simp at h1; omega
            · subst hcc
              rw [kc_cnt l i (by omega)]
              have hik : isK l i = true := (isK_at hxi).2 rfl
              refine cntK_eq fun k hk hkk => ?_
              rcases Nat.lt_trichotomy k i with hlt | he | hgt
              · rw [ahead k (D.ch k i hkk hik hlt hil)]; simp [hlt]
              · subst he; rw [hLi]; simp
              · rw [behind k hk (D.ch i k hik hkk hgt hk)]; simp; omega
          -- the next set
          have hLs : ∀ k, Lf (L.setIfInBounds i true) k = if k = i then true else Lf L k := by
            intro k
            simp only [Lf, Array.getD_eq_getD_getElem?, Array.getElem?_setIfInBounds]
            by_cases hk : i = k
            · subst hk; simp [hiL]
            · rw [if_neg hk, if_neg (fun e => hk e.symm)]
          have hnext : ∀ (a2 : Act) (w2 : World) (σ2 : Stab) (β2 : Nat → Option Loc) (h2 : Heap) (rv : Value) (u : VV), Fut prot σ1 β1 w1 σ2 β2 w2 → WR prot σ2 β2 h2 w2 → VR σ2 β2 rv u → a2 = a1.put o.dst rv → putD s1 x.d u = putD s1 x.d (V i) →
              hs[cntK l (Lf L) + if isK l i = true then 1 else 0]? = some h2 → I (L.setIfInBounds i true) a2 w2 := by
            intro a2 w2 σ2 β2 h2 rv u hF2 hW2 hV ha2 hu hh2
            subst ha2
            refine ⟨by simp [hsz], fun j hj hLj q hq => ?_, by cases o.dst <;> simpa [Act.put] using hdf, σ2, β2, h2, putD s1 x.d (V i), hF.trans hF2, ?_, hW2, ?_, ?_⟩
            · rw [hLs] at hLj ⊢
              split at hLj
              · rename_i hji; subst hji; rw [ahead q hq]; split <;> rfl
              · rw [hcl j hj hLj q hq]; split <;> rfl
            · rw [cntK_add (l := l) (f := Lf L) (g := Lf (L.setIfInBounds i true)) i hil hLi (by rw [hLs]; simp) (fun k hk => by rw [hLs, if_neg hk])]
              exact hh2
            · have := (hFR.mono hF2).put (d := o.dst) hV
              rw [← (compO_inv hcomp).2.1, hu] at this
              rw [(compO_inv hcomp).2.1] at this
              rw [(compO_inv hcomp).2.1]
              exact this
            · exact hSL1.put D i x c hxi hLi (by rw [hLs]; simp) (fun k hk _ => by rw [hLs, if_neg hk])
          unfold wpOp
          rw [ho]
          simp only
          have hGR := (compO_inv hcomp).2.2
          have hwt1 : wantedV s1 x.g = some (W i) := by rw [← hwt]; exact z1
          rw [wanted_rel hGR hFR hwt1]
          cases hWi : W i with
          | false =>
            simp only [Bool.false_eq_true, if_false]
            refine hK _ _ (hnext _ w1 σ1 β1 hb undef .undef .refl hW (.undef _) rfl (by rw [z3 hWi]) ?_)
            by_cases hik : isK l i = true
            · rw [if_pos hik]
              have hcc := (isK_at hxi).1 hik
              have e1 := hbnd.2 hcc
              rw [e1] at hhb ⊢
              rw [z4] at hhb; cases hhb
              exact z5 hWi hcc
            · rw [if_neg hik]; exact hhb
          | true =>
            simp only [if_true]
            left
            have z6 := z6 hWi
            -- the operation, in the heap at hand
            have step : ∃ h2 u, stepO call ⟨s1, hb⟩ x = some (.norm, ⟨putD s1 x.d u, h2⟩) ∧ putD s1 x.d u = putD s1 x.d (V i) ∧ hs[cntK l (Lf L) + if isK l i = true then 1 else 0]? = some h2 := by
              have fit : ∀ (h1 h2 : Heap), stepO call ⟨S i, h1⟩ x = some (.norm, ⟨S (i + 1), h2⟩) → ∃ u, stepO call ⟨s1, h1⟩ x = some (.norm, ⟨putD s1 x.d u, h2⟩) ∧ putD s1 x.d u = putD s1 x.d (V i) := by
                intro h1 h2 hst
                obtain ⟨v, e1, e2⟩ := stepO_congr hagree hst
                refine ⟨v, e2, ?_⟩
                cases hxd : x.d with
                | none => rfl
                | some d =>
                  by_cases hlt : d < s.length
                  · have e3 : (S (i + 1))[d]? = some v := by rw [e1, hxd, putD_at, if_pos rfl, if_pos (by rw [hslen i (by omega)]; exact hlt)]
                    have e4 : (S (i + 1))[d]? = some (V i) := by rw [z2, hxd, putD_at, if_pos rfl, if_pos (by rw [hslen i (by omega)]; exact hlt)]
                    rw [e3] at e4; cases e4; rfl
                  · simp only [putD]
                    rw [List.set_eq_of_length_le (by rw [hSL1.1]; omega), List.set_eq_of_length_le (by rw [hSL1.1]; omega)]
              cases c with
              | p =>
                have hik : ¬ isK l i = true := fun h => by have := (isK_at hxi).1 h; cases this
                obtain ⟨h1, hst⟩ := z6
                have hst' := stepO_p (D.cp i x hxi) hst hb
                obtain ⟨u, q1, q2⟩ := fit _ _ hst'
                exact ⟨hb, u, q1, q2, by rw [if_neg hik]; exact hhb⟩
              | r lo hi' =>
                have hik : ¬ isK l i = true := fun h => by have := (isK_at hxi).1 h; cases this
                obtain ⟨b1, b2, b3, b4⟩ := hbnd.1 lo hi' rfl
                obtain ⟨h1, hst, hck1⟩ := z6
                have hst' : stepO call ⟨S i, hb⟩ x = some (.norm, ⟨S (i + 1), hb⟩) := by
                  split at hck1
                  · rename_i he
                    have e0 : kc l i = cntK l (Lf L) := by omega
                    rw [e0] at z4
                    rw [hhb] at z4; cases z4
                    have := hck _ hck1 (cntK l (Lf L)) (by simp only; omega) (by simp only; omega) hb hhb
                    simp only at this
                    rw [this] at hst; exact hst
                  · exact hck _ hck1 (cntK l (Lf L)) b1 (by simp only; omega) hb hhb
                obtain ⟨u, q1, q2⟩ := fit _ _ hst'
                exact ⟨hb, u, q1, q2, by rw [if_neg hik]; exact hhb⟩
              | k =>
                have hik : isK l i = true := (isK_at hxi).2 rfl
                obtain ⟨h1, hst, hnx⟩ := z6
                have e1 := hbnd.2 rfl
                rw [e1] at hhb ⊢
                rw [z4] at hhb; cases hhb
                obtain ⟨u, q1, q2⟩ := fit _ _ hst
                exact ⟨h1, u, q1, q2, by rw [if_pos hik]; exact hnx⟩
            obtain ⟨h2, u, hst, hu, hh2⟩ := step
            rcases stepO_sound hcall hcomp hst hFR hW with ⟨_, u', hu', hgo⟩ | ⟨v, hv, _⟩
            · refine hgo K Q fun rv w2 σ2 β2 hF2 hW2 hV => hK _ _ (hnext _ w2 σ2 β2 h2 rv u' hF2 hW2 hV rfl ?_ hh2)
              rw [(compO_inv hcomp).2.1] at hu ⊢
              rw [(compO_inv hcomp).2.1] at hu'
              rw [← hu']; exact hu
            · cases hv
        intro fuel
        induction fuel with
        | zero =>
          intro L a1 w1 hfu hI
          have hr : Region.ready .any ops L = [] := by
            cases hrr : Region.ready .any ops L with
            | nil => rfl
            | cons i r =>
              have hi : i ∈ Region.ready .any ops L := by rw [hrr]; simp
              obtain ⟨hun, o, ho, _⟩ := mem_ready.1 hi
              have hil : i < l.length := by rw [D.len]; exact (Array.getElem?_eq_some_iff.1 ho).1
              have hiL : i < L.size := by rw [hI.1, ← D.len]; exact hil
              have hLi : Lf L i = false := by
                simp only [Lf, Array.getD_eq_getD_getElem?, Array.getElem?_eq_getElem hiL, Option.getD_some] at hun ⊢
                exact hun
              have : i ∈ (List.range l.length).filter fun k => !(Lf L k) := by simp [hil, hLi]
              have hpos := List.length_pos_of_mem this
              omega
          exact ⟨hr, fin L a1 w1 hI hr⟩
        | succ fuel ih =>
          intro L a1 w1 hfu hI
          refine ⟨fin L a1 w1 hI, fun i hi => one L a1 w1 _ hI i hi fun a2 w2 hI2 => ih _ a2 w2 ?_ hI2⟩
          obtain ⟨hun, o, ho, _⟩ := mem_ready.1 hi
          have hil : i < l.length := by rw [D.len]; exact (Array.getElem?_eq_some_iff.1 ho).1
          have hiL : i < L.size := by rw [hI.1, ← D.len]; exact hil
          have hLi : Lf L i = false := by
            simp only [Lf, Array.getD_eq_getD_getElem?, Array.getElem?_eq_getElem hiL, Option.getD_some] at hun ⊢
            exact hun
          -- one fewer is open
          have cnt : ∀ (n : Nat), ((List.range n).filter fun k => !(Lf (L.setIfInBounds i true) k)).length + (if i < n then 1 else 0) = ((List.range n).filter fun k => !(Lf L k)).length := by
            intro n
            induction n with
            | zero => simp
            | succ n ihn =>
              rw [List.range_succ, List.filter_append, List.filter_append, List.length_append, List.length_append, ← ihn]
              have hLs : ∀ k, Lf (L.setIfInBounds i true) k = if k = i then true else Lf L k := by
                intro k
                simp only [Lf, Array.getD_eq_getD_getElem?, Array.getElem?_setIfInBounds]
                by_cases hk : i = k
                · subst hk; simp [hiL]
                · rw [if_neg hk, if_neg (fun e => hk e.symm)]
              simp only [List.filter_cons, List.filter_nil, hLs n]
              by_cases hn : n = i
              · subst hn
                simp [hLi]
              · rw [if_neg hn]
                have e : (i < n + 1) ↔ (i < n) := by omega
                simp only [e]
                omega
          have := cnt l.length
          rw [if_pos hil] at this
          omega
      refine wp_region_any hm (key _ _ _ _ (by
        have h1 := List.length_filter_le (fun k => !(Lf (Array.replicate ops.size false) k)) (List.range l.length)
        exact Nat.le_trans h1 (by rw [List.length_range, D.len]; exact Nat.le_refl _)) ?_)
      have hz : ∀ k, Lf (Array.replicate ops.size false) k = false := by
        intro k
        simp only [Lf, Array.getD_eq_getD_getElem?, Array.getElem?_replicate]
        split <;> rfl
      refine ⟨by simp, fun i _ h => (by rw [hz] at h; cases h), hd, σ, β, h, s, Fut.heap rfl rfl rfl rfl, ?_, hw.heap rfl, hf, rfl, fun i x c d _ h => (by rw [hz] at h; cases h), fun t _ => rfl⟩
      have : cntK l (Lf (Array.replicate ops.size false)) = 0 := by
        unfold cntK
        rw [List.filter_eq_nil_iff.2]
        · rfl
        · intro k _; simp [hz]
      rw [this]
      exact t1 0 h rfl
    · cases hx
  · cases hx

end Go.Vm
