/-
  Vm: code and functions (own work): what the abstract machine tells of a call, the machine does.
-/
import Derived.Test.YtpingdgbndmcnaaVmDraw3
namespace Go.Vm
open Go Go.RowKit
set_option linter.unusedVariables false
set_option linter.unusedSimpArgs false

variable {P : Program} {prot : Nat → Prop} {σ : Stab} {β : Nat → Option Loc} {h : Heap} {w : World} {a : Act} {s : List VV}

theorem ops_sound {call : CallSem} (hcall : CallsOK P call) {refs : List Nat} {owns : List (Nat × Nat)} {id : Nat} {ops : Array Oper} : ∀ (l : List Oper) (k : Nat) (lo : List Op1), (∀ j, l[j]? = ops[k + j]?) → compOps P refs owns id ops k l = some lo →
    ∀ {σ : Stab} {β : Nat → Option Loc} {s : List VV} {h : Heap} {a : Act} {w : World} {out : Out} {st' : St} {Q : Exit → Act → World → Prop}, execOps call lo ⟨s, h⟩ = some (out, st') → FR σ β a.tmps s → WR prot σ β h w → a.defers = [] → (∀ e a' w', SimPost prot σ β w out st' e a' w' → Q e a' w') →
    wpOps P ops Q (List.range' k l.length) a w
  | [], k, lo, hl, hc, σ, β, s, h, a, w, out, st', Q, hx, hf, hw, hd, hQ => by
    cases hc
    cases hx
    exact hQ _ _ _ ⟨σ, β, .refl, hw, hd, rfl, hf⟩
  | o :: l, k, lo, hl, hc, σ, β, s, h, a, w, out, st', Q, hx, hf, hw, hd, hQ => by
    have ho : ops[k]? = some o := by have := hl 0; simpa using this.symm
    simp only [compOps] at hc
    split at hc
    · rename_i x lr e1 e2
      cases hc
      have hl' : ∀ j, l[j]? = ops[k + 1 + j]? := fun j => by have := hl (j + 1); simpa [Nat.add_assoc, Nat.add_comm 1 j] using this
      rw [List.length_cons, List.range'_succ]
      simp only [wpOps, ho]
      obtain ⟨c1, c2, c3⟩ := compO_inv e1
      simp only [execOps] at hx
      split at hx
      · rename_i hwt
        rw [wanted_rel c3 hf hwt]
        simp only [if_true]
        left
        split at hx
        · rename_i st1 hst
          obtain ⟨s1, h1⟩ := st1
          rcases stepO_sound hcall e1 hst hf hw with ⟨_, u, hu, hgo⟩ | ⟨v, hv, _⟩
          · refine hgo _ Q fun rv w' σ' β' hF hW hV => ?_
            refine ops_sound hcall l (k + 1) lr hl' e2 hx ?_ hW ?_ fun e a' w'' hS => hQ e a' w'' (hS.after hF)
            · rw [hu]; exact (hf.mono hF).put o.dst hV
            · cases o.dst <;> simpa [Act.put] using hd
          · cases hv
        · rename_i hne
          cases hst : stepO call ⟨s, h⟩ x with
          | none => rw [hst] at hx; cases hx
          | some r =>
            obtain ⟨o1, st1⟩ := r
            obtain ⟨s1, h1⟩ := st1
            rcases stepO_sound hcall e1 hst hf hw with ⟨ho1, _⟩ | ⟨v, hv, hs1, hgo⟩
            · subst ho1; exact absurd hst (hne _)
            · rw [hst] at hx
              cases hx
              subst hv hs1
              exact hgo _ Q fun rv w' σ' β' hF hW hV => hQ _ _ _ ⟨σ', β', hF, hW, hd, rv, rfl, hV⟩
      · rename_i hwt
        rw [wanted_rel c3 hf hwt]
        simp only [Bool.false_eq_true, if_false]
        refine ops_sound hcall l (k + 1) lr hl' e2 hx ?_ hw ?_ hQ
        · rw [c2]; exact hf.put o.dst (.undef _)
        · cases o.dst <;> simpa [Act.put] using hd
      · cases hx
    · cases hc

theorem findL_some {refs : List Nat} {owns : List (Nat × Nat)} {l : Nat} : ∀ {c : Code} {ir : IR}, compC P refs owns c = some ir → ((findL ir l).isSome = (findLabel c l).isSome)
  | .seq x y, ir, h => by
    simp only [compC] at h
    split at h
    · rename_i x' y' h1 h2
      cases h
      have i1 := findL_some (l := l) h1
      have i2 := findL_some (l := l) h2
      simp only [findL, findLabel]
      cases hx : findL x' l with
      | none =>
        rw [hx] at i1
        cases hy : findLabel x l with
        | none => exact i2
        | some _ => rw [hy] at i1; cases i1
      | some _ =>
        rw [hx] at i1
        cases hy : findLabel x l with
        | none => rw [hy] at i1; cases i1
        | some _ => rfl
    · cases h
  | .label l', ir, h => by
    cases h
    simp only [findL, findLabel]
    split <;> rfl
  | .skip, ir, h => by cases h; rfl
  | .region id ops d, ir, h => by
    simp only [compC] at h
    split at h
    · obtain ⟨z, _, rfl⟩ := map_some h; rfl
    · obtain ⟨z, _, rfl⟩ := map_some h; rfl
  | .cond c x y, ir, h => by
    simp only [compC] at h
    split at h
    · cases h; rfl
    · cases h
  | .block id b, ir, h => by simp only [compC] at h; obtain ⟨z, _, rfl⟩ := map_some h; rfl
  | .loop b, ir, h => by simp only [compC] at h; obtain ⟨z, _, rfl⟩ := map_some h; rfl
  | .exit id, ir, h => by cases h; rfl
  | .scope b, ir, h => by simp only [compC] at h; obtain ⟨z, _, rfl⟩ := map_some h; rfl
  | .goto l', ir, h => by cases h; rfl
  | .ret, ir, h => by cases h; rfl
  | .rangeFunc _ _ _ _, ir, h => by cases h
  | .refuse _, ir, h => by cases h

/-- What a piece of code does, is done. -/
def Does (P : Program) (prot : Nat → Prop) (c : Code) (run : St → Option (Out × St)) : Prop :=
  ∀ (σ : Stab) (β : Nat → Option Loc) (s : List VV) (h : Heap) (a : Act) (w : World) (out : Out) (st' : St), run ⟨s, h⟩ = some (out, st') → FR σ β a.tmps s → WR prot σ β h w → a.defers = [] → c.wp P (SimPost prot σ β w out st') a w

theorem Does.wp {c : Code} {run : St → Option (Out × St)} (hd : Does P prot c run) {out : Out} {st' : St} (hx : run ⟨s, h⟩ = some (out, st')) (hf : FR σ β a.tmps s) (hw : WR prot σ β h w) (hda : a.defers = []) {Q : Exit → Act → World → Prop} (hQ : ∀ e a' w', SimPost prot σ β w out st' e a' w' → Q e a' w') : c.wp P Q a w :=
  wp_mono (hd σ β s h a w out st' hx hf hw hda) hQ

theorem loop_go {c : Code} {run : St → Option (Out × St)} (hd : Does P prot c run) : ∀ (n : Nat) (σ : Stab) (β : Nat → Option Loc) (s : List VV) (h : Heap) (a : Act) (w : World) (out : Out) (st' : St), iter run n ⟨s, h⟩ = some (out, st') → FR σ β a.tmps s → WR prot σ β h w → a.defers = [] →
    ∀ (b : Frame) (k : List Item) (cs : List Frame), ∃ e a' w', SimPost prot σ β w out st' e a' w' ∧ Arrives P (lone (b.at a (.code c :: .inLoop c :: k)) cs w) b k cs e a' w'
  | 0, σ, β, s, h, a, w, out, st', hx, hf, hw, hda, b, k, cs => by cases hx
  | n + 1, σ, β, s, h, a, w, out, st', hx, hf, hw, hda, b, k, cs => by
    simp only [iter] at hx
    split at hx
    · rename_i st1 hr
      obtain ⟨s1, h1⟩ := st1
      obtain ⟨e, a1, w1, ⟨σ1, β1, hF, hW, hd1, he, hf1⟩, harr⟩ := hd σ β s h a w _ _ hr hf hw hda b (.inLoop c :: k) cs
      subst he
      obtain ⟨e2, a2, w2, hS, harr2⟩ := loop_go hd n σ1 β1 s1 h1 a1 w1 out st' hx hf1 hW hd1 b k cs
      exact ⟨e2, a2, w2, hS.after hF, .of_steps (Steps.trans harr (.one step_inLoop)) harr2⟩
    · rename_i hne
      obtain ⟨e, a1, w1, hS, harr⟩ := hd σ β s h a w _ _ hx hf hw hda b (.inLoop c :: k) cs
      refine ⟨e, a1, w1, hS, .pass (x := .inLoop c) rfl (fun a' w' => .inl ?_) harr⟩
      intro he
      subst he
      obtain ⟨σ1, β1, hF, hW, hd1, hER⟩ := hS
      cases out <;> simp only at hER
      · exact hne _ hx
      · cases hER.1
      · cases hER.1
      · cases hER.1
      · obtain ⟨rv, h1, _⟩ := hER; cases h1

theorem jump_go {c : Code} {frm : Nat → St → Option (Out × St)} {has : Nat → Bool} (hhas : ∀ l, has l = (findLabel c l).isSome) (hfrm : ∀ l rest, findLabel c l = some rest → Does P prot rest (frm l)) :
    ∀ (m : Nat) (X : Code) (σ : Stab) (β : Nat → Option Loc) (a : Act) (w : World) (o1 : Out) (st1 : St) (out : Out) (st' : St), X.wp P (SimPost prot σ β w o1 st1) a w → jumpIter frm has m (some (o1, st1)) = some (out, st') →
    ∀ (b : Frame) (k : List Item) (cs : List Frame), ∃ e a' w', SimPost prot σ β w out st' e a' w' ∧ Arrives P (lone (b.at a (.code X :: .inScope c :: k)) cs w) b k cs e a' w' := by
  intro m
  induction m with
  | zero =>
    intro X σ β a w o1 st1 out st' hX hj b k cs
    have hj' : (o1 = out ∧ st1 = st') ∧ (∀ l, o1 = .goto l → has l = false) := by
      unfold jumpIter at hj
      split at hj
      · rename_i l st heq
        cases heq
        split at hj
        · cases hj
        · rename_i hh; cases hj; exact ⟨⟨rfl, rfl⟩, fun l' e => by cases e; simpa using hh⟩
      · rename_i hne; cases hj; exact ⟨⟨rfl, rfl⟩, fun l e => by subst e; exact absurd rfl (hne _ _)⟩
    obtain ⟨⟨rfl, rfl⟩, hg⟩ := hj'
    obtain ⟨e, a1, w1, hS, harr⟩ := hX b (.inScope c :: k) cs
    refine ⟨e, a1, w1, hS, ?_⟩
    obtain ⟨σ1, β1, hF, hW, hd1, hER⟩ := hS
    cases o1 <;> simp only at hER
    · obtain ⟨rfl, _⟩ := hER; exact Steps.trans harr (.one step_inScope)
    · obtain ⟨rfl, _⟩ := hER; exact fun k' hk => harr k' (by simp [exitTo, hk])
    · rename_i l
      obtain ⟨rfl, _⟩ := hER
      have hn := hg l rfl
      rw [hhas l] at hn
      exact fun k' hk => harr k' (by
        have : findLabel c l = none := by cases hq : findLabel c l <;> simp_all
        simp [gotoIn, this, hk])
    · obtain ⟨rfl, _⟩ := hER; exact harr
    · obtain ⟨rv, rfl, _⟩ := hER; exact harr
  | succ m ih =>
    intro X σ β a w o1 st1 out st' hX hj b k cs
    by_cases hgo : ∃ l, o1 = .goto l ∧ has l = true
    · obtain ⟨l, rfl, hl⟩ := hgo
      simp only [jumpIter, hl, if_true] at hj
      obtain ⟨e, a1, w1, ⟨σ1, β1, hF, hW, hd1, rfl, hf1⟩, harr⟩ := hX b (.inScope c :: k) cs
      cases hr : frm l st1 with
      | none =>
        rw [hr] at hj
        cases m <;> simp [jumpIter] at hj
      | some q =>
        obtain ⟨o2, st2⟩ := q
        rw [hr] at hj
        rw [hhas l] at hl
        obtain ⟨rest, hrest⟩ := Option.isSome_iff_exists.1 hl
        have hD := hfrm l rest hrest
        obtain ⟨s1, h1⟩ := st1
        obtain ⟨e2, a2, w2, hS, harr2⟩ := ih rest σ1 β1 a1 w1 o2 st2 out st' (hD σ1 β1 s1 h1 a1 w1 o2 st2 hr hf1 hW hd1) hj b k cs
        have hg : gotoIn l (.inScope c :: k) = some (.code rest :: .inScope c :: k) := by simp [gotoIn, hrest]
        exact ⟨e2, a2, w2, hS.after hF, .of_steps (harr _ hg) harr2⟩
    · have hj' : o1 = out ∧ st1 = st' := by
        simp only [jumpIter] at hj
        split at hj
        · rename_i l st heq
          cases heq
          split at hj
          · rename_i hh; exact absurd ⟨l, rfl, hh⟩ hgo
          · cases hj; exact ⟨rfl, rfl⟩
        · cases hj; exact ⟨rfl, rfl⟩
      obtain ⟨rfl, rfl⟩ := hj'
      obtain ⟨e, a1, w1, hS, harr⟩ := hX b (.inScope c :: k) cs
      refine ⟨e, a1, w1, hS, ?_⟩
      obtain ⟨σ1, β1, hF, hW, hd1, hER⟩ := hS
      cases o1 <;> simp only at hER
      · obtain ⟨rfl, _⟩ := hER; exact Steps.trans harr (.one step_inScope)
      · obtain ⟨rfl, _⟩ := hER; exact fun k' hk => harr k' (by simp [exitTo, hk])
      · rename_i l
        obtain ⟨rfl, _⟩ := hER
        exact fun k' hk => harr k' (by
          have : findLabel c l = none := by
            cases hq : findLabel c l with
            | none => rfl
            | some _ => exact absurd ⟨l, rfl, by rw [hhas l, hq]; rfl⟩ hgo
          simp [gotoIn, this, hk])
      · obtain ⟨rfl, _⟩ := hER; exact harr
      · obtain ⟨rv, rfl, _⟩ := hER; exact harr

theorem code_sound {call : CallSem} (hcall : CallsOK P call) (hm : P.follows .mixedOrders = true) {refs : List Nat} {owns : List (Nat × Nat)} (n : Nat) : ∀ (c : Code) (ir : IR), compC P refs owns c = some ir →
    Does P prot c (exec call n ir) ∧ ∀ l rest, findLabel c l = some rest → Does P prot rest (execFrom call n ir l)
  | .skip, ir, hc => by
    cases hc
    refine ⟨fun σ β s h a w out st' hx hf hw hd => ?_, fun l rest hl => by cases hl⟩
    cases hx
    exact wp_skip ⟨σ, β, .refl, hw, hd, rfl, hf⟩
  | .region id ops d, ir, hc => by
    refine ⟨fun σ β s h a w out st' hx hf hw hd => ?_, fun l rest hl => by cases hl⟩
    simp only [compC] at hc
    split at hc
    · rename_i hdr
      obtain ⟨l, hl, rfl⟩ := map_some hc
      subst hdr
      exact draw_sound hcall hm hl hx hf hw hd fun _ _ _ h => h
    · rename_i hdr
      obtain ⟨l, hl, rfl⟩ := map_some hc
      have hdf : d = false := by simpa using hdr
      subst hdf
      have := ops_sound (Q := SimPost prot σ β w out st') hcall ops.toList 0 l (fun j => by simp) hl hx hf hw hd fun _ _ _ h => h
      refine wp_region ?_
      rw [List.range_eq_range']
      simpa using this
  | .seq x y, ir, hc => by
    simp only [compC] at hc
    split at hc
    · rename_i x' y' h1 h2
      cases hc
      obtain ⟨x1, x2⟩ := code_sound hcall hm n x x' h1
      obtain ⟨y1, y2⟩ := code_sound hcall hm n y y' h2
      have seq : ∀ (X : Code) (run : St → Option (Out × St)), Does P prot X run → Does P prot (.seq X y) (fun st => match run st with | some (.norm, st1) => exec call n y' st1 | x => x) := by
        intro X run hX σ β s h a w out st' hx hf hw hd
        simp only at hx
        refine wp_seq ?_
        split at hx
        · rename_i st1 hr
          obtain ⟨s1, h1⟩ := st1
          refine hX.wp hr hf hw hd ?_
          rintro e a' w' ⟨σ', β', hF, hW, hd', rfl, hf'⟩
          exact y1.wp hx hf' hW hd' fun e a'' w'' hS => hS.after hF
        · rename_i hne
          refine hX.wp hx hf hw hd ?_
          rintro e a' w' hS
          have hS' := hS
          obtain ⟨σ', β', hF, hW, hd', hER⟩ := hS
          cases out <;> simp only at hER
          · exact absurd hx (hne _)
          · obtain ⟨rfl, _⟩ := hER; exact hS'
          · obtain ⟨rfl, _⟩ := hER; exact hS'
          · obtain ⟨rfl, _⟩ := hER; exact hS'
          · obtain ⟨rv, rfl, _⟩ := hER; exact hS'
      refine ⟨fun σ β s h a w out st' hx hf hw hd => seq x _ x1 σ β s h a w out st' (by simp only [exec] at hx; exact hx) hf hw hd, fun l rest hl => ?_⟩
      simp only [findLabel] at hl
      have hsome := findL_some (l := l) h1
      cases hq : findLabel x l with
      | some rx =>
        rw [hq] at hl hsome
        cases hl
        obtain ⟨q, hq'⟩ := Option.isSome_iff_exists.1 (show (findL x' l).isSome = true by rw [hsome]; rfl)
        intro σ β s h a w out st' hx hf hw hd
        simp only [execFrom, hq'] at hx
        exact seq rx _ (x2 l rx hq) σ β s h a w out st' hx hf hw hd
      | none =>
        rw [hq] at hl hsome
        simp only at hl
        have hq' : findL x' l = none := by cases hh : findL x' l <;> simp_all
        intro σ β s h a w out st' hx hf hw hd
        simp only [execFrom, hq'] at hx
        exact y2 l rest hl σ β s h a w out st' hx hf hw hd
    · cases hc
  | .cond c x y, ir, hc => by
    refine ⟨fun σ β s h a w out st' hx hf hw hd => ?_, fun l rest hl => by cases hl⟩
    simp only [compC] at hc
    split at hc
    · rename_i c' x' y' hcc h1 h2
      cases hc
      obtain ⟨x1, x2⟩ := code_sound hcall hm n x x' h1
      obtain ⟨y1, y2⟩ := code_sound hcall hm n y y' h2
      simp only [exec] at hx
      split at hx
      · rename_i t ht
        have := opd_rel hcc hf
        rw [ht] at this
        have q := scalar_of this
        cases t with
        | true => exact wp_cond_true q (x1 σ β s h a w out st' (by simpa using hx) hf hw hd)
        | false => exact wp_cond_false q (y1 σ β s h a w out st' (by simpa using hx) hf hw hd)
      · cases hx
    · cases hc
  | .block id b, ir, hc => by
    refine ⟨fun σ β s h a w out st' hx hf hw hd => ?_, fun l rest hl => by cases hl⟩
    simp only [compC] at hc
    obtain ⟨b', hb, rfl⟩ := map_some hc
    obtain ⟨b1, b2⟩ := code_sound hcall hm n b b' hb
    simp only [exec] at hx
    refine wp_block ?_
    split at hx
    · rename_i id' st1 hr
      refine b1.wp hr hf hw hd ?_
      rintro e a' w' ⟨σ', β', hF, hW, hd', rfl, hf'⟩
      simp only [Exit.inBlock]
      split at hx
      · rename_i hid; rw [if_pos hid]; cases hx; exact ⟨σ', β', hF, hW, hd', rfl, hf'⟩
      · rename_i hid; rw [if_neg hid]; cases hx; exact ⟨σ', β', hF, hW, hd', rfl, hf'⟩
    · rename_i hne
      refine b1.wp hx hf hw hd ?_
      rintro e a' w' hS
      have hS' := hS
      obtain ⟨σ', β', hF, hW, hd', hER⟩ := hS
      cases out <;> simp only at hER
      · obtain ⟨rfl, _⟩ := hER; exact hS'
      · exact absurd hx (hne _ _)
      · obtain ⟨rfl, _⟩ := hER; exact hS'
      · obtain ⟨rfl, _⟩ := hER; exact hS'
      · obtain ⟨rv, rfl, _⟩ := hER; exact hS'
  | .loop b, ir, hc => by
    refine ⟨fun σ β s h a w out st' hx hf hw hd => ?_, fun l rest hl => by cases hl⟩
    simp only [compC] at hc
    obtain ⟨b', hb, rfl⟩ := map_some hc
    obtain ⟨b1, b2⟩ := code_sound hcall hm n b b' hb
    simp only [exec] at hx
    intro fb k cs
    obtain ⟨e, a', w', hS, harr⟩ := loop_go b1 n σ β s h a w out st' hx hf hw hd fb k cs
    exact ⟨e, a', w', hS, .of_steps (.one step_loop) harr⟩
  | .exit id, ir, hc => by
    cases hc
    refine ⟨fun σ β s h a w out st' hx hf hw hd => ?_, fun l rest hl => by cases hl⟩
    cases hx
    exact wp_exit ⟨σ, β, .refl, hw, hd, rfl, hf⟩
  | .scope b, ir, hc => by
    refine ⟨fun σ β s h a w out st' hx hf hw hd => ?_, fun l rest hl => by cases hl⟩
    simp only [compC] at hc
    obtain ⟨b', hb, rfl⟩ := map_some hc
    obtain ⟨b1, b2⟩ := code_sound hcall hm n b b' hb
    simp only [exec] at hx
    cases hr : exec call n b' ⟨s, h⟩ with
    | none => rw [hr] at hx; cases n <;> simp [jumpIter] at hx
    | some q =>
      obtain ⟨o1, st1⟩ := q
      rw [hr] at hx
      intro fb k cs
      obtain ⟨e, a', w', hS, harr⟩ := jump_go (fun l => findL_some hb) b2 n b σ β a w o1 st1 out st' (b1 σ β s h a w o1 st1 hr hf hw hd) hx fb k cs
      exact ⟨e, a', w', hS, .of_steps (.one step_scope) harr⟩
  | .label l', ir, hc => by
    cases hc
    refine ⟨fun σ β s h a w out st' hx hf hw hd => ?_, fun l rest hl => ?_⟩
    · cases hx
      exact wp_label ⟨σ, β, .refl, hw, hd, rfl, hf⟩
    · simp only [findLabel] at hl
      split at hl
      · rename_i hh
        cases hl
        intro σ β s h a w out st' hx hf hw hd
        simp only [execFrom, hh, if_true] at hx
        cases hx
        exact wp_skip ⟨σ, β, .refl, hw, hd, rfl, hf⟩
      · cases hl
  | .goto l', ir, hc => by
    cases hc
    refine ⟨fun σ β s h a w out st' hx hf hw hd => ?_, fun l rest hl => by cases hl⟩
    cases hx
    exact wp_goto ⟨σ, β, .refl, hw, hd, rfl, hf⟩
  | .ret, ir, hc => by
    cases hc
    refine ⟨fun σ β s h a w out st' hx hf hw hd => ?_, fun l rest hl => by cases hl⟩
    cases hx
    exact wp_ret ⟨σ, β, .refl, hw, hd, rfl, hf⟩
  | .rangeFunc _ _ _ _, ir, hc => by cases hc
  | .refuse _, ir, hc => by cases hc

theorem res_rel {rs : List ResultVar} : ∀ {rv : List ResV} {vs : List VV}, compR P rs = some rv → FR σ β a.tmps s → WR prot σ β h w → resAll ⟨s, h⟩ rv = some vs →
    ∃ xs : List Value, (rs.mapM (fun | .tmp t => pure (a.tmps.getD t undef) | .cell b t => do loadVar t (← asAddr (a.tmps.getD b undef))) : Sem (List Value)).run P w = .ok xs w ∧ xs.length = vs.length ∧ ∀ (i : Nat) (x : Value) (v : VV), xs[i]? = some x → vs[i]? = some v → VR σ β x v := by
  induction rs with
  | nil =>
    intro rv vs hc hf hw hr
    cases hc; cases hr
    exact ⟨[], rfl, rfl, fun i x v h => by simp at h⟩
  | cons r rs ih =>
    intro rv vs hc hf hw hr
    have slot : ∀ n u, s[n]? = some u → VR σ β (a.tmps.getD n undef) u := by
      intro n u hu
      have hlt : n < a.tmps.size := by rw [hf.1]; exact (List.getElem?_eq_some_iff.1 hu).1
      have : a.tmps.getD n undef = a.tmps[n] := by simp [hlt]
      rw [this]
      exact hf.2 n _ u (by simp [hlt]) hu
    have fin : ∀ (r1 : ResV) (l : List ResV) (y : Value), rv = r1 :: l → compR P rs = some l → (∀ u, resOf ⟨s, h⟩ r1 = some u → ∃ x, ((fun | .tmp t => pure (a.tmps.getD t undef) | .cell b t => do loadVar t (← asAddr (a.tmps.getD b undef)) : ResultVar → Sem Value) r).run P w = .ok x w ∧ VR σ β x u) →
        ∃ xs : List Value, ((r :: rs).mapM (fun | .tmp t => pure (a.tmps.getD t undef) | .cell b t => do loadVar t (← asAddr (a.tmps.getD b undef))) : Sem (List Value)).run P w = .ok xs w ∧ xs.length = vs.length ∧ ∀ (i : Nat) (x : Value) (v : VV), xs[i]? = some x → vs[i]? = some v → VR σ β x v := by
      intro r1 l y hrv hl hone
      subst hrv
      simp only [resAll] at hr
      split at hr
      · rename_i u hu
        split at hr
        · rename_i us hus
          cases hr
          obtain ⟨x, hx, hxr⟩ := hone u hu
          obtain ⟨xs, h1, h2, h3⟩ := ih hl hf hw hus
          refine ⟨x :: xs, ?_, by simp [h2], fun i x' v' hx' hv' => ?_⟩
          · rw [List.mapM_cons, run_bind_ok hx, run_bind_ok h1]; rfl
          · cases i with
            | zero => simp at hx' hv'; subst hx' hv'; exact hxr
            | succ i => exact h3 i x' v' (by simpa using hx') (by simpa using hv')
        · cases hr
      · cases hr
    cases r with
    | tmp t =>
      simp only [compR] at hc
      obtain ⟨l, hl, rfl⟩ := map_some hc
      refine fin (.t t) l undef rfl hl fun u hu => ⟨_, rfl, slot t u hu⟩
    | cell b t =>
      simp only [compR] at hc
      split at hc
      · rename_i n ag l hn hg hl
        split at hc
        · rename_i h1
          cases hc
          refine fin (.cell b ag n) l undef rfl hl fun u hu => ?_
          simp only [resOf] at hu
          split at hu
          · rename_i id off hp
            split at hu
            · rename_i cells fr hobj
              have hb : s[b]? = some (.ptr id off) := by
                rw [List.getD_eq_getElem?_getD] at hp
                cases hq : s[b]? with
                | none => rw [hq] at hp; cases hp
                | some q => rw [hq] at hp; simp at hp; rw [hp]
              have hV := slot b _ hb
              generalize hX : a.tmps.getD b undef = X at hV
              obtain ⟨L, hL, hO⟩ := hw.obj id _ hobj
              obtain ⟨o1, o2, o3, o4, o5, o6, o7⟩ := hO
              cases hV with
              | ptr _ _ L' hL' hbx =>
                rw [hL] at hL'; cases hL'
                obtain ⟨x, hx, hxr⟩ := run_loadVar_cells (P := P) (B := ⟨L.blk, off, none⟩) (cs := (cells.drop off).take n) rfl hn hg (by simpa using h1) (fun c hc => o5 c (List.mem_of_mem_drop (List.mem_of_mem_take hc))) (fun j c hj => by
                    rw [List.getElem?_take] at hj
                    split at hj
                    · rw [List.getElem?_drop] at hj
                      obtain ⟨x, hx1, hx2, _⟩ := o7 _ c hj
                      exact ⟨x, hx1, hx2⟩
                    · cases hj) hu
                refine ⟨x, ?_, hxr⟩
                simp only [hX]
                rw [run_bind_ok (x := ⟨L.blk, off, none⟩) (w1 := w) rfl]; exact hx
            · cases hu
          · cases hu
        · cases hc
      · cases hc

/-- The program's functions, as the small code tells them. -/
def TblOK (P : Program) (F : Nat → Option FnIR) : Prop :=
  P.follows .mixedOrders = true ∧ ∀ f fn, F f = some fn → ∃ fnc refs owns, P.funcs[f]? = some fnc ∧ (fnc.name == "runtime.NumGoroutine") = false ∧ compF P refs owns fnc = some fn

theorem callF_sound {F : Nat → Option FnIR} (hT : TblOK P F) : ∀ n, CallsOK P (callF F n)
  | 0 => ⟨fun f args h r hr => (by cases hr), fun f args h r h' hr => (by cases hr)⟩
  | n + 1 => by
    have ih := callF_sound hT n
    refine ⟨fun f args h r hr => ?_, fun f args h r h' hr rargs prot σ β w hl hrel hw => ?_⟩
    · simp only [callF] at hr
      split at hr
      · rename_i fn hf
        obtain ⟨fnc, refs, owns, h1, h2, h3⟩ := hT.2 f fn hf
        refine ⟨fnc, h1, h2, ?_⟩
        unfold compF at h3
        split at h3
        · rename_i c hb; rw [hb]; rfl
        · cases h3
      · cases hr
    · simp only [callF] at hr
      split at hr
      · rename_i fn hf
        obtain ⟨fnc, refs, owns, h1, h2, h3⟩ := hT.2 f fn hf
        unfold compF at h3
        split at h3
        · rename_i c hb
          split at h3
          · rename_i b rs hcb hcr
            cases h3
            have hFR : FR σ β (rargs ++ Array.replicate (fnc.ntmps - rargs.size) undef) (args ++ List.replicate (fnc.ntmps - args.length) .undef) := by
              refine ⟨by simp [hl], fun i v u hv hu => ?_⟩
              rw [List.getElem?_append] at hu
              rw [Array.getElem?_append, hl] at hv
              split at hv
              · rename_i hlt; rw [if_pos hlt] at hu; exact hrel i v u hv hu
              · rename_i hlt
                rw [if_neg hlt, List.getElem?_replicate] at hu
                split at hu
                · cases hu; exact .undef _
                · cases hu
            have hD := (code_sound (prot := prot) ih hT.1 n c b hcb).1
            refine calls_of_wp h1 hb ?_
            unfold runFn at hr
            simp only at hr
            have done : ∀ (out : Out) (st : St), (out = .norm ∨ out = .ret) → exec (callF F n) n b ⟨args ++ List.replicate (fnc.ntmps - args.length) .undef, h⟩ = some (out, st) → (resAll st rs).map (fun vs => (CRes.ret (pack vs), st.h)) = some (r, h') →
                c.wp P (bodyPost P fnc (CPost prot σ β w r h')) { tmps := rargs ++ Array.replicate (fnc.ntmps - rargs.size) undef, defers := [] } w := by
              intro out st ho hx hres
              obtain ⟨vs, hvs, hh⟩ := map_some hres
              cases hh
              obtain ⟨s1, h1'⟩ := st
              refine hD.wp (a := { tmps := rargs ++ Array.replicate (fnc.ntmps - rargs.size) undef, defers := [] }) hx hFR hw rfl ?_
              rintro e a' w' ⟨σ', β', hF, hW, hd', hER⟩
              have hff : (e = .normal ∨ e = .ret) ∧ FR σ' β' a'.tmps s1 := by
                rcases ho with rfl | rfl <;> simp only at hER
                · exact ⟨.inl hER.1, hER.2⟩
                · exact ⟨.inr hER.1, hER.2⟩
              obtain ⟨xs, hrun, hlen, hxr⟩ := res_rel hcr hff.2 hW hvs
              have hresult : ∃ v, (results fnc a'.tmps).run P w' = .ok v w' ∧ VR σ' β' v (pack vs) := by
                have hm : (fnc.results.mapM (fun | .tmp t => pure (a'.tmps.getD t undef) | .cell b t => do loadVar t (← asAddr (a'.tmps.getD b undef))) : Sem (Array Value)).run P w' = .ok xs.toArray w' := by
                  rw [Array.mapM_eq_mapM_toList]
                  rw [Sem.run_map, hrun]; rfl
                have hrr : (results fnc a'.tmps).run P w' = .ok (if h : xs.toArray.size = 1 then xs.toArray[0] else .tuple xs.toArray) w' := by
                  unfold results
                  exact run_bind_ok hm
                match vs, xs, hlen, hxr, hrr with
                | [v], [x], _, hxr, hrr => exact ⟨x, hrr, hxr 0 x v rfl rfl⟩
                | [], [], _, hxr, hrr => exact ⟨.tuple #[], hrr, .tup #[] [] rfl (fun i v c h => by simp at h)⟩
                | v1 :: v2 :: vs, x1 :: x2 :: xs, hlen, hxr, hrr =>
                  refine ⟨.tuple (x1 :: x2 :: xs).toArray, ?_, .tup _ _ (by simpa using hlen) (fun i v c hv hc => hxr i v c (by simpa using hv) hc)⟩
                  rw [hrr, dif_neg (by simp)]
              obtain ⟨v, hv1, hv2⟩ := hresult
              have hpost : ∃ v, (results fnc a'.tmps).run P w' = .ok v w' ∧ CPost prot σ β w (.ret (pack vs)) h1' (.returned v) w' := ⟨v, hv1, σ', β', v, hF, hW, .inl ⟨_, rfl, rfl, hv2⟩⟩
              rcases hff.1 with rfl | rfl
              · exact ⟨hd', hpost⟩
              · exact ⟨hd', hpost⟩
            split at hr
            · rename_i st hx; exact done .norm st (.inl rfl) hx hr
            · rename_i st hx; exact done .ret st (.inr rfl) hx hr
            · rename_i v st hx
              cases hr
              obtain ⟨s1, h1'⟩ := st
              refine hD.wp (a := { tmps := rargs ++ Array.replicate (fnc.ntmps - rargs.size) undef, defers := [] }) hx hFR hw rfl ?_
              rintro e a' w' ⟨σ', β', hF, hW, hd', rv, rfl, hV⟩
              exact ⟨hd', σ', β', rv, hF, hW, .inr ⟨v, rfl, rfl, hV⟩⟩
            · cases hr
          · cases h3
        · cases h3
      · cases hr

end Go.Vm
