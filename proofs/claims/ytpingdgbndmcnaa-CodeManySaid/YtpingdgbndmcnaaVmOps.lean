/-
  Vm: every plain step is the machine's (own work).
-/
import Derived.Test.YtpingdgbndmcnaaVmStepA
namespace Go.Vm
open Go Go.RowKit
set_option linter.unusedVariables false
set_option linter.unusedSimpArgs false

variable {P : Program} {prot : Nat → Prop} {σ : Stab} {β : Nat → Option Loc} {h : Heap} {w : World} {a : Act} {s : List VV}

theorem map_some {α γ : Type} {x : Option α} {f : α → γ} {y : γ} (h : x.map f = some y) : ∃ z, x = some z ∧ f z = y := by
  cases x with
  | none => cases h
  | some z => cases h; exact ⟨z, rfl, rfl⟩

theorem step_sound {refs : List Nat} {own : Bool} {o : Oper} {i : Ins} {v : VV} {h' : Heap} (hc : compOp P refs own o = some i) (hs : stepI h (evalO s) i = some (v, h')) (hf : FR σ β a.tmps s) (hw : WR prot σ β h w) : Sim P o a prot σ β w v h' := by
  unfold compOp at hc
  cases hop : o.op <;> rw [hop] at hc <;> simp only at hc <;> try (cases hc; done)
  case move x => exact sim_mv (.inl hop) hc hs hf hw
  case assign x => exact sim_mv (.inr hop) hc hs hf hw
  case pick c x y =>
    split at hc
    · cases hc; exact sim_pick hop (by assumption) (by assumption) (by assumption) hs hf hw
    · cases hc
  case alloc t =>
    obtain ⟨z, hz, rfl⟩ := map_some hc
    exact sim_alloc hop hz hs hf hw
  case box t x =>
    split at hc
    · cases hc; exact sim_box hop (by assumption) hs hf hw
    · cases hc
  case build t parts =>
    split at hc
    · rename_i z hz
      split at hc
      · rename_i fields hd
        split at hc
        · rename_i hall
          obtain ⟨l, hl, rfl⟩ := map_some hc
          exact sim_buildS hop hz hd hall hl hs hf hw
        · cases hc
      · rename_i n e hd
        split at hc
        · rename_i k hk
          obtain ⟨l, hl, rfl⟩ := map_some hc
          exact sim_buildA hop hz hd hk hl hs hf hw
        · cases hc
      · cases hc
    · cases hc
  case buildSlice t len parts =>
    split at hc
    · rename_i e hd
      split at hc
      · rename_i n z hn hz
        split at hc
        · rename_i hcond
          obtain ⟨l, hl, rfl⟩ := map_some hc
          exact sim_mksl hop hd hn hz hcond.1 hcond.2 hl hs hf hw
        · cases hc
      · cases hc
    · cases hc
  case load t x =>
    split at hc
    · rename_i n ag y hn hg hx
      split at hc
      · rename_i h1; cases hc; exact sim_ld hop hn hg (by simpa using h1) hx hs hf hw
      · cases hc
    · cases hc
  case store t x y =>
    split at hc
    · rename_i n x' y' hn hx hy; cases hc; exact sim_st hop hn hx hy hs hf hw
    · cases hc
  case nilCheck x => exact sim_nilck hop hc hs hf hw
  case binOp op t x y yt =>
    split at hc
    · rename_i k a' b' hd hx hy; cases hc; exact sim_bin hop hx hy hs hf hw
    · rename_i a' b' hd hx hy; cases hc; exact sim_bin hop hx hy hs hf hw
    · rename_i a' b' hd hx hy
      split at hc
      · cases hc; exact sim_eqb (neg := false) hop hd hx hy hs hf hw
      · cases hc; exact sim_eqb (neg := true) hop hd hx hy hs hf hw
      · cases hc
    · rename_i d a' b' _ _ _ hd hx hy
      split at hc
      · rename_i k hk
        split at hc
        · split at hc
          · rename_i hy'; cases hc; exact sim_eqn (neg := false) hop hd hk (.inl ⟨hx, hy'⟩) hs hf hw
          · split at hc
            · rename_i hx'; cases hc; exact sim_eqn (neg := false) hop hd hk (.inr ⟨hy, hx'⟩) hs hf hw
            · cases hc
        · split at hc
          · rename_i hy'; cases hc; exact sim_eqn (neg := true) hop hd hk (.inl ⟨hx, hy'⟩) hs hf hw
          · split at hc
            · rename_i hx'; cases hc; exact sim_eqn (neg := true) hop hd hk (.inr ⟨hy, hx'⟩) hs hf hw
            · cases hc
        · cases hc
      · cases hc
    · cases hc
  case unOp op t x =>
    obtain ⟨y, hy, rfl⟩ := map_some hc
    exact sim_un hop hy hs hf hw
  case convert src dst x =>
    split at hc
    · rename_i k0 k y hd1 hd2 hx; cases hc; exact sim_cvI hop hd1 hd2 hx hs hf hw
    · rename_i y hd1 hd2 hx; cases hc; exact sim_cvSS hop hd1 hd2 hx hs hf hw
    · rename_i e y hd1 hd2 hx
      split at hc
      · rename_i he hz; cases hc; exact sim_cvSB hop hd1 hd2 he hx hs hf hw
      · cases hc
    · rename_i e y hd1 hd2 hx
      split at hc
      · rename_i he hz; cases hc; exact sim_cvBS hop hd1 he hd2 hx hs hf hw
      · cases hc
    · rename_i e e' y hd1 hd2 hx
      split at hc
      · rename_i hsd
        have hsd' : src = dst := by simpa using hsd
        subst hsd'
        split at hc
        · rename_i he; cases hc; exact sim_mrk hop hd1 hd2 he hx hs hf hw
        · cases hc
      · cases hc
    · cases hc
  case makeInterface t x =>
    split at hc
    · cases hc
    · rename_i d y hn hd hx
      cases hc
      exact sim_mkif hop hd (fun ms e => hn ms e) hx hs hf hw
    · cases hc
  case makeFunc fn first caps =>
    split at hc <;> try (cases hc; done)
    all_goals rename_i heq
    all_goals try (cases heq; done)
    injection heq with e1 e2 e3
    subst e1 e2 e3
    split at hc
    · rename_i he
      obtain ⟨l, hl, rfl⟩ := map_some hc
      exact sim_mkfn hop he hl hs hf hw
    · cases hc
  case makeSlice t l c =>
    split at hc
    · rename_i e hd
      split at hc
      · rename_i n by_ z l' c' hn hby hz hl hcc
        split at hc
        · rename_i h0; cases hc; exact sim_mks hop hd hn hby hz h0 hl hcc hs hf hw
        · cases hc
      · cases hc
    · cases hc
  case slice t x lo hi mx =>
    split at hc
    · rename_i x' lo' hi' hd hx hlo hhi hmx
      cases hc
      have : mx = none := by
        cases mx with
        | none => rfl
        | some m => simp only [opdO] at hmx; cases hm : opd m <;> rw [hm] at hmx <;> cases hmx
      subst this
      exact sim_slS hop hd hx hlo hhi hs hf hw
    · rename_i e x' lo' hi' mx' hd hx hlo hhi hmx
      split at hc
      · rename_i n hn
        split at hc
        · rename_i h0
          cases hc
          exact sim_slL hop hd hn h0.1 hx hlo hhi hmx (by simpa using h0.2) hs hf hw
        · cases hc
      · cases hc
    · rename_i n e x' lo' hi' hd hx hlo hhi hmx
      split at hc
      · rename_i z hz
        split at hc
        · rename_i h0
          cases hc
          have : mx = none := by
            cases mx with
            | none => rfl
            | some m => simp only [opdO] at hmx; cases hm : opd m <;> rw [hm] at hmx <;> cases hmx
          subst this
          exact sim_slA hop hd hz h0 hx hlo hhi hs hf hw
        · cases hc
      · cases hc
    · cases hc
  case fieldAddr t x f =>
    split at hc
    · rename_i fields y hd hx
      split at hc
      · rename_i fd hfd
        split at hc
        · rename_i n hn
          split at hc
          · rename_i h0; cases hc; exact sim_fad hop hd hfd hn h0 hx hs hf hw
          · cases hc
        · cases hc
      · cases hc
    · cases hc
  case field t x f =>
    split at hc
    · rename_i fields y hd hx
      split at hc
      · rename_i fd hfd
        split at hc
        · rename_i n ag hn hg
          split at hc
          · rename_i h1; cases hc; exact sim_fld hop hd hfd hn hg (by simpa using h1) hx hs hf hw
          · cases hc
        · cases hc
      · cases hc
    · cases hc
  case indexAddr t x i' =>
    split at hc
    · rename_i e x' j hd hx hj
      split at hc
      · rename_i z hz
        split at hc
        · rename_i h0; cases hc; exact sim_iadL hop hd hz h0 hx hj hs hf hw
        · cases hc
      · cases hc
    · rename_i n e x' j hd hx hj
      split at hc
      · rename_i z hz
        split at hc
        · rename_i h0; cases hc; exact sim_iadA hop hd hz h0 hx hj hs hf hw
        · cases hc
      · cases hc
    · cases hc
  case index t x i' =>
    split at hc
    · rename_i n e x' j hd hx hj
      split at hc
      · rename_i z ag hz hg
        split at hc
        · rename_i h1; cases hc; exact sim_ixA hop hd hz hg (by simpa using h1) hx hj hs hf hw
        · cases hc
      · cases hc
    · rename_i x' j hd hx hj
      cases hc; exact sim_ixS hop hd hx hj hs hf hw
    · cases hc
  case extract x k =>
    obtain ⟨y, hy, rfl⟩ := map_some hc
    exact sim_ext hop hy hs hf hw
  case panic x =>
    obtain ⟨y, hy, rfl⟩ := map_some hc
    simp [stepI] at hs
  case call c =>
    split at hc
    · obtain ⟨l, hl, rfl⟩ := map_some hc
      simp [stepI] at hs
    · split at hc
      · cases hc; simp [stepI] at hs
      · cases hc
    · cases hc
    · rename_i b hcb
      split at hc
      · rename_i x t hax hat
        split at hc
        · rename_i y hd hx; cases hc; exact sim_lenS hop hcb hax hat hd hx hs hf hw
        · rename_i e y hd hx; cases hc; exact sim_len hop hcb hax hat hd hx hs hf hw
        · cases hc
      · rename_i s' x t t' hax hat
        split at hc
        · cases hc
        · rename_i e d' hni hd hd'
          split at hc
          · rename_i z by_ zr s1 x1 hz hby hzr hs1 hx1
            split at hc
            · rename_i h0
              cases hc
              exact sim_app hop hcb hax hat hd hd' (fun k e => by subst e; first | exact hni _ rfl | exact hni _ hd' | simp_all) hz hby hzr h0.1 hs1 hx1 hs hf hw
            · cases hc
          · cases hc
        · cases hc
      · rename_i x y t tys hax hat
        split at hc
        · rename_i e hd
          split at hc
          · rename_i z x1 y1 hz hx1 hy1
            split at hc
            · rename_i h0; cases hc; exact sim_cpy hop hcb hax hat hd hz h0 hx1 hy1 hs hf hw
            · cases hc
          · cases hc
        · cases hc
      · obtain ⟨l, hl, rfl⟩ := map_some hc
        exact sim_mnmx (isMin := true) hop hcb (by first | exact hl | (rename_i e _; rw [e]; exact hl)) hs hf hw
      · obtain ⟨l, hl, rfl⟩ := map_some hc
        exact sim_mnmx (isMin := false) hop hcb (by first | exact hl | (rename_i e _; rw [e]; exact hl)) hs hf hw
      · rename_i x y hax
        split at hc
        · rename_i x1 y1 hx1 hy1; cases hc; exact sim_cplx hop hcb hax hx1 hy1 hs hf hw
        · cases hc
      · cases hc

end Go.Vm
