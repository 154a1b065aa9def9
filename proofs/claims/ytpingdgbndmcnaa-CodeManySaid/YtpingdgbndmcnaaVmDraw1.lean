/-
  Vm: regions that draw their order (own work), first part: what an operation looks at; the trace of the text's order.
-/
import Derived.Test.YtpingdgbndmcnaaVmRun
namespace Go.Vm
open Go Go.RowKit
set_option linter.unusedVariables false
set_option linter.unusedSimpArgs false

theorem bnd_congr {ρ ρ' : Opd → VV} {x : Option Opd} {d y : Nat} (h : ∀ o ∈ x.toList, ρ o = ρ' o) : bnd ρ x d y = bnd ρ' x d y := by
  cases x with
  | none => rfl
  | some o => simp only [bnd, h o (by simp)]

theorem stepI_congr {h : Heap} {ρ ρ' : Opd → VV} {i : Ins} (hr : ∀ x ∈ opdsOf i, ρ x = ρ' x) : stepI h ρ i = stepI h ρ' i := by
  cases i <;> simp only [opdsOf, List.mem_cons, List.not_mem_nil, or_false, forall_eq_or_imp, forall_eq, List.mem_append] at hr
  case mv x => simp only [stepI, hr]
  case pick c a b => simp only [stepI, hr.1, hr.2.1, hr.2.2]
  case alloc => rfl
  case box n x => simp only [stepI, hr]
  case build z ps =>
    have : (ps.map fun p => (p.1, p.2.1, ρ p.2.2)) = ps.map fun p => (p.1, p.2.1, ρ' p.2.2) := List.map_congr_left fun p hp => by rw [hr p.2.2 (List.mem_map.2 ⟨p, hp, rfl⟩)]
    simp only [stepI, this]
  case mksl z len zero ps own =>
    have : (ps.map fun p => (p.1, p.2.1, ρ p.2.2)) = ps.map fun p => (p.1, p.2.1, ρ' p.2.2) := List.map_congr_left fun p hp => by rw [hr p.2.2 (List.mem_map.2 ⟨p, hp, rfl⟩)]
    simp only [stepI, this]
  case mkfn f xs =>
    have : xs.map ρ = xs.map ρ' := List.map_congr_left hr
    simp only [stepI, this]
  case mnmx m xs =>
    have : xs.map ρ = xs.map ρ' := List.map_congr_left hr
    simp only [stepI, this]
  case slS x lo hi =>
    simp only [stepI, hr x (by simp), bnd_congr (fun o ho => hr o (by simp [ho]) : ∀ o ∈ lo.toList, ρ o = ρ' o), bnd_congr (fun o ho => hr o (by simp [ho]) : ∀ o ∈ hi.toList, ρ o = ρ' o)]
  case slA n z x lo hi =>
    simp only [stepI, hr x (by simp), bnd_congr (fun o ho => hr o (by simp [ho]) : ∀ o ∈ lo.toList, ρ o = ρ' o), bnd_congr (fun o ho => hr o (by simp [ho]) : ∀ o ∈ hi.toList, ρ o = ρ' o)]
  case slL z x lo hi mx =>
    simp only [stepI, hr x (by simp), bnd_congr (fun o ho => hr o (by simp [ho]) : ∀ o ∈ lo.toList, ρ o = ρ' o), bnd_congr (fun o ho => hr o (by simp [ho]) : ∀ o ∈ hi.toList, ρ o = ρ' o), bnd_congr (fun o ho => hr o (by simp [ho]) : ∀ o ∈ mx.toList, ρ o = ρ' o)]
  case call => rfl
  case callv => rfl
  case panic => rfl
  all_goals first | (simp only [stepI, hr]; done) | (simp only [stepI, hr.1, hr.2]; done)

theorem evalO_congr {s s2 : List VV} {g : Option (Nat × Bool)} {xs : List Opd} (h : ∀ n ∈ looks1 g xs, s[n]? = s2[n]?) : (∀ x ∈ xs, evalO s x = evalO s2 x) ∧ wantedV s g = wantedV s2 g := by
  constructor
  · intro x hx
    cases x with
    | c v => rfl
    | t n =>
      simp only [evalO, List.getD_eq_getElem?_getD]
      rw [h n]
      unfold looks1
      exact List.mem_append_right _ (List.mem_filterMap.2 ⟨.t n, hx, rfl⟩)
  · cases g with
    | none => rfl
    | some p =>
      obtain ⟨d, b⟩ := p
      simp only [wantedV]
      rw [h d]
      unfold looks1
      simp

theorem stepO_form {call : CallSem} {st : St} {o : Op1} {s' : List VV} {h' : Heap} (hs : stepO call st o = some (.norm, ⟨s', h'⟩)) : ∃ v, s' = putD st.s o.d v := by
  unfold stepO at hs
  simp only at hs
  split at hs
  · split at hs
    · cases hs; exact ⟨_, rfl⟩
    · cases hs
    · cases hs
  · split at hs
    · split at hs
      · cases hs; exact ⟨_, rfl⟩
      · cases hs
      · cases hs
    · cases hs
  · split at hs <;> cases hs
  · split at hs
    · cases hs; exact ⟨_, rfl⟩
    · cases hs

/-- The same operation over other slots that hold the same where it looks. -/
theorem stepO_congr {call : CallSem} {s s2 : List VV} {h h' : Heap} {o : Op1} {s' : List VV} (hl : ∀ n ∈ looks1 o.g (opdsOf o.i), s[n]? = s2[n]?) (hs : stepO call ⟨s, h⟩ o = some (.norm, ⟨s', h'⟩)) : ∃ v, s' = putD s o.d v ∧ stepO call ⟨s2, h⟩ o = some (.norm, ⟨putD s2 o.d v, h'⟩) := by
  obtain ⟨hev, _⟩ := evalO_congr hl
  unfold stepO at hs ⊢
  simp only at hs ⊢
  cases hi : o.i
  case call f pure args =>
    rw [hi] at hs hev
    simp only at hs ⊢
    have : args.map (evalO s) = args.map (evalO s2) := List.map_congr_left hev
    rw [← this]
    split at hs
    · rename_i v h1 hd; cases hs; exact ⟨v, rfl, rfl⟩
    · cases hs
    · cases hs
  case callv pure x args =>
    rw [hi] at hs hev
    simp only at hs ⊢
    simp only [opdsOf, List.mem_cons, forall_eq_or_imp] at hev
    have : args.map (evalO s) = args.map (evalO s2) := List.map_congr_left hev.2
    rw [← this, ← hev.1]
    split at hs
    · split at hs
      · rename_i v h1 hd; cases hs; exact ⟨v, rfl, rfl⟩
      · cases hs
      · cases hs
    · cases hs
  case panic x =>
    rw [hi] at hs
    simp only at hs
    split at hs <;> cases hs
  all_goals
    rw [hi] at hs hev
    simp only at hs ⊢
    rw [← stepI_congr hev]
    split at hs
    · rename_i v h1 hd; cases hs; exact ⟨v, rfl, rfl⟩
    · cases hs

/-- What does not look at the heap. -/
theorem stepI_p {h h' : Heap} {ρ : Opd → VV} {i : Ins} {v : VV} (hk : kindOf i = 0) (hs : stepI h ρ i = some (v, h')) : ∀ h2, stepI h2 ρ i = some (v, h2) := by
  intro h2
  cases i <;> simp only [kindOf] at hk <;> (try (cases hk; done)) <;> simp only [stepI] at hs ⊢
  case cvSB own x =>
    cases own
    · simp only [Bool.false_eq_true, if_false] at hs ⊢
      split at hs
      · cases hs; rfl
      · cases hs
    · simp at hk
  case mks z b zero l c own =>
    cases own
    · simp only [Bool.false_eq_true, if_false] at hs ⊢
      split at hs
      · split at hs
        · rename_i hc; cases hs; rw [if_pos hc]
        · cases hs
      · cases hs
    · simp at hk
  case mksl => split at hk <;> cases hk
  case call => split at hk <;> cases hk
  case callv => split at hk <;> cases hk
  all_goals first
    | (cases hs; rfl)
    | (repeat' (first | (cases hs; done) | (cases hs; rfl) | (obtain ⟨z, hz, hzz⟩ := map_some hs; cases hzz; simp only [*, Option.map_some]; done) | (cases hs; simp only [*]; done) | (cases hs; rw [if_pos (by assumption)]; done) | (obtain ⟨z, hz, hzz⟩ := map_some hs; cases hzz; rw [if_pos (by assumption), hz]; rfl) | split at hs))

theorem stepO_p {call : CallSem} {s : List VV} {h h' : Heap} {o : Op1} {s' : List VV} (hk : kindOf o.i = 0) (hs : stepO call ⟨s, h⟩ o = some (.norm, ⟨s', h'⟩)) : ∀ h2, stepO call ⟨s, h2⟩ o = some (.norm, ⟨s', h2⟩) := by
  intro h2
  unfold stepO at hs ⊢
  simp only at hs ⊢
  cases hi : o.i
  case call => rw [hi] at hk; simp only [kindOf] at hk; split at hk <;> cases hk
  case callv => rw [hi] at hk; simp only [kindOf] at hk; split at hk <;> cases hk
  case panic => rw [hi] at hk; cases hk
  all_goals
    rw [hi] at hs hk
    simp only at hs ⊢
    split at hs
    · rename_i v h1 hd; cases hs; rw [stepI_p hk hd h2]
    · cases hs

/-- How many changes there are among the first. -/
def kc : List (Op1 × Cl) → Nat → Nat
  | _, 0 => 0
  | [], _ + 1 => 0
  | (_, .k) :: r, i + 1 => kc r i + 1
  | (_, .p) :: r, i + 1 => kc r i
  | (_, .r _ _) :: r, i + 1 => kc r i

/-- What the text's order shows of operation i. -/
def Seen (call : CallSem) (hs : List Heap) (ck : List (Nat × Nat × (Heap → Prop))) (x : Op1 × Cl) (c : Nat) (S S' : List VV) (V : VV) (W : Bool) : Prop :=
  wantedV S x.1.g = some W ∧ S' = putD S x.1.d V ∧ (W = false → V = .undef) ∧ ∃ h, hs[c]? = some h ∧
    (W = false → x.2 = .k → hs[c + 1]? = some h) ∧
    (W = true → match x.2 with
      | .p => ∃ h1, stepO call ⟨S, h⟩ x.1 = some (.norm, ⟨S', h1⟩)
      | .r lo hi => ∃ h1, stepO call ⟨S, h⟩ x.1 = some (.norm, ⟨S', h1⟩) ∧ (if lo = hi then ((lo, hi + 1, fun _ => h1 = h) : Nat × Nat × (Heap → Prop)) ∈ ck else ((lo, hi + 1, fun h => Same call ⟨S, h⟩ x.1 h S') : Nat × Nat × (Heap → Prop)) ∈ ck)
      | .k => ∃ h1, stepO call ⟨S, h⟩ x.1 = some (.norm, ⟨S', h1⟩) ∧ hs[c + 1]? = some h1)

theorem draw_trace {call : CallSem} : ∀ (r : List (Op1 × Cl)) (hs : List Heap) (ck : List (Nat × Nat × (Heap → Prop))) (st st' : St) (hs' : List Heap) (ck' : List (Nat × Nat × (Heap → Prop))) (c : Nat), hs.length = c + 1 → hs[c]? = some st.h →
    drawOps call r hs ck st = some (st', hs', ck') →
    (∀ (b : Nat) (h : Heap), hs[b]? = some h → hs'[b]? = some h) ∧ (∀ x ∈ ck, x ∈ ck') ∧ hs'[c + kc r r.length]? = some st'.h ∧
    ∃ (S : Nat → List VV) (V : Nat → VV) (W : Nat → Bool), S 0 = st.s ∧ S r.length = st'.s ∧ ∀ (i : Nat) (x : Op1 × Cl), r[i]? = some x → Seen call hs' ck' x (c + kc r i) (S i) (S (i + 1)) (V i) (W i)
  | [], hs, ck, st, st', hs', ck', c, hl, hc, hd => by
    cases hd
    exact ⟨fun _ _ h => h, fun _ h => h, by simpa [kc] using hc, fun _ => st.s, fun _ => .undef, fun _ => false, rfl, rfl, fun i x hx => by simp at hx⟩
  | (o, cl) :: r, hs, ck, st, st', hs', ck', c, hl, hc, hd => by
    unfold drawOps at hd
    have cons : ∀ (hs1 : List Heap) (ck1 : List (Nat × Nat × (Heap → Prop))) (st1 : St) (c1 : Nat) (v0 : VV) (w0 : Bool), hs1.length = c1 + 1 → hs1[c1]? = some st1.h → drawOps call r hs1 ck1 st1 = some (st', hs', ck') → (∀ (b : Nat) (h : Heap), hs[b]? = some h → hs1[b]? = some h) → (∀ x ∈ ck, x ∈ ck1) →
        c1 = c + kc ((o, cl) :: r) 1 →
        (∀ i, kc ((o, cl) :: r) (i + 1) = kc ((o, cl) :: r) 1 + kc r i) →
        ((∀ (b : Nat) (h : Heap), hs1[b]? = some h → hs'[b]? = some h) → (∀ x ∈ ck1, x ∈ ck') → Seen call hs' ck' (o, cl) c st.s st1.s v0 w0) →
        (∀ (b : Nat) (h : Heap), hs[b]? = some h → hs'[b]? = some h) ∧ (∀ x ∈ ck, x ∈ ck') ∧ hs'[c + kc ((o, cl) :: r) ((o, cl) :: r).length]? = some st'.h ∧
        ∃ (S : Nat → List VV) (V : Nat → VV) (W : Nat → Bool), S 0 = st.s ∧ S ((o, cl) :: r).length = st'.s ∧ ∀ (i : Nat) (x : Op1 × Cl), ((o, cl) :: r)[i]? = some x → Seen call hs' ck' x (c + kc ((o, cl) :: r) i) (S i) (S (i + 1)) (V i) (W i) := by
      intro hs1 ck1 st1 c1 v0 w0 hl1 hc1 hd1 hext hck hcc hkc hseen
      obtain ⟨i1, i2, i3, S, V, W, s0, sn, hall⟩ := draw_trace r hs1 ck1 st1 st' hs' ck' c1 hl1 hc1 hd1
      refine ⟨fun b h hb => i1 b h (hext b h hb), fun x hx => i2 x (hck x hx), ?_, fun i => match i with | 0 => st.s | i + 1 => S i, fun i => match i with | 0 => v0 | i + 1 => V i, fun i => match i with | 0 => w0 | i + 1 => W i, rfl, sn, fun i x hx => ?_⟩
      · rw [List.length_cons, hkc, ← Nat.add_assoc, ← hcc]; exact i3
      · cases i with
        | zero =>
          simp at hx; subst hx
          simp only [kc, Nat.add_zero, s0]
          exact hseen i1 i2
        | succ i =>
          rw [hkc, ← Nat.add_assoc, ← hcc]
          exact hall i x (by simpa using hx)
    split at hd
    · rename_i hwt
      split at hd
      · rename_i st1 hst
        cases cl with
        | p =>
          simp only at hd
          refine cons hs ck ⟨st1.s, st.h⟩ c (Classical.choose (stepO_form hst)) true hl hc hd (fun _ _ h => h) (fun _ h => h) (by simp [kc]) (fun i => by simp [kc]) (fun k1 k2 => ?_)
          exact ⟨hwt, Classical.choose_spec (stepO_form hst), fun e => (by cases e), st.h, k1 _ _ hc, fun e => (by cases e), fun _ => ⟨st1.h, hst⟩⟩
        | r lo hi =>
          simp only at hd
          refine cons hs _ ⟨st1.s, st.h⟩ c (Classical.choose (stepO_form hst)) true hl hc hd (fun _ _ h => h) (fun x h => by split <;> exact List.mem_cons_of_mem _ h) (by simp [kc]) (fun i => by simp [kc]) (fun k1 k2 => ?_)
          refine ⟨hwt, Classical.choose_spec (stepO_form hst), fun e => (by cases e), st.h, k1 _ _ hc, fun e => (by cases e), fun _ => ⟨st1.h, hst, ?_⟩⟩
          split
          · rename_i e; rw [if_pos e] at k2; exact k2 _ (List.mem_cons_self)
          · rename_i e; rw [if_neg e] at k2; exact k2 _ (List.mem_cons_self)
        | k =>
          simp only at hd
          have hnew : (hs ++ [st1.h])[c + 1]? = some st1.h := by rw [List.getElem?_append_right (by omega), hl]; simp
          refine cons (hs ++ [st1.h]) ck st1 (c + 1) (Classical.choose (stepO_form hst)) true (by simp [hl]) hnew hd (fun b h hb => by rw [List.getElem?_append_left (List.getElem?_eq_some_iff.1 hb).1]; exact hb) (fun _ h => h) (by simp [kc]) (fun i => by simp [kc]; omega) (fun k1 k2 => ?_)
          refine ⟨hwt, Classical.choose_spec (stepO_form hst), fun e => (by cases e), st.h, k1 _ _ (by rw [List.getElem?_append_left (by omega)]; exact hc), fun e => (by cases e), fun _ => ⟨st1.h, hst, k1 _ _ hnew⟩⟩
      · cases hd
    · rename_i hwt
      cases cl with
      | p =>
        simp only at hd
        refine cons hs ck ⟨putD st.s o.d .undef, st.h⟩ c .undef false hl hc hd (fun _ _ h => h) (fun _ h => h) (by simp [kc]) (fun i => by simp [kc]) (fun k1 k2 => ?_)
        exact ⟨hwt, rfl, fun _ => rfl, st.h, k1 _ _ hc, fun _ e => (by cases e), fun e => (by cases e)⟩
      | r lo hi =>
        simp only at hd
        refine cons hs ck ⟨putD st.s o.d .undef, st.h⟩ c .undef false hl hc hd (fun _ _ h => h) (fun _ h => h) (by simp [kc]) (fun i => by simp [kc]) (fun k1 k2 => ?_)
        exact ⟨hwt, rfl, fun _ => rfl, st.h, k1 _ _ hc, fun _ e => (by cases e), fun e => (by cases e)⟩
      | k =>
        simp only at hd
        have hnew : (hs ++ [st.h])[c + 1]? = some st.h := by rw [List.getElem?_append_right (by omega), hl]; simp
        refine cons (hs ++ [st.h]) ck ⟨putD st.s o.d .undef, st.h⟩ (c + 1) .undef false (by simp [hl]) hnew hd (fun b h hb => by rw [List.getElem?_append_left (List.getElem?_eq_some_iff.1 hb).1]; exact hb) (fun _ h => h) (by simp [kc]) (fun i => by simp [kc]; omega) (fun k1 k2 => ?_)
        exact ⟨hwt, rfl, fun _ => rfl, st.h, k1 _ _ (by rw [List.getElem?_append_left (by omega)]; exact hc), fun _ _ => k1 _ _ hnew, fun e => (by cases e)⟩
    · cases hd

end Go.Vm
