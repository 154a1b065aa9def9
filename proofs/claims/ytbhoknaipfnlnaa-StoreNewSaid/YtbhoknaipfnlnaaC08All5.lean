/- Part of a proof: of what it says, and when, each theorem tells itself. -/
import Derived.Test.YtbhoknaipfnlnaaC08All4
import Derived.Test.YtbhoknaipfnlnaaVmAll2
import Derived.Test.YtbhoknaipfnlnaaC08Ir
set_option linter.unusedSimpArgs false
set_option linter.unusedVariables false
namespace Go.V08
open Go Go.Vm
def ofS (ss : List (List UInt8)) : Nat := match ss with
 | [] => 0
 | b :: _ => Lz b
def tl (epoch n : Nat) (ss : List (List UInt8)) : Option (List UInt8) := frL epoch n (ofS ss) 200 0 ss []
def ed (epoch n : Nat) (ss : List (List UInt8)) : List (List CV) × Nat := match tl epoch n ss with
 | none => ([], 0)
 | some all => if (ip (dy all) all).2 = 0 then ((ip (dy all) all).1, ofS ss) else ([], 0)
def aci (r : List (List CV) × Nat) (w : VV) : Prop := ∃ x, w = .tup [x, vi .i64 (r.2 : Nat)] /\ SlV 3 r.1 x
section
variable {epoch n : Nat} {ss : List (List UInt8)} {elsS : List (List CV)} {u : VV} {h : ae}
theorem Xz (hP : PgE elsS ss) (hu : VF h 1 elsS u) : Ret F 65 [vi .i64 epoch, vi .i64 n, u] h fun v g => HExt h g ∧ aci (ed epoch n ss) v := by
  refine bc (fn := f65) rfl ?_
  simp only [f65]
  generalize hs0 : ([vi .i64 epoch, vi .i64 n, u] ++ List.replicate _ VV.undef : List VV) = s
  have hs : s.length = 97 := by grind
  have h0 : s.getD 0 .undef = vi .i64 epoch := by grind
  have h1 : s.getD 1 .undef = vi .i64 n := by grind
  have h2 : s.getD 2 .undef = u := by grind
  clear hs0
  have hof : ∀ b, ss[0]? = some b → ofS ss = Lz b := by
    intro b hb
    cases ss with
    | nil => cases hb
    | cons c r => cases hb; rfl
  have key : ∀ (s : List VV), s.length = 97 → s.getD 0 .undef = vi .i64 epoch → s.getD 1 .undef = vi .i64 n → s.getD 2 .undef = u → s.getD 8 .undef = ct → s.getD 11 .undef = vi .i64 0 → s.getD 12 .undef = vi .i64 1 →
      XF F f65_4 1 ⟨s, h⟩ (S F f65_4 (RQ [.t 6, .t 7] fun v g => HExt h g ∧ aci (ed epoch n ss) v)) := by
    intro s hs e0 e1 e2 e8 e11 e12
    refine f65_loop (of_ := ofS ss) hP hu hof 200 0 [] ct s h _ rfl (.inl rfl) (by omega) (by simp) (NB.nil _ _) hs e0 e1 e2 e8 e11 (.inl ⟨rfl, e12⟩) ?_ ?_
    · intro hno s' h' hs' e6 e7 hx
      rw [List.drop_zero] at hno
      have hf : ed epoch n ss = ([], 0) := by unfold ed tl; rw [hno]
      simp only [go_sem, seval, hs', e6, e7]
      exact ⟨hx, ct, by rw [hf]; rfl, by rw [hf]; exact .inl ⟨rfl, rfl⟩⟩
    · intro all hso s' h' va' hs' e8' e12' hB hlen
      rw [List.drop_zero] at hso
      obtain ⟨w, h1, c1, c2, c3, _⟩ := hB.bsrc.cl
      obtain ⟨v54, h54, n54, r54⟩ := Ku all w c2 (by omega)
      have r54' : au h54 v54 = some (.tup [slV 3 (ip (dy all) all).1, vi .u16 (ip (dy all) all).2]) := r54
      unfold f65_t
      simp only [go_sem, seval, hs', e8']
      refine ap (h1 := h1) (by simp only [List.map, go_sem, seval, hs', e8']; exact c1) n54 r54' ?_
      by_cases d : (ip (dy all) all).2 = 0
      · have d' : (((ip (dy all) all).2 : Nat) : Int) = 0 := by omega
        have hf : ed epoch n ss = ((ip (dy all) all).1, ofS ss) := by unfold ed tl; grind
        simp only [go_sem, seval, hs', d', e12']
        exact ⟨c3, _, by rw [hf], by rw [hf]; exact Xb⟩
      · have d' : ¬ (((ip (dy all) all).2 : Nat) : Int) = 0 := by omega
        have hf : ed epoch n ss = ([], 0) := by unfold ed tl; grind
        simp only [go_sem, seval, hs', d']
        exact ⟨c3, ct, by rw [hf]; rfl, by rw [hf]; exact .inl ⟨rfl, rfl⟩⟩
  simp only [go_sem, seval, hs]
  have k := key ((((((((s.set 6 ct).set 7 (vi .i64 0)).set 8 ct).set 9 ct).set 10 (vi .u16 0)).set 11 (vi .i64 0)).set 12 (vi .i64 1))) (by grind) (by grind) (by grind) (by grind) (by grind) (by grind) (by grind)
  rw [Vs f65_4.eq_1, dv rfl, dv rfl, dv rfl, dv rfl, Az rfl, wj] at k
  rw [bi f65_4.eq_1]
  simp only [go_sem, seval, hs] at k ⊢
  exact k
end
theorem Vp {epoch n of_ : Nat} : ∀ (m i : Nat) (ss : List (List UInt8)) (acc all : List UInt8), i < of_ -> of_ <= m + i -> frL epoch n of_ m i ss acc = some all -> of_ - i <= ss.length
 | 0, i, ss, acc, all, h1, h2, h => by omega
 | m + 1, i, [], acc, all, h1, h2, h => by simp [frL] at h
 | m + 1, i, b :: r, acc, all, h1, h2, h => by
  simp only [frL] at h
  split at h
  ·split at h
   ·rename_i g
    have := Vp m (i + 1) r _ all g (by omega) h
    grind
   grind
  ·cases h
theorem Tu {epoch n of_ m i : Nat} {b : List UInt8} {r : List (List UInt8)} {acc all : List UInt8} (h : frL epoch n of_ (m + 1) i (b :: r) acc = some all) : ov epoch n i of_ b := by
 simp only [frL] at h
 grind
theorem ad4 {epoch n of_ m i : Nat} {acc : List UInt8} : frL epoch n of_ (m + 1) i [] acc = none := rfl
theorem Ra {epoch n : Nat} {ss : List (List UInt8)} : (ed epoch n ss).2 <= ss.length := by
 unfold ed
 split
 ·simp
 ·rename_i all ha
  split
  ·unfold tl at ha
   cases ss with
   | nil => rw [show (200 : Nat) = 199 + 1 from rfl, ad4] at ha; cases ha
   | cons b r =>
    have ho : 1 <= ofS (b :: r) /\ ofS (b :: r) <= 200 := by
     have g := Tu (m := 199) ha
     exact ⟨g.2.2.2.1, g.2.2.2.2.1⟩
    have := Vp 200 0 (b :: r) [] all (by omega) (by omega) ha
    omega
  ·simp
inductive FrE : List (List CV) -> List (List (List CV)) -> Prop
 | nil : FrE [] []
 | cons {c : CV} {b : List (List CV)} {l : List (List CV)} {k : List (List (List CV))} (h : SlV 3 b (.cv c)) (t : FrE l k) : FrE ([c] :: l) (b :: k)
theorem FrE.len {l : List (List CV)} {k : List (List (List CV))} (h : FrE l k) : l.length = k.length := by
 induction h with
 | nil => rfl
 | cons _ _ ih => simp [ih]
theorem FrE.app {l m : List (List CV)} {k j : List (List (List CV))} (h : FrE l k) (h2 : FrE m j) : FrE (l ++ m) (k ++ j) := by
 induction h with
 | nil => exact h2
 | cons h _ ih => exact .cons h ih
theorem FrE.get {l : List (List CV)} {k : List (List (List CV))} (h : FrE l k) {i : Nat} (hi : i < k.length) : ∃ c b, l[i]? = some [c] /\ k[i]? = some b /\ SlV 3 b (.cv c) := by
 induction h generalizing i with
 | nil => simp at hi
 | cons h t ih =>
  grind
def rdA (epoch : Nat) : Nat -> Nat -> List (List UInt8) -> List (List (List CV)) × Nat
 | 0, _, _ => ([], 0)
 | m + 1, n, ss => if (ed epoch n ss).2 = 0 then ([], 0) else ((ed epoch n ss).1 :: (rdA epoch m (n + 1) (ss.drop (ed epoch n ss).2)).1, (ed epoch n ss).2 + (rdA epoch m (n + 1) (ss.drop (ed epoch n ss).2)).2)
def tg (epoch : Int) (ss : List (List UInt8)) : List (List (List CV)) × Nat := if ks epoch = true then rdA epoch.toNat (ss.length + 1) 0 ss else ([], 0)
def amn (r : List (List (List CV)) × Nat) (w : VV) : Prop := ∃ x els, w = .tup [x, vi .i64 (r.2 : Nat)] /\ SlV 1 els x /\ FrE els r.1
theorem ad9 {els : List (List CV)} {k : List (List UInt8)} (h : PgE els k) (n : Nat) : PgE (els.drop n) (k.drop n) := by
 induction h generalizing n with
 | nil => simp; exact .nil
 | cons h t ih =>
  cases n with
  | zero => exact .cons h t
  | succ n => exact ih n
section
variable {epoch : Int} {ss : List (List UInt8)} {elsS : List (List CV)} {u : VV} {h0 : ae}
theorem f37_loop (hP : PgE elsS ss) (hu : VF h0 1 elsS u) (hl : ss.length <= 1000000000) (he : ks epoch = true) :
  ∀ (m n at_ : Nat) (acc : List (List (List CV))) (els : List (List CV)) (va : VV) (s : List VV) (h : ae) (Q : Pst), ss.length - at_ < m -> n <= at_ -> at_ <= ss.length -> acc.length = n -> NB h0 h 1 els va -> FrE els acc ->
   s.length = 33 -> s.getD 0 .undef = vi .i64 epoch -> s.getD 1 .undef = u -> s.getD 6 .undef = va -> s.getD 7 .undef = vi .i64 at_ ->
   (∀ s' h' els' va', s'.length = 33 -> s'.getD 6 .undef = va' -> s'.getD 7 .undef = vi .i64 ((at_ + (rdA epoch.toNat m n (ss.drop at_)).2 : Nat) : Int) -> NB h0 h' 1 els' va' -> FrE els' (acc ++ (rdA epoch.toNat m n (ss.drop at_)).1) -> Q (.exit 0) ⟨s', h'⟩) -> X F (.loop f37_1) ⟨s, h⟩ Q := by
 intro m
 have hpl := hP.len
 obtain ⟨ee, ee2⟩ := zt he
 induction m with
 | zero => omega
 | succ m ih =>
  intro n at_ acc els va s h Q hm hn hat hac hB hF hs e0 e1 e6 e7 hQ
  obtain ⟨h42, n42⟩ := sq epoch
  rw [he] at n42
  have hfl := hF.len
  obtain ⟨w, w1, w2⟩ := (hu.ext hB.ext).from_ (k := .i64) (n := at_) (by omega)
  obtain ⟨v43, h43, n43, x43, cw, rfl, P43⟩ := Xz (epoch := epoch.toNat) (n := n) (ad9 hP at_) w2
  have hfle := Ra (epoch := epoch.toNat) (n := n) (ss := ss.drop at_)
  rw [List.length_drop] at hfle
  have e0' : s.getD 0 .undef = vi .i64 ((epoch.toNat : Nat) : Int) := by grind
  have hB43 := hB.then x43
  rw [ba, bi f37_1.eq_1]
  simp only [go_sem, seval, hs, e0]
  refine ap (h1 := h) (by simp only [List.map, go_sem, seval, hs]; rfl) n42 rfl ?_
  simp only [go_sem, seval, hs, e0', e1, e6, e7, hB.ln, hfl, hac, w1]
  refine ao (by simp only [List.map, go_sem, seval, hs]; exact n43) ?_
  simp only [go_sem, seval, hs]
  rw [bi f37_0.eq_1]
  have hr : rdA epoch.toNat (m + 1) n (ss.drop at_) = if (ed epoch.toNat n (ss.drop at_)).2 = 0 then ([], 0) else ((ed epoch.toNat n (ss.drop at_)).1 :: (rdA epoch.toNat m (n + 1) ((ss.drop at_).drop (ed epoch.toNat n (ss.drop at_)).2)).1, (ed epoch.toNat n (ss.drop at_)).2 + (rdA epoch.toNat m (n + 1) ((ss.drop at_).drop (ed epoch.toNat n (ss.drop at_)).2)).2) := rfl
  rw [hr] at hQ
  generalize ed epoch.toNat n (ss.drop at_) = fr at *
  by_cases d : fr.2 = 0
  ·have d' : ((fr.2 : Nat) : Int) = 0 := by omega
   rw [if_pos d] at hQ
   simp only [go_sem, seval, hs, d']
   refine hQ _ _ els va (by simp only [ah, hs]) (by simp only [go_sem, seval, e6]) (by simp only [go_sem, seval, e7]; rfl) hB43 (by grind)
  ·have d' : ¬ ((fr.2 : Nat) : Int) = 0 := by omega
   rw [if_neg d] at hQ
   obtain ⟨cx, rfl⟩ : ∃ c2, cw = .cv c2 := by rcases P43 with ⟨rfl, _⟩ | ⟨ex, rfl⟩ <;> exact ⟨_, rfl⟩
   have m1 : ∀ h : ae, mkO h 1 1 [.cv (.sc (.slice none 0 0))] [(0, 1, .cv cx)] = some (.cv (.sl 1 [[cx]] true), h) := fun _ => rfl
   have hwr : IntKind.i64.wrap ((at_ : Int) + (fr.2 : Int)) = ((at_ + fr.2 : Nat) : Int) := by rw [IntWalk.i64_in _ (by omega)]; omega
   simp only [go_sem, seval, hs, d', e6, m1]
   refine nl hB43 (new := [[cx]]) (by simp only [go_sem, seval, hs, e6]) (by simp only [go_sem, seval, hs]) (by grind) (by grind) (fun v' h' hB' _ _ _ => ?_)
   simp only [go_sem, seval, hs, e7, hwr]
   refine ih (n + 1) (at_ + fr.2) (acc ++ [fr.1]) _ v' _ _ Q (by omega) (by omega) (by omega) (by simp; omega) hB' (hF.app (.cons P43 .nil)) (by simp only [ah, hs]) (by simp only [go_sem, seval, e0]) (by simp only [go_sem, seval, e1]) (by simp only [go_sem, seval, hs]) (by simp only [go_sem, seval, hs]) (fun s' h2 els' va' a1 a2 a3 a4 a5 => hQ s' h2 els' va' a1 a2 ?_ a4 ?_)
   ·rw [a3, List.drop_drop, Nat.add_assoc]
   ·rw [List.append_assoc] at a5
    rw [List.drop_drop]; exact a5
theorem aa2 (hP : PgE elsS ss) (hu : VF h0 1 elsS u) (hl : ss.length <= 1000000000) (epoch : Int) : Ret F 37 [vi .i64 epoch, u] h0 fun v g => ∃ va els, v = .tup [va, vi .i64 ((tg epoch ss).2 : Nat)] /\ NB h0 g 1 els va /\ FrE els (tg epoch ss).1 := by
 refine bc (fn := f37) rfl ?_
 simp only [f37]
 generalize hs0 : ([vi .i64 epoch, u] ++ List.replicate _ VV.undef : List VV) = s
 have hs : s.length = 33 := by grind
 have h0 : s.getD 0 .undef = vi .i64 epoch := by grind
 have h1 : s.getD 1 .undef = u := by grind
 clear hs0
 simp only [go_sem, Nat.reduceLT, Nat.reduceEqDiff, reduceCtorEq, Int.reduceLT, Int.reduceEq, hs]
 by_cases he : ks epoch = true
 ·have hr : tg epoch ss = rdA epoch.toNat (ss.length + 1) 0 ss := by unfold tg; grind
  rw [hr]
  refine f37_loop hP hu hl he (ss.length + 1) 0 0 [] [] ct _ _ _ (by omega) (by omega) (by omega) rfl (NB.nil _ _) .nil (by grind) (by grind) (by grind) (by grind) (by grind) (fun s' h' els' va' a1 a2 a3 a4 a5 => ?_)
  rw [List.drop_zero] at a3 a5
  rw [Nat.zero_add] at a3
  simp only [go_sem, seval, a1, a2, a3]
  grind
 ·have he' : ks epoch = false := by grind
  have hr : tg epoch ss = ([], 0) := by unfold tg; grind
  obtain ⟨h42, n42⟩ := sq epoch
  rw [he'] at n42
  rw [hr]
  rw [ba, bi f37_1.eq_1]
  simp only [go_sem, seval, hs, h0]
  refine ap (by simp only [List.map, go_sem, seval, hs]; rfl) n42 rfl ?_
  simp only [go_sem, seval, hs]
  exact ⟨ct, [], rfl, NB.nil _ _, .nil⟩
theorem Uz (hP : PgE elsS ss) (hu : SlV 1 elsS u) (hl : ss.length <= 1000000000) (epoch : Int) : Er F 37 [vi .i64 epoch, u] (amn (tg epoch ss)) := by
 obtain ⟨v, g, n1, va, els, rfl, B, E⟩ := aa2 (h0 := []) hP hu.vf hl epoch
 obtain ⟨w, g1, c1, c2⟩ := B.clos
 exact ⟨_, g, n1, .tup [w, vi .i64 ((tg epoch ss).2 : Nat)], by simp only [au, bf c1 (eh mc), Option.map], w, els, rfl, c2, E⟩
end
open Go Go.Vm
theorem aap {epoch n i of_ : Nat} {p : List UInt8} : Lz (kd epoch n i of_ p) = of_ % 256 := by
 simp [Lz, kd, Cs, oc, wd, u8]
open Go Go.Vm
open Go Go.Vm
open Go Go.Vm
theorem Eh {b : List UInt8} {u : VV} (hu : SlV 1 (eB b) u) (hb : b.length <= 1000000000) : Er F 52 [u] (SlV 1 (eB b)) := by
 have : Ret F 52 [u] [] fun v g => ∃ w, au g v = some w /\ SlV 1 (eB b) w := by
  refine bc (fn := f52) rfl ?_
  simp only [f52]
  generalize hs0 : ([u] ++ List.replicate _ VV.undef : List VV) = s
  have hs : s.length = 8 := by grind
  have h0 : s.getD 0 .undef = u := by grind
  clear hs0
  simp only [go_sem, seval, hs]
  rw [bi f52_0.eq_1]
  rcases hu with ⟨rfl, e⟩ | ⟨ex, rfl⟩
  ·simp only [go_sem, seval, hs, h0]
   exact ⟨ct, rfl, .inl ⟨rfl, e⟩⟩
  ·have m0 : mkO ([] : ae) 1 0 [] [] = some (.cv (.sl 1 [] true), []) := rfl
   simp only [go_sem, seval, hs, h0, m0]
   refine Hg (h0 := []) (els := []) (new := eB b) ⟨HExt.refl _, .inr (.inl ⟨rfl, rfl⟩)⟩ (by simp only [go_sem, seval, hs]) (by simp only [go_sem, seval, hs]) (by rw [ax, List.length_nil]; omega) (by rw [ax, List.length_nil]; omega) (fun v' h' B _ _ => ?_)
   simp only [go_sem, seval, hs]
   obtain ⟨w, h1, c1, c2, _⟩ := B.vf.clos
   refine ⟨w, ?_, by grind⟩
   have hc := B.cellv
   cases v' with
   | tup l => simp [en] at hc
   | _ => simp only [au, c1, Option.map]
 obtain ⟨v, g, n1, w, e1, e2⟩ := this
 exact ⟨v, g, n1, w, e1, e2⟩
theorem Dd {h : ae} {els : List (List CV)} {u : VV} (hu : VF h 2 els u) (hb : els.length <= 1000000000) : Ret F 66 [u] h fun v g => PB h g 2 els v := by
 refine bc (fn := f66) rfl ?_
 simp only [f66]
 generalize hs0 : ([u] ++ List.replicate _ VV.undef : List VV) = s
 have hs : s.length = 8 := by grind
 have h0 : s.getD 0 .undef = u := by grind
 clear hs0
 simp only [go_sem, seval, hs]
 rw [bi f66_0.eq_1]
 have m0 : ∀ h : ae, mkO h 2 0 [] [] = some (.cv (.sl 2 [] true), h) := fun _ => rfl
 have hu' := hu
 rcases hu with (⟨rfl, rfl⟩ | ⟨ex, rfl⟩) | ⟨id, g, off, ex, fr, full, rfl, a2, a3, a4⟩
 ·simp only [go_sem, seval, hs, h0]
  exact (NB.nil _ _).pb
 all_goals
  have hsrc := hu'.src
  simp only [go_sem, seval, hs, h0, m0]
  refine Hg (h0 := h) (els := []) (new := els) ⟨HExt.refl _, .inr (.inl ⟨rfl, rfl⟩)⟩ (by simp only [go_sem, seval, hs]) (by simp only [go_sem, seval, hs, h0]; first | done | exact hsrc) (by grind) (by grind) (fun v' h' B _ _ => ?_)
  simp only [go_sem, seval, hs]
  simpa using B
def Of (p : KV -> Bool) : Nat -> List KV -> Int
 | _, [] => -1
 | i, r :: l => if p r then (i : Int) else Of p (i + 1) l
structure Tells (B : ae -> Prop) (f : Nat) (caps : List VV) (p : KV -> Bool) : Prop where
 lt : f < YB
 ext : ∀ h g : ae, HExt h g -> B h -> B g
 set : ∀ (h : ae) (id z : Nat) (els : List (List CV)) (g : Nat) (fr : Bool) (o : VO), h[id]? = some (.arr z els g fr) -> B h -> B (h.set id o)
 call : ∀ (h : ae) (k l : List UInt8) (c : CV), B h -> SlV 1 (eB l) (.cv c) -> Ret F f ([.agg [txt k, .cv c]] ++ caps) h fun v g => v = vb (p (k, l)) /\ HExt h g
theorem f50_loop {els : List (List CV)} {l : List KV} {u : VV} {h0 : ae} {f : Nat} {caps : List VV} {p : KV -> Bool} {B : ae -> Prop} (hu : VF h0 2 els u) (hR : RowsE els l) (hl : l.length <= 1000000000) (ht : Tells B f caps p) (hB : B h0) :
  ∀ (m i : Nat) (s : List VV) (h : ae) (Q : Pst), i + m = l.length -> HExt h0 h -> s.length = 19 -> s.getD 0 .undef = u -> s.getD 1 .undef = .func f caps -> s.getD 7 .undef = vi .i64 l.length -> s.getD 8 .undef = vi .i64 i ->
   (∀ s' h', s'.length = 19 -> HExt h0 h' -> Of p i (l.drop i) = -1 -> Q (.exit 0) ⟨s', h'⟩) -> (∀ s' h', s'.length = 19 -> HExt h0 h' -> s'.getD 4 .undef = vi .i64 (Of p i (l.drop i)) -> Q .ret ⟨s', h'⟩) -> X F (.loop f50_1) ⟨s, h⟩ Q := by
 intro m
 have hpl := hR.len
 induction m with
 | zero =>
  intro i s h Q hi hx hs e0 e1 e7 e8 hN hY
  have c : ¬ ((i : Nat) : Int) < (l.length : Int) := by omega
  have hd : l.drop i = [] := List.drop_eq_nil_of_le (by omega)
  rw [hd] at hN
  rw [ba, bi f50_1.eq_1]
  simp only [go_sem, seval, hs, e8, e7]
  rw [bi f50_0.eq_1]
  simp only [go_sem, seval, hs, c]
  exact hN _ _ (by grind) hx rfl
 | succ m ih =>
  intro i s h Q hi hx hs e0 e1 e7 e8 hN hY
  have c : ((i : Nat) : Int) < (l.length : Int) := by omega
  obtain ⟨e, r, he, hr, cc, rfl, hc⟩ := hR.get (i := i) (by omega)
  have hd : l.drop i = r :: l.drop (i + 1) := by
   obtain ⟨la, e⟩ := List.getElem?_eq_some_iff.1 hr
   rw [List.drop_eq_getElem_cons la, e]
  rw [hd, Of] at hN hY
  obtain ⟨q, q1, q2, _, _⟩ := (hu.ext hx).cell (k := .i64) he
  have q2' := q2 2 rfl
  have hwr : IntKind.i64.wrap ((i : Int) + 1) = ((i + 1 : Nat) : Int) := by rw [IntWalk.i64_in _ (by omega)]; omega
  obtain ⟨v, g, n1, rfl, x1⟩ := ht.call h r.1 r.2 cc (ht.ext _ _ hx hB) hc
  rw [ba, bi f50_1.eq_1]
  simp only [go_sem, seval, hs, e8, e7]
  rw [bi f50_0.eq_1]
  simp only [go_sem, seval, hs, c, e8, e1, e0, q1, q2', List.map]
  refine zu (f := f) (caps := caps) (by simp only [go_sem, seval, hs]) (by simp only [List.map, go_sem, seval, hs]; exact n1) ?_ ht.lt
  cases hp : p r with
  | true =>
   rw [if_pos hp] at hY
   simp only [go_sem, seval, hs, show p (r.1, r.2) = true from hp]
   exact hY _ _ (by simp_all) (hx.trans x1) (by simp_all)
  | false =>
   rw [if_neg (by grind)] at hN hY
   simp only [go_sem, seval, hs, show p (r.1, r.2) = false from hp, e8, hwr]
   exact ih (i + 1) _ _ Q (by omega) (hx.trans x1) (by simp_all) (by simp_all) (by simp_all) (by simp_all) (by simp_all) hN hY
theorem Jq {els : List (List CV)} {l : List KV} {u : VV} {h : ae} {f : Nat} {caps : List VV} {p : KV -> Bool} {B : ae -> Prop} (hu : VF h 2 els u) (hR : RowsE els l) (hl : l.length <= 1000000000) (ht : Tells B f caps p) (hB : B h) :
  Ret F 50 [u, .func f caps] h fun v g => v = vi .i64 (Of p 0 l) /\ HExt h g := by
 refine bc (fn := f50) rfl ?_
 simp only [f50]
 generalize hs0 : ([u, .func f caps] ++ List.replicate _ VV.undef : List VV) = s
 have hs : s.length = 19 := by grind
 have h0 : s.getD 0 .undef = u := by grind
 have h1 : s.getD 1 .undef = .func f caps := by grind
 clear hs0
 have hpl := hR.len
 have hln := hu.ln
 rw [hpl] at hln
 simp only [go_sem, Nat.reduceLT, Nat.reduceEqDiff, reduceCtorEq, Int.reduceLT, Int.reduceEq, hs, h0, hln]
 refine f50_loop hu hR hl ht hB l.length 0 _ _ _ (by omega) (HExt.refl _) (by grind) (by grind) (by grind) (by grind) (by grind) (fun s' h' a1 a2 a3 => ?_) (fun s' h' a1 a2 a3 => ?_)
 ·rw [List.drop_zero] at a3
  simp only [go_sem, seval, a1, a3]
  grind
 ·rw [List.drop_zero] at a3
  simp only [go_sem, seval, a1, a3]
  grind
def wz (p : Nat) (key : List UInt8) (h : ae) : Prop := ∃ c1 c2, h[p]? = some (.box [txt key, .cv c1, .cv c2] false)
theorem wz.ext {p : Nat} {key : List UInt8} (h g : ae) (e : HExt h g) (b : wz p key h) : wz p key g := by
 obtain ⟨c1, c2, b⟩ := b; exact ⟨c1, c2, e.get b⟩
theorem wz.set {p : Nat} {key : List UInt8} (h : ae) (id z : Nat) (els : List (List CV)) (g : Nat) (fr : Bool) (o : VO) (ho : h[id]? = some (.arr z els g fr)) (b : wz p key h) : wz p key (h.set id o) := by
 obtain ⟨c1, c2, b⟩ := b
 exact ⟨c1, c2, by grind⟩
theorem Ub {p : Nat} {key : List UInt8} : Tells (wz p key) 68 [.ptr p 0] (fun r => decide (r.1 = key)) := by
 refine ⟨by decide, wz.ext, wz.set, fun h' k l c hx hc => ?_⟩
 obtain ⟨c1, c2, hp'⟩ := hx
 show Ret F 68 [.agg [txt k, .cv c], .ptr p 0] h' _
 refine bc (fn := f68) rfl ?_
 simp only [f68]
 generalize hs0 : ([.agg [txt k, .cv c], .ptr p 0] ++ List.replicate _ VV.undef : List VV) = s
 have hs : s.length = 9 := by grind
 have h0 : s.getD 0 .undef = .agg [txt k, .cv c] := by grind
 have h1 : s.getD 1 .undef = .ptr p 0 := by grind
 clear hs0
 have x1 := HExt.push h' (.box [txt k, .cv c] false)
 have e1 : (h' ++ [VO.box [txt k, .cv c] false])[h'.length]? = some (.box [txt k, .cv c] false) := bp
 have l1 : ldO (h' ++ [VO.box [txt k, .cv c] false]) false 1 (.ptr h'.length 0) = some (txt k, h' ++ [VO.box [txt k, .cv c] false]) := bg e1 rfl
 have l2 : ldO (h' ++ [VO.box [txt k, .cv c] false]) false 1 (.ptr p 0) = some (txt key, h' ++ [VO.box [txt k, .cv c] false]) := bg (x1.get hp') rfl
 simp only [go_sem, seval, hs, h0, h1]
 rw [yn (show [txt k, .cv c].length = 2 from rfl)]
 simp only [go_sem, seval, hs, l1, l2, aiq, h1]
 grind
theorem Xs {p : Nat} {key : List UInt8} : Tells (wz p key) 69 [.ptr p 0] (fun r => Op.bytesLess key r.1) := by
 refine ⟨by decide, wz.ext, wz.set, fun h' k l c hx hc => ?_⟩
 obtain ⟨c1, c2, hp'⟩ := hx
 show Ret F 69 [.agg [txt k, .cv c], .ptr p 0] h' _
 refine bc (fn := f69) rfl ?_
 simp only [f69]
 generalize hs0 : ([.agg [txt k, .cv c], .ptr p 0] ++ List.replicate _ VV.undef : List VV) = s
 have hs : s.length = 9 := by grind
 have h0 : s.getD 0 .undef = .agg [txt k, .cv c] := by grind
 have h1 : s.getD 1 .undef = .ptr p 0 := by grind
 clear hs0
 have x1 := HExt.push h' (.box [txt k, .cv c] false)
 have e1 : (h' ++ [VO.box [txt k, .cv c] false])[h'.length]? = some (.box [txt k, .cv c] false) := bp
 have l1 : ldO (h' ++ [VO.box [txt k, .cv c] false]) false 1 (.ptr h'.length 0) = some (txt k, h' ++ [VO.box [txt k, .cv c] false]) := bg e1 rfl
 have l2 : ldO (h' ++ [VO.box [txt k, .cv c] false]) false 1 (.ptr p 0) = some (txt key, h' ++ [VO.box [txt k, .cv c] false]) := bg (x1.get hp') rfl
 simp only [go_sem, seval, hs, h0, h1]
 rw [yn (show [txt k, .cv c].length = 2 from rfl)]
 simp only [go_sem, seval, hs, l1, l2, ai8, h1]
 grind
open Go Go.Vm
theorem ra (p : KV -> Bool) : ∀ (l : List KV) (i : Nat), (Of p i l = -1 /\ ∀ r ∈ l, p r = false) \/ ∃ k r, Of p i l = ((i + k : Nat) : Int) /\ l[k]? = some r /\ p r = true /\ ∀ r ∈ l.take k, p r = false
 | [], i => .inl ⟨rfl, fun r h => by simp at h⟩
 | r :: l, i => by
  unfold Of
  cases hp : p r with
  | true => exact .inr ⟨0, r, by simp, rfl, hp, fun _ h => by simp at h⟩
  | false =>
   rw [if_neg (by decide)]
   rcases ra p l (i + 1) with ⟨e, h⟩ | ⟨k, q, e, h1, h2, h3⟩
   ·grind
   ·refine .inr ⟨k + 1, q, by rw [e]; omega, by grind, h2, fun q hq => ?_⟩
    grind
theorem Ae {p : KV -> Bool} {l : List KV} (h : ∀ r ∈ l, p r = false) : l.filter (fun r => !p r) = l := by
 simp_all
theorem aei {F : Nat -> Option FnIR} {z id g off len : Nat} {zero : List CV} {x : Opd} {s : List VV} {h : ae} {d : Option Nat} {r : List Op1} {Q : Pst} {ex : Bool} {full : List (List CV)} (hx : ad s x = .own id g off len ex) (ho : h[id]? = some (.arr z full g false)) (hl : off + len <= full.length)
  (hk : XO F r ⟨df s d .undef, h.set id (.arr z (am full off (List.replicate len zero)) g false)⟩ Q) : XO F (⟨none, d, .clr z zero x⟩ :: r) ⟨s, h⟩ Q := by
 have e : ai h (ad s) (.clr z zero x) = some (.undef, h.set id (.arr z (am full off (List.replicate len zero)) g false)) := by
  simp [ai, hx, ho, hl]
 rw [ig rfl, e, kj]
 exact hk
theorem Oc {e : List CV} {r : KV} (h : ak4 e r) : e.length = 2 := by
 obtain ⟨c, rfl, _⟩ := h; rfl
section
variable {els : List (List CV)} {l : List KV} {h0 : ae} {f : Nat} {caps : List VV} {p : KV -> Bool} {B : ae -> Prop}
theorem f67_loop (hR : RowsE els l) (hl : l.length <= 1000000000) (ht : Tells B f caps p) {id g : Nat} (hid : h0.length <= id) :
  ∀ (m i j : Nat) (full elsK : List (List CV)) (s : List VV) (h : ae) (Q : Pst), j + m = l.length -> i <= j -> HExt h0 h -> B h -> h[id]? = some (.arr 2 full g false) -> l.length <= full.length -> full.take i = elsK -> elsK.length = i -> RowsE elsK ((l.take j).filter (fun r => !p r)) -> (∀ t, j <= t -> t < l.length -> full[t]? = els[t]?) -> (∀ t, t < l.length -> ∃ e, full[t]? = some e /\ e.length = 2) ->
   s.length = 42 -> s.getD 0 .undef = .own id g 0 l.length false -> s.getD 1 .undef = .func f caps -> s.getD 5 .undef = vi .i64 i -> s.getD 6 .undef = vi .i64 j ->
   (∀ s' h' i' full' elsK', s'.length = 42 -> HExt h0 h' -> B h' -> i' <= l.length -> h'[id]? = some (.arr 2 full' g false) -> l.length <= full'.length -> full'.take i' = elsK' -> elsK'.length = i' -> RowsE elsK' (l.filter (fun r => !p r)) -> s'.getD 0 .undef = .own id g 0 l.length false -> s'.getD 5 .undef = vi .i64 i' -> Q (.exit 0) ⟨s', h'⟩) -> X F (.loop f67_1) ⟨s, h⟩ Q := by
 intro m
 have hpl := hR.len
 induction m with
 | zero =>
  intro i j full elsK s h Q hj hij hx hB ha hfl htk hkl hRK hfr hlen hs e0 e1 e5 e6 hQ
  have c : ¬ ((j : Nat) : Int) < (l.length : Int) := by omega
  have hd : l.take j = l := List.take_of_length_le (by omega)
  rw [hd] at hRK
  rw [ba, bi f67_1.eq_1]
  simp only [go_sem, seval, hs, e6, e0, c]
  exact hQ _ h i full elsK (by simp only [ah, hs]) hx hB (by omega) ha hfl htk hkl hRK (by simp only [go_sem, seval, e0]) (by simp only [go_sem, seval, e5])
 | succ m ih =>
  intro i j full elsK s h Q hj hij hx hB ha hfl htk hkl hRK hfr hlen hs e0 e1 e5 e6 hQ
  have c : ((j : Nat) : Int) < (l.length : Int) := by omega
  obtain ⟨e, r, he, hr, cc, rfl, hc⟩ := hR.get (i := j) (by omega)
  have htake : l.take (j + 1) = l.take j ++ [r] := by
   obtain ⟨la, e⟩ := List.getElem?_eq_some_iff.1 hr
   rw [List.take_succ_eq_append_getElem la, e]
  have hfj : full[j]? = some [.sc (.string ⟨r.1.toArray⟩), cc] := by rw [hfr j (Nat.le_refl _) (by omega)]; exact he
  have ia : iaO h 2 (.own id g 0 l.length false) (vi .i64 (j : Int)) = some (.eptr id g (0 + j) 0, h) := zq (by omega) ha (by simpa using by omega)
  rw [Nat.zero_add] at ia
  have la : ldO h true 2 (.eptr id g j 0) = some (.agg [txt r.1, .cv cc], h) := pa ha hfj rfl
  have hwj : IntKind.i64.wrap ((j : Int) + 1) = ((j + 1 : Nat) : Int) := by rw [IntWalk.i64_in _ (by omega)]; omega
  have hwi : IntKind.i64.wrap ((i : Int) + 1) = ((i + 1 : Nat) : Int) := by rw [IntWalk.i64_in _ (by omega)]; omega
  have stb : ∀ a b : VV, stO (h ++ [.box [a, b] false]) 2 (.ptr h.length 0) (.agg [txt r.1, .cv cc]) = some (.undef, h ++ [.box [txt r.1, .cv cc] false]) := fun a b => ab6
  have x1 := HExt.push h (.box [txt r.1, .cv cc] false)
  have b1 : (h ++ [VO.box [txt r.1, .cv cc] false])[h.length]? = some (.box [txt r.1, .cv cc] false) := bp
  have lb := Bg (n := 2) b1 rfl
  obtain ⟨v, g1, n1, rfl, x2⟩ := ht.call _ r.1 r.2 cc (ht.ext _ _ x1 hB) hc
  have hB1 := ht.ext _ _ (x1.trans x2) hB
  have ha1 := (x1.trans x2).get ha
  have b2 := x2.get b1
  have lb2 := Bg (n := 2) b2 rfl
  have hx1 := (hx.trans x1).trans x2
  rw [ba, bi f67_1.eq_1]
  simp only [go_sem, seval, hs, e6, e0, c, ia, la, stb, lb, e1, List.map]
  refine zu (f := f) (caps := caps) (by simp only [go_sem, seval, hs]) (by simp only [List.map, go_sem, seval, hs]; exact n1) ?_ ht.lt
  cases hp : p r with
  | true =>
   simp only [go_sem, seval, hs, show p (r.1, r.2) = true from hp, e6, hwj]
   refine ih i (j + 1) full elsK _ _ Q (by omega) (by omega) hx1 hB1 ha1 hfl htk hkl (by rw [htake, List.filter_append]; simpa [hp] using hRK) (fun t h1 h2 => hfr t (by omega) h2) hlen (by simp only [ah, hs]) (by simp only [go_sem, seval, e0]) (by simp only [go_sem, seval, e1]) (by simp only [go_sem, seval, e5]) (by simp only [go_sem, seval, hs]) hQ
  | false =>
   have ia2 : iaO g1 2 (.own id g 0 l.length false) (vi .i64 (i : Int)) = some (.eptr id g (0 + i) 0, g1) := zq (by omega) ha1 (by simpa using by omega)
   rw [Nat.zero_add] at ia2
   obtain ⟨ei, hei, heil⟩ := hlen i (by omega)
   have st2 : stO g1 2 (.eptr id g i 0) (.agg [txt r.1, .cv cc]) = some (.undef, g1.set id (.arr 2 (full.set i [.sc (.string ⟨r.1.toArray⟩), cc]) g false)) := Ij (cs := [.sc (.string ⟨r.1.toArray⟩), cc]) rfl ha1 hei heil
   simp only [go_sem, seval, hs, show p (r.1, r.2) = false from hp, e6, e5, e0, hwj, lb2, ia2, st2, hwi]
   refine ih (i + 1) (j + 1) (full.set i [.sc (.string ⟨r.1.toArray⟩), cc]) (elsK ++ [[.sc (.string ⟨r.1.toArray⟩), cc]]) _ _ Q (by omega) (by omega) (hx1.set hid _) (ht.set _ _ _ _ _ _ _ ha1 hB1) (List.getElem?_set_self (ev ha1)) (by rw [List.length_set]; exact hfl) ?_ (by simp; omega) ?_ ?_ ?_ (by simp only [ah, hs]) (by simp only [go_sem, seval, e0]) (by simp only [go_sem, seval, e1]) (by simp only [go_sem, seval, hs]) (by simp only [go_sem, seval, hs]) hQ
   ·have hil : i < full.length := by omega
    rw [List.take_succ_eq_append_getElem (by rw [List.length_set]; omega), List.getElem_set_self, List.take_set_of_le (Nat.le_refl _), htk]
   ·rw [htake, List.filter_append]
    simp only [List.filter_cons, hp, Bool.not_false, if_true, List.filter_nil]
    exact hRK.snoc ⟨cc, rfl, hc⟩
   ·intro t h1 h2
    rw [List.getElem?_set_ne (by omega)]
    exact hfr t (by omega) h2
   ·intro t ht2
    by_cases hti : i = t
    ·subst hti
     exact ⟨_, List.getElem?_set_self (by omega), rfl⟩
    ·rw [List.getElem?_set_ne hti]; exact hlen t ht2
theorem Rp {h : ae} {v : VV} (hv : PB h0 h 2 els v) (hR : RowsE els l) (hl : l.length ≤ 1000000000) (ht : Tells B f caps p) (hB : B h) :
    Ret F 67 [v, .func f caps] h fun v' g => B g ∧ ∃ els', PB h0 g 2 els' v' ∧ RowsE els' (l.filter (fun r => !p r)) := by
  have hpl := hR.len
  obtain ⟨v33, g1, n33, rfl, x1⟩ := Jq hv.vf hR hl ht hB
  have hv1 := hv.then x1
  have hB1 := ht.ext _ _ x1 hB
  refine bc (fn := f67) rfl ?_
  simp only [f67]
  generalize hs0 : ([v, .func f caps] ++ List.replicate _ VV.undef : List VV) = s
  have hs : s.length = 42 := by grind
  have h0 : s.getD 0 .undef = v := by grind
  have h1 : s.getD 1 .undef = .func f caps := by grind
  clear hs0
  simp only [go_sem, seval, hs, h0, h1]
  refine ao (by simp only [List.map, go_sem, seval, hs]; exact n33) ?_
  simp only [go_sem, seval, hs]
  rw [bi f67_0.eq_1]
  rcases ra p l 0 with ⟨e, hno⟩ | ⟨k, r, e, hk1, hk2, hk3⟩
  · have e' : Of p 0 l = -1 := e
    simp only [go_sem, seval, hs, e', h0]
    exact ⟨hB1, els, hv1, by rw [Ae hno]; exact hR⟩
  · have hkl := (List.getElem?_eq_some_iff.1 hk1).1
    rw [Nat.zero_add] at e
    have c1 : ¬ Of p 0 l = -1 := by omega
    have hwk : IntKind.i64.wrap ((k : Int) + 1) = ((k + 1 : Nat) : Int) := by rw [IntWalk.i64_in _ (by omega)]; omega
    rcases hv1.v with ⟨e0, _⟩ | ⟨e0, _⟩ | ⟨id, g, full, hid, rfl, a2, a3, a4⟩
    · grind
    · grind
    simp only [go_sem, seval, hs, c1, e, hwk]
    have hfr : ∀ t, t < l.length → full[t]? = els[t]? := fun t ht => by
      grind
    refine f67_loop hR hl ht hid (l.length - (k + 1)) k (k + 1) full (els.take k) _ _ _ (by omega) (by omega) hv1.ext hB1 a2 (by omega) (by grind) (by grind) ?_ (fun t _ h2 => hfr t h2) (fun t h2 => ?_) (by simp only [ah, hs]) (by simp only [go_sem, seval, h0, hpl]) (by simp only [go_sem, seval, h1]) (by simp only [go_sem, seval, hs]) (by simp only [go_sem, seval, hs]) (fun s' h' i' full' elsK' b0 b1 b2 b3 b4 b5 b6 b7 b8 b9 b10 => ?_)
    · rw [List.take_succ_eq_append_getElem hkl, List.filter_append, Ae hk3]
      have : l[k] = r := (List.getElem?_eq_some_iff.1 hk1).2
      rw [this]
      simp only [List.filter_cons, hk2, Bool.not_true, Bool.false_eq_true, if_false, List.filter_nil, List.append_nil]
      exact Bw hR k
    · obtain ⟨e1, r1, he1, _, hr1⟩ := hR.get h2
      exact ⟨e1, by grind, Oc hr1⟩
    · have sl1 : slO h' 2 (.own id g 0 l.length false) (some (vi .i64 (i' : Int))) none none = some (.own id g (0 + i') (l.length - i') false, h') := by
        have : (i' : Int) ≤ (l.length : Int) := by omega
        simp [slO, ai, mi, lz, bnd, qg, this, b4]
      simp only [go_sem, seval, b0, b9, b10, sl1]
      refine aei (full := full') (off := 0 + i') (len := l.length - i') (ex := false) (by simp only [go_sem, seval, b0]) b4 (by omega) ?_
      have b4' := List.getElem?_set_self (a := VO.arr 2 (am full' (0 + i') (List.replicate (l.length - i') [CV.sc (.string ⟨#[]⟩), .sc (.slice none 0 0)])) g false) (ev b4)
      have hspl : (am full' (0 + i') (List.replicate (l.length - i') [CV.sc (.string ⟨#[]⟩), .sc (.slice none 0 0)])).length = full'.length := ey (by simp; omega)
      have htk : (am full' (0 + i') (List.replicate (l.length - i') [CV.sc (.string ⟨#[]⟩), .sc (.slice none 0 0)])).take i' = elsK' := by
        unfold am
        grind
      have bB := ht.set _ _ _ _ _ _ (VO.arr 2 (am full' (0 + i') (List.replicate (l.length - i') [CV.sc (.string ⟨#[]⟩), .sc (.slice none 0 0)])) g false) b4 b2
      have bX := b1.set hid (VO.arr 2 (am full' (0 + i') (List.replicate (l.length - i') [CV.sc (.string ⟨#[]⟩), .sc (.slice none 0 0)])) g false)
      generalize h'.set id (VO.arr 2 (am full' (0 + i') (List.replicate (l.length - i') [CV.sc (.string ⟨#[]⟩), .sc (.slice none 0 0)])) g false) = h2 at b4' bB bX
      have sl2 : slO h2 2 (.own id g 0 l.length false) none (some (vi .i64 (i' : Int))) none = some (.own id g 0 i' false, h2) := by
        have : (i' : Int) ≤ (l.length : Int) := by omega
        simp [slO, ai, mi, lz, bnd, qg, this, b4']
      simp only [go_sem, seval, b0, b9, b10, sl2]
      exact ⟨bB, elsK', ⟨bX, .inr (.inr ⟨id, g, _, hid, by rw [b7], b4', by omega, by rw [b7, htk]⟩)⟩, b8⟩
end
open Go Go.Vm
theorem Rl {h0 h : ae} {els : List (List CV)} {v : VV} {e : List CV} {i : Nat} (hv : PB h0 h 2 els v) (hi : i <= els.length) (hl : els.length <= 100000000) :
  Ret F 70 [v, vi .i64 i, .cv (.sl 2 [e] true)] h fun v' g => PB h0 g 2 (els.take i ++ e :: els.drop i) v' := by
 have hm : cz = 35184372088832 := rfl
 have go : ∀ v' h1, ai h (ad [v, vi .i64 i, .cv (.sl 2 [e] true)]) (.ins 2 40 (.t 0) (.t 1) (.t 2)) = some (v', h1) -> PB h0 h1 2 (els.take i ++ e :: els.drop i) v' -> Ret F 70 [v, vi .i64 i, .cv (.sl 2 [e] true)] h fun v' g => PB h0 g 2 (els.take i ++ e :: els.drop i) v' := by
  intro v' h1 hs hP
  refine bc (fn := f70x) rfl ?_
  show X F (.reg [⟨none, some 2, .ins 2 40 (.t 0) (.t 1) (.t 2)⟩]) ⟨[v, vi .i64 i, .cv (.sl 2 [e] true)], h⟩ (RQ [.t 2] _)
  rw [akk, ig rfl, hs, kj, aca]
  exact ⟨trivial, [v'], rfl, hP⟩
 rcases hv.v with ⟨rfl, rfl⟩ | ⟨rfl, rfl⟩ | ⟨id, g, full, a1, rfl, a2, a3, a4⟩
 ·obtain rfl : i = 0 := by grind
  refine go (.own h.length 0 0 1 false) (h ++ [.arr 2 [e] 0 false]) (by simp [ai, ad, ct]) ⟨hv.ext.then _, .inr (.inr ⟨h.length, 0, [e], hv.ext.len, by simp, by simp, by simp, by simp⟩)⟩
 ·obtain rfl : i = 0 := by grind
  refine go (.own h.length 0 0 1 false) (h ++ [.arr 2 [e] 0 false]) (by simp [ai, ad]) ⟨hv.ext.then _, .inr (.inr ⟨h.length, 0, [e], hv.ext.len, by simp, by simp, by simp, by simp⟩)⟩
 ·have hid := ev a2
  have hnl : (els.take i ++ e :: els.drop i).length = els.length + 1 := by grind
  refine go (.own id (g + 1) 0 (els.length + 1) false) (h.set id (.arr 2 (els.take i ++ e :: els.drop i) (g + 1) false)) ?_ ⟨hv.ext.set a1 _, .inr (.inr ⟨id, g + 1, els.take i ++ e :: els.drop i, a1, by rw [hnl], by grind, Nat.le_refl _, by grind⟩)⟩
  have c1 : (els.length + 1) * 40 <= 35184372088832 := by omega
  have c2 : els.length + 1 <= 35184372088832 := by omega
  have c3 : (i : Int) <= (els.length : Int) := by omega
  have e0 : ad [VV.own id g 0 els.length false, vi .i64 i, .cv (.sl 2 [e] true)] (.t 0) = .own id g 0 els.length false := rfl
  have e1 : ad [VV.own id g 0 els.length false, vi .i64 i, .cv (.sl 2 [e] true)] (.t 1) = .cv (.sc (.int .i64 (i : Int))) := rfl
  have e2 : ad [VV.own id g 0 els.length false, vi .i64 i, .cv (.sl 2 [e] true)] (.t 2) = .cv (.sl 2 [e] true) := rfl
  simp only [ai, e0, e1, e2, a2, if_true, hm, a3, c1, c2, c3, and_self, Int.natCast_nonneg, Int.toNat_natCast, <- a4]
def za (l : List KV) (key : List UInt8) : Nat := if Of (fun r => Op.bytesLess key r.1) 0 l < 0 then l.length else (Of (fun r => Op.bytesLess key r.1) 0 l).toNat
def gd (l : List KV) (key : List UInt8) : List KV := l.filter (fun r => !decide (r.1 = key))
def lm (l : List KV) (x : Ch) : List KV := if x.2.2 = true then gd l x.1 else (gd l x.1).take (za (gd l x.1) x.1) ++ (x.1, x.2.1) :: (gd l x.1).drop (za (gd l x.1) x.1)
def cj (l : List KV) (c : List Ch) : List KV := c.foldl lm l
theorem Lt (l : List KV) (key : List UInt8) : za l key <= l.length := by
 unfold za
 rcases ra (fun r => Op.bytesLess key r.1) l 0 with ⟨e, _⟩ | ⟨k, r, e, h1, _, _⟩
 ·rw [e]; simp
 grind
theorem Kg (l : List KV) (key : List UInt8) : (gd l key).length <= l.length := List.length_filter_le _ _
theorem Wy (l : List KV) (x : Ch) : (lm l x).length <= l.length + 1 := by
 have h1 := Kg l x.1
 have h2 := Lt (gd l x.1) x.1
 unfold lm
 grind
theorem aii {els : List (List CV)} {kv : List KV} (hR : RowsE els kv) (n : Nat) : RowsE (els.take n) (kv.take n) := Bw hR n
theorem akd {els : List (List CV)} {kv : List KV} (hR : RowsE els kv) (n : Nat) : RowsE (els.drop n) (kv.drop n) := by
 induction hR generalizing n with
 | nil => simp; exact .nil
 | cons h t ih =>
  cases n with
  | zero => exact .cons h t
  | succ n => exact ih n
theorem amg {l m : List (List CV)} {k j : List KV} (h : RowsE l k) (h2 : RowsE m j) : RowsE (l ++ m) (k ++ j) := by
 induction h with
 | nil => exact h2
 | cons h _ ih => exact .cons h ih
def amu (G : Prop) : Prop := ∀ (h0 h : ae) (els : List (List CV)) (v : VV) (e : List CV) (i : Nat), PB h0 h 2 els v -> i <= els.length -> e.length = 2 -> els.length <= 1000000 -> (∀ x ∈ els, x.length = 2) -> (G \/ i = els.length) ->
 Ret F 70 [v, vi .i64 i, .cv (.sl 2 [e] true)] h fun v' g => PB h0 g 2 (els.take i ++ e :: els.drop i) v'
theorem amy {G : Prop} : amu G := by
 intro h0 h els v e i hv hi he hl _ _
 exact Rl hv hi (by omega)
section
variable {G : Prop} {cs : List Ch} {elsC : List (List CV)} {uc : VV} {h0 : ae}
theorem f39_loop (hI : amu G) (hC : ChsE elsC cs) (huc : SlV 3 elsC uc) (hcl : cs.length <= 100000) (hval : ∀ x ∈ cs, x.2.1.length <= 1000000000) :
  ∀ (m i : Nat) (l : List KV) (els : List (List CV)) (v : VV) (s : List VV) (h : ae) (Q : Pst), i + m = cs.length -> l.length <= 100000 + i -> PB h0 h 2 els v -> RowsE els l ->
   (G \/ ∀ c1 x c2, cs.drop i = c1 ++ x :: c2 -> x.2.2 = false -> za (gd (cj l c1) x.1) x.1 = (gd (cj l c1) x.1).length) ->
   s.length = 41 -> s.getD 5 .undef = v -> s.getD 11 .undef = uc -> s.getD 12 .undef = vi .i64 cs.length -> s.getD 13 .undef = vi .i64 i ->
   (∀ s' h' els' v', s'.length = 41 -> s'.getD 5 .undef = v' -> PB h0 h' 2 els' v' -> RowsE els' (cj l (cs.drop i)) -> Q (.exit 0) ⟨s', h'⟩) -> X F (.loop f39_3) ⟨s, h⟩ Q := by
 intro m
 have hpl := hC.len
 induction m with
 | zero =>
  intro i l els v s h Q hi hll hP hR hG hs e5 e11 e12 e13 hQ
  have c : ¬ ((i : Nat) : Int) < (cs.length : Int) := by omega
  have hd : cs.drop i = [] := List.drop_eq_nil_of_le (by omega)
  rw [hd] at hQ
  rw [ba, bi f39_3.eq_1]
  simp only [go_sem, seval, hs, e13, e12]
  rw [bi f39_0.eq_1]
  simp only [go_sem, seval, hs, c]
  exact hQ _ _ els v (by simp only [ah, hs]) (by simp only [go_sem, seval, e5]) hP hR
 | succ m ih =>
  intro i l els v s h Q hi hll hP hR hG hs e5 e11 e12 e13 hQ
  have c : ((i : Nat) : Int) < (cs.length : Int) := by omega
  obtain ⟨e, x, he, hx, cc, rfl, hcx⟩ := hC.get (i := i) (by omega)
  have hd : cs.drop i = x :: cs.drop (i + 1) := by
   obtain ⟨la, e⟩ := List.getElem?_eq_some_iff.1 hx
   rw [List.drop_eq_getElem_cons la, e]
  rw [hd] at hQ hG
  have hap : cj l (x :: cs.drop (i + 1)) = cj (lm l x) (cs.drop (i + 1)) := rfl
  rw [hap] at hQ
  have ia : iaO h 3 uc (vi .i64 (i : Int)) = some (.rptr [.sc (.string ⟨x.1.toArray⟩), cc, .sc (.bool x.2.2)], h) := huc.ia (by omega) (by rw [Int.toNat_natCast]; exact he)
  have la : ldO h true 3 (.rptr [.sc (.string ⟨x.1.toArray⟩), cc, .sc (.bool x.2.2)]) = some (.agg [txt x.1, .cv cc, .cv (.sc (.bool x.2.2))], h) := acy
  have stb : ∀ a b c : VV, stO (h ++ [.box [a, b, c] false]) 3 (.ptr h.length 0) (.agg [txt x.1, .cv cc, .cv (.sc (.bool x.2.2))]) = some (.undef, h ++ [.box [txt x.1, .cv cc, .cv (.sc (.bool x.2.2))] false]) := fun a b c => acw
  have x1 := HExt.push h (.box [txt x.1, .cv cc, .cv (.sc (.bool x.2.2))] false)
  have b1 : (h ++ [VO.box [txt x.1, .cv cc, .cv (.sc (.bool x.2.2))] false])[h.length]? = some (.box [txt x.1, .cv cc, .cv (.sc (.bool x.2.2))] false) := bp
  have hw13 : IntKind.i64.wrap ((i : Int) + 1) = ((i + 1 : Nat) : Int) := by rw [IntWalk.i64_in _ (by omega)]; omega
  have hll' := hR.len
  obtain ⟨v1, g1, n1, B1, els1, P1, R1⟩ := Rp (B := fun g => g[h.length]? = some (.box [txt x.1, .cv cc, .cv (.sc (.bool x.2.2))] false)) (p := fun r => decide (r.1 = x.1)) (f := 68) (caps := [.ptr h.length 0]) (hP.then x1) hR (by omega)
   ⟨(by decide), fun _ _ e b => e.get b, fun hh id z els g fr o ho b => by rw [List.getElem?_set_ne (by rintro rfl; rw [ho] at b; cases b)]; exact b, fun hh k l c b hc => Ub.call hh k l c ⟨_, _, b⟩ hc⟩ b1
  have l20 : ldO g1 false 1 (.ptr h.length 2) = some (.cv (.sc (.bool x.2.2)), g1) := bg B1 rfl
  have hlk : l.filter (fun r => !decide (r.1 = x.1)) = gd l x.1 := rfl
  rw [hlk] at R1
  have hlen1 := Kg l x.1
  rw [ba, bi f39_3.eq_1]
  simp only [go_sem, seval, hs, e13, e12]
  rw [bi f39_0.eq_1]
  simp only [go_sem, seval, hs, c, e11, e13, ia, la, stb, e5, List.map]
  refine ao (by simp only [List.map, go_sem, seval, hs]; exact n1) ?_
  simp only [go_sem, seval, hs]
  rw [bi f39_1.eq_1]
  cases hg : x.2.2 with
  | true =>
   have hst : lm l x = gd l x.1 := by unfold lm; rw [if_pos hg]
   rw [hst] at hQ
   rw [hg] at l20
   simp only [go_sem, seval, hs, l20, e13, hw13]
   refine ih (i + 1) (gd l x.1) els1 v1 _ _ Q (by omega) (by omega) P1 R1 ?_ (by simp only [ah, hs]) (by simp only [go_sem, seval, hs]) (by simp only [go_sem, seval, e11]) (by simp only [go_sem, seval, e12]) (by simp only [go_sem, seval, hs]) hQ
   rcases hG with hG | hG
   ·exact .inl hG
   ·refine .inr fun c1 y c2 e1 e2 => ?_
    have := hG (x :: c1) y c2 (by rw [e1]; rfl) e2
    rwa [show cj l (x :: c1) = cj (gd l x.1) c1 by show cj (lm l x) c1 = _; rw [hst]] at this
  | false =>
   have hst : lm l x = (gd l x.1).take (za (gd l x.1) x.1) ++ (x.1, x.2.1) :: (gd l x.1).drop (za (gd l x.1) x.1) := by unfold lm; rw [if_neg (by rw [hg]; decide)]
   rw [hg] at l20 B1
   obtain ⟨v33, g2, n33, rfl, x2⟩ := Jq (B := wz h.length x.1) P1.vf R1 (by omega) Xs ⟨_, _, B1⟩
   have P2 := P1.then x2
   have B2 := x2.get B1
   have hl1 := R1.len
   simp only [go_sem, seval, hs, l20]
   refine ao (by simp only [List.map, go_sem, seval, hs]; exact n33) ?_
   simp only [go_sem, seval, hs]
   -- the place
   refine mid (P := fun st => st.h = g2 /\ st.s.length = 41 /\ st.s.getD 5 .undef = v1 /\ st.s.getD 7 .undef = .ptr h.length 0 /\ st.s.getD 8 .undef = vi .i64 (za (gd l x.1) x.1 : Nat) /\ st.s.getD 11 .undef = uc /\ st.s.getD 12 .undef = vi .i64 cs.length /\ st.s.getD 13 .undef = vi .i64 i) ?_ ?_
   ·rw [bi f39_2.eq_1]
    by_cases d : Of (fun r => Op.bytesLess x.1 r.1) 0 (gd l x.1) < 0
    ·have hp : za (gd l x.1) x.1 = els1.length := by unfold za; rw [if_pos d, hl1]
     simp only [go_sem, seval, hs, d, P2.vf.ln, hp, e11, e12, e13, and_self]
    ·have hp : Of (fun r => Op.bytesLess x.1 r.1) 0 (gd l x.1) = ((za (gd l x.1) x.1 : Nat) : Int) := by unfold za; rw [if_neg d]; omega
     have d' : ¬ ((za (gd l x.1) x.1 : Nat) : Int) < 0 := by omega
     rw [hp]
     simp only [go_sem, seval, hs, d', e11, e12, e13, and_self]
   ·rintro ⟨s1, g2'⟩ ⟨e, hs1, ff5, ff7, ff8, ff11, ff12, ff13⟩
    dsimp only at e hs1 ff5 ff7 ff8 ff11 ff12 ff13
    subst e
    have lk : ldO g2' false 1 (.ptr h.length 0) = some (txt x.1, g2') := bg B2 rfl
    have lv : ldO g2' false 1 (.ptr h.length 1) = some (.cv cc, g2') := bg B2 rfl
    obtain ⟨v36, h36, n36, w36, r36, S36⟩ := Eh hcx (hval x (List.mem_of_getElem? hx))
    obtain ⟨c36, rfl⟩ : ∃ c2, w36 = .cv c2 := by rcases S36 with ⟨rfl, _⟩ | ⟨ex, rfl⟩ <;> exact ⟨_, rfl⟩
    have bd : ∀ c : CV, bdO [.cv (.sc (.string ⟨#[]⟩)), .cv (.sc (.slice none 0 0))] [(0, 1, txt x.1), (1, 1, .cv c)] = some (.agg [txt x.1, .cv c]) := fun c => rfl
    have mk : mkO g2' 2 1 [.cv (.sc (.string ⟨#[]⟩)), .cv (.sc (.slice none 0 0))] [(0, 2, .agg [txt x.1, .cv c36])] = some (.cv (.sl 2 [[.sc (.string ⟨x.1.toArray⟩), c36]] true), g2') := Lu
    have hpl := Lt (gd l x.1) x.1
    have hGi : G \/ za (gd l x.1) x.1 = els1.length := by
     rcases hG with hG | hG
     ·exact .inl hG
     ·exact .inr (by rw [hl1]; exact hG [] x _ rfl hg)
    obtain ⟨v35, g5, n35, P5⟩ := hI h0 g2' els1 v1 [.sc (.string ⟨x.1.toArray⟩), c36] (za (gd l x.1) x.1) P2 (by omega) rfl (by omega) (fun y hy => by
     obtain ⟨k, hk⟩ := List.mem_iff_getElem?.1 hy
     obtain ⟨e1, r1, he1, _, hr1⟩ := R1.get (i := k) (by have := (List.getElem?_eq_some_iff.1 hk).1; omega)
     rw [hk] at he1; cases he1; exact Oc hr1) hGi
    refine nv rfl ?_
    simp only [go_sem, seval, hs1, ff5, ff7, ff8, lk, lv]
    refine vx (by simp only [List.map, go_sem, seval, hs1]; exact hcx.clos rfl) n36 r36 ?_
    simp only [go_sem, seval, hs1, bd, mk]
    refine vu (by simp only [List.map, go_sem, seval, hs1]; exact n35) ?_
    simp only [go_sem, seval, hs1, ff13, hw13]
    rw [hst] at hQ
    refine ih (i + 1) ((gd l x.1).take (za (gd l x.1) x.1) ++ (x.1, x.2.1) :: (gd l x.1).drop (za (gd l x.1) x.1)) _ v35 _ _ Q (by omega) ?_ P5 (amg (aii R1 _) (.cons ⟨c36, rfl, S36⟩ (akd R1 _))) ?_ (by simp only [ah, hs1]) (by simp only [go_sem, seval, hs1]) (by simp only [go_sem, seval, ff11]) (by simp only [go_sem, seval, ff12]) (by simp only [go_sem, seval, hs1]) hQ
    ·have := Wy l x
     rw [hst] at this; omega
    ·rcases hG with hG | hG
     ·exact .inl hG
     ·refine .inr fun c1 y c2 e1 e2 => ?_
      have := hG (x :: c1) y c2 (by rw [e1]; rfl) e2
      rwa [show cj l (x :: c1) = cj ((gd l x.1).take (za (gd l x.1) x.1) ++ (x.1, x.2.1) :: (gd l x.1).drop (za (gd l x.1) x.1)) c1 by show cj (lm l x) c1 = _; rw [hst]] at this
theorem Ji (hI : amu G) {els : List (List CV)} {l : List KV} {u : VV} (hu : SlV 2 els u) (hR : RowsE els l) (hl : l.length <= 100000) (hC : ChsE elsC cs) (huc : SlV 3 elsC uc) (hcl : cs.length <= 100000) (hval : ∀ x ∈ cs, x.2.1.length <= 1000000000)
  (hG : G \/ ∀ c1 x c2, cs = c1 ++ x :: c2 -> x.2.2 = false -> za (gd (cj l c1) x.1) x.1 = (gd (cj l c1) x.1).length) :
  Er F 39 [u, uc] fun w => ∃ els', SlV 2 els' w /\ RowsE els' (cj l cs) := by
 have : Ret F 39 [u, uc] [] fun v g => ∃ els', PB [] g 2 els' v /\ RowsE els' (cj l cs) := by
  have hll := hR.len
  obtain ⟨v30, g30, n30, P30⟩ := Dd (h := []) hu.vf (by omega)
  refine bc (fn := f39) rfl ?_
  simp only [f39]
  generalize hs0 : ([u, uc] ++ List.replicate _ VV.undef : List VV) = s
  have hs : s.length = 41 := by grind
  have h0 : s.getD 0 .undef = u := by grind
  have h1 : s.getD 1 .undef = uc := by grind
  clear hs0
  have hpl := hC.len
  simp only [go_sem, seval, hs, h0]
  refine ao (by simp only [List.map, go_sem, seval, hs]; exact n30) ?_
  simp only [go_sem, Nat.reduceLT, Nat.reduceEqDiff, reduceCtorEq, Int.reduceLT, Int.reduceEq, hs, h1, huc.ln, hpl]
  refine f39_loop hI hC huc hcl hval cs.length 0 l els v30 _ _ _ (by omega) (by omega) P30 hR (by grind) (by grind) (by grind) (by grind) (by grind) (by grind) (fun s' h' els' v' a1 a2 a3 a4 => ?_)
  rw [List.drop_zero] at a4
  simp only [go_sem, seval, a1, a2]
  grind
 obtain ⟨v, g, n1, els', P, R⟩ := this
 obtain ⟨w, g1, c1, c2, _⟩ := P.vf.clos
 refine ⟨v, g, n1, w, ?_, els', c2, R⟩
 have hc := P.cellv
 cases v with
 | tup l => simp [en] at hc
 | _ => simp only [au, c1, Option.map]
end
open Go Go.Vm
open Go Go.Vm
section
variable {s0 : List VV} {a b : List KV} {acc : List Ch} {g : ae} {s : List VV} {Q : Pst}
end
open Go Go.Vm
section
variable {s0 : List VV} {a b : List KV} {acc : List Ch} {g : ae} {s : List VV} {Q : Pst}
end
open Go Go.Vm
theorem Tx (a r : List UInt8) (p : Ch) (h1 : p.1.length <= 30) (h2 : p.2.1.length <= 150) (h3 : p.2.2 = true -> p.2.1 = []) : dy (a ++ chB p ++ r) a.length = (acg p, a.length + (chB p).length, 0) := by
 obtain ⟨k, v, g⟩ := p
 cases g with
 | true =>
  have e1 : bh (a ++ chB (k, v, true) ++ r) a.length 30 = (k, a.length + (jd k).length, 0) := by
   have := lh a ([1] ++ r) k 30 (by grind)
   rw [if_neg (by grind)] at this
   rw [<- this]
   simp [chB]
  have e2 : (a ++ chB (k, v, true) ++ r)[a.length + (jd k).length]? = some 1 := by
   have : a ++ chB (k, v, true) ++ r = (a ++ jd k) ++ (1 :: r) := by simp [chB]
   grind
  unfold dy
  rw [e1]
  simp only [ne_eq, not_true_eq_false, if_false]
  rw [e2]
  simp [acg, chB, Nat.add_assoc]
 | false =>
  have e1 : bh (a ++ chB (k, v, false) ++ r) a.length 30 = (k, a.length + (jd k).length, 0) := by
   have := lh a ([0] ++ jd v ++ r) k 30 (by grind)
   rw [if_neg (by grind)] at this
   rw [<- this]
   simp [chB]
  have e2 : (a ++ chB (k, v, false) ++ r)[a.length + (jd k).length]? = some 0 := by
   have : a ++ chB (k, v, false) ++ r = (a ++ jd k) ++ (0 :: (jd v ++ r)) := by simp [chB]
   grind
  have e3 : bh (a ++ chB (k, v, false) ++ r) ((a.length + (jd k).length + 1 : Nat) : Int) 150 = (v, a.length + (jd k).length + 1 + (jd v).length, 0) := by
   have := lh (a ++ jd k ++ [0]) r v 150 (by grind)
   rw [if_neg (by grind)] at this
   have el : (a ++ jd k ++ [0]).length = a.length + (jd k).length + 1 := by simp; omega
   rw [el] at this
   rw [<- this]
   simp [chB]
  unfold dy
  rw [e1]
  simp only [ne_eq, not_true_eq_false, if_false]
  rw [e2]
  simp only [e3]
  simp [acg, chB, Nat.add_assoc]
  omega
theorem Di : ∀ (kv : List Ch) (a r : List UInt8) (out : List (List CV)), qd kv ->
  jc (dy (a ++ py kv ++ r)) kv.length a.length out = (out ++ ur kv, a.length + (py kv).length, 0)
 | [], a, r, out, _ => by simp [jc, ur, py]
 | p :: kv, a, r, out, h => by
  obtain ⟨h1, h2, h3⟩ := h p (by simp)
  have e1 : dy (a ++ py (p :: kv) ++ r) a.length = (acg p, a.length + (chB p).length, 0) := by
   have := Tx a (py kv ++ r) p h1 h2 h3
   rw [<- this, me]
   grind
  have e2 := Di kv (a ++ chB p) r (out ++ [acg p]) (fun q hq => h q (by simp [hq]))
  rw [List.length_append] at e2
  simp only [List.length_cons, jc]
  rw [e1]
  simp only [ne_eq, not_true_eq_false, if_false]
  have e3 : a ++ py (p :: kv) ++ r = a ++ chB p ++ py kv ++ r := by rw [me]; grind
  rw [e3, e2]
  simp only [ur, List.map_cons, me, List.length_append, List.append_assoc, List.singleton_append, Nat.add_assoc]
theorem Sa (kv : List Ch) (hf : qd kv) (hk : kv.length <= 5000) : ip (dy (gu kv)) (gu kv) = (ur kv, 0) := by
 have hc : ka (kv.length : Int) = kv.length := nw _ (by omega)
 have e0 : gu kv = num kv.length ++ py kv ++ [] := by unfold gu; rw [hc]; simp [py]
 have e1 : cd (gu kv) 0 = (kv.length, (num kv.length).length, 0) := by
  rw [e0]
  have := Ej [] (py kv ++ []) kv.length (by omega)
  grind
 have e2 := Di kv (num kv.length) [] [] hf
 rw [<- e0] at e2
 unfold ip
 grind
theorem Kv (kv : List Ch) : gu kv ≠ [] := by
 unfold gu
 intro e
 exact ace _ (List.append_eq_nil_iff.1 e).1
section
variable {epoch n i of_ : Nat} {p : List UInt8}
theorem Pl (h : p.length <= 49) : kOf (kd epoch n i of_ p) = p.length := by
 have : (kd epoch n i of_ p).getD 10 0 = u8 p.length := by simp [kd, Cs, oc, wd]
 unfold kOf
 rw [this, nu _ (by omega)]
theorem Th (h : of_ < 256) : Lz (kd epoch n i of_ p) = of_ := by rw [aap]; omega
theorem Jg (h : p.length <= 49) : my (kd epoch n i of_ p) = p := by
 unfold my
 rw [Pl h]
 have hl : (wd epoch ++ wd n ++ [u8 i, u8 of_, u8 p.length]).length = 11 := by simp [wd]
 have e : kd epoch n i of_ p = (wd epoch ++ wd n ++ [u8 i, u8 of_, u8 p.length]) ++ (p ++ (List.replicate (49 - p.length) 0 ++ le4 (crc (Cs epoch n i of_ p)))) := by
  unfold kd oc
  conv => lhs; unfold Cs
  simp only [List.append_assoc]
  rfl
 grind
theorem agr (h : p.length <= 49) (h1 : 1 <= p.length) (h2 : 1 <= of_) (h3 : of_ <= 200) (h4 : of_ <= i + 1 \/ p.length = 49) : ov epoch n i of_ (kd epoch n i of_ p) := by
 refine ⟨Jk h, ?_, ?_, h2, h3, ?_, ?_⟩
 ·rw [Pl h]; exact h1
 ·rw [Pl h]; exact h
 ·rw [Pl h]; exact h4
 ·rw [Jg h]
theorem Ql {epoch' n' i' of' : Nat} (h : wd epoch ≠ wd epoch' \/ wd n ≠ wd n') : ¬ ov epoch n i of_ (kd epoch' n' i' of' p) := by
 intro hh
 have e := hh.2.2.2.2.2.2
 have t : ∀ {e n i o : Nat} {q : List UInt8}, (kd e n i o q).take 8 = wd e ++ wd n := by
  intro e n i o q
  simp [kd, Cs, oc, wd]
 have e8 := congrArg (List.take 8) e
 rw [t, t] at e8
 obtain ⟨q1, q2⟩ := List.append_inj e8 rfl
 grind
theorem ag9 {a b : Nat} (ha : a < 4294967296) (hb : b < 4294967296) (h : wd a = wd b) : a = b := by
 simp only [wd, List.cons.injEq, and_true] at h
 obtain ⟨h1, h2, h3, h4⟩ := h
 have k1 := Nk (by omega) (by omega) h1
 have k2 := Nk (by omega) (by omega) h2
 have k3 := Nk (by omega) (by omega) h3
 have k4 := Nk (by omega) (by omega) h4
 omega
end
def Pcs : List (List UInt8) -> Prop
 | [] => True
 | p :: r => 1 <= p.length /\ p.length <= 49 /\ (r ≠ [] -> p.length = 49) /\ Pcs r
theorem Vj : ∀ (m : Nat) (l : List UInt8), l.length <= m -> Pcs (pcs 49 l)
 | 0, l, h => by
  have : l = [] := List.eq_nil_of_length_eq_zero (by omega)
  subst this; exact trivial
 | m + 1, l, h => by
  by_cases hl : l = []
  ·subst hl; exact trivial
  ·have h0 : 0 < l.length := List.length_pos_iff.2 hl
   rw [su (by omega) hl]
   refine ⟨by grind, by grind, fun hne => ?_, Vj m _ (by grind)⟩
   rw [List.length_take]
   by_cases hc : 49 <= l.length
   ·omega
   ·exfalso
    apply hne
    rw [List.drop_eq_nil_of_le (by omega)]; rfl
theorem Pr : ∀ (m : Nat) (l : List UInt8), l.length <= m -> (pcs 49 l).flatten = l
 | 0, l, h => by
  have : l = [] := List.eq_nil_of_length_eq_zero (by omega)
  subst this; rfl
 | m + 1, l, h => by
  by_cases hl : l = []
  ·subst hl; rfl
  ·have h0 : 0 < l.length := List.length_pos_iff.2 hl
   rw [su (by omega) hl, List.flatten_cons, Pr m _ (by grind), List.take_append_drop]
theorem Kb {epoch n of_ : Nat} (h3 : of_ <= 200) : ∀ (ps : List (List UInt8)) (m i : Nat) (acc : List UInt8) (rest : List (List UInt8)), ps ≠ [] -> Pcs ps -> i + ps.length = of_ -> of_ <= m + i ->
  frL epoch n of_ m i (li epoch n of_ i ps ++ rest) acc = some (acc ++ ps.flatten)
 | [], m, i, acc, rest, h, _, _, _ => absurd rfl h
 | p :: r, 0, i, acc, rest, _, hp, hi, hm => by grind
 | p :: r, m + 1, i, acc, rest, _, hp, hi, hm => by
  obtain ⟨h1, h2, h4, h5⟩ := hp
  simp only [li, List.cons_append, frL]
  have ok : ov epoch n i of_ (kd epoch n i of_ p) := by
   refine agr h2 h1 (by grind) h3 ?_
   grind
  rw [if_pos ok, Jg h2]
  by_cases hr : r = []
  ·grind
  ·have hrl : 0 < r.length := List.length_pos_iff.2 hr
   rw [if_pos (by grind), Kb h3 r m (i + 1) _ rest hr h5 (by grind) (by omega)]
   simp
theorem Ir {epoch n : Nat} {l : List Ch} (hf : qd l) (hk : l.length <= 5000) (hl : (pcs 49 (gu l)).length <= 200) (rest : List (List UInt8)) :
  ed epoch n (li epoch n (pcs 49 (gu l)).length 0 (pcs 49 (gu l)) ++ rest) = (ur l, (pcs 49 (gu l)).length) := by
 have hne : pcs 49 (gu l) ≠ [] := by rw [su (by omega) (Kv l)]; simp
 have hof : ofS (li epoch n (pcs 49 (gu l)).length 0 (pcs 49 (gu l)) ++ rest) = (pcs 49 (gu l)).length := by
  cases h : pcs 49 (gu l) with
  | nil => grind
  | cons p r =>
   rw [h] at hl
   show Lz (kd epoch n 0 (p :: r).length p) = _
   exact Th (by omega)
 have e1 := Kb (epoch := epoch) (n := n) hl (pcs 49 (gu l)) 200 0 [] rest hne (Vj _ _ (Nat.le_refl _)) (by omega) (by omega)
 unfold ed tl
 rw [hof, e1]
 simp only [List.nil_append, Pr _ _ (Nat.le_refl _), Sa l hf hk, if_true]
open Go Go.Vm
theorem ag0 {p : Ch} (h1 : p.1.length <= 30) (h2 : p.2.1.length <= 150) : (chB p).length <= 200 := by
 have h0 := ai1 p
 have a1 := qa p.1.length
 have a2 := qa p.2.1.length
 unfold jd at h0
 grind
theorem Ht : ∀ l : List Ch, qd l -> (py l).length <= 200 * l.length
 | [], _ => by simp [py]
 | p :: l, h => by
  have h1 := h p (by simp)
  have h2 := ag0 h1.1 h1.2.1
  have h3 := Ht l (fun q hq => h q (by simp [hq]))
  rw [me, List.length_append, List.length_cons]; omega
theorem Ev (l : List Ch) (h : qd l) : (gu l).length <= 8 + 200 * l.length := by
 have h1 := Ht l h
 have h2 := qa l.length
 unfold gu
 rw [List.length_append]
 unfold py at h1
 omega
open Go Go.Vm
theorem Wf {epoch n of_ m i : Nat} {b : List UInt8} {r : List (List UInt8)} {acc : List UInt8} (h : ¬ ov epoch n i of_ b) : frL epoch n of_ (m + 1) i (b :: r) acc = none := by
 simp only [frL]
 grind
theorem Dr {epoch n : Nat} {b : List UInt8} {r : List (List UInt8)} (h : ¬ ov epoch n 0 (Lz b) b) : ed epoch n (b :: r) = ([], 0) := by
 have : tl epoch n (b :: r) = none := by
  exact Wf (m := 199) h
 unfold ed
 rw [this]
open Go Go.Vm
open Go Go.Vm
def aq (epoch j : Nat) (l : List Ch) : List (List UInt8) := li epoch j (pcs 49 (gu l)).length 0 (pcs 49 (gu l))
def Bad (epoch : Nat) (b : List UInt8) : Prop := ∀ n i of_, ¬ ov epoch n i of_ b
theorem Nv (epoch : Nat) : Bad epoch (List.replicate 64 0) := by
 intro n i of_ h
 have := h.2.1
 have e : kOf (List.replicate 64 0) = 0 := by rfl
 omega
open Go Go.Vm
open Go Go.Vm
theorem Ug {e n of_ : Nat} : ∀ (m i : Nat) (ss : List (List UInt8)) (acc all : List UInt8), frL e n of_ m i ss acc = some all -> all.length <= acc.length + 49 * m
 | 0, i, ss, acc, all, h => by simp [frL] at h; grind
 | m + 1, i, [], acc, all, h => by simp [frL] at h
 | m + 1, i, b :: r, acc, all, h => by
  simp only [frL] at h
  split at h
  ·rename_i ok
   have hb := Oy ok.1 ok.2.2.1
   have hk := ok.2.2.1
   split at h
   ·have := Ug m (i + 1) r _ all h
    grind
   grind
  ·cases h
theorem Vw {e n : Nat} {ss : List (List UInt8)} : ∃ kv, ChsE (ed e n ss).1 kv /\ kv.length <= 1000000 := by
 unfold ed
 split
 ·exact ⟨[], .nil, by simp⟩
 ·rename_i all ha
  split
  ·obtain ⟨kv, h1, h2⟩ := Le all
   have := Ug 200 0 ss [] all ha
   grind
  ·exact ⟨[], .nil, by simp⟩
theorem Sv {e : Nat} : ∀ (m n : Nat) (ss : List (List UInt8)), (∀ b ∈ (rdA e m n ss).1, ∃ kv, ChsE b kv /\ kv.length <= 1000000) /\ (rdA e m n ss).1.length <= m
 | 0, n, ss => by simp [rdA]
 | m + 1, n, ss => by
  unfold rdA
  split
  ·simp
  ·have k := Sv (e := e) m (n + 1) (ss.drop (ed e n ss).2)
   refine ⟨fun b hb => ?_, by grind⟩
   rcases List.mem_cons.1 hb with rfl | hb
   ·exact Vw
   grind
theorem Xf (e : Int) (ss : List (List UInt8)) : (∀ b ∈ (tg e ss).1, ∃ kv, ChsE b kv /\ kv.length <= 1000000) /\ (tg e ss).1.length <= ss.length + 1 := by
 unfold tg
 split
 ·exact Sv _ _ _
 ·simp
open Go Go.Vm
open Go Go.Vm
open Go Go.Vm
def Srt (l : List KV) : Prop := l.Pairwise fun p q => Op.bytesLess p.1 q.1 = true
theorem Du : ∀ {l : List KV}, Srt l -> ko l = true
 | [], _ => rfl
 | [_], _ => rfl
 | a :: b :: r, h => by
  rw [Srt, List.pairwise_cons] at h
  have h1 := h.1 b List.mem_cons_self
  rw [ko, Ib.2 h1, Du h.2]
  rfl
theorem aj4 {l : List KV} (h : Srt l) {i j : Nat} {p q : KV} (hij : i < j) (hp : l[i]? = some p) (hq : l[j]? = some q) : Op.bytesLess p.1 q.1 = true := by
 obtain ⟨hi, rfl⟩ := List.getElem?_eq_some_iff.1 hp
 obtain ⟨hj, rfl⟩ := List.getElem?_eq_some_iff.1 hq
 exact (List.pairwise_iff_getElem.1 h) i j hi hj hij
open Go Go.Vm
theorem Ww {l : List KV} (h : Srt l) (k : List UInt8) : Srt (gd l k) := List.Pairwise.filter _ h
theorem Tp {l : List KV} (h : Srt l) (x : Ch) : Srt (lm l x) := by
 have h1 := Ww h x.1
 have hne : ∀ r ∈ gd l x.1, r.1 ≠ x.1 := fun r hr => by simp [gd] at hr; exact hr.2
 unfold lm
 split
 ·exact h1
 ·generalize gd l x.1 = L at h1 hne
  have hp := Lt L x.1
  -- what lies ahead is less, what lies behind is greater
  have ahead : ∀ r ∈ L.take (za L x.1), Op.bytesLess r.1 x.1 = true := by
   intro r hr
   have hnl : Op.bytesLess x.1 r.1 = false := by
    unfold za at hr
    rcases ra (fun r => Op.bytesLess x.1 r.1) L 0 with ⟨e, hall⟩ | ⟨k, q, e, hq, hpq, hall⟩
    ·grind
    grind
   rcases Ha r.1 x.1 with h | h | h
   ·exact h
   ·grind
   grind
  have behind : ∀ r ∈ L.drop (za L x.1), Op.bytesLess x.1 r.1 = true := by
   intro r hr
   unfold za at hr
   rcases ra (fun r => Op.bytesLess x.1 r.1) L 0 with ⟨e, hall⟩ | ⟨k, q, e, hq, hpq, hall⟩
   ·grind
   ·rw [e, Nat.zero_add, if_neg (by omega), Int.toNat_natCast] at hr
    obtain ⟨j, hj⟩ := List.getElem?_of_mem hr
    rw [List.getElem?_drop] at hj
    by_cases h0 : j = 0
    ·grind
    ·exact zk hpq (aj4 h1 (i := k) (j := k + j) (by omega) hq hj)
  unfold Srt
  rw [List.pairwise_append, List.pairwise_cons]
  refine ⟨List.Pairwise.sublist (List.take_sublist _ _) h1, ⟨behind, List.Pairwise.sublist (List.drop_sublist _ _) h1⟩, fun a ha b hb => ?_⟩
  rcases List.mem_cons.1 hb with rfl | hb
  ·grind
  ·exact zk (ahead a ha) (behind b hb)
open Go Go.Vm
open Go Go.Vm
theorem ya (l : List UInt8) (h : l.length < 128) : (jd l).length <= 1 + l.length := by
 unfold jd
 rw [List.length_append, nw _ (by omega)]
 have := ze 8 0 l.length (by omega)
 unfold num; omega
theorem Yo (l : List UInt8) (h : l.length < 16384) : (jd l).length <= 2 + l.length := by
 unfold jd
 rw [List.length_append, nw _ (by omega)]
 have := ze 8 1 l.length (by omega)
 unfold num; omega
theorem Zj (p : KV) (h1 : p.1.length <= 30) (h2 : p.2.length <= 150) : (ii p).length <= 183 := by
 unfold ii
 rw [List.length_append]
 have := ya p.1 (by omega)
 have := Yo p.2 (by omega)
 omega
theorem Sb (p : KV) (h1 : p.1.length <= 30) (h2 : p.2.length <= 8) : (ii p).length <= 40 := by
 unfold ii
 rw [List.length_append]
 have := ya p.1 (by omega)
 have := ya p.2 (by omega)
 omega
def xm (l : List KV) : Prop := ∀ p ∈ l, p.1.length <= 30 /\ p.2.length <= 150
def yk (l : List KV) : Prop := ∀ p ∈ l, p.1.length <= 30 /\ p.2.length <= 8
theorem yk.fits {l : List KV} (h : yk l) : xm l := fun p hp => ⟨(h p hp).1, by have := (h p hp).2; omega⟩
theorem Vv : ∀ (k : Nat) (l : List KV) (n : Nat), k <= l.length -> yk l -> n + 41 * k <= 250 -> k <= md n l
 | 0, _, _, _, _, _ => Nat.zero_le _
 | k + 1, [], _, h, _, _ => by simp at h
 | k + 1, p :: l, n, h, hs, hn => by
  have hp := hs p List.mem_cons_self
  have hr := Sb p hp.1 hp.2
  simp only [md]
  rw [if_neg (by omega), if_neg (by omega)]
  have := Vv k l (n + (1 + (ii p).length)) (by simpa using h) (fun q hq => hs q (List.mem_cons_of_mem _ hq)) (by omega)
  omega
theorem agk {l : List KV} (hl : l ≠ []) (hf : xm l) : 1 <= md 0 l := by
 cases l with
 | nil => grind
 | cons p l =>
  have hp := hf p List.mem_cons_self
  have hr := Zj p hp.1 hp.2
  simp only [md]
  grind
theorem Db : ∀ (m : Nat) (l : List KV) (g : List KV), g ∈ dx m l -> ∀ q ∈ g, q ∈ l
 | 0, _, g, h, _, _ => by simp [dx] at h
 | m + 1, l, g, h, q, hq => by
  rw [dx] at h
  rcases List.mem_cons.1 h with rfl | h
  ·grind
  ·split at h
   ·simp at h
   ·exact List.mem_of_mem_drop (Db m _ g h q hq)
theorem sw : ∀ (m : Nat) (l : List KV) (g : List KV), g ∈ dx m l -> md 0 g = g.length
 | 0, _, g, h => by simp [dx] at h
 | m + 1, l, g, h => by
  rw [dx] at h
  rcases List.mem_cons.1 h with rfl | h
  ·rw [zw, List.length_take]
   have := qw l 0
   omega
  ·split at h
   ·simp at h
   ·exact sw m _ g h
theorem Wd (m : Nat) (l : List KV) : dx (m + 1) l ≠ [] := by rw [dx]; simp
theorem Ag : ∀ (m : Nat) (l : List KV), (dx m l).flatten = l.take (td (dx m l))
 | 0, _ => by simp [dx, td]
 | m + 1, l => by
  have hf := qw l 0
  rw [dx]
  split
  ·rename_i h
   rw [vj]
   simp only [List.flatten_cons, List.flatten_nil, List.append_nil, List.length_take]
   simp only [td, List.map_nil, List.sum_nil, Nat.add_zero]
   grind
  ·rw [vj, List.flatten_cons, Ag m, List.length_take, Nat.min_eq_left hf, List.take_add]
theorem ww : ∀ (m : Nat) (l : List KV), l.length < m -> xm l -> td (dx m l) = l.length
 | 0, _, h, _ => by omega
 | m + 1, l, h, hf => by
  have hfl := qw l 0
  rw [dx]
  split
  ·rename_i hh
   rw [vj, List.length_take]
   simp only [td, List.map_nil, List.sum_nil, Nat.add_zero]
   rcases hh with hh | hh
   ·cases hl : l with
    | nil => simp
    | cons p r =>
     have := agk (l := l) (by rw [hl]; simp) hf
     omega
   ·omega
  ·rename_i hh
   rw [vj, List.length_take, ww m _ (by grind) (fun p hp => hf p (List.mem_of_mem_drop hp)), List.length_drop]
   omega
theorem ru : ∀ (m : Nat) (l : List KV), l ≠ [] -> yk l -> 5 * (dx m l).length <= l.length + 4
 | 0, _, _, _ => by simp [dx]
 | m + 1, l, hl, hs => by
  have hfl := qw l 0
  have hpos : 1 <= l.length := by grind
  rw [dx]
  split
  ·simp; omega
  ·rename_i hh
   have h5 : 5 <= md 0 l := by
    by_cases h : 5 <= l.length
    ·exact Vv 5 l 0 h hs (by omega)
    ·have := Vv l.length l 0 (Nat.le_refl _) hs (by omega)
     omega
   have := ru m (l.drop (md 0 l)) (by intro e; have := congrArg List.length e; grind) (fun p hp => hs p (List.mem_of_mem_drop hp))
   grind
theorem Bu : ∀ (n : Nat) (gs : List (List KV)), (∀ g ∈ gs, ∀ q ∈ g, q.1.length <= 30) -> yk (nd n gs)
 | _, [], _ => by intro p hp; simp [nd] at hp
 | n, g :: r, h => by
  intro p hp
  rw [nd] at hp
  rcases List.mem_cons.1 hp with rfl | hp
  ·refine ⟨?_, qa _⟩
   cases g with
   | nil => simp [wq]
   | cons q _ => exact h _ List.mem_cons_self q List.mem_cons_self
  ·exact Bu (n + 1) r (fun g hg => h g (List.mem_cons_of_mem _ hg)) p hp
theorem vy {n : Nat} {l : List KV} (h : xm l) : yk (nd n (grp l)) := Bu n _ fun g hg q hq => (h q (Db _ _ g hg q hq)).1
theorem Ng (l : List KV) : ∀ g ∈ grp l, md 0 g = g.length := fun g hg => sw _ _ g hg
theorem Ly (l : List KV) : 1 <= (grp l).length := List.length_pos_iff.mpr (Wd _ _)
theorem Ob : ∀ (f n : Nat) (pg : List (List UInt8)) (l : List KV), l.length <= 5 ^ (f + 1) -> yk l -> ∃ res, Jf (f + 1) n pg l = some res
 | f, n, pg, l, hl, hs => by
  have h1 : td (grp l) = l.length := ww _ l (Nat.lt_succ_self _) hs.fits
  have hp := Ly l
  have h2 : (grp l).length = 1 \/ 5 * (grp l).length <= l.length + 4 := by
   cases l with
   | nil => exact .inl rfl
   | cons p r => exact .inr (ru _ _ (by simp) hs)
  rw [Jf, if_pos h1]
  by_cases h3 : (grp l).length = 1
  ·simp_all
  ·rw [if_neg h3]
   cases f with
   | zero =>
    omega
   | succ f =>
    refine Ob f (n + 1) _ _ ?_ (vy hs.fits)
    rw [gf]
    omega
theorem Se {l : List KV} (hr : Srt l) (hl : l.length <= 600) (hf : xm l) : ∃ res, dl l = some res := by
 unfold dl
 rw [if_pos ⟨Du hr, by omega⟩]
 have h1 : td (grp l) = l.length := ww _ l (Nat.lt_succ_self _) hf
 have hg := Et l
 rw [Jf, if_pos h1]
 by_cases h3 : (grp l).length = 1
 ·simp_all
 ·rw [if_neg h3]
  exact Ob 3 _ _ _ (by rw [gf]; omega) (vy hf)
def ak9 (m : Nat) (b : List UInt8) : Prop := ∃ g, b = ga m g /\ md 0 g = g.length
theorem Ee : ∀ (f n : Nat) (pg : List (List UInt8)) (l : List KV) (res : List (List UInt8)), Jf f n pg l = some res -> n + f <= 5 -> ∃ up, res = pg ++ ((grp l).map (ga n) ++ up) /\ (up = [] -> (grp l).length = 1) /\ (∀ b ∈ up, ∃ m, n < m /\ m <= 4 /\ ak9 m b) /\ td (grp l) = l.length
 | 0, _, _, _, _, h, _ => by cases h
 | f + 1, n, pg, l, res, h, hn => by
  rw [Jf] at h
  split at h
  ·rename_i h1
   split at h
   ·rename_i h2
    cases h
    simp_all
   ·obtain ⟨up, e1, e2, e3, e4⟩ := Ee f (n + 1) _ _ res h (by omega)
    have hf : 1 <= f := by
     cases f with
     | zero => cases h
     | succ f => omega
    refine ⟨(grp (nd pg.length (grp l))).map (ga (n + 1)) ++ up, by grind, fun e => ?_, ?_, h1⟩
    ·simp_all
    ·intro b hb
     rcases List.mem_append.1 hb with hb | hb
     ·obtain ⟨g, hg, rfl⟩ := List.mem_map.1 hb
      exact ⟨n + 1, by omega, by omega, g, rfl, sw _ _ g hg⟩
     grind
  ·cases h
theorem Gx : ∀ (up : List (List UInt8)) (acc : List KV), (∀ b ∈ up, ∃ m, 0 < m /\ m <= 4 /\ ak9 m b) -> ng up acc = (0, acc)
 | [], _, _ => rfl
 | b :: r, acc, h => by
  obtain ⟨m, m1, m2, g, rfl, hg⟩ := h b List.mem_cons_self
  rw [ng, Ba m2 hg]
  simp only [ne_eq, not_true_eq_false, if_false]
  rw [if_neg (by omega)]
  exact Gx r acc fun b hb => h b (List.mem_cons_of_mem _ hb)
theorem Ez : ∀ (gs : List (List KV)) (r : List (List UInt8)) (acc : List KV), (∀ g ∈ gs, md 0 g = g.length) -> ng (gs.map (ga 0) ++ r) acc = ng r (acc ++ gs.flatten)
 | [], r, acc, _ => by simp
 | g :: gs, r, acc, h => by
  rw [List.map_cons, List.cons_append, ng, Ba (by omega) (h g List.mem_cons_self)]
  simp only [ne_eq, not_true_eq_false, if_false, if_true]
  rw [Ez gs r _ fun g hg => h g (List.mem_cons_of_mem _ hg), List.flatten_cons, List.append_assoc]
theorem nm {l : List KV} {res : List (List UInt8)} (h : dl l = some res) : ∃ up, res = (grp l).map (ga 0) ++ up /\ (up = [] -> (grp l).length = 1) /\ (∀ b ∈ up, ∃ m, 0 < m /\ m <= 4 /\ ak9 m b) /\ (grp l).flatten = l := by
 unfold dl at h
 split at h
 ·obtain ⟨up, e1, e2, e3, e4⟩ := Ee 5 0 [] l res h (by omega)
  refine ⟨up, by grind, e2, e3, ?_⟩
  have := Ag (l.length + 1) l
  unfold grp at e4 |-
  grind
 ·cases h
theorem yd {l : List KV} {res : List (List UInt8)} (h : dl l = some res) : wn res = (l, 0) := by
 obtain ⟨up, e1, e2, e3, e4⟩ := nm h
 have hA : ng res [] = (0, l) := by
  rw [e1, Ez _ _ _ (Ng l), Gx _ _ e3, List.nil_append, e4]
 unfold wn
 grind
theorem If {l : List KV} {res : List (List UInt8)} (h : dl l = some res) : (wn res.dropLast).2 ≠ 0 := by
 obtain ⟨up, e1, e2, e3, e4⟩ := nm h
 by_cases hu : up = []
 ·have h1 := e2 hu
  have : res.dropLast = [] := by
   rw [e1, hu, List.append_nil]
   apply List.eq_nil_of_length_eq_zero
   grind
  rw [this]
  have hA : ng [] [] = (0, []) := rfl
  unfold wn
  rw [hA, if_neg (by simp), if_neg (by rw [Xv]; simp)]
  simp
 ·have hd : res.dropLast = (grp l).map (ga 0) ++ up.dropLast := by grind
  have hA : ng res.dropLast [] = (0, l) := by
   rw [hd, Ez _ _ _ (Ng l), Gx _ _ fun b hb => e3 b ((List.dropLast_sublist up).subset hb), List.nil_append, e4]
  have hne : dl l ≠ some res.dropLast := by
   rw [h]
   intro e
   have e' := congrArg List.length (Option.some.inj e)
   rw [List.length_dropLast] at e'
   have : res ≠ [] := by grind
   have := List.length_pos_iff.mpr this
   omega
  unfold wn
  grind
theorem Qu {l : List KV} {res : List (List UInt8)} (h : dl l = some res) : ∀ b ∈ res, ∃ m, m <= 4 /\ ak9 m b := by
 obtain ⟨up, e1, e2, e3, e4⟩ := nm h
 intro b hb
 rw [e1] at hb
 rcases List.mem_append.1 hb with hb | hb
 ·obtain ⟨g, hg, rfl⟩ := List.mem_map.1 hb
  exact ⟨0, by omega, g, rfl, sw _ _ g hg⟩
 grind
theorem ml {l : List KV} {res : List (List UInt8)} (h : dl l = some res) : ∀ b ∈ res, b.length = 256 := by
 intro b hb
 obtain ⟨m, hm, g, rfl, hg⟩ := Qu h b hb
 exact Uc hm hg
open Go Go.Vm
open Go Go.Vm
open Go Go.Vm
open Go Go.Vm
open Go Go.Vm
open Go Go.Vm
def fl (n : Nat) : Nat := FloatKind.f64.nearest n
def flw (m : Nat) : Nat := if m = 0 then 0 else (m.log2 + 1022) * 4503599627370496 + m * 2 ^ (52 - m.log2)
theorem ahj : Ieee.double.leastPlace = -1074 := by decide +kernel
theorem ac0 : Ieee.double.binade = 4503599627370496 := by decide +kernel
theorem ac6 : Ieee.double.infRung = 9218868437227405312 := by decide +kernel
theorem aiv : Ieee.double.signWeight = 9223372036854775808 := by decide +kernel
theorem qq {m k : Nat} (hm : 0 < m) : (m * 2 ^ k).log2 = m.log2 + k := by
 have h := (Nat.log2_eq_iff (n := m) (k := m.log2) (by omega)).1 rfl
 refine (Nat.log2_eq_iff (by have := Nat.mul_pos hm (Nat.two_pow_pos k); omega)).2 ⟨?_, ?_⟩
 ·rw [Nat.pow_add]; exact Nat.mul_le_mul_right _ h.1
 ·rw [show m.log2 + k + 1 = (m.log2 + 1) + k by omega, Nat.pow_add]
  exact (Nat.mul_lt_mul_right (Nat.two_pow_pos k)).2 h.2
theorem It (x t : Nat) (hx : t <= (x * 2 ^ t).log2 + 2) : Ieee.Toward.even.cut false (x * 2 ^ t) t = x := by
 unfold Ieee.Toward.cut
 have hmin : min t ((x * 2 ^ t).log2 + 2) = t := Nat.min_eq_left hx
 simp only [hmin, Nat.shiftLeft_eq, Nat.one_mul]
 have hp : 0 < 2 ^ t := Nat.two_pow_pos t
 simp_all
theorem Hz {m : Nat} (h : m < 2 ^ 53) : m.log2 <= 52 := by
 rcases Nat.eq_zero_or_pos m with rfl | hp
 ·decide
 ·have := (Nat.log2_lt (by omega)).2 h
  omega
theorem Vq {m : Nat} (h : m < 2 ^ 53) (k : Nat) : Ieee.double.nearest false (m * 2 ^ k) (-(k : Int)) = flw m := by
 unfold Ieee.Format.nearest flw
 rcases Nat.eq_zero_or_pos m with rfl | hp
 ·simp [Ieee.Format.word]
 have hne : m * 2 ^ k ≠ 0 := by have := Nat.mul_pos hp (Nat.two_pow_pos k); omega
 have hL := Hz h
 rw [if_neg hne, if_neg (by omega)]
 have hfb : Ieee.double.fractionBits = 52 := rfl
 simp only [qq hp, hfb, ahj, ac0, ac6]
 have hlast : max (-(k : Int) + ((m.log2 + k : Nat) : Int) - (52 : Nat)) (-1074) = (m.log2 : Int) - 52 := by omega
 rw [hlast]
 have hkept : Ieee.Toward.even.cut false ((m * 2 ^ k) <<< (-(k : Int) - ((m.log2 : Int) - 52)).toNat) (((m.log2 : Int) - 52) - -(k : Int)).toNat = m * 2 ^ (52 - m.log2) := by
  rw [Nat.shiftLeft_eq, Nat.mul_assoc, <- Nat.pow_add]
  by_cases c : k <= 52 - m.log2
  ·have e1 : (((m.log2 : Int) - 52) - -(k : Int)).toNat = 0 := by omega
   have e2 : k + (-(k : Int) - ((m.log2 : Int) - 52)).toNat = 52 - m.log2 := by omega
   rw [e1, e2]
   have := It (m * 2 ^ (52 - m.log2)) 0 (by omega)
   grind
  ·have e1 : (((m.log2 : Int) - 52) - -(k : Int)).toNat = k - (52 - m.log2) := by omega
   have e2 : k + (-(k : Int) - ((m.log2 : Int) - 52)).toNat = (52 - m.log2) + (k - (52 - m.log2)) := by omega
   rw [e1, e2, Nat.pow_add, <- Nat.mul_assoc]
   refine It _ _ ?_
   rw [qq (Nat.mul_pos hp (Nat.two_pow_pos _)), qq hp]
   omega
 rw [hkept]
 have hb := (Nat.log2_eq_iff (n := m) (k := m.log2) (by omega)).1 rfl
 have hup : m * 2 ^ (52 - m.log2) < 2 ^ (m.log2 + 1) * 2 ^ (52 - m.log2) := (Nat.mul_lt_mul_right (Nat.two_pow_pos _)).2 hb.2
 rw [<- Nat.pow_add, show m.log2 + 1 + (52 - m.log2) = 53 by omega] at hup
 have ew : ((m.log2 : Int) - 52 - -1074).toNat = m.log2 + 1022 := by omega
 rw [ew]
 have h53 : (2 : Nat) ^ 53 = 9007199254740992 := by decide
 have hle : (m.log2 + 1022) * 4503599627370496 + m * 2 ^ (52 - m.log2) <= 9218868437227405312 := by omega
 rw [Nat.min_eq_left hle]
 exact if_neg (by decide)
theorem aj0 {n : Nat} (h : n < 2 ^ 53) : fl n = flw n := by
 have := Vq h 0
 unfold fl FloatKind.nearest FloatKind.encode Ieee.Format.write FloatKind.format
 have e : decide ((n : Int) < 0) = false := by simp
 simp only [e, Int.natAbs_natCast]
 simp_all
theorem Wz {n : Nat} (h : n < 2 ^ 53) : ∃ a : Nat, Ieee.double.read (fl n) = .number false (n * 2 ^ a) (-(a : Int)) := by
 rw [aj0 h]
 rcases Nat.eq_zero_or_pos n with rfl | hp
 ·exact ⟨1074, by decide +kernel⟩
 refine ⟨52 - n.log2, ?_⟩
 have hL := Hz h
 have hb := (Nat.log2_eq_iff (n := n) (k := n.log2) (by omega)).1 rfl
 have hup : n * 2 ^ (52 - n.log2) < 2 ^ (n.log2 + 1) * 2 ^ (52 - n.log2) := (Nat.mul_lt_mul_right (Nat.two_pow_pos _)).2 hb.2
 rw [<- Nat.pow_add, show n.log2 + 1 + (52 - n.log2) = 53 by omega] at hup
 have hlo : 2 ^ n.log2 * 2 ^ (52 - n.log2) <= n * 2 ^ (52 - n.log2) := Nat.mul_le_mul_right _ hb.1
 rw [<- Nat.pow_add, show n.log2 + (52 - n.log2) = 52 by omega] at hlo
 have h53 : (2 : Nat) ^ 53 = 9007199254740992 := by decide
 have h52 : (2 : Nat) ^ 52 = 4503599627370496 := by decide
 rw [h53] at hup
 rw [h52] at hlo
 unfold flw
 rw [if_neg (by omega)]
 generalize hx : n * 2 ^ (52 - n.log2) = x at hup hlo |-
 unfold Ieee.Format.read
 simp only [aiv, ac0, ac6, ahj]
 have e1 : ((n.log2 + 1022) * 4503599627370496 + x) / 9223372036854775808 = 0 := Nat.div_eq_of_lt (by omega)
 have e2 : ((n.log2 + 1022) * 4503599627370496 + x) % 9223372036854775808 = (n.log2 + 1022) * 4503599627370496 + x := Nat.mod_eq_of_lt (by omega)
 rw [e1, e2, if_neg (by omega), if_pos (by omega)]
 have e3 : ((n.log2 + 1022) * 4503599627370496 + x) % 4503599627370496 = x - 4503599627370496 := by omega
 have e4 : ((n.log2 + 1022) * 4503599627370496 + x) / 4503599627370496 = n.log2 + 1023 := by omega
 rw [e3, e4]
 have e5 : 4503599627370496 + (x - 4503599627370496) = x := by omega
 rw [e5]
 have e6 : (-1074 : Int) + ((n.log2 + 1023 - 1 : Nat) : Int) = -((52 - n.log2 : Nat) : Int) := by omega
 rw [e6]
 rfl
theorem sg (m a c : Nat) (h : a <= c) : Ieee.signed false (m * 2 ^ a) (-(a : Int) - -(c : Int)).toNat = ((m * 2 ^ c : Nat) : Int) := by
 unfold Ieee.signed
 have e : (-(a : Int) - -(c : Int)).toNat = c - a := by omega
 rw [e, Nat.shiftLeft_eq, Nat.mul_assoc, <- Nat.pow_add, show a + (c - a) = c by omega]
 simp
theorem ab8 {m n : Nat} (hm : m < 2 ^ 53) (hn : n < 2 ^ 53) (h : m + n < 2 ^ 53) : Ieee.double.add (fl m) (fl n) = some (fl (m + n)) := by
 obtain ⟨a, ha⟩ := Wz hm
 obtain ⟨b, hb⟩ := Wz hn
 unfold Ieee.Format.add
 rw [ha, hb]
 have hmin : min (-(a : Int)) (-(b : Int)) = -((max a b : Nat) : Int) := by omega
 simp only [Ieee.Datum.sum, hmin, Option.map_some]
 rw [sg m a _ (Nat.le_max_left _ _), sg n b _ (Nat.le_max_right _ _)]
 have e : ((m * 2 ^ max a b : Nat) : Int) + ((n * 2 ^ max a b : Nat) : Int) = (((m + n) * 2 ^ max a b : Nat) : Int) := by
  grind
 rw [e]
 have hs : (if (((m + n) * 2 ^ max a b : Nat) : Int) = 0 then false && false else decide ((((m + n) * 2 ^ max a b : Nat) : Int) < 0)) = false := by
  grind
 rw [hs, Int.natAbs_natCast]
 show some (Ieee.double.nearest false ((m + n) * 2 ^ max a b) (-((max a b : Nat) : Int))) = _
 rw [Vq h, aj0 h]
theorem fl0 : fl 0 = 0 := by decide +kernel
theorem fl1 : fl 1 = 4607182418800017408 := by decide +kernel
theorem acs (n : Nat) (h : n < 4503599627370496) : FloatKind.f64.format.add (fl n) 4607182418800017408 = some (fl (n + 1)) := by
 rw [<- fl1]
 exact ab8 (by omega) (by decide) (by omega)
theorem Uk (n : Nat) (h : n < 4503599627370496) : FloatKind.f64.format.add (fl n) 0 = some (fl n) := by
 have := ab8 (m := n) (n := 0) (by omega) (by decide) (by omega)
 rw [fl0] at this
 exact this
open Go Go.Vm
def cB (b : List UInt8) : List CV := b.map fun x => .sc (.int .u8 x.toNat)
theorem nk {b : List UInt8} : (cB b).length = b.length := by simp [cB]
abbrev cpx (a b : Nat) : VV := .cv (.sc (.complex .f64 (fl a) (fl b)))
structure D where
 firm : List (List UInt8)
 loose : List (Nat × List UInt8)
 w : Nat
 f : Nat
 fused : Bool
 left : Int
def lE (l : List (Nat × List UInt8)) : List (List CV) := l.map fun o => .sc (.int .i64 o.1) :: cB o.2
def fE (l : List (List UInt8)) : List (List CV) := l.map cB
structure D.OK (d : D) : Prop where
 f64 : ∀ b ∈ d.firm, b.length = 64
 l64 : ∀ o ∈ d.loose, o.2.length = 64 /\ o.1 < d.firm.length
 n : d.firm.length <= 4096
 lw : d.loose.length <= 1000000
 w : d.w < 1000000
 f : d.f < 1000000
def uu (h : ae) (els : List (List CV)) (v : VV) (f : Option Nat) : Prop :=
 (∃ id g ex, f = some id /\ v = .own id g 0 els.length ex /\ h[id]? = some (.arr 64 els g false)) \/ (f = none /\ els = [] /\ ∃ ex, v = .cv (.sl 64 [] ex))
def mb (h : ae) (els : List (List CV)) (v : VV) (l : Option Nat) : Prop :=
 (∃ id g, l = some id /\ els ≠ [] /\ v = .own id g 0 els.length false /\ h[id]? = some (.arr 65 els g false)) \/ (l = none /\ els = [] /\ v = ct)
def dq (h : ae) (p : Nat) (f l : Option Nat) (d : D) : Prop := ∃ vf vl, h[p]? = some (.box [vf, vl, cpx d.w d.f, vb d.fused, vi .i64 d.left] false) /\ uu h (fE d.firm) vf f /\ mb h (lE d.loose) vl l
structure Kept (h h' : ae) (p : Nat) (f l : Option Nat) : Prop where
 len : h.length <= h'.length
 same : ∀ j, j < h.length -> j ≠ p -> f ≠ some j -> l ≠ some j -> h'[j]? = h[j]?
theorem Kept.refl (h : ae) (p : Nat) (f l : Option Nat) : Kept h h p f l := ⟨Nat.le_refl _, fun _ _ _ _ _ => rfl⟩
theorem Kept.trans {h h1 h2 : ae} {p : Nat} {f l l1 : Option Nat} (k : Kept h h1 p f l) (k1 : Kept h1 h2 p f l1) (hl : ∀ i, l1 = some i -> l = some i \/ h.length <= i) : Kept h h2 p f l := by
 refine ⟨Nat.le_trans k.len k1.len, fun j hj h1 h2 h3 => ?_⟩
 rw [k1.same j (Nat.lt_of_lt_of_le hj k.len) h1 h2 (fun e => ?_), k.same j hj h1 h2 h3]
 grind
def Kn (h : ae) (l l' : Option Nat) : Prop := ∀ i, l' = some i -> l = some i \/ h.length <= i
theorem Kn.refl (h : ae) (l : Option Nat) : Kn h l l := fun _ e => .inl e
theorem Kn.trans {h h1 : ae} {l l1 l2 : Option Nat} (a : Kn h l l1) (b : Kn h1 l1 l2) (hl : h.length <= h1.length) : Kn h l l2 := by
 intro i e
 rcases b i e with e' | e'
 ·exact a i e'
 omega
theorem az {h : ae} {i : Nat} {o : VO} (e : h[i]? = some o) : i < h.length := (List.getElem?_eq_some_iff.1 e).1
theorem Kept.box {h h' : ae} {p : Nat} {f l : Option Nat} {d : D} (hD : dq h p f l d) (k : Kept h h' p f l) {j : Nat} {cells : List VV} {fr : Bool} (hj : h[j]? = some (.box cells fr)) (hp : j ≠ p) : h'[j]? = some (.box cells fr) := by
 obtain ⟨vf, vl, h1, h2, h3⟩ := hD
 rw [k.same j (az hj) hp ?_ ?_, hj]
 ·rintro e
  rcases h2 with ⟨id, g, ex, e1, _, e2⟩ | ⟨e1, _⟩
  ·grind
  grind
 ·rintro e
  rcases h3 with ⟨id, g, e1, _, _, e2⟩ | ⟨e1, _⟩
  ·grind
  grind
theorem uu.ln {h : ae} {els : List (List CV)} {v : VV} {f : Option Nat} (hF : uu h els v f) : lnO false v = some (vi .i64 els.length) := by
 rcases hF with ⟨id, g, ex, _, rfl, _⟩ | ⟨_, rfl, ex, rfl⟩ <;> rfl
theorem mb.ln {h : ae} {els : List (List CV)} {v : VV} {l : Option Nat} (hL : mb h els v l) : lnO false v = some (vi .i64 els.length) := by
 rcases hL with ⟨id, g, _, _, rfl, _⟩ | ⟨_, rfl, rfl⟩ <;> rfl
theorem Np {l : List (List UInt8)} : (fE l).length = l.length := by simp [fE]
theorem Xl {l : List (Nat × List UInt8)} : (lE l).length = l.length := by simp [lE]
section
variable {h : ae} {p : Nat} {a b c e g : VV}
theorem ldp (hp : h[p]? = some (.box [a, b, c, e, g] false)) :
  ldO h false 1 (.ptr p 0) = some (a, h) /\ ldO h false 1 (.ptr p 1) = some (b, h) /\ ldO h false 1 (.ptr p 2) = some (c, h) /\ ldO h false 1 (.ptr p 3) = some (e, h) /\ ldO h false 1 (.ptr p 4) = some (g, h) :=
 ⟨bg hp rfl, bg hp rfl, bg hp rfl, bg hp rfl, bg hp rfl⟩
theorem stp (hp : h[p]? = some (.box [a, b, c, e, g] false)) {v : VV} (hv : en v = true) :
  stO h 1 (.ptr p 1) v = some (.undef, h.set p (.box [a, v, c, e, g] false)) /\ stO h 1 (.ptr p 2) v = some (.undef, h.set p (.box [a, b, v, e, g] false)) /\
  stO h 1 (.ptr p 3) v = some (.undef, h.set p (.box [a, b, c, v, g] false)) /\ stO h 1 (.ptr p 4) v = some (.undef, h.set p (.box [a, b, c, e, v] false)) :=
 ⟨Af hv hp (by decide : 1 < 5), Af hv hp (by decide : 2 < 5), Af hv hp (by decide : 3 < 5), Af hv hp (by decide : 4 < 5)⟩
end
theorem dq.turn {h : ae} {p : Nat} {f l : Option Nat} {d d' : D} {vf vl : VV} (h1 : h[p]? = some (.box [vf, vl, cpx d.w d.f, vb d.fused, vi .i64 d.left] false)) (h2 : uu h (fE d.firm) vf f) (h3 : mb h (lE d.loose) vl l)
  (e1 : d'.firm = d.firm) (e2 : d'.loose = d.loose) : dq (h.set p (.box [vf, vl, cpx d'.w d'.f, vb d'.fused, vi .i64 d'.left] false)) p f l d' /\ Kept h (h.set p (.box [vf, vl, cpx d'.w d'.f, vb d'.fused, vi .i64 d'.left] false)) p f l := by
 have hp := az h1
 refine ⟨⟨vf, vl, by grind, ?_, ?_⟩, ⟨by simp, fun j _ hj _ _ => by grind⟩⟩
 ·rcases h2 with ⟨id, g, ex, a1, a2, a3⟩ | e
  ·refine .inl ⟨id, g, ex, a1, by grind, ?_⟩
   grind
  ·exact .inr (by grind)
 ·rcases h3 with ⟨id, g, a1, a2, a4, a3⟩ | e
  ·refine .inl ⟨id, g, a1, by grind, by grind, ?_⟩
   grind
  ·exact .inr (by grind)
theorem Yu {h : ae} {p : Nat} {f l : Option Nat} {d : D} (hD : dq h p f l d) : call F 53 [.ptr p 0] h = some (.ret (vb (d.fused && decide (d.left = 0))), h) := by
 obtain ⟨vf, vl, h1, h2, h3⟩ := hD
 obtain ⟨l0, l1, l2, l3, l4⟩ := ldp h1
 refine Aj (fn := f53) rfl ?_
 simp only [f53]
 generalize hs0 : ([.ptr p 0] ++ List.replicate _ VV.undef : List VV) = s
 have hs : s.length = 14 := by grind
 have h0 : s.getD 0 .undef = .ptr p 0 := by grind
 clear hs0
 cases hf : d.fused with
 | true =>
  rw [hf] at l3
  simp only [go_sem, seval, hs, h0, l3, l4]
  exact ⟨rfl, rfl⟩
 | false =>
  rw [hf] at l3
  simp only [go_sem, seval, hs, h0, l3, l4]
  exact ⟨rfl, rfl⟩
def D.dark (d : D) : Bool := d.fused && decide (d.left = 0)
def D.burnt (d : D) : D := if d.dark then d else { d with left := IntKind.i64.wrap (d.left - 1) }
theorem Oz {h : ae} {p : Nat} {f l : Option Nat} {d : D} (hD : dq h p f l d) : ∃ h', call F 57 [.ptr p 0] h = some (.ret (vb (!d.dark)), h') /\ dq h' p f l d.burnt /\ Kept h h' p f l := by
 have : ∃ v h', call F 57 [.ptr p 0] h = some (.ret v, h') /\ (fun v h' => v = vb (!d.dark) /\ dq h' p f l d.burnt /\ Kept h h' p f l) v h' := by
  refine bc (fn := f57) rfl ?_
  simp only [f57]
  generalize hs0 : ([.ptr p 0] ++ List.replicate _ VV.undef : List VV) = s
  have hs : s.length = 12 := by grind
  have h0 : s.getD 0 .undef = .ptr p 0 := by grind
  clear hs0
  simp only [go_sem, seval, hs]
  rw [bi f57_0.eq_1]
  simp only [go_sem, seval, hs, h0]
  refine ao (by simp only [List.map, go_sem, seval, hs]; exact Yu hD) ?_
  have hdk : d.dark = (d.fused && decide (d.left = 0)) := rfl
  rw [<- hdk]
  cases hdark : d.dark with
  | true =>
   simp only [go_sem, seval, hs]
   refine ⟨trivial, ?_, Kept.refl _ _ _ _⟩
   unfold D.burnt; grind
  | false =>
   obtain ⟨vf, vl, h1, h2, h3⟩ := hD
   obtain ⟨l0, l1, l2, l3, l4⟩ := ldp h1
   obtain ⟨s1, s2, s3, s4⟩ := stp h1 (v := vi .i64 (IntKind.i64.wrap (d.left - 1))) rfl
   simp only [go_sem, seval, hs, h0, l4, s4]
   have := dq.turn (d' := d.burnt) h1 h2 h3 (by unfold D.burnt; split <;> rfl) (by unfold D.burnt; split <;> rfl)
   have e : d.burnt = { d with left := IntKind.i64.wrap (d.left - 1) } := by unfold D.burnt; grind
   grind
 grind
theorem rj {h : ae} {p : Nat} {f l : Option Nat} {d : D} (hD : dq h p f l d) : call F 29 [.ptr p 0] h = some (.ret (vi .i64 d.firm.length), h) := by
 obtain ⟨vf, vl, h1, h2, h3⟩ := hD
 obtain ⟨l0, l1, l2, l3, l4⟩ := ldp h1
 refine Aj (fn := f29) rfl ?_
 simp only [f29]
 generalize hs0 : ([.ptr p 0] ++ List.replicate _ VV.undef : List VV) = s
 have hs : s.length = 10 := by grind
 have h0 : s.getD 0 .undef = .ptr p 0 := by grind
 clear hs0
 simp only [go_sem, seval, hs]
 rw [bi f29_0.eq_1]
 simp only [go_sem, seval, hs, h0, l0, h2.ln, Np]
 exact ⟨rfl, rfl⟩
def D.has (d : D) (i : Int) : Bool := decide (0 <= i) && decide (i < (d.firm.length : Int))
theorem Xi {h : ae} {p : Nat} {f l : Option Nat} {d : D} (hD : dq h p f l d) (i : Int) : call F 56 [.ptr p 0, vi .i64 i] h = some (.ret (vb (d.has i)), h) := by
 refine Aj (fn := f56) rfl ?_
 simp only [f56]
 generalize hs0 : ([.ptr p 0, vi .i64 i] ++ List.replicate _ VV.undef : List VV) = s
 have hs : s.length = 13 := by grind
 have h0 : s.getD 0 .undef = .ptr p 0 := by grind
 have h1 : s.getD 1 .undef = vi .i64 i := by grind
 clear hs0
 unfold D.has
 by_cases c : 0 <= i
 ·simp only [go_sem, seval, hs, h0, h1, c]
  refine ao (by simp only [List.map, go_sem, seval, hs]; exact rj hD) ?_
  simp only [go_sem, seval, hs, h0, h1]
  exact ⟨by simp, rfl⟩
 ·simp only [go_sem, seval, hs, h0, h1, c]
  exact ⟨by simp, rfl⟩
def z64 : List UInt8 := List.replicate 64 0
def Sy (n : Nat) : D := ⟨List.replicate n z64, [], 0, 0, false, 0⟩
theorem am5 : List.replicate 64 (CV.sc (.int .u8 0)) = cB z64 := by simp [cB, z64]
theorem aks (n : Nat) : List.replicate n (List.replicate 64 (CV.sc (.int .u8 0))) = fE (Sy n).firm := by rw [am5]; simp [fE, Sy]
theorem Ge (n : Nat) (hn : n <= 4096) (h : ae) : ∃ h', call F 10 [vi .i64 n] h = some (.ret (.ptr (h.length + 1) 0), h') /\ dq h' (h.length + 1) (some h.length) none (Sy n) /\ h.length <= h'.length /\ ∀ j, j < h.length -> h'[j]? = h[j]? := by
 have : ∃ v h', call F 10 [vi .i64 n] h = some (.ret v, h') /\ (fun v h' => v = .ptr (h.length + 1) 0 /\ dq h' (h.length + 1) (some h.length) none (Sy n) /\ h.length <= h'.length /\ ∀ j, j < h.length -> h'[j]? = h[j]?) v h' := by
  refine bc (fn := f10) rfl ?_
  simp only [f10]
  generalize hs0 : ([vi .i64 n] ++ List.replicate _ VV.undef : List VV) = s
  have hs : s.length = 13 := by grind
  have h0 : s.getD 0 .undef = vi .i64 n := by grind
  clear hs0
  have c1 : ¬ (n : Int) < 0 := by omega
  have c2 : ¬ (4096 : Int) < (n : Int) := by omega
  simp only [go_sem, Nat.reduceLT, Nat.reduceEqDiff, reduceCtorEq, Int.reduceLT, Int.reduceEq, hs]
  rw [bi f10_0.eq_1]
  simp only [go_sem, Nat.reduceLT, Nat.reduceEqDiff, reduceCtorEq, Int.reduceLT, Int.reduceEq, hs, h0, c1, c2]
  refine ajo (k := .i64) (k' := .i64) (a := n) (by simp only [go_sem, Nat.reduceLT, Nat.reduceEqDiff, reduceCtorEq, Int.reduceLT, Int.reduceEq, hs]) (by simp only [go_sem, Nat.reduceLT, Nat.reduceEqDiff, reduceCtorEq, Int.reduceLT, Int.reduceEq, hs]) (by omega) (by omega) ?_
  rw [aks]
  simp only [go_sem, seval, hs]
  have e1 : bdO [ct, ct, .cv (.sc (.complex .f64 0 0)), vb false, vi .i64 0] [(0, 1, .own h.length 0 0 n true)] = some (.agg [.own h.length 0 0 n true, ct, .cv (.sc (.complex .f64 0 0)), vb false, vi .i64 0]) := rfl
  simp only [go_sem, seval, hs, e1]
  rw [yn (n := 5) rfl]
  simp only [go_sem, seval, hs]
  have el : (h ++ [VO.arr 64 (fE (Sy n).firm) 0 false]).length = h.length + 1 := by simp
  refine ⟨by rw [el], ⟨.own h.length 0 0 n true, ct, ?_, .inl ⟨h.length, 0, true, rfl, ?_, ?_⟩, .inr ⟨rfl, rfl, rfl⟩⟩, by grind, fun j hj => ?_⟩
  ·rw [<- el]
   simp [Sy, cpx, fl0]
  ·rw [Np]; simp [Sy]
  ·simp
  grind
 grind
open Go Go.Vm
theorem aax {a : VV} {l : List VV} {c : CV} : bdO (a :: l) [(0, 1, .cv c)] = some (.agg (.cv c :: l)) := by
 simp [bdO, fill, cellsOf, am]
theorem Zy {h : ae} {n : Nat} {zero : List VV} {l : List CV} (hz : zero.length = n) (hl : l.length = n) : mkO h n 1 zero [(0, n, .agg (l.map .cv))] = some (.cv (.sl n [l] true), h) := by
 have e1 : fill zero [(0, n, .agg (l.map .cv))] = some (l.map .cv) := by
  have : am zero 0 (l.map VV.cv) = l.map VV.cv := yc (by simp; omega)
  simp [fill, cellsOf, hl, hz, this]
 simp only [mkO, e1, zn]
 have : mm n 1 l = [l] := by
  show [(l.drop (0 * n)).take n] = [l]
  grind
 rw [this]
def pad (b : List UInt8) : List UInt8 := b ++ List.replicate (64 - b.length) 0
theorem Mi {b : List UInt8} (h : b.length <= 64) : (pad b).length = 64 := by unfold pad; simp; omega
theorem Rr {c : VV} {b : List UInt8} (h : b.length <= 64) : am (c :: List.replicate 64 (VV.cv (.sc (.int .u8 0)))) 1 ((cB b).map .cv) = c :: (cB (pad b)).map .cv := by
 unfold am pad cB
 simp only [List.take_succ_cons, List.take_zero, List.length_map, List.map_append, List.map_map, List.cons_append, List.nil_append, List.append_assoc]
 congr 2
 rw [Nat.add_comm, List.drop_succ_cons, List.drop_replicate]
 simp
theorem afj (b : List UInt8) : (eB b).flatten = cB b := by
 induction b with
 | nil => rfl
 | cons x b ih =>
  simp only [eB, cB, List.map_cons, List.flatten_cons, br] at ih |-
  rw [ih]; rfl
theorem Ws {F : Nat -> Option FnIR} {h : ae} {els : List (List CV)} {v : VV} {l : Option Nat} {by_ : Nat} {zero : List CV} {x y : Opd} {s : List VV} {e : List CV} (hL : mb h els v l) (hx : ad s x = v) (hy : jq h 65 (ad s y) = some [e]) (hb : by_ <= 100) (hl : els.length <= 2000000) :
  ∃ v' h' l', ai h (ad s) (.app 65 by_ zero x y) = some (v', h') /\ mb h' (els ++ [e]) v' l' /\ Kn h l l' /\ h.length <= h'.length /\ en v' = true /\ ∀ j, j < h.length -> l ≠ some j -> h'[j]? = h[j]? := by
 have hm : cz = 35184372088832 := rfl
 have hmul : (els.length + 1) * by_ <= 35184372088832 := by
  have : (els.length + 1) * by_ <= 2000001 * 100 := Nat.mul_le_mul (by omega) hb
  omega
 have h2 : els.length + 1 <= 35184372088832 := by omega
 rcases hL with ⟨id, g, e1, hne, rfl, h3⟩ | ⟨e1, rfl, rfl⟩
 ·have hid := az h3
  refine ⟨.own id (g + 1) 0 (els.length + 1) false, h.set id (.arr 65 (els ++ [e]) (g + 1) false), some id, ?_, .inl ⟨id, g + 1, rfl, by simp, by simp, by grind⟩, fun i e => .inl (by grind), by simp, rfl, fun j hj hn => ?_⟩
  ·simp only [ai, hy, hx, lz, hm, List.length_singleton, hmul, h2, and_self, if_true, h3, Nat.zero_add, Nat.le_refl, Bool.false_eq_true, if_false, List.drop_zero, List.take_length, List.cons_ne_nil]
  grind
 ·refine ⟨.own h.length 0 0 1 false, h ++ [.arr 65 [e] 0 false], some h.length, ?_, .inl ⟨h.length, 0, rfl, by simp, by simp, by simp⟩, fun i e => .inr (by grind), by simp, rfl, fun j hj _ => by grind⟩
  simp only [List.length_nil, Nat.zero_add] at hmul h2
  simp only [ai, hy, hx, lz, hm, List.length_singleton, Nat.zero_add, hmul, h2, and_self, if_true, List.cons_ne_nil, if_false]
theorem abq {F : Nat -> Option FnIR} {h : ae} {els : List (List CV)} {v : VV} {l : Option Nat} {by_ : Nat} {zero : List CV} {x y : Opd} {s : List VV} {e : List CV} {d : Option Nat} {q : List (Op1 × Cl)} {Q : Pst} (hL : mb h els v l) (hx : ad s x = v) (hy : jq h 65 (ad s y) = some [e]) (hb : by_ <= 100) (hl : els.length <= 2000000)
  (hk : ∀ v' h' l', mb h' (els ++ [e]) v' l' -> Kn h l l' -> h.length <= h'.length -> en v' = true -> (∀ j, j < h.length -> l ≠ some j -> h'[j]? = h[j]?) -> XD F q ⟨df s d v', h'⟩ Q) :
  XD F ((⟨none, d, .app 65 by_ zero x y⟩, .k) :: q) ⟨s, h⟩ Q := by
 obtain ⟨v', h', l', e1, e2, e3, e4, e5, e6⟩ := Ws (F := F) (zero := zero) hL hx hy hb hl
 rw [pi rfl, e1, Zd]
 exact hk v' h' l' e2 e3 e4 e5 e6
theorem dq.push {h : ae} {p : Nat} {f l : Option Nat} {d : D} (hD : dq h p f l d) (o : VO) : dq (h ++ [o]) p f l d := by
 obtain ⟨vf, vl, h1, h2, h3⟩ := hD
 refine ⟨vf, vl, by grind, ?_, ?_⟩
 ·rcases h2 with ⟨id, g, ex, a1, a2, a3⟩ | e
  ·exact .inl ⟨id, g, ex, a1, a2, by grind⟩
  ·exact .inr e
 ·rcases h3 with ⟨id, g, a1, a2, a4, a3⟩ | e
  ·exact .inl ⟨id, g, a1, a2, a4, by grind⟩
  ·exact .inr e
theorem uu.push {h : ae} {els : List (List CV)} {v : VV} {f : Option Nat} (hF : uu h els v f) (o : VO) : uu (h ++ [o]) els v f := by
 rcases hF with ⟨id, g, ex, a1, a2, a3⟩ | e
 ·exact .inl ⟨id, g, ex, a1, a2, by grind⟩
 ·exact .inr e
def D.write (d : D) (i : Int) (b : List UInt8) : D × Nat :=
 if d.has i = false then (d, 20) else if 64 < b.length then (d, 3) else if d.dark = true then (d, 0) else
 ({ d.burnt with loose := d.loose ++ [(i.toNat, pad b)], w := d.w + 1 }, 0)
structure Moved (h h' : ae) (p : Nat) (f l l' : Option Nat) (d' : D) : Prop where
 dev : dq h' p f l' d'
 kept : Kept h h' p f l
 new : Kn h l l'
theorem Moved.refl {h : ae} {p : Nat} {f l : Option Nat} {d : D} (hD : dq h p f l d) : Moved h h p f l l d := ⟨hD, Kept.refl _ _ _ _, Kn.refl _ _⟩
theorem Moved.trans {h h1 h2 : ae} {p : Nat} {f l l1 l2 : Option Nat} {d1 d2 : D} (a : Moved h h1 p f l l1 d1) (b : Moved h1 h2 p f l1 l2 d2) : Moved h h2 p f l l2 d2 :=
 ⟨b.dev, a.kept.trans b.kept a.new, a.new.trans b.new a.kept.len⟩
structure WriteP (h : ae) (p : Nat) (f l : Option Nat) (x : D × Nat) (v : VV) (h' : ae) : Prop where
 v : v = vi .u16 x.2
 m : ∃ l', Moved h h' p f l l' x.1
theorem iv (d : D) : d.burnt.firm = d.firm := by unfold D.burnt; split <;> rfl
theorem mn (d : D) : d.burnt.loose = d.loose := by unfold D.burnt; split <;> rfl
theorem Gq (d : D) : d.burnt.w = d.w := by unfold D.burnt; split <;> rfl
theorem rt (d : D) : d.burnt.f = d.f := by unfold D.burnt; split <;> rfl
theorem wm {h : ae} {p : Nat} {f l : Option Nat} {d : D} (hD : dq h p f l d) (hO : d.OK) (hw : d.w < 900000) (hll : d.loose.length < 900000) (i : Int) (b : List UInt8) (vb_ : VV) (hb : SlV 1 (eB b) vb_) : ∃ v h', call F 31 [.ptr p 0, vi .i64 i, vb_] h = some (.ret v, h') ∧ WriteP h p f l (d.write i b) v h' := by
  refine eE3 (fn := f31) (n := 43) rfl rfl fun s hs h0 h1 h2 => ?_
  simp only [f31]
  simp only [go_sem, Nat.reduceLT, Nat.reduceEqDiff, reduceCtorEq, Int.reduceLT, Int.reduceEq, hs, h0, h1]
  refine ao (by simp only [List.map, go_sem, Nat.reduceLT, Nat.reduceEqDiff, reduceCtorEq, Int.reduceLT, Int.reduceEq, hs]; exact Xi hD i) ?_
  unfold D.write
  cases hh : d.has i with
  | false =>
    simp only [go_sem, Nat.reduceLT, Nat.reduceEqDiff, reduceCtorEq, Int.reduceLT, Int.reduceEq, hs]
    exact ⟨rfl, l, Moved.refl hD⟩
  | true =>
    by_cases c1 : (64 : Int) < (b.length : Int)
    · have c1' : 64 < b.length := by omega
      simp only [go_sem, Nat.reduceLT, Nat.reduceEqDiff, reduceCtorEq, Int.reduceLT, Int.reduceEq, hs, h2, hb.ln, ax, c1, c1', Bool.true_eq_false]
      exact ⟨rfl, l, Moved.refl hD⟩
    · have c1' : ¬ 64 < b.length := by omega
      simp only [go_sem, Nat.reduceLT, Nat.reduceEqDiff, reduceCtorEq, Int.reduceLT, Int.reduceEq, hs, h2, hb.ln, ax, c1, c1', Bool.true_eq_false]
      rw [bi f31_0.eq_1]
      obtain ⟨g1, hc1, hD1, hK1⟩ := Oz hD
      simp only [go_sem, Nat.reduceLT, Nat.reduceEqDiff, reduceCtorEq, Int.reduceLT, Int.reduceEq, hs, h0]
      refine ao (by simp only [List.map, go_sem, Nat.reduceLT, Nat.reduceEqDiff, reduceCtorEq, Int.reduceLT, Int.reduceEq, hs]; exact hc1) ?_
      cases hdk : d.dark with
      | true =>
        have e : d.burnt = d := by unfold D.burnt; rw [if_pos hdk]
        rw [e] at hD1
        simp only [go_sem, Nat.reduceLT, Nat.reduceEqDiff, reduceCtorEq, Int.reduceLT, Int.reduceEq, hs]
        exact ⟨rfl, l, ⟨hD1, hK1, Kn.refl _ _⟩⟩
      | false =>
        have hi : 0 ≤ i ∧ i < (d.firm.length : Int) := by
          unfold D.has at hh
          simpa using hh
        obtain ⟨k, rfl⟩ : ∃ k : Nat, i = (k : Int) := ⟨i.toNat, by omega⟩
        simp only [go_sem, Nat.reduceLT, Nat.reduceEqDiff, reduceCtorEq, Int.reduceLT, Int.reduceEq, hs, h1, aax]
        rw [ly (n := 65) (cells := .cv (.sc (.int .i64 0)) :: List.replicate 64 (.cv (.sc (.int .u8 0)))) (by simp) bp (by simp), nc]
        simp only [go_sem, Nat.reduceLT, Nat.reduceEqDiff, reduceCtorEq, Int.reduceLT, Int.reduceEq, hs, h2]
        rw [Ix bp (by simp)]
        simp only [go_sem, Nat.reduceLT, Nat.reduceEqDiff, reduceCtorEq, Int.reduceLT, Int.reduceEq, hs, h2]
        rw [aha (src := eB b) bp (by simp) hb.src, nc]
        have em : min (eB b).length 64 = b.length := by rw [ax]; omega
        have et : (eB b).take b.length = eB b := List.take_of_length_le (by rw [ax]; exact Nat.le_refl _)
        rw [em, et, afj, Rr (by omega)]
        have ec : (VV.cv (.sc (.int .i64 (k : Int))) :: (cB (pad b)).map .cv) = ((CV.sc (.int .i64 (k : Int)) :: cB (pad b)).map .cv) := rfl
        rw [ec]
        have hpl : (CV.sc (.int .i64 (k : Int)) :: cB (pad b)).length = 65 := by simp only [List.length_cons, nk, Mi (show b.length ≤ 64 by omega)]
        generalize hcell : (CV.sc (.int .i64 (k : Int)) :: cB (pad b)) = cells at hpl ⊢
        generalize hbox : VO.box (cells.map .cv) false = bx
        have hD2 := hD1.push bx
        obtain ⟨vf, vl, a1, a2, a3⟩ := hD2
        obtain ⟨k0, k1, k2, k3, k4⟩ := ldp a1
        have hlb : ldO (g1 ++ [bx]) true 65 (.ptr g1.length 0) = some (.agg (cells.map .cv), g1 ++ [bx]) := by rw [← hbox]; exact oa bp (by simp; omega)
        simp only [go_sem, Nat.reduceLT, Nat.reduceEqDiff, reduceCtorEq, Int.reduceLT, Int.reduceEq, hs]
        refine nv rfl ?_
        simp only [go_sem, Nat.reduceLT, Nat.reduceEqDiff, reduceCtorEq, Int.reduceLT, Int.reduceEq, hs, h0, k1, hlb]
        rw [Zy (by simp) hpl]
        simp only [go_sem, Nat.reduceLT, Nat.reduceEqDiff, reduceCtorEq, Int.reduceLT, Int.reduceEq, hs, h0]
        refine abq (els := lE d.burnt.loose) (e := cells) a3 (by simp only [go_sem, Nat.reduceLT, Nat.reduceEqDiff, reduceCtorEq, Int.reduceLT, Int.reduceEq, hs]) (by simp only [go_sem, Nat.reduceLT, Nat.reduceEqDiff, reduceCtorEq, Int.reduceLT, Int.reduceEq, hs]) (by decide) (by rw [Xl, mn]; omega) (fun v3 g3 l3 hL3 hN3 hlen3 hcell3 hsame3 => ?_)
        have hpl3 : l ≠ some p := by
          rcases a3 with ⟨id, g, b1, _, _, b2⟩ | ⟨b1, _⟩
          · rintro e; rw [e] at b1; cases b1; rw [a1] at b2; cases b2
          · rw [b1]; simp
        have a1' : g3[p]? = some (.box [vf, vl, cpx d.burnt.w d.burnt.f, vb d.burnt.fused, vi .i64 d.burnt.left] false) := by rw [hsame3 p (az a1) hpl3]; exact a1
        have a2' : uu g3 (fE d.burnt.firm) vf f := by
          rcases a2 with ⟨id, g, ex, b1, b2, b3⟩ | e
          · refine .inl ⟨id, g, ex, b1, b2, ?_⟩
            rw [hsame3 id (az b3) ?_]; exact b3
            rintro e
            rcases a3 with ⟨id', g', c1, _, _, c2⟩ | ⟨c1, _⟩
            · rw [e] at c1; cases c1; rw [b3] at c2; cases c2
            · rw [e] at c1; cases c1
          · exact .inr e
        obtain ⟨s1, _, _, _⟩ := stp a1' hcell3
        simp only [go_sem, Nat.reduceLT, Nat.reduceEqDiff, reduceCtorEq, Int.reduceLT, Int.reduceEq, hs, h0, s1]
        have hp3 := az a1'
        generalize hg4 : g3.set p (.box [vf, v3, cpx d.burnt.w d.burnt.f, vb d.burnt.fused, vi .i64 d.burnt.left] false) = g4
        have a4 : g4[p]? = some (.box [vf, v3, cpx d.burnt.w d.burnt.f, vb d.burnt.fused, vi .i64 d.burnt.left] false) := by rw [← hg4, List.getElem?_set_self hp3]
        have ne4 : ∀ j, j ≠ p → g4[j]? = g3[j]? := fun j hj => by rw [← hg4, List.getElem?_set_ne (fun e => hj e.symm)]
        have len4 : g4.length = g3.length := by rw [← hg4]; simp
        obtain ⟨_, _, m2, _, _⟩ := ldp a4
        have hadd : kt .add (cpx d.burnt.w d.burnt.f) (.cv (.sc (.complex .f64 4607182418800017408 0))) = some (cpx (d.w + 1) d.f) := by
          rw [Gq, rt]
          have x1 := acs d.w (by omega)
          have x2 := Uk d.f (by have := hO.f; omega)
          simp [kt, tm, x1, x2]
        obtain ⟨_, s2, _, _⟩ := stp a4 (v := cpx (d.w + 1) d.f) rfl
        simp only [go_sem, Nat.reduceLT, Nat.reduceEqDiff, reduceCtorEq, Int.reduceLT, Int.reduceEq, hs, h0, m2, hadd, s2]
        refine ⟨rfl, l3, ⟨⟨vf, v3, ?_, ?_, ?_⟩, ?_, ?_⟩⟩
        · rw [List.getElem?_set_self (by omega)]
          simp only [rt]
        · rcases a2' with ⟨id, g, ex, b1, b2, b3⟩ | e
          · have hne : id ≠ p := by rintro rfl; rw [b3] at a1'; cases a1'
            exact .inl ⟨id, g, ex, b1, b2, by rw [List.getElem?_set_ne (fun e => hne e.symm), ne4 id hne]; exact b3⟩
          · exact .inr e
        · have e3 : lE d.burnt.loose ++ [cells] = lE (d.loose ++ [((k : Int).toNat, pad b)]) := by
            rw [← hcell, mn]; simp [lE]
          rw [e3] at hL3
          rcases hL3 with ⟨id, g, b1, b2, b4, b3⟩ | e
          · have hne : id ≠ p := by rintro rfl; rw [b3] at a1'; cases a1'
            exact .inl ⟨id, g, b1, b2, b4, by rw [List.getElem?_set_ne (fun e => hne e.symm), ne4 id hne]; exact b3⟩
          · exact .inr e
        · refine ⟨?_, fun j hj h1 h2 h3 => ?_⟩
          · have := hK1.len
            rw [List.length_append, List.length_singleton] at hlen3
            rw [List.length_set]; omega
          · have hj1 : j < g1.length := Nat.lt_of_lt_of_le hj hK1.len
            rw [List.getElem?_set_ne (fun e => h1 e.symm), ne4 j h1, hsame3 j (by rw [List.length_append]; omega) h3, List.getElem?_append_left hj1, hK1.same j hj h1 h2 h3]
        · intro j e
          rcases hN3 j e with e' | e'
          · exact .inl e'
          · right
            have := hK1.len
            rw [List.length_append] at e'
            omega
open Go Go.Vm
structure Ext (h h' : ae) : Prop where
 len : h.length <= h'.length
 same : ∀ j, j < h.length -> h'[j]? = h[j]?
theorem Ext.refl (h : ae) : Ext h h := ⟨Nat.le_refl _, fun _ _ => rfl⟩
theorem Ext.trans {h h1 h2 : ae} (a : Ext h h1) (b : Ext h1 h2) : Ext h h2 := ⟨Nat.le_trans a.len b.len, fun j hj => by rw [b.same j (Nat.lt_of_lt_of_le hj a.len), a.same j hj]⟩
theorem Ext.push (h : ae) (o : VO) : Ext h (h ++ [o]) := ⟨by simp, fun j hj => by grind⟩
theorem Ext.kept {h h' : ae} (e : Ext h h') (p : Nat) (f l : Option Nat) : Kept h h' p f l := ⟨e.len, fun j hj _ _ _ => e.same j hj⟩
theorem Ext.get {h h' : ae} (e : Ext h h') {j : Nat} {o : VO} (hj : h[j]? = some o) : h'[j]? = some o := by rw [e.same j (az hj), hj]
theorem uu.ext {h h' : ae} {els : List (List CV)} {v : VV} {f : Option Nat} (hF : uu h els v f) (e : Ext h h') : uu h' els v f := by
 rcases hF with ⟨id, g, ex, a1, a2, a3⟩ | e1
 ·exact .inl ⟨id, g, ex, a1, a2, e.get a3⟩
 ·exact .inr e1
theorem mb.ext {h h' : ae} {els : List (List CV)} {v : VV} {f : Option Nat} (hF : mb h els v f) (e : Ext h h') : mb h' els v f := by
 rcases hF with ⟨id, g, a1, a2, a4, a3⟩ | e1
 ·exact .inl ⟨id, g, a1, a2, a4, e.get a3⟩
 ·exact .inr e1
theorem dq.ext {h h' : ae} {p : Nat} {f l : Option Nat} {d : D} (hD : dq h p f l d) (e : Ext h h') : dq h' p f l d := by
 obtain ⟨vf, vl, h1, h2, h3⟩ := hD
 exact ⟨vf, vl, e.get h1, h2.ext e, h3.ext e⟩
theorem uu.at_ {h : ae} {els : List (List CV)} {v : VV} {f : Option Nat} (hF : uu h els v f) {j : Nat} {e : List CV} (hj : els[j]? = some e) :
  ∃ id g, f = some id /\ iaO h 64 v (vi .i64 j) = some (.eptr id g j 0, h) /\ h[id]? = some (.arr 64 els g false) := by
 have hl := (List.getElem?_eq_some_iff.1 hj).1
 rcases hF with ⟨id, g, ex, a1, rfl, a3⟩ | ⟨_, rfl, _⟩
 ·exact ⟨id, g, a1, by rw [zq (by omega) a3 (by omega)]; simp, a3⟩
 ·cases hj
theorem mb.at_ {h : ae} {els : List (List CV)} {v : VV} {f : Option Nat} (hF : mb h els v f) {j : Nat} {e : List CV} (hj : els[j]? = some e) :
  ∃ id g, f = some id /\ iaO h 65 v (vi .i64 j) = some (.eptr id g j 0, h) /\ h[id]? = some (.arr 65 els g false) := by
 have hl := (List.getElem?_eq_some_iff.1 hj).1
 rcases hF with ⟨id, g, a1, _, rfl, a3⟩ | ⟨_, rfl, _⟩
 ·exact ⟨id, g, a1, by rw [zq (by omega) a3 (by omega)]; simp, a3⟩
 ·cases hj
def Ct (i : Int) (x : List UInt8) (l : List (Nat × List UInt8)) : List UInt8 := l.foldl (fun x o => if (o.1 : Int) = i then o.2 else x) x
def D.cell (d : D) (i : Nat) : List UInt8 := Ct i (d.firm.getD i []) d.loose
def ObV (h : ae) (b : List UInt8) (v : VV) : Prop := ∃ id, v = .ob id 0 b.length 1 true /\ h[id]? = some (.box ((cB b).map .cv) false)
theorem Hc (l : List CV) (f : VV -> Option CV) (hf : ∀ c, f (.cv c) = some c) : (l.map VV.cv).mapM f = some l := by
 induction l with
 | nil => rfl
 | cons c l ih => grind
theorem Ye : ∀ (n : Nat) (l : List CV), l.length = n -> mm 1 n l = l.map fun c => [c] := by
 intro n l h
 subst h
 unfold mm
 apply List.ext_getElem
 ·simp
 ·intro i h1 h2
  simp only [List.length_map, List.length_range] at h1
  simp only [List.getElem_map, List.getElem_range, Nat.mul_one]
  rw [List.drop_eq_getElem_cons h1]
  rfl
structure ReadD (h : ae) (d : D) (i : Int) (v : VV) (h' : ae) : Prop where
 ext : Ext h h'
 no : d.has i = false -> v = .tup [ct, vi .u16 20]
 yes : d.has i = true -> ∃ o, v = .tup [o, vi .u16 0] /\ ObV h' (d.cell i.toNat) o
 new : ∀ id x y z w e, v = .tup [.ob id x y z w, e] -> h.length <= id
theorem Ot {l : List (Nat × List UInt8)} {i : Int} (hl : ∀ o ∈ l, o.2.length = 64 /\ True) : ∀ {x : List UInt8}, x.length = 64 -> (Ct i x l).length = 64 := by
 induction l with
 | nil => intro x h; exact h
 | cons o l ih =>
  intro x h
  show (Ct i (if (o.1 : Int) = i then o.2 else x) l).length = 64
  grind
structure ReadI (h : ae) (x : List UInt8) (g : ae) : Prop where
 ext : Ext h g
 box : g[h.length]? = some (.box ((cB x).map .cv) false)
theorem Nm {l : List (Nat × List UInt8)} {done rest : List (Nat × List UInt8)} {o : Nat × List UInt8} (h : l = done ++ o :: rest) : (lE l)[done.length]? = some (.sc (.int .i64 o.1) :: cB o.2) := by
 subst h; simp [lE]
theorem f119_loop {h : ae} {vl : VV} {lp : Option Nat} {l : List (Nat × List UInt8)} (hL : mb h (lE l) vl lp) (hl : ∀ o ∈ l, o.2.length = 64) (hn : l.length ≤ 2000000) (i : Int) :
    ∀ (rest done : List (Nat × List UInt8)) (x : List UInt8) (s : List VV) (g : ae) (Q : Pst), l = done ++ rest → x.length = 64 → s.length = 37 → s.getD 1 .undef = vi .i64 i → s.getD 6 .undef = .ptr h.length 0 →
      s.getD 23 .undef = vl → s.getD 24 .undef = vi .i64 l.length → s.getD 25 .undef = vi .i64 done.length → ReadI h x g →
      (∀ s' g', s'.length = 37 → s'.getD 6 .undef = .ptr h.length 0 → ReadI h (Ct i x rest) g' → Q (.exit 0) ⟨s', g'⟩) → X F (.loop f119_2) ⟨s, g⟩ Q := by
  intro rest
  induction rest with
  | nil =>
    intro done x s g Q hdr hx hs h1 h6 h23 h24 h25 hI hQ
    rw [ba, bi f119_2.eq_1]
    have c : ¬ (done.length : Int) < (l.length : Int) := by grind
    simp only [go_sem, seval, hs, h24, h25, c]
    rw [bi f119_1.eq_1]
    simp only [go_sem, seval, hs]
    exact hQ _ _ (by grind) (by grind) hI
  | cons o rest ih =>
    intro done x s g Q hdr hx hs h1 h6 h23 h24 h25 hI hQ
    rw [ba, bi f119_2.eq_1]
    have c : (done.length : Int) < (l.length : Int) := by grind
    obtain ⟨id, gg, e1, e2, e3⟩ := (hL.ext hI.ext).at_ (Nm hdr)
    have ho : o.2.length = 64 := hl o (by grind)
    have hel : (CV.sc (.int .i64 o.1) :: cB o.2).length = 65 := by simp only [List.length_cons, nk, ho]
    have hld := pa (n := 65) e3 (Nm hdr) hel
    simp only [go_sem, Nat.reduceLT, Nat.reduceEqDiff, reduceCtorEq, Int.reduceLT, Int.reduceEq, hs, h24, h25, c]
    rw [bi f119_1.eq_1]
    simp only [go_sem, Nat.reduceLT, Nat.reduceEqDiff, reduceCtorEq, Int.reduceLT, Int.reduceEq, hs, h23, h25, e2, hld]
    rw [ly (n := 65) (cells := .cv (.sc (.int .i64 0)) :: List.replicate 64 (.cv (.sc (.int .u8 0)))) (by grind) bp (by simp), nc]
    have hl1 : ldO (g ++ [VO.box ((CV.sc (.int .i64 o.1) :: cB o.2).map .cv) false]) false 1 (.ptr g.length 0) = some (vi .i64 o.1, g ++ [VO.box ((CV.sc (.int .i64 o.1) :: cB o.2).map .cv) false]) := bg bp rfl
    simp only [go_sem, seval, hs, h1, hl1]
    have hx2 := hI.ext.trans (Ext.push g (VO.box ((CV.sc (.int .i64 o.1) :: cB o.2).map .cv) false))
    have hb2 := (Ext.push g (VO.box ((CV.sc (.int .i64 o.1) :: cB o.2).map .cv) false)).get hI.box
    have hnx : ((done.length : Int) + 1) = ((done ++ [o]).length : Int) := by simp
    have hdn : done.length < 2000000 := by omega
    have hw : IntKind.i64.wrap ((done.length : Int) + 1) = ((done ++ [o]).length : Int) := by rw [hnx, IntWalk.i64_in _ (by simp; omega)]
    by_cases ci : (o.1 : Int) = i
    · have hl2 : ldO (g ++ [VO.box ((CV.sc (.int .i64 o.1) :: cB o.2).map .cv) false]) true 64 (.ptr g.length 1) = some (.agg ((cB o.2).map .cv), g ++ [VO.box ((CV.sc (.int .i64 o.1) :: cB o.2).map .cv) false]) := by
        rw [Nu bp (by grind)]
        have : (((CV.sc (.int .i64 o.1) :: cB o.2).map VV.cv).drop 1).take 64 = (cB o.2).map VV.cv := by
          simp only [List.map_cons, List.drop_succ_cons, List.drop_zero]
          exact List.take_of_length_le (by grind)
        rw [this]
      generalize hg2 : g ++ [VO.box ((CV.sc (.int .i64 o.1) :: cB o.2).map .cv) false] = g2 at hl1 hl2 hx2 hb2
      have hst : stO g2 64 (.ptr h.length 0) (.agg ((cB o.2).map .cv)) = some (.undef, g2.set h.length (.box ((cB o.2).map .cv) false)) := by
        rw [Pq (by grind) hb2 (by simp [nk, hx]), yc (by simp [nk, hx, ho])]
      simp only [go_sem, seval, hs, ci, h1, h6, hl2, hst, h25, hw]
      refine ih (done ++ [o]) o.2 _ _ Q (by grind) ho (by simp_all) (by simp_all) (by simp_all) (by simp_all) (by simp_all) (by simp_all) ⟨⟨?_, fun j hj => ?_⟩, ?_⟩ (fun s' g' a1 a2 a3 => hQ s' g' a1 a2 ?_)
      · grind
      · rw [List.getElem?_set_ne (by omega), hx2.same j hj]
      · grind
      · have : Ct i x (o :: rest) = Ct i o.2 rest := by
          show Ct i (if (o.1 : Int) = i then o.2 else x) rest = _
          grind
        grind
    · simp only [go_sem, seval, hs, ci, h25, hw]
      refine ih (done ++ [o]) x _ _ Q (by grind) hx (by simp_all) (by simp_all) (by simp_all) (by simp_all) (by simp_all) (by simp_all) ⟨hx2, hb2⟩ (fun s' g' a1 a2 a3 => hQ s' g' a1 a2 ?_)
      have : Ct i x (o :: rest) = Ct i x rest := by
        show Ct i (if (o.1 : Int) = i then o.2 else x) rest = _
        grind
      grind
theorem Il {h : ae} {p : Nat} {f l : Option Nat} {d : D} (hD : dq h p f l d) (hO : d.OK) (i : Int) : ∃ v h', call F 119 [.ptr p 0, vi .i64 i] h = some (.ret v, h') /\ ReadD h d i v h' := by
 refine bc (fn := f119) rfl ?_
 simp only [f119]
 generalize hs0 : ([.ptr p 0, vi .i64 i] ++ List.replicate _ VV.undef : List VV) = s
 have hs : s.length = 37 := by grind
 have h0 : s.getD 0 .undef = .ptr p 0 := by grind
 have h1 : s.getD 1 .undef = vi .i64 i := by grind
 clear hs0
 simp only [go_sem, Nat.reduceLT, Nat.reduceEqDiff, reduceCtorEq, Int.reduceLT, Int.reduceEq, hs]
 rw [bi f119_0.eq_1]
 simp only [go_sem, Nat.reduceLT, Nat.reduceEqDiff, reduceCtorEq, Int.reduceLT, Int.reduceEq, hs, h0, h1]
 refine ao (by simp only [List.map, go_sem, Nat.reduceLT, Nat.reduceEqDiff, reduceCtorEq, Int.reduceLT, Int.reduceEq, hs]; exact Xi hD i) ?_
 cases hh : d.has i with
 | false =>
  simp only [go_sem, Nat.reduceLT, Nat.reduceEqDiff, reduceCtorEq, Int.reduceLT, Int.reduceEq, hs]
  exact ⟨Ext.refl _, fun _ => rfl, fun e => (by grind), fun id x y z w e h => (by cases h)⟩
 | true =>
  have hi : 0 <= i /\ i < (d.firm.length : Int) := by
   unfold D.has at hh
   grind
  obtain ⟨k, rfl⟩ : ∃ k : Nat, i = (k : Int) := ⟨i.toNat, by omega⟩
  obtain ⟨vf, vl, a1, a2, a3⟩ := hD
  obtain ⟨k0, k1, _, _, _⟩ := ldp a1
  have hk : d.firm[k]? = some (d.firm.getD k []) := by
   grind
  have hke : (fE d.firm)[k]? = some (cB (d.firm.getD k [])) := by simp only [fE, List.getElem?_map, hk, Option.map_some]
  have h64 : (d.firm.getD k []).length = 64 := hO.f64 _ (List.mem_of_getElem? hk)
  obtain ⟨id, gg, e1, e2, e3⟩ := a2.at_ hke
  have hld := pa (n := 64) e3 hke (by rw [nk, h64])
  simp only [go_sem, Nat.reduceLT, Nat.reduceEqDiff, reduceCtorEq, Int.reduceLT, Int.reduceEq, hs, h0, h1, k0, e2, hld]
  rw [ly (n := 64) (cells := List.replicate 64 (.cv (.sc (.int .u8 0)))) (by rw [List.length_map, nk, h64]) bp (by simp), nc]
  have hx := Ext.push h (VO.box ((cB (d.firm.getD k [])).map .cv) false)
  obtain ⟨_, k1, _, _, _⟩ := ldp (hx.get a1)
  simp only [go_sem, seval, hs, h0, k1, a3.ln, Xl]
  refine f119_loop a3 (fun o ho => (hO.l64 o ho).1) (by have := hO.lw; omega) (k : Int) d.loose [] (d.firm.getD k []) _ _ _ rfl h64 (by simp_all) (by simp_all) (by simp_all) (by simp_all) (by simp_all) (by simp_all) ⟨hx, bp⟩ (fun s' g' b1 b2 b3 => ?_)
  have hcl : (d.cell k).length = 64 := Ot (fun o ho => ⟨(hO.l64 o ho).1, trivial⟩) h64
  simp only [go_sem, seval, b1, b2]
  rw [Ix b3.box (by simp only [List.length_map, nk]; show _ <= (d.cell k).length; omega)]
  simp only [go_sem, seval, b1]
  exact ⟨b3.ext, fun e => (by grind), fun _ => ⟨_, rfl, h.length, by grind, b3.box⟩, fun id x y z w e h => by grind⟩
open Go Go.Vm
def jw (kf : Nat -> Bool) : Nat -> List (List UInt8) -> List (Nat × List UInt8) -> List (List UInt8)
 | _, firm, [] => firm
 | k, firm, o :: l => jw kf (k + 1) (if kf k then firm.set o.1 o.2 else firm) l
theorem xl {kf : Nat -> Bool} : ∀ {l : List (Nat × List UInt8)} {k : Nat} {firm : List (List UInt8)}, (jw kf k firm l).length = firm.length
 | [], _, _ => rfl
 | o :: l, k, firm => by
  show (jw kf (k + 1) (if kf k then firm.set o.1 o.2 else firm) l).length = _
  rw [xl]
  grind
structure SetI (h : ae) (f : Option Nat) (vf : VV) (firm : List (List UInt8)) (g : ae) : Prop where
 len : h.length <= g.length
 same : ∀ j, j < h.length -> f ≠ some j -> g[j]? = h[j]?
 firm : uu g (fE firm) vf f
theorem SetI.push {h : ae} {f : Option Nat} {vf : VV} {firm : List (List UInt8)} {g : ae} (i : SetI h f vf firm g) (o : VO) : SetI h f vf firm (g ++ [o]) :=
 ⟨by have := i.len; simp; omega, fun j hj hf => by rw [List.getElem?_append_left (Nat.lt_of_lt_of_le hj i.len), i.same j hj hf], i.firm.push o⟩
theorem f54_loop {h : ae} {p : Nat} {vf vl a b c3 : VV} {f lp : Option Nat} {l : List (Nat × List UInt8)} {firm0 : List (List UInt8)} (hp : h[p]? = some (.box [vf, vl, a, b, c3] false)) (hF : uu h (fE firm0) vf f) (hL : mb h (lE l) vl lp)
  (hl : ∀ o ∈ l, o.2.length = 64 /\ o.1 < firm0.length) (hn : l.length <= 2000000)
  {fi : Nat} {caps : List VV} {kf : Nat -> Bool} (hfi : fi < YB) (hkf : ∀ (k : Nat) g, k < 2000000 -> (∀ j, j < h.length -> f ≠ some j -> g[j]? = h[j]?) -> call F fi ([vi .i64 k] ++ caps) g = some (.ret (vb (kf k)), g)) :
  ∀ (rest done : List (Nat × List UInt8)) (firm : List (List UInt8)) (s : List VV) (g : ae) (Q : Pst), l = done ++ rest -> firm.length = firm0.length -> (∀ b ∈ firm, b.length = 64) -> s.length = 32 -> s.getD 0 .undef = .ptr p 0 -> s.getD 1 .undef = .func fi caps ->
   s.getD 9 .undef = vl -> s.getD 10 .undef = vi .i64 l.length -> s.getD 11 .undef = vi .i64 done.length -> SetI h f vf firm g ->
   (∀ s' g', s'.length = 32 -> s'.getD 0 .undef = .ptr p 0 -> SetI h f vf (jw kf done.length firm rest) g' -> Q (.exit 0) ⟨s', g'⟩) -> X F (.loop f54_1) ⟨s, g⟩ Q := by
 have hpf : f ≠ some p := by
  rcases hF with ⟨id, gg, ex, a1, _, a3⟩ | ⟨a1, _⟩
  ·rintro e; rw [e] at a1; cases a1; rw [hp] at a3; cases a3
  ·rw [a1]; simp
 have hlf : ∀ i, lp = some i -> f ≠ some i := by
  intro i hi
  rcases hF with ⟨id, gg, ex, a1, _, a3⟩ | ⟨a1, _⟩
  ·rintro e; rw [e] at a1; cases a1
   rcases hL with ⟨id', g', b1, _, _, b3⟩ | ⟨b1, _⟩
   ·rw [hi] at b1; cases b1; rw [a3] at b3; cases b3
   ·rw [hi] at b1; cases b1
  ·rw [a1]; simp
 intro rest
 induction rest with
 | nil =>
  intro done firm s g Q hdr hfl hx hs h0 h1 h9 h10 h11 hI hQ
  rw [ba, bi f54_1.eq_1]
  have c : ¬ (done.length : Int) < (l.length : Int) := by rw [hdr]; simp
  simp only [go_sem, seval, hs, h10, h11, c]
  rw [bi f54_0.eq_1]
  simp only [go_sem, seval, hs]
  exact hQ _ _ (by simp only [ah, hs]) (by simp only [go_sem, seval, h0]) hI
 | cons o rest ih =>
  intro done firm s g Q hdr hfl hx hs h0 h1 h9 h10 h11 hI hQ
  rw [ba, bi f54_1.eq_1]
  have c : (done.length : Int) < (l.length : Int) := by rw [hdr]; simp; omega
  have hLg : mb g (lE l) vl lp := by
   rcases hL with ⟨id', g', b1, b2, b4, b3⟩ | e
   ·exact .inl ⟨id', g', b1, b2, b4, by rw [hI.same id' (az b3) (hlf id' b1)]; exact b3⟩
   ·exact .inr e
  obtain ⟨id, gg, e1, e2, e3⟩ := hLg.at_ (Nm hdr)
  have hom := hl o (by rw [hdr]; simp)
  have ho : o.2.length = 64 := hom.1
  have hel : (CV.sc (.int .i64 o.1) :: cB o.2).length = 65 := by simp only [List.length_cons, nk, ho]
  have hld := pa (n := 65) e3 (Nm hdr) hel
  simp only [go_sem, Nat.reduceLT, Nat.reduceEqDiff, reduceCtorEq, Int.reduceLT, Int.reduceEq, hs, h10, h11, c]
  rw [bi f54_0.eq_1]
  simp only [go_sem, Nat.reduceLT, Nat.reduceEqDiff, reduceCtorEq, Int.reduceLT, Int.reduceEq, hs, h9, h11, e2, hld]
  rw [ly (n := 65) (cells := .cv (.sc (.int .i64 0)) :: List.replicate 64 (.cv (.sc (.int .u8 0)))) (by simp [hel, nk, ho]) bp (by simp), nc]
  have hI2 := hI.push (VO.box ((CV.sc (.int .i64 o.1) :: cB o.2).map .cv) false)
  have hl1 : ldO (g ++ [VO.box ((CV.sc (.int .i64 o.1) :: cB o.2).map .cv) false]) false 1 (.ptr g.length 0) = some (vi .i64 o.1, g ++ [VO.box ((CV.sc (.int .i64 o.1) :: cB o.2).map .cv) false]) := bg bp rfl
  have hl2 : ldO (g ++ [VO.box ((CV.sc (.int .i64 o.1) :: cB o.2).map .cv) false]) true 64 (.ptr g.length 1) = some (.agg ((cB o.2).map .cv), g ++ [VO.box ((CV.sc (.int .i64 o.1) :: cB o.2).map .cv) false]) := by
   rw [Nu bp (by simp [nk, ho])]
   have : (((CV.sc (.int .i64 o.1) :: cB o.2).map VV.cv).drop 1).take 64 = (cB o.2).map VV.cv := by
    simp only [List.map_cons, List.drop_succ_cons, List.drop_zero]
    exact List.take_of_length_le (by simp [nk, ho])
   rw [this]
  generalize hg2 : g ++ [VO.box ((CV.sc (.int .i64 o.1) :: cB o.2).map .cv) false] = g2 at hl1 hl2 hI2
  have hdn : done.length < 2000000 := by have := congrArg List.length hdr; simp at this; omega
  have hnx : ((done.length : Int) + 1) = ((done ++ [o]).length : Int) := by simp
  have hw : IntKind.i64.wrap ((done.length : Int) + 1) = ((done ++ [o]).length : Int) := by rw [hnx, IntWalk.i64_in _ (by simp; omega)]
  simp only [go_sem, seval, hs, h1]
  refine zu (hf := hfi) (f := fi) (caps := caps) (by simp only [go_sem, seval, hs]) (by simp only [List.map, go_sem, seval, hs]; exact hkf done.length g2 hdn hI2.same) ?_
  have hsu : jw kf done.length firm (o :: rest) = jw kf (done ++ [o]).length (if kf done.length then firm.set o.1 o.2 else firm) rest := by
   rw [List.length_append]; rfl
  rw [hsu] at hQ
  cases hk : kf done.length with
  | true =>
   rw [hk, if_pos rfl] at hQ
   have hpg : g2[p]? = some (.box [vf, vl, a, b, c3] false) := by rw [hI2.same p (az hp) hpf]; exact hp
   obtain ⟨k0, _, _, _, _⟩ := ldp hpg
   have hof : o.1 < firm.length := by rw [hfl]; exact hom.2
   have hke : (fE firm)[o.1]? = some (cB (firm[o.1])) := by simp only [fE, List.getElem?_map, List.getElem?_eq_getElem hof, Option.map_some]
   obtain ⟨fid, g3, q1, q2, q3⟩ := hI2.firm.at_ hke
   have hst := Ij (n := 64) (cs := cB o.2) (by rw [nk, ho]) q3 hke (by rw [nk]; exact hx _ (List.getElem_mem hof))
   simp only [go_sem, seval, hs]
   refine nv rfl ?_
   simp only [go_sem, seval, hs, h0, k0, hl1, hl2, q2, hst, h11, hw]
   refine ih (done ++ [o]) (firm.set o.1 o.2) _ _ Q (by rw [hdr]; simp) (by simp [hfl]) ?_ (by simp only [ah, hs]) (by simp only [go_sem, seval, h0]) (by simp only [go_sem, seval, h1]) (by simp only [go_sem, seval, h9]) (by simp only [go_sem, seval, h10]) (by simp only [go_sem, seval, hs]) ⟨?_, fun j hj hf => ?_, ?_⟩ hQ
   ·intro b hb
    rcases List.mem_or_eq_of_mem_set hb with e | e
    ·exact hx b e
    ·rw [e]; exact ho
   ·rw [List.length_set]; exact hI2.len
   ·rw [List.getElem?_set_ne (by rintro rfl; exact hf q1), hI2.same j hj hf]
   ·rcases hI2.firm with ⟨id', g', ex, b1, b2, b3⟩ | ⟨b1, _⟩
    ·rw [q1] at b1; cases b1
     rw [q3] at b3; cases b3
     refine .inl ⟨fid, g3, ex, q1, ?_, ?_⟩
     ·rw [b2, Np, Np, List.length_set]
     ·rw [List.getElem?_set_self (az q3)]
      simp [fE, List.map_set]
    ·rw [q1] at b1; cases b1
  | false =>
   rw [hk, if_neg (by simp)] at hQ
   simp only [go_sem, seval, hs, h11, hw]
   exact ih (done ++ [o]) firm _ _ Q (by rw [hdr]; simp) hfl hx (by simp only [ah, hs]) (by simp only [go_sem, seval, h0]) (by simp only [go_sem, seval, h1]) (by simp only [go_sem, seval, h9]) (by simp only [go_sem, seval, h10]) (by simp only [go_sem, seval, hs]) hI2 hQ
def D.settle (d : D) (kf : Nat -> Bool) : D := { d with firm := jw kf 0 d.firm d.loose, loose := [] }
structure SettleP (h : ae) (p : Nat) (f l : Option Nat) (d : D) (v : VV) (h' : ae) : Prop where
 v : v = .tup []
 dev : dq h' p f none d
 kept : Kept h h' p f l
theorem Sd {h : ae} {p : Nat} {f l : Option Nat} {d : D} (hD : dq h p f l d) (hO : d.OK) {fi : Nat} {caps : List VV} {kf : Nat -> Bool}
  (hfi : fi < YB) (hkf : ∀ (k : Nat) g, k < 2000000 -> (∀ j, j < h.length -> f ≠ some j -> g[j]? = h[j]?) -> call F fi ([vi .i64 k] ++ caps) g = some (.ret (vb (kf k)), g)) :
  ∃ v h', call F 54 [.ptr p 0, .func fi caps] h = some (.ret v, h') /\ SettleP h p f l (d.settle kf) v h' := by
 obtain ⟨vf, vl, a1, a2, a3⟩ := hD
 refine bc (fn := f54) rfl ?_
 simp only [f54]
 generalize hs0 : ([.ptr p 0, .func fi caps] ++ List.replicate _ VV.undef : List VV) = s
 have hs : s.length = 32 := by grind
 have h0 : s.getD 0 .undef = .ptr p 0 := by grind
 have h1 : s.getD 1 .undef = .func fi caps := by grind
 clear hs0
 obtain ⟨_, k1, _, _, _⟩ := ldp a1
 simp only [go_sem, seval, hs, h0, k1, a3.ln, Xl]
 refine f54_loop a1 a2 a3 (fun o ho => hO.l64 o ho) (by have := hO.lw; omega) hfi hkf d.loose [] d.firm _ _ _ rfl rfl hO.f64 (by grind) (by grind) (by grind) (by grind) (by grind) (by grind) ⟨Nat.le_refl _, fun _ _ _ => rfl, a2⟩ (fun s' g' b1 b2 b3 => ?_)
 have hpf : f ≠ some p := by
  rcases a2 with ⟨id, gg, ex, c1, _, c3⟩ | ⟨c1, _⟩
  ·grind
  grind
 have a1' : g'[p]? = some (.box [vf, vl, cpx d.w d.f, vb d.fused, vi .i64 d.left] false) := by rw [b3.same p (az a1) hpf]; exact a1
 obtain ⟨s1, _, _, _⟩ := stp a1' (v := ct) rfl
 simp only [go_sem, seval, b1, b2, s1]
 refine ⟨rfl, ⟨vf, ct, ?_, ?_, .inr ⟨rfl, rfl, rfl⟩⟩, ⟨by rw [List.length_set]; exact b3.len, fun j hj x1 x2 _ => ?_⟩⟩
 ·rw [List.getElem?_set_self (az a1')]; rfl
 ·rcases b3.firm with ⟨id, gg, ex, c1, c2, c3⟩ | e
  ·exact .inl ⟨id, gg, ex, c1, c2, by rw [List.getElem?_set_ne (by grind)]; exact c3⟩
  ·exact .inr e
 ·rw [List.getElem?_set_ne (fun e => x1 e.symm), b3.same j hj x2]
theorem Yy (v : VV) (g : ae) : call F 58 [v] g = some (.ret (vb true), g) := by
 refine Aj (fn := f58) rfl ?_
 simp only [f58]
 generalize hs0 : ([v] ++ List.replicate _ VV.undef : List VV) = s
 have hs : s.length = 3 := by grind
 clear hs0
 simp only [go_sem, seval, hs]
 exact ⟨rfl, rfl⟩
def D.flush (d : D) : D := if d.dark then d else { d.burnt.settle (fun _ => true) with w := d.w, f := d.f + 1 }
theorem Oe {d : D} (h : d.OK) : d.burnt.OK := by
 refine ⟨?_, ?_, ?_, ?_, ?_, ?_⟩
 ·rw [iv]; exact h.f64
 ·rw [iv, mn]; exact h.l64
 ·rw [iv]; exact h.n
 ·rw [mn]; exact h.lw
 ·rw [Gq]; exact h.w
 ·rw [rt]; exact h.f
structure FlushP (h : ae) (p : Nat) (f l : Option Nat) (d : D) (v : VV) (h' : ae) : Prop where
 v : v = .tup []
 m : ∃ l', Moved h h' p f l l' d
theorem vk {h : ae} {p : Nat} {f l : Option Nat} {d : D} (hD : dq h p f l d) (hO : d.OK) (hf : d.f < 900000) : ∃ v h', call F 32 [.ptr p 0] h = some (.ret v, h') /\ FlushP h p f l d.flush v h' := by
 refine bc (fn := f32) rfl ?_
 simp only [f32]
 generalize hs0 : ([.ptr p 0] ++ List.replicate _ VV.undef : List VV) = s
 have hs : s.length = 18 := by grind
 have h0 : s.getD 0 .undef = .ptr p 0 := by grind
 clear hs0
 simp only [go_sem, seval, hs]
 rw [bi f32_0.eq_1]
 obtain ⟨g1, hc1, hD1, hK1⟩ := Oz hD
 simp only [go_sem, seval, hs, h0, am3]
 refine ao (by simp only [List.map, go_sem, seval, hs]; exact hc1) ?_
 unfold D.flush
 cases hdk : d.dark with
 | true =>
  have e : d.burnt = d := by unfold D.burnt; grind
  rw [e] at hD1
  simp only [go_sem, seval, hs]
  exact ⟨rfl, l, hD1, hK1, Kn.refl _ _⟩
 | false =>
  obtain ⟨v2, g2, hc2, hP2⟩ := Sd hD1 (Oe hO) (fi := 58) (caps := []) (kf := fun _ => true) (by decide) (fun k g _ _ => Yy _ g)
  simp only [go_sem, seval, hs, h0]
  refine ao (by simp only [List.map, go_sem, seval, hs]; exact hc2) ?_
  obtain ⟨vf, vl, b1, b2, b3⟩ := hP2.dev
  obtain ⟨_, _, m2, _, _⟩ := ldp b1
  have hadd : kt .add (cpx (d.burnt.settle fun _ => true).w (d.burnt.settle fun _ => true).f) (.cv (.sc (.complex .f64 0 4607182418800017408))) = some (cpx d.w (d.f + 1)) := by
   have x1 := acs d.f (by omega)
   have x2 := Uk d.w (by have := hO.w; omega)
   have y1 : (d.burnt.settle fun _ => true).w = d.w := Gq d
   have y2 : (d.burnt.settle fun _ => true).f = d.f := rt d
   rw [y1, y2]
   simp [kt, tm, x1, x2]
  obtain ⟨_, s2, _, _⟩ := stp b1 (v := cpx d.w (d.f + 1)) rfl
  simp only [go_sem, seval, hs, h0, m2, hadd, s2]
  obtain ⟨t1, t2⟩ := dq.turn (d' := { d.burnt.settle (fun _ => true) with w := d.w, f := d.f + 1 }) b1 b2 b3 rfl rfl
  have y1 : (d.burnt.settle fun _ => true).w = d.w := Gq d
  simp only [y1] at t1 t2
  exact ⟨rfl, none, t1, (hK1.trans hP2.kept (fun _ e => .inl e)).trans t2 (fun _ e => by cases e), fun _ e => by cases e⟩
open Go Go.Vm
open Go Go.Vm
theorem ajt {d : D} {i : Int} (h : d.has i = true) : 0 <= i /\ i.toNat < d.firm.length := by
 unfold D.has at h
 grind
theorem Zu {d : D} (h : d.OK) (hw : d.w < 900000) (hl : d.loose.length < 900000) (i : Int) (b : List UInt8) : (d.write i b).1.OK := by
 unfold D.write
 split
 ·exact h
 ·split
  ·exact h
  ·split
   ·exact h
   ·rename_i c1 c2 c3
    have hh := ajt (d := d) (i := i) (by grind)
    refine ⟨?_, ?_, ?_, ?_, ?_, ?_⟩
    ·show ∀ b ∈ d.burnt.firm, b.length = 64
     rw [iv]; exact h.f64
    ·show ∀ o ∈ d.loose ++ [(i.toNat, pad b)], o.2.length = 64 /\ o.1 < d.burnt.firm.length
     rw [iv]
     intro o ho
     rcases List.mem_append.1 ho with e | e
     ·exact h.l64 o e
     ·rw [List.mem_singleton.1 e]
      exact ⟨Mi (by omega), hh.2⟩
    ·show d.burnt.firm.length <= 4096
     rw [iv]; exact h.n
    ·grind
    ·grind
    ·show d.burnt.f < 1000000
     rw [rt]; exact h.f
theorem Df {kf : Nat -> Bool} : ∀ {l : List (Nat × List UInt8)} {k : Nat} {firm : List (List UInt8)}, (∀ b ∈ firm, b.length = 64) -> (∀ o ∈ l, o.2.length = 64) -> ∀ b ∈ jw kf k firm l, b.length = 64
 | [], _, _, h, _ => h
 | o :: l, k, firm, h, hl => by
  show ∀ b ∈ jw kf (k + 1) (if kf k then firm.set o.1 o.2 else firm) l, b.length = 64
  refine Df ?_ (fun o ho => hl o (List.mem_cons_of_mem _ ho))
  grind
theorem Uw {d : D} (h : d.OK) (kf : Nat -> Bool) : (d.settle kf).OK := by
 refine ⟨Df h.f64 (fun o ho => (h.l64 o ho).1), fun o ho => (by cases ho), ?_, by simp [D.settle], h.w, h.f⟩
 show (jw kf 0 d.firm d.loose).length <= 4096
 rw [xl]; exact h.n
theorem Zs {d : D} (h : d.OK) (hf : d.f < 900000) : d.flush.OK := by
 unfold D.flush
 split
 ·exact h
 ·have := Uw (Oe h) (fun _ => true)
  exact ⟨this.f64, this.l64, this.n, this.lw, h.w, by grind⟩
theorem sl1 (x : UInt8) : SlV 1 (eB [x]) (.cv (.sl 1 [[.sc (.int .u8 x.toNat)]] true)) := .inr ⟨true, rfl⟩
open Go Go.Vm
theorem Ys {P : VV -> ae -> Prop} {s : List VV} {h : ae} {a m n id : Nat} {cells : List VV} {fr : Bool} (ha : s.getD a .undef = .ptr id 0) (ho : h[id]? = some (.box cells fr)) (hn : cells.length = n) (hm : m < s.length)
  (hP : P (.tup [.agg cells, s.getD m .undef]) h) : RQ [.cell a true n, .t m] P .ret ⟨s, h⟩ := by
 subst hn
 refine ⟨trivial, [.agg cells, s.getD m .undef], ?_, hP⟩
 simp only [ke, yq, kw hm, ha, ho, List.drop_zero, List.take_length, dm, if_true]
end Go.V08
