/- Part of a proof: of what it says, and when, each theorem tells itself. -/
import Derived.Test.YtbhoknaipfnlnaaC08All4
import Derived.Test.YtbhoknaipfnlnaaVmAll2
import Derived.Test.YtbhoknaipfnlnaaC08Ir
set_option linter.unusedSimpArgs false
set_option linter.unusedVariables false
namespace Go.V08
open Go Go.Vm
def kOf (b : List UInt8) : Nat := (b.getD 10 0).toNat
def Lu (b : List UInt8) : Nat := (b.getD 9 0).toNat
def mn (b : List UInt8) : List UInt8 := (b.drop 11).take (kOf b)
def oj (epoch n i of_ : Nat) (b : List UInt8) : Prop :=
 b.length = 64 /\ 1 <= kOf b /\ kOf b <= 49 /\ 1 <= of_ /\ of_ <= 200 /\ (of_ <= i + 1 \/ kOf b = 49) /\ jz epoch n i of_ (mn b) = b
instance {epoch n i of_ : Nat} {b : List UInt8} : Decidable (oj epoch n i of_ b) := by unfold oj; infer_instance
def frL (epoch n of_ : Nat) : Nat -> Nat -> List (List UInt8) -> List UInt8 -> Option (List UInt8)
 | 0, _, _, acc => some acc
 | m + 1, i, ss, acc => match ss with
  | [] => none
  | b :: r => if oj epoch n i of_ b then (if i + 1 < of_ then frL epoch n of_ m (i + 1) r (acc ++ mn b) else some (acc ++ mn b)) else none
theorem Oi {b : List UInt8} (h : b.length = 64) (h2 : kOf b <= 49) : (mn b).length = kOf b := by
 unfold mn; grind
def f65_t : IR :=
 (.seq
 (.seq (.reg [
 ⟨none, (some 89), (.mv (.t 8))⟩,
 ⟨none, (some 90), (.call 84 true [(.t 89)])⟩,
 ⟨none, (some 88), (.mv (.t 90))⟩,
 ⟨none, (some 91), (.ext (.t 88) 0)⟩,
 ⟨none, (some 92), (.ext (.t 88) 1)⟩,
 ⟨none, (some 9), (.mv (.t 91))⟩,
 ⟨none, (some 10), (.mv (.t 92))⟩])
 (.seq (.reg [
 ⟨none, (some 93), (.mv (.t 10))⟩,
 ⟨none, (some 94), (.bin .eql (.t 93) (.c (.cv (.sc (.int .u16 0)))))⟩])
 (.cond (.t 94)
 (.seq (.reg [
 ⟨none, (some 95), (.mv (.t 9))⟩,
 ⟨none, (some 96), (.mv (.t 12))⟩,
 ⟨none, (some 6), (.mv (.t 95))⟩,
 ⟨none, (some 7), (.mv (.t 96))⟩])
 .ret) .skip)))
 (.seq (.label 0)
 (.seq (.reg [
 ⟨none, (some 6), (.mv (.c (.cv (.sc (.slice none 0 0)))))⟩,
 ⟨none, (some 7), (.mv (.c (.cv (.sc (.int .i64 0)))))⟩])
 .ret)))
theorem aa4 {b : List UInt8} {i : Nat} (h : i < b.length) : b[i]? = some (b.getD i 0) := by
 grind
section
variable {epoch n : Nat} {ss : List (List UInt8)} {elsS : List (List CV)} {u : VV} {h0 : ah}
theorem f65_loop (hP : PgE elsS ss) (hu : VF h0 1 elsS u) {of_ : Nat} (hof : ∀ b, ss[0]? = some b -> of_ = Lu b) :
  ∀ (m i : Nat) (acc : List UInt8) (va : VV) (s : List VV) (h : ah) (Q : Pst), m + i = 200 -> (i = 0 \/ (i < of_ /\ of_ <= 200)) -> i <= ss.length -> acc.length <= 49 * i -> NB h0 h 1 (eB acc) va ->
   s.length = 97 -> s.getD 0 .undef = vi .i64 epoch -> s.getD 1 .undef = vi .i64 n -> s.getD 2 .undef = u -> s.getD 8 .undef = va -> s.getD 11 .undef = vi .i64 i -> (i = 0 /\ s.getD 12 .undef = vi .i64 1 \/ s.getD 12 .undef = vi .i64 of_) ->
   (frL epoch n of_ m i (ss.drop i) acc = none -> ∀ s' h', s'.length = 97 -> s'.getD 6 .undef = cj -> s'.getD 7 .undef = vi .i64 0 -> HExt h0 h' -> Q .ret ⟨s', h'⟩) ->
   (∀ all, frL epoch n of_ m i (ss.drop i) acc = some all -> ∀ s' h' va', s'.length = 97 -> s'.getD 8 .undef = va' -> s'.getD 12 .undef = vi .i64 of_ -> NB h0 h' 1 (eB all) va' -> all.length <= 10000 -> X F f65_t ⟨s', h'⟩ (S F f65_4 Q)) -> XF F f65_4 1 ⟨s, h⟩ (S F f65_4 Q) := by
 intro m
 have hpl := hP.len
 induction m with
 | zero => intro i acc va s h Q hm hio; omega
 | succ m ih =>
  intro i acc va s h Q hm hio hile hac hB hs e0 e1 e2 e8 e11 e12 hN hY
  have bad : frL epoch n of_ (m + 1) i (ss.drop i) acc = none -> ∀ s' h', s'.length = 97 -> HExt h0 h' -> S F f65_4 Q (.goto 0) ⟨s', h'⟩ := by
   intro hno s' h' hs' hx
   rw [Nh rfl, Tg f65_4.eq_1, du rfl, du rfl, du rfl, du rfl, du rfl, du rfl, du rfl, du rfl, du rfl, At rfl, ut]
   simp only [go_sem, seval, hs']
   exact hN hno _ h' (by simp only [ad, hs']) (by simp only [go_sem, seval, hs']) (by simp only [go_sem, seval, hs']) hx
  rw [Tg f65_4.eq_1, du rfl, du rfl, du rfl, du rfl, At rfl, ut]
  show X F (.seq f65_0 (.seq _ (.seq _ f65_t))) ⟨s, h⟩ _
  rw [adq, bf f65_0.eq_1]
  have hv := hu.ext hB.ext
  by_cases d0 : i = ss.length
  ·have d0' : (i : Int) = (elsS.length : Int) := by omega
   simp only [go_sem, seval, hs, e11, e2, hv.ln, d0']
   exact bad (by rw [d0, List.drop_length]; rfl) _ _ (by simp only [ad, hs]) hB.ext
  have d0' : ¬ (i : Int) = (elsS.length : Int) := by omega
  obtain ⟨cb, b, he, hb, hc⟩ := hP.get (i := i) (by omega)
  have hd : ss.drop i = b :: ss.drop (i + 1) := by
   obtain ⟨la, e⟩ := List.getElem?_eq_some_iff.1 hb
   rw [List.drop_eq_getElem_cons la, e]
  have hno : ¬ oj epoch n i of_ b -> frL epoch n of_ (m + 1) i (ss.drop i) acc = none := fun hn => by rw [hd]; simp only [frL]; rw [if_neg hn]
  obtain ⟨q, q1, _, _, q3⟩ := hv.cell (k := .i64) he
  have q4 := q3 _ _ rfl
  by_cases d1 : b.length = 64
  ·have d1' : ¬ ((b.length : Nat) : Int) ≠ 64 := by omega
   have i10 : ∀ g : ah, iaO g 1 (.cv cb) (vi .i64 10) = some (.rptr (bt (b.getD 10 0)), g) := fun g => hc.ia (by omega) (by show (eB b)[10]? = _; exact xj (aa4 (by omega)))
   have i9 : ∀ g : ah, iaO g 1 (.cv cb) (vi .i64 9) = some (.rptr (bt (b.getD 9 0)), g) := fun g => hc.ia (by omega) (by show (eB b)[9]? = _; exact xj (aa4 (by omega)))
   have k10 : ∀ g : ah, ldO g false 1 (.rptr (bt (b.getD 10 0))) = some (vi .u8 (kOf b), g) := fun g => jw
   have k9 : ∀ g : ah, ldO g false 1 (.rptr (bt (b.getD 9 0))) = some (vi .u8 (Lu b), g) := fun g => jw
   have hk256 : kOf b < 256 := (b.getD 10 0).toNat_lt
   have ho256 : Lu b < 256 := (b.getD 9 0).toNat_lt
   have wk : IntKind.i64.wrap (kOf b : Int) = (kOf b : Int) := IntWalk.i64_in _ (by omega)
   have wo : IntKind.i64.wrap (Lu b : Int) = (Lu b : Int) := IntWalk.i64_in _ (by omega)
   simp only [go_sem, seval, hs, e11, e2, hv.ln, d0', q1, q4, hc.ln, ax, d1', i10, k10, wk]
   refine mid (P := fun st => st.h = h /\ st.s.length = 97 /\ st.s.getD 0 .undef = vi .i64 epoch /\ st.s.getD 1 .undef = vi .i64 n /\ st.s.getD 2 .undef = u /\ st.s.getD 8 .undef = va /\ st.s.getD 11 .undef = vi .i64 i /\ st.s.getD 12 .undef = vi .i64 of_ /\ st.s.getD 13 .undef = .cv cb /\ st.s.getD 14 .undef = vi .i64 (kOf b)) ?_ ?_
   ·rw [bf f65_1.eq_1]
    by_cases d2 : i = 0
    ·have d2' : ((i : Nat) : Int) = 0 := by omega
     have e : of_ = Lu b := hof b (by rw [<- d2]; exact hb)
     simp only [go_sem, seval, hs, e11, d2', i9, k9, wo, e, e0, e1, e2, e8, and_self]
    ·have d2' : ¬ ((i : Nat) : Int) = 0 := by omega
     have e : s.getD 12 .undef = vi .i64 of_ := by
      rcases e12 with ⟨e, _⟩ | e
      ·exact absurd e d2
      ·exact e
     simp only [go_sem, seval, hs, e11, d2', e0, e1, e2, e8, e, and_self]
   ·rintro ⟨s1, h1⟩ ⟨rfl, hs1, ff0, ff1, ff2, ff8, ff11, ff12, ff13, ff14⟩
    dsimp only at hs1 ff0 ff1 ff2 ff8 ff11 ff12 ff13 ff14
    rw [adq]
    have hof256 : of_ < 256 := by
     rcases hio with h | h
     ·have := hof b (by rw [<- h]; exact hb); omega
     ·omega
    have wof : IntKind.i64.wrap ((of_ : Int) - 1) = (of_ : Int) - 1 := IntWalk.i64_in _ (by omega)
    by_cases g1 : (kOf b : Int) < 1
    ·rw [bf f65_2.eq_1]
     simp only [go_sem, seval, hs1, ff14, g1]
     exact bad (hno (fun hh => by have := hh.2.1; omega)) _ _ (by simp only [ad, hs1]) hB.ext
    by_cases g2 : (49 : Int) < (kOf b : Int)
    ·rw [bf f65_2.eq_1]
     simp only [go_sem, seval, hs1, ff14, g1, gt_iff_lt, g2]
     exact bad (hno (fun hh => by have := hh.2.2.1; omega)) _ _ (by simp only [ad, hs1]) hB.ext
    by_cases g3 : (of_ : Int) < 1
    ·rw [bf f65_2.eq_1]
     simp only [go_sem, seval, hs1, ff14, ff12, g1, gt_iff_lt, g2, g3]
     exact bad (hno (fun hh => by have := hh.2.2.2.1; omega)) _ _ (by simp only [ad, hs1]) hB.ext
    by_cases g4 : (200 : Int) < (of_ : Int)
    ·rw [bf f65_2.eq_1]
     simp only [go_sem, seval, hs1, ff14, ff12, g1, gt_iff_lt, g2, g3, g4]
     exact bad (hno (fun hh => by have := hh.2.2.2.2.1; omega)) _ _ (by simp only [ad, hs1]) hB.ext
    have w11 : IntKind.i64.wrap (11 + (kOf b : Int)) = ((11 + kOf b : Nat) : Int) := by rw [IntWalk.i64_in _ (by omega)]; omega
    have hbl := Oi d1 (by omega)
    have wi1 : IntKind.i64.wrap ((i : Int) + 1) = ((i + 1 : Nat) : Int) := by rw [IntWalk.i64_in _ (by omega)]; omega
    obtain ⟨wp, sp, psl⟩ : ∃ v', SlV 1 (eB (mn b)) v' /\ ∀ g : ah, slO g 1 (.cv cb) (some (vi .i64 11)) (some (vi .i64 ((11 + kOf b : Nat) : Int))) none = some (v', g) := by
     rcases hc with ⟨e, e'⟩ | ⟨ex, e'⟩
     ·exfalso
      have := congrArg List.length e'
      rw [ax, List.length_nil] at this; omega
     ·cases e'
      refine ⟨.cv (.sl 1 (eB (mn b)) (ex && (11 + kOf b == (eB b).length))), .inr ⟨_, rfl⟩, fun g => ?_⟩
      have e1 : (11 : Int) <= ((11 + kOf b : Nat) : Int) := by omega
      have e2 : ((11 + kOf b : Nat) : Int) <= ((eB b).length : Int) := by rw [ax]; omega
      have e3 : ((11 + kOf b : Nat) : Int).toNat = 11 + kOf b := by omega
      have e4 : (0 : Int) <= ((11 + kOf b : Nat) : Int) := by omega
      have e5 : (11 : Int) <= max ((11 + kOf b : Nat) : Int) 0 := by omega
      simp only [slO, ai, me, lx, bnd, pc, Option.map_some, Option.map_none]
      rw [if_pos ⟨e4, e2⟩, e3]
      simp only
      rw [if_pos ⟨by decide, e1⟩]
      simp [Dq, mn]
    obtain ⟨v47, h47, n47, w47, r47, S47⟩ := Nv (epoch := epoch) (n := n) (i := i) (of_ := of_) sp (by rw [hbl]; omega)
    have neq := qq S47 hc
    by_cases hor : of_ <= i + 1 \/ kOf b = 49
    ·refine mid (P := fun st => st.h = h1 /\ st.s.length = 97 /\ st.s.getD 0 .undef = vi .i64 epoch /\ st.s.getD 1 .undef = vi .i64 n /\ st.s.getD 2 .undef = u /\ st.s.getD 8 .undef = va /\ st.s.getD 11 .undef = vi .i64 i /\ st.s.getD 12 .undef = vi .i64 of_ /\ st.s.getD 13 .undef = .cv cb /\ st.s.getD 14 .undef = vi .i64 (kOf b)) ?_ ?_
     ·rw [bf f65_2.eq_1]
      by_cases g5 : (i : Int) < (of_ : Int) - 1
      ·have g6 : ¬ (kOf b : Int) < 49 := by omega
       simp only [go_sem, seval, hs1, ff14, ff12, ff11, g1, gt_iff_lt, g2, g3, g4, wof, g5, g6, ff0, ff1, ff2, ff8, ff13, and_self]
      ·simp only [go_sem, seval, hs1, ff14, ff12, ff11, g1, gt_iff_lt, g2, g3, g4, wof, g5, ff0, ff1, ff2, ff8, ff13, and_self]
     rintro ⟨s2, h1'⟩ ⟨e, hs2, p0, p1, p2, p8, p11, p12, p13, p14⟩
     dsimp only at e hs2 p0 p1 p2 p8 p11 p12 p13 p14
     subst e
     simp only [go_sem, seval, hs2]
     rw [bf f65_3.eq_1]
     simp only [go_sem, seval, hs2, p0, p1, p11, p12, p13, p14, w11, psl]
     refine ap (h1 := h1') (by simp only [List.map, go_sem, seval, hs2]; exact dy (dy (dy (dy (sp.clos rfl))))) n47 r47 ?_
     simp only [go_sem, seval, hs2, p13]
     refine ap (h1 := h1') (by simp only [List.map, go_sem, seval, hs2]; exact S47.clos (hc.clos rfl)) neq rfl ?_
     by_cases g5 : jz epoch n i of_ (mn b) = b
     ·have hok : oj epoch n i of_ b := ⟨d1, by omega, by omega, by omega, by omega, hor, g5⟩
      simp only [go_sem, seval, hs2, g5, decide_true, p8, p13, p14, w11, psl]
      refine nl hB (new := eB (mn b)) (by simp only [go_sem, seval, hs2]) (by simp only [go_sem, seval, hs2]; exact sp.src) (by rw [ax, ax]; omega) (by rw [ax, ax]; omega) (fun v' h' hB' _ _ _ => ?_)
      rw [<- il] at hB'
      have hfr : frL epoch n of_ (m + 1) i (ss.drop i) acc = if i + 1 < of_ then frL epoch n of_ m (i + 1) (ss.drop (i + 1)) (acc ++ mn b) else some (acc ++ mn b) := by
       rw [hd]; simp only [frL]; rw [if_pos hok]
      rw [hfr] at hN hY
      simp only [go_sem, seval, hs2, p11, p12, wi1]
      by_cases g6 : i + 1 < of_
      ·have g6' : ((i + 1 : Nat) : Int) < (of_ : Int) := by omega
       rw [if_pos g6] at hN hY
       simp only [go_sem, seval, hs2, g6']
       rw [Nh rfl]
       exact ih (i + 1) (acc ++ mn b) v' _ _ Q (by omega) (.inr ⟨g6, by omega⟩) (by omega) (by rw [List.length_append]; omega) hB' (by simp only [ad, hs2]) (by simp only [go_sem, seval, p0]) (by simp only [go_sem, seval, p1]) (by simp only [go_sem, seval, p2]) (by simp only [go_sem, seval, hs2]) (by simp only [go_sem, seval, hs2]) (.inr (by simp only [go_sem, seval, p12])) hN hY
      ·have g6' : ¬ ((i + 1 : Nat) : Int) < (of_ : Int) := by omega
       rw [if_neg g6] at hN hY
       simp only [go_sem, seval, hs2, g6']
       exact hY _ rfl _ _ v' (by simp only [ad, hs2]) (by simp only [go_sem, seval, hs2]) (by simp only [go_sem, seval, p12]) hB' (by rw [List.length_append]; omega)
     ·simp only [go_sem, seval, hs2, g5, decide_false]
      exact bad (hno (fun hh => g5 hh.2.2.2.2.2.2)) _ _ (by simp only [ad, hs2]) hB.ext
    ·have g5 : (i : Int) < (of_ : Int) - 1 := by omega
     have g6 : (kOf b : Int) < 49 := by omega
     rw [bf f65_2.eq_1]
     simp only [go_sem, seval, hs1, ff14, ff12, ff11, g1, gt_iff_lt, g2, g3, g4, wof, g5, g6]
     exact bad (hno (fun hh => hor hh.2.2.2.2.2.1)) _ _ (by simp only [ad, hs1]) hB.ext
  ·have d1' : ((b.length : Nat) : Int) ≠ 64 := by omega
   simp only [go_sem, seval, hs, e11, e2, hv.ln, d0', q1, q4, hc.ln, ax, d1']
   exact bad (hno (fun hh => d1 hh.1)) _ _ (by simp only [ad, hs]) hB.ext
end
open Go Go.Vm
def ofS (ss : List (List UInt8)) : Nat := match ss with
 | [] => 0
 | b :: _ => Lu b
def sv (epoch n : Nat) (ss : List (List UInt8)) : Option (List UInt8) := frL epoch n (ofS ss) 200 0 ss []
def dx (epoch n : Nat) (ss : List (List UInt8)) : List (List CV) × Nat := match sv epoch n ss with
 | none => ([], 0)
 | some all => if (ij (dw all) all).2 = 0 then ((ij (dw all) all).1, ofS ss) else ([], 0)
def abn (r : List (List CV) × Nat) (w : VV) : Prop := ∃ x, w = .tup [x, vi .i64 (r.2 : Nat)] /\ SlV 3 r.1 x
section
variable {epoch n : Nat} {ss : List (List UInt8)} {elsS : List (List CV)} {u : VV} {h : ah}
theorem Wb (hP : PgE elsS ss) (hu : VF h 1 elsS u) : Ret F 65 [vi .i64 epoch, vi .i64 n, u] h fun v g => HExt h g ∧ abn (dx epoch n ss) v := by
  refine ej (fn := f65) rfl ?_
  simp only [f65]
  generalize hs0 : ([vi .i64 epoch, vi .i64 n, u] ++ List.replicate _ VV.undef : List VV) = s
  have hs : s.length = 97 := by grind
  have h0 : s.getD 0 .undef = vi .i64 epoch := by grind
  have h1 : s.getD 1 .undef = vi .i64 n := by grind
  have h2 : s.getD 2 .undef = u := by grind
  clear hs0
  have hof : ∀ b, ss[0]? = some b → ofS ss = Lu b := by
    intro b hb
    cases ss with
    | nil => cases hb
    | cons c r => cases hb; rfl
  have key : ∀ (s : List VV), s.length = 97 → s.getD 0 .undef = vi .i64 epoch → s.getD 1 .undef = vi .i64 n → s.getD 2 .undef = u → s.getD 8 .undef = cj → s.getD 11 .undef = vi .i64 0 → s.getD 12 .undef = vi .i64 1 →
      XF F f65_4 1 ⟨s, h⟩ (S F f65_4 (RQ [.t 6, .t 7] fun v g => HExt h g ∧ abn (dx epoch n ss) v)) := by
    intro s hs e0 e1 e2 e8 e11 e12
    refine f65_loop (of_ := ofS ss) hP hu hof 200 0 [] cj s h _ rfl (.inl rfl) (by omega) (by simp) (NB.nil _ _) hs e0 e1 e2 e8 e11 (.inl ⟨rfl, e12⟩) ?_ ?_
    · intro hno s' h' hs' e6 e7 hx
      rw [List.drop_zero] at hno
      have hf : dx epoch n ss = ([], 0) := by unfold dx sv; rw [hno]
      simp only [go_sem, seval, hs', e6, e7]
      exact ⟨hx, cj, by rw [hf]; rfl, by rw [hf]; exact .inl ⟨rfl, rfl⟩⟩
    · intro all hso s' h' va' hs' e8' e12' hB hlen
      rw [List.drop_zero] at hso
      obtain ⟨w, h1, c1, c2, c3, _⟩ := hB.bsrc.cl
      obtain ⟨v54, h54, n54, r54⟩ := Ln all w c2 (by omega)
      have r54' : au h54 v54 = some (.tup [slV 3 (ij (dw all) all).1, vi .u16 (ij (dw all) all).2]) := r54
      unfold f65_t
      simp only [go_sem, seval, hs', e8']
      refine ap (h1 := h1) (by simp only [List.map, go_sem, seval, hs', e8']; exact c1) n54 r54' ?_
      by_cases d : (ij (dw all) all).2 = 0
      · have d' : (((ij (dw all) all).2 : Nat) : Int) = 0 := by omega
        have hf : dx epoch n ss = ((ij (dw all) all).1, ofS ss) := by unfold dx sv; grind
        simp only [go_sem, seval, hs', d', e12']
        exact ⟨c3, _, by rw [hf], by rw [hf]; exact Tm⟩
      · have d' : ¬ (((ij (dw all) all).2 : Nat) : Int) = 0 := by omega
        have hf : dx epoch n ss = ([], 0) := by unfold dx sv; grind
        simp only [go_sem, seval, hs', d']
        exact ⟨c3, cj, by rw [hf]; rfl, by rw [hf]; exact .inl ⟨rfl, rfl⟩⟩
  simp only [go_sem, seval, hs]
  have k := key ((((((((s.set 6 cj).set 7 (vi .i64 0)).set 8 cj).set 9 cj).set 10 (vi .u16 0)).set 11 (vi .i64 0)).set 12 (vi .i64 1))) (by grind) (by grind) (by grind) (by grind) (by grind) (by grind) (by grind)
  rw [Tg f65_4.eq_1, du rfl, du rfl, du rfl, du rfl, At rfl, ut] at k
  rw [bf f65_4.eq_1]
  simp only [go_sem, seval, hs] at k ⊢
  exact k
end
theorem Uz {epoch n of_ : Nat} : ∀ (m i : Nat) (ss : List (List UInt8)) (acc all : List UInt8), i < of_ -> of_ <= m + i -> frL epoch n of_ m i ss acc = some all -> of_ - i <= ss.length
 | 0, i, ss, acc, all, h1, h2, h => by omega
 | m + 1, i, [], acc, all, h1, h2, h => by simp [frL] at h
 | m + 1, i, b :: r, acc, all, h1, h2, h => by
  simp only [frL] at h
  split at h
  ·split at h
   ·rename_i g
    have := Uz m (i + 1) r _ all g (by omega) h
    grind
   grind
  ·cases h
theorem Rk {epoch n of_ m i : Nat} {b : List UInt8} {r : List (List UInt8)} {acc all : List UInt8} (h : frL epoch n of_ (m + 1) i (b :: r) acc = some all) : oj epoch n i of_ b := by
 simp only [frL] at h
 grind
theorem ae4 {epoch n of_ m i : Nat} {acc : List UInt8} : frL epoch n of_ (m + 1) i [] acc = none := rfl
theorem Po {epoch n : Nat} {ss : List (List UInt8)} : (dx epoch n ss).2 <= ss.length := by
 unfold dx
 split
 ·simp
 ·rename_i all ha
  split
  ·unfold sv at ha
   cases ss with
   | nil => rw [show (200 : Nat) = 199 + 1 from rfl, ae4] at ha; cases ha
   | cons b r =>
    have ho : 1 <= ofS (b :: r) /\ ofS (b :: r) <= 200 := by
     have g := Rk (m := 199) ha
     exact ⟨g.2.2.2.1, g.2.2.2.2.1⟩
    have := Uz 200 0 (b :: r) [] all (by omega) (by omega) ha
    omega
  ·simp
inductive FrE : List (List CV) -> List (List (List CV)) -> Prop
 | nil : FrE [] []
 | cons {c : CV} {b : List (List CV)} {l : List (List CV)} {k : List (List (List CV))} (h : SlV 3 b (.cv c)) (t : FrE l k) : FrE ([c] :: l) (b :: k)
theorem FrE.len {l : List (List CV)} {k : List (List (List CV))} (h : FrE l k) : l.length = k.length := by
 induction h with
 | nil => rfl
 | cons _ _ ih => simp [ih]
theorem FrE.app {l m : List (List CV)} {k j : List (List (List CV))} (h : FrE l k) (h2 : FrE m j) : FrE (l ++ m) (k ++ j) := by
 induction h with
 | nil => exact h2
 | cons h _ ih => exact .cons h ih
theorem FrE.get {l : List (List CV)} {k : List (List (List CV))} (h : FrE l k) {i : Nat} (hi : i < k.length) : ∃ c b, l[i]? = some [c] /\ k[i]? = some b /\ SlV 3 b (.cv c) := by
 induction h generalizing i with
 | nil => simp at hi
 | cons h t ih =>
  grind
def rdA (epoch : Nat) : Nat -> Nat -> List (List UInt8) -> List (List (List CV)) × Nat
 | 0, _, _ => ([], 0)
 | m + 1, n, ss => if (dx epoch n ss).2 = 0 then ([], 0) else ((dx epoch n ss).1 :: (rdA epoch m (n + 1) (ss.drop (dx epoch n ss).2)).1, (dx epoch n ss).2 + (rdA epoch m (n + 1) (ss.drop (dx epoch n ss).2)).2)
def sm (epoch : Int) (ss : List (List UInt8)) : List (List (List CV)) × Nat := if ka epoch = true then rdA epoch.toNat (ss.length + 1) 0 ss else ([], 0)
def aky (r : List (List (List CV)) × Nat) (w : VV) : Prop := ∃ x els, w = .tup [x, vi .i64 (r.2 : Nat)] /\ SlV 1 els x /\ FrE els r.1
theorem aed {els : List (List CV)} {k : List (List UInt8)} (h : PgE els k) (n : Nat) : PgE (els.drop n) (k.drop n) := by
 induction h generalizing n with
 | nil => simp; exact .nil
 | cons h t ih =>
  cases n with
  | zero => exact .cons h t
  | succ n => exact ih n
section
variable {epoch : Int} {ss : List (List UInt8)} {elsS : List (List CV)} {u : VV} {h0 : ah}
theorem f37_loop (hP : PgE elsS ss) (hu : VF h0 1 elsS u) (hl : ss.length <= 1000000000) (he : ka epoch = true) :
  ∀ (m n at_ : Nat) (acc : List (List (List CV))) (els : List (List CV)) (va : VV) (s : List VV) (h : ah) (Q : Pst), ss.length - at_ < m -> n <= at_ -> at_ <= ss.length -> acc.length = n -> NB h0 h 1 els va -> FrE els acc ->
   s.length = 33 -> s.getD 0 .undef = vi .i64 epoch -> s.getD 1 .undef = u -> s.getD 6 .undef = va -> s.getD 7 .undef = vi .i64 at_ ->
   (∀ s' h' els' va', s'.length = 33 -> s'.getD 6 .undef = va' -> s'.getD 7 .undef = vi .i64 ((at_ + (rdA epoch.toNat m n (ss.drop at_)).2 : Nat) : Int) -> NB h0 h' 1 els' va' -> FrE els' (acc ++ (rdA epoch.toNat m n (ss.drop at_)).1) -> Q (.exit 0) ⟨s', h'⟩) -> X F (.loop f37_1) ⟨s, h⟩ Q := by
 intro m
 have hpl := hP.len
 obtain ⟨ee, ee2⟩ := Bc he
 induction m with
 | zero => omega
 | succ m ih =>
  intro n at_ acc els va s h Q hm hn hat hac hB hF hs e0 e1 e6 e7 hQ
  obtain ⟨h42, n42⟩ := rm epoch
  rw [he] at n42
  have hfl := hF.len
  obtain ⟨w, w1, w2⟩ := (hu.ext hB.ext).from_ (k := .i64) (n := at_) (by omega)
  obtain ⟨v43, h43, n43, x43, cw, rfl, P43⟩ := Wb (epoch := epoch.toNat) (n := n) (aed hP at_) w2
  have hfle := Po (epoch := epoch.toNat) (n := n) (ss := ss.drop at_)
  rw [List.length_drop] at hfle
  have e0' : s.getD 0 .undef = vi .i64 ((epoch.toNat : Nat) : Int) := by grind
  have hB43 := hB.then x43
  rw [az, bf f37_1.eq_1]
  simp only [go_sem, seval, hs, e0]
  refine ap (h1 := h) (by simp only [List.map, go_sem, seval, hs]; rfl) n42 rfl ?_
  simp only [go_sem, seval, hs, e0', e1, e6, e7, hB.ln, hfl, hac, w1]
  refine ao (by simp only [List.map, go_sem, seval, hs]; exact n43) ?_
  simp only [go_sem, seval, hs]
  rw [bf f37_0.eq_1]
  have hr : rdA epoch.toNat (m + 1) n (ss.drop at_) = if (dx epoch.toNat n (ss.drop at_)).2 = 0 then ([], 0) else ((dx epoch.toNat n (ss.drop at_)).1 :: (rdA epoch.toNat m (n + 1) ((ss.drop at_).drop (dx epoch.toNat n (ss.drop at_)).2)).1, (dx epoch.toNat n (ss.drop at_)).2 + (rdA epoch.toNat m (n + 1) ((ss.drop at_).drop (dx epoch.toNat n (ss.drop at_)).2)).2) := rfl
  rw [hr] at hQ
  generalize dx epoch.toNat n (ss.drop at_) = fr at *
  by_cases d : fr.2 = 0
  ·have d' : ((fr.2 : Nat) : Int) = 0 := by omega
   rw [if_pos d] at hQ
   simp only [go_sem, seval, hs, d']
   refine hQ _ _ els va (by simp only [ad, hs]) (by simp only [go_sem, seval, e6]) (by simp only [go_sem, seval, e7]; rfl) hB43 (by grind)
  ·have d' : ¬ ((fr.2 : Nat) : Int) = 0 := by omega
   rw [if_neg d] at hQ
   obtain ⟨cx, rfl⟩ : ∃ c2, cw = .cv c2 := by rcases P43 with ⟨rfl, _⟩ | ⟨ex, rfl⟩ <;> exact ⟨_, rfl⟩
   have m1 : ∀ h : ah, mkO h 1 1 [.cv (.sc (.slice none 0 0))] [(0, 1, .cv cx)] = some (.cv (.sl 1 [[cx]] true), h) := fun _ => rfl
   have hwr : IntKind.i64.wrap ((at_ : Int) + (fr.2 : Int)) = ((at_ + fr.2 : Nat) : Int) := by rw [IntWalk.i64_in _ (by omega)]; omega
   simp only [go_sem, seval, hs, d', e6, m1]
   refine nl hB43 (new := [[cx]]) (by simp only [go_sem, seval, hs, e6]) (by simp only [go_sem, seval, hs]) (by grind) (by grind) (fun v' h' hB' _ _ _ => ?_)
   simp only [go_sem, seval, hs, e7, hwr]
   refine ih (n + 1) (at_ + fr.2) (acc ++ [fr.1]) _ v' _ _ Q (by omega) (by omega) (by omega) (by simp; omega) hB' (hF.app (.cons P43 .nil)) (by simp only [ad, hs]) (by simp only [go_sem, seval, e0]) (by simp only [go_sem, seval, e1]) (by simp only [go_sem, seval, hs]) (by simp only [go_sem, seval, hs]) (fun s' h2 els' va' a1 a2 a3 a4 a5 => hQ s' h2 els' va' a1 a2 ?_ a4 ?_)
   ·rw [a3, List.drop_drop, Nat.add_assoc]
   ·rw [List.append_assoc] at a5
    rw [List.drop_drop]; exact a5
theorem Zu (hP : PgE elsS ss) (hu : VF h0 1 elsS u) (hl : ss.length <= 1000000000) (epoch : Int) : Ret F 37 [vi .i64 epoch, u] h0 fun v g => ∃ va els, v = .tup [va, vi .i64 ((sm epoch ss).2 : Nat)] /\ NB h0 g 1 els va /\ FrE els (sm epoch ss).1 := by
 refine ej (fn := f37) rfl ?_
 simp only [f37]
 generalize hs0 : ([vi .i64 epoch, u] ++ List.replicate _ VV.undef : List VV) = s
 have hs : s.length = 33 := by grind
 have h0 : s.getD 0 .undef = vi .i64 epoch := by grind
 have h1 : s.getD 1 .undef = u := by grind
 clear hs0
 simp only [go_sem, Nat.reduceLT, Nat.reduceEqDiff, reduceCtorEq, Int.reduceLT, Int.reduceEq, hs]
 by_cases he : ka epoch = true
 ·have hr : sm epoch ss = rdA epoch.toNat (ss.length + 1) 0 ss := by unfold sm; grind
  rw [hr]
  refine f37_loop hP hu hl he (ss.length + 1) 0 0 [] [] cj _ _ _ (by omega) (by omega) (by omega) rfl (NB.nil _ _) .nil (by grind) (by grind) (by grind) (by grind) (by grind) (fun s' h' els' va' a1 a2 a3 a4 a5 => ?_)
  rw [List.drop_zero] at a3 a5
  rw [Nat.zero_add] at a3
  simp only [go_sem, seval, a1, a2, a3]
  grind
 ·have he' : ka epoch = false := by grind
  have hr : sm epoch ss = ([], 0) := by unfold sm; grind
  obtain ⟨h42, n42⟩ := rm epoch
  rw [he'] at n42
  rw [hr]
  rw [az, bf f37_1.eq_1]
  simp only [go_sem, seval, hs, h0]
  refine ap (by simp only [List.map, go_sem, seval, hs]; rfl) n42 rfl ?_
  simp only [go_sem, seval, hs]
  exact ⟨cj, [], rfl, NB.nil _ _, .nil⟩
theorem Rr (hP : PgE elsS ss) (hu : SlV 1 elsS u) (hl : ss.length <= 1000000000) (epoch : Int) : Cc F 37 [vi .i64 epoch, u] (aky (sm epoch ss)) := by
 obtain ⟨v, g, n1, va, els, rfl, B, E⟩ := Zu (h0 := []) hP hu.vf hl epoch
 obtain ⟨w, g1, c1, c2⟩ := B.clos
 exact ⟨_, g, n1, .tup [w, vi .i64 ((sm epoch ss).2 : Nat)], by simp only [au, cd c1 (dy ly), Option.map], w, els, rfl, c2, E⟩
end
open Go Go.Vm
theorem Zo {epoch n i of_ : Nat} {p : List UInt8} : Lu (jz epoch n i of_ p) = of_ % 256 := by
 simp [Lu, jz, Bn, np, wd, u8]
open Go Go.Vm
open Go Go.Vm
open Go Go.Vm
theorem Cp {b : List UInt8} {u : VV} (hu : SlV 1 (eB b) u) (hb : b.length <= 1000000000) : Cc F 52 [u] (SlV 1 (eB b)) := by
 have : Ret F 52 [u] [] fun v g => ∃ w, au g v = some w /\ SlV 1 (eB b) w := by
  refine eE1 (fn := f52) (n := 8) rfl rfl fun s hs h0 => ?_
  simp only [f52]
  simp only [go_sem, seval, hs]
  rw [bf f52_0.eq_1]
  rcases hu with ⟨rfl, e⟩ | ⟨ex, rfl⟩
  ·simp only [go_sem, seval, hs, h0]
   exact ⟨cj, rfl, .inl ⟨rfl, e⟩⟩
  ·have m0 : mkO ([] : ah) 1 0 [] [] = some (.cv (.sl 1 [] true), []) := rfl
   simp only [go_sem, seval, hs, h0, m0]
   refine Ec (h0 := []) (els := []) (new := eB b) ⟨HExt.refl _, .inr (.inl ⟨rfl, rfl⟩)⟩ (by simp only [go_sem, seval, hs]) (by simp only [go_sem, seval, hs]) (by rw [ax, List.length_nil]; omega) (by rw [ax, List.length_nil]; omega) (fun v' h' B _ _ => ?_)
   simp only [go_sem, seval, hs]
   obtain ⟨w, h1, c1, c2, _⟩ := B.vf.clos
   refine ⟨w, ?_, by simpa using c2⟩
   have hc := B.cellv
   cases v' with
   | tup l => simp [eo] at hc
   | _ => simp only [au, c1, Option.map]
 obtain ⟨v, g, n1, w, e1, e2⟩ := this
 exact ⟨v, g, n1, w, e1, e2⟩
theorem Cu {h : ah} {els : List (List CV)} {u : VV} (hu : VF h 2 els u) (hb : els.length <= 1000000000) : Ret F 66 [u] h fun v g => PB h g 2 els v := by
 refine eE1 (fn := f66) (n := 8) rfl rfl fun s hs h0 => ?_
 simp only [f66]
 simp only [go_sem, seval, hs]
 rw [bf f66_0.eq_1]
 have m0 : ∀ h : ah, mkO h 2 0 [] [] = some (.cv (.sl 2 [] true), h) := fun _ => rfl
 have hu' := hu
 rcases hu with (⟨rfl, rfl⟩ | ⟨ex, rfl⟩) | ⟨id, g, off, ex, fr, full, rfl, a2, a3, a4⟩
 ·simp only [go_sem, seval, hs, h0]
  exact (NB.nil _ _).pb
 all_goals
  have hsrc := hu'.src
  simp only [go_sem, seval, hs, h0, m0]
  refine Ec (h0 := h) (els := []) (new := els) ⟨HExt.refl _, .inr (.inl ⟨rfl, rfl⟩)⟩ (by simp only [go_sem, seval, hs]) (by simp only [go_sem, seval, hs, h0]; first | done | exact hsrc) (by rw [List.length_nil]; omega) (by rw [List.length_nil]; omega) (fun v' h' B _ _ => ?_)
  simp only [go_sem, seval, hs]
  simpa using B
def Mz (p : KV -> Bool) : Nat -> List KV -> Int
 | _, [] => -1
 | i, r :: l => if p r then (i : Int) else Mz p (i + 1) l
structure Tells (B : ah -> Prop) (f : Nat) (caps : List VV) (p : KV -> Bool) : Prop where
 lt : f < YB
 ext : ∀ h g : ah, HExt h g -> B h -> B g
 set : ∀ (h : ah) (id z : Nat) (els : List (List CV)) (g : Nat) (fr : Bool) (o : VO), h[id]? = some (.arr z els g fr) -> B h -> B (h.set id o)
 call : ∀ (h : ah) (k l : List UInt8) (c : CV), B h -> SlV 1 (eB l) (.cv c) -> Ret F f ([.agg [txt k, .cv c]] ++ caps) h fun v g => v = vb (p (k, l)) /\ HExt h g
theorem f50_loop {els : List (List CV)} {l : List KV} {u : VV} {h0 : ah} {f : Nat} {caps : List VV} {p : KV -> Bool} {B : ah -> Prop} (hu : VF h0 2 els u) (hR : RowsE els l) (hl : l.length <= 1000000000) (ht : Tells B f caps p) (hB : B h0) :
  ∀ (m i : Nat) (s : List VV) (h : ah) (Q : Pst), i + m = l.length -> HExt h0 h -> s.length = 19 -> s.getD 0 .undef = u -> s.getD 1 .undef = .func f caps -> s.getD 7 .undef = vi .i64 l.length -> s.getD 8 .undef = vi .i64 i ->
   (∀ s' h', s'.length = 19 -> HExt h0 h' -> Mz p i (l.drop i) = -1 -> Q (.exit 0) ⟨s', h'⟩) -> (∀ s' h', s'.length = 19 -> HExt h0 h' -> s'.getD 4 .undef = vi .i64 (Mz p i (l.drop i)) -> Q .ret ⟨s', h'⟩) -> X F (.loop f50_1) ⟨s, h⟩ Q := by
 intro m
 have hpl := hR.len
 induction m with
 | zero =>
  intro i s h Q hi hx hs e0 e1 e7 e8 hN hY
  have c : ¬ ((i : Nat) : Int) < (l.length : Int) := by omega
  have hd : l.drop i = [] := List.drop_eq_nil_of_le (by omega)
  rw [hd] at hN
  rw [az, bf f50_1.eq_1]
  simp only [go_sem, seval, hs, e8, e7]
  rw [bf f50_0.eq_1]
  simp only [go_sem, seval, hs, c]
  exact hN _ _ (by simp only [ad, hs]) hx rfl
 | succ m ih =>
  intro i s h Q hi hx hs e0 e1 e7 e8 hN hY
  have c : ((i : Nat) : Int) < (l.length : Int) := by omega
  obtain ⟨e, r, he, hr, cc, rfl, hc⟩ := hR.get (i := i) (by omega)
  have hd : l.drop i = r :: l.drop (i + 1) := by
   obtain ⟨la, e⟩ := List.getElem?_eq_some_iff.1 hr
   rw [List.drop_eq_getElem_cons la, e]
  rw [hd, Mz] at hN hY
  obtain ⟨q, q1, q2, _, _⟩ := (hu.ext hx).cell (k := .i64) he
  have q2' := q2 2 rfl
  have hwr : IntKind.i64.wrap ((i : Int) + 1) = ((i + 1 : Nat) : Int) := by rw [IntWalk.i64_in _ (by omega)]; omega
  obtain ⟨v, g, n1, rfl, x1⟩ := ht.call h r.1 r.2 cc (ht.ext _ _ hx hB) hc
  rw [az, bf f50_1.eq_1]
  simp only [go_sem, seval, hs, e8, e7]
  rw [bf f50_0.eq_1]
  simp only [go_sem, seval, hs, c, e8, e1, e0, q1, q2', List.map]
  refine Az (f := f) (caps := caps) (by simp only [go_sem, seval, hs]) (by simp only [List.map, go_sem, seval, hs]; exact n1) ?_ ht.lt
  cases hp : p r with
  | true =>
   rw [if_pos hp] at hY
   simp only [go_sem, seval, hs, show p (r.1, r.2) = true from hp]
   exact hY _ _ (by simp only [ad, hs]) (hx.trans x1) (by simp only [go_sem, seval, hs])
  | false =>
   rw [if_neg (by rw [hp]; decide)] at hN hY
   simp only [go_sem, seval, hs, show p (r.1, r.2) = false from hp, e8, hwr]
   exact ih (i + 1) _ _ Q (by omega) (hx.trans x1) (by simp only [ad, hs]) (by simp only [go_sem, seval, e0]) (by simp only [go_sem, seval, e1]) (by simp only [go_sem, seval, e7]) (by simp only [go_sem, seval, hs]) hN hY
theorem Hp {els : List (List CV)} {l : List KV} {u : VV} {h : ah} {f : Nat} {caps : List VV} {p : KV -> Bool} {B : ah -> Prop} (hu : VF h 2 els u) (hR : RowsE els l) (hl : l.length <= 1000000000) (ht : Tells B f caps p) (hB : B h) :
  Ret F 50 [u, .func f caps] h fun v g => v = vi .i64 (Mz p 0 l) /\ HExt h g := by
 refine eE2 (fn := f50) (n := 19) rfl rfl fun s hs h0 h1 => ?_
 simp only [f50]
 have hpl := hR.len
 have hln := hu.ln
 rw [hpl] at hln
 simp only [go_sem, Nat.reduceLT, Nat.reduceEqDiff, reduceCtorEq, Int.reduceLT, Int.reduceEq, hs, h0, hln]
 refine f50_loop hu hR hl ht hB l.length 0 _ _ _ (by omega) (HExt.refl _) (by simp only [ad, hs]) (by simp only [go_sem, Nat.reduceLT, Nat.reduceEqDiff, reduceCtorEq, Int.reduceLT, Int.reduceEq, h0]) (by simp only [go_sem, Nat.reduceLT, Nat.reduceEqDiff, reduceCtorEq, Int.reduceLT, Int.reduceEq, h1]) (by simp only [go_sem, Nat.reduceLT, Nat.reduceEqDiff, reduceCtorEq, Int.reduceLT, Int.reduceEq, hs]) (by simp only [go_sem, Nat.reduceLT, Nat.reduceEqDiff, reduceCtorEq, Int.reduceLT, Int.reduceEq, hs]; rfl) (fun s' h' a1 a2 a3 => ?_) (fun s' h' a1 a2 a3 => ?_)
 ·rw [List.drop_zero] at a3
  simp only [go_sem, seval, a1, a3]
  exact ⟨trivial, a2⟩
 ·rw [List.drop_zero] at a3
  simp only [go_sem, seval, a1, a3]
  exact ⟨trivial, a2⟩
def wn (p : Nat) (key : List UInt8) (h : ah) : Prop := ∃ c1 c2, h[p]? = some (.box [txt key, .cv c1, .cv c2] false)
theorem wn.ext {p : Nat} {key : List UInt8} (h g : ah) (e : HExt h g) (b : wn p key h) : wn p key g := by
 obtain ⟨c1, c2, b⟩ := b; exact ⟨c1, c2, e.get b⟩
theorem wn.set {p : Nat} {key : List UInt8} (h : ah) (id z : Nat) (els : List (List CV)) (g : Nat) (fr : Bool) (o : VO) (ho : h[id]? = some (.arr z els g fr)) (b : wn p key h) : wn p key (h.set id o) := by
 obtain ⟨c1, c2, b⟩ := b
 exact ⟨c1, c2, by rw [List.getElem?_set_ne (by rintro rfl; rw [ho] at b; cases b)]; exact b⟩
theorem Ti {p : Nat} {key : List UInt8} : Tells (wn p key) 68 [.ptr p 0] (fun r => decide (r.1 = key)) := by
 refine ⟨by decide, wn.ext, wn.set, fun h' k l c hx hc => ?_⟩
 obtain ⟨c1, c2, hp'⟩ := hx
 show Ret F 68 [.agg [txt k, .cv c], .ptr p 0] h' _
 refine eE2 (fn := f68) (n := 9) rfl rfl fun s hs h0 h1 => ?_
 simp only [f68]
 have x1 := HExt.push h' (.box [txt k, .cv c] false)
 have e1 : (h' ++ [VO.box [txt k, .cv c] false])[h'.length]? = some (.box [txt k, .cv c] false) := bm
 have l1 : ldO (h' ++ [VO.box [txt k, .cv c] false]) false 1 (.ptr h'.length 0) = some (txt k, h' ++ [VO.box [txt k, .cv c] false]) := ba e1 rfl
 have l2 : ldO (h' ++ [VO.box [txt k, .cv c] false]) false 1 (.ptr p 0) = some (txt key, h' ++ [VO.box [txt k, .cv c] false]) := ba (x1.get hp') rfl
 simp only [go_sem, seval, hs, h0, h1]
 rw [xg (show [txt k, .cv c].length = 2 from rfl)]
 simp only [go_sem, seval, hs, l1, l2, ag9, h1]
 exact ⟨trivial, x1⟩
theorem Wk {p : Nat} {key : List UInt8} : Tells (wn p key) 69 [.ptr p 0] (fun r => Op.bytesLess key r.1) := by
 refine ⟨by decide, wn.ext, wn.set, fun h' k l c hx hc => ?_⟩
 obtain ⟨c1, c2, hp'⟩ := hx
 show Ret F 69 [.agg [txt k, .cv c], .ptr p 0] h' _
 refine eE2 (fn := f69) (n := 9) rfl rfl fun s hs h0 h1 => ?_
 simp only [f69]
 have x1 := HExt.push h' (.box [txt k, .cv c] false)
 have e1 : (h' ++ [VO.box [txt k, .cv c] false])[h'.length]? = some (.box [txt k, .cv c] false) := bm
 have l1 : ldO (h' ++ [VO.box [txt k, .cv c] false]) false 1 (.ptr h'.length 0) = some (txt k, h' ++ [VO.box [txt k, .cv c] false]) := ba e1 rfl
 have l2 : ldO (h' ++ [VO.box [txt k, .cv c] false]) false 1 (.ptr p 0) = some (txt key, h' ++ [VO.box [txt k, .cv c] false]) := ba (x1.get hp') rfl
 simp only [go_sem, seval, hs, h0, h1]
 rw [xg (show [txt k, .cv c].length = 2 from rfl)]
 simp only [go_sem, seval, hs, l1, l2, ajc, h1]
 exact ⟨trivial, x1⟩
open Go Go.Vm
theorem Aw (p : KV -> Bool) : ∀ (l : List KV) (i : Nat), (Mz p i l = -1 /\ ∀ r ∈ l, p r = false) \/ ∃ k r, Mz p i l = ((i + k : Nat) : Int) /\ l[k]? = some r /\ p r = true /\ ∀ r ∈ l.take k, p r = false
 | [], i => .inl ⟨rfl, fun r h => by simp at h⟩
 | r :: l, i => by
  unfold Mz
  cases hp : p r with
  | true => exact .inr ⟨0, r, by simp, rfl, hp, fun _ h => by simp at h⟩
  | false =>
   rw [if_neg (by decide)]
   rcases Aw p l (i + 1) with ⟨e, h⟩ | ⟨k, q, e, h1, h2, h3⟩
   ·refine .inl ⟨e, fun q hq => ?_⟩
    rcases List.mem_cons.1 hq with rfl | hq
    ·exact hp
    ·exact h q hq
   ·refine .inr ⟨k + 1, q, by rw [e]; omega, by simpa using h1, h2, fun q hq => ?_⟩
    rw [List.take_succ_cons] at hq
    rcases List.mem_cons.1 hq with rfl | hq
    ·exact hp
    ·exact h3 q hq
theorem Ag {p : KV -> Bool} {l : List KV} (h : ∀ r ∈ l, p r = false) : l.filter (fun r => !p r) = l := by
 rw [List.filter_eq_self]
 intro r hr; rw [h r hr]; rfl
theorem aea {F : Nat -> Option FnIR} {z id g off len : Nat} {zero : List CV} {x : Opd} {s : List VV} {h : ah} {d : Option Nat} {r : List Op1} {Q : Pst} {ex : Bool} {full : List (List CV)} (hx : ae s x = .own id g off len ex) (ho : h[id]? = some (.arr z full g false)) (hl : off + len <= full.length)
  (hk : XO F r ⟨de s d .undef, h.set id (.arr z (am full off (List.replicate len zero)) g false)⟩ Q) : XO F (⟨none, d, .clr z zero x⟩ :: r) ⟨s, h⟩ Q := by
 have e : ai h (ae s) (.clr z zero x) = some (.undef, h.set id (.arr z (am full off (List.replicate len zero)) g false)) := by
  simp [ai, hx, ho, hl]
 rw [gx rfl, e, kj]
 exact hk
theorem On {e : List CV} {r : KV} (h : ajp e r) : e.length = 2 := by
 obtain ⟨c, rfl, _⟩ := h; rfl
section
variable {els : List (List CV)} {l : List KV} {h0 : ah} {f : Nat} {caps : List VV} {p : KV -> Bool} {B : ah -> Prop}
theorem f67_loop (hR : RowsE els l) (hl : l.length <= 1000000000) (ht : Tells B f caps p) {id g : Nat} (hid : h0.length <= id) :
  ∀ (m i j : Nat) (full elsK : List (List CV)) (s : List VV) (h : ah) (Q : Pst), j + m = l.length -> i <= j -> HExt h0 h -> B h -> h[id]? = some (.arr 2 full g false) -> l.length <= full.length -> full.take i = elsK -> elsK.length = i -> RowsE elsK ((l.take j).filter (fun r => !p r)) -> (∀ t, j <= t -> t < l.length -> full[t]? = els[t]?) -> (∀ t, t < l.length -> ∃ e, full[t]? = some e /\ e.length = 2) ->
   s.length = 42 -> s.getD 0 .undef = .own id g 0 l.length false -> s.getD 1 .undef = .func f caps -> s.getD 5 .undef = vi .i64 i -> s.getD 6 .undef = vi .i64 j ->
   (∀ s' h' i' full' elsK', s'.length = 42 -> HExt h0 h' -> B h' -> i' <= l.length -> h'[id]? = some (.arr 2 full' g false) -> l.length <= full'.length -> full'.take i' = elsK' -> elsK'.length = i' -> RowsE elsK' (l.filter (fun r => !p r)) -> s'.getD 0 .undef = .own id g 0 l.length false -> s'.getD 5 .undef = vi .i64 i' -> Q (.exit 0) ⟨s', h'⟩) -> X F (.loop f67_1) ⟨s, h⟩ Q := by
 intro m
 have hpl := hR.len
 induction m with
 | zero =>
  intro i j full elsK s h Q hj hij hx hB ha hfl htk hkl hRK hfr hlen hs e0 e1 e5 e6 hQ
  have c : ¬ ((j : Nat) : Int) < (l.length : Int) := by omega
  have hd : l.take j = l := List.take_of_length_le (by omega)
  rw [hd] at hRK
  rw [az, bf f67_1.eq_1]
  simp only [go_sem, seval, hs, e6, e0, c]
  exact hQ _ h i full elsK (by simp only [ad, hs]) hx hB (by omega) ha hfl htk hkl hRK (by simp only [go_sem, seval, e0]) (by simp only [go_sem, seval, e5])
 | succ m ih =>
  intro i j full elsK s h Q hj hij hx hB ha hfl htk hkl hRK hfr hlen hs e0 e1 e5 e6 hQ
  have c : ((j : Nat) : Int) < (l.length : Int) := by omega
  obtain ⟨e, r, he, hr, cc, rfl, hc⟩ := hR.get (i := j) (by omega)
  have htake : l.take (j + 1) = l.take j ++ [r] := by
   obtain ⟨la, e⟩ := List.getElem?_eq_some_iff.1 hr
   rw [List.take_succ_eq_append_getElem la, e]
  have hfj : full[j]? = some [.sc (.string ⟨r.1.toArray⟩), cc] := by rw [hfr j (Nat.le_refl _) (by omega)]; exact he
  have ia : iaO h 2 (.own id g 0 l.length false) (vi .i64 (j : Int)) = some (.eptr id g (0 + j) 0, h) := Ab (by omega) ha (by simpa using by omega)
  rw [Nat.zero_add] at ia
  have la : ldO h true 2 (.eptr id g j 0) = some (.agg [txt r.1, .cv cc], h) := oc ha hfj rfl
  have hwj : IntKind.i64.wrap ((j : Int) + 1) = ((j + 1 : Nat) : Int) := by rw [IntWalk.i64_in _ (by omega)]; omega
  have hwi : IntKind.i64.wrap ((i : Int) + 1) = ((i + 1 : Nat) : Int) := by rw [IntWalk.i64_in _ (by omega)]; omega
  have stb : ∀ a b : VV, stO (h ++ [.box [a, b] false]) 2 (.ptr h.length 0) (.agg [txt r.1, .cv cc]) = some (.undef, h ++ [.box [txt r.1, .cv cc] false]) := fun a b => abj
  have x1 := HExt.push h (.box [txt r.1, .cv cc] false)
  have b1 : (h ++ [VO.box [txt r.1, .cv cc] false])[h.length]? = some (.box [txt r.1, .cv cc] false) := bm
  have lb := Aj (n := 2) b1 rfl
  obtain ⟨v, g1, n1, rfl, x2⟩ := ht.call _ r.1 r.2 cc (ht.ext _ _ x1 hB) hc
  have hB1 := ht.ext _ _ (x1.trans x2) hB
  have ha1 := (x1.trans x2).get ha
  have b2 := x2.get b1
  have lb2 := Aj (n := 2) b2 rfl
  have hx1 := (hx.trans x1).trans x2
  rw [az, bf f67_1.eq_1]
  simp only [go_sem, seval, hs, e6, e0, c, ia, la, stb, lb, e1, List.map]
  refine Az (f := f) (caps := caps) (by simp only [go_sem, seval, hs]) (by simp only [List.map, go_sem, seval, hs]; exact n1) ?_ ht.lt
  cases hp : p r with
  | true =>
   simp only [go_sem, seval, hs, show p (r.1, r.2) = true from hp, e6, hwj]
   refine ih i (j + 1) full elsK _ _ Q (by omega) (by omega) hx1 hB1 ha1 hfl htk hkl (by rw [htake, List.filter_append]; simpa [hp] using hRK) (fun t h1 h2 => hfr t (by omega) h2) hlen (by simp only [ad, hs]) (by simp only [go_sem, seval, e0]) (by simp only [go_sem, seval, e1]) (by simp only [go_sem, seval, e5]) (by simp only [go_sem, seval, hs]) hQ
  | false =>
   have ia2 : iaO g1 2 (.own id g 0 l.length false) (vi .i64 (i : Int)) = some (.eptr id g (0 + i) 0, g1) := Ab (by omega) ha1 (by simpa using by omega)
   rw [Nat.zero_add] at ia2
   obtain ⟨ei, hei, heil⟩ := hlen i (by omega)
   have st2 : stO g1 2 (.eptr id g i 0) (.agg [txt r.1, .cv cc]) = some (.undef, g1.set id (.arr 2 (full.set i [.sc (.string ⟨r.1.toArray⟩), cc]) g false)) := Ia (cs := [.sc (.string ⟨r.1.toArray⟩), cc]) rfl ha1 hei heil
   simp only [go_sem, seval, hs, show p (r.1, r.2) = false from hp, e6, e5, e0, hwj, lb2, ia2, st2, hwi]
   refine ih (i + 1) (j + 1) (full.set i [.sc (.string ⟨r.1.toArray⟩), cc]) (elsK ++ [[.sc (.string ⟨r.1.toArray⟩), cc]]) _ _ Q (by omega) (by omega) (hx1.set hid _) (ht.set _ _ _ _ _ _ _ ha1 hB1) (List.getElem?_set_self (dp ha1)) (by rw [List.length_set]; exact hfl) ?_ (by simp; omega) ?_ ?_ ?_ (by simp only [ad, hs]) (by simp only [go_sem, seval, e0]) (by simp only [go_sem, seval, e1]) (by simp only [go_sem, seval, hs]) (by simp only [go_sem, seval, hs]) hQ
   ·have hil : i < full.length := by omega
    rw [List.take_succ_eq_append_getElem (by rw [List.length_set]; omega), List.getElem_set_self, List.take_set_of_le (Nat.le_refl _), htk]
   ·rw [htake, List.filter_append]
    simp only [List.filter_cons, hp, Bool.not_false, if_true, List.filter_nil]
    exact hRK.snoc ⟨cc, rfl, hc⟩
   ·intro t h1 h2
    rw [List.getElem?_set_ne (by omega)]
    exact hfr t (by omega) h2
   ·intro t ht2
    by_cases hti : i = t
    ·subst hti
     exact ⟨_, List.getElem?_set_self (by omega), rfl⟩
    ·rw [List.getElem?_set_ne hti]; exact hlen t ht2
theorem Qr {h : ah} {v : VV} (hv : PB h0 h 2 els v) (hR : RowsE els l) (hl : l.length ≤ 1000000000) (ht : Tells B f caps p) (hB : B h) :
    Ret F 67 [v, .func f caps] h fun v' g => B g ∧ ∃ els', PB h0 g 2 els' v' ∧ RowsE els' (l.filter (fun r => !p r)) := by
  have hpl := hR.len
  obtain ⟨v33, g1, n33, rfl, x1⟩ := Hp hv.vf hR hl ht hB
  have hv1 := hv.then x1
  have hB1 := ht.ext _ _ x1 hB
  refine eE2 (fn := f67) (n := 42) rfl rfl fun s hs h0 h1 => ?_
  simp only [f67]
  simp only [go_sem, seval, hs, h0, h1]
  refine ao (by simp only [List.map, go_sem, seval, hs]; exact n33) ?_
  simp only [go_sem, seval, hs]
  rw [bf f67_0.eq_1]
  rcases Aw p l 0 with ⟨e, hno⟩ | ⟨k, r, e, hk1, hk2, hk3⟩
  · have e' : Mz p 0 l = -1 := e
    simp only [go_sem, seval, hs, e', h0]
    exact ⟨hB1, els, hv1, by rw [Ag hno]; exact hR⟩
  · have hkl := (List.getElem?_eq_some_iff.1 hk1).1
    rw [Nat.zero_add] at e
    have c1 : ¬ Mz p 0 l = -1 := by omega
    have hwk : IntKind.i64.wrap ((k : Int) + 1) = ((k + 1 : Nat) : Int) := by rw [IntWalk.i64_in _ (by omega)]; omega
    rcases hv1.v with ⟨e0, _⟩ | ⟨e0, _⟩ | ⟨id, g, full, hid, rfl, a2, a3, a4⟩
    · rw [e0] at hpl; simp at hpl; omega
    · rw [e0] at hpl; simp at hpl; omega
    simp only [go_sem, seval, hs, c1, e, hwk]
    have hfr : ∀ t, t < l.length → full[t]? = els[t]? := fun t ht => by
      rw [a4, List.getElem?_take, if_pos (by omega)]
    refine f67_loop hR hl ht hid (l.length - (k + 1)) k (k + 1) full (els.take k) _ _ _ (by omega) (by omega) hv1.ext hB1 a2 (by omega) (by rw [a4, List.take_take, Nat.min_eq_left (by omega)]) (by rw [List.length_take]; omega) ?_ (fun t _ h2 => hfr t h2) (fun t h2 => ?_) (by simp only [ad, hs]) (by simp only [go_sem, seval, h0, hpl]) (by simp only [go_sem, seval, h1]) (by simp only [go_sem, seval, hs]) (by simp only [go_sem, seval, hs]) (fun s' h' i' full' elsK' b0 b1 b2 b3 b4 b5 b6 b7 b8 b9 b10 => ?_)
    · rw [List.take_succ_eq_append_getElem hkl, List.filter_append, Ag hk3]
      have : l[k] = r := (List.getElem?_eq_some_iff.1 hk1).2
      rw [this]
      simp only [List.filter_cons, hk2, Bool.not_true, Bool.false_eq_true, if_false, List.filter_nil, List.append_nil]
      exact Ad hR k
    · obtain ⟨e1, r1, he1, _, hr1⟩ := hR.get h2
      exact ⟨e1, by rw [hfr t h2]; exact he1, On hr1⟩
    · have sl1 : slO h' 2 (.own id g 0 l.length false) (some (vi .i64 (i' : Int))) none none = some (.own id g (0 + i') (l.length - i') false, h') := by
        have : (i' : Int) ≤ (l.length : Int) := by omega
        simp [slO, ai, me, lx, bnd, pc, this, b4]
      simp only [go_sem, seval, b0, b9, b10, sl1]
      refine aea (full := full') (off := 0 + i') (len := l.length - i') (ex := false) (by simp only [go_sem, seval, b0]) b4 (by omega) ?_
      have b4' := List.getElem?_set_self (a := VO.arr 2 (am full' (0 + i') (List.replicate (l.length - i') [CV.sc (.string ⟨#[]⟩), .sc (.slice none 0 0)])) g false) (dp b4)
      have hspl : (am full' (0 + i') (List.replicate (l.length - i') [CV.sc (.string ⟨#[]⟩), .sc (.slice none 0 0)])).length = full'.length := er (by simp; omega)
      have htk : (am full' (0 + i') (List.replicate (l.length - i') [CV.sc (.string ⟨#[]⟩), .sc (.slice none 0 0)])).take i' = elsK' := by
        unfold am
        rw [Nat.zero_add, List.append_assoc, List.take_append_of_le_length (by rw [List.length_take]; omega), List.take_take, Nat.min_self, b6]
      have bB := ht.set _ _ _ _ _ _ (VO.arr 2 (am full' (0 + i') (List.replicate (l.length - i') [CV.sc (.string ⟨#[]⟩), .sc (.slice none 0 0)])) g false) b4 b2
      have bX := b1.set hid (VO.arr 2 (am full' (0 + i') (List.replicate (l.length - i') [CV.sc (.string ⟨#[]⟩), .sc (.slice none 0 0)])) g false)
      generalize h'.set id (VO.arr 2 (am full' (0 + i') (List.replicate (l.length - i') [CV.sc (.string ⟨#[]⟩), .sc (.slice none 0 0)])) g false) = h2 at b4' bB bX
      have sl2 : slO h2 2 (.own id g 0 l.length false) none (some (vi .i64 (i' : Int))) none = some (.own id g 0 i' false, h2) := by
        have : (i' : Int) ≤ (l.length : Int) := by omega
        simp [slO, ai, me, lx, bnd, pc, this, b4']
      simp only [go_sem, seval, b0, b9, b10, sl2]
      exact ⟨bB, elsK', ⟨bX, .inr (.inr ⟨id, g, _, hid, by rw [b7], b4', by omega, by rw [b7, htk]⟩)⟩, b8⟩
end
open Go Go.Vm
theorem Pt {h0 h : ah} {els : List (List CV)} {v : VV} {e : List CV} {i : Nat} (hv : PB h0 h 2 els v) (hi : i <= els.length) (hl : els.length <= 100000000) :
  Ret F 70 [v, vi .i64 i, .cv (.sl 2 [e] true)] h fun v' g => PB h0 g 2 (els.take i ++ e :: els.drop i) v' := by
 have hm : cq = 35184372088832 := rfl
 have go : ∀ v' h1, ai h (ae [v, vi .i64 i, .cv (.sl 2 [e] true)]) (.ins 2 40 (.t 0) (.t 1) (.t 2)) = some (v', h1) -> PB h0 h1 2 (els.take i ++ e :: els.drop i) v' -> Ret F 70 [v, vi .i64 i, .cv (.sl 2 [e] true)] h fun v' g => PB h0 g 2 (els.take i ++ e :: els.drop i) v' := by
  intro v' h1 hs hP
  refine ej (fn := f70x) rfl ?_
  show X F (.reg [⟨none, some 2, .ins 2 40 (.t 0) (.t 1) (.t 2)⟩]) ⟨[v, vi .i64 i, .cv (.sl 2 [e] true)], h⟩ (RQ [.t 2] _)
  rw [ajo, gx rfl, hs, kj, aa1]
  exact ⟨trivial, [v'], rfl, hP⟩
 rcases hv.v with ⟨rfl, rfl⟩ | ⟨rfl, rfl⟩ | ⟨id, g, full, a1, rfl, a2, a3, a4⟩
 ·obtain rfl : i = 0 := by grind
  refine go (.own h.length 0 0 1 false) (h ++ [.arr 2 [e] 0 false]) (by simp [ai, ae, cj]) ⟨hv.ext.then _, .inr (.inr ⟨h.length, 0, [e], hv.ext.len, by simp, by simp, by simp, by simp⟩)⟩
 ·obtain rfl : i = 0 := by grind
  refine go (.own h.length 0 0 1 false) (h ++ [.arr 2 [e] 0 false]) (by simp [ai, ae]) ⟨hv.ext.then _, .inr (.inr ⟨h.length, 0, [e], hv.ext.len, by simp, by simp, by simp, by simp⟩)⟩
 ·have hid := dp a2
  have hnl : (els.take i ++ e :: els.drop i).length = els.length + 1 := by grind
  refine go (.own id (g + 1) 0 (els.length + 1) false) (h.set id (.arr 2 (els.take i ++ e :: els.drop i) (g + 1) false)) ?_ ⟨hv.ext.set a1 _, .inr (.inr ⟨id, g + 1, els.take i ++ e :: els.drop i, a1, by rw [hnl], by grind, Nat.le_refl _, by grind⟩)⟩
  have c1 : (els.length + 1) * 40 <= 35184372088832 := by omega
  have c2 : els.length + 1 <= 35184372088832 := by omega
  have c3 : (i : Int) <= (els.length : Int) := by omega
  have e0 : ae [VV.own id g 0 els.length false, vi .i64 i, .cv (.sl 2 [e] true)] (.t 0) = .own id g 0 els.length false := rfl
  have e1 : ae [VV.own id g 0 els.length false, vi .i64 i, .cv (.sl 2 [e] true)] (.t 1) = .cv (.sc (.int .i64 (i : Int))) := rfl
  have e2 : ae [VV.own id g 0 els.length false, vi .i64 i, .cv (.sl 2 [e] true)] (.t 2) = .cv (.sl 2 [e] true) := rfl
  simp only [ai, e0, e1, e2, a2, if_true, hm, a3, c1, c2, c3, and_self, Int.natCast_nonneg, Int.toNat_natCast, <- a4]
def Cf (l : List KV) (key : List UInt8) : Nat := if Mz (fun r => Op.bytesLess key r.1) 0 l < 0 then l.length else (Mz (fun r => Op.bytesLess key r.1) 0 l).toNat
def gn (l : List KV) (key : List UInt8) : List KV := l.filter (fun r => !decide (r.1 = key))
def ov (l : List KV) (x : Ch) : List KV := if x.2.2 = true then gn l x.1 else (gn l x.1).take (Cf (gn l x.1) x.1) ++ (x.1, x.2.1) :: (gn l x.1).drop (Cf (gn l x.1) x.1)
def df (l : List KV) (c : List Ch) : List KV := c.foldl ov l
theorem Sn (l : List KV) (key : List UInt8) : Cf l key <= l.length := by
 unfold Cf
 rcases Aw (fun r => Op.bytesLess key r.1) l 0 with ⟨e, _⟩ | ⟨k, r, e, h1, _, _⟩
 ·rw [e]; simp
 grind
theorem Hi (l : List KV) (key : List UInt8) : (gn l key).length <= l.length := List.length_filter_le _ _
theorem Rm (l : List KV) (x : Ch) : (ov l x).length <= l.length + 1 := by
 have h1 := Hi l x.1
 have h2 := Sn (gn l x.1) x.1
 unfold ov
 grind
theorem ajj {els : List (List CV)} {kv : List KV} (hR : RowsE els kv) (n : Nat) : RowsE (els.take n) (kv.take n) := Ad hR n
theorem aht {els : List (List CV)} {kv : List KV} (hR : RowsE els kv) (n : Nat) : RowsE (els.drop n) (kv.drop n) := by
 induction hR generalizing n with
 | nil => simp; exact .nil
 | cons h t ih =>
  cases n with
  | zero => exact .cons h t
  | succ n => exact ih n
theorem alh {l m : List (List CV)} {k j : List KV} (h : RowsE l k) (h2 : RowsE m j) : RowsE (l ++ m) (k ++ j) := by
 induction h with
 | nil => exact h2
 | cons h _ ih => exact .cons h ih
def akq (G : Prop) : Prop := ∀ (h0 h : ah) (els : List (List CV)) (v : VV) (e : List CV) (i : Nat), PB h0 h 2 els v -> i <= els.length -> e.length = 2 -> els.length <= 1000000 -> (∀ x ∈ els, x.length = 2) -> (G \/ i = els.length) ->
 Ret F 70 [v, vi .i64 i, .cv (.sl 2 [e] true)] h fun v' g => PB h0 g 2 (els.take i ++ e :: els.drop i) v'
theorem alp {G : Prop} : akq G := by
 intro h0 h els v e i hv hi he hl _ _
 exact Pt hv hi (by omega)
section
variable {G : Prop} {cs : List Ch} {elsC : List (List CV)} {uc : VV} {h0 : ah}
theorem f39_loop (hI : akq G) (hC : ChsE elsC cs) (huc : SlV 3 elsC uc) (hcl : cs.length <= 100000) (hval : ∀ x ∈ cs, x.2.1.length <= 1000000000) :
  ∀ (m i : Nat) (l : List KV) (els : List (List CV)) (v : VV) (s : List VV) (h : ah) (Q : Pst), i + m = cs.length -> l.length <= 100000 + i -> PB h0 h 2 els v -> RowsE els l ->
   (G \/ ∀ c1 x c2, cs.drop i = c1 ++ x :: c2 -> x.2.2 = false -> Cf (gn (df l c1) x.1) x.1 = (gn (df l c1) x.1).length) ->
   s.length = 41 -> s.getD 5 .undef = v -> s.getD 11 .undef = uc -> s.getD 12 .undef = vi .i64 cs.length -> s.getD 13 .undef = vi .i64 i ->
   (∀ s' h' els' v', s'.length = 41 -> s'.getD 5 .undef = v' -> PB h0 h' 2 els' v' -> RowsE els' (df l (cs.drop i)) -> Q (.exit 0) ⟨s', h'⟩) -> X F (.loop f39_3) ⟨s, h⟩ Q := by
 intro m
 have hpl := hC.len
 induction m with
 | zero =>
  intro i l els v s h Q hi hll hP hR hG hs e5 e11 e12 e13 hQ
  have c : ¬ ((i : Nat) : Int) < (cs.length : Int) := by omega
  have hd : cs.drop i = [] := List.drop_eq_nil_of_le (by omega)
  rw [hd] at hQ
  rw [az, bf f39_3.eq_1]
  simp only [go_sem, seval, hs, e13, e12]
  rw [bf f39_0.eq_1]
  simp only [go_sem, seval, hs, c]
  exact hQ _ _ els v (by simp only [ad, hs]) (by simp only [go_sem, seval, e5]) hP hR
 | succ m ih =>
  intro i l els v s h Q hi hll hP hR hG hs e5 e11 e12 e13 hQ
  have c : ((i : Nat) : Int) < (cs.length : Int) := by omega
  obtain ⟨e, x, he, hx, cc, rfl, hcx⟩ := hC.get (i := i) (by omega)
  have hd : cs.drop i = x :: cs.drop (i + 1) := by
   obtain ⟨la, e⟩ := List.getElem?_eq_some_iff.1 hx
   rw [List.drop_eq_getElem_cons la, e]
  rw [hd] at hQ hG
  have hap : df l (x :: cs.drop (i + 1)) = df (ov l x) (cs.drop (i + 1)) := rfl
  rw [hap] at hQ
  have ia : iaO h 3 uc (vi .i64 (i : Int)) = some (.rptr [.sc (.string ⟨x.1.toArray⟩), cc, .sc (.bool x.2.2)], h) := huc.ia (by omega) (by rw [Int.toNat_natCast]; exact he)
  have la : ldO h true 3 (.rptr [.sc (.string ⟨x.1.toArray⟩), cc, .sc (.bool x.2.2)]) = some (.agg [txt x.1, .cv cc, .cv (.sc (.bool x.2.2))], h) := aa0
  have stb : ∀ a b c : VV, stO (h ++ [.box [a, b, c] false]) 3 (.ptr h.length 0) (.agg [txt x.1, .cv cc, .cv (.sc (.bool x.2.2))]) = some (.undef, h ++ [.box [txt x.1, .cv cc, .cv (.sc (.bool x.2.2))] false]) := fun a b c => abr
  have x1 := HExt.push h (.box [txt x.1, .cv cc, .cv (.sc (.bool x.2.2))] false)
  have b1 : (h ++ [VO.box [txt x.1, .cv cc, .cv (.sc (.bool x.2.2))] false])[h.length]? = some (.box [txt x.1, .cv cc, .cv (.sc (.bool x.2.2))] false) := bm
  have hw13 : IntKind.i64.wrap ((i : Int) + 1) = ((i + 1 : Nat) : Int) := by rw [IntWalk.i64_in _ (by omega)]; omega
  have hll' := hR.len
  obtain ⟨v1, g1, n1, B1, els1, P1, R1⟩ := Qr (B := fun g => g[h.length]? = some (.box [txt x.1, .cv cc, .cv (.sc (.bool x.2.2))] false)) (p := fun r => decide (r.1 = x.1)) (f := 68) (caps := [.ptr h.length 0]) (hP.then x1) hR (by omega)
   ⟨(by decide), fun _ _ e b => e.get b, fun hh id z els g fr o ho b => by rw [List.getElem?_set_ne (by rintro rfl; rw [ho] at b; cases b)]; exact b, fun hh k l c b hc => Ti.call hh k l c ⟨_, _, b⟩ hc⟩ b1
  have l20 : ldO g1 false 1 (.ptr h.length 2) = some (.cv (.sc (.bool x.2.2)), g1) := ba B1 rfl
  have hlk : l.filter (fun r => !decide (r.1 = x.1)) = gn l x.1 := rfl
  rw [hlk] at R1
  have hlen1 := Hi l x.1
  rw [az, bf f39_3.eq_1]
  simp only [go_sem, seval, hs, e13, e12]
  rw [bf f39_0.eq_1]
  simp only [go_sem, seval, hs, c, e11, e13, ia, la, stb, e5, List.map]
  refine ao (by simp only [List.map, go_sem, seval, hs]; exact n1) ?_
  simp only [go_sem, seval, hs]
  rw [bf f39_1.eq_1]
  cases hg : x.2.2 with
  | true =>
   have hst : ov l x = gn l x.1 := by unfold ov; rw [if_pos hg]
   rw [hst] at hQ
   rw [hg] at l20
   simp only [go_sem, seval, hs, l20, e13, hw13]
   refine ih (i + 1) (gn l x.1) els1 v1 _ _ Q (by omega) (by omega) P1 R1 ?_ (by simp only [ad, hs]) (by simp only [go_sem, seval, hs]) (by simp only [go_sem, seval, e11]) (by simp only [go_sem, seval, e12]) (by simp only [go_sem, seval, hs]) hQ
   rcases hG with hG | hG
   ·exact .inl hG
   ·refine .inr fun c1 y c2 e1 e2 => ?_
    have := hG (x :: c1) y c2 (by rw [e1]; rfl) e2
    rwa [show df l (x :: c1) = df (gn l x.1) c1 by show df (ov l x) c1 = _; rw [hst]] at this
  | false =>
   have hst : ov l x = (gn l x.1).take (Cf (gn l x.1) x.1) ++ (x.1, x.2.1) :: (gn l x.1).drop (Cf (gn l x.1) x.1) := by unfold ov; rw [if_neg (by rw [hg]; decide)]
   rw [hg] at l20 B1
   obtain ⟨v33, g2, n33, rfl, x2⟩ := Hp (B := wn h.length x.1) P1.vf R1 (by omega) Wk ⟨_, _, B1⟩
   have P2 := P1.then x2
   have B2 := x2.get B1
   have hl1 := R1.len
   simp only [go_sem, seval, hs, l20]
   refine ao (by simp only [List.map, go_sem, seval, hs]; exact n33) ?_
   simp only [go_sem, seval, hs]
   -- the place
   refine mid (P := fun st => st.h = g2 /\ st.s.length = 41 /\ st.s.getD 5 .undef = v1 /\ st.s.getD 7 .undef = .ptr h.length 0 /\ st.s.getD 8 .undef = vi .i64 (Cf (gn l x.1) x.1 : Nat) /\ st.s.getD 11 .undef = uc /\ st.s.getD 12 .undef = vi .i64 cs.length /\ st.s.getD 13 .undef = vi .i64 i) ?_ ?_
   ·rw [bf f39_2.eq_1]
    by_cases d : Mz (fun r => Op.bytesLess x.1 r.1) 0 (gn l x.1) < 0
    ·have hp : Cf (gn l x.1) x.1 = els1.length := by unfold Cf; rw [if_pos d, hl1]
     simp only [go_sem, seval, hs, d, P2.vf.ln, hp, e11, e12, e13, and_self]
    ·have hp : Mz (fun r => Op.bytesLess x.1 r.1) 0 (gn l x.1) = ((Cf (gn l x.1) x.1 : Nat) : Int) := by unfold Cf; rw [if_neg d]; omega
     have d' : ¬ ((Cf (gn l x.1) x.1 : Nat) : Int) < 0 := by omega
     rw [hp]
     simp only [go_sem, seval, hs, d', e11, e12, e13, and_self]
   ·rintro ⟨s1, g2'⟩ ⟨e, hs1, ff5, ff7, ff8, ff11, ff12, ff13⟩
    dsimp only at e hs1 ff5 ff7 ff8 ff11 ff12 ff13
    subst e
    have lk : ldO g2' false 1 (.ptr h.length 0) = some (txt x.1, g2') := ba B2 rfl
    have lv : ldO g2' false 1 (.ptr h.length 1) = some (.cv cc, g2') := ba B2 rfl
    obtain ⟨v36, h36, n36, w36, r36, S36⟩ := Cp hcx (hval x (List.mem_of_getElem? hx))
    obtain ⟨c36, rfl⟩ : ∃ c2, w36 = .cv c2 := by rcases S36 with ⟨rfl, _⟩ | ⟨ex, rfl⟩ <;> exact ⟨_, rfl⟩
    have bd : ∀ c : CV, bdO [.cv (.sc (.string ⟨#[]⟩)), .cv (.sc (.slice none 0 0))] [(0, 1, txt x.1), (1, 1, .cv c)] = some (.agg [txt x.1, .cv c]) := fun c => rfl
    have mk : mkO g2' 2 1 [.cv (.sc (.string ⟨#[]⟩)), .cv (.sc (.slice none 0 0))] [(0, 2, .agg [txt x.1, .cv c36])] = some (.cv (.sl 2 [[.sc (.string ⟨x.1.toArray⟩), c36]] true), g2') := Kj
    have hpl := Sn (gn l x.1) x.1
    have hGi : G \/ Cf (gn l x.1) x.1 = els1.length := by
     rcases hG with hG | hG
     ·exact .inl hG
     ·exact .inr (by rw [hl1]; exact hG [] x _ rfl hg)
    obtain ⟨v35, g5, n35, P5⟩ := hI h0 g2' els1 v1 [.sc (.string ⟨x.1.toArray⟩), c36] (Cf (gn l x.1) x.1) P2 (by omega) rfl (by omega) (fun y hy => by
     obtain ⟨k, hk⟩ := List.mem_iff_getElem?.1 hy
     obtain ⟨e1, r1, he1, _, hr1⟩ := R1.get (i := k) (by have := (List.getElem?_eq_some_iff.1 hk).1; omega)
     rw [hk] at he1; cases he1; exact On hr1) hGi
    refine mu rfl ?_
    simp only [go_sem, seval, hs1, ff5, ff7, ff8, lk, lv]
    refine ux (by simp only [List.map, go_sem, seval, hs1]; exact hcx.clos rfl) n36 r36 ?_
    simp only [go_sem, seval, hs1, bd, mk]
    refine qe (by simp only [List.map, go_sem, seval, hs1]; exact n35) ?_
    simp only [go_sem, seval, hs1, ff13, hw13]
    rw [hst] at hQ
    refine ih (i + 1) ((gn l x.1).take (Cf (gn l x.1) x.1) ++ (x.1, x.2.1) :: (gn l x.1).drop (Cf (gn l x.1) x.1)) _ v35 _ _ Q (by omega) ?_ P5 (alh (ajj R1 _) (.cons ⟨c36, rfl, S36⟩ (aht R1 _))) ?_ (by simp only [ad, hs1]) (by simp only [go_sem, seval, hs1]) (by simp only [go_sem, seval, ff11]) (by simp only [go_sem, seval, ff12]) (by simp only [go_sem, seval, hs1]) hQ
    ·have := Rm l x
     rw [hst] at this; omega
    ·rcases hG with hG | hG
     ·exact .inl hG
     ·refine .inr fun c1 y c2 e1 e2 => ?_
      have := hG (x :: c1) y c2 (by rw [e1]; rfl) e2
      rwa [show df l (x :: c1) = df ((gn l x.1).take (Cf (gn l x.1) x.1) ++ (x.1, x.2.1) :: (gn l x.1).drop (Cf (gn l x.1) x.1)) c1 by show df (ov l x) c1 = _; rw [hst]] at this
theorem Gr (hI : akq G) {els : List (List CV)} {l : List KV} {u : VV} (hu : SlV 2 els u) (hR : RowsE els l) (hl : l.length <= 100000) (hC : ChsE elsC cs) (huc : SlV 3 elsC uc) (hcl : cs.length <= 100000) (hval : ∀ x ∈ cs, x.2.1.length <= 1000000000)
  (hG : G \/ ∀ c1 x c2, cs = c1 ++ x :: c2 -> x.2.2 = false -> Cf (gn (df l c1) x.1) x.1 = (gn (df l c1) x.1).length) :
  Cc F 39 [u, uc] fun w => ∃ els', SlV 2 els' w /\ RowsE els' (df l cs) := by
 have : Ret F 39 [u, uc] [] fun v g => ∃ els', PB [] g 2 els' v /\ RowsE els' (df l cs) := by
  have hll := hR.len
  obtain ⟨v30, g30, n30, P30⟩ := Cu (h := []) hu.vf (by omega)
  refine ej (fn := f39) rfl ?_
  simp only [f39]
  generalize hs0 : ([u, uc] ++ List.replicate _ VV.undef : List VV) = s
  have hs : s.length = 41 := by grind
  have h0 : s.getD 0 .undef = u := by grind
  have h1 : s.getD 1 .undef = uc := by grind
  clear hs0
  have hpl := hC.len
  simp only [go_sem, seval, hs, h0]
  refine ao (by simp only [List.map, go_sem, seval, hs]; exact n30) ?_
  simp only [go_sem, Nat.reduceLT, Nat.reduceEqDiff, reduceCtorEq, Int.reduceLT, Int.reduceEq, hs, h1, huc.ln, hpl]
  refine f39_loop hI hC huc hcl hval cs.length 0 l els v30 _ _ _ (by omega) (by omega) P30 hR (by grind) (by grind) (by grind) (by grind) (by grind) (by grind) (fun s' h' els' v' a1 a2 a3 a4 => ?_)
  rw [List.drop_zero] at a4
  simp only [go_sem, seval, a1, a2]
  grind
 obtain ⟨v, g, n1, els', P, R⟩ := this
 obtain ⟨w, g1, c1, c2, _⟩ := P.vf.clos
 refine ⟨v, g, n1, w, ?_, els', c2, R⟩
 have hc := P.cellv
 cases v with
 | tup l => simp [eo] at hc
 | _ => simp only [au, c1, Option.map]
end
open Go Go.Vm
open Go Go.Vm
section
variable {s0 : List VV} {a b : List KV} {acc : List Ch} {g : ah} {s : List VV} {Q : Pst}
end
open Go Go.Vm
section
variable {s0 : List VV} {a b : List KV} {acc : List Ch} {g : ah} {s : List VV} {Q : Pst}
end
open Go Go.Vm
theorem Va (a r : List UInt8) (p : Ch) (h1 : p.1.length <= 30) (h2 : p.2.1.length <= 150) (h3 : p.2.2 = true -> p.2.1 = []) : dw (a ++ chB p ++ r) a.length = (aa2 p, a.length + (chB p).length, 0) := by
 obtain ⟨k, v, g⟩ := p
 cases g with
 | true =>
  have e1 : bc (a ++ chB (k, v, true) ++ r) a.length 30 = (k, a.length + (ja k).length, 0) := by
   have := lg a ([1] ++ r) k 30 (by simp at h1; omega)
   rw [if_neg (by simp at h1; omega)] at this
   rw [<- this]
   simp [chB]
  have e2 : (a ++ chB (k, v, true) ++ r)[a.length + (ja k).length]? = some 1 := by
   have : a ++ chB (k, v, true) ++ r = (a ++ ja k) ++ (1 :: r) := by simp [chB]
   rw [this, <- List.length_append, List.getElem?_append_right (Nat.le_refl _), Nat.sub_self]; rfl
  unfold dw
  rw [e1]
  simp only [ne_eq, not_true_eq_false, if_false]
  rw [e2]
  simp [aa2, chB, Nat.add_assoc]
 | false =>
  have e1 : bc (a ++ chB (k, v, false) ++ r) a.length 30 = (k, a.length + (ja k).length, 0) := by
   have := lg a ([0] ++ ja v ++ r) k 30 (by simp at h1; omega)
   rw [if_neg (by simp at h1; omega)] at this
   rw [<- this]
   simp [chB]
  have e2 : (a ++ chB (k, v, false) ++ r)[a.length + (ja k).length]? = some 0 := by
   have : a ++ chB (k, v, false) ++ r = (a ++ ja k) ++ (0 :: (ja v ++ r)) := by simp [chB]
   rw [this, <- List.length_append, List.getElem?_append_right (Nat.le_refl _), Nat.sub_self]; rfl
  have e3 : bc (a ++ chB (k, v, false) ++ r) ((a.length + (ja k).length + 1 : Nat) : Int) 150 = (v, a.length + (ja k).length + 1 + (ja v).length, 0) := by
   have := lg (a ++ ja k ++ [0]) r v 150 (by simp at h2; omega)
   rw [if_neg (by simp at h2; omega)] at this
   have el : (a ++ ja k ++ [0]).length = a.length + (ja k).length + 1 := by simp; omega
   rw [el] at this
   rw [<- this]
   simp [chB]
  unfold dw
  rw [e1]
  simp only [ne_eq, not_true_eq_false, if_false]
  rw [e2]
  simp only [e3]
  simp [aa2, chB, Nat.add_assoc]
  omega
theorem Bz : ∀ (kv : List Ch) (a r : List UInt8) (out : List (List CV)), sr kv ->
  iz (dw (a ++ nz kv ++ r)) kv.length a.length out = (out ++ tn kv, a.length + (nz kv).length, 0)
 | [], a, r, out, _ => by simp [iz, tn, nz]
 | p :: kv, a, r, out, h => by
  obtain ⟨h1, h2, h3⟩ := h p (by simp)
  have e1 : dw (a ++ nz (p :: kv) ++ r) a.length = (aa2 p, a.length + (chB p).length, 0) := by
   have := Va a (nz kv ++ r) p h1 h2 h3
   rw [<- this, mc]
   simp only [List.append_assoc]
  have e2 := Bz kv (a ++ chB p) r (out ++ [aa2 p]) (fun q hq => h q (by simp [hq]))
  rw [List.length_append] at e2
  simp only [List.length_cons, iz]
  rw [e1]
  simp only [ne_eq, not_true_eq_false, if_false]
  have e3 : a ++ nz (p :: kv) ++ r = a ++ chB p ++ nz kv ++ r := by rw [mc]; simp only [List.append_assoc]
  rw [e3, e2]
  simp only [tn, List.map_cons, mc, List.length_append, List.append_assoc, List.singleton_append, Nat.add_assoc]
theorem Pz (kv : List Ch) (hf : sr kv) (hk : kv.length <= 5000) : ij (dw (gu kv)) (gu kv) = (tn kv, 0) := by
 have hc : ju (kv.length : Int) = kv.length := sb _ (by omega)
 have e0 : gu kv = num kv.length ++ nz kv ++ [] := by unfold gu; rw [hc]; simp [nz]
 have e1 : bv (gu kv) 0 = (kv.length, (num kv.length).length, 0) := by
  rw [e0]
  have := Bx [] (nz kv ++ []) kv.length (by omega)
  simpa using this
 have e2 := Bz kv (num kv.length) [] [] hf
 rw [<- e0] at e2
 unfold ij
 rw [e1]
 simp only [ne_eq, not_true_eq_false, if_false]
 rw [if_neg (by omega), e2]
 have e4 : ¬ (num kv.length).length + (nz kv).length < (gu kv).length := by rw [e0]; simp
 simp only [List.nil_append, not_true_eq_false, if_false, e4]
theorem Lv (kv : List Ch) : gu kv ≠ [] := by
 unfold gu
 intro e
 exact Vu _ (List.append_eq_nil_iff.1 e).1
section
variable {epoch n i of_ : Nat} {p : List UInt8}
theorem Md (h : p.length <= 49) : kOf (jz epoch n i of_ p) = p.length := by
 have : (jz epoch n i of_ p).getD 10 0 = u8 p.length := by simp [jz, Bn, np, wd]
 unfold kOf
 rw [this, nj _ (by omega)]
theorem Wp (h : of_ < 256) : Lu (jz epoch n i of_ p) = of_ := by rw [Zo]; omega
theorem Il (h : p.length <= 49) : mn (jz epoch n i of_ p) = p := by
 unfold mn
 rw [Md h]
 have hl : (wd epoch ++ wd n ++ [u8 i, u8 of_, u8 p.length]).length = 11 := by simp [wd]
 have e : jz epoch n i of_ p = (wd epoch ++ wd n ++ [u8 i, u8 of_, u8 p.length]) ++ (p ++ (List.replicate (49 - p.length) 0 ++ le4 (crc (Bn epoch n i of_ p)))) := by
  unfold jz np
  conv => lhs; unfold Bn
  simp only [List.append_assoc]
  rfl
 rw [e, List.drop_append, List.drop_of_length_le (by omega), hl, Nat.sub_self, List.drop_zero, List.nil_append, List.take_left]
theorem adj (h : p.length <= 49) (h1 : 1 <= p.length) (h2 : 1 <= of_) (h3 : of_ <= 200) (h4 : of_ <= i + 1 \/ p.length = 49) : oj epoch n i of_ (jz epoch n i of_ p) := by
 refine ⟨Hw h, ?_, ?_, h2, h3, ?_, ?_⟩
 ·rw [Md h]; exact h1
 ·rw [Md h]; exact h
 ·rw [Md h]; exact h4
 ·rw [Il h]
theorem Qn {epoch' n' i' of' : Nat} (h : wd epoch ≠ wd epoch' \/ wd n ≠ wd n') : ¬ oj epoch n i of_ (jz epoch' n' i' of' p) := by
 intro hh
 have e := hh.2.2.2.2.2.2
 have t : ∀ {e n i o : Nat} {q : List UInt8}, (jz e n i o q).take 8 = wd e ++ wd n := by
  intro e n i o q
  simp [jz, Bn, np, wd]
 have e8 := congrArg (List.take 8) e
 rw [t, t] at e8
 obtain ⟨q1, q2⟩ := List.append_inj e8 rfl
 rcases h with h | h
 ·exact h q1
 ·exact h q2
theorem aib {a b : Nat} (ha : a < 4294967296) (hb : b < 4294967296) (h : wd a = wd b) : a = b := by
 simp only [wd, List.cons.injEq, and_true] at h
 obtain ⟨h1, h2, h3, h4⟩ := h
 have k1 := Mo (by omega) (by omega) h1
 have k2 := Mo (by omega) (by omega) h2
 have k3 := Mo (by omega) (by omega) h3
 have k4 := Mo (by omega) (by omega) h4
 omega
end
def Pcs : List (List UInt8) -> Prop
 | [] => True
 | p :: r => 1 <= p.length /\ p.length <= 49 /\ (r ≠ [] -> p.length = 49) /\ Pcs r
theorem Rg : ∀ (m : Nat) (l : List UInt8), l.length <= m -> Pcs (pcs 49 l)
 | 0, l, h => by
  have : l = [] := List.eq_nil_of_length_eq_zero (by omega)
  subst this; exact trivial
 | m + 1, l, h => by
  by_cases hl : l = []
  ·subst hl; exact trivial
  ·have h0 : 0 < l.length := List.length_pos_iff.2 hl
   rw [sj (by omega) hl]
   refine ⟨by rw [List.length_take]; omega, by rw [List.length_take]; omega, fun hne => ?_, Rg m _ (by rw [List.length_drop]; omega)⟩
   rw [List.length_take]
   by_cases hc : 49 <= l.length
   ·omega
   ·exfalso
    apply hne
    rw [List.drop_eq_nil_of_le (by omega)]; rfl
theorem Mc : ∀ (m : Nat) (l : List UInt8), l.length <= m -> (pcs 49 l).flatten = l
 | 0, l, h => by
  have : l = [] := List.eq_nil_of_length_eq_zero (by omega)
  subst this; rfl
 | m + 1, l, h => by
  by_cases hl : l = []
  ·subst hl; rfl
  ·have h0 : 0 < l.length := List.length_pos_iff.2 hl
   rw [sj (by omega) hl, List.flatten_cons, Mc m _ (by rw [List.length_drop]; omega), List.take_append_drop]
theorem Ht {epoch n of_ : Nat} (h3 : of_ <= 200) : ∀ (ps : List (List UInt8)) (m i : Nat) (acc : List UInt8) (rest : List (List UInt8)), ps ≠ [] -> Pcs ps -> i + ps.length = of_ -> of_ <= m + i ->
  frL epoch n of_ m i (li epoch n of_ i ps ++ rest) acc = some (acc ++ ps.flatten)
 | [], m, i, acc, rest, h, _, _, _ => absurd rfl h
 | p :: r, 0, i, acc, rest, _, hp, hi, hm => by simp at hi; omega
 | p :: r, m + 1, i, acc, rest, _, hp, hi, hm => by
  obtain ⟨h1, h2, h4, h5⟩ := hp
  simp only [li, List.cons_append, frL]
  have ok : oj epoch n i of_ (jz epoch n i of_ p) := by
   refine adj h2 h1 (by simp at hi; omega) h3 ?_
   by_cases hr : r = []
   ·subst hr; left; simp at hi; omega
   ·right; exact h4 hr
  rw [if_pos ok, Il h2]
  by_cases hr : r = []
  ·subst hr
   rw [if_neg (by simp at hi; omega)]; simp
  ·have hrl : 0 < r.length := List.length_pos_iff.2 hr
   rw [if_pos (by simp at hi; omega), Ht h3 r m (i + 1) _ rest hr h5 (by simp at hi; omega) (by omega)]
   simp
theorem Ix {epoch n : Nat} {l : List Ch} (hf : sr l) (hk : l.length <= 5000) (hl : (pcs 49 (gu l)).length <= 200) (rest : List (List UInt8)) :
  dx epoch n (li epoch n (pcs 49 (gu l)).length 0 (pcs 49 (gu l)) ++ rest) = (tn l, (pcs 49 (gu l)).length) := by
 have hne : pcs 49 (gu l) ≠ [] := by rw [sj (by omega) (Lv l)]; simp
 have hof : ofS (li epoch n (pcs 49 (gu l)).length 0 (pcs 49 (gu l)) ++ rest) = (pcs 49 (gu l)).length := by
  cases h : pcs 49 (gu l) with
  | nil => exact absurd h hne
  | cons p r =>
   rw [h] at hl
   show Lu (jz epoch n 0 (p :: r).length p) = _
   exact Wp (by omega)
 have e1 := Ht (epoch := epoch) (n := n) hl (pcs 49 (gu l)) 200 0 [] rest hne (Rg _ _ (Nat.le_refl _)) (by omega) (by omega)
 unfold dx sv
 rw [hof, e1]
 simp only [List.nil_append, Mc _ _ (Nat.le_refl _), Pz l hf hk, if_true]
open Go Go.Vm
theorem aex {p : Ch} (h1 : p.1.length <= 30) (h2 : p.2.1.length <= 150) : (chB p).length <= 200 := by
 have h0 := ahr p
 have a1 := qy p.1.length
 have a2 := qy p.2.1.length
 unfold ja at h0
 simp only [List.length_append] at h0
 split at h0 <;> omega
theorem Gz : ∀ l : List Ch, sr l -> (nz l).length <= 200 * l.length
 | [], _ => by simp [nz]
 | p :: l, h => by
  have h1 := h p (by simp)
  have h2 := aex h1.1 h1.2.1
  have h3 := Gz l (fun q hq => h q (by simp [hq]))
  rw [mc, List.length_append, List.length_cons]; omega
theorem Xn (l : List Ch) (h : sr l) : (gu l).length <= 8 + 200 * l.length := by
 have h1 := Gz l h
 have h2 := qy l.length
 unfold gu
 rw [List.length_append]
 unfold nz at h1
 omega
open Go Go.Vm
theorem Wo {epoch n of_ m i : Nat} {b : List UInt8} {r : List (List UInt8)} {acc : List UInt8} (h : ¬ oj epoch n i of_ b) : frL epoch n of_ (m + 1) i (b :: r) acc = none := by
 simp only [frL]
 exact if_neg h
theorem Ce {epoch n : Nat} {b : List UInt8} {r : List (List UInt8)} (h : ¬ oj epoch n 0 (Lu b) b) : dx epoch n (b :: r) = ([], 0) := by
 have : sv epoch n (b :: r) = none := by
  exact Wo (m := 199) h
 unfold dx
 rw [this]
open Go Go.Vm
open Go Go.Vm
def aq (epoch j : Nat) (l : List Ch) : List (List UInt8) := li epoch j (pcs 49 (gu l)).length 0 (pcs 49 (gu l))
def Bad (epoch : Nat) (b : List UInt8) : Prop := ∀ n i of_, ¬ oj epoch n i of_ b
theorem Nc (epoch : Nat) : Bad epoch (List.replicate 64 0) := by
 intro n i of_ h
 have := h.2.1
 have e : kOf (List.replicate 64 0) = 0 := by rfl
 omega
open Go Go.Vm
open Go Go.Vm
theorem Vt {e n of_ : Nat} : ∀ (m i : Nat) (ss : List (List UInt8)) (acc all : List UInt8), frL e n of_ m i ss acc = some all -> all.length <= acc.length + 49 * m
 | 0, i, ss, acc, all, h => by simp [frL] at h; subst h; omega
 | m + 1, i, [], acc, all, h => by simp [frL] at h
 | m + 1, i, b :: r, acc, all, h => by
  simp only [frL] at h
  split at h
  ·rename_i ok
   have hb := Oi ok.1 ok.2.2.1
   have hk := ok.2.2.1
   split at h
   ·have := Vt m (i + 1) r _ all h
    rw [List.length_append] at this; omega
   ·cases h
    rw [List.length_append]; omega
  ·cases h
theorem Vs {e n : Nat} {ss : List (List UInt8)} : ∃ kv, ChsE (dx e n ss).1 kv /\ kv.length <= 1000000 := by
 unfold dx
 split
 ·exact ⟨[], .nil, by simp⟩
 ·rename_i all ha
  split
  ·obtain ⟨kv, h1, h2⟩ := Lm all
   have := Vt 200 0 ss [] all ha
   exact ⟨kv, h1, by simp at this; omega⟩
  ·exact ⟨[], .nil, by simp⟩
theorem Rl {e : Nat} : ∀ (m n : Nat) (ss : List (List UInt8)), (∀ b ∈ (rdA e m n ss).1, ∃ kv, ChsE b kv /\ kv.length <= 1000000) /\ (rdA e m n ss).1.length <= m
 | 0, n, ss => by simp [rdA]
 | m + 1, n, ss => by
  unfold rdA
  split
  ·simp
  ·have k := Rl (e := e) m (n + 1) (ss.drop (dx e n ss).2)
   refine ⟨fun b hb => ?_, by simp only [List.length_cons]; omega⟩
   rcases List.mem_cons.1 hb with rfl | hb
   ·exact Vs
   ·exact k.1 b hb
theorem Sq (e : Int) (ss : List (List UInt8)) : (∀ b ∈ (sm e ss).1, ∃ kv, ChsE b kv /\ kv.length <= 1000000) /\ (sm e ss).1.length <= ss.length + 1 := by
 unfold sm
 split
 ·exact Rl _ _ _
 ·simp
open Go Go.Vm
open Go Go.Vm
open Go Go.Vm
open Go Go.Vm
open Go Go.Vm
open Go Go.Vm
def ab6 (l : List KV) : Prop := ∀ p ∈ l, p.1.length <= 30 /\ p.2.length <= 150
theorem rp : ∀ (m : Nat) (l : List KV) (g : List KV), g ∈ im m l -> nr 0 g = g.length
 | 0, _, g, h => by simp [im] at h
 | m + 1, l, g, h => by
  rw [im] at h
  rcases List.mem_cons.1 h with rfl | h
  ·rw [zl, List.length_take]
   have := wh l 0
   omega
  ·split at h
   ·simp at h
   ·exact rp m _ g h
theorem Sm (m : Nat) (l : List KV) : im (m + 1) l ≠ [] := by rw [im]; simp
theorem Bj : ∀ (m : Nat) (l : List KV), (im m l).flatten = l.take (uk (im m l))
 | 0, _ => by simp [im, uk]
 | m + 1, l => by
  have hf := wh l 0
  rw [im]
  split
  ·rename_i h
   rw [Hh]
   simp only [List.flatten_cons, List.flatten_nil, List.append_nil, List.length_take]
   simp only [uk, List.map_nil, List.sum_nil, Nat.add_zero]
   rw [Nat.min_eq_left hf]
  ·rw [Hh, List.flatten_cons, Bj m, List.length_take, Nat.min_eq_left hf, List.take_add]
theorem Ku (l : List KV) : ∀ g ∈ grp l, nr 0 g = g.length := fun g hg => rp _ _ g hg
theorem ab5 (l : List KV) : 1 <= (grp l).length := List.length_pos_iff.mpr (Sm _ _)
def aju (m : Nat) (b : List UInt8) : Prop := ∃ g, b = eu m g /\ nr 0 g = g.length
theorem Cr : ∀ (f n : Nat) (pg : List (List UInt8)) (l : List KV) (res : List (List UInt8)), Vr f n pg l = some res -> n + f <= 5 -> ∃ up, res = pg ++ ((grp l).map (eu n) ++ up) /\ (up = [] -> (grp l).length = 1) /\ (∀ b ∈ up, ∃ m, n < m /\ m <= 4 /\ aju m b) /\ uk (grp l) = l.length
 | 0, _, _, _, _, h, _ => by cases h
 | f + 1, n, pg, l, res, h, hn => by
  rw [Vr] at h
  split at h
  ·rename_i h1
   split at h
   ·rename_i h2
    cases h
    exact ⟨[], by rw [List.append_nil], fun _ => h2, by simp, h1⟩
   ·obtain ⟨up, e1, e2, e3, e4⟩ := Cr f (n + 1) _ _ res h (by omega)
    have hf : 1 <= f := by
     cases f with
     | zero => cases h
     | succ f => omega
    refine ⟨(grp (pq pg.length (grp l))).map (eu (n + 1)) ++ up, by rw [e1, List.append_assoc], fun e => ?_, ?_, h1⟩
    ·have := ab5 (pq pg.length (grp l))
     have h := congrArg List.length e
     rw [List.length_append, List.length_map, List.length_nil] at h
     omega
    ·intro b hb
     rcases List.mem_append.1 hb with hb | hb
     ·obtain ⟨g, hg, rfl⟩ := List.mem_map.1 hb
      exact ⟨n + 1, by omega, by omega, g, rfl, rp _ _ g hg⟩
     ·obtain ⟨m, m1, m2, m3⟩ := e3 b hb
      exact ⟨m, by omega, m2, m3⟩
  ·cases h
theorem Dr : ∀ (up : List (List UInt8)) (acc : List KV), (∀ b ∈ up, ∃ m, 0 < m /\ m <= 4 /\ aju m b) -> my up acc = (0, acc)
 | [], _, _ => rfl
 | b :: r, acc, h => by
  obtain ⟨m, m1, m2, g, rfl, hg⟩ := h b List.mem_cons_self
  rw [my, zx m2 hg]
  simp only [ne_eq, not_true_eq_false, if_false]
  rw [if_neg (by omega)]
  exact Dr r acc fun b hb => h b (List.mem_cons_of_mem _ hb)
theorem Ge : ∀ (gs : List (List KV)) (r : List (List UInt8)) (acc : List KV), (∀ g ∈ gs, nr 0 g = g.length) -> my (gs.map (eu 0) ++ r) acc = my r (acc ++ gs.flatten)
 | [], r, acc, _ => by simp
 | g :: gs, r, acc, h => by
  rw [List.map_cons, List.cons_append, my, zx (by omega) (h g List.mem_cons_self)]
  simp only [ne_eq, not_true_eq_false, if_false, if_true]
  rw [Ge gs r _ fun g hg => h g (List.mem_cons_of_mem _ hg), List.flatten_cons, List.append_assoc]
theorem nc {l : List KV} {res : List (List UInt8)} (h : dt l = some res) : ∃ up, res = (grp l).map (eu 0) ++ up /\ (up = [] -> (grp l).length = 1) /\ (∀ b ∈ up, ∃ m, 0 < m /\ m <= 4 /\ aju m b) /\ (grp l).flatten = l := by
 unfold dt at h
 split at h
 ·obtain ⟨up, e1, e2, e3, e4⟩ := Cr 5 0 [] l res h (by omega)
  refine ⟨up, by rw [e1, List.nil_append], e2, e3, ?_⟩
  have := Bj (l.length + 1) l
  unfold grp at e4 |-
  rw [this, e4, List.take_length]
 ·cases h
theorem wr {l : List KV} {res : List (List UInt8)} (h : dt l = some res) : vh res = (l, 0) := by
 obtain ⟨up, e1, e2, e3, e4⟩ := nc h
 have hA : my res [] = (0, l) := by
  rw [e1, Ge _ _ _ (Ku l), Dr _ _ e3, List.nil_append, e4]
 unfold vh
 rw [hA, if_neg (by simp), if_pos h]
theorem Ij {l : List KV} {res : List (List UInt8)} (h : dt l = some res) : (vh res.dropLast).2 ≠ 0 := by
 obtain ⟨up, e1, e2, e3, e4⟩ := nc h
 by_cases hu : up = []
 ·have h1 := e2 hu
  have : res.dropLast = [] := by
   rw [e1, hu, List.append_nil]
   apply List.eq_nil_of_length_eq_zero
   rw [List.length_dropLast, List.length_map]; omega
  rw [this]
  have hA : my [] [] = (0, []) := rfl
  unfold vh
  rw [hA, if_neg (by simp), if_neg (by rw [Vz]; simp)]
  simp
 ·have hd : res.dropLast = (grp l).map (eu 0) ++ up.dropLast := by rw [e1, List.dropLast_append_of_ne_nil hu]
  have hA : my res.dropLast [] = (0, l) := by
   rw [hd, Ge _ _ _ (Ku l), Dr _ _ fun b hb => e3 b ((List.dropLast_sublist up).subset hb), List.nil_append, e4]
  have hne : dt l ≠ some res.dropLast := by
   rw [h]
   intro e
   have e' := congrArg List.length (Option.some.inj e)
   rw [List.length_dropLast] at e'
   have : res ≠ [] := by rw [e1]; simp [hu]
   have := List.length_pos_iff.mpr this
   omega
  unfold vh
  rw [hA, if_neg (by simp), if_neg hne]
  simp
theorem Ou {l : List KV} {res : List (List UInt8)} (h : dt l = some res) : ∀ b ∈ res, ∃ m, m <= 4 /\ aju m b := by
 obtain ⟨up, e1, e2, e3, e4⟩ := nc h
 intro b hb
 rw [e1] at hb
 rcases List.mem_append.1 hb with hb | hb
 ·obtain ⟨g, hg, rfl⟩ := List.mem_map.1 hb
  exact ⟨0, by omega, g, rfl, rp _ _ g hg⟩
 ·obtain ⟨m, m1, m2, m3⟩ := e3 b hb
  exact ⟨m, m2, m3⟩
theorem mi {l : List KV} {res : List (List UInt8)} (h : dt l = some res) : ∀ b ∈ res, b.length = 256 := by
 intro b hb
 obtain ⟨m, hm, g, rfl, hg⟩ := Ou h b hb
 exact Tj hm hg
open Go Go.Vm
open Go Go.Vm
open Go Go.Vm
open Go Go.Vm
open Go Go.Vm
open Go Go.Vm
def fl (n : Nat) : Nat := FloatKind.f64.nearest n
def flw (m : Nat) : Nat := if m = 0 then 0 else (m.log2 + 1022) * 4503599627370496 + m * 2 ^ (52 - m.log2)
theorem ai6 : Ieee.double.leastPlace = -1074 := by decide +kernel
theorem abg : Ieee.double.binade = 4503599627370496 := by decide +kernel
theorem abu : Ieee.double.infRung = 9218868437227405312 := by decide +kernel
theorem ais : Ieee.double.signWeight = 9223372036854775808 := by decide +kernel
theorem qc {m k : Nat} (hm : 0 < m) : (m * 2 ^ k).log2 = m.log2 + k := by
 have h := (Nat.log2_eq_iff (n := m) (k := m.log2) (by omega)).1 rfl
 refine (Nat.log2_eq_iff (by have := Nat.mul_pos hm (Nat.two_pow_pos k); omega)).2 ⟨?_, ?_⟩
 ·rw [Nat.pow_add]; exact Nat.mul_le_mul_right _ h.1
 ·rw [show m.log2 + k + 1 = (m.log2 + 1) + k by omega, Nat.pow_add]
  exact (Nat.mul_lt_mul_right (Nat.two_pow_pos k)).2 h.2
theorem Hq (x t : Nat) (hx : t <= (x * 2 ^ t).log2 + 2) : Ieee.Toward.even.cut false (x * 2 ^ t) t = x := by
 unfold Ieee.Toward.cut
 have hmin : min t ((x * 2 ^ t).log2 + 2) = t := Nat.min_eq_left hx
 simp only [hmin, Nat.shiftLeft_eq, Nat.one_mul]
 have hp : 0 < 2 ^ t := Nat.two_pow_pos t
 simp_all
theorem Gm {m : Nat} (h : m < 2 ^ 53) : m.log2 <= 52 := by
 rcases Nat.eq_zero_or_pos m with rfl | hp
 ·decide
 ·have := (Nat.log2_lt (by omega)).2 h
  omega
theorem Rd {m : Nat} (h : m < 2 ^ 53) (k : Nat) : Ieee.double.nearest false (m * 2 ^ k) (-(k : Int)) = flw m := by
 unfold Ieee.Format.nearest flw
 rcases Nat.eq_zero_or_pos m with rfl | hp
 ·simp [Ieee.Format.word]
 have hne : m * 2 ^ k ≠ 0 := by have := Nat.mul_pos hp (Nat.two_pow_pos k); omega
 have hL := Gm h
 rw [if_neg hne, if_neg (by omega)]
 have hfb : Ieee.double.fractionBits = 52 := rfl
 simp only [qc hp, hfb, ai6, abg, abu]
 have hlast : max (-(k : Int) + ((m.log2 + k : Nat) : Int) - (52 : Nat)) (-1074) = (m.log2 : Int) - 52 := by omega
 rw [hlast]
 have hkept : Ieee.Toward.even.cut false ((m * 2 ^ k) <<< (-(k : Int) - ((m.log2 : Int) - 52)).toNat) (((m.log2 : Int) - 52) - -(k : Int)).toNat = m * 2 ^ (52 - m.log2) := by
  rw [Nat.shiftLeft_eq, Nat.mul_assoc, <- Nat.pow_add]
  by_cases c : k <= 52 - m.log2
  ·have e1 : (((m.log2 : Int) - 52) - -(k : Int)).toNat = 0 := by omega
   have e2 : k + (-(k : Int) - ((m.log2 : Int) - 52)).toNat = 52 - m.log2 := by omega
   rw [e1, e2]
   have := Hq (m * 2 ^ (52 - m.log2)) 0 (by omega)
   grind
  ·have e1 : (((m.log2 : Int) - 52) - -(k : Int)).toNat = k - (52 - m.log2) := by omega
   have e2 : k + (-(k : Int) - ((m.log2 : Int) - 52)).toNat = (52 - m.log2) + (k - (52 - m.log2)) := by omega
   rw [e1, e2, Nat.pow_add, <- Nat.mul_assoc]
   refine Hq _ _ ?_
   rw [qc (Nat.mul_pos hp (Nat.two_pow_pos _)), qc hp]
   omega
 rw [hkept]
 have hb := (Nat.log2_eq_iff (n := m) (k := m.log2) (by omega)).1 rfl
 have hup : m * 2 ^ (52 - m.log2) < 2 ^ (m.log2 + 1) * 2 ^ (52 - m.log2) := (Nat.mul_lt_mul_right (Nat.two_pow_pos _)).2 hb.2
 rw [<- Nat.pow_add, show m.log2 + 1 + (52 - m.log2) = 53 by omega] at hup
 have ew : ((m.log2 : Int) - 52 - -1074).toNat = m.log2 + 1022 := by omega
 rw [ew]
 have h53 : (2 : Nat) ^ 53 = 9007199254740992 := by decide
 have hle : (m.log2 + 1022) * 4503599627370496 + m * 2 ^ (52 - m.log2) <= 9218868437227405312 := by omega
 rw [Nat.min_eq_left hle]
 exact if_neg (by decide)
theorem agf {n : Nat} (h : n < 2 ^ 53) : fl n = flw n := by
 have := Rd h 0
 unfold fl FloatKind.nearest FloatKind.encode Ieee.Format.write FloatKind.format
 have e : decide ((n : Int) < 0) = false := by simp
 simp only [e, Int.natAbs_natCast]
 simp_all
theorem Rp {n : Nat} (h : n < 2 ^ 53) : ∃ a : Nat, Ieee.double.read (fl n) = .number false (n * 2 ^ a) (-(a : Int)) := by
 rw [agf h]
 rcases Nat.eq_zero_or_pos n with rfl | hp
 ·exact ⟨1074, by decide +kernel⟩
 refine ⟨52 - n.log2, ?_⟩
 have hL := Gm h
 have hb := (Nat.log2_eq_iff (n := n) (k := n.log2) (by omega)).1 rfl
 have hup : n * 2 ^ (52 - n.log2) < 2 ^ (n.log2 + 1) * 2 ^ (52 - n.log2) := (Nat.mul_lt_mul_right (Nat.two_pow_pos _)).2 hb.2
 rw [<- Nat.pow_add, show n.log2 + 1 + (52 - n.log2) = 53 by omega] at hup
 have hlo : 2 ^ n.log2 * 2 ^ (52 - n.log2) <= n * 2 ^ (52 - n.log2) := Nat.mul_le_mul_right _ hb.1
 rw [<- Nat.pow_add, show n.log2 + (52 - n.log2) = 52 by omega] at hlo
 have h53 : (2 : Nat) ^ 53 = 9007199254740992 := by decide
 have h52 : (2 : Nat) ^ 52 = 4503599627370496 := by decide
 rw [h53] at hup
 rw [h52] at hlo
 unfold flw
 rw [if_neg (by omega)]
 generalize hx : n * 2 ^ (52 - n.log2) = x at hup hlo |-
 unfold Ieee.Format.read
 simp only [ais, abg, abu, ai6]
 have e1 : ((n.log2 + 1022) * 4503599627370496 + x) / 9223372036854775808 = 0 := Nat.div_eq_of_lt (by omega)
 have e2 : ((n.log2 + 1022) * 4503599627370496 + x) % 9223372036854775808 = (n.log2 + 1022) * 4503599627370496 + x := Nat.mod_eq_of_lt (by omega)
 rw [e1, e2, if_neg (by omega), if_pos (by omega)]
 have e3 : ((n.log2 + 1022) * 4503599627370496 + x) % 4503599627370496 = x - 4503599627370496 := by omega
 have e4 : ((n.log2 + 1022) * 4503599627370496 + x) / 4503599627370496 = n.log2 + 1023 := by omega
 rw [e3, e4]
 have e5 : 4503599627370496 + (x - 4503599627370496) = x := by omega
 rw [e5]
 have e6 : (-1074 : Int) + ((n.log2 + 1023 - 1 : Nat) : Int) = -((52 - n.log2 : Nat) : Int) := by omega
 rw [e6]
 rfl
theorem sg (m a c : Nat) (h : a <= c) : Ieee.signed false (m * 2 ^ a) (-(a : Int) - -(c : Int)).toNat = ((m * 2 ^ c : Nat) : Int) := by
 unfold Ieee.signed
 have e : (-(a : Int) - -(c : Int)).toNat = c - a := by omega
 rw [e, Nat.shiftLeft_eq, Nat.mul_assoc, <- Nat.pow_add, show a + (c - a) = c by omega]
 simp
theorem aa3 {m n : Nat} (hm : m < 2 ^ 53) (hn : n < 2 ^ 53) (h : m + n < 2 ^ 53) : Ieee.double.add (fl m) (fl n) = some (fl (m + n)) := by
 obtain ⟨a, ha⟩ := Rp hm
 obtain ⟨b, hb⟩ := Rp hn
 unfold Ieee.Format.add
 rw [ha, hb]
 have hmin : min (-(a : Int)) (-(b : Int)) = -((max a b : Nat) : Int) := by omega
 simp only [Ieee.Datum.sum, hmin, Option.map_some]
 rw [sg m a _ (Nat.le_max_left _ _), sg n b _ (Nat.le_max_right _ _)]
 have e : ((m * 2 ^ max a b : Nat) : Int) + ((n * 2 ^ max a b : Nat) : Int) = (((m + n) * 2 ^ max a b : Nat) : Int) := by
  grind
 rw [e]
 have hs : (if (((m + n) * 2 ^ max a b : Nat) : Int) = 0 then false && false else decide ((((m + n) * 2 ^ max a b : Nat) : Int) < 0)) = false := by
  grind
 rw [hs, Int.natAbs_natCast]
 show some (Ieee.double.nearest false ((m + n) * 2 ^ max a b) (-((max a b : Nat) : Int))) = _
 rw [Rd h, agf h]
theorem fl0 : fl 0 = 0 := by decide +kernel
theorem fl1 : fl 1 = 4607182418800017408 := by decide +kernel
theorem aa8 (n : Nat) (h : n < 4503599627370496) : FloatKind.f64.format.add (fl n) 4607182418800017408 = some (fl (n + 1)) := by
 rw [<- fl1]
 exact aa3 (by omega) (by decide) (by omega)
theorem Tu (n : Nat) (h : n < 4503599627370496) : FloatKind.f64.format.add (fl n) 0 = some (fl n) := by
 have := aa3 (m := n) (n := 0) (by omega) (by decide) (by omega)
 rw [fl0] at this
 exact this
open Go Go.Vm
def cB (b : List UInt8) : List CV := b.map fun x => .sc (.int .u8 x.toNat)
theorem ki {b : List UInt8} : (cB b).length = b.length := by simp [cB]
abbrev cpx (a b : Nat) : VV := .cv (.sc (.complex .f64 (fl a) (fl b)))
structure D where
 firm : List (List UInt8)
 loose : List (Nat × List UInt8)
 w : Nat
 f : Nat
 fused : Bool
 left : Int
def lE (l : List (Nat × List UInt8)) : List (List CV) := l.map fun o => .sc (.int .i64 o.1) :: cB o.2
def fE (l : List (List UInt8)) : List (List CV) := l.map cB
structure D.OK (d : D) : Prop where
 f64 : ∀ b ∈ d.firm, b.length = 64
 l64 : ∀ o ∈ d.loose, o.2.length = 64 /\ o.1 < d.firm.length
 n : d.firm.length <= 4096
 lw : d.loose.length <= 1000000
 w : d.w < 1000000
 f : d.f < 1000000
def tj (h : ah) (els : List (List CV)) (v : VV) (f : Option Nat) : Prop :=
 (∃ id g ex, f = some id /\ v = .own id g 0 els.length ex /\ h[id]? = some (.arr 64 els g false)) \/ (f = none /\ els = [] /\ ∃ ex, v = .cv (.sl 64 [] ex))
def ls (h : ah) (els : List (List CV)) (v : VV) (l : Option Nat) : Prop :=
 (∃ id g, l = some id /\ els ≠ [] /\ v = .own id g 0 els.length false /\ h[id]? = some (.arr 65 els g false)) \/ (l = none /\ els = [] /\ v = cj)
def ed (h : ah) (p : Nat) (f l : Option Nat) (d : D) : Prop := ∃ vf vl, h[p]? = some (.box [vf, vl, cpx d.w d.f, vb d.fused, vi .i64 d.left] false) /\ tj h (fE d.firm) vf f /\ ls h (lE d.loose) vl l
structure Kept (h h' : ah) (p : Nat) (f l : Option Nat) : Prop where
 len : h.length <= h'.length
 same : ∀ j, j < h.length -> j ≠ p -> f ≠ some j -> l ≠ some j -> h'[j]? = h[j]?
theorem Kept.refl (h : ah) (p : Nat) (f l : Option Nat) : Kept h h p f l := ⟨Nat.le_refl _, fun _ _ _ _ _ => rfl⟩
theorem Kept.trans {h h1 h2 : ah} {p : Nat} {f l l1 : Option Nat} (k : Kept h h1 p f l) (k1 : Kept h1 h2 p f l1) (hl : ∀ i, l1 = some i -> l = some i \/ h.length <= i) : Kept h h2 p f l := by
 refine ⟨Nat.le_trans k.len k1.len, fun j hj h1 h2 h3 => ?_⟩
 rw [k1.same j (Nat.lt_of_lt_of_le hj k.len) h1 h2 (fun e => ?_), k.same j hj h1 h2 h3]
 rcases hl j e with e' | e'
 ·exact h3 e'
 ·omega
def Gv (h : ah) (l l' : Option Nat) : Prop := ∀ i, l' = some i -> l = some i \/ h.length <= i
theorem Gv.refl (h : ah) (l : Option Nat) : Gv h l l := fun _ e => .inl e
theorem Gv.trans {h h1 : ah} {l l1 l2 : Option Nat} (a : Gv h l l1) (b : Gv h1 l1 l2) (hl : h.length <= h1.length) : Gv h l l2 := by
 intro i e
 rcases b i e with e' | e'
 ·exact a i e'
 ·exact .inr (Nat.le_trans hl e')
theorem bh {h : ah} {i : Nat} {o : VO} (e : h[i]? = some o) : i < h.length := (List.getElem?_eq_some_iff.1 e).1
theorem Kept.box {h h' : ah} {p : Nat} {f l : Option Nat} {d : D} (hD : ed h p f l d) (k : Kept h h' p f l) {j : Nat} {cells : List VV} {fr : Bool} (hj : h[j]? = some (.box cells fr)) (hp : j ≠ p) : h'[j]? = some (.box cells fr) := by
 obtain ⟨vf, vl, h1, h2, h3⟩ := hD
 rw [k.same j (bh hj) hp ?_ ?_, hj]
 ·rintro e
  rcases h2 with ⟨id, g, ex, e1, _, e2⟩ | ⟨e1, _⟩
  ·rw [e] at e1; cases e1; rw [hj] at e2; cases e2
  ·rw [e] at e1; cases e1
 ·rintro e
  rcases h3 with ⟨id, g, e1, _, _, e2⟩ | ⟨e1, _⟩
  ·rw [e] at e1; cases e1; rw [hj] at e2; cases e2
  ·rw [e] at e1; cases e1
theorem tj.ln {h : ah} {els : List (List CV)} {v : VV} {f : Option Nat} (hF : tj h els v f) : lnO false v = some (vi .i64 els.length) := by
 rcases hF with ⟨id, g, ex, _, rfl, _⟩ | ⟨_, rfl, ex, rfl⟩ <;> rfl
theorem ls.ln {h : ah} {els : List (List CV)} {v : VV} {l : Option Nat} (hL : ls h els v l) : lnO false v = some (vi .i64 els.length) := by
 rcases hL with ⟨id, g, _, _, rfl, _⟩ | ⟨_, rfl, rfl⟩ <;> rfl
theorem Nr {l : List (List UInt8)} : (fE l).length = l.length := by simp [fE]
theorem Sv {l : List (Nat × List UInt8)} : (lE l).length = l.length := by simp [lE]
section
variable {h : ah} {p : Nat} {a b c e g : VV}
theorem ldp (hp : h[p]? = some (.box [a, b, c, e, g] false)) :
  ldO h false 1 (.ptr p 0) = some (a, h) /\ ldO h false 1 (.ptr p 1) = some (b, h) /\ ldO h false 1 (.ptr p 2) = some (c, h) /\ ldO h false 1 (.ptr p 3) = some (e, h) /\ ldO h false 1 (.ptr p 4) = some (g, h) :=
 ⟨ba hp rfl, ba hp rfl, ba hp rfl, ba hp rfl, ba hp rfl⟩
theorem stp (hp : h[p]? = some (.box [a, b, c, e, g] false)) {v : VV} (hv : eo v = true) :
  stO h 1 (.ptr p 1) v = some (.undef, h.set p (.box [a, v, c, e, g] false)) /\ stO h 1 (.ptr p 2) v = some (.undef, h.set p (.box [a, b, v, e, g] false)) /\
  stO h 1 (.ptr p 3) v = some (.undef, h.set p (.box [a, b, c, v, g] false)) /\ stO h 1 (.ptr p 4) v = some (.undef, h.set p (.box [a, b, c, e, v] false)) :=
 ⟨zk hv hp (by decide : 1 < 5), zk hv hp (by decide : 2 < 5), zk hv hp (by decide : 3 < 5), zk hv hp (by decide : 4 < 5)⟩
end
theorem ed.turn {h : ah} {p : Nat} {f l : Option Nat} {d d' : D} {vf vl : VV} (h1 : h[p]? = some (.box [vf, vl, cpx d.w d.f, vb d.fused, vi .i64 d.left] false)) (h2 : tj h (fE d.firm) vf f) (h3 : ls h (lE d.loose) vl l)
  (e1 : d'.firm = d.firm) (e2 : d'.loose = d.loose) : ed (h.set p (.box [vf, vl, cpx d'.w d'.f, vb d'.fused, vi .i64 d'.left] false)) p f l d' /\ Kept h (h.set p (.box [vf, vl, cpx d'.w d'.f, vb d'.fused, vi .i64 d'.left] false)) p f l := by
 have hp := bh h1
 refine ⟨⟨vf, vl, by rw [List.getElem?_set_self hp], ?_, ?_⟩, ⟨by simp, fun j _ hj _ _ => by rw [List.getElem?_set_ne (fun e => hj e.symm)]⟩⟩
 ·rcases h2 with ⟨id, g, ex, a1, a2, a3⟩ | e
  ·refine .inl ⟨id, g, ex, a1, by rw [e1]; exact a2, ?_⟩
   rw [List.getElem?_set_ne (by rintro rfl; rw [a3] at h1; cases h1), e1]; exact a3
  ·exact .inr (by rw [e1]; exact e)
 ·rcases h3 with ⟨id, g, a1, a2, a4, a3⟩ | e
  ·refine .inl ⟨id, g, a1, by rw [e2]; exact a2, by rw [e2]; exact a4, ?_⟩
   rw [List.getElem?_set_ne (by rintro rfl; rw [a3] at h1; cases h1), e2]; exact a3
  ·exact .inr (by rw [e2]; exact e)
theorem aag {h : ah} {p : Nat} {f l : Option Nat} {d : D} (hD : ed h p f l d) : call F 53 [.ptr p 0] h = some (.ret (vb (d.fused && decide (d.left = 0))), h) := by
 obtain ⟨vf, vl, h1, h2, h3⟩ := hD
 obtain ⟨l0, l1, l2, l3, l4⟩ := ldp h1
 refine eP1 (fn := f53) (n := 14) rfl rfl fun s hs h0 => ?_
 simp only [f53]
 cases hf : d.fused with
 | true =>
  rw [hf] at l3
  simp only [go_sem, seval, hs, h0, l3, l4]
  exact ⟨rfl, rfl⟩
 | false =>
  rw [hf] at l3
  simp only [go_sem, seval, hs, h0, l3, l4]
  exact ⟨rfl, rfl⟩
def D.dark (d : D) : Bool := d.fused && decide (d.left = 0)
def D.burnt (d : D) : D := if d.dark then d else { d with left := IntKind.i64.wrap (d.left - 1) }
theorem Mi {h : ah} {p : Nat} {f l : Option Nat} {d : D} (hD : ed h p f l d) : ∃ h', call F 57 [.ptr p 0] h = some (.ret (vb (!d.dark)), h') /\ ed h' p f l d.burnt /\ Kept h h' p f l := by
 have : ∃ v h', call F 57 [.ptr p 0] h = some (.ret v, h') /\ (fun v h' => v = vb (!d.dark) /\ ed h' p f l d.burnt /\ Kept h h' p f l) v h' := by
  refine eE1 (fn := f57) (n := 12) rfl rfl fun s hs h0 => ?_
  simp only [f57]
  simp only [go_sem, seval, hs]
  rw [bf f57_0.eq_1]
  simp only [go_sem, seval, hs, h0]
  refine ao (by simp only [List.map, go_sem, seval, hs]; exact aag hD) ?_
  have hdk : d.dark = (d.fused && decide (d.left = 0)) := rfl
  rw [<- hdk]
  cases hdark : d.dark with
  | true =>
   simp only [go_sem, seval, hs]
   refine ⟨trivial, ?_, Kept.refl _ _ _ _⟩
   unfold D.burnt; rw [if_pos hdark]; exact hD
  | false =>
   obtain ⟨vf, vl, h1, h2, h3⟩ := hD
   obtain ⟨l0, l1, l2, l3, l4⟩ := ldp h1
   obtain ⟨s1, s2, s3, s4⟩ := stp h1 (v := vi .i64 (IntKind.i64.wrap (d.left - 1))) rfl
   simp only [go_sem, seval, hs, h0, l4, s4]
   have := ed.turn (d' := d.burnt) h1 h2 h3 (by unfold D.burnt; split <;> rfl) (by unfold D.burnt; split <;> rfl)
   have e : d.burnt = { d with left := IntKind.i64.wrap (d.left - 1) } := by unfold D.burnt; rw [if_neg (by rw [hdark]; simp)]
   rw [e] at this |-
   exact ⟨trivial, this⟩
 obtain ⟨v, h', e1, rfl, e2⟩ := this
 exact ⟨h', e1, e2⟩
theorem nw {h : ah} {p : Nat} {f l : Option Nat} {d : D} (hD : ed h p f l d) : call F 29 [.ptr p 0] h = some (.ret (vi .i64 d.firm.length), h) := by
 obtain ⟨vf, vl, h1, h2, h3⟩ := hD
 obtain ⟨l0, l1, l2, l3, l4⟩ := ldp h1
 refine eP1 (fn := f29) (n := 10) rfl rfl fun s hs h0 => ?_
 simp only [f29]
 simp only [go_sem, seval, hs]
 rw [bf f29_0.eq_1]
 simp only [go_sem, seval, hs, h0, l0, h2.ln, Nr]
 exact ⟨rfl, rfl⟩
def D.has (d : D) (i : Int) : Bool := decide (0 <= i) && decide (i < (d.firm.length : Int))
theorem Ta {h : ah} {p : Nat} {f l : Option Nat} {d : D} (hD : ed h p f l d) (i : Int) : call F 56 [.ptr p 0, vi .i64 i] h = some (.ret (vb (d.has i)), h) := by
 refine eP2 (fn := f56) (n := 13) rfl rfl fun s hs h0 h1 => ?_
 simp only [f56]
 unfold D.has
 by_cases c : 0 <= i
 ·simp only [go_sem, seval, hs, h0, h1, c]
  refine ao (by simp only [List.map, go_sem, seval, hs]; exact nw hD) ?_
  simp only [go_sem, seval, hs, h0, h1]
  exact ⟨by simp, rfl⟩
 ·simp only [go_sem, seval, hs, h0, h1, c]
  exact ⟨by simp, rfl⟩
def z64 : List UInt8 := List.replicate 64 0
def Qd (n : Nat) : D := ⟨List.replicate n z64, [], 0, 0, false, 0⟩
theorem amh : List.replicate 64 (CV.sc (.int .u8 0)) = cB z64 := by simp [cB, z64]
theorem ahk (n : Nat) : List.replicate n (List.replicate 64 (CV.sc (.int .u8 0))) = fE (Qd n).firm := by rw [amh]; simp [fE, Qd]
theorem Jv (n : Nat) (hn : n <= 4096) (h : ah) : ∃ h', call F 10 [vi .i64 n] h = some (.ret (.ptr (h.length + 1) 0), h') /\ ed h' (h.length + 1) (some h.length) none (Qd n) /\ h.length <= h'.length /\ ∀ j, j < h.length -> h'[j]? = h[j]? := by
 have : ∃ v h', call F 10 [vi .i64 n] h = some (.ret v, h') /\ (fun v h' => v = .ptr (h.length + 1) 0 /\ ed h' (h.length + 1) (some h.length) none (Qd n) /\ h.length <= h'.length /\ ∀ j, j < h.length -> h'[j]? = h[j]?) v h' := by
  refine eE1 (fn := f10) (n := 13) rfl rfl fun s hs h0 => ?_
  simp only [f10]
  have c1 : ¬ (n : Int) < 0 := by omega
  have c2 : ¬ (4096 : Int) < (n : Int) := by omega
  simp only [go_sem, Nat.reduceLT, Nat.reduceEqDiff, reduceCtorEq, Int.reduceLT, Int.reduceEq, hs]
  rw [bf f10_0.eq_1]
  simp only [go_sem, Nat.reduceLT, Nat.reduceEqDiff, reduceCtorEq, Int.reduceLT, Int.reduceEq, hs, h0, c1, c2]
  refine afz (k := .i64) (k' := .i64) (a := n) (by simp only [go_sem, Nat.reduceLT, Nat.reduceEqDiff, reduceCtorEq, Int.reduceLT, Int.reduceEq, hs]) (by simp only [go_sem, Nat.reduceLT, Nat.reduceEqDiff, reduceCtorEq, Int.reduceLT, Int.reduceEq, hs]) (by omega) (by omega) ?_
  rw [ahk]
  simp only [go_sem, seval, hs]
  have e1 : bdO [cj, cj, .cv (.sc (.complex .f64 0 0)), vb false, vi .i64 0] [(0, 1, .own h.length 0 0 n true)] = some (.agg [.own h.length 0 0 n true, cj, .cv (.sc (.complex .f64 0 0)), vb false, vi .i64 0]) := rfl
  simp only [go_sem, seval, hs, e1]
  rw [xg (n := 5) rfl]
  simp only [go_sem, seval, hs]
  have el : (h ++ [VO.arr 64 (fE (Qd n).firm) 0 false]).length = h.length + 1 := by simp
  refine ⟨by rw [el], ⟨.own h.length 0 0 n true, cj, ?_, .inl ⟨h.length, 0, true, rfl, ?_, ?_⟩, .inr ⟨rfl, rfl, rfl⟩⟩, by simp only [List.length_append, List.length_singleton]; omega, fun j hj => ?_⟩
  ·rw [<- el]
   simp [Qd, cpx, fl0]
  ·rw [Nr]; simp [Qd]
  ·simp
  ·rw [List.append_assoc, List.getElem?_append_left hj]
 obtain ⟨v, h', e1, rfl, e2⟩ := this
 exact ⟨h', e1, e2⟩
open Go Go.Vm
theorem Ys {a : VV} {l : List VV} {c : CV} : bdO (a :: l) [(0, 1, .cv c)] = some (.agg (.cv c :: l)) := by
 simp [bdO, fill, cellsOf, am]
theorem Yf {h : ah} {n : Nat} {zero : List VV} {l : List CV} (hz : zero.length = n) (hl : l.length = n) : mkO h n 1 zero [(0, n, .agg (l.map .cv))] = some (.cv (.sl n [l] true), h) := by
 have e1 : fill zero [(0, n, .agg (l.map .cv))] = some (l.map .cv) := by
  have : am zero 0 (l.map VV.cv) = l.map VV.cv := wv (by simp; omega)
  simp [fill, cellsOf, hl, hz, this]
 simp only [mkO, e1, yi]
 have : mf n 1 l = [l] := by
  show [(l.drop (0 * n)).take n] = [l]
  grind
 rw [this]
def pad (b : List UInt8) : List UInt8 := b ++ List.replicate (64 - b.length) 0
theorem Kx {b : List UInt8} (h : b.length <= 64) : (pad b).length = 64 := by unfold pad; simp; omega
theorem Qf {c : VV} {b : List UInt8} (h : b.length <= 64) : am (c :: List.replicate 64 (VV.cv (.sc (.int .u8 0)))) 1 ((cB b).map .cv) = c :: (cB (pad b)).map .cv := by
 unfold am pad cB
 simp only [List.take_succ_cons, List.take_zero, List.length_map, List.map_append, List.map_map, List.cons_append, List.nil_append, List.append_assoc]
 congr 2
 rw [Nat.add_comm, List.drop_succ_cons, List.drop_replicate]
 simp
theorem ac1 (b : List UInt8) : (eB b).flatten = cB b := by
 induction b with
 | nil => rfl
 | cons x b ih =>
  simp only [eB, cB, List.map_cons, List.flatten_cons, bt] at ih |-
  rw [ih]; rfl
theorem Su {F : Nat -> Option FnIR} {h : ah} {els : List (List CV)} {v : VV} {l : Option Nat} {by_ : Nat} {zero : List CV} {x y : Opd} {s : List VV} {e : List CV} (hL : ls h els v l) (hx : ae s x = v) (hy : jx h 65 (ae s y) = some [e]) (hb : by_ <= 100) (hl : els.length <= 2000000) :
  ∃ v' h' l', ai h (ae s) (.app 65 by_ zero x y) = some (v', h') /\ ls h' (els ++ [e]) v' l' /\ Gv h l l' /\ h.length <= h'.length /\ eo v' = true /\ ∀ j, j < h.length -> l ≠ some j -> h'[j]? = h[j]? := by
 have hm : cq = 35184372088832 := rfl
 have hmul : (els.length + 1) * by_ <= 35184372088832 := by
  have : (els.length + 1) * by_ <= 2000001 * 100 := Nat.mul_le_mul (by omega) hb
  omega
 have h2 : els.length + 1 <= 35184372088832 := by omega
 rcases hL with ⟨id, g, e1, hne, rfl, h3⟩ | ⟨e1, rfl, rfl⟩
 ·have hid := bh h3
  refine ⟨.own id (g + 1) 0 (els.length + 1) false, h.set id (.arr 65 (els ++ [e]) (g + 1) false), some id, ?_, .inl ⟨id, g + 1, rfl, by simp, by simp, by grind⟩, fun i e => .inl (by grind), by simp, rfl, fun j hj hn => ?_⟩
  ·simp only [ai, hy, hx, lx, hm, List.length_singleton, hmul, h2, and_self, if_true, h3, Nat.zero_add, Nat.le_refl, Bool.false_eq_true, if_false, List.drop_zero, List.take_length, List.cons_ne_nil]
  grind
 ·refine ⟨.own h.length 0 0 1 false, h ++ [.arr 65 [e] 0 false], some h.length, ?_, .inl ⟨h.length, 0, rfl, by simp, by simp, by simp⟩, fun i e => .inr (by grind), by simp, rfl, fun j hj _ => by grind⟩
  simp only [List.length_nil, Nat.zero_add] at hmul h2
  simp only [ai, hy, hx, lx, hm, List.length_singleton, Nat.zero_add, hmul, h2, and_self, if_true, List.cons_ne_nil, if_false]
theorem Xh {F : Nat -> Option FnIR} {h : ah} {els : List (List CV)} {v : VV} {l : Option Nat} {by_ : Nat} {zero : List CV} {x y : Opd} {s : List VV} {e : List CV} {d : Option Nat} {q : List (Op1 × Cl)} {Q : Pst} (hL : ls h els v l) (hx : ae s x = v) (hy : jx h 65 (ae s y) = some [e]) (hb : by_ <= 100) (hl : els.length <= 2000000)
  (hk : ∀ v' h' l', ls h' (els ++ [e]) v' l' -> Gv h l l' -> h.length <= h'.length -> eo v' = true -> (∀ j, j < h.length -> l ≠ some j -> h'[j]? = h[j]?) -> XD F q ⟨de s d v', h'⟩ Q) :
  XD F ((⟨none, d, .app 65 by_ zero x y⟩, .k) :: q) ⟨s, h⟩ Q := by
 obtain ⟨v', h', l', e1, e2, e3, e4, e5, e6⟩ := Su (F := F) (zero := zero) hL hx hy hb hl
 rw [ox rfl, e1, Yi]
 exact hk v' h' l' e2 e3 e4 e5 e6
theorem ed.push {h : ah} {p : Nat} {f l : Option Nat} {d : D} (hD : ed h p f l d) (o : VO) : ed (h ++ [o]) p f l d := by
 obtain ⟨vf, vl, h1, h2, h3⟩ := hD
 refine ⟨vf, vl, by grind, ?_, ?_⟩
 ·rcases h2 with ⟨id, g, ex, a1, a2, a3⟩ | e
  ·exact .inl ⟨id, g, ex, a1, a2, by grind⟩
  ·exact .inr e
 ·rcases h3 with ⟨id, g, a1, a2, a4, a3⟩ | e
  ·exact .inl ⟨id, g, a1, a2, a4, by grind⟩
  ·exact .inr e
theorem tj.push {h : ah} {els : List (List CV)} {v : VV} {f : Option Nat} (hF : tj h els v f) (o : VO) : tj (h ++ [o]) els v f := by
 rcases hF with ⟨id, g, ex, a1, a2, a3⟩ | e
 ·exact .inl ⟨id, g, ex, a1, a2, by grind⟩
 ·exact .inr e
def D.write (d : D) (i : Int) (b : List UInt8) : D × Nat :=
 if d.has i = false then (d, 20) else if 64 < b.length then (d, 3) else if d.dark = true then (d, 0) else
 ({ d.burnt with loose := d.loose ++ [(i.toNat, pad b)], w := d.w + 1 }, 0)
structure Moved (h h' : ah) (p : Nat) (f l l' : Option Nat) (d' : D) : Prop where
 dev : ed h' p f l' d'
 kept : Kept h h' p f l
 new : Gv h l l'
theorem Moved.refl {h : ah} {p : Nat} {f l : Option Nat} {d : D} (hD : ed h p f l d) : Moved h h p f l l d := ⟨hD, Kept.refl _ _ _ _, Gv.refl _ _⟩
theorem Moved.trans {h h1 h2 : ah} {p : Nat} {f l l1 l2 : Option Nat} {d1 d2 : D} (a : Moved h h1 p f l l1 d1) (b : Moved h1 h2 p f l1 l2 d2) : Moved h h2 p f l l2 d2 :=
 ⟨b.dev, a.kept.trans b.kept a.new, a.new.trans b.new a.kept.len⟩
structure WriteP (h : ah) (p : Nat) (f l : Option Nat) (x : D × Nat) (v : VV) (h' : ah) : Prop where
 v : v = vi .u16 x.2
 m : ∃ l', Moved h h' p f l l' x.1
theorem io (d : D) : d.burnt.firm = d.firm := by unfold D.burnt; split <;> rfl
theorem mm (d : D) : d.burnt.loose = d.loose := by unfold D.burnt; split <;> rfl
theorem Ee (d : D) : d.burnt.w = d.w := by unfold D.burnt; split <;> rfl
theorem ra (d : D) : d.burnt.f = d.f := by unfold D.burnt; split <;> rfl
theorem um {h : ah} {p : Nat} {f l : Option Nat} {d : D} (hD : ed h p f l d) (hO : d.OK) (hw : d.w < 900000) (hll : d.loose.length < 900000) (i : Int) (b : List UInt8) (vb_ : VV) (hb : SlV 1 (eB b) vb_) : ∃ v h', call F 31 [.ptr p 0, vi .i64 i, vb_] h = some (.ret v, h') ∧ WriteP h p f l (d.write i b) v h' := by
  refine eE3 (fn := f31) (n := 43) rfl rfl fun s hs h0 h1 h2 => ?_
  simp only [f31]
  simp only [go_sem, Nat.reduceLT, Nat.reduceEqDiff, reduceCtorEq, Int.reduceLT, Int.reduceEq, hs, h0, h1]
  refine ao (by simp only [List.map, go_sem, Nat.reduceLT, Nat.reduceEqDiff, reduceCtorEq, Int.reduceLT, Int.reduceEq, hs]; exact Ta hD i) ?_
  unfold D.write
  cases hh : d.has i with
  | false =>
    simp only [go_sem, Nat.reduceLT, Nat.reduceEqDiff, reduceCtorEq, Int.reduceLT, Int.reduceEq, hs]
    exact ⟨rfl, l, Moved.refl hD⟩
  | true =>
    by_cases c1 : (64 : Int) < (b.length : Int)
    · have c1' : 64 < b.length := by omega
      simp only [go_sem, Nat.reduceLT, Nat.reduceEqDiff, reduceCtorEq, Int.reduceLT, Int.reduceEq, hs, h2, hb.ln, ax, c1, c1', Bool.true_eq_false]
      exact ⟨rfl, l, Moved.refl hD⟩
    · have c1' : ¬ 64 < b.length := by omega
      simp only [go_sem, Nat.reduceLT, Nat.reduceEqDiff, reduceCtorEq, Int.reduceLT, Int.reduceEq, hs, h2, hb.ln, ax, c1, c1', Bool.true_eq_false]
      rw [bf f31_0.eq_1]
      obtain ⟨g1, hc1, hD1, hK1⟩ := Mi hD
      simp only [go_sem, Nat.reduceLT, Nat.reduceEqDiff, reduceCtorEq, Int.reduceLT, Int.reduceEq, hs, h0]
      refine ao (by simp only [List.map, go_sem, Nat.reduceLT, Nat.reduceEqDiff, reduceCtorEq, Int.reduceLT, Int.reduceEq, hs]; exact hc1) ?_
      cases hdk : d.dark with
      | true =>
        have e : d.burnt = d := by unfold D.burnt; rw [if_pos hdk]
        rw [e] at hD1
        simp only [go_sem, Nat.reduceLT, Nat.reduceEqDiff, reduceCtorEq, Int.reduceLT, Int.reduceEq, hs]
        exact ⟨rfl, l, ⟨hD1, hK1, Gv.refl _ _⟩⟩
      | false =>
        have hi : 0 ≤ i ∧ i < (d.firm.length : Int) := by
          unfold D.has at hh
          simpa using hh
        obtain ⟨k, rfl⟩ : ∃ k : Nat, i = (k : Int) := ⟨i.toNat, by omega⟩
        simp only [go_sem, Nat.reduceLT, Nat.reduceEqDiff, reduceCtorEq, Int.reduceLT, Int.reduceEq, hs, h1, Ys]
        rw [mz (n := 65) (cells := .cv (.sc (.int .i64 0)) :: List.replicate 64 (.cv (.sc (.int .u8 0)))) (by simp) bm (by simp), mh]
        simp only [go_sem, Nat.reduceLT, Nat.reduceEqDiff, reduceCtorEq, Int.reduceLT, Int.reduceEq, hs, h2]
        rw [Gi bm (by simp)]
        simp only [go_sem, Nat.reduceLT, Nat.reduceEqDiff, reduceCtorEq, Int.reduceLT, Int.reduceEq, hs, h2]
        rw [ag2 (src := eB b) bm (by simp) hb.src, mh]
        have em : min (eB b).length 64 = b.length := by rw [ax]; omega
        have et : (eB b).take b.length = eB b := List.take_of_length_le (by rw [ax]; exact Nat.le_refl _)
        rw [em, et, ac1, Qf (by omega)]
        have ec : (VV.cv (.sc (.int .i64 (k : Int))) :: (cB (pad b)).map .cv) = ((CV.sc (.int .i64 (k : Int)) :: cB (pad b)).map .cv) := rfl
        rw [ec]
        have hpl : (CV.sc (.int .i64 (k : Int)) :: cB (pad b)).length = 65 := by simp only [List.length_cons, ki, Kx (show b.length ≤ 64 by omega)]
        generalize hcell : (CV.sc (.int .i64 (k : Int)) :: cB (pad b)) = cells at hpl ⊢
        generalize hbox : VO.box (cells.map .cv) false = bx
        have hD2 := hD1.push bx
        obtain ⟨vf, vl, a1, a2, a3⟩ := hD2
        obtain ⟨k0, k1, k2, k3, k4⟩ := ldp a1
        have hlb : ldO (g1 ++ [bx]) true 65 (.ptr g1.length 0) = some (.agg (cells.map .cv), g1 ++ [bx]) := by rw [← hbox]; exact pt bm (by simp; omega)
        simp only [go_sem, Nat.reduceLT, Nat.reduceEqDiff, reduceCtorEq, Int.reduceLT, Int.reduceEq, hs]
        refine mu rfl ?_
        simp only [go_sem, Nat.reduceLT, Nat.reduceEqDiff, reduceCtorEq, Int.reduceLT, Int.reduceEq, hs, h0, k1, hlb]
        rw [Yf (by simp) hpl]
        simp only [go_sem, Nat.reduceLT, Nat.reduceEqDiff, reduceCtorEq, Int.reduceLT, Int.reduceEq, hs, h0]
        refine Xh (els := lE d.burnt.loose) (e := cells) a3 (by simp only [go_sem, Nat.reduceLT, Nat.reduceEqDiff, reduceCtorEq, Int.reduceLT, Int.reduceEq, hs]) (by simp only [go_sem, Nat.reduceLT, Nat.reduceEqDiff, reduceCtorEq, Int.reduceLT, Int.reduceEq, hs]) (by decide) (by rw [Sv, mm]; omega) (fun v3 g3 l3 hL3 hN3 hlen3 hcell3 hsame3 => ?_)
        have hpl3 : l ≠ some p := by
          rcases a3 with ⟨id, g, b1, _, _, b2⟩ | ⟨b1, _⟩
          · rintro e; rw [e] at b1; cases b1; rw [a1] at b2; cases b2
          · rw [b1]; simp
        have a1' : g3[p]? = some (.box [vf, vl, cpx d.burnt.w d.burnt.f, vb d.burnt.fused, vi .i64 d.burnt.left] false) := by rw [hsame3 p (bh a1) hpl3]; exact a1
        have a2' : tj g3 (fE d.burnt.firm) vf f := by
          rcases a2 with ⟨id, g, ex, b1, b2, b3⟩ | e
          · refine .inl ⟨id, g, ex, b1, b2, ?_⟩
            rw [hsame3 id (bh b3) ?_]; exact b3
            rintro e
            rcases a3 with ⟨id', g', c1, _, _, c2⟩ | ⟨c1, _⟩
            · rw [e] at c1; cases c1; rw [b3] at c2; cases c2
            · rw [e] at c1; cases c1
          · exact .inr e
        obtain ⟨s1, _, _, _⟩ := stp a1' hcell3
        simp only [go_sem, Nat.reduceLT, Nat.reduceEqDiff, reduceCtorEq, Int.reduceLT, Int.reduceEq, hs, h0, s1]
        have hp3 := bh a1'
        generalize hg4 : g3.set p (.box [vf, v3, cpx d.burnt.w d.burnt.f, vb d.burnt.fused, vi .i64 d.burnt.left] false) = g4
        have a4 : g4[p]? = some (.box [vf, v3, cpx d.burnt.w d.burnt.f, vb d.burnt.fused, vi .i64 d.burnt.left] false) := by rw [← hg4, List.getElem?_set_self hp3]
        have ne4 : ∀ j, j ≠ p → g4[j]? = g3[j]? := fun j hj => by rw [← hg4, List.getElem?_set_ne (fun e => hj e.symm)]
        have len4 : g4.length = g3.length := by rw [← hg4]; simp
        obtain ⟨_, _, m2, _, _⟩ := ldp a4
        have hadd : ky .add (cpx d.burnt.w d.burnt.f) (.cv (.sc (.complex .f64 4607182418800017408 0))) = some (cpx (d.w + 1) d.f) := by
          rw [Ee, ra]
          have x1 := aa8 d.w (by omega)
          have x2 := Tu d.f (by have := hO.f; omega)
          simp [ky, sw, x1, x2]
        obtain ⟨_, s2, _, _⟩ := stp a4 (v := cpx (d.w + 1) d.f) rfl
        simp only [go_sem, Nat.reduceLT, Nat.reduceEqDiff, reduceCtorEq, Int.reduceLT, Int.reduceEq, hs, h0, m2, hadd, s2]
        refine ⟨rfl, l3, ⟨⟨vf, v3, ?_, ?_, ?_⟩, ?_, ?_⟩⟩
        · rw [List.getElem?_set_self (by omega)]
          simp only [ra]
        · rcases a2' with ⟨id, g, ex, b1, b2, b3⟩ | e
          · have hne : id ≠ p := by rintro rfl; rw [b3] at a1'; cases a1'
            exact .inl ⟨id, g, ex, b1, b2, by rw [List.getElem?_set_ne (fun e => hne e.symm), ne4 id hne]; exact b3⟩
          · exact .inr e
        · have e3 : lE d.burnt.loose ++ [cells] = lE (d.loose ++ [((k : Int).toNat, pad b)]) := by
            rw [← hcell, mm]; simp [lE]
          rw [e3] at hL3
          rcases hL3 with ⟨id, g, b1, b2, b4, b3⟩ | e
          · have hne : id ≠ p := by rintro rfl; rw [b3] at a1'; cases a1'
            exact .inl ⟨id, g, b1, b2, b4, by rw [List.getElem?_set_ne (fun e => hne e.symm), ne4 id hne]; exact b3⟩
          · exact .inr e
        · refine ⟨?_, fun j hj h1 h2 h3 => ?_⟩
          · have := hK1.len
            rw [List.length_append, List.length_singleton] at hlen3
            rw [List.length_set]; omega
          · have hj1 : j < g1.length := Nat.lt_of_lt_of_le hj hK1.len
            rw [List.getElem?_set_ne (fun e => h1 e.symm), ne4 j h1, hsame3 j (by rw [List.length_append]; omega) h3, List.getElem?_append_left hj1, hK1.same j hj h1 h2 h3]
        · intro j e
          rcases hN3 j e with e' | e'
          · exact .inl e'
          · right
            have := hK1.len
            rw [List.length_append] at e'
            omega
open Go Go.Vm
structure Ext (h h' : ah) : Prop where
 len : h.length <= h'.length
 same : ∀ j, j < h.length -> h'[j]? = h[j]?
theorem Ext.refl (h : ah) : Ext h h := ⟨Nat.le_refl _, fun _ _ => rfl⟩
theorem Ext.trans {h h1 h2 : ah} (a : Ext h h1) (b : Ext h1 h2) : Ext h h2 := ⟨Nat.le_trans a.len b.len, fun j hj => by rw [b.same j (Nat.lt_of_lt_of_le hj a.len), a.same j hj]⟩
theorem Ext.push (h : ah) (o : VO) : Ext h (h ++ [o]) := ⟨by simp, fun j hj => by rw [List.getElem?_append_left hj]⟩
theorem Ext.kept {h h' : ah} (e : Ext h h') (p : Nat) (f l : Option Nat) : Kept h h' p f l := ⟨e.len, fun j hj _ _ _ => e.same j hj⟩
theorem Ext.get {h h' : ah} (e : Ext h h') {j : Nat} {o : VO} (hj : h[j]? = some o) : h'[j]? = some o := by rw [e.same j (bh hj), hj]
theorem tj.ext {h h' : ah} {els : List (List CV)} {v : VV} {f : Option Nat} (hF : tj h els v f) (e : Ext h h') : tj h' els v f := by
 rcases hF with ⟨id, g, ex, a1, a2, a3⟩ | e1
 ·exact .inl ⟨id, g, ex, a1, a2, e.get a3⟩
 ·exact .inr e1
theorem ls.ext {h h' : ah} {els : List (List CV)} {v : VV} {f : Option Nat} (hF : ls h els v f) (e : Ext h h') : ls h' els v f := by
 rcases hF with ⟨id, g, a1, a2, a4, a3⟩ | e1
 ·exact .inl ⟨id, g, a1, a2, a4, e.get a3⟩
 ·exact .inr e1
theorem ed.ext {h h' : ah} {p : Nat} {f l : Option Nat} {d : D} (hD : ed h p f l d) (e : Ext h h') : ed h' p f l d := by
 obtain ⟨vf, vl, h1, h2, h3⟩ := hD
 exact ⟨vf, vl, e.get h1, h2.ext e, h3.ext e⟩
theorem tj.at_ {h : ah} {els : List (List CV)} {v : VV} {f : Option Nat} (hF : tj h els v f) {j : Nat} {e : List CV} (hj : els[j]? = some e) :
  ∃ id g, f = some id /\ iaO h 64 v (vi .i64 j) = some (.eptr id g j 0, h) /\ h[id]? = some (.arr 64 els g false) := by
 have hl := (List.getElem?_eq_some_iff.1 hj).1
 rcases hF with ⟨id, g, ex, a1, rfl, a3⟩ | ⟨_, rfl, _⟩
 ·exact ⟨id, g, a1, by rw [Ab (by omega) a3 (by simpa using hl)]; simp, a3⟩
 ·cases hj
theorem ls.at_ {h : ah} {els : List (List CV)} {v : VV} {f : Option Nat} (hF : ls h els v f) {j : Nat} {e : List CV} (hj : els[j]? = some e) :
  ∃ id g, f = some id /\ iaO h 65 v (vi .i64 j) = some (.eptr id g j 0, h) /\ h[id]? = some (.arr 65 els g false) := by
 have hl := (List.getElem?_eq_some_iff.1 hj).1
 rcases hF with ⟨id, g, a1, _, rfl, a3⟩ | ⟨_, rfl, _⟩
 ·exact ⟨id, g, a1, by rw [Ab (by omega) a3 (by simpa using hl)]; simp, a3⟩
 ·cases hj
def Bm (i : Int) (x : List UInt8) (l : List (Nat × List UInt8)) : List UInt8 := l.foldl (fun x o => if (o.1 : Int) = i then o.2 else x) x
def D.cell (d : D) (i : Nat) : List UInt8 := Bm i (d.firm.getD i []) d.loose
def ObV (h : ah) (b : List UInt8) (v : VV) : Prop := ∃ id, v = .ob id 0 b.length 1 true /\ h[id]? = some (.box ((cB b).map .cv) false)
theorem Et (l : List CV) (f : VV -> Option CV) (hf : ∀ c, f (.cv c) = some c) : (l.map VV.cv).mapM f = some l := by
 induction l with
 | nil => rfl
 | cons c l ih => simp only [List.map_cons, List.mapM_cons, ih, hf]; rfl
theorem So : ∀ (n : Nat) (l : List CV), l.length = n -> mf 1 n l = l.map fun c => [c] := by
 intro n l h
 subst h
 unfold mf
 apply List.ext_getElem
 ·simp
 ·intro i h1 h2
  simp only [List.length_map, List.length_range] at h1
  simp only [List.getElem_map, List.getElem_range, Nat.mul_one]
  rw [List.drop_eq_getElem_cons h1]
  rfl
structure ReadD (h : ah) (d : D) (i : Int) (v : VV) (h' : ah) : Prop where
 ext : Ext h h'
 no : d.has i = false -> v = .tup [cj, vi .u16 20]
 yes : d.has i = true -> ∃ o, v = .tup [o, vi .u16 0] /\ ObV h' (d.cell i.toNat) o
 new : ∀ id x y z w e, v = .tup [.ob id x y z w, e] -> h.length <= id
theorem Nq {l : List (Nat × List UInt8)} {i : Int} (hl : ∀ o ∈ l, o.2.length = 64 /\ True) : ∀ {x : List UInt8}, x.length = 64 -> (Bm i x l).length = 64 := by
 induction l with
 | nil => intro x h; exact h
 | cons o l ih =>
  intro x h
  show (Bm i (if (o.1 : Int) = i then o.2 else x) l).length = 64
  refine ih (fun o ho => hl o (List.mem_cons_of_mem _ ho)) ?_
  split
  ·exact (hl o List.mem_cons_self).1
  ·exact h
structure ReadI (h : ah) (x : List UInt8) (g : ah) : Prop where
 ext : Ext h g
 box : g[h.length]? = some (.box ((cB x).map .cv) false)
theorem Mg {l : List (Nat × List UInt8)} {done rest : List (Nat × List UInt8)} {o : Nat × List UInt8} (h : l = done ++ o :: rest) : (lE l)[done.length]? = some (.sc (.int .i64 o.1) :: cB o.2) := by
 subst h; simp [lE]
theorem f119_loop {h : ah} {vl : VV} {lp : Option Nat} {l : List (Nat × List UInt8)} (hL : ls h (lE l) vl lp) (hl : ∀ o ∈ l, o.2.length = 64) (hn : l.length ≤ 2000000) (i : Int) :
    ∀ (rest done : List (Nat × List UInt8)) (x : List UInt8) (s : List VV) (g : ah) (Q : Pst), l = done ++ rest → x.length = 64 → s.length = 37 → s.getD 1 .undef = vi .i64 i → s.getD 6 .undef = .ptr h.length 0 →
      s.getD 23 .undef = vl → s.getD 24 .undef = vi .i64 l.length → s.getD 25 .undef = vi .i64 done.length → ReadI h x g →
      (∀ s' g', s'.length = 37 → s'.getD 6 .undef = .ptr h.length 0 → ReadI h (Bm i x rest) g' → Q (.exit 0) ⟨s', g'⟩) → X F (.loop f119_2) ⟨s, g⟩ Q := by
  intro rest
  induction rest with
  | nil =>
    intro done x s g Q hdr hx hs h1 h6 h23 h24 h25 hI hQ
    rw [az, bf f119_2.eq_1]
    have c : ¬ (done.length : Int) < (l.length : Int) := by rw [hdr]; simp
    simp only [go_sem, seval, hs, h24, h25, c]
    rw [bf f119_1.eq_1]
    simp only [go_sem, seval, hs]
    exact hQ _ _ (by simp only [ad, hs]) (by simp only [go_sem, seval, h6]) hI
  | cons o rest ih =>
    intro done x s g Q hdr hx hs h1 h6 h23 h24 h25 hI hQ
    rw [az, bf f119_2.eq_1]
    have c : (done.length : Int) < (l.length : Int) := by rw [hdr]; simp; omega
    obtain ⟨id, gg, e1, e2, e3⟩ := (hL.ext hI.ext).at_ (Mg hdr)
    have ho : o.2.length = 64 := hl o (by rw [hdr]; simp)
    have hel : (CV.sc (.int .i64 o.1) :: cB o.2).length = 65 := by simp only [List.length_cons, ki, ho]
    have hld := oc (n := 65) e3 (Mg hdr) hel
    simp only [go_sem, Nat.reduceLT, Nat.reduceEqDiff, reduceCtorEq, Int.reduceLT, Int.reduceEq, hs, h24, h25, c]
    rw [bf f119_1.eq_1]
    simp only [go_sem, Nat.reduceLT, Nat.reduceEqDiff, reduceCtorEq, Int.reduceLT, Int.reduceEq, hs, h23, h25, e2, hld]
    rw [mz (n := 65) (cells := .cv (.sc (.int .i64 0)) :: List.replicate 64 (.cv (.sc (.int .u8 0)))) (by simp [hel, ki, ho]) bm (by simp), mh]
    have hl1 : ldO (g ++ [VO.box ((CV.sc (.int .i64 o.1) :: cB o.2).map .cv) false]) false 1 (.ptr g.length 0) = some (vi .i64 o.1, g ++ [VO.box ((CV.sc (.int .i64 o.1) :: cB o.2).map .cv) false]) := ba bm rfl
    simp only [go_sem, seval, hs, h1, hl1]
    have hx2 := hI.ext.trans (Ext.push g (VO.box ((CV.sc (.int .i64 o.1) :: cB o.2).map .cv) false))
    have hb2 := (Ext.push g (VO.box ((CV.sc (.int .i64 o.1) :: cB o.2).map .cv) false)).get hI.box
    have hnx : ((done.length : Int) + 1) = ((done ++ [o]).length : Int) := by simp
    have hdn : done.length < 2000000 := by have := congrArg List.length hdr; simp at this; omega
    have hw : IntKind.i64.wrap ((done.length : Int) + 1) = ((done ++ [o]).length : Int) := by rw [hnx, IntWalk.i64_in _ (by simp; omega)]
    by_cases ci : (o.1 : Int) = i
    · have hl2 : ldO (g ++ [VO.box ((CV.sc (.int .i64 o.1) :: cB o.2).map .cv) false]) true 64 (.ptr g.length 1) = some (.agg ((cB o.2).map .cv), g ++ [VO.box ((CV.sc (.int .i64 o.1) :: cB o.2).map .cv) false]) := by
        rw [Nk bm (by simp [ki, ho])]
        have : (((CV.sc (.int .i64 o.1) :: cB o.2).map VV.cv).drop 1).take 64 = (cB o.2).map VV.cv := by
          simp only [List.map_cons, List.drop_succ_cons, List.drop_zero]
          exact List.take_of_length_le (by simp [ki, ho])
        rw [this]
      generalize hg2 : g ++ [VO.box ((CV.sc (.int .i64 o.1) :: cB o.2).map .cv) false] = g2 at hl1 hl2 hx2 hb2
      have hst : stO g2 64 (.ptr h.length 0) (.agg ((cB o.2).map .cv)) = some (.undef, g2.set h.length (.box ((cB o.2).map .cv) false)) := by
        rw [Mk (by simp [ki, ho]) hb2 (by simp [ki, hx]), wv (by simp [ki, hx, ho])]
      simp only [go_sem, seval, hs, ci, h1, h6, hl2, hst, h25, hw]
      refine ih (done ++ [o]) o.2 _ _ Q (by rw [hdr]; simp) ho (by simp only [ad, hs]) (by simp only [go_sem, seval, h1]) (by simp only [go_sem, seval, h6]) (by simp only [go_sem, seval, h23]) (by simp only [go_sem, seval, h24]) (by simp only [go_sem, seval, hs]) ⟨⟨?_, fun j hj => ?_⟩, ?_⟩ (fun s' g' a1 a2 a3 => hQ s' g' a1 a2 ?_)
      · rw [List.length_set]; exact hx2.len
      · rw [List.getElem?_set_ne (by omega), hx2.same j hj]
      · rw [List.getElem?_set_self (bh hb2)]
      · have : Bm i x (o :: rest) = Bm i o.2 rest := by
          show Bm i (if (o.1 : Int) = i then o.2 else x) rest = _
          rw [if_pos ci]
        rw [this]; exact a3
    · simp only [go_sem, seval, hs, ci, h25, hw]
      refine ih (done ++ [o]) x _ _ Q (by rw [hdr]; simp) hx (by simp only [ad, hs]) (by simp only [go_sem, seval, h1]) (by simp only [go_sem, seval, h6]) (by simp only [go_sem, seval, h23]) (by simp only [go_sem, seval, h24]) (by simp only [go_sem, seval, hs]) ⟨hx2, hb2⟩ (fun s' g' a1 a2 a3 => hQ s' g' a1 a2 ?_)
      have : Bm i x (o :: rest) = Bm i x rest := by
        show Bm i (if (o.1 : Int) = i then o.2 else x) rest = _
        rw [if_neg ci]
      rw [this]; exact a3
theorem Ir {h : ah} {p : Nat} {f l : Option Nat} {d : D} (hD : ed h p f l d) (hO : d.OK) (i : Int) : ∃ v h', call F 119 [.ptr p 0, vi .i64 i] h = some (.ret v, h') /\ ReadD h d i v h' := by
 refine eE2 (fn := f119) (n := 37) rfl rfl fun s hs h0 h1 => ?_
 simp only [f119]
 simp only [go_sem, Nat.reduceLT, Nat.reduceEqDiff, reduceCtorEq, Int.reduceLT, Int.reduceEq, hs]
 rw [bf f119_0.eq_1]
 simp only [go_sem, Nat.reduceLT, Nat.reduceEqDiff, reduceCtorEq, Int.reduceLT, Int.reduceEq, hs, h0, h1]
 refine ao (by simp only [List.map, go_sem, Nat.reduceLT, Nat.reduceEqDiff, reduceCtorEq, Int.reduceLT, Int.reduceEq, hs]; exact Ta hD i) ?_
 cases hh : d.has i with
 | false =>
  simp only [go_sem, Nat.reduceLT, Nat.reduceEqDiff, reduceCtorEq, Int.reduceLT, Int.reduceEq, hs]
  exact ⟨Ext.refl _, fun _ => rfl, fun e => (by rw [hh] at e; cases e), fun id x y z w e h => (by cases h)⟩
 | true =>
  have hi : 0 <= i /\ i < (d.firm.length : Int) := by
   unfold D.has at hh
   simpa using hh
  obtain ⟨k, rfl⟩ : ∃ k : Nat, i = (k : Int) := ⟨i.toNat, by omega⟩
  obtain ⟨vf, vl, a1, a2, a3⟩ := hD
  obtain ⟨k0, k1, _, _, _⟩ := ldp a1
  have hk : d.firm[k]? = some (d.firm.getD k []) := by
   rw [List.getD_eq_getElem?_getD, List.getElem?_eq_getElem (by omega)]; rfl
  have hke : (fE d.firm)[k]? = some (cB (d.firm.getD k [])) := by simp only [fE, List.getElem?_map, hk, Option.map_some]
  have h64 : (d.firm.getD k []).length = 64 := hO.f64 _ (List.mem_of_getElem? hk)
  obtain ⟨id, gg, e1, e2, e3⟩ := a2.at_ hke
  have hld := oc (n := 64) e3 hke (by rw [ki, h64])
  simp only [go_sem, Nat.reduceLT, Nat.reduceEqDiff, reduceCtorEq, Int.reduceLT, Int.reduceEq, hs, h0, h1, k0, e2, hld]
  rw [mz (n := 64) (cells := List.replicate 64 (.cv (.sc (.int .u8 0)))) (by rw [List.length_map, ki, h64]) bm (by simp), mh]
  have hx := Ext.push h (VO.box ((cB (d.firm.getD k [])).map .cv) false)
  obtain ⟨_, k1, _, _, _⟩ := ldp (hx.get a1)
  simp only [go_sem, seval, hs, h0, k1, a3.ln, Sv]
  refine f119_loop a3 (fun o ho => (hO.l64 o ho).1) (by have := hO.lw; omega) (k : Int) d.loose [] (d.firm.getD k []) _ _ _ rfl h64 (by simp only [ad, hs]) (by simp only [go_sem, seval, h1]) (by simp only [go_sem, seval, hs]) (by simp only [go_sem, seval, hs]) (by simp only [go_sem, seval, hs]) (by simp only [go_sem, seval, hs]; rfl) ⟨hx, bm⟩ (fun s' g' b1 b2 b3 => ?_)
  have hcl : (d.cell k).length = 64 := Nq (fun o ho => ⟨(hO.l64 o ho).1, trivial⟩) h64
  simp only [go_sem, seval, b1, b2]
  rw [Gi b3.box (by simp only [List.length_map, ki]; show _ <= (d.cell k).length; omega)]
  simp only [go_sem, seval, b1]
  exact ⟨b3.ext, fun e => (by rw [hh] at e; cases e), fun _ => ⟨_, rfl, h.length, by rw [show ((k : Int).toNat) = k from rfl, hcl], b3.box⟩, fun id x y z w e h => by cases h; exact Nat.le_refl _⟩
open Go Go.Vm
def jm (kf : Nat -> Bool) : Nat -> List (List UInt8) -> List (Nat × List UInt8) -> List (List UInt8)
 | _, firm, [] => firm
 | k, firm, o :: l => jm kf (k + 1) (if kf k then firm.set o.1 o.2 else firm) l
theorem wz {kf : Nat -> Bool} : ∀ {l : List (Nat × List UInt8)} {k : Nat} {firm : List (List UInt8)}, (jm kf k firm l).length = firm.length
 | [], _, _ => rfl
 | o :: l, k, firm => by
  show (jm kf (k + 1) (if kf k then firm.set o.1 o.2 else firm) l).length = _
  rw [wz]
  grind
structure SetI (h : ah) (f : Option Nat) (vf : VV) (firm : List (List UInt8)) (g : ah) : Prop where
 len : h.length <= g.length
 same : ∀ j, j < h.length -> f ≠ some j -> g[j]? = h[j]?
 firm : tj g (fE firm) vf f
theorem SetI.push {h : ah} {f : Option Nat} {vf : VV} {firm : List (List UInt8)} {g : ah} (i : SetI h f vf firm g) (o : VO) : SetI h f vf firm (g ++ [o]) :=
 ⟨by have := i.len; simp; omega, fun j hj hf => by rw [List.getElem?_append_left (Nat.lt_of_lt_of_le hj i.len), i.same j hj hf], i.firm.push o⟩
theorem f54_loop {h : ah} {p : Nat} {vf vl a b c3 : VV} {f lp : Option Nat} {l : List (Nat × List UInt8)} {firm0 : List (List UInt8)} (hp : h[p]? = some (.box [vf, vl, a, b, c3] false)) (hF : tj h (fE firm0) vf f) (hL : ls h (lE l) vl lp)
  (hl : ∀ o ∈ l, o.2.length = 64 /\ o.1 < firm0.length) (hn : l.length <= 2000000)
  {fi : Nat} {caps : List VV} {kf : Nat -> Bool} (hfi : fi < YB) (hkf : ∀ (k : Nat) g, k < 2000000 -> (∀ j, j < h.length -> f ≠ some j -> g[j]? = h[j]?) -> call F fi ([vi .i64 k] ++ caps) g = some (.ret (vb (kf k)), g)) :
  ∀ (rest done : List (Nat × List UInt8)) (firm : List (List UInt8)) (s : List VV) (g : ah) (Q : Pst), l = done ++ rest -> firm.length = firm0.length -> (∀ b ∈ firm, b.length = 64) -> s.length = 32 -> s.getD 0 .undef = .ptr p 0 -> s.getD 1 .undef = .func fi caps ->
   s.getD 9 .undef = vl -> s.getD 10 .undef = vi .i64 l.length -> s.getD 11 .undef = vi .i64 done.length -> SetI h f vf firm g ->
   (∀ s' g', s'.length = 32 -> s'.getD 0 .undef = .ptr p 0 -> SetI h f vf (jm kf done.length firm rest) g' -> Q (.exit 0) ⟨s', g'⟩) -> X F (.loop f54_1) ⟨s, g⟩ Q := by
 have hpf : f ≠ some p := by
  rcases hF with ⟨id, gg, ex, a1, _, a3⟩ | ⟨a1, _⟩
  ·rintro e; rw [e] at a1; cases a1; rw [hp] at a3; cases a3
  ·rw [a1]; simp
 have hlf : ∀ i, lp = some i -> f ≠ some i := by
  intro i hi
  rcases hF with ⟨id, gg, ex, a1, _, a3⟩ | ⟨a1, _⟩
  ·rintro e; rw [e] at a1; cases a1
   rcases hL with ⟨id', g', b1, _, _, b3⟩ | ⟨b1, _⟩
   ·rw [hi] at b1; cases b1; rw [a3] at b3; cases b3
   ·rw [hi] at b1; cases b1
  ·rw [a1]; simp
 intro rest
 induction rest with
 | nil =>
  intro done firm s g Q hdr hfl hx hs h0 h1 h9 h10 h11 hI hQ
  rw [az, bf f54_1.eq_1]
  have c : ¬ (done.length : Int) < (l.length : Int) := by rw [hdr]; simp
  simp only [go_sem, seval, hs, h10, h11, c]
  rw [bf f54_0.eq_1]
  simp only [go_sem, seval, hs]
  exact hQ _ _ (by simp only [ad, hs]) (by simp only [go_sem, seval, h0]) hI
 | cons o rest ih =>
  intro done firm s g Q hdr hfl hx hs h0 h1 h9 h10 h11 hI hQ
  rw [az, bf f54_1.eq_1]
  have c : (done.length : Int) < (l.length : Int) := by rw [hdr]; simp; omega
  have hLg : ls g (lE l) vl lp := by
   rcases hL with ⟨id', g', b1, b2, b4, b3⟩ | e
   ·exact .inl ⟨id', g', b1, b2, b4, by rw [hI.same id' (bh b3) (hlf id' b1)]; exact b3⟩
   ·exact .inr e
  obtain ⟨id, gg, e1, e2, e3⟩ := hLg.at_ (Mg hdr)
  have hom := hl o (by rw [hdr]; simp)
  have ho : o.2.length = 64 := hom.1
  have hel : (CV.sc (.int .i64 o.1) :: cB o.2).length = 65 := by simp only [List.length_cons, ki, ho]
  have hld := oc (n := 65) e3 (Mg hdr) hel
  simp only [go_sem, Nat.reduceLT, Nat.reduceEqDiff, reduceCtorEq, Int.reduceLT, Int.reduceEq, hs, h10, h11, c]
  rw [bf f54_0.eq_1]
  simp only [go_sem, Nat.reduceLT, Nat.reduceEqDiff, reduceCtorEq, Int.reduceLT, Int.reduceEq, hs, h9, h11, e2, hld]
  rw [mz (n := 65) (cells := .cv (.sc (.int .i64 0)) :: List.replicate 64 (.cv (.sc (.int .u8 0)))) (by simp [hel, ki, ho]) bm (by simp), mh]
  have hI2 := hI.push (VO.box ((CV.sc (.int .i64 o.1) :: cB o.2).map .cv) false)
  have hl1 : ldO (g ++ [VO.box ((CV.sc (.int .i64 o.1) :: cB o.2).map .cv) false]) false 1 (.ptr g.length 0) = some (vi .i64 o.1, g ++ [VO.box ((CV.sc (.int .i64 o.1) :: cB o.2).map .cv) false]) := ba bm rfl
  have hl2 : ldO (g ++ [VO.box ((CV.sc (.int .i64 o.1) :: cB o.2).map .cv) false]) true 64 (.ptr g.length 1) = some (.agg ((cB o.2).map .cv), g ++ [VO.box ((CV.sc (.int .i64 o.1) :: cB o.2).map .cv) false]) := by
   rw [Nk bm (by simp [ki, ho])]
   have : (((CV.sc (.int .i64 o.1) :: cB o.2).map VV.cv).drop 1).take 64 = (cB o.2).map VV.cv := by
    simp only [List.map_cons, List.drop_succ_cons, List.drop_zero]
    exact List.take_of_length_le (by simp [ki, ho])
   rw [this]
  generalize hg2 : g ++ [VO.box ((CV.sc (.int .i64 o.1) :: cB o.2).map .cv) false] = g2 at hl1 hl2 hI2
  have hdn : done.length < 2000000 := by have := congrArg List.length hdr; simp at this; omega
  have hnx : ((done.length : Int) + 1) = ((done ++ [o]).length : Int) := by simp
  have hw : IntKind.i64.wrap ((done.length : Int) + 1) = ((done ++ [o]).length : Int) := by rw [hnx, IntWalk.i64_in _ (by simp; omega)]
  simp only [go_sem, seval, hs, h1]
  refine Az (hf := hfi) (f := fi) (caps := caps) (by simp only [go_sem, seval, hs]) (by simp only [List.map, go_sem, seval, hs]; exact hkf done.length g2 hdn hI2.same) ?_
  have hsu : jm kf done.length firm (o :: rest) = jm kf (done ++ [o]).length (if kf done.length then firm.set o.1 o.2 else firm) rest := by
   rw [List.length_append]; rfl
  rw [hsu] at hQ
  cases hk : kf done.length with
  | true =>
   rw [hk, if_pos rfl] at hQ
   have hpg : g2[p]? = some (.box [vf, vl, a, b, c3] false) := by rw [hI2.same p (bh hp) hpf]; exact hp
   obtain ⟨k0, _, _, _, _⟩ := ldp hpg
   have hof : o.1 < firm.length := by rw [hfl]; exact hom.2
   have hke : (fE firm)[o.1]? = some (cB (firm[o.1])) := by simp only [fE, List.getElem?_map, List.getElem?_eq_getElem hof, Option.map_some]
   obtain ⟨fid, g3, q1, q2, q3⟩ := hI2.firm.at_ hke
   have hst := Ia (n := 64) (cs := cB o.2) (by rw [ki, ho]) q3 hke (by rw [ki]; exact hx _ (List.getElem_mem hof))
   simp only [go_sem, seval, hs]
   refine mu rfl ?_
   simp only [go_sem, seval, hs, h0, k0, hl1, hl2, q2, hst, h11, hw]
   refine ih (done ++ [o]) (firm.set o.1 o.2) _ _ Q (by rw [hdr]; simp) (by simp [hfl]) ?_ (by simp only [ad, hs]) (by simp only [go_sem, seval, h0]) (by simp only [go_sem, seval, h1]) (by simp only [go_sem, seval, h9]) (by simp only [go_sem, seval, h10]) (by simp only [go_sem, seval, hs]) ⟨?_, fun j hj hf => ?_, ?_⟩ hQ
   ·intro b hb
    rcases List.mem_or_eq_of_mem_set hb with e | e
    ·exact hx b e
    ·rw [e]; exact ho
   ·rw [List.length_set]; exact hI2.len
   ·rw [List.getElem?_set_ne (by rintro rfl; exact hf q1), hI2.same j hj hf]
   ·rcases hI2.firm with ⟨id', g', ex, b1, b2, b3⟩ | ⟨b1, _⟩
    ·rw [q1] at b1; cases b1
     rw [q3] at b3; cases b3
     refine .inl ⟨fid, g3, ex, q1, ?_, ?_⟩
     ·rw [b2, Nr, Nr, List.length_set]
     ·rw [List.getElem?_set_self (bh q3)]
      simp [fE, List.map_set]
    ·rw [q1] at b1; cases b1
  | false =>
   rw [hk, if_neg (by simp)] at hQ
   simp only [go_sem, seval, hs, h11, hw]
   exact ih (done ++ [o]) firm _ _ Q (by rw [hdr]; simp) hfl hx (by simp only [ad, hs]) (by simp only [go_sem, seval, h0]) (by simp only [go_sem, seval, h1]) (by simp only [go_sem, seval, h9]) (by simp only [go_sem, seval, h10]) (by simp only [go_sem, seval, hs]) hI2 hQ
def D.settle (d : D) (kf : Nat -> Bool) : D := { d with firm := jm kf 0 d.firm d.loose, loose := [] }
structure SettleP (h : ah) (p : Nat) (f l : Option Nat) (d : D) (v : VV) (h' : ah) : Prop where
 v : v = .tup []
 dev : ed h' p f none d
 kept : Kept h h' p f l
theorem Pb {h : ah} {p : Nat} {f l : Option Nat} {d : D} (hD : ed h p f l d) (hO : d.OK) {fi : Nat} {caps : List VV} {kf : Nat -> Bool}
  (hfi : fi < YB) (hkf : ∀ (k : Nat) g, k < 2000000 -> (∀ j, j < h.length -> f ≠ some j -> g[j]? = h[j]?) -> call F fi ([vi .i64 k] ++ caps) g = some (.ret (vb (kf k)), g)) :
  ∃ v h', call F 54 [.ptr p 0, .func fi caps] h = some (.ret v, h') /\ SettleP h p f l (d.settle kf) v h' := by
 obtain ⟨vf, vl, a1, a2, a3⟩ := hD
 refine ej (fn := f54) rfl ?_
 simp only [f54]
 generalize hs0 : ([.ptr p 0, .func fi caps] ++ List.replicate _ VV.undef : List VV) = s
 have hs : s.length = 32 := by grind
 have h0 : s.getD 0 .undef = .ptr p 0 := by grind
 have h1 : s.getD 1 .undef = .func fi caps := by grind
 clear hs0
 obtain ⟨_, k1, _, _, _⟩ := ldp a1
 simp only [go_sem, seval, hs, h0, k1, a3.ln, Sv]
 refine f54_loop a1 a2 a3 (fun o ho => hO.l64 o ho) (by have := hO.lw; omega) hfi hkf d.loose [] d.firm _ _ _ rfl rfl hO.f64 (by grind) (by grind) (by grind) (by grind) (by grind) (by grind) ⟨Nat.le_refl _, fun _ _ _ => rfl, a2⟩ (fun s' g' b1 b2 b3 => ?_)
 have hpf : f ≠ some p := by
  rcases a2 with ⟨id, gg, ex, c1, _, c3⟩ | ⟨c1, _⟩
  ·grind
  grind
 have a1' : g'[p]? = some (.box [vf, vl, cpx d.w d.f, vb d.fused, vi .i64 d.left] false) := by rw [b3.same p (bh a1) hpf]; exact a1
 obtain ⟨s1, _, _, _⟩ := stp a1' (v := cj) rfl
 simp only [go_sem, seval, b1, b2, s1]
 refine ⟨rfl, ⟨vf, cj, ?_, ?_, .inr ⟨rfl, rfl, rfl⟩⟩, ⟨by rw [List.length_set]; exact b3.len, fun j hj x1 x2 _ => ?_⟩⟩
 ·rw [List.getElem?_set_self (bh a1')]; rfl
 ·rcases b3.firm with ⟨id, gg, ex, c1, c2, c3⟩ | e
  ·exact .inl ⟨id, gg, ex, c1, c2, by rw [List.getElem?_set_ne (by grind)]; exact c3⟩
  ·exact .inr e
 ·rw [List.getElem?_set_ne (fun e => x1 e.symm), b3.same j hj x2]
theorem Zw (v : VV) (g : ah) : call F 58 [v] g = some (.ret (vb true), g) := by
 refine Hg (fn := f58) rfl ?_
 simp only [f58]
 generalize hs0 : ([v] ++ List.replicate _ VV.undef : List VV) = s
 have hs : s.length = 3 := by grind
 clear hs0
 simp only [go_sem, seval, hs]
 exact ⟨rfl, rfl⟩
def D.flush (d : D) : D := if d.dark then d else { d.burnt.settle (fun _ => true) with w := d.w, f := d.f + 1 }
theorem Om {d : D} (h : d.OK) : d.burnt.OK := by
 refine ⟨?_, ?_, ?_, ?_, ?_, ?_⟩
 ·rw [io]; exact h.f64
 ·rw [io, mm]; exact h.l64
 ·rw [io]; exact h.n
 ·rw [mm]; exact h.lw
 ·rw [Ee]; exact h.w
 ·rw [ra]; exact h.f
structure FlushP (h : ah) (p : Nat) (f l : Option Nat) (d : D) (v : VV) (h' : ah) : Prop where
 v : v = .tup []
 m : ∃ l', Moved h h' p f l l' d
theorem vn {h : ah} {p : Nat} {f l : Option Nat} {d : D} (hD : ed h p f l d) (hO : d.OK) (hf : d.f < 900000) : ∃ v h', call F 32 [.ptr p 0] h = some (.ret v, h') /\ FlushP h p f l d.flush v h' := by
 refine ej (fn := f32) rfl ?_
 simp only [f32]
 generalize hs0 : ([.ptr p 0] ++ List.replicate _ VV.undef : List VV) = s
 have hs : s.length = 18 := by grind
 have h0 : s.getD 0 .undef = .ptr p 0 := by grind
 clear hs0
 simp only [go_sem, seval, hs]
 rw [bf f32_0.eq_1]
 obtain ⟨g1, hc1, hD1, hK1⟩ := Mi hD
 simp only [go_sem, seval, hs, h0, alu]
 refine ao (by simp only [List.map, go_sem, seval, hs]; exact hc1) ?_
 unfold D.flush
 cases hdk : d.dark with
 | true =>
  have e : d.burnt = d := by unfold D.burnt; grind
  rw [e] at hD1
  simp only [go_sem, seval, hs]
  exact ⟨rfl, l, hD1, hK1, Gv.refl _ _⟩
 | false =>
  obtain ⟨v2, g2, hc2, hP2⟩ := Pb hD1 (Om hO) (fi := 58) (caps := []) (kf := fun _ => true) (by decide) (fun k g _ _ => Zw _ g)
  simp only [go_sem, seval, hs, h0]
  refine ao (by simp only [List.map, go_sem, seval, hs]; exact hc2) ?_
  obtain ⟨vf, vl, b1, b2, b3⟩ := hP2.dev
  obtain ⟨_, _, m2, _, _⟩ := ldp b1
  have hadd : ky .add (cpx (d.burnt.settle fun _ => true).w (d.burnt.settle fun _ => true).f) (.cv (.sc (.complex .f64 0 4607182418800017408))) = some (cpx d.w (d.f + 1)) := by
   have x1 := aa8 d.f (by omega)
   have x2 := Tu d.w (by have := hO.w; omega)
   have y1 : (d.burnt.settle fun _ => true).w = d.w := Ee d
   have y2 : (d.burnt.settle fun _ => true).f = d.f := ra d
   rw [y1, y2]
   simp [ky, sw, x1, x2]
  obtain ⟨_, s2, _, _⟩ := stp b1 (v := cpx d.w (d.f + 1)) rfl
  simp only [go_sem, seval, hs, h0, m2, hadd, s2]
  obtain ⟨t1, t2⟩ := ed.turn (d' := { d.burnt.settle (fun _ => true) with w := d.w, f := d.f + 1 }) b1 b2 b3 rfl rfl
  have y1 : (d.burnt.settle fun _ => true).w = d.w := Ee d
  simp only [y1] at t1 t2
  exact ⟨rfl, none, t1, (hK1.trans hP2.kept (fun _ e => .inl e)).trans t2 (fun _ e => by cases e), fun _ e => by cases e⟩
open Go Go.Vm
open Go Go.Vm
theorem aie {d : D} {i : Int} (h : d.has i = true) : 0 <= i /\ i.toNat < d.firm.length := by
 unfold D.has at h
 have : 0 <= i /\ i < (d.firm.length : Int) := by simpa using h
 omega
theorem aao {d : D} (h : d.OK) (hw : d.w < 900000) (hl : d.loose.length < 900000) (i : Int) (b : List UInt8) : (d.write i b).1.OK := by
 unfold D.write
 split
 ·exact h
 ·split
  ·exact h
  ·split
   ·exact h
   ·rename_i c1 c2 c3
    have hh := aie (d := d) (i := i) (by simpa using c1)
    refine ⟨?_, ?_, ?_, ?_, ?_, ?_⟩
    ·show ∀ b ∈ d.burnt.firm, b.length = 64
     rw [io]; exact h.f64
    ·show ∀ o ∈ d.loose ++ [(i.toNat, pad b)], o.2.length = 64 /\ o.1 < d.burnt.firm.length
     rw [io]
     intro o ho
     rcases List.mem_append.1 ho with e | e
     ·exact h.l64 o e
     ·rw [List.mem_singleton.1 e]
      exact ⟨Kx (by omega), hh.2⟩
    ·show d.burnt.firm.length <= 4096
     rw [io]; exact h.n
    ·show (d.loose ++ [(i.toNat, pad b)]).length <= 1000000
     simp; omega
    ·show d.w + 1 < 1000000
     omega
    ·show d.burnt.f < 1000000
     rw [ra]; exact h.f
theorem Cx {kf : Nat -> Bool} : ∀ {l : List (Nat × List UInt8)} {k : Nat} {firm : List (List UInt8)}, (∀ b ∈ firm, b.length = 64) -> (∀ o ∈ l, o.2.length = 64) -> ∀ b ∈ jm kf k firm l, b.length = 64
 | [], _, _, h, _ => h
 | o :: l, k, firm, h, hl => by
  show ∀ b ∈ jm kf (k + 1) (if kf k then firm.set o.1 o.2 else firm) l, b.length = 64
  refine Cx ?_ (fun o ho => hl o (List.mem_cons_of_mem _ ho))
  split
  ·intro b hb
   rcases List.mem_or_eq_of_mem_set hb with e | e
   ·exact h b e
   ·rw [e]; exact hl o List.mem_cons_self
  ·exact h
theorem Wj {d : D} (h : d.OK) (kf : Nat -> Bool) : (d.settle kf).OK := by
 refine ⟨Cx h.f64 (fun o ho => (h.l64 o ho).1), fun o ho => (by cases ho), ?_, by simp [D.settle], h.w, h.f⟩
 show (jm kf 0 d.firm d.loose).length <= 4096
 rw [wz]; exact h.n
theorem aad {d : D} (h : d.OK) (hf : d.f < 900000) : d.flush.OK := by
 unfold D.flush
 split
 ·exact h
 ·have := Wj (Om h) (fun _ => true)
  exact ⟨this.f64, this.l64, this.n, this.lw, h.w, by show d.f + 1 < 1000000; omega⟩
theorem sl1 (x : UInt8) : SlV 1 (eB [x]) (.cv (.sl 1 [[.sc (.int .u8 x.toNat)]] true)) := .inr ⟨true, rfl⟩
open Go Go.Vm
theorem Xy {P : VV -> ah -> Prop} {s : List VV} {h : ah} {a m n id : Nat} {cells : List VV} {fr : Bool} (ha : s.getD a .undef = .ptr id 0) (ho : h[id]? = some (.box cells fr)) (hn : cells.length = n) (hm : m < s.length)
  (hP : P (.tup [.agg cells, s.getD m .undef]) h) : RQ [.cell a true n, .t m] P .ret ⟨s, h⟩ := by
 subst hn
 refine ⟨trivial, [.agg cells, s.getD m .undef], ?_, hP⟩
 simp only [kd, xw, kt hm, ha, ho, List.drop_zero, List.take_length, dj, if_true]
end Go.V08
