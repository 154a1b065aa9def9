/- Part of a proof: of what it says, and when, each theorem tells itself. -/
import Derived.Test.YtbhoknaipfnlnaaC08All4
import Derived.Test.YtbhoknaipfnlnaaVmAll2
import Derived.Test.YtbhoknaipfnlnaaC08Ir
set_option linter.unusedSimpArgs false
set_option linter.unusedVariables false
namespace Go.V08
open Go Go.Vm
def md (k : Nat) : Nat -> List UInt8 -> List (List UInt8)
 | 0, _ => []
 | m + 1, l => if l = [] then [] else l.take k :: md k m (l.drop k)
def pcs (k : Nat) (l : List UInt8) : List (List UInt8) := md k l.length l
theorem Eo (k : Nat) : ∀ (m : Nat) (l : List UInt8), (md k m l).length <= m
 | 0, _ => by simp [md]
 | m + 1, l => by
  unfold md
  split
  ·simp
  ·have := Eo k m (l.drop k); rw [List.length_cons]; omega
theorem akp {h : ah} {z : Nat} {es : List (List CV)} {v : VV} (hv : SlV z es v) {k1 k2 k3 : IntKind} {a b : Nat} (hab : a <= b) (hb : b <= es.length) :
  ∃ v', SlV z ((es.drop a).take (b - a)) v' /\ slO h z v (some (vi k1 a)) (some (vi k2 b)) (some (vi k3 b)) = some (v', h) := by
 rcases hv with ⟨rfl, rfl⟩ | ⟨ex, rfl⟩
 ·simp at hb
  have ha : a = 0 := by omega
  subst hb ha
  exact ⟨bq, .inl ⟨rfl, by simp⟩, by simp [slO, ak, mj, ly, bnd, pj]⟩
 ·refine ⟨.cv (.sl z ((es.drop a).take (b - a)) true), .inr ⟨_, rfl⟩, ?_⟩
  have h1 : (a : Int) <= (b : Int) := by omega
  have h2 : (b : Int) <= (es.length : Int) := by omega
  simp [slO, ak, mj, ly, bnd, pj, h1, h2]
theorem Tv {N : Nat} {s0 : List VV} (hs0 : s0.length = 13) (k2 : s0.getD 2 .undef = .ptr (N + 2) 0) {g : ah} {va : VV} {els : List (List CV)} (hA : g[N + 2]? = some (.box [va] false)) (hB : er g 1 els va) {p0 : Option Jmp} (hp : g[N + 3]? = some (.loop [7] f72_0 f72_1 s0 .ready p0))
  {c : CV} (hl : els.length <= 1000000000) :
  ∃ h' va', call F (YB + (N + 3)) [.cv c] g = some (.ret (vb true), h') /\ h'[N + 3]? = some (.loop [7] f72_0 f72_1 s0 .ready none) /\ h'[N + 2]? = some (.box [va'] false) /\ er h' 1 (els ++ [[c]]) va' /\ (∀ (j : Nat), j ≠ N + 2 -> ∀ (cells : List VV) (fr : Bool), g[j]? = some (.box cells fr) -> h'[j]? = some (.box cells fr)) := by
 have key := Gy (F := F) (id := N + 3) (by cases h : F (YB + (N + 3)) with
  | none => rfl
  | some fn => have := tlt h; omega) (ps := [7]) (asg := f72_0) (body := f72_1) (s0 := s0) (a := [.cv c]) (h := g) (P := fun v h' => v = vb true /\ ∃ va', h'[N + 3]? = some (.loop [7] f72_0 f72_1 s0 .ready none) /\ h'[N + 2]? = some (.box [va'] false) /\ er h' 1 (els ++ [[c]]) va' /\ (∀ (j : Nat), j ≠ N + 2 -> ∀ (cells : List VV) (fr : Bool), g[j]? = some (.box cells fr) -> h'[j]? = some (.box cells fr))) hp rfl ?_
 ·obtain ⟨v, h', e1, rfl, va', e2⟩ := key
  exact ⟨h', va', e1, e2⟩
 have hset : tl s0 [7] [.cv c] = s0.set 7 (.cv c) := rfl
 rw [hset, bg f72_0.eq_1]
 simp only [go_sem, seval, hs0]
 refine ⟨rfl, p0, hp, ?_⟩
 dsimp only
 have hp1 : (g.set (N + 3) (.loop [7] f72_0 f72_1 s0 .busy p0))[N + 3]? = some (.loop [7] f72_0 f72_1 s0 .busy p0) := List.getElem?_set_self (df hp)
 have hA1 : (g.set (N + 3) (.loop [7] f72_0 f72_1 s0 .busy p0))[N + 2]? = some (.box [va] false) := by rw [List.getElem?_set_ne (by omega)]; exact hA
 have hB1 := hB.setLoop hp (.loop [7] f72_0 f72_1 s0 .busy p0)
 have kp : ∀ (j : Nat) (cells : List VV) (fr : Bool), g[j]? = some (.box cells fr) -> (g.set (N + 3) (.loop [7] f72_0 f72_1 s0 .busy p0))[j]? = some (.box cells fr) := fun j cells fr hj => by
  rw [List.getElem?_set_ne (by rintro rfl; rw [hp] at hj; cases hj)]; exact hj
 generalize g.set (N + 3) (.loop [7] f72_0 f72_1 s0 .busy p0) = g1 at hp1 hA1 hB1 kp
 have m1 : ∀ h : ah, mkO h 1 1 [.cv (.sc (.slice none 0 0))] [(0, 1, .cv c)] = some (.cv (.sl 1 [[c]] true), h) := fun _ => rfl
 rw [bg f72_1.eq_1]
 simp only [go_sem, seval, hs0, k2, il hA1, m1]
 refine Nm hB1 (new := [[c]]) (by simp only [go_sem, seval, hs0]) (by simp only [go_sem, seval, hs0]) (by simp only [List.length_singleton]; omega) (by simp only [List.length_singleton]; omega) (fun va' g2 B2 kg => ?_)
 have hA2 := kg.box hA1
 have hp2 := kg.loop hp1
 have st2 := zl (v := va') B2.vf_cell hA2 (show 0 < 1 by decide)
 simp only [List.set_cons_zero] at st2
 simp only [go_sem, seval, hs0, k2, st2]
 refine ⟨none, .busy, p0, rfl, by rw [List.getElem?_set_ne (by omega)]; exact hp2, rfl, va', List.getElem?_set_self (by rw [List.length_set]; exact df hp2), ?_, ?_, ?_⟩
 ·rw [List.getElem?_set_ne (by omega)]; exact List.getElem?_set_self (df hA2)
 ·refine er.setLoop (ps := [7]) (a := f72_0) (b := f72_1) (s := s0) (t := .busy) (p := p0) (B2.setBox hA2 _) (by rw [List.getElem?_set_ne (by omega)]; exact hp2) _
 ·intro j hj cells fr ho
  have h1 := kg.box (kp j cells fr ho)
  have : j ≠ N + 3 := by rintro rfl; rw [hp] at ho; cases ho
  rw [List.getElem?_set_ne (fun e => this e.symm), List.getElem?_set_ne (fun e => hj e.symm)]; exact h1
theorem f73_loop {N k : Nat} (hk : 0 < k) (hk2 : k <= 1000000) {s0 : List VV} (hs0 : s0.length = 13) (k2 : s0.getD 2 .undef = .ptr (N + 2) 0) {b : List UInt8} {u : VV} (hu : SlV 1 (eB b) u) (hbl : b.length <= 1000000000) :
  ∀ (m i : Nat) (els : List (List CV)) (va : VV) (ps : List (List UInt8)) (s : List VV) (g : ah) (Q : Pst), i + m = b.length -> els.length <= i -> g[N]? = some (.box [u] false) -> g[N + 1]? = some (.box [vi .i64 k] false) -> g[N + 2]? = some (.box [va] false) -> er g 1 els va -> PgE els ps ->
   g[N + 3]? = some (.loop [7] f72_0 f72_1 s0 .ready none) -> s.length = 31 -> s.getD 0 .undef = .yield (N + 3) -> s.getD 1 .undef = .ptr N 0 -> s.getD 2 .undef = .ptr (N + 1) 0 -> s.getD 4 .undef = vi .i64 i ->
   (∀ s' g' els' va', s'.length = 31 -> g'[N + 2]? = some (.box [va'] false) -> er g' 1 els' va' -> PgE els' (ps ++ md k m (b.drop i)) -> g'[N + 3]? = some (.loop [7] f72_0 f72_1 s0 .ready none) -> Q (.exit 0) ⟨s', g'⟩) -> X F (.loop f73_0) ⟨s, g⟩ Q := by
 intro m
 induction m using Nat.strongRecOn with
 | _ m ih =>
  intro i els va ps s g Q hi hel hN hN1 hA hB hP hp hs e0 e1 e2 e4 hQ
  by_cases hm : m = 0
  ·subst hm
   have c : ¬ ((i : Nat) : Int) < (b.length : Int) := by omega
   rw [au, bg f73_0.eq_1]
   simp only [go_sem, seval, hs, e4, e1, il hN, hu.ln, aw, c]
   exact hQ _ g els va (by simp only [ac, hs]) hA hB (by simpa [md] using hP) hp
  ·have c : ((i : Nat) : Int) < (b.length : Int) := by omega
   obtain ⟨m', rfl⟩ : ∃ m', m = m' + 1 := ⟨m - 1, by omega⟩
   obtain ⟨w1, w1a, w1b⟩ := hu.from_ (h := g) (k := .i64) (a := (i : Int)) (by omega) (by rw [aw]; omega)
   rw [Int.toNat_natCast, Vh] at w1a
   have hln := w1a.ln
   rw [aw, List.length_drop] at hln
   have hmn : min (k : Int) ((b.length - i : Nat) : Int) = ((min k (b.length - i) : Nat) : Int) := by omega
   have hend : IntKind.i64.wrap ((i : Int) + ((min k (b.length - i) : Nat) : Int)) = ((i + min k (b.length - i) : Nat) : Int) := by rw [IntWalk.i64_in _ (by omega)]; omega
   have hnx : IntKind.i64.wrap ((i : Int) + (k : Int)) = ((i + k : Nat) : Int) := by rw [IntWalk.i64_in _ (by omega)]; omega
   obtain ⟨w2, w2a, w2b⟩ := akp (h := g) hu (k1 := .i64) (k2 := .i64) (k3 := .i64) (a := i) (b := i + min k (b.length - i)) (by omega) (by rw [aw]; omega)
   rw [Em, Nat.add_sub_cancel_left] at w2a
   have htk : (b.drop i).take (min k (b.length - i)) = (b.drop i).take k := by
    rw [List.take_eq_take_iff, List.length_drop]; omega
   rw [htk] at w2a
   obtain ⟨c2, rfl⟩ : ∃ c2, w2 = .cv c2 := by rcases w2a with ⟨rfl, _⟩ | ⟨ex, rfl⟩ <;> exact ⟨_, rfl⟩
   obtain ⟨g2, va2, n2, hp2, hA2, hB2, kp2⟩ := Tv hs0 k2 hA hB hp (c := c2) (by omega)
   have hne : b.drop i ≠ [] := by
    intro e
    have := congrArg List.length e
    rw [List.length_drop, List.length_nil] at this; omega
   have hpc : md k (m' + 1) (b.drop i) = (b.drop i).take k :: md k m' ((b.drop i).drop k) := by
    rw [md, if_neg hne]
   rw [hpc] at hQ
   rw [au, bg f73_0.eq_1]
   simp only [go_sem, seval, hs, e4, e1, il hN, hu.ln, aw, c]
   refine kh rfl ?_
   simp only [go_sem, seval, hs, e4, e1, e2, il hN, il hN1, w1b, hln, hmn]
   simp only [go_sem, seval, hs, e4, e1, e0, il hN, hend, w2b]
   refine Gp (id := N + 3) (by simp only [go_sem, seval, hs]) (by simp only [List.map, go_sem, seval, hs]; exact n2) ?_
   have hN2 := kp2 N (by omega) _ _ hN
   have hN12 := kp2 (N + 1) (by omega) _ _ hN1
   simp only [go_sem, seval, hs, e4, e2, il hN12, hnx]
   by_cases hlast : b.length <= i + k
   ·-- the last one
    have hdk : (b.drop i).drop k = [] := by rw [List.drop_drop]; exact List.drop_eq_nil_of_le (by omega)
    have hnil : ∀ n, md k n ([] : List UInt8) = [] := fun n => by cases n <;> simp [md]
    have c9 : ¬ ((i + k : Nat) : Int) < (b.length : Int) := by omega
    rw [hdk, hnil] at hQ
    rw [au, bg f73_0.eq_1]
    simp only [go_sem, seval, hs, e1, il hN2, hu.ln, aw, c9]
    exact hQ _ g2 _ va2 (by simp only [ac, hs]) hA2 hB2 (hP.snoc w2a) hp2
   ·refine ih (m' + 1 - k) (by omega) (i + k) _ va2 (ps ++ [(b.drop i).take k]) _ _ Q (by omega) (by simp; omega) hN2 hN12 hA2 hB2 (hP.snoc w2a) hp2 (by simp only [ac, hs]) (by simp only [go_sem, seval, e0]) (by simp only [go_sem, seval, e1]) (by simp only [go_sem, seval, e2]) (by simp only [go_sem, seval, hs]) (fun s' g' els' va' a1 a2 a3 a4 a5 => hQ s' g' els' va' a1 a2 a3 ?_ a5)
    rw [List.append_assoc] at a4
    have : md k m' ((b.drop i).drop k) = md k (m' + 1 - k) (b.drop (i + k)) := by
     rw [List.drop_drop]
     have key : ∀ (n1 n2 : Nat) (l : List UInt8), l.length <= n1 -> l.length <= n2 -> md k n1 l = md k n2 l := by
      intro n1
      induction n1 with
      | zero =>
       intro n2 l h1 h2
       have : l = [] := List.eq_nil_of_length_eq_zero (by omega)
       subst this
       cases n2 <;> simp [md]
      | succ n1 ih1 =>
       intro n2 l h1 h2
       by_cases hl : l = []
       ·subst hl; cases n2 <;> simp [md]
       ·cases n2 with
        | zero => exact absurd (List.eq_nil_of_length_eq_zero (by omega)) hl
        | succ n2 =>
         have : 0 < l.length := List.length_pos_iff.2 hl
         rw [md, if_neg hl, md, if_neg hl, ih1 n2 _ (by rw [List.length_drop]; omega) (by rw [List.length_drop]; omega)]
     refine key _ _ _ (by rw [List.length_drop]; omega) (by rw [List.length_drop]; omega)
    rw [this]
    exact a4
theorem Lq {b : List UInt8} {u : VV} (hu : SlV 1 (eB b) u) (hbl : b.length <= 1000000000) {h : ah} {k N : Nat} (hk : 0 < k) (hk2 : k <= 1000000) (hN : h.length = N + 2) (hN1 : h[N]? = some (.box [u] false)) (hN2 : h[N + 1]? = some (.box [vi .i64 k] false)) :
  Ret F 44 [.func 73 [.ptr N 0, .ptr (N + 1) 0]] h fun v g => ∃ els, er g 1 els v /\ PgE els (pcs k b) := by
 have n55 : Ret F 72 [bq, .func 73 [.ptr N 0, .ptr (N + 1) 0]] h fun v g => ∃ els, er g 1 els v /\ PgE els (pcs k b) := by
  refine eE2 (fn := f72) (n := 13) rfl rfl fun s hs h0 h1 => ?_
  simp only [f72]
  simp only [go_sem, seval, hs, h0]
  rw [Xj rfl]
  simp only [go_sem, seval, hs, h1, hN]
  generalize hs1 : ((s.set 2 (VV.ptr (N + 2) 0)).set 4 bq).set 6 (.func 73 [.ptr N 0, .ptr (N + 1) 0]) = s1
  have a0 : s1.length = 13 := by rw [<- hs1]; simp only [ac, hs]
  have a2 : s1.getD 2 .undef = .ptr (N + 2) 0 := by rw [<- hs1]; simp only [go_sem, seval, hs]
  have a6 : s1.getD 6 .undef = .func 73 [.ptr N 0, .ptr (N + 1) 0] := by rw [<- hs1]; simp only [go_sem, seval, hs]
  have gl : (h ++ [VO.box [bq] false]).length = N + 3 := by rw [List.length_append, hN]; rfl
  have g0 : (h ++ [VO.box [bq] false])[N]? = some (.box [u] false) := by rw [List.getElem?_append_left (by omega)]; exact hN1
  have g1 : (h ++ [VO.box [bq] false])[N + 1]? = some (.box [vi .i64 k] false) := by rw [List.getElem?_append_left (by omega)]; exact hN2
  have g2 : (h ++ [VO.box [bq] false])[N + 2]? = some (.box [bq] false) := by rw [<- hN]; exact bh
  generalize h ++ [VO.box [bq] false] = g at gl g0 g1 g2
  have p2 : ∀ (j : Nat) (o : VO), g[j]? = some o -> (g ++ [.loop [7] f72_0 f72_1 s1 .ready none])[j]? = some o := fun j o ho => by rw [List.getElem?_append_left (df ho)]; exact ho
  have hloop : (g ++ [.loop [7] f72_0 f72_1 s1 .ready none])[N + 3]? = some (.loop [7] f72_0 f72_1 s1 .ready none) := by rw [<- gl]; exact bh
  have yy : Ret F 73 [.yield (N + 3), .ptr N 0, .ptr (N + 1) 0] (g ++ [.loop [7] f72_0 f72_1 s1 .ready none]) fun v g' => ∃ els' va', g'[N + 2]? = some (.box [va'] false) /\ er g' 1 els' va' /\ PgE els' (pcs k b) /\ g'[N + 3]? = some (.loop [7] f72_0 f72_1 s1 .ready none) := by
   refine eE3 (fn := f73) (n := 31) rfl rfl fun s hs h0 h1 h2 => ?_
   simp only [f73]
   simp only [go_sem, Nat.reduceLT, Nat.reduceEqDiff, reduceCtorEq, Int.reduceLT, Int.reduceEq, hs]
   refine f73_loop hk hk2 a0 a2 hu hbl b.length 0 [] bq [] _ _ _ (by omega) (by simp) (p2 _ _ g0) (p2 _ _ g1) (p2 _ _ g2) (er.nil _ _) .nil hloop (by simp only [ac, hs]) (by simp only [go_sem, Nat.reduceLT, Nat.reduceEqDiff, reduceCtorEq, Int.reduceLT, Int.reduceEq, h0]) (by simp only [go_sem, Nat.reduceLT, Nat.reduceEqDiff, reduceCtorEq, Int.reduceLT, Int.reduceEq, h1]) (by simp only [go_sem, Nat.reduceLT, Nat.reduceEqDiff, reduceCtorEq, Int.reduceLT, Int.reduceEq, h2]) (by simp only [go_sem, Nat.reduceLT, Nat.reduceEqDiff, reduceCtorEq, Int.reduceLT, Int.reduceEq, hs]; rfl) (fun s' g' els' va' b0 b1 b2 b3 b4 => ?_)
   simp only [go_sem, seval, b0]
   exact ⟨els', va', b1, b2, by simpa [pcs] using b3, b4⟩
  obtain ⟨v56, g3, n56, els', va', c1, c2, c3, c4⟩ := yy
  refine zk (f := 73) (caps := [.ptr N 0, .ptr (N + 1) 0]) (t := .ready) (p := none) a6 (by rw [gl]; exact n56) (by rw [gl]; exact c4) (by intro e; cases e) ?_
  rw [gl]
  have d1 : (g3.set (N + 3) (.loop [7] f72_0 f72_1 s1 .exhausted none))[N + 2]? = some (.box [va'] false) := by rw [List.getElem?_set_ne (by omega)]; exact c1
  have d2 := c2.setLoop c4 (.loop [7] f72_0 f72_1 s1 .exhausted none)
  generalize g3.set (N + 3) (.loop [7] f72_0 f72_1 s1 .exhausted none) = g4 at d1 d2
  simp only [go_sem, seval, Nb, a0, a2, il d1]
  exact ⟨els', d2, c3⟩
 obtain ⟨v, g, n1, P⟩ := n55
 have : Ret F 44 [.func 73 [.ptr N 0, .ptr (N + 1) 0]] h fun v g => ∃ els, er g 1 els v /\ PgE els (pcs k b) := by
  refine eE1 (fn := f44) (n := 5) rfl rfl fun s hs h0 => ?_
  simp only [f44]
  simp only [go_sem, seval, hs, h0]
  refine ap (by simp only [List.map, go_sem, seval, hs]; exact n1) ?_
  simp only [go_sem, seval, hs]
  exact P
 exact this
open Go Go.Vm
theorem Mc (k : Nat) (hk : 0 < k) : ∀ (n1 n2 : Nat) (l : List UInt8), l.length <= n1 -> l.length <= n2 -> md k n1 l = md k n2 l := by
 intro n1
 induction n1 with
 | zero =>
  intro n2 l h1 h2
  have : l = [] := List.eq_nil_of_length_eq_zero (by omega)
  subst this
  cases n2 <;> simp [md]
 | succ n1 ih1 =>
  intro n2 l h1 h2
  by_cases hl : l = []
  ·subst hl; cases n2 <;> simp [md]
  ·cases n2 with
   | zero => exact absurd (List.eq_nil_of_length_eq_zero (by omega)) hl
   | succ n2 =>
    have : 0 < l.length := List.length_pos_iff.2 hl
    rw [md, if_neg hl, md, if_neg hl, ih1 n2 _ (by rw [List.length_drop]; omega) (by rw [List.length_drop]; omega)]
theorem sm {k : Nat} (hk : 0 < k) {l : List UInt8} (hl : l ≠ []) : pcs k l = l.take k :: pcs k (l.drop k) := by
 unfold pcs
 have h0 : 0 < l.length := List.length_pos_iff.2 hl
 obtain ⟨m, hm⟩ : ∃ m, l.length = m + 1 := ⟨l.length - 1, by omega⟩
 rw [hm, md, if_neg hl, Mc k hk m (l.drop k).length _ (by rw [List.length_drop]; omega) (Nat.le_refl _)]
theorem Ti {k : Nat} : pcs k [] = [] := rfl
theorem Xi {k : Nat} (hk : 0 < k) : ∀ (n : Nat) (l : List UInt8), l.length <= n -> (pcs k l).length = (l.length + (k - 1)) / k
 | 0, l, h => by
  have : l = [] := List.eq_nil_of_length_eq_zero (by omega)
  subst this
  simp only [Ti, List.length_nil, Nat.zero_add]
  exact (Nat.div_eq_of_lt (by omega)).symm
 | n + 1, l, h => by
  by_cases hl : l = []
  ·subst hl
   simp only [Ti, List.length_nil, Nat.zero_add]
   exact (Nat.div_eq_of_lt (by omega)).symm
  ·have h0 : 0 < l.length := List.length_pos_iff.2 hl
   rw [sm hk hl, List.length_cons, Xi hk n (l.drop k) (by rw [List.length_drop]; omega), List.length_drop]
   by_cases hc : k <= l.length
   ·have : l.length + (k - 1) = (l.length - k + (k - 1)) + k := by omega
    rw [this, Nat.add_div_right _ hk]
   ·have e1 : l.length - k = 0 := by omega
    rw [e1, Nat.zero_add, Nat.div_eq_of_lt (by omega)]
    have : l.length + (k - 1) = (l.length - 1) + k := by omega
    rw [this, Nat.add_div_right _ hk, Nat.div_eq_of_lt (by omega)]
theorem Nh {k : Nat} {l : List UInt8} : ∀ p ∈ pcs k l, p.length <= k := by
 unfold pcs
 have key : ∀ (m : Nat) (l : List UInt8), ∀ p ∈ md k m l, p.length <= k := by
  intro m
  induction m with
  | zero => intro l p hp; simp [md] at hp
  | succ m ih =>
   intro l p hp
   unfold md at hp
   split at hp
   ·simp at hp
   ·rcases List.mem_cons.1 hp with rfl | hp
    ·rw [List.length_take]; omega
    ·exact ih _ _ hp
 exact key _ _
def ma (epoch n of_ : Nat) : Nat -> List (List UInt8) -> List (List UInt8)
 | _, [] => []
 | i, p :: r => km epoch n i of_ p :: ma epoch n of_ (i + 1) r
theorem kw {epoch n of_ : Nat} : ∀ (i : Nat) (l : List (List UInt8)), (ma epoch n of_ i l).length = l.length
 | _, [] => rfl
 | i, p :: r => by simp [ma, kw (i + 1) r]
def ey (epoch n : Int) (l : List Ch) : Option (List (List UInt8)) :=
 if kq epoch = true /\ kq n = true /\ (pcs 49 (gz l)).length <= 200 then some (ma epoch.toNat n.toNat (pcs 49 (gz l)).length 0 (pcs 49 (gz l))) else none
def Je (r : Option (List (List UInt8))) (w : VV) : Prop := match r with
 | none => w = .tup [bq, vb false]
 | some p => ∃ x els, w = .tup [x, vb true] /\ SlV 1 els x /\ PgE els p
theorem Bz {n : Int} (h : kq n = true) : n = ((n.toNat : Nat) : Int) /\ n.toNat <= 1073741824 := by
 unfold kq at h
 simp only [Bool.and_eq_true, decide_eq_true_eq] at h
 omega
theorem f19_loop {epoch n : Nat} {ps : List (List UInt8)} {elsP : List (List CV)} {u : VV} {h0 : ah} (hps : PgE elsP ps) (hu : VF h0 1 elsP u) (hp49 : ∀ p ∈ ps, p.length <= 49) (hl : ps.length <= 200) :
  ∀ (m i : Nat) (els : List (List CV)) (v : VV) (acc : List (List UInt8)) (s : List VV) (h : ah) (Q : Pst), i + m = ps.length -> els.length <= i -> NB h0 h 1 els v -> PgE els acc ->
   s.length = 48 -> s.getD 0 .undef = vi .i64 epoch -> s.getD 1 .undef = vi .i64 n -> s.getD 8 .undef = u -> s.getD 9 .undef = v -> s.getD 29 .undef = u -> s.getD 30 .undef = vi .i64 ps.length -> s.getD 31 .undef = vi .i64 i ->
   (∀ s' h' els' v', s'.length = 48 -> s'.getD 9 .undef = v' -> NB h0 h' 1 els' v' -> PgE els' (acc ++ ma epoch n ps.length i (ps.drop i)) -> Q (.exit 0) ⟨s', h'⟩) -> X F (.loop f19_2) ⟨s, h⟩ Q := by
 intro m
 have hpl := hps.len
 induction m with
 | zero =>
  intro i els v acc s h Q hi hel hB hP hs e0 e1 e8 e9 e29 e30 e31 hQ
  have c : ¬ ((i : Nat) : Int) < (ps.length : Int) := by omega
  have hd : ps.drop i = [] := List.drop_eq_nil_of_le (by omega)
  rw [hd] at hQ
  rw [au, bg f19_2.eq_1]
  simp only [go_sem, seval, hs, e31, e30]
  rw [bg f19_1.eq_1]
  simp only [go_sem, seval, hs, c]
  exact hQ _ _ els v (by simp only [ac, hs]) (by simp only [go_sem, seval, e9]) hB (by simpa [ma] using hP)
 | succ m ih =>
  intro i els v acc s h Q hi hel hB hP hs e0 e1 e8 e9 e29 e30 e31 hQ
  have c : ((i : Nat) : Int) < (ps.length : Int) := by omega
  obtain ⟨cp, b, he, hb, hc⟩ := hps.get (i := i) (by omega)
  have hd : ps.drop i = b :: ps.drop (i + 1) := by
   obtain ⟨la, rfl⟩ := List.getElem?_eq_some_iff.1 hb
   rw [List.drop_eq_getElem_cons la]
  rw [hd, ma] at hQ
  obtain ⟨q, q1, _, _, q3⟩ := (hu.ext hB.ext).cell (k := .i64) he
  have q4 := q3 _ _ rfl
  have hwr : IntKind.i64.wrap ((i : Int) + 1) = ((i + 1 : Nat) : Int) := by rw [IntWalk.i64_in _ (by omega)]; omega
  obtain ⟨v47, h47, n47, w47, r47, S47⟩ := Nq (epoch := epoch) (n := n) (i := i) (of_ := ps.length) hc (hp49 b (List.mem_of_getElem? hb))
  obtain ⟨c47, rfl⟩ : ∃ c2, w47 = .cv c2 := by rcases S47 with ⟨rfl, _⟩ | ⟨ex, rfl⟩ <;> exact ⟨_, rfl⟩
  have m1 : ∀ h : ah, mkO h 1 1 [.cv (.sc (.slice none 0 0))] [(0, 1, .cv c47)] = some (.cv (.sl 1 [[c47]] true), h) := fun _ => rfl
  have hln := (hu.ext hB.ext).ln
  rw [hpl] at hln
  rw [au, bg f19_2.eq_1]
  simp only [go_sem, seval, hs, e31, e30]
  rw [bg f19_1.eq_1]
  simp only [go_sem, seval, hs, c, e29, e31, q1, q4, e0, e1, e8, e9, hln]
  refine ao (h1 := h) (by simp only [List.map, go_sem, seval, hs]; exact ed (ed (ed (ed (hc.clos rfl))))) n47 r47 ?_
  simp only [go_sem, seval, hs, m1]
  refine nk hB (new := [[c47]]) (by simp only [go_sem, seval, hs]) (by simp only [go_sem, seval, hs]) (by simp only [List.length_singleton]; omega) (by simp only [List.length_singleton]; omega) (fun v' h' hB' _ _ _ => ?_)
  simp only [go_sem, seval, hs, e31, hwr]
  refine ih (i + 1) _ v' (acc ++ [km epoch n i ps.length b]) _ _ Q (by omega) (by simp; omega) hB' (hP.snoc S47) (by simp only [ac, hs]) (by simp only [go_sem, seval, e0]) (by simp only [go_sem, seval, e1]) (by simp only [go_sem, seval, e8]) (by simp only [go_sem, seval, hs]) (by simp only [go_sem, seval, e29]) (by simp only [go_sem, seval, e30]) (by simp only [go_sem, seval, hs]) (fun s' h2 els' v2 a1 a2 a3 a4 => hQ s' h2 els' v2 a1 a2 a3 ?_)
  rw [List.append_assoc] at a4
  exact a4
theorem Ii {epoch n : Int} {els : List (List CV)} {l : List Ch} {u : VV} (hS : SlV 3 els u) (hC : ChsE els l) (hl : (gz l).length <= 1000000) (hk : l.length <= 1000000) : Cc F 19 [vi .i64 epoch, vi .i64 n, u] (Je (ey epoch n l)) := by
 have : Ret F 19 [vi .i64 epoch, vi .i64 n, u] [] fun v g => ∃ w, av g v = some w /\ Je (ey epoch n l) w := by
  refine eE3 (fn := f19) (n := 48) rfl rfl fun s hs h0 h1 h2 => ?_
  simp only [f19]
  obtain ⟨v46, h46, n46, B46⟩ := aen els l u hS hC [] (by omega) (by omega)
  obtain ⟨w46, r46, S46⟩ : ∃ w, av h46 v46 = some w /\ SlV 1 (eB (gz l)) w := by
   have := B46.close
   exact ⟨_, this, Gl⟩
  obtain ⟨h42a, n42a⟩ := sv epoch
  obtain ⟨h42b, n42b⟩ := sv n
  have n45 : call F 45 [w46, vi .i64 49] [] = some (.ret (.func 73 [.ptr 0 0, .ptr 1 0]), [VO.box [w46] false, .box [vi .i64 49] false]) := by
   have : Ret F 45 [w46, vi .i64 49] [] fun v g => v = .func 73 [.ptr 0 0, .ptr 1 0] /\ g = [VO.box [w46] false, .box [vi .i64 49] false] := by
    refine eE2 (fn := f45) (n := 9) rfl rfl fun s hs h0 h1 => ?_
    simp only [f45]
    have cw : en w46 = true := by rcases S46 with ⟨rfl, _⟩ | ⟨ex, rfl⟩ <;> rfl
    simp only [go_sem, seval, hs, h0]
    rw [Xj cw]
    simp only [go_sem, seval, hs, h1]
    rw [Xj rfl]
    have l1 : ldO ([VO.box [w46] false, VO.box [vi .i64 49] false] : ah) false 1 (.ptr 1 0) = some (vi .i64 49, [VO.box [w46] false, VO.box [vi .i64 49] false]) := il rfl
    simp only [go_sem, seval, hs, List.nil_append, List.cons_append, List.length_nil, List.length_cons, Nat.zero_add, Nat.reduceAdd]
    rw [bg f45_0.eq_1]
    simp only [go_sem, seval, hs, l1, show ¬ (49 : Int) < 1 by decide, List.map]
    exact ⟨trivial, trivial⟩
   obtain ⟨v, h', e1, rfl, rfl⟩ := this
   exact e1
  obtain ⟨v44, h44, n44, elsP, B44, P44⟩ := Lq S46 (by omega) (h := [VO.box [w46] false, .box [vi .i64 49] false]) (k := 49) (N := 0) (by omega) (by omega) rfl rfl rfl
  have hpl := P44.len
  have hln := B44.vf.ln
  rw [hpl] at hln
  simp only [go_sem, seval, hs, h2]
  refine ao (h1 := []) (by simp only [List.map, go_sem, seval, hs]; exact hS.clos rfl) n46 r46 ?_
  simp only [go_sem, seval, hs]
  refine ap (by simp only [List.map, go_sem, seval, hs]; exact n45) ?_
  simp only [go_sem, seval, hs]
  refine ap (by simp only [List.map, go_sem, seval, hs]; exact n44) ?_
  simp only [go_sem, seval, hs]
  rw [bg f19_0.eq_1]
  simp only [go_sem, seval, hs, h0]
  refine ao (h1 := h44) (by simp only [List.map, go_sem, seval, hs]; rfl) n42a rfl ?_
  have bad : ∀ g, ey epoch n l = none -> ∃ w, av g (.tup [bq, vb false]) = some w /\ Je (ey epoch n l) w := fun g e => ⟨_, rfl, by rw [e]; rfl⟩
  by_cases c1 : kq epoch = true
  ·simp only [go_sem, seval, hs, c1, h1]
   refine ao (h1 := h44) (by simp only [List.map, go_sem, seval, hs]; rfl) n42b rfl ?_
   by_cases c2 : kq n = true
   ·obtain ⟨e1, e2⟩ := Bz c1
    obtain ⟨e3, e4⟩ := Bz c2
    by_cases c3 : (200 : Int) < ((pcs 49 (gz l)).length : Int)
    ·simp only [go_sem, seval, hs, c2, hln, gt_iff_lt, c3]
     exact bad _ (by unfold ey; rw [if_neg (by omega)])
    ·simp only [go_sem, Nat.reduceLT, Nat.reduceEqDiff, reduceCtorEq, Int.reduceLT, Int.reduceEq, hs, c2, hln, gt_iff_lt, c3]
     refine f19_loop (h0 := h44) P44 B44.vf (fun p hp => Nh p hp) (by omega) (pcs 49 (gz l)).length 0 [] bq [] _ _ _ (by omega) (by simp) (NB.nil _ _) .nil (by simp only [ac, hs]) (by simp only [go_sem, Nat.reduceLT, Nat.reduceEqDiff, reduceCtorEq, Int.reduceLT, Int.reduceEq, h0]; exact congrArg _ e1) (by simp only [go_sem, Nat.reduceLT, Nat.reduceEqDiff, reduceCtorEq, Int.reduceLT, Int.reduceEq, h1]; exact congrArg _ e3) (by simp only [go_sem, Nat.reduceLT, Nat.reduceEqDiff, reduceCtorEq, Int.reduceLT, Int.reduceEq, hs]) (by simp only [go_sem, Nat.reduceLT, Nat.reduceEqDiff, reduceCtorEq, Int.reduceLT, Int.reduceEq, hs]) (by simp only [go_sem, Nat.reduceLT, Nat.reduceEqDiff, reduceCtorEq, Int.reduceLT, Int.reduceEq, hs]) (by simp only [go_sem, Nat.reduceLT, Nat.reduceEqDiff, reduceCtorEq, Int.reduceLT, Int.reduceEq, hs]) (by simp only [go_sem, Nat.reduceLT, Nat.reduceEqDiff, reduceCtorEq, Int.reduceLT, Int.reduceEq, hs]; rfl) (fun s' h' els' v' a1 a2 a3 a4 => ?_)
     obtain ⟨w, r1, r2⟩ : ∃ w, av h' (.tup [v', vb true]) = some (.tup [w, vb true]) /\ SlV 1 els' w := by
      obtain ⟨w, g, d1, d2⟩ := a3.clos
      exact ⟨w, by simp only [av, cg d1 (ed li), Option.map], d2⟩
     simp only [go_sem, seval, a1, a2]
     refine ⟨_, r1, ?_⟩
     have : ey epoch n l = some (ma epoch.toNat n.toNat (pcs 49 (gz l)).length 0 (pcs 49 (gz l))) := by
      unfold ey; rw [if_pos ⟨c1, c2, by omega⟩]
     rw [this]
     exact ⟨w, els', rfl, r2, by simpa using a4⟩
   ·have c2' : kq n = false := by simpa using c2
    simp only [go_sem, seval, hs, c2']
    exact bad _ (by unfold ey; rw [if_neg (by simp [c2'])])
  ·have c1' : kq epoch = false := by simpa using c1
   simp only [go_sem, seval, hs, c1']
   exact bad _ (by unfold ey; rw [if_neg (by simp [c1'])])
 obtain ⟨v, g, n1, w, e1, e2⟩ := this
 exact ⟨v, g, n1, w, e1, e2⟩
open Go Go.Vm
open Go Go.Vm
def kOf (b : List UInt8) : Nat := (b.getD 10 0).toNat
def Ma (b : List UInt8) : Nat := (b.getD 9 0).toNat
def my (b : List UInt8) : List UInt8 := (b.drop 11).take (kOf b)
def pc (epoch n i of_ : Nat) (b : List UInt8) : Prop :=
 b.length = 64 /\ 1 <= kOf b /\ kOf b <= 49 /\ 1 <= of_ /\ of_ <= 200 /\ (of_ <= i + 1 \/ kOf b = 49) /\ km epoch n i of_ (my b) = b
instance {epoch n i of_ : Nat} {b : List UInt8} : Decidable (pc epoch n i of_ b) := by unfold pc; infer_instance
def frL (epoch n of_ : Nat) : Nat -> Nat -> List (List UInt8) -> List UInt8 -> Option (List UInt8)
 | 0, _, _, acc => some acc
 | m + 1, i, ss, acc => match ss with
  | [] => none
  | b :: r => if pc epoch n i of_ b then (if i + 1 < of_ then frL epoch n of_ m (i + 1) r (acc ++ my b) else some (acc ++ my b)) else none
theorem Pf {b : List UInt8} (h : b.length = 64) (h2 : kOf b <= 49) : (my b).length = kOf b := by
 unfold my; rw [List.length_take, List.length_drop]; omega
def f65_t : IR :=
 (.seq
 (.seq (.reg [
 ⟨none, (some 89), (.mv (.t 8))⟩,
 ⟨none, (some 90), (.call 84 true [(.t 89)])⟩,
 ⟨none, (some 88), (.mv (.t 90))⟩,
 ⟨none, (some 91), (.ext (.t 88) 0)⟩,
 ⟨none, (some 92), (.ext (.t 88) 1)⟩,
 ⟨none, (some 9), (.mv (.t 91))⟩,
 ⟨none, (some 10), (.mv (.t 92))⟩])
 (.seq (.reg [
 ⟨none, (some 93), (.mv (.t 10))⟩,
 ⟨none, (some 94), (.bin .eql (.t 93) (.c (.cv (.sc (.int .u16 0)))))⟩])
 (.cond (.t 94)
 (.seq (.reg [
 ⟨none, (some 95), (.mv (.t 9))⟩,
 ⟨none, (some 96), (.mv (.t 12))⟩,
 ⟨none, (some 6), (.mv (.t 95))⟩,
 ⟨none, (some 7), (.mv (.t 96))⟩])
 .ret) .skip)))
 (.seq (.label 0)
 (.seq (.reg [
 ⟨none, (some 6), (.mv (.c (.cv (.sc (.slice none 0 0)))))⟩,
 ⟨none, (some 7), (.mv (.c (.cv (.sc (.int .i64 0)))))⟩])
 .ret)))
theorem acw {b : List UInt8} {i : Nat} (h : i < b.length) : b[i]? = some (b.getD i 0) := by
 rw [List.getD_eq_getElem?_getD, List.getElem?_eq_getElem h]; rfl
section
variable {epoch n : Nat} {ss : List (List UInt8)} {elsS : List (List CV)} {u : VV} {h0 : ah}
theorem f65_loop (hP : PgE elsS ss) (hu : VF h0 1 elsS u) {of_ : Nat} (hof : ∀ b, ss[0]? = some b -> of_ = Ma b) :
  ∀ (m i : Nat) (acc : List UInt8) (va : VV) (s : List VV) (h : ah) (Q : Pst), m + i = 200 -> (i = 0 \/ (i < of_ /\ of_ <= 200)) -> i <= ss.length -> acc.length <= 49 * i -> NB h0 h 1 (eB acc) va ->
   s.length = 97 -> s.getD 0 .undef = vi .i64 epoch -> s.getD 1 .undef = vi .i64 n -> s.getD 2 .undef = u -> s.getD 8 .undef = va -> s.getD 11 .undef = vi .i64 i -> (i = 0 /\ s.getD 12 .undef = vi .i64 1 \/ s.getD 12 .undef = vi .i64 of_) ->
   (frL epoch n of_ m i (ss.drop i) acc = none -> ∀ s' h', s'.length = 97 -> s'.getD 6 .undef = bq -> s'.getD 7 .undef = vi .i64 0 -> HExt h0 h' -> Q .ret ⟨s', h'⟩) ->
   (∀ all, frL epoch n of_ m i (ss.drop i) acc = some all -> ∀ s' h' va', s'.length = 97 -> s'.getD 8 .undef = va' -> s'.getD 12 .undef = vi .i64 of_ -> NB h0 h' 1 (eB all) va' -> all.length <= 10000 -> X F f65_t ⟨s', h'⟩ (S F f65_4 Q)) -> XF F f65_4 1 ⟨s, h⟩ (S F f65_4 Q) := by
 intro m
 have hpl := hP.len
 induction m with
 | zero => intro i acc va s h Q hm hio; omega
 | succ m ih =>
  intro i acc va s h Q hm hio hile hac hB hs e0 e1 e2 e8 e11 e12 hN hY
  have bad : frL epoch n of_ (m + 1) i (ss.drop i) acc = none -> ∀ s' h', s'.length = 97 -> HExt h0 h' -> S F f65_4 Q (.goto 0) ⟨s', h'⟩ := by
   intro hno s' h' hs' hx
   rw [Pg rfl, Yg f65_4.eq_1, eh rfl, eh rfl, eh rfl, eh rfl, eh rfl, eh rfl, eh rfl, eh rfl, eh rfl, By rfl, wh]
   simp only [go_sem, seval, hs']
   exact hN hno _ h' (by simp only [ac, hs']) (by simp only [go_sem, seval, hs']) (by simp only [go_sem, seval, hs']) hx
  rw [Yg f65_4.eq_1, eh rfl, eh rfl, eh rfl, eh rfl, By rfl, wh]
  show X F (.seq f65_0 (.seq _ (.seq _ f65_t))) ⟨s, h⟩ _
  rw [af4, bg f65_0.eq_1]
  have hv := hu.ext hB.ext
  by_cases d0 : i = ss.length
  ·have d0' : (i : Int) = (elsS.length : Int) := by omega
   simp only [go_sem, seval, hs, e11, e2, hv.ln, d0']
   exact bad (by rw [d0, List.drop_length]; rfl) _ _ (by simp only [ac, hs]) hB.ext
  have d0' : ¬ (i : Int) = (elsS.length : Int) := by omega
  obtain ⟨cb, b, he, hb, hc⟩ := hP.get (i := i) (by omega)
  have hd : ss.drop i = b :: ss.drop (i + 1) := by
   obtain ⟨la, e⟩ := List.getElem?_eq_some_iff.1 hb
   rw [List.drop_eq_getElem_cons la, e]
  have hno : ¬ pc epoch n i of_ b -> frL epoch n of_ (m + 1) i (ss.drop i) acc = none := fun hn => by rw [hd]; simp only [frL]; rw [if_neg hn]
  obtain ⟨q, q1, _, _, q3⟩ := hv.cell (k := .i64) he
  have q4 := q3 _ _ rfl
  by_cases d1 : b.length = 64
  ·have d1' : ¬ ((b.length : Nat) : Int) ≠ 64 := by omega
   have i10 : ∀ g : ah, iaO g 1 (.cv cb) (vi .i64 10) = some (.rptr (bc (b.getD 10 0)), g) := fun g => hc.ia (by omega) (by show (eB b)[10]? = _; exact nw (acw (by omega)))
   have i9 : ∀ g : ah, iaO g 1 (.cv cb) (vi .i64 9) = some (.rptr (bc (b.getD 9 0)), g) := fun g => hc.ia (by omega) (by show (eB b)[9]? = _; exact nw (acw (by omega)))
   have k10 : ∀ g : ah, ldO g false 1 (.rptr (bc (b.getD 10 0))) = some (vi .u8 (kOf b), g) := fun g => iu
   have k9 : ∀ g : ah, ldO g false 1 (.rptr (bc (b.getD 9 0))) = some (vi .u8 (Ma b), g) := fun g => iu
   have hk256 : kOf b < 256 := (b.getD 10 0).toNat_lt
   have ho256 : Ma b < 256 := (b.getD 9 0).toNat_lt
   have wk : IntKind.i64.wrap (kOf b : Int) = (kOf b : Int) := IntWalk.i64_in _ (by omega)
   have wo : IntKind.i64.wrap (Ma b : Int) = (Ma b : Int) := IntWalk.i64_in _ (by omega)
   simp only [go_sem, seval, hs, e11, e2, hv.ln, d0', q1, q4, hc.ln, aw, d1', i10, k10, wk]
   refine mid (P := fun st => st.h = h /\ st.s.length = 97 /\ st.s.getD 0 .undef = vi .i64 epoch /\ st.s.getD 1 .undef = vi .i64 n /\ st.s.getD 2 .undef = u /\ st.s.getD 8 .undef = va /\ st.s.getD 11 .undef = vi .i64 i /\ st.s.getD 12 .undef = vi .i64 of_ /\ st.s.getD 13 .undef = .cv cb /\ st.s.getD 14 .undef = vi .i64 (kOf b)) ?_ ?_
   ·rw [bg f65_1.eq_1]
    by_cases d2 : i = 0
    ·have d2' : ((i : Nat) : Int) = 0 := by omega
     have e : of_ = Ma b := hof b (by rw [<- d2]; exact hb)
     simp only [go_sem, seval, hs, e11, d2', i9, k9, wo, e, e0, e1, e2, e8, and_self]
    ·have d2' : ¬ ((i : Nat) : Int) = 0 := by omega
     have e : s.getD 12 .undef = vi .i64 of_ := by
      rcases e12 with ⟨e, _⟩ | e
      ·exact absurd e d2
      ·exact e
     simp only [go_sem, seval, hs, e11, d2', e0, e1, e2, e8, e, and_self]
   ·rintro ⟨s1, h1⟩ ⟨rfl, hs1, ff0, ff1, ff2, ff8, ff11, ff12, ff13, ff14⟩
    dsimp only at hs1 ff0 ff1 ff2 ff8 ff11 ff12 ff13 ff14
    rw [af4]
    have hof256 : of_ < 256 := by
     rcases hio with h | h
     ·have := hof b (by rw [<- h]; exact hb); omega
     ·omega
    have wof : IntKind.i64.wrap ((of_ : Int) - 1) = (of_ : Int) - 1 := IntWalk.i64_in _ (by omega)
    by_cases g1 : (kOf b : Int) < 1
    ·rw [bg f65_2.eq_1]
     simp only [go_sem, seval, hs1, ff14, g1]
     exact bad (hno (fun hh => by have := hh.2.1; omega)) _ _ (by simp only [ac, hs1]) hB.ext
    by_cases g2 : (49 : Int) < (kOf b : Int)
    ·rw [bg f65_2.eq_1]
     simp only [go_sem, seval, hs1, ff14, g1, gt_iff_lt, g2]
     exact bad (hno (fun hh => by have := hh.2.2.1; omega)) _ _ (by simp only [ac, hs1]) hB.ext
    by_cases g3 : (of_ : Int) < 1
    ·rw [bg f65_2.eq_1]
     simp only [go_sem, seval, hs1, ff14, ff12, g1, gt_iff_lt, g2, g3]
     exact bad (hno (fun hh => by have := hh.2.2.2.1; omega)) _ _ (by simp only [ac, hs1]) hB.ext
    by_cases g4 : (200 : Int) < (of_ : Int)
    ·rw [bg f65_2.eq_1]
     simp only [go_sem, seval, hs1, ff14, ff12, g1, gt_iff_lt, g2, g3, g4]
     exact bad (hno (fun hh => by have := hh.2.2.2.2.1; omega)) _ _ (by simp only [ac, hs1]) hB.ext
    have w11 : IntKind.i64.wrap (11 + (kOf b : Int)) = ((11 + kOf b : Nat) : Int) := by rw [IntWalk.i64_in _ (by omega)]; omega
    have hbl := Pf d1 (by omega)
    have wi1 : IntKind.i64.wrap ((i : Int) + 1) = ((i + 1 : Nat) : Int) := by rw [IntWalk.i64_in _ (by omega)]; omega
    obtain ⟨wp, sp, psl⟩ : ∃ v', SlV 1 (eB (my b)) v' /\ ∀ g : ah, slO g 1 (.cv cb) (some (vi .i64 11)) (some (vi .i64 ((11 + kOf b : Nat) : Int))) none = some (v', g) := by
     rcases hc with ⟨e, e'⟩ | ⟨ex, e'⟩
     ·exfalso
      have := congrArg List.length e'
      rw [aw, List.length_nil] at this; omega
     ·cases e'
      refine ⟨.cv (.sl 1 (eB (my b)) (ex && (11 + kOf b == (eB b).length))), .inr ⟨_, rfl⟩, fun g => ?_⟩
      have e1 : (11 : Int) <= ((11 + kOf b : Nat) : Int) := by omega
      have e2 : ((11 + kOf b : Nat) : Int) <= ((eB b).length : Int) := by rw [aw]; omega
      have e3 : ((11 + kOf b : Nat) : Int).toNat = 11 + kOf b := by omega
      have e4 : (0 : Int) <= ((11 + kOf b : Nat) : Int) := by omega
      have e5 : (11 : Int) <= max ((11 + kOf b : Nat) : Int) 0 := by omega
      simp only [slO, ak, mj, ly, bnd, pj, Option.map_some, Option.map_none]
      rw [if_pos ⟨e4, e2⟩, e3]
      simp only
      rw [if_pos ⟨by decide, e1⟩]
      simp [Em, my]
    obtain ⟨v47, h47, n47, w47, r47, S47⟩ := Nq (epoch := epoch) (n := n) (i := i) (of_ := of_) sp (by rw [hbl]; omega)
    have neq := rp S47 hc
    by_cases hor : of_ <= i + 1 \/ kOf b = 49
    ·refine mid (P := fun st => st.h = h1 /\ st.s.length = 97 /\ st.s.getD 0 .undef = vi .i64 epoch /\ st.s.getD 1 .undef = vi .i64 n /\ st.s.getD 2 .undef = u /\ st.s.getD 8 .undef = va /\ st.s.getD 11 .undef = vi .i64 i /\ st.s.getD 12 .undef = vi .i64 of_ /\ st.s.getD 13 .undef = .cv cb /\ st.s.getD 14 .undef = vi .i64 (kOf b)) ?_ ?_
     ·rw [bg f65_2.eq_1]
      by_cases g5 : (i : Int) < (of_ : Int) - 1
      ·have g6 : ¬ (kOf b : Int) < 49 := by omega
       simp only [go_sem, seval, hs1, ff14, ff12, ff11, g1, gt_iff_lt, g2, g3, g4, wof, g5, g6, ff0, ff1, ff2, ff8, ff13, and_self]
      ·simp only [go_sem, seval, hs1, ff14, ff12, ff11, g1, gt_iff_lt, g2, g3, g4, wof, g5, ff0, ff1, ff2, ff8, ff13, and_self]
     rintro ⟨s2, h1'⟩ ⟨e, hs2, p0, p1, p2, p8, p11, p12, p13, p14⟩
     dsimp only at e hs2 p0 p1 p2 p8 p11 p12 p13 p14
     subst e
     simp only [go_sem, seval, hs2]
     rw [bg f65_3.eq_1]
     simp only [go_sem, seval, hs2, p0, p1, p11, p12, p13, p14, w11, psl]
     refine ao (h1 := h1') (by simp only [List.map, go_sem, seval, hs2]; exact ed (ed (ed (ed (sp.clos rfl))))) n47 r47 ?_
     simp only [go_sem, seval, hs2, p13]
     refine ao (h1 := h1') (by simp only [List.map, go_sem, seval, hs2]; exact S47.clos (hc.clos rfl)) neq rfl ?_
     by_cases g5 : km epoch n i of_ (my b) = b
     ·have hok : pc epoch n i of_ b := ⟨d1, by omega, by omega, by omega, by omega, hor, g5⟩
      simp only [go_sem, seval, hs2, g5, decide_true, p8, p13, p14, w11, psl]
      refine nk hB (new := eB (my b)) (by simp only [go_sem, seval, hs2]) (by simp only [go_sem, seval, hs2]; exact sp.src) (by rw [aw, aw]; omega) (by rw [aw, aw]; omega) (fun v' h' hB' _ _ _ => ?_)
      rw [<- iz] at hB'
      have hfr : frL epoch n of_ (m + 1) i (ss.drop i) acc = if i + 1 < of_ then frL epoch n of_ m (i + 1) (ss.drop (i + 1)) (acc ++ my b) else some (acc ++ my b) := by
       rw [hd]; simp only [frL]; rw [if_pos hok]
      rw [hfr] at hN hY
      simp only [go_sem, seval, hs2, p11, p12, wi1]
      by_cases g6 : i + 1 < of_
      ·have g6' : ((i + 1 : Nat) : Int) < (of_ : Int) := by omega
       rw [if_pos g6] at hN hY
       simp only [go_sem, seval, hs2, g6']
       rw [Pg rfl]
       exact ih (i + 1) (acc ++ my b) v' _ _ Q (by omega) (.inr ⟨g6, by omega⟩) (by omega) (by rw [List.length_append]; omega) hB' (by simp only [ac, hs2]) (by simp only [go_sem, seval, p0]) (by simp only [go_sem, seval, p1]) (by simp only [go_sem, seval, p2]) (by simp only [go_sem, seval, hs2]) (by simp only [go_sem, seval, hs2]) (.inr (by simp only [go_sem, seval, p12])) hN hY
      ·have g6' : ¬ ((i + 1 : Nat) : Int) < (of_ : Int) := by omega
       rw [if_neg g6] at hN hY
       simp only [go_sem, seval, hs2, g6']
       exact hY _ rfl _ _ v' (by simp only [ac, hs2]) (by simp only [go_sem, seval, hs2]) (by simp only [go_sem, seval, p12]) hB' (by rw [List.length_append]; omega)
     ·simp only [go_sem, seval, hs2, g5, decide_false]
      exact bad (hno (fun hh => g5 hh.2.2.2.2.2.2)) _ _ (by simp only [ac, hs2]) hB.ext
    ·have g5 : (i : Int) < (of_ : Int) - 1 := by omega
     have g6 : (kOf b : Int) < 49 := by omega
     rw [bg f65_2.eq_1]
     simp only [go_sem, seval, hs1, ff14, ff12, ff11, g1, gt_iff_lt, g2, g3, g4, wof, g5, g6]
     exact bad (hno (fun hh => hor hh.2.2.2.2.2.1)) _ _ (by simp only [ac, hs1]) hB.ext
  ·have d1' : ((b.length : Nat) : Int) ≠ 64 := by omega
   simp only [go_sem, seval, hs, e11, e2, hv.ln, d0', q1, q4, hc.ln, aw, d1']
   exact bad (hno (fun hh => d1 hh.1)) _ _ (by simp only [ac, hs]) hB.ext
end
open Go Go.Vm
def ofS (ss : List (List UInt8)) : Nat := match ss with
 | [] => 0
 | b :: _ => Ma b
def tq (epoch n : Nat) (ss : List (List UInt8)) : Option (List UInt8) := frL epoch n (ofS ss) 200 0 ss []
def eo (epoch n : Nat) (ss : List (List UInt8)) : List (List CV) × Nat := match tq epoch n ss with
 | none => ([], 0)
 | some all => if (io (dv all) all).2 = 0 then ((io (dv all) all).1, ofS ss) else ([], 0)
def ada (r : List (List CV) × Nat) (w : VV) : Prop := ∃ x, w = .tup [x, vi .i64 (r.2 : Nat)] /\ SlV 3 r.1 x
section
variable {epoch n : Nat} {ss : List (List UInt8)} {elsS : List (List CV)} {u : VV} {h : ah}
theorem Yb (hP : PgE elsS ss) (hu : VF h 1 elsS u) : Ret F 65 [vi .i64 epoch, vi .i64 n, u] h fun v g => HExt h g ∧ ada (eo epoch n ss) v := by
  refine eE3 (fn := f65) (n := 97) rfl rfl fun s hs h0 h1 h2 => ?_
  simp only [f65]
  have hof : ∀ b, ss[0]? = some b → ofS ss = Ma b := by
    intro b hb
    cases ss with
    | nil => cases hb
    | cons c r => cases hb; rfl
  have key : ∀ (s : List VV), s.length = 97 → s.getD 0 .undef = vi .i64 epoch → s.getD 1 .undef = vi .i64 n → s.getD 2 .undef = u → s.getD 8 .undef = bq → s.getD 11 .undef = vi .i64 0 → s.getD 12 .undef = vi .i64 1 →
      XF F f65_4 1 ⟨s, h⟩ (S F f65_4 (RQ [.t 6, .t 7] fun v g => HExt h g ∧ ada (eo epoch n ss) v)) := by
    intro s hs e0 e1 e2 e8 e11 e12
    refine f65_loop (of_ := ofS ss) hP hu hof 200 0 [] bq s h _ rfl (.inl rfl) (by omega) (by simp) (NB.nil _ _) hs e0 e1 e2 e8 e11 (.inl ⟨rfl, e12⟩) ?_ ?_
    · intro hno s' h' hs' e6 e7 hx
      rw [List.drop_zero] at hno
      have hf : eo epoch n ss = ([], 0) := by unfold eo tq; rw [hno]
      simp only [go_sem, seval, hs', e6, e7]
      exact ⟨hx, bq, by rw [hf]; rfl, by rw [hf]; exact .inl ⟨rfl, rfl⟩⟩
    · intro all hso s' h' va' hs' e8' e12' hB hlen
      rw [List.drop_zero] at hso
      obtain ⟨w, h1, c1, c2, c3, _⟩ := hB.bsrc.cl
      obtain ⟨v54, h54, n54, r54⟩ := Ml all w c2 (by omega)
      have r54' : av h54 v54 = some (.tup [slV 3 (io (dv all) all).1, vi .u16 (io (dv all) all).2]) := r54
      unfold f65_t
      simp only [go_sem, seval, hs', e8']
      refine ao (h1 := h1) (by simp only [List.map, go_sem, seval, hs', e8']; exact c1) n54 r54' ?_
      by_cases d : (io (dv all) all).2 = 0
      · have d' : (((io (dv all) all).2 : Nat) : Int) = 0 := by omega
        have hf : eo epoch n ss = ((io (dv all) all).1, ofS ss) := by unfold eo tq; rw [hso]; simp only; rw [if_pos d]
        simp only [go_sem, seval, hs', d', e12']
        exact ⟨c3, _, by rw [hf], by rw [hf]; exact Gl⟩
      · have d' : ¬ (((io (dv all) all).2 : Nat) : Int) = 0 := by omega
        have hf : eo epoch n ss = ([], 0) := by unfold eo tq; rw [hso]; simp only; rw [if_neg d]
        simp only [go_sem, seval, hs', d']
        exact ⟨c3, bq, by rw [hf]; rfl, by rw [hf]; exact .inl ⟨rfl, rfl⟩⟩
  simp only [go_sem, seval, hs]
  have k := key ((((((((s.set 6 bq).set 7 (vi .i64 0)).set 8 bq).set 9 bq).set 10 (vi .u16 0)).set 11 (vi .i64 0)).set 12 (vi .i64 1))) (by simp only [ac, hs]) (by simp only [go_sem, seval, h0]) (by simp only [go_sem, seval, h1]) (by simp only [go_sem, seval, h2]) (by simp only [go_sem, seval, hs]) (by simp only [go_sem, seval, hs]) (by simp only [go_sem, seval, hs])
  rw [Yg f65_4.eq_1, eh rfl, eh rfl, eh rfl, eh rfl, By rfl, wh] at k
  rw [bg f65_4.eq_1]
  simp only [go_sem, seval, hs] at k ⊢
  exact k
end
theorem Xm {epoch n of_ : Nat} : ∀ (m i : Nat) (ss : List (List UInt8)) (acc all : List UInt8), i < of_ -> of_ <= m + i -> frL epoch n of_ m i ss acc = some all -> of_ - i <= ss.length
 | 0, i, ss, acc, all, h1, h2, h => by omega
 | m + 1, i, [], acc, all, h1, h2, h => by simp [frL] at h
 | m + 1, i, b :: r, acc, all, h1, h2, h => by
  simp only [frL] at h
  split at h
  ·split at h
   ·rename_i g
    have := Xm m (i + 1) r _ all g (by omega) h
    rw [List.length_cons]; omega
   ·rw [List.length_cons]; omega
  ·cases h
theorem Xd {epoch n of_ m i : Nat} {b : List UInt8} {r : List (List UInt8)} {acc all : List UInt8} (h : frL epoch n of_ (m + 1) i (b :: r) acc = some all) : pc epoch n i of_ b := by
 simp only [frL] at h
 split at h
 ·rename_i g; exact g
 ·cases h
theorem ad8 {epoch n of_ m i : Nat} {acc : List UInt8} : frL epoch n of_ (m + 1) i [] acc = none := rfl
theorem Rq {epoch n : Nat} {ss : List (List UInt8)} : (eo epoch n ss).2 <= ss.length := by
 unfold eo
 split
 ·simp
 ·rename_i all ha
  split
  ·unfold tq at ha
   cases ss with
   | nil => rw [show (200 : Nat) = 199 + 1 from rfl, ad8] at ha; cases ha
   | cons b r =>
    have ho : 1 <= ofS (b :: r) /\ ofS (b :: r) <= 200 := by
     have g := Xd (m := 199) ha
     exact ⟨g.2.2.2.1, g.2.2.2.2.1⟩
    have := Xm 200 0 (b :: r) [] all (by omega) (by omega) ha
    simpa using this
  ·simp
inductive FrE : List (List CV) -> List (List (List CV)) -> Prop
 | nil : FrE [] []
 | cons {c : CV} {b : List (List CV)} {l : List (List CV)} {k : List (List (List CV))} (h : SlV 3 b (.cv c)) (t : FrE l k) : FrE ([c] :: l) (b :: k)
theorem FrE.len {l : List (List CV)} {k : List (List (List CV))} (h : FrE l k) : l.length = k.length := by
 induction h with
 | nil => rfl
 | cons _ _ ih => simp [ih]
theorem FrE.app {l m : List (List CV)} {k j : List (List (List CV))} (h : FrE l k) (h2 : FrE m j) : FrE (l ++ m) (k ++ j) := by
 induction h with
 | nil => exact h2
 | cons h _ ih => exact .cons h ih
theorem FrE.get {l : List (List CV)} {k : List (List (List CV))} (h : FrE l k) {i : Nat} (hi : i < k.length) : ∃ c b, l[i]? = some [c] /\ k[i]? = some b /\ SlV 3 b (.cv c) := by
 induction h generalizing i with
 | nil => simp at hi
 | cons h t ih =>
  cases i with
  | zero => exact ⟨_, _, rfl, rfl, h⟩
  | succ i => obtain ⟨c, b, h1, h2, h3⟩ := ih (i := i) (by simpa using hi); exact ⟨c, b, by simpa using h1, by simpa using h2, h3⟩
def rdA (epoch : Nat) : Nat -> Nat -> List (List UInt8) -> List (List (List CV)) × Nat
 | 0, _, _ => ([], 0)
 | m + 1, n, ss => if (eo epoch n ss).2 = 0 then ([], 0) else ((eo epoch n ss).1 :: (rdA epoch m (n + 1) (ss.drop (eo epoch n ss).2)).1, (eo epoch n ss).2 + (rdA epoch m (n + 1) (ss.drop (eo epoch n ss).2)).2)
def td (epoch : Int) (ss : List (List UInt8)) : List (List (List CV)) × Nat := if kq epoch = true then rdA epoch.toNat (ss.length + 1) 0 ss else ([], 0)
def am0 (r : List (List (List CV)) × Nat) (w : VV) : Prop := ∃ x els, w = .tup [x, vi .i64 (r.2 : Nat)] /\ SlV 1 els x /\ FrE els r.1
theorem aeb {els : List (List CV)} {k : List (List UInt8)} (h : PgE els k) (n : Nat) : PgE (els.drop n) (k.drop n) := by
 induction h generalizing n with
 | nil => simp; exact .nil
 | cons h t ih =>
  cases n with
  | zero => exact .cons h t
  | succ n => exact ih n
section
variable {epoch : Int} {ss : List (List UInt8)} {elsS : List (List CV)} {u : VV} {h0 : ah}
theorem f37_loop (hP : PgE elsS ss) (hu : VF h0 1 elsS u) (hl : ss.length <= 1000000000) (he : kq epoch = true) :
  ∀ (m n at_ : Nat) (acc : List (List (List CV))) (els : List (List CV)) (va : VV) (s : List VV) (h : ah) (Q : Pst), ss.length - at_ < m -> n <= at_ -> at_ <= ss.length -> acc.length = n -> NB h0 h 1 els va -> FrE els acc ->
   s.length = 33 -> s.getD 0 .undef = vi .i64 epoch -> s.getD 1 .undef = u -> s.getD 6 .undef = va -> s.getD 7 .undef = vi .i64 at_ ->
   (∀ s' h' els' va', s'.length = 33 -> s'.getD 6 .undef = va' -> s'.getD 7 .undef = vi .i64 ((at_ + (rdA epoch.toNat m n (ss.drop at_)).2 : Nat) : Int) -> NB h0 h' 1 els' va' -> FrE els' (acc ++ (rdA epoch.toNat m n (ss.drop at_)).1) -> Q (.exit 0) ⟨s', h'⟩) -> X F (.loop f37_1) ⟨s, h⟩ Q := by
 intro m
 have hpl := hP.len
 obtain ⟨ee, ee2⟩ := Bz he
 induction m with
 | zero => intro n at_ acc els va s h Q hm; omega
 | succ m ih =>
  intro n at_ acc els va s h Q hm hn hat hac hB hF hs e0 e1 e6 e7 hQ
  obtain ⟨h42, n42⟩ := sv epoch
  rw [he] at n42
  have hfl := hF.len
  obtain ⟨w, w1, w2⟩ := (hu.ext hB.ext).from_ (k := .i64) (n := at_) (by omega)
  obtain ⟨v43, h43, n43, x43, cw, rfl, P43⟩ := Yb (epoch := epoch.toNat) (n := n) (aeb hP at_) w2
  have hfle := Rq (epoch := epoch.toNat) (n := n) (ss := ss.drop at_)
  rw [List.length_drop] at hfle
  have e0' : s.getD 0 .undef = vi .i64 ((epoch.toNat : Nat) : Int) := by rw [e0]; exact congrArg _ ee
  have hB43 := hB.then x43
  rw [au, bg f37_1.eq_1]
  simp only [go_sem, seval, hs, e0]
  refine ao (h1 := h) (by simp only [List.map, go_sem, seval, hs]; rfl) n42 rfl ?_
  simp only [go_sem, seval, hs, e0', e1, e6, e7, hB.ln, hfl, hac, w1]
  refine ap (by simp only [List.map, go_sem, seval, hs]; exact n43) ?_
  simp only [go_sem, seval, hs]
  rw [bg f37_0.eq_1]
  have hr : rdA epoch.toNat (m + 1) n (ss.drop at_) = if (eo epoch.toNat n (ss.drop at_)).2 = 0 then ([], 0) else ((eo epoch.toNat n (ss.drop at_)).1 :: (rdA epoch.toNat m (n + 1) ((ss.drop at_).drop (eo epoch.toNat n (ss.drop at_)).2)).1, (eo epoch.toNat n (ss.drop at_)).2 + (rdA epoch.toNat m (n + 1) ((ss.drop at_).drop (eo epoch.toNat n (ss.drop at_)).2)).2) := rfl
  rw [hr] at hQ
  generalize eo epoch.toNat n (ss.drop at_) = fr at *
  by_cases d : fr.2 = 0
  ·have d' : ((fr.2 : Nat) : Int) = 0 := by omega
   rw [if_pos d] at hQ
   simp only [go_sem, seval, hs, d']
   refine hQ _ _ els va (by simp only [ac, hs]) (by simp only [go_sem, seval, e6]) (by simp only [go_sem, seval, e7]; rfl) hB43 (by simpa using hF)
  ·have d' : ¬ ((fr.2 : Nat) : Int) = 0 := by omega
   rw [if_neg d] at hQ
   obtain ⟨cx, rfl⟩ : ∃ c2, cw = .cv c2 := by rcases P43 with ⟨rfl, _⟩ | ⟨ex, rfl⟩ <;> exact ⟨_, rfl⟩
   have m1 : ∀ h : ah, mkO h 1 1 [.cv (.sc (.slice none 0 0))] [(0, 1, .cv cx)] = some (.cv (.sl 1 [[cx]] true), h) := fun _ => rfl
   have hwr : IntKind.i64.wrap ((at_ : Int) + (fr.2 : Int)) = ((at_ + fr.2 : Nat) : Int) := by rw [IntWalk.i64_in _ (by omega)]; omega
   simp only [go_sem, seval, hs, d', e6, m1]
   refine nk hB43 (new := [[cx]]) (by simp only [go_sem, seval, hs, e6]) (by simp only [go_sem, seval, hs]) (by simp only [List.length_singleton]; omega) (by simp only [List.length_singleton]; omega) (fun v' h' hB' _ _ _ => ?_)
   simp only [go_sem, seval, hs, e7, hwr]
   refine ih (n + 1) (at_ + fr.2) (acc ++ [fr.1]) _ v' _ _ Q (by omega) (by omega) (by omega) (by simp; omega) hB' (hF.app (.cons P43 .nil)) (by simp only [ac, hs]) (by simp only [go_sem, seval, e0]) (by simp only [go_sem, seval, e1]) (by simp only [go_sem, seval, hs]) (by simp only [go_sem, seval, hs]) (fun s' h2 els' va' a1 a2 a3 a4 a5 => hQ s' h2 els' va' a1 a2 ?_ a4 ?_)
   ·rw [a3, List.drop_drop, Nat.add_assoc]
   ·rw [List.append_assoc] at a5
    rw [List.drop_drop]; exact a5
theorem Zl (hP : PgE elsS ss) (hu : VF h0 1 elsS u) (hl : ss.length <= 1000000000) (epoch : Int) : Ret F 37 [vi .i64 epoch, u] h0 fun v g => ∃ va els, v = .tup [va, vi .i64 ((td epoch ss).2 : Nat)] /\ NB h0 g 1 els va /\ FrE els (td epoch ss).1 := by
 refine eE2 (fn := f37) (n := 33) rfl rfl fun s hs h0 h1 => ?_
 simp only [f37]
 simp only [go_sem, Nat.reduceLT, Nat.reduceEqDiff, reduceCtorEq, Int.reduceLT, Int.reduceEq, hs]
 by_cases he : kq epoch = true
 ·have hr : td epoch ss = rdA epoch.toNat (ss.length + 1) 0 ss := by unfold td; rw [if_pos he]
  rw [hr]
  refine f37_loop hP hu hl he (ss.length + 1) 0 0 [] [] bq _ _ _ (by omega) (by omega) (by omega) rfl (NB.nil _ _) .nil (by simp only [ac, hs]) (by simp only [go_sem, Nat.reduceLT, Nat.reduceEqDiff, reduceCtorEq, Int.reduceLT, Int.reduceEq, h0]) (by simp only [go_sem, Nat.reduceLT, Nat.reduceEqDiff, reduceCtorEq, Int.reduceLT, Int.reduceEq, h1]) (by simp only [go_sem, Nat.reduceLT, Nat.reduceEqDiff, reduceCtorEq, Int.reduceLT, Int.reduceEq, hs]) (by simp only [go_sem, Nat.reduceLT, Nat.reduceEqDiff, reduceCtorEq, Int.reduceLT, Int.reduceEq, hs]; rfl) (fun s' h' els' va' a1 a2 a3 a4 a5 => ?_)
  rw [List.drop_zero] at a3 a5
  rw [Nat.zero_add] at a3
  simp only [go_sem, seval, a1, a2, a3]
  exact ⟨va', els', rfl, a4, by simpa using a5⟩
 ·have he' : kq epoch = false := by simpa using he
  have hr : td epoch ss = ([], 0) := by unfold td; rw [if_neg he]
  obtain ⟨h42, n42⟩ := sv epoch
  rw [he'] at n42
  rw [hr]
  rw [au, bg f37_1.eq_1]
  simp only [go_sem, seval, hs, h0]
  refine ao (by simp only [List.map, go_sem, seval, hs]; rfl) n42 rfl ?_
  simp only [go_sem, seval, hs]
  exact ⟨bq, [], rfl, NB.nil _ _, .nil⟩
theorem Ui (hP : PgE elsS ss) (hu : SlV 1 elsS u) (hl : ss.length <= 1000000000) (epoch : Int) : Cc F 37 [vi .i64 epoch, u] (am0 (td epoch ss)) := by
 obtain ⟨v, g, n1, va, els, rfl, B, E⟩ := Zl (h0 := []) hP hu.vf hl epoch
 obtain ⟨w, g1, c1, c2⟩ := B.clos
 exact ⟨_, g, n1, .tup [w, vi .i64 ((td epoch ss).2 : Nat)], by simp only [av, cg c1 (ed li), Option.map], w, els, rfl, c2, E⟩
end
open Go Go.Vm
theorem Zx {epoch n i of_ : Nat} {p : List UInt8} : Ma (km epoch n i of_ p) = of_ % 256 := by
 simp [Ma, km, Cn, oc, wd, u8]
open Go Go.Vm
open Go Go.Vm
open Go Go.Vm
theorem Dg {b : List UInt8} {u : VV} (hu : SlV 1 (eB b) u) (hb : b.length <= 1000000000) : Cc F 52 [u] (SlV 1 (eB b)) := by
 have : Ret F 52 [u] [] fun v g => ∃ w, av g v = some w /\ SlV 1 (eB b) w := by
  refine eE1 (fn := f52) (n := 8) rfl rfl fun s hs h0 => ?_
  simp only [f52]
  simp only [go_sem, seval, hs]
  rw [bg f52_0.eq_1]
  rcases hu with ⟨rfl, e⟩ | ⟨ex, rfl⟩
  ·simp only [go_sem, seval, hs, h0]
   exact ⟨bq, rfl, .inl ⟨rfl, e⟩⟩
  ·have m0 : mkO ([] : ah) 1 0 [] [] = some (.cv (.sl 1 [] true), []) := rfl
   simp only [go_sem, seval, hs, h0, m0]
   refine Gf (h0 := []) (els := []) (new := eB b) ⟨HExt.refl _, .inr (.inl ⟨rfl, rfl⟩)⟩ (by simp only [go_sem, seval, hs]) (by simp only [go_sem, seval, hs]) (by rw [aw, List.length_nil]; omega) (by rw [aw, List.length_nil]; omega) (fun v' h' B _ _ => ?_)
   simp only [go_sem, seval, hs]
   obtain ⟨w, h1, c1, c2, _⟩ := B.vf.clos
   refine ⟨w, ?_, by simpa using c2⟩
   have hc := B.cellv
   cases v' with
   | tup l => simp [en] at hc
   | _ => simp only [av, c1, Option.map]
 obtain ⟨v, g, n1, w, e1, e2⟩ := this
 exact ⟨v, g, n1, w, e1, e2⟩
theorem Ct {h : ah} {els : List (List CV)} {u : VV} (hu : VF h 2 els u) (hb : els.length <= 1000000000) : Ret F 66 [u] h fun v g => PB h g 2 els v := by
 refine eE1 (fn := f66) (n := 8) rfl rfl fun s hs h0 => ?_
 simp only [f66]
 simp only [go_sem, seval, hs]
 rw [bg f66_0.eq_1]
 have m0 : ∀ h : ah, mkO h 2 0 [] [] = some (.cv (.sl 2 [] true), h) := fun _ => rfl
 have hu' := hu
 rcases hu with (⟨rfl, rfl⟩ | ⟨ex, rfl⟩) | ⟨id, g, off, ex, fr, full, rfl, a2, a3, a4⟩
 ·simp only [go_sem, seval, hs, h0]
  exact (NB.nil _ _).pb
 all_goals
  have hsrc := hu'.src
  simp only [go_sem, seval, hs, h0, m0]
  refine Gf (h0 := h) (els := []) (new := els) ⟨HExt.refl _, .inr (.inl ⟨rfl, rfl⟩)⟩ (by simp only [go_sem, seval, hs]) (by simp only [go_sem, seval, hs, h0]; first | done | exact hsrc) (by rw [List.length_nil]; omega) (by rw [List.length_nil]; omega) (fun v' h' B _ _ => ?_)
  simp only [go_sem, seval, hs]
  simpa using B
def Ob (p : KV -> Bool) : Nat -> List KV -> Int
 | _, [] => -1
 | i, r :: l => if p r then (i : Int) else Ob p (i + 1) l
structure Tells (B : ah -> Prop) (f : Nat) (caps : List VV) (p : KV -> Bool) : Prop where
 lt : f < YB
 ext : ∀ h g : ah, HExt h g -> B h -> B g
 set : ∀ (h : ah) (id z : Nat) (els : List (List CV)) (g : Nat) (fr : Bool) (o : VO), h[id]? = some (.arr z els g fr) -> B h -> B (h.set id o)
 call : ∀ (h : ah) (k l : List UInt8) (c : CV), B h -> SlV 1 (eB l) (.cv c) -> Ret F f ([.agg [txt k, .cv c]] ++ caps) h fun v g => v = vb (p (k, l)) /\ HExt h g
theorem f50_loop {els : List (List CV)} {l : List KV} {u : VV} {h0 : ah} {f : Nat} {caps : List VV} {p : KV -> Bool} {B : ah -> Prop} (hu : VF h0 2 els u) (hR : RowsE els l) (hl : l.length <= 1000000000) (ht : Tells B f caps p) (hB : B h0) :
  ∀ (m i : Nat) (s : List VV) (h : ah) (Q : Pst), i + m = l.length -> HExt h0 h -> s.length = 19 -> s.getD 0 .undef = u -> s.getD 1 .undef = .func f caps -> s.getD 7 .undef = vi .i64 l.length -> s.getD 8 .undef = vi .i64 i ->
   (∀ s' h', s'.length = 19 -> HExt h0 h' -> Ob p i (l.drop i) = -1 -> Q (.exit 0) ⟨s', h'⟩) -> (∀ s' h', s'.length = 19 -> HExt h0 h' -> s'.getD 4 .undef = vi .i64 (Ob p i (l.drop i)) -> Q .ret ⟨s', h'⟩) -> X F (.loop f50_1) ⟨s, h⟩ Q := by
 intro m
 have hpl := hR.len
 induction m with
 | zero =>
  intro i s h Q hi hx hs e0 e1 e7 e8 hN hY
  have c : ¬ ((i : Nat) : Int) < (l.length : Int) := by omega
  have hd : l.drop i = [] := List.drop_eq_nil_of_le (by omega)
  rw [hd] at hN
  rw [au, bg f50_1.eq_1]
  simp only [go_sem, seval, hs, e8, e7]
  rw [bg f50_0.eq_1]
  simp only [go_sem, seval, hs, c]
  exact hN _ _ (by simp only [ac, hs]) hx rfl
 | succ m ih =>
  intro i s h Q hi hx hs e0 e1 e7 e8 hN hY
  have c : ((i : Nat) : Int) < (l.length : Int) := by omega
  obtain ⟨e, r, he, hr, cc, rfl, hc⟩ := hR.get (i := i) (by omega)
  have hd : l.drop i = r :: l.drop (i + 1) := by
   obtain ⟨la, e⟩ := List.getElem?_eq_some_iff.1 hr
   rw [List.drop_eq_getElem_cons la, e]
  rw [hd, Ob] at hN hY
  obtain ⟨q, q1, q2, _, _⟩ := (hu.ext hx).cell (k := .i64) he
  have q2' := q2 2 rfl
  have hwr : IntKind.i64.wrap ((i : Int) + 1) = ((i + 1 : Nat) : Int) := by rw [IntWalk.i64_in _ (by omega)]; omega
  obtain ⟨v, g, n1, rfl, x1⟩ := ht.call h r.1 r.2 cc (ht.ext _ _ hx hB) hc
  rw [au, bg f50_1.eq_1]
  simp only [go_sem, seval, hs, e8, e7]
  rw [bg f50_0.eq_1]
  simp only [go_sem, seval, hs, c, e8, e1, e0, q1, q2', List.map]
  refine Al (f := f) (caps := caps) (by simp only [go_sem, seval, hs]) (by simp only [List.map, go_sem, seval, hs]; exact n1) ?_ ht.lt
  cases hp : p r with
  | true =>
   rw [if_pos hp] at hY
   simp only [go_sem, seval, hs, show p (r.1, r.2) = true from hp]
   exact hY _ _ (by simp only [ac, hs]) (hx.trans x1) (by simp only [go_sem, seval, hs])
  | false =>
   rw [if_neg (by rw [hp]; decide)] at hN hY
   simp only [go_sem, seval, hs, show p (r.1, r.2) = false from hp, e8, hwr]
   exact ih (i + 1) _ _ Q (by omega) (hx.trans x1) (by simp only [ac, hs]) (by simp only [go_sem, seval, e0]) (by simp only [go_sem, seval, e1]) (by simp only [go_sem, seval, e7]) (by simp only [go_sem, seval, hs]) hN hY
theorem Ir {els : List (List CV)} {l : List KV} {u : VV} {h : ah} {f : Nat} {caps : List VV} {p : KV -> Bool} {B : ah -> Prop} (hu : VF h 2 els u) (hR : RowsE els l) (hl : l.length <= 1000000000) (ht : Tells B f caps p) (hB : B h) :
  Ret F 50 [u, .func f caps] h fun v g => v = vi .i64 (Ob p 0 l) /\ HExt h g := by
 refine eE2 (fn := f50) (n := 19) rfl rfl fun s hs h0 h1 => ?_
 simp only [f50]
 have hpl := hR.len
 have hln := hu.ln
 rw [hpl] at hln
 simp only [go_sem, Nat.reduceLT, Nat.reduceEqDiff, reduceCtorEq, Int.reduceLT, Int.reduceEq, hs, h0, hln]
 refine f50_loop hu hR hl ht hB l.length 0 _ _ _ (by omega) (HExt.refl _) (by simp only [ac, hs]) (by simp only [go_sem, Nat.reduceLT, Nat.reduceEqDiff, reduceCtorEq, Int.reduceLT, Int.reduceEq, h0]) (by simp only [go_sem, Nat.reduceLT, Nat.reduceEqDiff, reduceCtorEq, Int.reduceLT, Int.reduceEq, h1]) (by simp only [go_sem, Nat.reduceLT, Nat.reduceEqDiff, reduceCtorEq, Int.reduceLT, Int.reduceEq, hs]) (by simp only [go_sem, Nat.reduceLT, Nat.reduceEqDiff, reduceCtorEq, Int.reduceLT, Int.reduceEq, hs]; rfl) (fun s' h' a1 a2 a3 => ?_) (fun s' h' a1 a2 a3 => ?_)
 ·rw [List.drop_zero] at a3
  simp only [go_sem, seval, a1, a3]
  exact ⟨trivial, a2⟩
 ·rw [List.drop_zero] at a3
  simp only [go_sem, seval, a1, a3]
  exact ⟨trivial, a2⟩
def wv (p : Nat) (key : List UInt8) (h : ah) : Prop := ∃ c1 c2, h[p]? = some (.box [txt key, .cv c1, .cv c2] false)
theorem wv.ext {p : Nat} {key : List UInt8} (h g : ah) (e : HExt h g) (b : wv p key h) : wv p key g := by
 obtain ⟨c1, c2, b⟩ := b; exact ⟨c1, c2, e.get b⟩
theorem wv.set {p : Nat} {key : List UInt8} (h : ah) (id z : Nat) (els : List (List CV)) (g : Nat) (fr : Bool) (o : VO) (ho : h[id]? = some (.arr z els g fr)) (b : wv p key h) : wv p key (h.set id o) := by
 obtain ⟨c1, c2, b⟩ := b
 exact ⟨c1, c2, by rw [List.getElem?_set_ne (by rintro rfl; rw [ho] at b; cases b)]; exact b⟩
theorem Wl {p : Nat} {key : List UInt8} : Tells (wv p key) 68 [.ptr p 0] (fun r => decide (r.1 = key)) := by
 refine ⟨by decide, wv.ext, wv.set, fun h' k l c hx hc => ?_⟩
 obtain ⟨c1, c2, hp'⟩ := hx
 show Ret F 68 [.agg [txt k, .cv c], .ptr p 0] h' _
 refine eE2 (fn := f68) (n := 9) rfl rfl fun s hs h0 h1 => ?_
 simp only [f68]
 have x1 := HExt.push h' (.box [txt k, .cv c] false)
 have e1 : (h' ++ [VO.box [txt k, .cv c] false])[h'.length]? = some (.box [txt k, .cv c] false) := bh
 have l1 : ldO (h' ++ [VO.box [txt k, .cv c] false]) false 1 (.ptr h'.length 0) = some (txt k, h' ++ [VO.box [txt k, .cv c] false]) := bf e1 rfl
 have l2 : ldO (h' ++ [VO.box [txt k, .cv c] false]) false 1 (.ptr p 0) = some (txt key, h' ++ [VO.box [txt k, .cv c] false]) := bf (x1.get hp') rfl
 simp only [go_sem, seval, hs, h0, h1]
 rw [yp (show [txt k, .cv c].length = 2 from rfl)]
 simp only [go_sem, seval, hs, l1, l2, ahz, h1]
 exact ⟨trivial, x1⟩
theorem Xz {p : Nat} {key : List UInt8} : Tells (wv p key) 69 [.ptr p 0] (fun r => Op.bytesLess key r.1) := by
 refine ⟨by decide, wv.ext, wv.set, fun h' k l c hx hc => ?_⟩
 obtain ⟨c1, c2, hp'⟩ := hx
 show Ret F 69 [.agg [txt k, .cv c], .ptr p 0] h' _
 refine eE2 (fn := f69) (n := 9) rfl rfl fun s hs h0 h1 => ?_
 simp only [f69]
 have x1 := HExt.push h' (.box [txt k, .cv c] false)
 have e1 : (h' ++ [VO.box [txt k, .cv c] false])[h'.length]? = some (.box [txt k, .cv c] false) := bh
 have l1 : ldO (h' ++ [VO.box [txt k, .cv c] false]) false 1 (.ptr h'.length 0) = some (txt k, h' ++ [VO.box [txt k, .cv c] false]) := bf e1 rfl
 have l2 : ldO (h' ++ [VO.box [txt k, .cv c] false]) false 1 (.ptr p 0) = some (txt key, h' ++ [VO.box [txt k, .cv c] false]) := bf (x1.get hp') rfl
 simp only [go_sem, seval, hs, h0, h1]
 rw [yp (show [txt k, .cv c].length = 2 from rfl)]
 simp only [go_sem, seval, hs, l1, l2, ajb, h1]
 exact ⟨trivial, x1⟩
open Go Go.Vm
theorem Ab (p : KV -> Bool) : ∀ (l : List KV) (i : Nat), (Ob p i l = -1 /\ ∀ r ∈ l, p r = false) \/ ∃ k r, Ob p i l = ((i + k : Nat) : Int) /\ l[k]? = some r /\ p r = true /\ ∀ r ∈ l.take k, p r = false
 | [], i => .inl ⟨rfl, fun r h => by simp at h⟩
 | r :: l, i => by
  unfold Ob
  cases hp : p r with
  | true => exact .inr ⟨0, r, by simp, rfl, hp, fun _ h => by simp at h⟩
  | false =>
   rw [if_neg (by decide)]
   rcases Ab p l (i + 1) with ⟨e, h⟩ | ⟨k, q, e, h1, h2, h3⟩
   ·refine .inl ⟨e, fun q hq => ?_⟩
    rcases List.mem_cons.1 hq with rfl | hq
    ·exact hp
    ·exact h q hq
   ·refine .inr ⟨k + 1, q, by rw [e]; omega, by simpa using h1, h2, fun q hq => ?_⟩
    rw [List.take_succ_cons] at hq
    rcases List.mem_cons.1 hq with rfl | hq
    ·exact hp
    ·exact h3 q hq
theorem Cf {p : KV -> Bool} {l : List KV} (h : ∀ r ∈ l, p r = false) : l.filter (fun r => !p r) = l := by
 rw [List.filter_eq_self]
 intro r hr; rw [h r hr]; rfl
theorem afe {F : Nat -> Option FnIR} {z id g off len : Nat} {zero : List CV} {x : Opd} {s : List VV} {h : ah} {d : Option Nat} {r : List Op1} {Q : Pst} {ex : Bool} {full : List (List CV)} (hx : ae s x = .own id g off len ex) (ho : h[id]? = some (.arr z full g false)) (hl : off + len <= full.length)
  (hk : XO F r ⟨de s d .undef, h.set id (.arr z (am full off (List.replicate len zero)) g false)⟩ Q) : XO F (⟨none, d, .clr z zero x⟩ :: r) ⟨s, h⟩ Q := by
 have e : ak h (ae s) (.clr z zero x) = some (.undef, h.set id (.arr z (am full off (List.replicate len zero)) g false)) := by
  simp [ak, hx, ho, hl]
 rw [ii rfl, e, lc]
 exact hk
theorem Og {e : List CV} {r : KV} (h : al7 e r) : e.length = 2 := by
 obtain ⟨c, rfl, _⟩ := h; rfl
section
variable {els : List (List CV)} {l : List KV} {h0 : ah} {f : Nat} {caps : List VV} {p : KV -> Bool} {B : ah -> Prop}
theorem f67_loop (hR : RowsE els l) (hl : l.length <= 1000000000) (ht : Tells B f caps p) {id g : Nat} (hid : h0.length <= id) :
  ∀ (m i j : Nat) (full elsK : List (List CV)) (s : List VV) (h : ah) (Q : Pst), j + m = l.length -> i <= j -> HExt h0 h -> B h -> h[id]? = some (.arr 2 full g false) -> l.length <= full.length -> full.take i = elsK -> elsK.length = i -> RowsE elsK ((l.take j).filter (fun r => !p r)) -> (∀ t, j <= t -> t < l.length -> full[t]? = els[t]?) -> (∀ t, t < l.length -> ∃ e, full[t]? = some e /\ e.length = 2) ->
   s.length = 42 -> s.getD 0 .undef = .own id g 0 l.length false -> s.getD 1 .undef = .func f caps -> s.getD 5 .undef = vi .i64 i -> s.getD 6 .undef = vi .i64 j ->
   (∀ s' h' i' full' elsK', s'.length = 42 -> HExt h0 h' -> B h' -> i' <= l.length -> h'[id]? = some (.arr 2 full' g false) -> l.length <= full'.length -> full'.take i' = elsK' -> elsK'.length = i' -> RowsE elsK' (l.filter (fun r => !p r)) -> s'.getD 0 .undef = .own id g 0 l.length false -> s'.getD 5 .undef = vi .i64 i' -> Q (.exit 0) ⟨s', h'⟩) -> X F (.loop f67_1) ⟨s, h⟩ Q := by
 intro m
 have hpl := hR.len
 induction m with
 | zero =>
  intro i j full elsK s h Q hj hij hx hB ha hfl htk hkl hRK hfr hlen hs e0 e1 e5 e6 hQ
  have c : ¬ ((j : Nat) : Int) < (l.length : Int) := by omega
  have hd : l.take j = l := List.take_of_length_le (by omega)
  rw [hd] at hRK
  rw [au, bg f67_1.eq_1]
  simp only [go_sem, seval, hs, e6, e0, c]
  exact hQ _ h i full elsK (by simp only [ac, hs]) hx hB (by omega) ha hfl htk hkl hRK (by simp only [go_sem, seval, e0]) (by simp only [go_sem, seval, e5])
 | succ m ih =>
  intro i j full elsK s h Q hj hij hx hB ha hfl htk hkl hRK hfr hlen hs e0 e1 e5 e6 hQ
  have c : ((j : Nat) : Int) < (l.length : Int) := by omega
  obtain ⟨e, r, he, hr, cc, rfl, hc⟩ := hR.get (i := j) (by omega)
  have htake : l.take (j + 1) = l.take j ++ [r] := by
   obtain ⟨la, e⟩ := List.getElem?_eq_some_iff.1 hr
   rw [List.take_succ_eq_append_getElem la, e]
  have hfj : full[j]? = some [.sc (.string ⟨r.1.toArray⟩), cc] := by rw [hfr j (Nat.le_refl _) (by omega)]; exact he
  have ia : iaO h 2 (.own id g 0 l.length false) (vi .i64 (j : Int)) = some (.eptr id g (0 + j) 0, h) := yh (by omega) ha (by simpa using by omega)
  rw [Nat.zero_add] at ia
  have la : ldO h true 2 (.eptr id g j 0) = some (.agg [txt r.1, .cv cc], h) := og ha hfj rfl
  have hwj : IntKind.i64.wrap ((j : Int) + 1) = ((j + 1 : Nat) : Int) := by rw [IntWalk.i64_in _ (by omega)]; omega
  have hwi : IntKind.i64.wrap ((i : Int) + 1) = ((i + 1 : Nat) : Int) := by rw [IntWalk.i64_in _ (by omega)]; omega
  have stb : ∀ a b : VV, stO (h ++ [.box [a, b] false]) 2 (.ptr h.length 0) (.agg [txt r.1, .cv cc]) = some (.undef, h ++ [.box [txt r.1, .cv cc] false]) := fun a b => act
  have x1 := HExt.push h (.box [txt r.1, .cv cc] false)
  have b1 : (h ++ [VO.box [txt r.1, .cv cc] false])[h.length]? = some (.box [txt r.1, .cv cc] false) := bh
  have lb := Ao (n := 2) b1 rfl
  obtain ⟨v, g1, n1, rfl, x2⟩ := ht.call _ r.1 r.2 cc (ht.ext _ _ x1 hB) hc
  have hB1 := ht.ext _ _ (x1.trans x2) hB
  have ha1 := (x1.trans x2).get ha
  have b2 := x2.get b1
  have lb2 := Ao (n := 2) b2 rfl
  have hx1 := (hx.trans x1).trans x2
  rw [au, bg f67_1.eq_1]
  simp only [go_sem, seval, hs, e6, e0, c, ia, la, stb, lb, e1, List.map]
  refine Al (f := f) (caps := caps) (by simp only [go_sem, seval, hs]) (by simp only [List.map, go_sem, seval, hs]; exact n1) ?_ ht.lt
  cases hp : p r with
  | true =>
   simp only [go_sem, seval, hs, show p (r.1, r.2) = true from hp, e6, hwj]
   refine ih i (j + 1) full elsK _ _ Q (by omega) (by omega) hx1 hB1 ha1 hfl htk hkl (by rw [htake, List.filter_append]; simpa [hp] using hRK) (fun t h1 h2 => hfr t (by omega) h2) hlen (by simp only [ac, hs]) (by simp only [go_sem, seval, e0]) (by simp only [go_sem, seval, e1]) (by simp only [go_sem, seval, e5]) (by simp only [go_sem, seval, hs]) hQ
  | false =>
   have ia2 : iaO g1 2 (.own id g 0 l.length false) (vi .i64 (i : Int)) = some (.eptr id g (0 + i) 0, g1) := yh (by omega) ha1 (by simpa using by omega)
   rw [Nat.zero_add] at ia2
   obtain ⟨ei, hei, heil⟩ := hlen i (by omega)
   have st2 : stO g1 2 (.eptr id g i 0) (.agg [txt r.1, .cv cc]) = some (.undef, g1.set id (.arr 2 (full.set i [.sc (.string ⟨r.1.toArray⟩), cc]) g false)) := Jv (cs := [.sc (.string ⟨r.1.toArray⟩), cc]) rfl ha1 hei heil
   simp only [go_sem, seval, hs, show p (r.1, r.2) = false from hp, e6, e5, e0, hwj, lb2, ia2, st2, hwi]
   refine ih (i + 1) (j + 1) (full.set i [.sc (.string ⟨r.1.toArray⟩), cc]) (elsK ++ [[.sc (.string ⟨r.1.toArray⟩), cc]]) _ _ Q (by omega) (by omega) (hx1.set hid _) (ht.set _ _ _ _ _ _ _ ha1 hB1) (List.getElem?_set_self (df ha1)) (by rw [List.length_set]; exact hfl) ?_ (by simp; omega) ?_ ?_ ?_ (by simp only [ac, hs]) (by simp only [go_sem, seval, e0]) (by simp only [go_sem, seval, e1]) (by simp only [go_sem, seval, hs]) (by simp only [go_sem, seval, hs]) hQ
   ·have hil : i < full.length := by omega
    rw [List.take_succ_eq_append_getElem (by rw [List.length_set]; omega), List.getElem_set_self, List.take_set_of_le (Nat.le_refl _), htk]
   ·rw [htake, List.filter_append]
    simp only [List.filter_cons, hp, Bool.not_false, if_true, List.filter_nil]
    exact hRK.snoc ⟨cc, rfl, hc⟩
   ·intro t h1 h2
    rw [List.getElem?_set_ne (by omega)]
    exact hfr t (by omega) h2
   ·intro t ht2
    by_cases hti : i = t
    ·subst hti
     exact ⟨_, List.getElem?_set_self (by omega), rfl⟩
    ·rw [List.getElem?_set_ne hti]; exact hlen t ht2
theorem Qz {h : ah} {v : VV} (hv : PB h0 h 2 els v) (hR : RowsE els l) (hl : l.length ≤ 1000000000) (ht : Tells B f caps p) (hB : B h) :
    Ret F 67 [v, .func f caps] h fun v' g => B g ∧ ∃ els', PB h0 g 2 els' v' ∧ RowsE els' (l.filter (fun r => !p r)) := by
  have hpl := hR.len
  obtain ⟨v33, g1, n33, rfl, x1⟩ := Ir hv.vf hR hl ht hB
  have hv1 := hv.then x1
  have hB1 := ht.ext _ _ x1 hB
  refine eE2 (fn := f67) (n := 42) rfl rfl fun s hs h0 h1 => ?_
  simp only [f67]
  simp only [go_sem, seval, hs, h0, h1]
  refine ap (by simp only [List.map, go_sem, seval, hs]; exact n33) ?_
  simp only [go_sem, seval, hs]
  rw [bg f67_0.eq_1]
  rcases Ab p l 0 with ⟨e, hno⟩ | ⟨k, r, e, hk1, hk2, hk3⟩
  · have e' : Ob p 0 l = -1 := e
    simp only [go_sem, seval, hs, e', h0]
    exact ⟨hB1, els, hv1, by rw [Cf hno]; exact hR⟩
  · have hkl := (List.getElem?_eq_some_iff.1 hk1).1
    rw [Nat.zero_add] at e
    have c1 : ¬ Ob p 0 l = -1 := by omega
    have hwk : IntKind.i64.wrap ((k : Int) + 1) = ((k + 1 : Nat) : Int) := by rw [IntWalk.i64_in _ (by omega)]; omega
    rcases hv1.v with ⟨e0, _⟩ | ⟨e0, _⟩ | ⟨id, g, full, hid, rfl, a2, a3, a4⟩
    · rw [e0] at hpl; simp at hpl; omega
    · rw [e0] at hpl; simp at hpl; omega
    simp only [go_sem, seval, hs, c1, e, hwk]
    have hfr : ∀ t, t < l.length → full[t]? = els[t]? := fun t ht => by
      rw [a4, List.getElem?_take, if_pos (by omega)]
    refine f67_loop hR hl ht hid (l.length - (k + 1)) k (k + 1) full (els.take k) _ _ _ (by omega) (by omega) hv1.ext hB1 a2 (by omega) (by rw [a4, List.take_take, Nat.min_eq_left (by omega)]) (by rw [List.length_take]; omega) ?_ (fun t _ h2 => hfr t h2) (fun t h2 => ?_) (by simp only [ac, hs]) (by simp only [go_sem, seval, h0, hpl]) (by simp only [go_sem, seval, h1]) (by simp only [go_sem, seval, hs]) (by simp only [go_sem, seval, hs]) (fun s' h' i' full' elsK' b0 b1 b2 b3 b4 b5 b6 b7 b8 b9 b10 => ?_)
    · rw [List.take_succ_eq_append_getElem hkl, List.filter_append, Cf hk3]
      have : l[k] = r := (List.getElem?_eq_some_iff.1 hk1).2
      rw [this]
      simp only [List.filter_cons, hk2, Bool.not_true, Bool.false_eq_true, if_false, List.filter_nil, List.append_nil]
      exact zx hR k
    · obtain ⟨e1, r1, he1, _, hr1⟩ := hR.get h2
      exact ⟨e1, by rw [hfr t h2]; exact he1, Og hr1⟩
    · have sl1 : slO h' 2 (.own id g 0 l.length false) (some (vi .i64 (i' : Int))) none none = some (.own id g (0 + i') (l.length - i') false, h') := by
        have : (i' : Int) ≤ (l.length : Int) := by omega
        simp [slO, ak, mj, ly, bnd, pj, this, b4]
      simp only [go_sem, seval, b0, b9, b10, sl1]
      refine afe (full := full') (off := 0 + i') (len := l.length - i') (ex := false) (by simp only [go_sem, seval, b0]) b4 (by omega) ?_
      have b4' := List.getElem?_set_self (a := VO.arr 2 (am full' (0 + i') (List.replicate (l.length - i') [CV.sc (.string ⟨#[]⟩), .sc (.slice none 0 0)])) g false) (df b4)
      have hspl : (am full' (0 + i') (List.replicate (l.length - i') [CV.sc (.string ⟨#[]⟩), .sc (.slice none 0 0)])).length = full'.length := gb (by simp; omega)
      have htk : (am full' (0 + i') (List.replicate (l.length - i') [CV.sc (.string ⟨#[]⟩), .sc (.slice none 0 0)])).take i' = elsK' := by
        unfold am
        rw [Nat.zero_add, List.append_assoc, List.take_append_of_le_length (by rw [List.length_take]; omega), List.take_take, Nat.min_self, b6]
      have bB := ht.set _ _ _ _ _ _ (VO.arr 2 (am full' (0 + i') (List.replicate (l.length - i') [CV.sc (.string ⟨#[]⟩), .sc (.slice none 0 0)])) g false) b4 b2
      have bX := b1.set hid (VO.arr 2 (am full' (0 + i') (List.replicate (l.length - i') [CV.sc (.string ⟨#[]⟩), .sc (.slice none 0 0)])) g false)
      generalize h'.set id (VO.arr 2 (am full' (0 + i') (List.replicate (l.length - i') [CV.sc (.string ⟨#[]⟩), .sc (.slice none 0 0)])) g false) = h2 at b4' bB bX
      have sl2 : slO h2 2 (.own id g 0 l.length false) none (some (vi .i64 (i' : Int))) none = some (.own id g 0 i' false, h2) := by
        have : (i' : Int) ≤ (l.length : Int) := by omega
        simp [slO, ak, mj, ly, bnd, pj, this, b4']
      simp only [go_sem, seval, b0, b9, b10, sl2]
      exact ⟨bB, elsK', ⟨bX, .inr (.inr ⟨id, g, _, hid, by rw [b7], b4', by omega, by rw [b7, htk]⟩)⟩, b8⟩
end
open Go Go.Vm
theorem Qo {h0 h : ah} {els : List (List CV)} {v : VV} {e : List CV} {i : Nat} (hv : PB h0 h 2 els v) (hi : i <= els.length) (hl : els.length <= 100000000) :
  Ret F 70 [v, vi .i64 i, .cv (.sl 2 [e] true)] h fun v' g => PB h0 g 2 (els.take i ++ e :: els.drop i) v' := by
 have hm : cj = 35184372088832 := rfl
 have go : ∀ v' h1, ak h (ae [v, vi .i64 i, .cv (.sl 2 [e] true)]) (.ins 2 40 (.t 0) (.t 1) (.t 2)) = some (v', h1) -> PB h0 h1 2 (els.take i ++ e :: els.drop i) v' -> Ret F 70 [v, vi .i64 i, .cv (.sl 2 [e] true)] h fun v' g => PB h0 g 2 (els.take i ++ e :: els.drop i) v' := by
  intro v' h1 hs hP
  refine qh (fn := f70x) rfl ?_
  show X F (.reg [⟨none, some 2, .ins 2 40 (.t 0) (.t 1) (.t 2)⟩]) ⟨[v, vi .i64 i, .cv (.sl 2 [e] true)], h⟩ (RQ [.t 2] _)
  rw [akm, ii rfl, hs, lc, adh]
  exact ⟨trivial, [v'], rfl, hP⟩
 rcases hv.v with ⟨rfl, rfl⟩ | ⟨rfl, rfl⟩ | ⟨id, g, full, a1, rfl, a2, a3, a4⟩
 ·obtain rfl : i = 0 := by simpa using hi
  refine go (.own h.length 0 0 1 false) (h ++ [.arr 2 [e] 0 false]) (by simp [ak, ae, bq]) ⟨hv.ext.then _, .inr (.inr ⟨h.length, 0, [e], hv.ext.len, by simp, by simp, by simp, by simp⟩)⟩
 ·obtain rfl : i = 0 := by simpa using hi
  refine go (.own h.length 0 0 1 false) (h ++ [.arr 2 [e] 0 false]) (by simp [ak, ae]) ⟨hv.ext.then _, .inr (.inr ⟨h.length, 0, [e], hv.ext.len, by simp, by simp, by simp, by simp⟩)⟩
 ·have hid := df a2
  have hnl : (els.take i ++ e :: els.drop i).length = els.length + 1 := by rw [List.length_append, List.length_cons, List.length_take, List.length_drop]; omega
  refine go (.own id (g + 1) 0 (els.length + 1) false) (h.set id (.arr 2 (els.take i ++ e :: els.drop i) (g + 1) false)) ?_ ⟨hv.ext.set a1 _, .inr (.inr ⟨id, g + 1, els.take i ++ e :: els.drop i, a1, by rw [hnl], by rw [List.getElem?_set_self hid], Nat.le_refl _, by rw [List.take_length]⟩)⟩
  have c1 : (els.length + 1) * 40 <= 35184372088832 := by omega
  have c2 : els.length + 1 <= 35184372088832 := by omega
  have c3 : (i : Int) <= (els.length : Int) := by omega
  have e0 : ae [VV.own id g 0 els.length false, vi .i64 i, .cv (.sl 2 [e] true)] (.t 0) = .own id g 0 els.length false := rfl
  have e1 : ae [VV.own id g 0 els.length false, vi .i64 i, .cv (.sl 2 [e] true)] (.t 1) = .cv (.sc (.int .i64 (i : Int))) := rfl
  have e2 : ae [VV.own id g 0 els.length false, vi .i64 i, .cv (.sl 2 [e] true)] (.t 2) = .cv (.sl 2 [e] true) := rfl
  simp only [ak, e0, e1, e2, a2, if_true, hm, a3, c1, c2, c3, and_self, Int.natCast_nonneg, Int.toNat_natCast, <- a4]
def Cy (l : List KV) (key : List UInt8) : Nat := if Ob (fun r => Op.bytesLess key r.1) 0 l < 0 then l.length else (Ob (fun r => Op.bytesLess key r.1) 0 l).toNat
def ic (l : List KV) (key : List UInt8) : List KV := l.filter (fun r => !decide (r.1 = key))
def vw (l : List KV) (x : Ch) : List KV := if x.2.2 = true then ic l x.1 else (ic l x.1).take (Cy (ic l x.1) x.1) ++ (x.1, x.2.1) :: (ic l x.1).drop (Cy (ic l x.1) x.1)
def dl (l : List KV) (c : List Ch) : List KV := c.foldl vw l
theorem We (l : List KV) (key : List UInt8) : Cy l key <= l.length := by
 unfold Cy
 rcases Ab (fun r => Op.bytesLess key r.1) l 0 with ⟨e, _⟩ | ⟨k, r, e, h1, _, _⟩
 ·rw [e]; simp
 ·have := (List.getElem?_eq_some_iff.1 h1).1
  rw [e, Nat.zero_add]
  rw [if_neg (by omega)]; omega
theorem Ji (l : List KV) (key : List UInt8) : (ic l key).length <= l.length := List.length_filter_le _ _
theorem Wp (l : List KV) (x : Ch) : (vw l x).length <= l.length + 1 := by
 have h1 := Ji l x.1
 have h2 := We (ic l x.1) x.1
 unfold vw
 split
 ·omega
 ·rw [List.length_append, List.length_cons, List.length_take, List.length_drop]; omega
theorem ajy {els : List (List CV)} {kv : List KV} (hR : RowsE els kv) (n : Nat) : RowsE (els.take n) (kv.take n) := zx hR n
theorem aj8 {els : List (List CV)} {kv : List KV} (hR : RowsE els kv) (n : Nat) : RowsE (els.drop n) (kv.drop n) := by
 induction hR generalizing n with
 | nil => simp; exact .nil
 | cons h t ih =>
  cases n with
  | zero => exact .cons h t
  | succ n => exact ih n
theorem amq {l m : List (List CV)} {k j : List KV} (h : RowsE l k) (h2 : RowsE m j) : RowsE (l ++ m) (k ++ j) := by
 induction h with
 | nil => exact h2
 | cons h _ ih => exact .cons h ih
def anf (G : Prop) : Prop := ∀ (h0 h : ah) (els : List (List CV)) (v : VV) (e : List CV) (i : Nat), PB h0 h 2 els v -> i <= els.length -> e.length = 2 -> els.length <= 1000000 -> (∀ x ∈ els, x.length = 2) -> (G \/ i = els.length) ->
 Ret F 70 [v, vi .i64 i, .cv (.sl 2 [e] true)] h fun v' g => PB h0 g 2 (els.take i ++ e :: els.drop i) v'
theorem an8 {G : Prop} : anf G := by
 intro h0 h els v e i hv hi he hl _ _
 exact Qo hv hi (by omega)
section
variable {G : Prop} {cs : List Ch} {elsC : List (List CV)} {uc : VV} {h0 : ah}
theorem f39_loop (hI : anf G) (hC : ChsE elsC cs) (huc : SlV 3 elsC uc) (hcl : cs.length <= 100000) (hval : ∀ x ∈ cs, x.2.1.length <= 1000000000) :
  ∀ (m i : Nat) (l : List KV) (els : List (List CV)) (v : VV) (s : List VV) (h : ah) (Q : Pst), i + m = cs.length -> l.length <= 100000 + i -> PB h0 h 2 els v -> RowsE els l ->
   (G \/ ∀ c1 x c2, cs.drop i = c1 ++ x :: c2 -> x.2.2 = false -> Cy (ic (dl l c1) x.1) x.1 = (ic (dl l c1) x.1).length) ->
   s.length = 41 -> s.getD 5 .undef = v -> s.getD 11 .undef = uc -> s.getD 12 .undef = vi .i64 cs.length -> s.getD 13 .undef = vi .i64 i ->
   (∀ s' h' els' v', s'.length = 41 -> s'.getD 5 .undef = v' -> PB h0 h' 2 els' v' -> RowsE els' (dl l (cs.drop i)) -> Q (.exit 0) ⟨s', h'⟩) -> X F (.loop f39_3) ⟨s, h⟩ Q := by
 intro m
 have hpl := hC.len
 induction m with
 | zero =>
  intro i l els v s h Q hi hll hP hR hG hs e5 e11 e12 e13 hQ
  have c : ¬ ((i : Nat) : Int) < (cs.length : Int) := by omega
  have hd : cs.drop i = [] := List.drop_eq_nil_of_le (by omega)
  rw [hd] at hQ
  rw [au, bg f39_3.eq_1]
  simp only [go_sem, seval, hs, e13, e12]
  rw [bg f39_0.eq_1]
  simp only [go_sem, seval, hs, c]
  exact hQ _ _ els v (by simp only [ac, hs]) (by simp only [go_sem, seval, e5]) hP hR
 | succ m ih =>
  intro i l els v s h Q hi hll hP hR hG hs e5 e11 e12 e13 hQ
  have c : ((i : Nat) : Int) < (cs.length : Int) := by omega
  obtain ⟨e, x, he, hx, cc, rfl, hcx⟩ := hC.get (i := i) (by omega)
  have hd : cs.drop i = x :: cs.drop (i + 1) := by
   obtain ⟨la, e⟩ := List.getElem?_eq_some_iff.1 hx
   rw [List.drop_eq_getElem_cons la, e]
  rw [hd] at hQ hG
  have hap : dl l (x :: cs.drop (i + 1)) = dl (vw l x) (cs.drop (i + 1)) := rfl
  rw [hap] at hQ
  have ia : iaO h 3 uc (vi .i64 (i : Int)) = some (.rptr [.sc (.string ⟨x.1.toArray⟩), cc, .sc (.bool x.2.2)], h) := huc.ia (by omega) (by rw [Int.toNat_natCast]; exact he)
  have la : ldO h true 3 (.rptr [.sc (.string ⟨x.1.toArray⟩), cc, .sc (.bool x.2.2)]) = some (.agg [txt x.1, .cv cc, .cv (.sc (.bool x.2.2))], h) := acp
  have stb : ∀ a b c : VV, stO (h ++ [.box [a, b, c] false]) 3 (.ptr h.length 0) (.agg [txt x.1, .cv cc, .cv (.sc (.bool x.2.2))]) = some (.undef, h ++ [.box [txt x.1, .cv cc, .cv (.sc (.bool x.2.2))] false]) := fun a b c => Wc
  have x1 := HExt.push h (.box [txt x.1, .cv cc, .cv (.sc (.bool x.2.2))] false)
  have b1 : (h ++ [VO.box [txt x.1, .cv cc, .cv (.sc (.bool x.2.2))] false])[h.length]? = some (.box [txt x.1, .cv cc, .cv (.sc (.bool x.2.2))] false) := bh
  have hw13 : IntKind.i64.wrap ((i : Int) + 1) = ((i + 1 : Nat) : Int) := by rw [IntWalk.i64_in _ (by omega)]; omega
  have hll' := hR.len
  obtain ⟨v1, g1, n1, B1, els1, P1, R1⟩ := Qz (B := fun g => g[h.length]? = some (.box [txt x.1, .cv cc, .cv (.sc (.bool x.2.2))] false)) (p := fun r => decide (r.1 = x.1)) (f := 68) (caps := [.ptr h.length 0]) (hP.then x1) hR (by omega)
   ⟨(by decide), fun _ _ e b => e.get b, fun hh id z els g fr o ho b => by rw [List.getElem?_set_ne (by rintro rfl; rw [ho] at b; cases b)]; exact b, fun hh k l c b hc => Wl.call hh k l c ⟨_, _, b⟩ hc⟩ b1
  have l20 : ldO g1 false 1 (.ptr h.length 2) = some (.cv (.sc (.bool x.2.2)), g1) := bf B1 rfl
  have hlk : l.filter (fun r => !decide (r.1 = x.1)) = ic l x.1 := rfl
  rw [hlk] at R1
  have hlen1 := Ji l x.1
  rw [au, bg f39_3.eq_1]
  simp only [go_sem, seval, hs, e13, e12]
  rw [bg f39_0.eq_1]
  simp only [go_sem, seval, hs, c, e11, e13, ia, la, stb, e5, List.map]
  refine ap (by simp only [List.map, go_sem, seval, hs]; exact n1) ?_
  simp only [go_sem, seval, hs]
  rw [bg f39_1.eq_1]
  cases hg : x.2.2 with
  | true =>
   have hst : vw l x = ic l x.1 := by unfold vw; rw [if_pos hg]
   rw [hst] at hQ
   rw [hg] at l20
   simp only [go_sem, seval, hs, l20, e13, hw13]
   refine ih (i + 1) (ic l x.1) els1 v1 _ _ Q (by omega) (by omega) P1 R1 ?_ (by simp only [ac, hs]) (by simp only [go_sem, seval, hs]) (by simp only [go_sem, seval, e11]) (by simp only [go_sem, seval, e12]) (by simp only [go_sem, seval, hs]) hQ
   rcases hG with hG | hG
   ·exact .inl hG
   ·refine .inr fun c1 y c2 e1 e2 => ?_
    have := hG (x :: c1) y c2 (by rw [e1]; rfl) e2
    rwa [show dl l (x :: c1) = dl (ic l x.1) c1 by show dl (vw l x) c1 = _; rw [hst]] at this
  | false =>
   have hst : vw l x = (ic l x.1).take (Cy (ic l x.1) x.1) ++ (x.1, x.2.1) :: (ic l x.1).drop (Cy (ic l x.1) x.1) := by unfold vw; rw [if_neg (by rw [hg]; decide)]
   rw [hg] at l20 B1
   obtain ⟨v33, g2, n33, rfl, x2⟩ := Ir (B := wv h.length x.1) P1.vf R1 (by omega) Xz ⟨_, _, B1⟩
   have P2 := P1.then x2
   have B2 := x2.get B1
   have hl1 := R1.len
   simp only [go_sem, seval, hs, l20]
   refine ap (by simp only [List.map, go_sem, seval, hs]; exact n33) ?_
   simp only [go_sem, seval, hs]
   -- the place
   refine mid (P := fun st => st.h = g2 /\ st.s.length = 41 /\ st.s.getD 5 .undef = v1 /\ st.s.getD 7 .undef = .ptr h.length 0 /\ st.s.getD 8 .undef = vi .i64 (Cy (ic l x.1) x.1 : Nat) /\ st.s.getD 11 .undef = uc /\ st.s.getD 12 .undef = vi .i64 cs.length /\ st.s.getD 13 .undef = vi .i64 i) ?_ ?_
   ·rw [bg f39_2.eq_1]
    by_cases d : Ob (fun r => Op.bytesLess x.1 r.1) 0 (ic l x.1) < 0
    ·have hp : Cy (ic l x.1) x.1 = els1.length := by unfold Cy; rw [if_pos d, hl1]
     simp only [go_sem, seval, hs, d, P2.vf.ln, hp, e11, e12, e13, and_self]
    ·have hp : Ob (fun r => Op.bytesLess x.1 r.1) 0 (ic l x.1) = ((Cy (ic l x.1) x.1 : Nat) : Int) := by unfold Cy; rw [if_neg d]; omega
     have d' : ¬ ((Cy (ic l x.1) x.1 : Nat) : Int) < 0 := by omega
     rw [hp]
     simp only [go_sem, seval, hs, d', e11, e12, e13, and_self]
   ·rintro ⟨s1, g2'⟩ ⟨e, hs1, ff5, ff7, ff8, ff11, ff12, ff13⟩
    dsimp only at e hs1 ff5 ff7 ff8 ff11 ff12 ff13
    subst e
    have lk : ldO g2' false 1 (.ptr h.length 0) = some (txt x.1, g2') := bf B2 rfl
    have lv : ldO g2' false 1 (.ptr h.length 1) = some (.cv cc, g2') := bf B2 rfl
    obtain ⟨v36, h36, n36, w36, r36, S36⟩ := Dg hcx (hval x (List.mem_of_getElem? hx))
    obtain ⟨c36, rfl⟩ : ∃ c2, w36 = .cv c2 := by rcases S36 with ⟨rfl, _⟩ | ⟨ex, rfl⟩ <;> exact ⟨_, rfl⟩
    have bd : ∀ c : CV, bdO [.cv (.sc (.string ⟨#[]⟩)), .cv (.sc (.slice none 0 0))] [(0, 1, txt x.1), (1, 1, .cv c)] = some (.agg [txt x.1, .cv c]) := fun c => rfl
    have mk : mkO g2' 2 1 [.cv (.sc (.string ⟨#[]⟩)), .cv (.sc (.slice none 0 0))] [(0, 2, .agg [txt x.1, .cv c36])] = some (.cv (.sl 2 [[.sc (.string ⟨x.1.toArray⟩), c36]] true), g2') := Li
    have hpl := We (ic l x.1) x.1
    have hGi : G \/ Cy (ic l x.1) x.1 = els1.length := by
     rcases hG with hG | hG
     ·exact .inl hG
     ·exact .inr (by rw [hl1]; exact hG [] x _ rfl hg)
    obtain ⟨v35, g5, n35, P5⟩ := hI h0 g2' els1 v1 [.sc (.string ⟨x.1.toArray⟩), c36] (Cy (ic l x.1) x.1) P2 (by omega) rfl (by omega) (fun y hy => by
     obtain ⟨k, hk⟩ := List.mem_iff_getElem?.1 hy
     obtain ⟨e1, r1, he1, _, hr1⟩ := R1.get (i := k) (by have := (List.getElem?_eq_some_iff.1 hk).1; omega)
     rw [hk] at he1; cases he1; exact Og hr1) hGi
    refine kh rfl ?_
    simp only [go_sem, seval, hs1, ff5, ff7, ff8, lk, lv]
    refine wm (by simp only [List.map, go_sem, seval, hs1]; exact hcx.clos rfl) n36 r36 ?_
    simp only [go_sem, seval, hs1, bd, mk]
    refine vq (by simp only [List.map, go_sem, seval, hs1]; exact n35) ?_
    simp only [go_sem, seval, hs1, ff13, hw13]
    rw [hst] at hQ
    refine ih (i + 1) ((ic l x.1).take (Cy (ic l x.1) x.1) ++ (x.1, x.2.1) :: (ic l x.1).drop (Cy (ic l x.1) x.1)) _ v35 _ _ Q (by omega) ?_ P5 (amq (ajy R1 _) (.cons ⟨c36, rfl, S36⟩ (aj8 R1 _))) ?_ (by simp only [ac, hs1]) (by simp only [go_sem, seval, hs1]) (by simp only [go_sem, seval, ff11]) (by simp only [go_sem, seval, ff12]) (by simp only [go_sem, seval, hs1]) hQ
    ·have := Wp l x
     rw [hst] at this; omega
    ·rcases hG with hG | hG
     ·exact .inl hG
     ·refine .inr fun c1 y c2 e1 e2 => ?_
      have := hG (x :: c1) y c2 (by rw [e1]; rfl) e2
      rwa [show dl l (x :: c1) = dl ((ic l x.1).take (Cy (ic l x.1) x.1) ++ (x.1, x.2.1) :: (ic l x.1).drop (Cy (ic l x.1) x.1)) c1 by show dl (vw l x) c1 = _; rw [hst]] at this
theorem Ke (hI : anf G) {els : List (List CV)} {l : List KV} {u : VV} (hu : SlV 2 els u) (hR : RowsE els l) (hl : l.length <= 100000) (hC : ChsE elsC cs) (huc : SlV 3 elsC uc) (hcl : cs.length <= 100000) (hval : ∀ x ∈ cs, x.2.1.length <= 1000000000)
  (hG : G \/ ∀ c1 x c2, cs = c1 ++ x :: c2 -> x.2.2 = false -> Cy (ic (dl l c1) x.1) x.1 = (ic (dl l c1) x.1).length) :
  Cc F 39 [u, uc] fun w => ∃ els', SlV 2 els' w /\ RowsE els' (dl l cs) := by
 have : Ret F 39 [u, uc] [] fun v g => ∃ els', PB [] g 2 els' v /\ RowsE els' (dl l cs) := by
  have hll := hR.len
  obtain ⟨v30, g30, n30, P30⟩ := Ct (h := []) hu.vf (by omega)
  refine eE2 (fn := f39) (n := 41) rfl rfl fun s hs h0 h1 => ?_
  simp only [f39]
  have hpl := hC.len
  simp only [go_sem, seval, hs, h0]
  refine ap (by simp only [List.map, go_sem, seval, hs]; exact n30) ?_
  simp only [go_sem, Nat.reduceLT, Nat.reduceEqDiff, reduceCtorEq, Int.reduceLT, Int.reduceEq, hs, h1, huc.ln, hpl]
  refine f39_loop hI hC huc hcl hval cs.length 0 l els v30 _ _ _ (by omega) (by omega) P30 hR (by rw [List.drop_zero]; exact hG) (by simp only [ac, hs]) (by simp only [go_sem, Nat.reduceLT, Nat.reduceEqDiff, reduceCtorEq, Int.reduceLT, Int.reduceEq, hs]) (by simp only [go_sem, Nat.reduceLT, Nat.reduceEqDiff, reduceCtorEq, Int.reduceLT, Int.reduceEq, hs]) (by simp only [go_sem, Nat.reduceLT, Nat.reduceEqDiff, reduceCtorEq, Int.reduceLT, Int.reduceEq, hs]) (by simp only [go_sem, Nat.reduceLT, Nat.reduceEqDiff, reduceCtorEq, Int.reduceLT, Int.reduceEq, hs]; rfl) (fun s' h' els' v' a1 a2 a3 a4 => ?_)
  rw [List.drop_zero] at a4
  simp only [go_sem, seval, a1, a2]
  exact ⟨els', a3, a4⟩
 obtain ⟨v, g, n1, els', P, R⟩ := this
 obtain ⟨w, g1, c1, c2, _⟩ := P.vf.clos
 refine ⟨v, g, n1, w, ?_, els', c2, R⟩
 have hc := P.cellv
 cases v with
 | tup l => simp [en] at hc
 | _ => simp only [av, c1, Option.map]
end
open Go Go.Vm
open Go Go.Vm
section
variable {s0 : List VV} {a b : List KV} {acc : List Ch} {g : ah} {s : List VV} {Q : Pst}
end
open Go Go.Vm
section
variable {s0 : List VV} {a b : List KV} {acc : List Ch} {g : ah} {s : List VV} {Q : Pst}
end
open Go Go.Vm
theorem Yd (a r : List UInt8) (p : Ch) (h1 : p.1.length <= 30) (h2 : p.2.1.length <= 150) (h3 : p.2.2 = true -> p.2.1 = []) : dv (a ++ chB p ++ r) a.length = (acr p, a.length + (chB p).length, 0) := by
 obtain ⟨k, v, g⟩ := p
 cases g with
 | true =>
  have e1 : bi (a ++ chB (k, v, true) ++ r) a.length 30 = (k, a.length + (jk k).length, 0) := by
   have := mb a ([1] ++ r) k 30 (by simp at h1; omega)
   rw [if_neg (by simp at h1; omega)] at this
   rw [<- this]
   simp [chB]
  have e2 : (a ++ chB (k, v, true) ++ r)[a.length + (jk k).length]? = some 1 := by
   have : a ++ chB (k, v, true) ++ r = (a ++ jk k) ++ (1 :: r) := by simp [chB]
   rw [this, <- List.length_append, List.getElem?_append_right (Nat.le_refl _), Nat.sub_self]; rfl
  unfold dv
  rw [e1]
  simp only [ne_eq, not_true_eq_false, if_false]
  rw [e2]
  simp [acr, chB, Nat.add_assoc]
 | false =>
  have e1 : bi (a ++ chB (k, v, false) ++ r) a.length 30 = (k, a.length + (jk k).length, 0) := by
   have := mb a ([0] ++ jk v ++ r) k 30 (by simp at h1; omega)
   rw [if_neg (by simp at h1; omega)] at this
   rw [<- this]
   simp [chB]
  have e2 : (a ++ chB (k, v, false) ++ r)[a.length + (jk k).length]? = some 0 := by
   have : a ++ chB (k, v, false) ++ r = (a ++ jk k) ++ (0 :: (jk v ++ r)) := by simp [chB]
   rw [this, <- List.length_append, List.getElem?_append_right (Nat.le_refl _), Nat.sub_self]; rfl
  have e3 : bi (a ++ chB (k, v, false) ++ r) ((a.length + (jk k).length + 1 : Nat) : Int) 150 = (v, a.length + (jk k).length + 1 + (jk v).length, 0) := by
   have := mb (a ++ jk k ++ [0]) r v 150 (by simp at h2; omega)
   rw [if_neg (by simp at h2; omega)] at this
   have el : (a ++ jk k ++ [0]).length = a.length + (jk k).length + 1 := by simp; omega
   rw [el] at this
   rw [<- this]
   simp [chB]
  unfold dv
  rw [e1]
  simp only [ne_eq, not_true_eq_false, if_false]
  rw [e2]
  simp only [e3]
  simp [acr, chB, Nat.add_assoc]
  omega
theorem Df : ∀ (kv : List Ch) (a r : List UInt8) (out : List (List CV)), tk kv ->
  jf (dv (a ++ ol kv ++ r)) kv.length a.length out = (out ++ ut kv, a.length + (ol kv).length, 0)
 | [], a, r, out, _ => by simp [jf, ut, ol]
 | p :: kv, a, r, out, h => by
  obtain ⟨h1, h2, h3⟩ := h p (by simp)
  have e1 : dv (a ++ ol (p :: kv) ++ r) a.length = (acr p, a.length + (chB p).length, 0) := by
   have := Yd a (ol kv ++ r) p h1 h2 h3
   rw [<- this, mm]
   simp only [List.append_assoc]
  have e2 := Df kv (a ++ chB p) r (out ++ [acr p]) (fun q hq => h q (by simp [hq]))
  rw [List.length_append] at e2
  simp only [List.length_cons, jf]
  rw [e1]
  simp only [ne_eq, not_true_eq_false, if_false]
  have e3 : a ++ ol (p :: kv) ++ r = a ++ chB p ++ ol kv ++ r := by rw [mm]; simp only [List.append_assoc]
  rw [e3, e2]
  simp only [ut, List.map_cons, mm, List.length_append, List.append_assoc, List.singleton_append, Nat.add_assoc]
theorem Rb (kv : List Ch) (hf : tk kv) (hk : kv.length <= 5000) : io (dv (gz kv)) (gz kv) = (ut kv, 0) := by
 have hc : jv (kv.length : Int) = kv.length := so _ (by omega)
 have e0 : gz kv = num kv.length ++ ol kv ++ [] := by unfold gz; rw [hc]; simp [ol]
 have e1 : bw (gz kv) 0 = (kv.length, (num kv.length).length, 0) := by
  rw [e0]
  have := Ei [] (ol kv ++ []) kv.length (by omega)
  simpa using this
 have e2 := Df kv (num kv.length) [] [] hf
 rw [<- e0] at e2
 unfold io
 rw [e1]
 simp only [ne_eq, not_true_eq_false, if_false]
 rw [if_neg (by omega), e2]
 have e4 : ¬ (num kv.length).length + (ol kv).length < (gz kv).length := by rw [e0]; simp
 simp only [List.nil_append, not_true_eq_false, if_false, e4]
theorem La (kv : List Ch) : gz kv ≠ [] := by
 unfold gz
 intro e
 exact Xg _ (List.append_eq_nil_iff.1 e).1
section
variable {epoch n i of_ : Nat} {p : List UInt8}
theorem Pj (h : p.length <= 49) : kOf (km epoch n i of_ p) = p.length := by
 have : (km epoch n i of_ p).getD 10 0 = u8 p.length := by simp [km, Cn, oc, wd]
 unfold kOf
 rw [this, ka _ (by omega)]
theorem Xu (h : of_ < 256) : Ma (km epoch n i of_ p) = of_ := by rw [Zx]; omega
theorem Jc (h : p.length <= 49) : my (km epoch n i of_ p) = p := by
 unfold my
 rw [Pj h]
 have hl : (wd epoch ++ wd n ++ [u8 i, u8 of_, u8 p.length]).length = 11 := by simp [wd]
 have e : km epoch n i of_ p = (wd epoch ++ wd n ++ [u8 i, u8 of_, u8 p.length]) ++ (p ++ (List.replicate (49 - p.length) 0 ++ le4 (crc (Cn epoch n i of_ p)))) := by
  unfold km oc
  conv => lhs; unfold Cn
  simp only [List.append_assoc]
  rfl
 rw [e, List.drop_append, List.drop_of_length_le (by omega), hl, Nat.sub_self, List.drop_zero, List.nil_append, List.take_left]
theorem adx (h : p.length <= 49) (h1 : 1 <= p.length) (h2 : 1 <= of_) (h3 : of_ <= 200) (h4 : of_ <= i + 1 \/ p.length = 49) : pc epoch n i of_ (km epoch n i of_ p) := by
 refine ⟨Jd h, ?_, ?_, h2, h3, ?_, ?_⟩
 ·rw [Pj h]; exact h1
 ·rw [Pj h]; exact h
 ·rw [Pj h]; exact h4
 ·rw [Jc h]
theorem Qw {epoch' n' i' of' : Nat} (h : wd epoch ≠ wd epoch' \/ wd n ≠ wd n') : ¬ pc epoch n i of_ (km epoch' n' i' of' p) := by
 intro hh
 have e := hh.2.2.2.2.2.2
 have t : ∀ {e n i o : Nat} {q : List UInt8}, (km e n i o q).take 8 = wd e ++ wd n := by
  intro e n i o q
  simp [km, Cn, oc, wd]
 have e8 := congrArg (List.take 8) e
 rw [t, t] at e8
 obtain ⟨q1, q2⟩ := List.append_inj e8 rfl
 rcases h with h | h
 ·exact h q1
 ·exact h q2
theorem aif {a b : Nat} (ha : a < 4294967296) (hb : b < 4294967296) (h : wd a = wd b) : a = b := by
 simp only [wd, List.cons.injEq, and_true] at h
 obtain ⟨h1, h2, h3, h4⟩ := h
 have k1 := Nj (by omega) (by omega) h1
 have k2 := Nj (by omega) (by omega) h2
 have k3 := Nj (by omega) (by omega) h3
 have k4 := Nj (by omega) (by omega) h4
 omega
end
def Pcs : List (List UInt8) -> Prop
 | [] => True
 | p :: r => 1 <= p.length /\ p.length <= 49 /\ (r ≠ [] -> p.length = 49) /\ Pcs r
theorem Vk : ∀ (m : Nat) (l : List UInt8), l.length <= m -> Pcs (pcs 49 l)
 | 0, l, h => by
  have : l = [] := List.eq_nil_of_length_eq_zero (by omega)
  subst this; exact trivial
 | m + 1, l, h => by
  by_cases hl : l = []
  ·subst hl; exact trivial
  ·have h0 : 0 < l.length := List.length_pos_iff.2 hl
   rw [sm (by omega) hl]
   refine ⟨by rw [List.length_take]; omega, by rw [List.length_take]; omega, fun hne => ?_, Vk m _ (by rw [List.length_drop]; omega)⟩
   rw [List.length_take]
   by_cases hc : 49 <= l.length
   ·omega
   ·exfalso
    apply hne
    rw [List.drop_eq_nil_of_le (by omega)]; rfl
theorem Oj : ∀ (m : Nat) (l : List UInt8), l.length <= m -> (pcs 49 l).flatten = l
 | 0, l, h => by
  have : l = [] := List.eq_nil_of_length_eq_zero (by omega)
  subst this; rfl
 | m + 1, l, h => by
  by_cases hl : l = []
  ·subst hl; rfl
  ·have h0 : 0 < l.length := List.length_pos_iff.2 hl
   rw [sm (by omega) hl, List.flatten_cons, Oj m _ (by rw [List.length_drop]; omega), List.take_append_drop]
theorem Jg {epoch n of_ : Nat} (h3 : of_ <= 200) : ∀ (ps : List (List UInt8)) (m i : Nat) (acc : List UInt8) (rest : List (List UInt8)), ps ≠ [] -> Pcs ps -> i + ps.length = of_ -> of_ <= m + i ->
  frL epoch n of_ m i (ma epoch n of_ i ps ++ rest) acc = some (acc ++ ps.flatten)
 | [], m, i, acc, rest, h, _, _, _ => absurd rfl h
 | p :: r, 0, i, acc, rest, _, hp, hi, hm => by simp at hi; omega
 | p :: r, m + 1, i, acc, rest, _, hp, hi, hm => by
  obtain ⟨h1, h2, h4, h5⟩ := hp
  simp only [ma, List.cons_append, frL]
  have ok : pc epoch n i of_ (km epoch n i of_ p) := by
   refine adx h2 h1 (by simp at hi; omega) h3 ?_
   by_cases hr : r = []
   ·subst hr; left; simp at hi; omega
   ·right; exact h4 hr
  rw [if_pos ok, Jc h2]
  by_cases hr : r = []
  ·subst hr
   rw [if_neg (by simp at hi; omega)]; simp
  ·have hrl : 0 < r.length := List.length_pos_iff.2 hr
   rw [if_pos (by simp at hi; omega), Jg h3 r m (i + 1) _ rest hr h5 (by simp at hi; omega) (by omega)]
   simp
theorem Jl {epoch n : Nat} {l : List Ch} (hf : tk l) (hk : l.length <= 5000) (hl : (pcs 49 (gz l)).length <= 200) (rest : List (List UInt8)) :
  eo epoch n (ma epoch n (pcs 49 (gz l)).length 0 (pcs 49 (gz l)) ++ rest) = (ut l, (pcs 49 (gz l)).length) := by
 have hne : pcs 49 (gz l) ≠ [] := by rw [sm (by omega) (La l)]; simp
 have hof : ofS (ma epoch n (pcs 49 (gz l)).length 0 (pcs 49 (gz l)) ++ rest) = (pcs 49 (gz l)).length := by
  cases h : pcs 49 (gz l) with
  | nil => exact absurd h hne
  | cons p r =>
   rw [h] at hl
   show Ma (km epoch n 0 (p :: r).length p) = _
   exact Xu (by omega)
 have e1 := Jg (epoch := epoch) (n := n) hl (pcs 49 (gz l)) 200 0 [] rest hne (Vk _ _ (Nat.le_refl _)) (by omega) (by omega)
 unfold eo tq
 rw [hof, e1]
 simp only [List.nil_append, Oj _ _ (Nat.le_refl _), Rb l hf hk, if_true]
open Go Go.Vm
theorem aih {n : Nat} (hn : n <= 60) (c : List UInt8) (vc : VV) (hc : SlV 1 (eB c) vc) : Cc F 24 [vc, vi .i64 n] fun w => ∃ els, SlV 3 els w /\ ChsE els (chL n c) := by
 have : Ret F 24 [vc, vi .i64 n] [] fun v h' => ∃ els, av h' v = some (slV 3 els) /\ ChsE els (chL n c) := by
  refine eE2 (fn := f24) (n := 42) rfl rfl fun s hs h0 h1 => ?_
  simp only [f24]
  obtain ⟨w1, g1, els, hc1, hr1, hR1⟩ := Ub c vc hc n hn
  have hf := Ae n c
  have hkl := Ex n c
  simp only [go_sem, seval, hs, h0, h1]
  refine ao (h1 := []) (by simp only [List.map, go_sem, seval, hs]; exact hc.clos (ed li)) hc1 hr1 ?_
  simp only [go_sem, Nat.reduceLT, Nat.reduceEqDiff, reduceCtorEq, Int.reduceLT, Int.reduceEq, hs]
  refine f24_loop els (Ck n c) (slV 2 els) Gl hR1 (by omega) hf (Ck n c) 0 [] [] [] bq _ _ rfl (by omega) (by simp only [List.length_nil]; omega) .nil (er.nil _ _) (by simp only [ac, hs]) (by simp only [go_sem, Nat.reduceLT, Nat.reduceEqDiff, reduceCtorEq, Int.reduceLT, Int.reduceEq, hs]) (by simp only [go_sem, Nat.reduceLT, Nat.reduceEqDiff, reduceCtorEq, Int.reduceLT, Int.reduceEq, hs]) (by simp only [go_sem, Nat.reduceLT, Nat.reduceEqDiff, reduceCtorEq, Int.reduceLT, Int.reduceEq, hs]; rfl) ?_
  intro s' h' v' els' hs' h5' hb' hC'
  simp only [go_sem, seval, hs', h5']
  exact ⟨els', hb'.close, by simpa [chL] using hC'⟩
 obtain ⟨v, h', e1, els, e2, e3⟩ := this
 exact ⟨v, h', e1, _, e2, els, Gl, e3⟩
theorem Yz (n : Nat) (c : List UInt8) : tk (chL n c) := by
 intro p hp
 unfold chL at hp
 obtain ⟨q, hq, rfl⟩ := List.mem_map.1 hp
 obtain ⟨h1, h2⟩ := Ae n c q hq
 unfold Zc
 split
 ·exact ⟨h1, by simp, fun _ => rfl⟩
 ·exact ⟨h1, h2, fun h => by cases h⟩
theorem aej (n : Nat) (c : List UInt8) : (chL n c).length <= n := by unfold chL; rw [List.length_map]; exact Ex n c
theorem adl {p : Ch} (h1 : p.1.length <= 30) (h2 : p.2.1.length <= 150) : (chB p).length <= 200 := by
 have h0 := ais p
 have a1 := re p.1.length
 have a2 := re p.2.1.length
 unfold jk at h0
 simp only [List.length_append] at h0
 split at h0 <;> omega
theorem Kg : ∀ l : List Ch, tk l -> (ol l).length <= 200 * l.length
 | [], _ => by simp [ol]
 | p :: l, h => by
  have h1 := h p (by simp)
  have h2 := adl h1.1 h1.2.1
  have h3 := Kg l (fun q hq => h q (by simp [hq]))
  rw [mm, List.length_append, List.length_cons]; omega
theorem aal (l : List Ch) (h : tk l) : (gz l).length <= 8 + 200 * l.length := by
 have h1 := Kg l h
 have h2 := re l.length
 unfold gz
 rw [List.length_append]
 unfold ol at h1
 omega
open Go Go.Vm
theorem Uz {epoch n of_ m i : Nat} {b : List UInt8} {r : List (List UInt8)} {acc : List UInt8} (h : ¬ pc epoch n i of_ b) : frL epoch n of_ (m + 1) i (b :: r) acc = none := by
 simp only [frL]
 exact if_neg h
theorem Dl {epoch n : Nat} {b : List UInt8} {r : List (List UInt8)} (h : ¬ pc epoch n 0 (Ma b) b) : eo epoch n (b :: r) = ([], 0) := by
 have : tq epoch n (b :: r) = none := by
  exact Uz (m := 199) h
 unfold eo
 rw [this]
open Go Go.Vm
open Go Go.Vm
def aq (epoch j : Nat) (l : List Ch) : List (List UInt8) := ma epoch j (pcs 49 (gz l)).length 0 (pcs 49 (gz l))
def Bad (epoch : Nat) (b : List UInt8) : Prop := ∀ n i of_, ¬ pc epoch n i of_ b
theorem Pk (epoch : Nat) : Bad epoch (List.replicate 64 0) := by
 intro n i of_ h
 have := h.2.1
 have e : kOf (List.replicate 64 0) = 0 := by rfl
 omega
open Go Go.Vm
open Go Go.Vm
theorem Tz {e n of_ : Nat} : ∀ (m i : Nat) (ss : List (List UInt8)) (acc all : List UInt8), frL e n of_ m i ss acc = some all -> all.length <= acc.length + 49 * m
 | 0, i, ss, acc, all, h => by simp [frL] at h; subst h; omega
 | m + 1, i, [], acc, all, h => by simp [frL] at h
 | m + 1, i, b :: r, acc, all, h => by
  simp only [frL] at h
  split at h
  ·rename_i ok
   have hb := Pf ok.1 ok.2.2.1
   have hk := ok.2.2.1
   split at h
   ·have := Tz m (i + 1) r _ all h
    rw [List.length_append] at this; omega
   ·cases h
    rw [List.length_append]; omega
  ·cases h
theorem Xc {e n : Nat} {ss : List (List UInt8)} : ∃ kv, ChsE (eo e n ss).1 kv /\ kv.length <= 1000000 := by
 unfold eo
 split
 ·exact ⟨[], .nil, by simp⟩
 ·rename_i all ha
  split
  ·obtain ⟨kv, h1, h2⟩ := Mu all
   have := Tz 200 0 ss [] all ha
   exact ⟨kv, h1, by simp at this; omega⟩
  ·exact ⟨[], .nil, by simp⟩
theorem Ts {e : Nat} : ∀ (m n : Nat) (ss : List (List UInt8)), (∀ b ∈ (rdA e m n ss).1, ∃ kv, ChsE b kv /\ kv.length <= 1000000) /\ (rdA e m n ss).1.length <= m
 | 0, n, ss => by simp [rdA]
 | m + 1, n, ss => by
  unfold rdA
  split
  ·simp
  ·have k := Ts (e := e) m (n + 1) (ss.drop (eo e n ss).2)
   refine ⟨fun b hb => ?_, by simp only [List.length_cons]; omega⟩
   rcases List.mem_cons.1 hb with rfl | hb
   ·exact Xc
   ·exact k.1 b hb
theorem So (e : Int) (ss : List (List UInt8)) : (∀ b ∈ (td e ss).1, ∃ kv, ChsE b kv /\ kv.length <= 1000000) /\ (td e ss).1.length <= ss.length + 1 := by
 unfold td
 split
 ·exact Ts _ _ _
 ·simp
open Go Go.Vm
open Go Go.Vm
open Go Go.Vm
open Go Go.Vm
open Go Go.Vm
open Go Go.Vm
def Uu (l : List KV) : Prop := ∀ p ∈ l, p.1.length <= 30 /\ p.2.length <= 150
theorem sj : ∀ (m : Nat) (l : List KV) (g : List KV), g ∈ ip m l -> od 0 g = g.length
 | 0, _, g, h => by simp [ip] at h
 | m + 1, l, g, h => by
  rw [ip] at h
  rcases List.mem_cons.1 h with rfl | h
  ·rw [Ba, List.length_take]
   have := yf l 0
   omega
  ·split at h
   ·simp at h
   ·exact sj m _ g h
theorem Va (m : Nat) (l : List KV) : ip (m + 1) l ≠ [] := by rw [ip]; simp
theorem zt : ∀ (m : Nat) (l : List KV), (ip m l).flatten = l.take (vg (ip m l))
 | 0, _ => by simp [ip, vg]
 | m + 1, l => by
  have hf := yf l 0
  rw [ip]
  split
  ·rename_i h
   rw [Ib]
   simp only [List.flatten_cons, List.flatten_nil, List.append_nil, List.length_take]
   simp only [vg, List.map_nil, List.sum_nil, Nat.add_zero]
   rw [Nat.min_eq_left hf]
  ·rw [Ib, List.flatten_cons, zt m, List.length_take, Nat.min_eq_left hf, List.take_add]
theorem Ky (l : List KV) : ∀ g ∈ grp l, od 0 g = g.length := fun g hg => sj _ _ g hg
theorem ae6 (l : List KV) : 1 <= (grp l).length := List.length_pos_iff.mpr (Va _ _)
def amh (m : Nat) (b : List UInt8) : Prop := ∃ g, b = gc m g /\ od 0 g = g.length
theorem Dv : ∀ (f n : Nat) (pg : List (List UInt8)) (l : List KV) (res : List (List UInt8)), Tq f n pg l = some res -> n + f <= 5 -> ∃ up, res = pg ++ ((grp l).map (gc n) ++ up) /\ (up = [] -> (grp l).length = 1) /\ (∀ b ∈ up, ∃ m, n < m /\ m <= 4 /\ amh m b) /\ vg (grp l) = l.length
 | 0, _, _, _, _, h, _ => by cases h
 | f + 1, n, pg, l, res, h, hn => by
  rw [Tq] at h
  split at h
  ·rename_i h1
   split at h
   ·rename_i h2
    cases h
    exact ⟨[], by rw [List.append_nil], fun _ => h2, by simp, h1⟩
   ·obtain ⟨up, e1, e2, e3, e4⟩ := Dv f (n + 1) _ _ res h (by omega)
    have hf : 1 <= f := by
     cases f with
     | zero => cases h
     | succ f => omega
    refine ⟨(grp (py pg.length (grp l))).map (gc (n + 1)) ++ up, by rw [e1, List.append_assoc], fun e => ?_, ?_, h1⟩
    ·have := ae6 (py pg.length (grp l))
     have h := congrArg List.length e
     rw [List.length_append, List.length_map, List.length_nil] at h
     omega
    ·intro b hb
     rcases List.mem_append.1 hb with hb | hb
     ·obtain ⟨g, hg, rfl⟩ := List.mem_map.1 hb
      exact ⟨n + 1, by omega, by omega, g, rfl, sj _ _ g hg⟩
     ·obtain ⟨m, m1, m2, m3⟩ := e3 b hb
      exact ⟨m, by omega, m2, m3⟩
  ·cases h
theorem Ey : ∀ (up : List (List UInt8)) (acc : List KV), (∀ b ∈ up, ∃ m, 0 < m /\ m <= 4 /\ amh m b) -> ni up acc = (0, acc)
 | [], _, _ => rfl
 | b :: r, acc, h => by
  obtain ⟨m, m1, m2, g, rfl, hg⟩ := h b List.mem_cons_self
  rw [ni, Aa m2 hg]
  simp only [ne_eq, not_true_eq_false, if_false]
  rw [if_neg (by omega)]
  exact Ey r acc fun b hb => h b (List.mem_cons_of_mem _ hb)
theorem Gq : ∀ (gs : List (List KV)) (r : List (List UInt8)) (acc : List KV), (∀ g ∈ gs, od 0 g = g.length) -> ni (gs.map (gc 0) ++ r) acc = ni r (acc ++ gs.flatten)
 | [], r, acc, _ => by simp
 | g :: gs, r, acc, h => by
  rw [List.map_cons, List.cons_append, ni, Aa (by omega) (h g List.mem_cons_self)]
  simp only [ne_eq, not_true_eq_false, if_false, if_true]
  rw [Gq gs r _ fun g hg => h g (List.mem_cons_of_mem _ hg), List.flatten_cons, List.append_assoc]
theorem nu {l : List KV} {res : List (List UInt8)} (h : dy l = some res) : ∃ up, res = (grp l).map (gc 0) ++ up /\ (up = [] -> (grp l).length = 1) /\ (∀ b ∈ up, ∃ m, 0 < m /\ m <= 4 /\ amh m b) /\ (grp l).flatten = l := by
 unfold dy at h
 split at h
 ·obtain ⟨up, e1, e2, e3, e4⟩ := Dv 5 0 [] l res h (by omega)
  refine ⟨up, by rw [e1, List.nil_append], e2, e3, ?_⟩
  have := zt (l.length + 1) l
  unfold grp at e4 |-
  rw [this, e4, List.take_length]
 ·cases h
theorem ww {l : List KV} {res : List (List UInt8)} (h : dy l = some res) : wq res = (l, 0) := by
 obtain ⟨up, e1, e2, e3, e4⟩ := nu h
 have hA : ni res [] = (0, l) := by
  rw [e1, Gq _ _ _ (Ky l), Ey _ _ e3, List.nil_append, e4]
 unfold wq
 rw [hA, if_neg (by simp), if_pos h]
theorem Hy {l : List KV} {res : List (List UInt8)} (h : dy l = some res) : (wq res.dropLast).2 ≠ 0 := by
 obtain ⟨up, e1, e2, e3, e4⟩ := nu h
 by_cases hu : up = []
 ·have h1 := e2 hu
  have : res.dropLast = [] := by
   rw [e1, hu, List.append_nil]
   apply List.eq_nil_of_length_eq_zero
   rw [List.length_dropLast, List.length_map]; omega
  rw [this]
  have hA : ni [] [] = (0, []) := rfl
  unfold wq
  rw [hA, if_neg (by simp), if_neg (by rw [Uj]; simp)]
  simp
 ·have hd : res.dropLast = (grp l).map (gc 0) ++ up.dropLast := by rw [e1, List.dropLast_append_of_ne_nil hu]
  have hA : ni res.dropLast [] = (0, l) := by
   rw [hd, Gq _ _ _ (Ky l), Ey _ _ fun b hb => e3 b ((List.dropLast_sublist up).subset hb), List.nil_append, e4]
  have hne : dy l ≠ some res.dropLast := by
   rw [h]
   intro e
   have e' := congrArg List.length (Option.some.inj e)
   rw [List.length_dropLast] at e'
   have : res ≠ [] := by rw [e1]; simp [hu]
   have := List.length_pos_iff.mpr this
   omega
  unfold wq
  rw [hA, if_neg (by simp), if_neg hne]
  simp
theorem Sb {l : List KV} {res : List (List UInt8)} (h : dy l = some res) : ∀ b ∈ res, ∃ m, m <= 4 /\ amh m b := by
 obtain ⟨up, e1, e2, e3, e4⟩ := nu h
 intro b hb
 rw [e1] at hb
 rcases List.mem_append.1 hb with hb | hb
 ·obtain ⟨g, hg, rfl⟩ := List.mem_map.1 hb
  exact ⟨0, by omega, g, rfl, sj _ _ g hg⟩
 ·obtain ⟨m, m1, m2, m3⟩ := e3 b hb
  exact ⟨m, m2, m3⟩
theorem mr {l : List KV} {res : List (List UInt8)} (h : dy l = some res) : ∀ b ∈ res, b.length = 256 := by
 intro b hb
 obtain ⟨m, hm, g, rfl, hg⟩ := Sb h b hb
 exact Xe hm hg
open Go Go.Vm
open Go Go.Vm
open Go Go.Vm
open Go Go.Vm
open Go Go.Vm
open Go Go.Vm
def fl (n : Nat) : Nat := FloatKind.f64.nearest n
def flw (m : Nat) : Nat := if m = 0 then 0 else (m.log2 + 1022) * 4503599627370496 + m * 2 ^ (52 - m.log2)
theorem aib : Ieee.double.leastPlace = -1074 := by decide +kernel
theorem acx : Ieee.double.binade = 4503599627370496 := by decide +kernel
theorem ac4 : Ieee.double.infRung = 9218868437227405312 := by decide +kernel
theorem akx : Ieee.double.signWeight = 9223372036854775808 := by decide +kernel
theorem rq {m k : Nat} (hm : 0 < m) : (m * 2 ^ k).log2 = m.log2 + k := by
 have h := (Nat.log2_eq_iff (n := m) (k := m.log2) (by omega)).1 rfl
 refine (Nat.log2_eq_iff (by have := Nat.mul_pos hm (Nat.two_pow_pos k); omega)).2 ⟨?_, ?_⟩
 ·rw [Nat.pow_add]; exact Nat.mul_le_mul_right _ h.1
 ·rw [show m.log2 + k + 1 = (m.log2 + 1) + k by omega, Nat.pow_add]
  exact (Nat.mul_lt_mul_right (Nat.two_pow_pos k)).2 h.2
theorem Jh (x t : Nat) (hx : t <= (x * 2 ^ t).log2 + 2) : Ieee.Toward.even.cut false (x * 2 ^ t) t = x := by
 unfold Ieee.Toward.cut
 have hmin : min t ((x * 2 ^ t).log2 + 2) = t := Nat.min_eq_left hx
 simp only [hmin, Nat.shiftLeft_eq, Nat.one_mul]
 have hp : 0 < 2 ^ t := Nat.two_pow_pos t
 simp_all
theorem Jm {m : Nat} (h : m < 2 ^ 53) : m.log2 <= 52 := by
 rcases Nat.eq_zero_or_pos m with rfl | hp
 ·decide
 ·have := (Nat.log2_lt (by omega)).2 h
  omega
theorem Vz {m : Nat} (h : m < 2 ^ 53) (k : Nat) : Ieee.double.nearest false (m * 2 ^ k) (-(k : Int)) = flw m := by
 unfold Ieee.Format.nearest flw
 rcases Nat.eq_zero_or_pos m with rfl | hp
 ·simp [Ieee.Format.word]
 have hne : m * 2 ^ k ≠ 0 := by have := Nat.mul_pos hp (Nat.two_pow_pos k); omega
 have hL := Jm h
 rw [if_neg hne, if_neg (by omega)]
 have hfb : Ieee.double.fractionBits = 52 := rfl
 simp only [rq hp, hfb, aib, acx, ac4]
 have hlast : max (-(k : Int) + ((m.log2 + k : Nat) : Int) - (52 : Nat)) (-1074) = (m.log2 : Int) - 52 := by omega
 rw [hlast]
 have hkept : Ieee.Toward.even.cut false ((m * 2 ^ k) <<< (-(k : Int) - ((m.log2 : Int) - 52)).toNat) (((m.log2 : Int) - 52) - -(k : Int)).toNat = m * 2 ^ (52 - m.log2) := by
  rw [Nat.shiftLeft_eq, Nat.mul_assoc, <- Nat.pow_add]
  by_cases c : k <= 52 - m.log2
  ·have e1 : (((m.log2 : Int) - 52) - -(k : Int)).toNat = 0 := by omega
   have e2 : k + (-(k : Int) - ((m.log2 : Int) - 52)).toNat = 52 - m.log2 := by omega
   rw [e1, e2]
   have := Jh (m * 2 ^ (52 - m.log2)) 0 (by omega)
   grind
  ·have e1 : (((m.log2 : Int) - 52) - -(k : Int)).toNat = k - (52 - m.log2) := by omega
   have e2 : k + (-(k : Int) - ((m.log2 : Int) - 52)).toNat = (52 - m.log2) + (k - (52 - m.log2)) := by omega
   rw [e1, e2, Nat.pow_add, <- Nat.mul_assoc]
   refine Jh _ _ ?_
   rw [rq (Nat.mul_pos hp (Nat.two_pow_pos _)), rq hp]
   omega
 rw [hkept]
 have hb := (Nat.log2_eq_iff (n := m) (k := m.log2) (by omega)).1 rfl
 have hup : m * 2 ^ (52 - m.log2) < 2 ^ (m.log2 + 1) * 2 ^ (52 - m.log2) := (Nat.mul_lt_mul_right (Nat.two_pow_pos _)).2 hb.2
 rw [<- Nat.pow_add, show m.log2 + 1 + (52 - m.log2) = 53 by omega] at hup
 have ew : ((m.log2 : Int) - 52 - -1074).toNat = m.log2 + 1022 := by omega
 rw [ew]
 have h53 : (2 : Nat) ^ 53 = 9007199254740992 := by decide
 have hle : (m.log2 + 1022) * 4503599627370496 + m * 2 ^ (52 - m.log2) <= 9218868437227405312 := by omega
 rw [Nat.min_eq_left hle]
 exact if_neg (by decide)
theorem akw {n : Nat} (h : n < 2 ^ 53) : fl n = flw n := by
 have := Vz h 0
 unfold fl FloatKind.nearest FloatKind.encode Ieee.Format.write FloatKind.format
 have e : decide ((n : Int) < 0) = false := by simp
 simp only [e, Int.natAbs_natCast]
 simp_all
theorem Ww {n : Nat} (h : n < 2 ^ 53) : ∃ a : Nat, Ieee.double.read (fl n) = .number false (n * 2 ^ a) (-(a : Int)) := by
 rw [akw h]
 rcases Nat.eq_zero_or_pos n with rfl | hp
 ·exact ⟨1074, by decide +kernel⟩
 refine ⟨52 - n.log2, ?_⟩
 have hL := Jm h
 have hb := (Nat.log2_eq_iff (n := n) (k := n.log2) (by omega)).1 rfl
 have hup : n * 2 ^ (52 - n.log2) < 2 ^ (n.log2 + 1) * 2 ^ (52 - n.log2) := (Nat.mul_lt_mul_right (Nat.two_pow_pos _)).2 hb.2
 rw [<- Nat.pow_add, show n.log2 + 1 + (52 - n.log2) = 53 by omega] at hup
 have hlo : 2 ^ n.log2 * 2 ^ (52 - n.log2) <= n * 2 ^ (52 - n.log2) := Nat.mul_le_mul_right _ hb.1
 rw [<- Nat.pow_add, show n.log2 + (52 - n.log2) = 52 by omega] at hlo
 have h53 : (2 : Nat) ^ 53 = 9007199254740992 := by decide
 have h52 : (2 : Nat) ^ 52 = 4503599627370496 := by decide
 rw [h53] at hup
 rw [h52] at hlo
 unfold flw
 rw [if_neg (by omega)]
 generalize hx : n * 2 ^ (52 - n.log2) = x at hup hlo |-
 unfold Ieee.Format.read
 simp only [akx, acx, ac4, aib]
 have e1 : ((n.log2 + 1022) * 4503599627370496 + x) / 9223372036854775808 = 0 := Nat.div_eq_of_lt (by omega)
 have e2 : ((n.log2 + 1022) * 4503599627370496 + x) % 9223372036854775808 = (n.log2 + 1022) * 4503599627370496 + x := Nat.mod_eq_of_lt (by omega)
 rw [e1, e2, if_neg (by omega), if_pos (by omega)]
 have e3 : ((n.log2 + 1022) * 4503599627370496 + x) % 4503599627370496 = x - 4503599627370496 := by omega
 have e4 : ((n.log2 + 1022) * 4503599627370496 + x) / 4503599627370496 = n.log2 + 1023 := by omega
 rw [e3, e4]
 have e5 : 4503599627370496 + (x - 4503599627370496) = x := by omega
 rw [e5]
 have e6 : (-1074 : Int) + ((n.log2 + 1023 - 1 : Nat) : Int) = -((52 - n.log2 : Nat) : Int) := by omega
 rw [e6]
 rfl
theorem sg (m a c : Nat) (h : a <= c) : Ieee.signed false (m * 2 ^ a) (-(a : Int) - -(c : Int)).toNat = ((m * 2 ^ c : Nat) : Int) := by
 unfold Ieee.signed
 have e : (-(a : Int) - -(c : Int)).toNat = c - a := by omega
 rw [e, Nat.shiftLeft_eq, Nat.mul_assoc, <- Nat.pow_add, show a + (c - a) = c by omega]
 simp
theorem acz {m n : Nat} (hm : m < 2 ^ 53) (hn : n < 2 ^ 53) (h : m + n < 2 ^ 53) : Ieee.double.add (fl m) (fl n) = some (fl (m + n)) := by
 obtain ⟨a, ha⟩ := Ww hm
 obtain ⟨b, hb⟩ := Ww hn
 unfold Ieee.Format.add
 rw [ha, hb]
 have hmin : min (-(a : Int)) (-(b : Int)) = -((max a b : Nat) : Int) := by omega
 simp only [Ieee.Datum.sum, hmin, Option.map_some]
 rw [sg m a _ (Nat.le_max_left _ _), sg n b _ (Nat.le_max_right _ _)]
 have e : ((m * 2 ^ max a b : Nat) : Int) + ((n * 2 ^ max a b : Nat) : Int) = (((m + n) * 2 ^ max a b : Nat) : Int) := by
  grind
 rw [e]
 have hs : (if (((m + n) * 2 ^ max a b : Nat) : Int) = 0 then false && false else decide ((((m + n) * 2 ^ max a b : Nat) : Int) < 0)) = false := by
  grind
 rw [hs, Int.natAbs_natCast]
 show some (Ieee.double.nearest false ((m + n) * 2 ^ max a b) (-((max a b : Nat) : Int))) = _
 rw [Vz h, akw h]
theorem fl0 : fl 0 = 0 := by decide +kernel
theorem fl1 : fl 1 = 4607182418800017408 := by decide +kernel
theorem ac6 (n : Nat) (h : n < 4503599627370496) : FloatKind.f64.format.add (fl n) 4607182418800017408 = some (fl (n + 1)) := by
 rw [<- fl1]
 exact acz (by omega) (by decide) (by omega)
theorem Uk (n : Nat) (h : n < 4503599627370496) : FloatKind.f64.format.add (fl n) 0 = some (fl n) := by
 have := acz (m := n) (n := 0) (by omega) (by decide) (by omega)
 rw [fl0] at this
 exact this
open Go Go.Vm
def cB (b : List UInt8) : List CV := b.map fun x => .sc (.int .u8 x.toNat)
theorem kt {b : List UInt8} : (cB b).length = b.length := by simp [cB]
abbrev cpx (a b : Nat) : VV := .cv (.sc (.complex .f64 (fl a) (fl b)))
structure D where
 firm : List (List UInt8)
 loose : List (Nat × List UInt8)
 w : Nat
 f : Nat
 fused : Bool
 left : Int
def lE (l : List (Nat × List UInt8)) : List (List CV) := l.map fun o => .sc (.int .i64 o.1) :: cB o.2
def fE (l : List (List UInt8)) : List (List CV) := l.map cB
structure D.OK (d : D) : Prop where
 f64 : ∀ b ∈ d.firm, b.length = 64
 l64 : ∀ o ∈ d.loose, o.2.length = 64 /\ o.1 < d.firm.length
 n : d.firm.length <= 4096
 lw : d.loose.length <= 1000000
 w : d.w < 1000000
 f : d.f < 1000000
def ux (h : ah) (els : List (List CV)) (v : VV) (f : Option Nat) : Prop :=
 (∃ id g ex, f = some id /\ v = .own id g 0 els.length ex /\ h[id]? = some (.arr 64 els g false)) \/ (f = none /\ els = [] /\ ∃ ex, v = .cv (.sl 64 [] ex))
def mh (h : ah) (els : List (List CV)) (v : VV) (l : Option Nat) : Prop :=
 (∃ id g, l = some id /\ els ≠ [] /\ v = .own id g 0 els.length false /\ h[id]? = some (.arr 65 els g false)) \/ (l = none /\ els = [] /\ v = bq)
def dw (h : ah) (p : Nat) (f l : Option Nat) (d : D) : Prop := ∃ vf vl, h[p]? = some (.box [vf, vl, cpx d.w d.f, vb d.fused, vi .i64 d.left] false) /\ ux h (fE d.firm) vf f /\ mh h (lE d.loose) vl l
structure Kept (h h' : ah) (p : Nat) (f l : Option Nat) : Prop where
 len : h.length <= h'.length
 same : ∀ j, j < h.length -> j ≠ p -> f ≠ some j -> l ≠ some j -> h'[j]? = h[j]?
theorem Kept.refl (h : ah) (p : Nat) (f l : Option Nat) : Kept h h p f l := ⟨Nat.le_refl _, fun _ _ _ _ _ => rfl⟩
theorem Kept.trans {h h1 h2 : ah} {p : Nat} {f l l1 : Option Nat} (k : Kept h h1 p f l) (k1 : Kept h1 h2 p f l1) (hl : ∀ i, l1 = some i -> l = some i \/ h.length <= i) : Kept h h2 p f l := by
 refine ⟨Nat.le_trans k.len k1.len, fun j hj h1 h2 h3 => ?_⟩
 rw [k1.same j (Nat.lt_of_lt_of_le hj k.len) h1 h2 (fun e => ?_), k.same j hj h1 h2 h3]
 rcases hl j e with e' | e'
 ·exact h3 e'
 ·omega
def Gh (h : ah) (l l' : Option Nat) : Prop := ∀ i, l' = some i -> l = some i \/ h.length <= i
theorem Gh.refl (h : ah) (l : Option Nat) : Gh h l l := fun _ e => .inl e
theorem Gh.trans {h h1 : ah} {l l1 l2 : Option Nat} (a : Gh h l l1) (b : Gh h1 l1 l2) (hl : h.length <= h1.length) : Gh h l l2 := by
 intro i e
 rcases b i e with e' | e'
 ·exact a i e'
 ·exact .inr (Nat.le_trans hl e')
theorem ay {h : ah} {i : Nat} {o : VO} (e : h[i]? = some o) : i < h.length := (List.getElem?_eq_some_iff.1 e).1
theorem Kept.box {h h' : ah} {p : Nat} {f l : Option Nat} {d : D} (hD : dw h p f l d) (k : Kept h h' p f l) {j : Nat} {cells : List VV} {fr : Bool} (hj : h[j]? = some (.box cells fr)) (hp : j ≠ p) : h'[j]? = some (.box cells fr) := by
 obtain ⟨vf, vl, h1, h2, h3⟩ := hD
 rw [k.same j (ay hj) hp ?_ ?_, hj]
 ·rintro e
  rcases h2 with ⟨id, g, ex, e1, _, e2⟩ | ⟨e1, _⟩
  ·rw [e] at e1; cases e1; rw [hj] at e2; cases e2
  ·rw [e] at e1; cases e1
 ·rintro e
  rcases h3 with ⟨id, g, e1, _, _, e2⟩ | ⟨e1, _⟩
  ·rw [e] at e1; cases e1; rw [hj] at e2; cases e2
  ·rw [e] at e1; cases e1
theorem ux.ln {h : ah} {els : List (List CV)} {v : VV} {f : Option Nat} (hF : ux h els v f) : lnO false v = some (vi .i64 els.length) := by
 rcases hF with ⟨id, g, ex, _, rfl, _⟩ | ⟨_, rfl, ex, rfl⟩ <;> rfl
theorem mh.ln {h : ah} {els : List (List CV)} {v : VV} {l : Option Nat} (hL : mh h els v l) : lnO false v = some (vi .i64 els.length) := by
 rcases hL with ⟨id, g, _, _, rfl, _⟩ | ⟨_, rfl, rfl⟩ <;> rfl
theorem Oh {l : List (List UInt8)} : (fE l).length = l.length := by simp [fE]
theorem Tt {l : List (Nat × List UInt8)} : (lE l).length = l.length := by simp [lE]
section
variable {h : ah} {p : Nat} {a b c e g : VV}
theorem ldp (hp : h[p]? = some (.box [a, b, c, e, g] false)) :
  ldO h false 1 (.ptr p 0) = some (a, h) /\ ldO h false 1 (.ptr p 1) = some (b, h) /\ ldO h false 1 (.ptr p 2) = some (c, h) /\ ldO h false 1 (.ptr p 3) = some (e, h) /\ ldO h false 1 (.ptr p 4) = some (g, h) :=
 ⟨bf hp rfl, bf hp rfl, bf hp rfl, bf hp rfl, bf hp rfl⟩
theorem stp (hp : h[p]? = some (.box [a, b, c, e, g] false)) {v : VV} (hv : en v = true) :
  stO h 1 (.ptr p 1) v = some (.undef, h.set p (.box [a, v, c, e, g] false)) /\ stO h 1 (.ptr p 2) v = some (.undef, h.set p (.box [a, b, v, e, g] false)) /\
  stO h 1 (.ptr p 3) v = some (.undef, h.set p (.box [a, b, c, v, g] false)) /\ stO h 1 (.ptr p 4) v = some (.undef, h.set p (.box [a, b, c, e, v] false)) :=
 ⟨zl hv hp (by decide : 1 < 5), zl hv hp (by decide : 2 < 5), zl hv hp (by decide : 3 < 5), zl hv hp (by decide : 4 < 5)⟩
end
theorem dw.turn {h : ah} {p : Nat} {f l : Option Nat} {d d' : D} {vf vl : VV} (h1 : h[p]? = some (.box [vf, vl, cpx d.w d.f, vb d.fused, vi .i64 d.left] false)) (h2 : ux h (fE d.firm) vf f) (h3 : mh h (lE d.loose) vl l)
  (e1 : d'.firm = d.firm) (e2 : d'.loose = d.loose) : dw (h.set p (.box [vf, vl, cpx d'.w d'.f, vb d'.fused, vi .i64 d'.left] false)) p f l d' /\ Kept h (h.set p (.box [vf, vl, cpx d'.w d'.f, vb d'.fused, vi .i64 d'.left] false)) p f l := by
 have hp := ay h1
 refine ⟨⟨vf, vl, by rw [List.getElem?_set_self hp], ?_, ?_⟩, ⟨by simp, fun j _ hj _ _ => by rw [List.getElem?_set_ne (fun e => hj e.symm)]⟩⟩
 ·rcases h2 with ⟨id, g, ex, a1, a2, a3⟩ | e
  ·refine .inl ⟨id, g, ex, a1, by rw [e1]; exact a2, ?_⟩
   rw [List.getElem?_set_ne (by rintro rfl; rw [a3] at h1; cases h1), e1]; exact a3
  ·exact .inr (by rw [e1]; exact e)
 ·rcases h3 with ⟨id, g, a1, a2, a4, a3⟩ | e
  ·refine .inl ⟨id, g, a1, by rw [e2]; exact a2, by rw [e2]; exact a4, ?_⟩
   rw [List.getElem?_set_ne (by rintro rfl; rw [a3] at h1; cases h1), e2]; exact a3
  ·exact .inr (by rw [e2]; exact e)
theorem Ph {h : ah} {p : Nat} {f l : Option Nat} {d : D} (hD : dw h p f l d) : call F 53 [.ptr p 0] h = some (.ret (vb (d.fused && decide (d.left = 0))), h) := by
 obtain ⟨vf, vl, h1, h2, h3⟩ := hD
 obtain ⟨l0, l1, l2, l3, l4⟩ := ldp h1
 refine eP1 (fn := f53) (n := 14) rfl rfl fun s hs h0 => ?_
 simp only [f53]
 cases hf : d.fused with
 | true =>
  rw [hf] at l3
  simp only [go_sem, seval, hs, h0, l3, l4]
  exact ⟨rfl, rfl⟩
 | false =>
  rw [hf] at l3
  simp only [go_sem, seval, hs, h0, l3, l4]
  exact ⟨rfl, rfl⟩
def D.dark (d : D) : Bool := d.fused && decide (d.left = 0)
def D.burnt (d : D) : D := if d.dark then d else { d with left := IntKind.i64.wrap (d.left - 1) }
theorem Or {h : ah} {p : Nat} {f l : Option Nat} {d : D} (hD : dw h p f l d) : ∃ h', call F 57 [.ptr p 0] h = some (.ret (vb (!d.dark)), h') /\ dw h' p f l d.burnt /\ Kept h h' p f l := by
 have : ∃ v h', call F 57 [.ptr p 0] h = some (.ret v, h') /\ (fun v h' => v = vb (!d.dark) /\ dw h' p f l d.burnt /\ Kept h h' p f l) v h' := by
  refine eE1 (fn := f57) (n := 12) rfl rfl fun s hs h0 => ?_
  simp only [f57]
  simp only [go_sem, seval, hs]
  rw [bg f57_0.eq_1]
  simp only [go_sem, seval, hs, h0]
  refine ap (by simp only [List.map, go_sem, seval, hs]; exact Ph hD) ?_
  have hdk : d.dark = (d.fused && decide (d.left = 0)) := rfl
  rw [<- hdk]
  cases hdark : d.dark with
  | true =>
   simp only [go_sem, seval, hs]
   refine ⟨trivial, ?_, Kept.refl _ _ _ _⟩
   unfold D.burnt; rw [if_pos hdark]; exact hD
  | false =>
   obtain ⟨vf, vl, h1, h2, h3⟩ := hD
   obtain ⟨l0, l1, l2, l3, l4⟩ := ldp h1
   obtain ⟨s1, s2, s3, s4⟩ := stp h1 (v := vi .i64 (IntKind.i64.wrap (d.left - 1))) rfl
   simp only [go_sem, seval, hs, h0, l4, s4]
   have := dw.turn (d' := d.burnt) h1 h2 h3 (by unfold D.burnt; split <;> rfl) (by unfold D.burnt; split <;> rfl)
   have e : d.burnt = { d with left := IntKind.i64.wrap (d.left - 1) } := by unfold D.burnt; rw [if_neg (by rw [hdark]; simp)]
   rw [e] at this |-
   exact ⟨trivial, this⟩
 obtain ⟨v, h', e1, rfl, e2⟩ := this
 exact ⟨h', e1, e2⟩
theorem ql {h : ah} {p : Nat} {f l : Option Nat} {d : D} (hD : dw h p f l d) : call F 29 [.ptr p 0] h = some (.ret (vi .i64 d.firm.length), h) := by
 obtain ⟨vf, vl, h1, h2, h3⟩ := hD
 obtain ⟨l0, l1, l2, l3, l4⟩ := ldp h1
 refine eP1 (fn := f29) (n := 10) rfl rfl fun s hs h0 => ?_
 simp only [f29]
 simp only [go_sem, seval, hs]
 rw [bg f29_0.eq_1]
 simp only [go_sem, seval, hs, h0, l0, h2.ln, Oh]
 exact ⟨rfl, rfl⟩
def D.has (d : D) (i : Int) : Bool := decide (0 <= i) && decide (i < (d.firm.length : Int))
theorem Wv {h : ah} {p : Nat} {f l : Option Nat} {d : D} (hD : dw h p f l d) (i : Int) : call F 56 [.ptr p 0, vi .i64 i] h = some (.ret (vb (d.has i)), h) := by
 refine eP2 (fn := f56) (n := 13) rfl rfl fun s hs h0 h1 => ?_
 simp only [f56]
 unfold D.has
 by_cases c : 0 <= i
 ·simp only [go_sem, seval, hs, h0, h1, c]
  refine ap (by simp only [List.map, go_sem, seval, hs]; exact ql hD) ?_
  simp only [go_sem, seval, hs, h0, h1]
  exact ⟨by simp, rfl⟩
 ·simp only [go_sem, seval, hs, h0, h1, c]
  exact ⟨by simp, rfl⟩
def z64 : List UInt8 := List.replicate 64 0
def Sm (n : Nat) : D := ⟨List.replicate n z64, [], 0, 0, false, 0⟩
theorem aon : List.replicate 64 (CV.sc (.int .u8 0)) = cB z64 := by simp [cB, z64]
theorem aic (n : Nat) : List.replicate n (List.replicate 64 (CV.sc (.int .u8 0))) = fE (Sm n).firm := by rw [aon]; simp [fE, Sm]
theorem Xb (n : Nat) (hn : n <= 4096) (h : ah) : ∃ h', call F 10 [vi .i64 n] h = some (.ret (.ptr (h.length + 1) 0), h') /\ dw h' (h.length + 1) (some h.length) none (Sm n) /\ h.length <= h'.length /\ ∀ j, j < h.length -> h'[j]? = h[j]? := by
 have : ∃ v h', call F 10 [vi .i64 n] h = some (.ret v, h') /\ (fun v h' => v = .ptr (h.length + 1) 0 /\ dw h' (h.length + 1) (some h.length) none (Sm n) /\ h.length <= h'.length /\ ∀ j, j < h.length -> h'[j]? = h[j]?) v h' := by
  refine eE1 (fn := f10) (n := 13) rfl rfl fun s hs h0 => ?_
  simp only [f10]
  have c1 : ¬ (n : Int) < 0 := by omega
  have c2 : ¬ (4096 : Int) < (n : Int) := by omega
  simp only [go_sem, Nat.reduceLT, Nat.reduceEqDiff, reduceCtorEq, Int.reduceLT, Int.reduceEq, hs]
  rw [bg f10_0.eq_1]
  simp only [go_sem, Nat.reduceLT, Nat.reduceEqDiff, reduceCtorEq, Int.reduceLT, Int.reduceEq, hs, h0, c1, c2]
  refine Um (k := .i64) (k' := .i64) (a := n) (by simp only [go_sem, Nat.reduceLT, Nat.reduceEqDiff, reduceCtorEq, Int.reduceLT, Int.reduceEq, hs]) (by simp only [go_sem, Nat.reduceLT, Nat.reduceEqDiff, reduceCtorEq, Int.reduceLT, Int.reduceEq, hs]) (by omega) (by omega) ?_
  rw [aic]
  simp only [go_sem, seval, hs]
  have e1 : bdO [bq, bq, .cv (.sc (.complex .f64 0 0)), vb false, vi .i64 0] [(0, 1, .own h.length 0 0 n true)] = some (.agg [.own h.length 0 0 n true, bq, .cv (.sc (.complex .f64 0 0)), vb false, vi .i64 0]) := rfl
  simp only [go_sem, seval, hs, e1]
  rw [yp (n := 5) rfl]
  simp only [go_sem, seval, hs]
  have el : (h ++ [VO.arr 64 (fE (Sm n).firm) 0 false]).length = h.length + 1 := by simp
  refine ⟨by rw [el], ⟨.own h.length 0 0 n true, bq, ?_, .inl ⟨h.length, 0, true, rfl, ?_, ?_⟩, .inr ⟨rfl, rfl, rfl⟩⟩, by simp only [List.length_append, List.length_singleton]; omega, fun j hj => ?_⟩
  ·rw [<- el]
   simp [Sm, cpx, fl0]
  ·rw [Oh]; simp [Sm]
  ·simp
  ·rw [List.append_assoc, List.getElem?_append_left hj]
 obtain ⟨v, h', e1, rfl, e2⟩ := this
 exact ⟨h', e1, e2⟩
open Go Go.Vm
theorem aap {a : VV} {l : List VV} {c : CV} : bdO (a :: l) [(0, 1, .cv c)] = some (.agg (.cv c :: l)) := by
 simp [bdO, fill, cellsOf, am]
theorem abj {h : ah} {n : Nat} {zero : List VV} {l : List CV} (hz : zero.length = n) (hl : l.length = n) : mkO h n 1 zero [(0, n, .agg (l.map .cv))] = some (.cv (.sl n [l] true), h) := by
 have e1 : fill zero [(0, n, .agg (l.map .cv))] = some (l.map .cv) := by
  have : am zero 0 (l.map VV.cv) = l.map VV.cv := wz (by simp; omega)
  simp [fill, cellsOf, hl, hz, this]
 simp only [mkO, e1, zh]
 have : na n 1 l = [l] := by
  show [(l.drop (0 * n)).take n] = [l]
  rw [Nat.zero_mul, List.drop_zero, List.take_of_length_le (by omega)]
 rw [this]
def pad (b : List UInt8) : List UInt8 := b ++ List.replicate (64 - b.length) 0
theorem Lw {b : List UInt8} (h : b.length <= 64) : (pad b).length = 64 := by unfold pad; simp; omega
theorem Qr {c : VV} {b : List UInt8} (h : b.length <= 64) : am (c :: List.replicate 64 (VV.cv (.sc (.int .u8 0)))) 1 ((cB b).map .cv) = c :: (cB (pad b)).map .cv := by
 unfold am pad cB
 simp only [List.take_succ_cons, List.take_zero, List.length_map, List.map_append, List.map_map, List.cons_append, List.nil_append, List.append_assoc]
 congr 2
 rw [Nat.add_comm, List.drop_succ_cons, List.drop_replicate]
 simp
theorem afj (b : List UInt8) : (eB b).flatten = cB b := by
 induction b with
 | nil => rfl
 | cons x b ih =>
  simp only [eB, cB, List.map_cons, List.flatten_cons, bc] at ih |-
  rw [ih]; rfl
theorem Vg {F : Nat -> Option FnIR} {h : ah} {els : List (List CV)} {v : VV} {l : Option Nat} {by_ : Nat} {zero : List CV} {x y : Opd} {s : List VV} {e : List CV} (hL : mh h els v l) (hx : ae s x = v) (hy : im h 65 (ae s y) = some [e]) (hb : by_ <= 100) (hl : els.length <= 2000000) :
  ∃ v' h' l', ak h (ae s) (.app 65 by_ zero x y) = some (v', h') /\ mh h' (els ++ [e]) v' l' /\ Gh h l l' /\ h.length <= h'.length /\ en v' = true /\ ∀ j, j < h.length -> l ≠ some j -> h'[j]? = h[j]? := by
 have hm : cj = 35184372088832 := rfl
 have hmul : (els.length + 1) * by_ <= 35184372088832 := by
  have : (els.length + 1) * by_ <= 2000001 * 100 := Nat.mul_le_mul (by omega) hb
  omega
 have h2 : els.length + 1 <= 35184372088832 := by omega
 rcases hL with ⟨id, g, e1, hne, rfl, h3⟩ | ⟨e1, rfl, rfl⟩
 ·have hid := ay h3
  refine ⟨.own id (g + 1) 0 (els.length + 1) false, h.set id (.arr 65 (els ++ [e]) (g + 1) false), some id, ?_, .inl ⟨id, g + 1, rfl, by simp, by simp, by rw [List.getElem?_set_self hid]⟩, fun i e => .inl (by rw [e1]; exact e), by simp, rfl, fun j hj hn => ?_⟩
  ·simp only [ak, hy, hx, ly, hm, List.length_singleton, hmul, h2, and_self, if_true, h3, Nat.zero_add, Nat.le_refl, Bool.false_eq_true, if_false, List.drop_zero, List.take_length, List.cons_ne_nil]
  ·rw [List.getElem?_set_ne]
   rintro rfl
   exact hn e1
 ·refine ⟨.own h.length 0 0 1 false, h ++ [.arr 65 [e] 0 false], some h.length, ?_, .inl ⟨h.length, 0, rfl, by simp, by simp, by simp⟩, fun i e => .inr (by cases e; exact Nat.le_refl _), by simp, rfl, fun j hj _ => by rw [List.getElem?_append_left hj]⟩
  simp only [List.length_nil, Nat.zero_add] at hmul h2
  simp only [ak, hy, hx, ly, hm, List.length_singleton, Nat.zero_add, hmul, h2, and_self, if_true, List.cons_ne_nil, if_false]
theorem aca {F : Nat -> Option FnIR} {h : ah} {els : List (List CV)} {v : VV} {l : Option Nat} {by_ : Nat} {zero : List CV} {x y : Opd} {s : List VV} {e : List CV} {d : Option Nat} {q : List (Op1 × Cl)} {Q : Pst} (hL : mh h els v l) (hx : ae s x = v) (hy : im h 65 (ae s y) = some [e]) (hb : by_ <= 100) (hl : els.length <= 2000000)
  (hk : ∀ v' h' l', mh h' (els ++ [e]) v' l' -> Gh h l l' -> h.length <= h'.length -> en v' = true -> (∀ j, j < h.length -> l ≠ some j -> h'[j]? = h[j]?) -> XD F q ⟨de s d v', h'⟩ Q) :
  XD F ((⟨none, d, .app 65 by_ zero x y⟩, .k) :: q) ⟨s, h⟩ Q := by
 obtain ⟨v', h', l', e1, e2, e3, e4, e5, e6⟩ := Vg (F := F) (zero := zero) hL hx hy hb hl
 rw [mi rfl, e1, Rm]
 exact hk v' h' l' e2 e3 e4 e5 e6
theorem dw.push {h : ah} {p : Nat} {f l : Option Nat} {d : D} (hD : dw h p f l d) (o : VO) : dw (h ++ [o]) p f l d := by
 obtain ⟨vf, vl, h1, h2, h3⟩ := hD
 refine ⟨vf, vl, by rw [List.getElem?_append_left (ay h1)]; exact h1, ?_, ?_⟩
 ·rcases h2 with ⟨id, g, ex, a1, a2, a3⟩ | e
  ·exact .inl ⟨id, g, ex, a1, a2, by rw [List.getElem?_append_left (ay a3)]; exact a3⟩
  ·exact .inr e
 ·rcases h3 with ⟨id, g, a1, a2, a4, a3⟩ | e
  ·exact .inl ⟨id, g, a1, a2, a4, by rw [List.getElem?_append_left (ay a3)]; exact a3⟩
  ·exact .inr e
theorem ux.push {h : ah} {els : List (List CV)} {v : VV} {f : Option Nat} (hF : ux h els v f) (o : VO) : ux (h ++ [o]) els v f := by
 rcases hF with ⟨id, g, ex, a1, a2, a3⟩ | e
 ·exact .inl ⟨id, g, ex, a1, a2, by rw [List.getElem?_append_left (ay a3)]; exact a3⟩
 ·exact .inr e
theorem Kept.push (h : ah) (o : VO) (p : Nat) (f l : Option Nat) : Kept h (h ++ [o]) p f l := ⟨by simp, fun j hj _ _ _ => by rw [List.getElem?_append_left hj]⟩
def D.write (d : D) (i : Int) (b : List UInt8) : D × Nat :=
 if d.has i = false then (d, 20) else if 64 < b.length then (d, 3) else if d.dark = true then (d, 0) else
 ({ d.burnt with loose := d.loose ++ [(i.toNat, pad b)], w := d.w + 1 }, 0)
structure Moved (h h' : ah) (p : Nat) (f l l' : Option Nat) (d' : D) : Prop where
 dev : dw h' p f l' d'
 kept : Kept h h' p f l
 new : Gh h l l'
theorem Moved.refl {h : ah} {p : Nat} {f l : Option Nat} {d : D} (hD : dw h p f l d) : Moved h h p f l l d := ⟨hD, Kept.refl _ _ _ _, Gh.refl _ _⟩
theorem Moved.trans {h h1 h2 : ah} {p : Nat} {f l l1 l2 : Option Nat} {d1 d2 : D} (a : Moved h h1 p f l l1 d1) (b : Moved h1 h2 p f l1 l2 d2) : Moved h h2 p f l l2 d2 :=
 ⟨b.dev, a.kept.trans b.kept a.new, a.new.trans b.new a.kept.len⟩
structure WriteP (h : ah) (p : Nat) (f l : Option Nat) (x : D × Nat) (v : VV) (h' : ah) : Prop where
 v : v = vi .u16 x.2
 m : ∃ l', Moved h h' p f l l' x.1
theorem ja (d : D) : d.burnt.firm = d.firm := by unfold D.burnt; split <;> rfl
theorem mu (d : D) : d.burnt.loose = d.loose := by unfold D.burnt; split <;> rfl
theorem Ez (d : D) : d.burnt.w = d.w := by unfold D.burnt; split <;> rfl
theorem qi (d : D) : d.burnt.f = d.f := by unfold D.burnt; split <;> rfl
theorem vu {h : ah} {p : Nat} {f l : Option Nat} {d : D} (hD : dw h p f l d) (hO : d.OK) (hw : d.w < 900000) (hll : d.loose.length < 900000) (i : Int) (b : List UInt8) (vb_ : VV) (hb : SlV 1 (eB b) vb_) : ∃ v h', call F 31 [.ptr p 0, vi .i64 i, vb_] h = some (.ret v, h') ∧ WriteP h p f l (d.write i b) v h' := by
  refine eE3 (fn := f31) (n := 43) rfl rfl fun s hs h0 h1 h2 => ?_
  simp only [f31]
  simp only [go_sem, Nat.reduceLT, Nat.reduceEqDiff, reduceCtorEq, Int.reduceLT, Int.reduceEq, hs, h0, h1]
  refine ap (by simp only [List.map, go_sem, Nat.reduceLT, Nat.reduceEqDiff, reduceCtorEq, Int.reduceLT, Int.reduceEq, hs]; exact Wv hD i) ?_
  unfold D.write
  cases hh : d.has i with
  | false =>
    simp only [go_sem, Nat.reduceLT, Nat.reduceEqDiff, reduceCtorEq, Int.reduceLT, Int.reduceEq, hs]
    exact ⟨rfl, l, Moved.refl hD⟩
  | true =>
    by_cases c1 : (64 : Int) < (b.length : Int)
    · have c1' : 64 < b.length := by omega
      simp only [go_sem, Nat.reduceLT, Nat.reduceEqDiff, reduceCtorEq, Int.reduceLT, Int.reduceEq, hs, h2, hb.ln, aw, c1, c1', Bool.true_eq_false]
      exact ⟨rfl, l, Moved.refl hD⟩
    · have c1' : ¬ 64 < b.length := by omega
      simp only [go_sem, Nat.reduceLT, Nat.reduceEqDiff, reduceCtorEq, Int.reduceLT, Int.reduceEq, hs, h2, hb.ln, aw, c1, c1', Bool.true_eq_false]
      rw [bg f31_0.eq_1]
      obtain ⟨g1, hc1, hD1, hK1⟩ := Or hD
      simp only [go_sem, Nat.reduceLT, Nat.reduceEqDiff, reduceCtorEq, Int.reduceLT, Int.reduceEq, hs, h0]
      refine ap (by simp only [List.map, go_sem, Nat.reduceLT, Nat.reduceEqDiff, reduceCtorEq, Int.reduceLT, Int.reduceEq, hs]; exact hc1) ?_
      cases hdk : d.dark with
      | true =>
        have e : d.burnt = d := by unfold D.burnt; rw [if_pos hdk]
        rw [e] at hD1
        simp only [go_sem, Nat.reduceLT, Nat.reduceEqDiff, reduceCtorEq, Int.reduceLT, Int.reduceEq, hs]
        exact ⟨rfl, l, ⟨hD1, hK1, Gh.refl _ _⟩⟩
      | false =>
        have hi : 0 ≤ i ∧ i < (d.firm.length : Int) := by
          unfold D.has at hh
          simpa using hh
        obtain ⟨k, rfl⟩ : ∃ k : Nat, i = (k : Int) := ⟨i.toNat, by omega⟩
        simp only [go_sem, Nat.reduceLT, Nat.reduceEqDiff, reduceCtorEq, Int.reduceLT, Int.reduceEq, hs, h1, aap]
        rw [jz (n := 65) (cells := .cv (.sc (.int .i64 0)) :: List.replicate 64 (.cv (.sc (.int .u8 0)))) (by simp) bh (by simp), lx]
        simp only [go_sem, Nat.reduceLT, Nat.reduceEqDiff, reduceCtorEq, Int.reduceLT, Int.reduceEq, hs, h2]
        rw [Il bh (by simp)]
        simp only [go_sem, Nat.reduceLT, Nat.reduceEqDiff, reduceCtorEq, Int.reduceLT, Int.reduceEq, hs, h2]
        rw [ai3 (src := eB b) bh (by simp) hb.src, lx]
        have em : min (eB b).length 64 = b.length := by rw [aw]; omega
        have et : (eB b).take b.length = eB b := List.take_of_length_le (by rw [aw]; exact Nat.le_refl _)
        rw [em, et, afj, Qr (by omega)]
        have ec : (VV.cv (.sc (.int .i64 (k : Int))) :: (cB (pad b)).map .cv) = ((CV.sc (.int .i64 (k : Int)) :: cB (pad b)).map .cv) := rfl
        rw [ec]
        have hpl : (CV.sc (.int .i64 (k : Int)) :: cB (pad b)).length = 65 := by simp only [List.length_cons, kt, Lw (show b.length ≤ 64 by omega)]
        generalize hcell : (CV.sc (.int .i64 (k : Int)) :: cB (pad b)) = cells at hpl ⊢
        generalize hbox : VO.box (cells.map .cv) false = bx
        have hD2 := hD1.push bx
        obtain ⟨vf, vl, a1, a2, a3⟩ := hD2
        obtain ⟨k0, k1, k2, k3, k4⟩ := ldp a1
        have hlb : ldO (g1 ++ [bx]) true 65 (.ptr g1.length 0) = some (.agg (cells.map .cv), g1 ++ [bx]) := by rw [← hbox]; exact nr bh (by simp; omega)
        simp only [go_sem, Nat.reduceLT, Nat.reduceEqDiff, reduceCtorEq, Int.reduceLT, Int.reduceEq, hs]
        refine kh rfl ?_
        simp only [go_sem, Nat.reduceLT, Nat.reduceEqDiff, reduceCtorEq, Int.reduceLT, Int.reduceEq, hs, h0, k1, hlb]
        rw [abj (by simp) hpl]
        simp only [go_sem, Nat.reduceLT, Nat.reduceEqDiff, reduceCtorEq, Int.reduceLT, Int.reduceEq, hs, h0]
        refine aca (els := lE d.burnt.loose) (e := cells) a3 (by simp only [go_sem, Nat.reduceLT, Nat.reduceEqDiff, reduceCtorEq, Int.reduceLT, Int.reduceEq, hs]) (by simp only [go_sem, Nat.reduceLT, Nat.reduceEqDiff, reduceCtorEq, Int.reduceLT, Int.reduceEq, hs]) (by decide) (by rw [Tt, mu]; omega) (fun v3 g3 l3 hL3 hN3 hlen3 hcell3 hsame3 => ?_)
        have hpl3 : l ≠ some p := by
          rcases a3 with ⟨id, g, b1, _, _, b2⟩ | ⟨b1, _⟩
          · rintro e; rw [e] at b1; cases b1; rw [a1] at b2; cases b2
          · rw [b1]; simp
        have a1' : g3[p]? = some (.box [vf, vl, cpx d.burnt.w d.burnt.f, vb d.burnt.fused, vi .i64 d.burnt.left] false) := by rw [hsame3 p (ay a1) hpl3]; exact a1
        have a2' : ux g3 (fE d.burnt.firm) vf f := by
          rcases a2 with ⟨id, g, ex, b1, b2, b3⟩ | e
          · refine .inl ⟨id, g, ex, b1, b2, ?_⟩
            rw [hsame3 id (ay b3) ?_]; exact b3
            rintro e
            rcases a3 with ⟨id', g', c1, _, _, c2⟩ | ⟨c1, _⟩
            · rw [e] at c1; cases c1; rw [b3] at c2; cases c2
            · rw [e] at c1; cases c1
          · exact .inr e
        obtain ⟨s1, _, _, _⟩ := stp a1' hcell3
        simp only [go_sem, Nat.reduceLT, Nat.reduceEqDiff, reduceCtorEq, Int.reduceLT, Int.reduceEq, hs, h0, s1]
        have hp3 := ay a1'
        generalize hg4 : g3.set p (.box [vf, v3, cpx d.burnt.w d.burnt.f, vb d.burnt.fused, vi .i64 d.burnt.left] false) = g4
        have a4 : g4[p]? = some (.box [vf, v3, cpx d.burnt.w d.burnt.f, vb d.burnt.fused, vi .i64 d.burnt.left] false) := by rw [← hg4, List.getElem?_set_self hp3]
        have ne4 : ∀ j, j ≠ p → g4[j]? = g3[j]? := fun j hj => by rw [← hg4, List.getElem?_set_ne (fun e => hj e.symm)]
        have len4 : g4.length = g3.length := by rw [← hg4]; simp
        obtain ⟨_, _, m2, _, _⟩ := ldp a4
        have hadd : ls .add (cpx d.burnt.w d.burnt.f) (.cv (.sc (.complex .f64 4607182418800017408 0))) = some (cpx (d.w + 1) d.f) := by
          rw [Ez, qi]
          have x1 := ac6 d.w (by omega)
          have x2 := Uk d.f (by have := hO.f; omega)
          simp [ls, tm, x1, x2]
        obtain ⟨_, s2, _, _⟩ := stp a4 (v := cpx (d.w + 1) d.f) rfl
        simp only [go_sem, Nat.reduceLT, Nat.reduceEqDiff, reduceCtorEq, Int.reduceLT, Int.reduceEq, hs, h0, m2, hadd, s2]
        refine ⟨rfl, l3, ⟨⟨vf, v3, ?_, ?_, ?_⟩, ?_, ?_⟩⟩
        · rw [List.getElem?_set_self (by omega)]
          simp only [qi]
        · rcases a2' with ⟨id, g, ex, b1, b2, b3⟩ | e
          · have hne : id ≠ p := by rintro rfl; rw [b3] at a1'; cases a1'
            exact .inl ⟨id, g, ex, b1, b2, by rw [List.getElem?_set_ne (fun e => hne e.symm), ne4 id hne]; exact b3⟩
          · exact .inr e
        · have e3 : lE d.burnt.loose ++ [cells] = lE (d.loose ++ [((k : Int).toNat, pad b)]) := by
            rw [← hcell, mu]; simp [lE]
          rw [e3] at hL3
          rcases hL3 with ⟨id, g, b1, b2, b4, b3⟩ | e
          · have hne : id ≠ p := by rintro rfl; rw [b3] at a1'; cases a1'
            exact .inl ⟨id, g, b1, b2, b4, by rw [List.getElem?_set_ne (fun e => hne e.symm), ne4 id hne]; exact b3⟩
          · exact .inr e
        · refine ⟨?_, fun j hj h1 h2 h3 => ?_⟩
          · have := hK1.len
            rw [List.length_append, List.length_singleton] at hlen3
            rw [List.length_set]; omega
          · have hj1 : j < g1.length := Nat.lt_of_lt_of_le hj hK1.len
            rw [List.getElem?_set_ne (fun e => h1 e.symm), ne4 j h1, hsame3 j (by rw [List.length_append]; omega) h3, List.getElem?_append_left hj1, hK1.same j hj h1 h2 h3]
        · intro j e
          rcases hN3 j e with e' | e'
          · exact .inl e'
          · right
            have := hK1.len
            rw [List.length_append] at e'
            omega
open Go Go.Vm
structure Ext (h h' : ah) : Prop where
 len : h.length <= h'.length
 same : ∀ j, j < h.length -> h'[j]? = h[j]?
theorem Ext.refl (h : ah) : Ext h h := ⟨Nat.le_refl _, fun _ _ => rfl⟩
theorem Ext.trans {h h1 h2 : ah} (a : Ext h h1) (b : Ext h1 h2) : Ext h h2 := ⟨Nat.le_trans a.len b.len, fun j hj => by rw [b.same j (Nat.lt_of_lt_of_le hj a.len), a.same j hj]⟩
theorem Ext.push (h : ah) (o : VO) : Ext h (h ++ [o]) := ⟨by simp, fun j hj => by rw [List.getElem?_append_left hj]⟩
theorem Ext.kept {h h' : ah} (e : Ext h h') (p : Nat) (f l : Option Nat) : Kept h h' p f l := ⟨e.len, fun j hj _ _ _ => e.same j hj⟩
theorem Ext.get {h h' : ah} (e : Ext h h') {j : Nat} {o : VO} (hj : h[j]? = some o) : h'[j]? = some o := by rw [e.same j (ay hj), hj]
theorem ux.ext {h h' : ah} {els : List (List CV)} {v : VV} {f : Option Nat} (hF : ux h els v f) (e : Ext h h') : ux h' els v f := by
 rcases hF with ⟨id, g, ex, a1, a2, a3⟩ | e1
 ·exact .inl ⟨id, g, ex, a1, a2, e.get a3⟩
 ·exact .inr e1
theorem mh.ext {h h' : ah} {els : List (List CV)} {v : VV} {f : Option Nat} (hF : mh h els v f) (e : Ext h h') : mh h' els v f := by
 rcases hF with ⟨id, g, a1, a2, a4, a3⟩ | e1
 ·exact .inl ⟨id, g, a1, a2, a4, e.get a3⟩
 ·exact .inr e1
theorem dw.ext {h h' : ah} {p : Nat} {f l : Option Nat} {d : D} (hD : dw h p f l d) (e : Ext h h') : dw h' p f l d := by
 obtain ⟨vf, vl, h1, h2, h3⟩ := hD
 exact ⟨vf, vl, e.get h1, h2.ext e, h3.ext e⟩
theorem ux.at_ {h : ah} {els : List (List CV)} {v : VV} {f : Option Nat} (hF : ux h els v f) {j : Nat} {e : List CV} (hj : els[j]? = some e) :
  ∃ id g, f = some id /\ iaO h 64 v (vi .i64 j) = some (.eptr id g j 0, h) /\ h[id]? = some (.arr 64 els g false) := by
 have hl := (List.getElem?_eq_some_iff.1 hj).1
 rcases hF with ⟨id, g, ex, a1, rfl, a3⟩ | ⟨_, rfl, _⟩
 ·exact ⟨id, g, a1, by rw [yh (by omega) a3 (by simpa using hl)]; simp, a3⟩
 ·cases hj
theorem mh.at_ {h : ah} {els : List (List CV)} {v : VV} {f : Option Nat} (hF : mh h els v f) {j : Nat} {e : List CV} (hj : els[j]? = some e) :
  ∃ id g, f = some id /\ iaO h 65 v (vi .i64 j) = some (.eptr id g j 0, h) /\ h[id]? = some (.arr 65 els g false) := by
 have hl := (List.getElem?_eq_some_iff.1 hj).1
 rcases hF with ⟨id, g, a1, _, rfl, a3⟩ | ⟨_, rfl, _⟩
 ·exact ⟨id, g, a1, by rw [yh (by omega) a3 (by simpa using hl)]; simp, a3⟩
 ·cases hj
def Cm (i : Int) (x : List UInt8) (l : List (Nat × List UInt8)) : List UInt8 := l.foldl (fun x o => if (o.1 : Int) = i then o.2 else x) x
def D.cell (d : D) (i : Nat) : List UInt8 := Cm i (d.firm.getD i []) d.loose
def ObV (h : ah) (b : List UInt8) (v : VV) : Prop := ∃ id, v = .ob id 0 b.length 1 true /\ h[id]? = some (.box ((cB b).map .cv) false)
theorem Hr (l : List CV) (f : VV -> Option CV) (hf : ∀ c, f (.cv c) = some c) : (l.map VV.cv).mapM f = some l := by
 induction l with
 | nil => rfl
 | cons c l ih => simp only [List.map_cons, List.mapM_cons, ih, hf]; rfl
theorem Ve : ∀ (n : Nat) (l : List CV), l.length = n -> na 1 n l = l.map fun c => [c] := by
 intro n l h
 subst h
 unfold na
 apply List.ext_getElem
 ·simp
 ·intro i h1 h2
  simp only [List.length_map, List.length_range] at h1
  simp only [List.getElem_map, List.getElem_range, Nat.mul_one]
  rw [List.drop_eq_getElem_cons h1]
  rfl
structure ReadD (h : ah) (d : D) (i : Int) (v : VV) (h' : ah) : Prop where
 ext : Ext h h'
 no : d.has i = false -> v = .tup [bq, vi .u16 20]
 yes : d.has i = true -> ∃ o, v = .tup [o, vi .u16 0] /\ ObV h' (d.cell i.toNat) o
 new : ∀ id x y z w e, v = .tup [.ob id x y z w, e] -> h.length <= id
theorem Nu {l : List (Nat × List UInt8)} {i : Int} (hl : ∀ o ∈ l, o.2.length = 64 /\ True) : ∀ {x : List UInt8}, x.length = 64 -> (Cm i x l).length = 64 := by
 induction l with
 | nil => intro x h; exact h
 | cons o l ih =>
  intro x h
  show (Cm i (if (o.1 : Int) = i then o.2 else x) l).length = 64
  refine ih (fun o ho => hl o (List.mem_cons_of_mem _ ho)) ?_
  split
  ·exact (hl o List.mem_cons_self).1
  ·exact h
structure ReadI (h : ah) (x : List UInt8) (g : ah) : Prop where
 ext : Ext h g
 box : g[h.length]? = some (.box ((cB x).map .cv) false)
theorem Ot {l : List (Nat × List UInt8)} {done rest : List (Nat × List UInt8)} {o : Nat × List UInt8} (h : l = done ++ o :: rest) : (lE l)[done.length]? = some (.sc (.int .i64 o.1) :: cB o.2) := by
 subst h; simp [lE]
theorem f119_loop {h : ah} {vl : VV} {lp : Option Nat} {l : List (Nat × List UInt8)} (hL : mh h (lE l) vl lp) (hl : ∀ o ∈ l, o.2.length = 64) (hn : l.length ≤ 2000000) (i : Int) :
    ∀ (rest done : List (Nat × List UInt8)) (x : List UInt8) (s : List VV) (g : ah) (Q : Pst), l = done ++ rest → x.length = 64 → s.length = 37 → s.getD 1 .undef = vi .i64 i → s.getD 6 .undef = .ptr h.length 0 →
      s.getD 23 .undef = vl → s.getD 24 .undef = vi .i64 l.length → s.getD 25 .undef = vi .i64 done.length → ReadI h x g →
      (∀ s' g', s'.length = 37 → s'.getD 6 .undef = .ptr h.length 0 → ReadI h (Cm i x rest) g' → Q (.exit 0) ⟨s', g'⟩) → X F (.loop f119_2) ⟨s, g⟩ Q := by
  intro rest
  induction rest with
  | nil =>
    intro done x s g Q hdr hx hs h1 h6 h23 h24 h25 hI hQ
    rw [au, bg f119_2.eq_1]
    have c : ¬ (done.length : Int) < (l.length : Int) := by rw [hdr]; simp
    simp only [go_sem, seval, hs, h24, h25, c]
    rw [bg f119_1.eq_1]
    simp only [go_sem, seval, hs]
    exact hQ _ _ (by simp only [ac, hs]) (by simp only [go_sem, seval, h6]) hI
  | cons o rest ih =>
    intro done x s g Q hdr hx hs h1 h6 h23 h24 h25 hI hQ
    rw [au, bg f119_2.eq_1]
    have c : (done.length : Int) < (l.length : Int) := by rw [hdr]; simp; omega
    obtain ⟨id, gg, e1, e2, e3⟩ := (hL.ext hI.ext).at_ (Ot hdr)
    have ho : o.2.length = 64 := hl o (by rw [hdr]; simp)
    have hel : (CV.sc (.int .i64 o.1) :: cB o.2).length = 65 := by simp only [List.length_cons, kt, ho]
    have hld := og (n := 65) e3 (Ot hdr) hel
    simp only [go_sem, Nat.reduceLT, Nat.reduceEqDiff, reduceCtorEq, Int.reduceLT, Int.reduceEq, hs, h24, h25, c]
    rw [bg f119_1.eq_1]
    simp only [go_sem, Nat.reduceLT, Nat.reduceEqDiff, reduceCtorEq, Int.reduceLT, Int.reduceEq, hs, h23, h25, e2, hld]
    rw [jz (n := 65) (cells := .cv (.sc (.int .i64 0)) :: List.replicate 64 (.cv (.sc (.int .u8 0)))) (by simp [hel, kt, ho]) bh (by simp), lx]
    have hl1 : ldO (g ++ [VO.box ((CV.sc (.int .i64 o.1) :: cB o.2).map .cv) false]) false 1 (.ptr g.length 0) = some (vi .i64 o.1, g ++ [VO.box ((CV.sc (.int .i64 o.1) :: cB o.2).map .cv) false]) := bf bh rfl
    simp only [go_sem, seval, hs, h1, hl1]
    have hx2 := hI.ext.trans (Ext.push g (VO.box ((CV.sc (.int .i64 o.1) :: cB o.2).map .cv) false))
    have hb2 := (Ext.push g (VO.box ((CV.sc (.int .i64 o.1) :: cB o.2).map .cv) false)).get hI.box
    have hnx : ((done.length : Int) + 1) = ((done ++ [o]).length : Int) := by simp
    have hdn : done.length < 2000000 := by have := congrArg List.length hdr; simp at this; omega
    have hw : IntKind.i64.wrap ((done.length : Int) + 1) = ((done ++ [o]).length : Int) := by rw [hnx, IntWalk.i64_in _ (by simp; omega)]
    by_cases ci : (o.1 : Int) = i
    · have hl2 : ldO (g ++ [VO.box ((CV.sc (.int .i64 o.1) :: cB o.2).map .cv) false]) true 64 (.ptr g.length 1) = some (.agg ((cB o.2).map .cv), g ++ [VO.box ((CV.sc (.int .i64 o.1) :: cB o.2).map .cv) false]) := by
        rw [Np bh (by simp [kt, ho])]
        have : (((CV.sc (.int .i64 o.1) :: cB o.2).map VV.cv).drop 1).take 64 = (cB o.2).map VV.cv := by
          simp only [List.map_cons, List.drop_succ_cons, List.drop_zero]
          exact List.take_of_length_le (by simp [kt, ho])
        rw [this]
      generalize hg2 : g ++ [VO.box ((CV.sc (.int .i64 o.1) :: cB o.2).map .cv) false] = g2 at hl1 hl2 hx2 hb2
      have hst : stO g2 64 (.ptr h.length 0) (.agg ((cB o.2).map .cv)) = some (.undef, g2.set h.length (.box ((cB o.2).map .cv) false)) := by
        rw [Nf (by simp [kt, ho]) hb2 (by simp [kt, hx]), wz (by simp [kt, hx, ho])]
      simp only [go_sem, seval, hs, ci, h1, h6, hl2, hst, h25, hw]
      refine ih (done ++ [o]) o.2 _ _ Q (by rw [hdr]; simp) ho (by simp only [ac, hs]) (by simp only [go_sem, seval, h1]) (by simp only [go_sem, seval, h6]) (by simp only [go_sem, seval, h23]) (by simp only [go_sem, seval, h24]) (by simp only [go_sem, seval, hs]) ⟨⟨?_, fun j hj => ?_⟩, ?_⟩ (fun s' g' a1 a2 a3 => hQ s' g' a1 a2 ?_)
      · rw [List.length_set]; exact hx2.len
      · rw [List.getElem?_set_ne (by omega), hx2.same j hj]
      · rw [List.getElem?_set_self (ay hb2)]
      · have : Cm i x (o :: rest) = Cm i o.2 rest := by
          show Cm i (if (o.1 : Int) = i then o.2 else x) rest = _
          rw [if_pos ci]
        rw [this]; exact a3
    · simp only [go_sem, seval, hs, ci, h25, hw]
      refine ih (done ++ [o]) x _ _ Q (by rw [hdr]; simp) hx (by simp only [ac, hs]) (by simp only [go_sem, seval, h1]) (by simp only [go_sem, seval, h6]) (by simp only [go_sem, seval, h23]) (by simp only [go_sem, seval, h24]) (by simp only [go_sem, seval, hs]) ⟨hx2, hb2⟩ (fun s' g' a1 a2 a3 => hQ s' g' a1 a2 ?_)
      have : Cm i x (o :: rest) = Cm i x rest := by
        show Cm i (if (o.1 : Int) = i then o.2 else x) rest = _
        rw [if_neg ci]
      rw [this]; exact a3
theorem Im {h : ah} {p : Nat} {f l : Option Nat} {d : D} (hD : dw h p f l d) (hO : d.OK) (i : Int) : ∃ v h', call F 119 [.ptr p 0, vi .i64 i] h = some (.ret v, h') /\ ReadD h d i v h' := by
 refine eE2 (fn := f119) (n := 37) rfl rfl fun s hs h0 h1 => ?_
 simp only [f119]
 simp only [go_sem, Nat.reduceLT, Nat.reduceEqDiff, reduceCtorEq, Int.reduceLT, Int.reduceEq, hs]
 rw [bg f119_0.eq_1]
 simp only [go_sem, Nat.reduceLT, Nat.reduceEqDiff, reduceCtorEq, Int.reduceLT, Int.reduceEq, hs, h0, h1]
 refine ap (by simp only [List.map, go_sem, Nat.reduceLT, Nat.reduceEqDiff, reduceCtorEq, Int.reduceLT, Int.reduceEq, hs]; exact Wv hD i) ?_
 cases hh : d.has i with
 | false =>
  simp only [go_sem, Nat.reduceLT, Nat.reduceEqDiff, reduceCtorEq, Int.reduceLT, Int.reduceEq, hs]
  exact ⟨Ext.refl _, fun _ => rfl, fun e => (by rw [hh] at e; cases e), fun id x y z w e h => (by cases h)⟩
 | true =>
  have hi : 0 <= i /\ i < (d.firm.length : Int) := by
   unfold D.has at hh
   simpa using hh
  obtain ⟨k, rfl⟩ : ∃ k : Nat, i = (k : Int) := ⟨i.toNat, by omega⟩
  obtain ⟨vf, vl, a1, a2, a3⟩ := hD
  obtain ⟨k0, k1, _, _, _⟩ := ldp a1
  have hk : d.firm[k]? = some (d.firm.getD k []) := by
   rw [List.getD_eq_getElem?_getD, List.getElem?_eq_getElem (by omega)]; rfl
  have hke : (fE d.firm)[k]? = some (cB (d.firm.getD k [])) := by simp only [fE, List.getElem?_map, hk, Option.map_some]
  have h64 : (d.firm.getD k []).length = 64 := hO.f64 _ (List.mem_of_getElem? hk)
  obtain ⟨id, gg, e1, e2, e3⟩ := a2.at_ hke
  have hld := og (n := 64) e3 hke (by rw [kt, h64])
  simp only [go_sem, Nat.reduceLT, Nat.reduceEqDiff, reduceCtorEq, Int.reduceLT, Int.reduceEq, hs, h0, h1, k0, e2, hld]
  rw [jz (n := 64) (cells := List.replicate 64 (.cv (.sc (.int .u8 0)))) (by rw [List.length_map, kt, h64]) bh (by simp), lx]
  have hx := Ext.push h (VO.box ((cB (d.firm.getD k [])).map .cv) false)
  obtain ⟨_, k1, _, _, _⟩ := ldp (hx.get a1)
  simp only [go_sem, seval, hs, h0, k1, a3.ln, Tt]
  refine f119_loop a3 (fun o ho => (hO.l64 o ho).1) (by have := hO.lw; omega) (k : Int) d.loose [] (d.firm.getD k []) _ _ _ rfl h64 (by simp only [ac, hs]) (by simp only [go_sem, seval, h1]) (by simp only [go_sem, seval, hs]) (by simp only [go_sem, seval, hs]) (by simp only [go_sem, seval, hs]) (by simp only [go_sem, seval, hs]; rfl) ⟨hx, bh⟩ (fun s' g' b1 b2 b3 => ?_)
  have hcl : (d.cell k).length = 64 := Nu (fun o ho => ⟨(hO.l64 o ho).1, trivial⟩) h64
  simp only [go_sem, seval, b1, b2]
  rw [Il b3.box (by simp only [List.length_map, kt]; show _ <= (d.cell k).length; omega)]
  simp only [go_sem, seval, b1]
  exact ⟨b3.ext, fun e => (by rw [hh] at e; cases e), fun _ => ⟨_, rfl, h.length, by rw [show ((k : Int).toNat) = k from rfl, hcl], b3.box⟩, fun id x y z w e h => by cases h; exact Nat.le_refl _⟩
open Go Go.Vm
def jg (kf : Nat -> Bool) : Nat -> List (List UInt8) -> List (Nat × List UInt8) -> List (List UInt8)
 | _, firm, [] => firm
 | k, firm, o :: l => jg kf (k + 1) (if kf k then firm.set o.1 o.2 else firm) l
theorem xw {kf : Nat -> Bool} : ∀ {l : List (Nat × List UInt8)} {k : Nat} {firm : List (List UInt8)}, (jg kf k firm l).length = firm.length
 | [], _, _ => rfl
 | o :: l, k, firm => by
  show (jg kf (k + 1) (if kf k then firm.set o.1 o.2 else firm) l).length = _
  rw [xw]
  split <;> simp
structure SetI (h : ah) (f : Option Nat) (vf : VV) (firm : List (List UInt8)) (g : ah) : Prop where
 len : h.length <= g.length
 same : ∀ j, j < h.length -> f ≠ some j -> g[j]? = h[j]?
 firm : ux g (fE firm) vf f
theorem SetI.push {h : ah} {f : Option Nat} {vf : VV} {firm : List (List UInt8)} {g : ah} (i : SetI h f vf firm g) (o : VO) : SetI h f vf firm (g ++ [o]) :=
 ⟨by have := i.len; simp; omega, fun j hj hf => by rw [List.getElem?_append_left (Nat.lt_of_lt_of_le hj i.len), i.same j hj hf], i.firm.push o⟩
theorem f54_loop {h : ah} {p : Nat} {vf vl a b c3 : VV} {f lp : Option Nat} {l : List (Nat × List UInt8)} {firm0 : List (List UInt8)} (hp : h[p]? = some (.box [vf, vl, a, b, c3] false)) (hF : ux h (fE firm0) vf f) (hL : mh h (lE l) vl lp)
  (hl : ∀ o ∈ l, o.2.length = 64 /\ o.1 < firm0.length) (hn : l.length <= 2000000)
  {fi : Nat} {caps : List VV} {kf : Nat -> Bool} (hfi : fi < YB) (hkf : ∀ (k : Nat) g, k < 2000000 -> (∀ j, j < h.length -> f ≠ some j -> g[j]? = h[j]?) -> call F fi ([vi .i64 k] ++ caps) g = some (.ret (vb (kf k)), g)) :
  ∀ (rest done : List (Nat × List UInt8)) (firm : List (List UInt8)) (s : List VV) (g : ah) (Q : Pst), l = done ++ rest -> firm.length = firm0.length -> (∀ b ∈ firm, b.length = 64) -> s.length = 32 -> s.getD 0 .undef = .ptr p 0 -> s.getD 1 .undef = .func fi caps ->
   s.getD 9 .undef = vl -> s.getD 10 .undef = vi .i64 l.length -> s.getD 11 .undef = vi .i64 done.length -> SetI h f vf firm g ->
   (∀ s' g', s'.length = 32 -> s'.getD 0 .undef = .ptr p 0 -> SetI h f vf (jg kf done.length firm rest) g' -> Q (.exit 0) ⟨s', g'⟩) -> X F (.loop f54_1) ⟨s, g⟩ Q := by
 have hpf : f ≠ some p := by
  rcases hF with ⟨id, gg, ex, a1, _, a3⟩ | ⟨a1, _⟩
  ·rintro e; rw [e] at a1; cases a1; rw [hp] at a3; cases a3
  ·rw [a1]; simp
 have hlf : ∀ i, lp = some i -> f ≠ some i := by
  intro i hi
  rcases hF with ⟨id, gg, ex, a1, _, a3⟩ | ⟨a1, _⟩
  ·rintro e; rw [e] at a1; cases a1
   rcases hL with ⟨id', g', b1, _, _, b3⟩ | ⟨b1, _⟩
   ·rw [hi] at b1; cases b1; rw [a3] at b3; cases b3
   ·rw [hi] at b1; cases b1
  ·rw [a1]; simp
 intro rest
 induction rest with
 | nil =>
  intro done firm s g Q hdr hfl hx hs h0 h1 h9 h10 h11 hI hQ
  rw [au, bg f54_1.eq_1]
  have c : ¬ (done.length : Int) < (l.length : Int) := by rw [hdr]; simp
  simp only [go_sem, seval, hs, h10, h11, c]
  rw [bg f54_0.eq_1]
  simp only [go_sem, seval, hs]
  exact hQ _ _ (by simp only [ac, hs]) (by simp only [go_sem, seval, h0]) hI
 | cons o rest ih =>
  intro done firm s g Q hdr hfl hx hs h0 h1 h9 h10 h11 hI hQ
  rw [au, bg f54_1.eq_1]
  have c : (done.length : Int) < (l.length : Int) := by rw [hdr]; simp; omega
  have hLg : mh g (lE l) vl lp := by
   rcases hL with ⟨id', g', b1, b2, b4, b3⟩ | e
   ·exact .inl ⟨id', g', b1, b2, b4, by rw [hI.same id' (ay b3) (hlf id' b1)]; exact b3⟩
   ·exact .inr e
  obtain ⟨id, gg, e1, e2, e3⟩ := hLg.at_ (Ot hdr)
  have hom := hl o (by rw [hdr]; simp)
  have ho : o.2.length = 64 := hom.1
  have hel : (CV.sc (.int .i64 o.1) :: cB o.2).length = 65 := by simp only [List.length_cons, kt, ho]
  have hld := og (n := 65) e3 (Ot hdr) hel
  simp only [go_sem, Nat.reduceLT, Nat.reduceEqDiff, reduceCtorEq, Int.reduceLT, Int.reduceEq, hs, h10, h11, c]
  rw [bg f54_0.eq_1]
  simp only [go_sem, Nat.reduceLT, Nat.reduceEqDiff, reduceCtorEq, Int.reduceLT, Int.reduceEq, hs, h9, h11, e2, hld]
  rw [jz (n := 65) (cells := .cv (.sc (.int .i64 0)) :: List.replicate 64 (.cv (.sc (.int .u8 0)))) (by simp [hel, kt, ho]) bh (by simp), lx]
  have hI2 := hI.push (VO.box ((CV.sc (.int .i64 o.1) :: cB o.2).map .cv) false)
  have hl1 : ldO (g ++ [VO.box ((CV.sc (.int .i64 o.1) :: cB o.2).map .cv) false]) false 1 (.ptr g.length 0) = some (vi .i64 o.1, g ++ [VO.box ((CV.sc (.int .i64 o.1) :: cB o.2).map .cv) false]) := bf bh rfl
  have hl2 : ldO (g ++ [VO.box ((CV.sc (.int .i64 o.1) :: cB o.2).map .cv) false]) true 64 (.ptr g.length 1) = some (.agg ((cB o.2).map .cv), g ++ [VO.box ((CV.sc (.int .i64 o.1) :: cB o.2).map .cv) false]) := by
   rw [Np bh (by simp [kt, ho])]
   have : (((CV.sc (.int .i64 o.1) :: cB o.2).map VV.cv).drop 1).take 64 = (cB o.2).map VV.cv := by
    simp only [List.map_cons, List.drop_succ_cons, List.drop_zero]
    exact List.take_of_length_le (by simp [kt, ho])
   rw [this]
  generalize hg2 : g ++ [VO.box ((CV.sc (.int .i64 o.1) :: cB o.2).map .cv) false] = g2 at hl1 hl2 hI2
  have hdn : done.length < 2000000 := by have := congrArg List.length hdr; simp at this; omega
  have hnx : ((done.length : Int) + 1) = ((done ++ [o]).length : Int) := by simp
  have hw : IntKind.i64.wrap ((done.length : Int) + 1) = ((done ++ [o]).length : Int) := by rw [hnx, IntWalk.i64_in _ (by simp; omega)]
  simp only [go_sem, seval, hs, h1]
  refine Al (hf := hfi) (f := fi) (caps := caps) (by simp only [go_sem, seval, hs]) (by simp only [List.map, go_sem, seval, hs]; exact hkf done.length g2 hdn hI2.same) ?_
  have hsu : jg kf done.length firm (o :: rest) = jg kf (done ++ [o]).length (if kf done.length then firm.set o.1 o.2 else firm) rest := by
   rw [List.length_append]; rfl
  rw [hsu] at hQ
  cases hk : kf done.length with
  | true =>
   rw [hk, if_pos rfl] at hQ
   have hpg : g2[p]? = some (.box [vf, vl, a, b, c3] false) := by rw [hI2.same p (ay hp) hpf]; exact hp
   obtain ⟨k0, _, _, _, _⟩ := ldp hpg
   have hof : o.1 < firm.length := by rw [hfl]; exact hom.2
   have hke : (fE firm)[o.1]? = some (cB (firm[o.1])) := by simp only [fE, List.getElem?_map, List.getElem?_eq_getElem hof, Option.map_some]
   obtain ⟨fid, g3, q1, q2, q3⟩ := hI2.firm.at_ hke
   have hst := Jv (n := 64) (cs := cB o.2) (by rw [kt, ho]) q3 hke (by rw [kt]; exact hx _ (List.getElem_mem hof))
   simp only [go_sem, seval, hs]
   refine kh rfl ?_
   simp only [go_sem, seval, hs, h0, k0, hl1, hl2, q2, hst, h11, hw]
   refine ih (done ++ [o]) (firm.set o.1 o.2) _ _ Q (by rw [hdr]; simp) (by simp [hfl]) ?_ (by simp only [ac, hs]) (by simp only [go_sem, seval, h0]) (by simp only [go_sem, seval, h1]) (by simp only [go_sem, seval, h9]) (by simp only [go_sem, seval, h10]) (by simp only [go_sem, seval, hs]) ⟨?_, fun j hj hf => ?_, ?_⟩ hQ
   ·intro b hb
    rcases List.mem_or_eq_of_mem_set hb with e | e
    ·exact hx b e
    ·rw [e]; exact ho
   ·rw [List.length_set]; exact hI2.len
   ·rw [List.getElem?_set_ne (by rintro rfl; exact hf q1), hI2.same j hj hf]
   ·rcases hI2.firm with ⟨id', g', ex, b1, b2, b3⟩ | ⟨b1, _⟩
    ·rw [q1] at b1; cases b1
     rw [q3] at b3; cases b3
     refine .inl ⟨fid, g3, ex, q1, ?_, ?_⟩
     ·rw [b2, Oh, Oh, List.length_set]
     ·rw [List.getElem?_set_self (ay q3)]
      simp [fE, List.map_set]
    ·rw [q1] at b1; cases b1
  | false =>
   rw [hk, if_neg (by simp)] at hQ
   simp only [go_sem, seval, hs, h11, hw]
   exact ih (done ++ [o]) firm _ _ Q (by rw [hdr]; simp) hfl hx (by simp only [ac, hs]) (by simp only [go_sem, seval, h0]) (by simp only [go_sem, seval, h1]) (by simp only [go_sem, seval, h9]) (by simp only [go_sem, seval, h10]) (by simp only [go_sem, seval, hs]) hI2 hQ
def D.settle (d : D) (kf : Nat -> Bool) : D := { d with firm := jg kf 0 d.firm d.loose, loose := [] }
structure SettleP (h : ah) (p : Nat) (f l : Option Nat) (d : D) (v : VV) (h' : ah) : Prop where
 v : v = .tup []
 dev : dw h' p f none d
 kept : Kept h h' p f l
theorem Dh {h : ah} {p : Nat} {f l : Option Nat} {d : D} (hD : dw h p f l d) (hO : d.OK) {fi : Nat} {caps : List VV} {kf : Nat -> Bool}
  (hfi : fi < YB) (hkf : ∀ (k : Nat) g, k < 2000000 -> (∀ j, j < h.length -> f ≠ some j -> g[j]? = h[j]?) -> call F fi ([vi .i64 k] ++ caps) g = some (.ret (vb (kf k)), g)) :
  ∃ v h', call F 54 [.ptr p 0, .func fi caps] h = some (.ret v, h') /\ SettleP h p f l (d.settle kf) v h' := by
 obtain ⟨vf, vl, a1, a2, a3⟩ := hD
 refine eE2 (fn := f54) (n := 32) rfl rfl fun s hs h0 h1 => ?_
 simp only [f54]
 obtain ⟨_, k1, _, _, _⟩ := ldp a1
 simp only [go_sem, seval, hs, h0, k1, a3.ln, Tt]
 refine f54_loop a1 a2 a3 (fun o ho => hO.l64 o ho) (by have := hO.lw; omega) hfi hkf d.loose [] d.firm _ _ _ rfl rfl hO.f64 (by simp only [ac, hs]) (by simp only [go_sem, seval, h0]) (by simp only [go_sem, seval, h1]) (by simp only [go_sem, seval, hs]) (by simp only [go_sem, seval, hs]) (by simp only [go_sem, seval, hs]; rfl) ⟨Nat.le_refl _, fun _ _ _ => rfl, a2⟩ (fun s' g' b1 b2 b3 => ?_)
 have hpf : f ≠ some p := by
  rcases a2 with ⟨id, gg, ex, c1, _, c3⟩ | ⟨c1, _⟩
  ·rintro e; rw [e] at c1; cases c1; rw [a1] at c3; cases c3
  ·rw [c1]; simp
 have a1' : g'[p]? = some (.box [vf, vl, cpx d.w d.f, vb d.fused, vi .i64 d.left] false) := by rw [b3.same p (ay a1) hpf]; exact a1
 obtain ⟨s1, _, _, _⟩ := stp a1' (v := bq) rfl
 simp only [go_sem, seval, b1, b2, s1]
 refine ⟨rfl, ⟨vf, bq, ?_, ?_, .inr ⟨rfl, rfl, rfl⟩⟩, ⟨by rw [List.length_set]; exact b3.len, fun j hj x1 x2 _ => ?_⟩⟩
 ·rw [List.getElem?_set_self (ay a1')]; rfl
 ·rcases b3.firm with ⟨id, gg, ex, c1, c2, c3⟩ | e
  ·exact .inl ⟨id, gg, ex, c1, c2, by rw [List.getElem?_set_ne (by rintro rfl; exact hpf c1)]; exact c3⟩
  ·exact .inr e
 ·rw [List.getElem?_set_ne (fun e => x1 e.symm), b3.same j hj x2]
theorem Yx (v : VV) (g : ah) : call F 58 [v] g = some (.ret (vb true), g) := by
 refine eP1 (fn := f58) (n := 3) rfl rfl fun s hs _ => ?_
 simp only [f58]
 simp only [go_sem, seval, hs]
 exact ⟨rfl, rfl⟩
def D.flush (d : D) : D := if d.dark then d else { d.burnt.settle (fun _ => true) with w := d.w, f := d.f + 1 }
theorem Pz {d : D} (h : d.OK) : d.burnt.OK := by
 refine ⟨?_, ?_, ?_, ?_, ?_, ?_⟩
 ·rw [ja]; exact h.f64
 ·rw [ja, mu]; exact h.l64
 ·rw [ja]; exact h.n
 ·rw [mu]; exact h.lw
 ·rw [Ez]; exact h.w
 ·rw [qi]; exact h.f
structure FlushP (h : ah) (p : Nat) (f l : Option Nat) (d : D) (v : VV) (h' : ah) : Prop where
 v : v = .tup []
 m : ∃ l', Moved h h' p f l l' d
theorem vy {h : ah} {p : Nat} {f l : Option Nat} {d : D} (hD : dw h p f l d) (hO : d.OK) (hf : d.f < 900000) : ∃ v h', call F 32 [.ptr p 0] h = some (.ret v, h') /\ FlushP h p f l d.flush v h' := by
 refine eE1 (fn := f32) (n := 18) rfl rfl fun s hs h0 => ?_
 simp only [f32]
 simp only [go_sem, seval, hs]
 rw [bg f32_0.eq_1]
 obtain ⟨g1, hc1, hD1, hK1⟩ := Or hD
 simp only [go_sem, seval, hs, h0, amb]
 refine ap (by simp only [List.map, go_sem, seval, hs]; exact hc1) ?_
 unfold D.flush
 cases hdk : d.dark with
 | true =>
  have e : d.burnt = d := by unfold D.burnt; rw [if_pos hdk]
  rw [e] at hD1
  simp only [go_sem, seval, hs]
  exact ⟨rfl, l, hD1, hK1, Gh.refl _ _⟩
 | false =>
  obtain ⟨v2, g2, hc2, hP2⟩ := Dh hD1 (Pz hO) (fi := 58) (caps := []) (kf := fun _ => true) (by decide) (fun k g _ _ => Yx _ g)
  simp only [go_sem, seval, hs, h0]
  refine ap (by simp only [List.map, go_sem, seval, hs]; exact hc2) ?_
  obtain ⟨vf, vl, b1, b2, b3⟩ := hP2.dev
  obtain ⟨_, _, m2, _, _⟩ := ldp b1
  have hadd : ls .add (cpx (d.burnt.settle fun _ => true).w (d.burnt.settle fun _ => true).f) (.cv (.sc (.complex .f64 0 4607182418800017408))) = some (cpx d.w (d.f + 1)) := by
   have x1 := ac6 d.f (by omega)
   have x2 := Uk d.w (by have := hO.w; omega)
   have y1 : (d.burnt.settle fun _ => true).w = d.w := Ez d
   have y2 : (d.burnt.settle fun _ => true).f = d.f := qi d
   rw [y1, y2]
   simp [ls, tm, x1, x2]
  obtain ⟨_, s2, _, _⟩ := stp b1 (v := cpx d.w (d.f + 1)) rfl
  simp only [go_sem, seval, hs, h0, m2, hadd, s2]
  obtain ⟨t1, t2⟩ := dw.turn (d' := { d.burnt.settle (fun _ => true) with w := d.w, f := d.f + 1 }) b1 b2 b3 rfl rfl
  have y1 : (d.burnt.settle fun _ => true).w = d.w := Ez d
  simp only [y1] at t1 t2
  exact ⟨rfl, none, t1, (hK1.trans hP2.kept (fun _ e => .inl e)).trans t2 (fun _ e => by cases e), fun _ e => by cases e⟩
def xd (b : List Bool) : List (List CV) := b.map fun x => [.sc (.bool x)]
theorem mz {b : List Bool} : (xd b).length = b.length := by simp [xd]
def wy (b : List Bool) (k : Nat) : Bool := b.getD k false
theorem ab3 {b : List Bool} {v : VV} (hb : SlV 1 (xd b) v) (hl : b.length <= maxLen) (kb k : Nat) (g : ah) (hg : g[kb]? = some (.box [v] false)) : call F 55 [vi .i64 k, .ptr kb 0] g = some (.ret (vb (wy b k)), g) := by
 refine eP2 (fn := f55) (n := 14) rfl rfl fun s hs h0 h1 => ?_
 simp only [f55]
 have hld : ldO g false 1 (.ptr kb 0) = some (v, g) := bf hg rfl
 by_cases c : (k : Int) < (b.length : Int)
 ·have hk : k < b.length := by omega
  have hke : (xd b)[(k : Int).toNat]? = some [.sc (.bool (b[k]))] := by
   show (xd b)[k]? = _
   simp [xd, hk]
  have e1 := hb.ia (h := g) (k := .i64) (j := (k : Int)) (by omega) hke
  simp only [go_sem, seval, hs, h0, h1, hld, hb.ln, mz, c, e1]
  refine ⟨?_, rfl⟩
  unfold wy
  rw [List.getD_eq_getElem?_getD, List.getElem?_eq_getElem hk]; rfl
 ·have hk : ¬ k < b.length := by omega
  simp only [go_sem, seval, hs, h0, h1, hld, hb.ln, mz, c]
  refine ⟨?_, rfl⟩
  unfold wy
  rw [List.getD_eq_getElem?_getD, List.getElem?_eq_none (by omega)]; rfl
def D.crash (d : D) (b : List Bool) : D := { d.settle (wy b) with fused := false, left := 0 }
theorem Ud {h : ah} {p : Nat} {f l : Option Nat} {d : D} (hD : dw h p f l d) (hO : d.OK) {b : List Bool} {v : VV} (hb : SlV 1 (xd b) v) (hl : b.length <= maxLen) : ∃ w h', call F 27 [.ptr p 0, v] h = some (.ret w, h') /\ FlushP h p f l (d.crash b) w h' := by
 refine eE2 (fn := f27) (n := 15) rfl rfl fun s hs h0 h1 => ?_
 simp only [f27]
 have hcell : en v = true := by rcases hb with ⟨rfl, _⟩ | ⟨ex, rfl⟩ <;> rfl
 simp only [go_sem, seval, hs, h1, Xj hcell]
 rw [bg f27_0.eq_1]
 simp only [go_sem, seval, hs, h0, amb]
 have hD1 := hD.push (.box [v] false)
 obtain ⟨v2, g2, hc2, hP2⟩ := Dh hD1 hO (fi := 55) (caps := [.ptr h.length 0]) (kf := wy b) (by decide) (fun k g _ hg => ab3 hb hl h.length k g (by
  rw [hg h.length (by simp) ?_]
  ·exact bh
  ·obtain ⟨vf, vl, _, x2, _⟩ := hD
   rcases x2 with ⟨id, gg, ex, c1, _, c3⟩ | ⟨c1, _⟩
   ·rintro e; rw [e] at c1; cases c1; have := ay c3; omega
   ·rw [c1]; simp))
 simp only [go_sem, seval, hs, h0, h1, Wz, List.map]
 refine ap (by simp only [List.map, go_sem, seval, hs]; exact hc2) ?_
 obtain ⟨vf, vl, b1, b2, b3⟩ := hP2.dev
 obtain ⟨_, _, s3, _⟩ := stp b1 (v := vb false) rfl
 have b1' : (g2.set p (.box [vf, vl, cpx (d.settle (wy b)).w (d.settle (wy b)).f, vb false, vi .i64 (d.settle (wy b)).left] false))[p]? = some (.box [vf, vl, cpx (d.settle (wy b)).w (d.settle (wy b)).f, vb false, vi .i64 (d.settle (wy b)).left] false) := by rw [List.getElem?_set_self (ay b1)]
 obtain ⟨_, _, _, s4⟩ := stp b1' (v := vi .i64 0) rfl
 simp only [go_sem, seval, hs, h0, s3, s4]
 rw [List.set_set]
 obtain ⟨t1, t2⟩ := dw.turn (d' := d.crash b) b1 b2 b3 rfl rfl
 exact ⟨rfl, none, t1, ((Kept.push h _ p f l).trans hP2.kept (fun _ e => .inl e)).trans t2 (fun _ e => by cases e), fun _ e => by cases e⟩
open Go Go.Vm
structure NewB (h0 h : ah) (z : Nat) (els : List (List CV)) (v : VV) : Prop where
 ext : Ext h0 h
 v : (els = [] /\ v = bq) \/ ∃ id g, h0.length <= id /\ els ≠ [] /\ v = .own id g 0 els.length false /\ h[id]? = some (.arr z els g false)
theorem NewB.nil (h : ah) (z : Nat) : NewB h h z [] bq := ⟨Ext.refl h, .inl ⟨rfl, rfl⟩⟩
theorem NewB.then {h0 h h' : ah} {z : Nat} {els : List (List CV)} {v : VV} (b : NewB h0 h z els v) (e : Ext h h') : NewB h0 h' z els v := by
 refine ⟨b.ext.trans e, ?_⟩
 rcases b.v with x | ⟨id, g, a1, a2, a3, a4⟩
 ·exact .inl x
 ·exact .inr ⟨id, g, a1, a2, a3, e.get a4⟩
theorem NewB.buf {h0 h : ah} {z : Nat} {els : List (List CV)} {v : VV} (b : NewB h0 h z els v) : er h z els v := by
 rcases b.v with ⟨rfl, rfl⟩ | ⟨id, g, _, h1, rfl, h2⟩
 ·exact .inl ⟨rfl, rfl⟩
 ·exact .inr ⟨id, g, h1, rfl, h2⟩
theorem amo {h0 h : ah} {z by_ : Nat} {zero : List CV} {x y : Opd} {s : List VV} {els new : List (List CV)} {v : VV} (b : NewB h0 h z els v) (hx : ae s x = v) (hy : im h z (ae s y) = some new) (hne : new ≠ []) (h1 : (els.length + new.length) * by_ <= 35184372088832) (h2 : els.length + new.length <= 35184372088832) :
  ∃ v' h', ak h (ae s) (.app z by_ zero x y) = some (v', h') /\ NewB h0 h' z (els ++ new) v' /\ (∀ (j : Nat) (o : VO), h[j]? = some o -> (∀ e g, o ≠ VO.arr z e g false) -> h'[j]? = some o) := by
 have hm : cj = 35184372088832 := rfl
 rcases b.v with ⟨rfl, rfl⟩ | ⟨id, g, a1, hne1, rfl, h3⟩
 ·refine ⟨.own h.length 0 0 new.length false, h ++ [.arr z new 0 false], ?_, ⟨b.ext.trans (Ext.push h _), .inr ⟨h.length, 0, b.ext.len, by simpa using hne, by simp, by simp⟩⟩, fun j o hj _ => (Ext.push h _).get hj⟩
  simp only [List.length_nil, Nat.zero_add] at h1 h2
  simp only [ak, hy, hx, ly, hm, Nat.zero_add, h1, h2, and_self, if_true, hne, if_false]
 ·have hid := ay h3
  refine ⟨.own id (g + 1) 0 (els.length + new.length) false, h.set id (.arr z (els ++ new) (g + 1) false), ?_, ⟨⟨by rw [List.length_set]; exact b.ext.len, fun j hj => by rw [List.getElem?_set_ne (by omega)]; exact b.ext.same j hj⟩, .inr ⟨id, g + 1, a1, by simp [hne], by simp, by rw [List.getElem?_set_self hid]⟩⟩, fun j o hj ho => (by rw [List.getElem?_set_ne (by rintro rfl; rw [h3] at hj; cases hj; exact ho _ _ rfl)]; exact hj)⟩
  simp only [ak, hy, hx, ly, hm, h1, h2, and_self, if_true, h3, Nat.zero_add, Nat.le_refl, Bool.false_eq_true, if_false, List.drop_zero, List.take_length, hne]
theorem af0 {F : Nat -> Option FnIR} {h0 h : ah} {z by_ : Nat} {zero : List CV} {x y : Opd} {s : List VV} {els new : List (List CV)} {v : VV} {d : Option Nat} {q : List (Op1 × Cl)} {Q : Pst} (b : NewB h0 h z els v) (hx : ae s x = v) (hy : im h z (ae s y) = some new) (hne : new ≠ []) (h1 : (els.length + new.length) * by_ <= 35184372088832) (h2 : els.length + new.length <= 35184372088832)
  (hk : ∀ v' h', NewB h0 h' z (els ++ new) v' -> (∀ (j : Nat) (o : VO), h[j]? = some o -> (∀ e g, o ≠ VO.arr z e g false) -> h'[j]? = some o) -> XD F q ⟨de s d v', h'⟩ Q) : XD F ((⟨none, d, .app z by_ zero x y⟩, .k) :: q) ⟨s, h⟩ Q := by
 obtain ⟨v', h', e1, e2, e3⟩ := amo (zero := zero) b hx hy hne h1 h2
 rw [mi rfl, e1, Rm]
 exact hk v' h' e2 e3
def D.fuse (d : D) (n : Int) : D := if d.dark then d else { d with fused := decide (n >= 0), left := n }
theorem Zg {h : ah} {p : Nat} {f l : Option Nat} {d : D} (hD : dw h p f l d) (n : Int) : ∃ v h', call F 26 [.ptr p 0, vi .i64 n] h = some (.ret v, h') /\ FlushP h p f l (d.fuse n) v h' := by
 refine eE2 (fn := f26) (n := 20) rfl rfl fun s hs h0 h1 => ?_
 simp only [f26]
 simp only [go_sem, seval, hs, h0, amb]
 refine ap (by simp only [List.map, go_sem, seval, hs]; exact Ph hD) ?_
 have hdk : d.dark = (d.fused && decide (d.left = 0)) := rfl
 rw [<- hdk]
 unfold D.fuse
 cases hdark : d.dark with
 | true =>
  simp only [go_sem, seval, hs]
  exact ⟨rfl, l, hD, Kept.refl _ _ _ _, Gh.refl _ _⟩
 | false =>
  obtain ⟨vf, vl, b1, b2, b3⟩ := hD
  obtain ⟨_, _, s3, _⟩ := stp b1 (v := vb (decide (n >= 0))) rfl
  have b1' : (h.set p (.box [vf, vl, cpx d.w d.f, vb (decide (n >= 0)), vi .i64 d.left] false))[p]? = some (.box [vf, vl, cpx d.w d.f, vb (decide (n >= 0)), vi .i64 d.left] false) := by rw [List.getElem?_set_self (ay b1)]
  obtain ⟨_, _, _, s4⟩ := stp b1' (v := vi .i64 n) rfl
  simp only [go_sem, seval, hs, h0, h1, s3, s4]
  rw [List.set_set]
  obtain ⟨t1, t2⟩ := dw.turn (d' := { d with fused := decide (n >= 0), left := n }) b1 b2 b3 rfl rfl
  exact ⟨rfl, l, t1, t2, Gh.refl _ _⟩
open Go Go.Vm
theorem al6 {d : D} {i : Int} (h : d.has i = true) : 0 <= i /\ i.toNat < d.firm.length := by
 unfold D.has at h
 have : 0 <= i /\ i < (d.firm.length : Int) := by simpa using h
 omega
theorem abl {d : D} (h : d.OK) (hw : d.w < 900000) (hl : d.loose.length < 900000) (i : Int) (b : List UInt8) : (d.write i b).1.OK := by
 unfold D.write
 split
 ·exact h
 ·split
  ·exact h
  ·split
   ·exact h
   ·rename_i c1 c2 c3
    have hh := al6 (d := d) (i := i) (by simpa using c1)
    refine ⟨?_, ?_, ?_, ?_, ?_, ?_⟩
    ·show ∀ b ∈ d.burnt.firm, b.length = 64
     rw [ja]; exact h.f64
    ·show ∀ o ∈ d.loose ++ [(i.toNat, pad b)], o.2.length = 64 /\ o.1 < d.burnt.firm.length
     rw [ja]
     intro o ho
     rcases List.mem_append.1 ho with e | e
     ·exact h.l64 o e
     ·rw [List.mem_singleton.1 e]
      exact ⟨Lw (by omega), hh.2⟩
    ·show d.burnt.firm.length <= 4096
     rw [ja]; exact h.n
    ·show (d.loose ++ [(i.toNat, pad b)]).length <= 1000000
     simp; omega
    ·show d.w + 1 < 1000000
     omega
    ·show d.burnt.f < 1000000
     rw [qi]; exact h.f
theorem Eb {kf : Nat -> Bool} : ∀ {l : List (Nat × List UInt8)} {k : Nat} {firm : List (List UInt8)}, (∀ b ∈ firm, b.length = 64) -> (∀ o ∈ l, o.2.length = 64) -> ∀ b ∈ jg kf k firm l, b.length = 64
 | [], _, _, h, _ => h
 | o :: l, k, firm, h, hl => by
  show ∀ b ∈ jg kf (k + 1) (if kf k then firm.set o.1 o.2 else firm) l, b.length = 64
  refine Eb ?_ (fun o ho => hl o (List.mem_cons_of_mem _ ho))
  split
  ·intro b hb
   rcases List.mem_or_eq_of_mem_set hb with e | e
   ·exact h b e
   ·rw [e]; exact hl o List.mem_cons_self
  ·exact h
theorem Ia {d : D} (h : d.OK) (kf : Nat -> Bool) : (d.settle kf).OK := by
 refine ⟨Eb h.f64 (fun o ho => (h.l64 o ho).1), fun o ho => (by cases ho), ?_, by simp [D.settle], h.w, h.f⟩
 show (jg kf 0 d.firm d.loose).length <= 4096
 rw [xw]; exact h.n
theorem Zw {d : D} (h : d.OK) (hf : d.f < 900000) : d.flush.OK := by
 unfold D.flush
 split
 ·exact h
 ·have := Ia (Pz h) (fun _ => true)
  exact ⟨this.f64, this.l64, this.n, this.lw, h.w, by show d.f + 1 < 1000000; omega⟩
theorem aa1 {d : D} (h : d.OK) (b : List Bool) : (d.crash b).OK := by
 have := Ia h (wy b)
 exact ⟨this.f64, this.l64, this.n, this.lw, this.w, this.f⟩
theorem adm {d : D} (h : d.OK) (n : Int) : (d.fuse n).OK := by
 unfold D.fuse
 split
 ·exact h
 ·exact ⟨h.f64, h.l64, h.n, h.lw, h.w, h.f⟩
theorem sl1 (x : UInt8) : SlV 1 (eB [x]) (.cv (.sl 1 [[.sc (.int .u8 x.toNat)]] true)) := .inr ⟨true, rfl⟩
open Go Go.Vm
theorem aau {F : Nat -> Option FnIR} {d : Option Nat} {q : List (Op1 × Cl)} {s : List VV} {h : ah} {Q : Pst} {c : Cl} :
  XD F ((⟨none, d, .mks 1 1 [.sc (.int .u8 0)] (.c (vi .i64 64)) (.c (vi .i64 64)) false⟩, c) :: q) ⟨s, h⟩ Q ↔ XD F q ⟨de s d (.cv (.sl 1 (eB z64) true)), h⟩ Q := by
 rw [mi rfl]
 have : ak h (ae s) (.mks 1 1 [.sc (.int .u8 0)] (.c (vi .i64 64)) (.c (vi .i64 64)) false) = some (.cv (.sl 1 (eB z64) true), h) := by
  have e : List.replicate 64 [CV.sc (.int .u8 0)] = eB z64 := rn 64
  have hm : cj = 35184372088832 := rfl
  simp [ak, ae, pj, hm, e]
 rw [this, Gt]
theorem NewB.setBox {h0 h : ah} {z : Nat} {els : List (List CV)} {v : VV} (b : NewB h0 h z els v) {i : Nat} {cells : List VV} {fr : Bool} (hi : h0.length <= i) (hb : h[i]? = some (.box cells fr)) (o : VO) : NewB h0 (h.set i o) z els v := by
 refine ⟨⟨by rw [List.length_set]; exact b.ext.len, fun j hj => by rw [List.getElem?_set_ne (by omega)]; exact b.ext.same j hj⟩, ?_⟩
 rcases b.v with x | ⟨id, g, a1, a2, a3, a4⟩
 ·exact .inl x
 ·exact .inr ⟨id, g, a1, a2, a3, by rw [List.getElem?_set_ne (by rintro rfl; rw [hb] at a4; cases a4)]; exact a4⟩
def sE (n : Nat) : List (List CV) := List.replicate n [.sl 1 (eB z64) true]
theorem f43_loop {n : Nat} (hn : n <= 4096) {h0 : ah} : ∀ (r k : Nat) (s : List VV) (g : ah) (vS : VV) (Q : Pst), k + r = n -> s.length = 26 -> s.getD 0 .undef = vi .i64 n -> s.getD 4 .undef = .ptr h0.length 0 -> s.getD 5 .undef = vi .i64 k ->
   NewB h0 g 1 (sE k) vS -> g[h0.length]? = some (.box [vS, bq, vi .i64 0, vi .i64 0, vb false, vi .i64 0] false) ->
   (∀ s' g' vS', s'.length = 26 -> s'.getD 2 .undef = s.getD 2 .undef -> s'.getD 4 .undef = .ptr h0.length 0 -> NewB h0 g' 1 (sE n) vS' -> g'[h0.length]? = some (.box [vS', bq, vi .i64 0, vi .i64 0, vb false, vi .i64 0] false) -> Q (.exit 0) ⟨s', g'⟩) -> X F (.loop f43_1) ⟨s, g⟩ Q := by
 intro r
 induction r with
 | zero =>
  intro k s g vS Q hk hs h0' h4 h5 hB hb hQ
  rw [au, bg f43_1.eq_1]
  have c : ¬ (k : Int) < (n : Int) := by omega
  simp only [go_sem, seval, hs, h0', h5, c]
  refine hQ _ _ vS (by simp only [ac, hs]) (by simp only [go_sem, seval]) (by simp only [go_sem, seval, h4]) ?_ hb
  rw [<- hk]; exact hB
 | succ r ih =>
  intro k s g vS Q hk hs h0' h4 h5 hB hb hQ
  rw [au, bg f43_1.eq_1]
  have c : (k : Int) < (n : Int) := by omega
  simp only [go_sem, seval, hs, h0', h5, c]
  refine kh rfl ?_
  have hld : ldO g false 1 (.ptr h0.length 0) = some (vS, g) := bf hb rfl
  simp only [go_sem, seval, hs, h4, hld, aau, ajr]
  refine af0 (els := sE k) (new := [[.sl 1 (eB z64) true]]) hB (by simp only [go_sem, seval, hs]) (by simp only [go_sem, seval, hs]) (by simp) (by simp [sE]; omega) (by simp [sE]; omega) (fun v' h' hB' hK => ?_)
  have hb' := hK _ _ hb (by intro e g h; cases h)
  have hcell : en v' = true := by rcases hB'.v with ⟨_, rfl⟩ | ⟨id, g, _, _, rfl, _⟩ <;> rfl
  have hst : stO h' 1 (.ptr h0.length 0) v' = some (.undef, h'.set h0.length (.box [v', bq, vi .i64 0, vi .i64 0, vb false, vi .i64 0] false)) := zl hcell hb' (by decide : 0 < 6)
  have hw : IntKind.i64.wrap ((k : Int) + 1) = ((k + 1 : Nat) : Int) := by rw [IntWalk.i64_in _ (by omega)]; omega
  have hE : sE k ++ [[.sl 1 (eB z64) true]] = sE (k + 1) := by unfold sE; rw [List.replicate_succ']
  rw [hE] at hB'
  simp only [go_sem, seval, hs, h4, hst, h5, hw]
  refine ih (k + 1) _ _ v' Q (by omega) (by simp only [ac, hs]) (by simp only [go_sem, seval, h0']) (by simp only [go_sem, seval, h4]) (by simp only [go_sem, seval, hs]) (hB'.setBox (Nat.le_refl _) hb' _) (by rw [List.getElem?_set_self (ay hb')]) (fun s' g' vS' a1 a2 a3 a4 a5 => hQ s' g' vS' a1 ?_ a3 a4 a5)
  rw [a2]; simp only [go_sem, seval]
def tV (S L : VV) (w f : Int) (fu : Bool) (le : Int) : VV := .agg [S, L, vi .i64 w, vi .i64 f, vb fu, vi .i64 le]
theorem ak7 {h : ah} {c : CV} : clos h (.cv c) = some (c, h) := rfl
theorem abk {h : ah} {z : Nat} {els : List (List CV)} {v : VV} (b : er h z els v) : ∃ c h1, clos h v = some (c, h1) /\ VV.cv c = slV z els := by
 unfold slV
 rcases b with ⟨rfl, rfl⟩ | ⟨id, g, hne, rfl, h2⟩
 ·exact ⟨_, h, rfl, rfl⟩
 ·refine ⟨.sl z els false, h.set id (.arr z els g true), by simp [Vm.clos, h2], ?_⟩
  rw [if_neg hne]
theorem Wn {P : VV -> ah -> Prop} {s : List VV} {h : ah} {a m n id : Nat} {cells : List VV} {fr : Bool} (ha : s.getD a .undef = .ptr id 0) (ho : h[id]? = some (.box cells fr)) (hn : cells.length = n) (hm : m < s.length)
  (hP : P (.tup [.agg cells, s.getD m .undef]) h) : RQ [.cell a true n, .t m] P .ret ⟨s, h⟩ := by
 subst hn
 refine ⟨trivial, [.agg cells, s.getD m .undef], ?_, hP⟩
 simp only [ke, yc, ki hm, ha, ho, List.drop_zero, List.take_length, dm, if_true]
theorem aio {h : ah} {a b c d e f a' b' c' d' e' f' : VV} : stO (h ++ [.box [a, b, c, d, e, f] false]) 6 (.ptr h.length 0) (.agg [a', b', c', d', e', f']) = some (.undef, h ++ [.box [a', b', c', d', e', f'] false]) := by
 rw [jz (n := 6) (cs := [a', b', c', d', e', f']) (cells := [a, b, c, d, e, f]) rfl bh rfl, lx]
theorem Qe (n : Nat) (hn : n <= 4096) : ∃ v h', call F 43 [vi .i64 n] [] = some (.ret v, h') /\ av h' v = some (.tup [tV (slV 1 (sE n)) bq 0 0 false 0, vb true]) := by
 have : ∀ h : ah, ∃ v h', call F 43 [vi .i64 n] h = some (.ret v, h') /\ (fun v h' => av h' v = some (.tup [tV (slV 1 (sE n)) bq 0 0 false 0, vb true])) v h' := by
  intro h
  refine eE1 (fn := f43) (n := 26) rfl rfl fun s hs h0 => ?_
  simp only [f43]
  simp only [go_sem, seval, hs]
  rw [bg f43_0.eq_1]
  have c1 : ¬ (n : Int) < 0 := by omega
  have c2 : ¬ 4096 < (n : Int) := by omega
  simp only [go_sem, seval, hs, h0, c1, c2, gt_iff_lt]
  rw [aio]
  generalize hg : h ++ [VO.box [bq, bq, vi .i64 0, vi .i64 0, vb false, vi .i64 0] false] = g
  have hg0 : g[h.length]? = some (.box [bq, bq, vi .i64 0, vi .i64 0, vb false, vi .i64 0] false) := by rw [<- hg]; exact bh
  simp only [go_sem, Nat.reduceLT, Nat.reduceEqDiff, reduceCtorEq, Int.reduceLT, Int.reduceEq, hs]
  refine f43_loop hn (h0 := g) n 0 _ _ bq _ (by omega) (by simp only [ac, hs]) (by simp only [go_sem, Nat.reduceLT, Nat.reduceEqDiff, reduceCtorEq, Int.reduceLT, Int.reduceEq, h0]) (by simp only [go_sem, Nat.reduceLT, Nat.reduceEqDiff, reduceCtorEq, Int.reduceLT, Int.reduceEq, hs]) (by simp only [go_sem, Nat.reduceLT, Nat.reduceEqDiff, reduceCtorEq, Int.reduceLT, Int.reduceEq, hs]; rfl) ((NewB.nil g 1).then (Ext.push g _)) bh (fun s' g' vS a1 a2 a3 a4 a5 => ?_)
  have ht : (s'.getD 2 .undef) = .ptr h.length 0 := by rw [a2]; simp only [go_sem, seval, hs]
  have hld : ldO g' true 6 (.ptr g.length 0) = some (.agg [vS, bq, vi .i64 0, vi .i64 0, vb false, vi .i64 0], g') := nr a5 rfl
  have hg1 := a4.ext.get hg0
  have hst := jz (n := 6) (cs := [vS, bq, vi .i64 0, vi .i64 0, vb false, vi .i64 0]) rfl hg1 rfl
  simp only [go_sem, seval, a1, a3, ht, hld, hst]
  refine Wn (id := h.length) (by simp only [go_sem, seval, a1, ht]) (by rw [List.getElem?_set_self (ay hg1)]) rfl (by simp only [go_sem, seval, a1]) ?_
  simp only [go_sem, seval, a1]
  obtain ⟨c, h1, e1, e2⟩ := abk (a4.buf.setBox hg1 (.box [vS, bq, vi .i64 0, vi .i64 0, vb false, vi .i64 0] false))
  rw [<- e2]
  simp only [av, ce, gy, qb, e1, ak7, tV]
  rfl
 exact this []
end Go.V08
