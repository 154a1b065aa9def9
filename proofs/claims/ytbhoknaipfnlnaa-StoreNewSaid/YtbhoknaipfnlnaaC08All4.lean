/- Part of a proof: of what it says, and when, each theorem tells itself. -/
import Derived.Test.YtbhoknaipfnlnaaC08Ir
import Derived.Test.YtbhoknaipfnlnaaVmAll2
set_option linter.unusedSimpArgs false
set_option linter.unusedVariables false
namespace Go.V08
open Go Go.Vm
def u8 (n : Nat) : UInt8 := UInt8.ofNat n
def yf : Nat -> Nat -> List UInt8
 | 0, n => [u8 n]
 | k + 1, n => if 127 < n then u8 (128 + n % 128) :: yf k (n / 128) else [u8 n]
def num (n : Nat) : List UInt8 := yf 8 n
theorem im (a b : List UInt8) : eB (a ++ b) = eB a ++ eB b := by simp [eB]
theorem ahh (n : Nat) (h : n < 256) : eB [u8 n] = [[.sc (.int .u8 n)]] := by
 simp only [eB, List.map, br, u8]
 rw [UInt8.toNat_ofNat']
 grind
theorem Zt (m : Nat) (h : m < 256) : bits .or .u8 (m : Int) 128 = ((128 + m % 128 : Nat) : Int) := by
 have : ∀ m : Fin 256, bits .or .u8 ((m.val : Nat) : Int) 128 = ((128 + m.val % 128 : Nat) : Int) := by decide +kernel
 exact this ⟨m, h⟩
theorem f74_loop : ∀ (k n : Nat) (out : List UInt8) (h0 : ae) (s : List VV) (h : ae) (v : VV) (Q : Pst), n < 128 ^ (k + 1) -> n < 9223372036854775808 -> out.length + k <= 100 -> s.length = 22 ->
  s.getD 0 .undef = vi .i64 n -> s.getD 3 .undef = v -> Buf h0 1 (eB out) v h ->
  (∀ (n' : Nat) (out' : List UInt8) s' h' v', s'.length = 22 -> s'.getD 0 .undef = vi .i64 n' -> n' <= 127 -> s'.getD 3 .undef = v' -> Buf h0 1 (eB out') v' h' -> out' ++ [u8 n'] = out ++ yf k n -> Q (.exit 0) ⟨s', h'⟩) ->
  X F (.loop f74_0) ⟨s, h⟩ Q := by
 intro k
 induction k with
 | zero =>
  intro n out h0 s h v Q hn hn2 hlen hs h1 h2 hb hQ
  rw [ba, bi f74_0.eq_1]
  simp only [go_sem, seval, hs, h1]
  refine Tt (fun hc => ?_) (fun hc => ?_)
  ·omega
  ·simp only [go_sem, seval]
   refine hQ n out _ h v (by grind) ?_ (by omega) ?_ hb ?_
   ·grind
   ·grind
   ·rfl
 | succ k ih =>
  intro n out h0 s h v Q hn hn2 hlen hs h1 h2 hb hQ
  rw [ba, bi f74_0.eq_1]
  simp only [go_sem, seval, hs, h1]
  refine Tt (fun hc => ?_) (fun hc => ?_)
  ·simp only [go_sem, seval, hs, h1, h2]
   have e1 : bits .or .u8 (IntKind.u8.wrap n) 128 = ((128 + n % 128 : Nat) : Int) := by
    rw [IntKind.wrap_u8]
    have hm : ((n : Int) % 256) = ((n % 256 : Nat) : Int) := by omega
    rw [hm]
    have := Zt (n % 256) (by omega)
    omega
   rw [e1]
   refine Vy (new := eB [u8 (128 + n % 128)]) hb (by simp only [go_sem, seval, hs]) ?_ ?_ ?_ (fun v' h' hb' => ?_)
   ·simp only [go_sem, seval, hs]
    rw [ahh _ (by omega)]
   ·simp [eB]; omega
   ·simp [eB]; omega
   ·simp only [go_sem, Nat.reduceLT, Nat.reduceEqDiff, reduceCtorEq, Int.reduceLT, Int.reduceEq, hs, h1, oh, not_false_eq_true]
    have e2 : ((n : Int).fdiv (2 ^ min (7 : Int).toNat 64)) = ((n / 128 : Nat) : Int) := by
     grind
    rw [e2]
    rw [<- im] at hb'
    refine ih (n / 128) (out ++ [u8 (128 + n % 128)]) h0 _ h' v' Q ?_ ?_ ?_ ?_ ?_ ?_ hb' ?_
    ·omega
    ·omega
    ·simp; omega
    ·simp only [go_sem, seval, hs]
    ·simp only [go_sem, seval, hs]
    ·simp only [go_sem, seval, hs]
    ·intro n' out' s' h'' v'' a1 a2 a3 a4 a5 a6
     refine hQ n' out' s' h'' v'' a1 a2 a3 a4 a5 ?_
     rw [a6]
     have : 127 < n := by omega
     simp [yf, this]
  ·simp only [go_sem, seval]
   refine hQ n out _ h v (by grind) ?_ (by omega) ?_ hb ?_
   ·grind
   ·grind
   ·have : ¬ 127 < n := by omega
    simp only [yf, if_neg this]
def ka (n : Int) : Nat := (max 0 (min n 9007199254740992)).toNat
theorem Mo : ∀ k n, (yf k n).length <= k + 1
 | 0, _ => by simp [yf]
 | k + 1, n => by
  simp only [yf]
  split
  ·simp only [List.length_cons]
   have := Mo k (n / 128)
   omega
  ·simp
theorem Mf (n : Int) (h : ae) : ∃ v h', call F 74 [vi .i64 n] h = some (.ret v, h') /\ Buf h 1 (eB (num (ka n))) v h' := by
 refine bc (fn := f74) rfl ?_
 simp only [f74, List.length_cons, List.length_nil, List.cons_append, List.nil_append]
 generalize hs0 : (vi .i64 n :: List.replicate (22 - (0 + 1)) VV.undef) = s
 have hs : s.length = 22 := by grind
 have h0 : s.getD 0 .undef = vi .i64 n := by grind
 clear hs0
 simp only [go_sem, seval, hs, h0]
 have ec : max 0 (min n 9007199254740992) = ((ka n : Nat) : Int) := by unfold ka; omega
 have hc : ka n <= 9007199254740992 := by omega
 refine f74_loop 8 (ka n) [] h _ h ct _ ?_ ?_ ?_ ?_ ?_ ?_ (Buf.nil _ _) ?_
 ·omega
 ·omega
 ·decide
 ·grind
 ·grind
 ·grind
 ·intro n' out' s' h' v' a1 a2 a3 a4 a5 a6
  simp only [go_sem, seval, a1, a2, a4]
  have e1 : IntKind.u8.wrap (n' : Int) = n' := IntWalk.u8_in _ (by omega)
  rw [e1]
  have hl : (out' ++ [u8 n']).length <= 20 := by rw [a6]; simp only [List.nil_append]; have := Mo 8 (ka n); omega
  simp at hl
  refine Vy (new := eB [u8 n']) a5 (by simp only [go_sem, seval, a1]) ?_ ?_ ?_ (fun v' h' hb' => ?_)
  ·simp only [go_sem, seval, a1]
   rw [ahh _ (by omega)]
  ·simp [eB]; omega
  ·simp [eB]; omega
  ·simp only [go_sem, seval, a1]
   rw [<- im, a6] at hb'
   exact hb'
def jd (l : List UInt8) : List UInt8 := num (ka l.length) ++ l
theorem Eu (l : List UInt8) (h : ae) (hl : l.length <= 1000000000) : ∃ v h', call F 75 [txt l] h = some (.ret v, h') /\ Buf h 1 (eB (jd l)) v h' := by
 refine bc (fn := f75) rfl ?_
 simp only [f75]
 generalize hs0 : ([txt l] ++ List.replicate _ VV.undef : List VV) = s
 have hs : s.length = 8 := by grind
 have h0 : s.getD 0 .undef = txt l := by grind
 clear hs0
 simp only [go_sem, seval, hs, h0]
 obtain ⟨v, h', hc, hb⟩ := Mf l.length h
 refine ao (v := v) (h' := h') (by simp only [List.map, go_sem, seval, hs]; exact hc) ?_
 simp only [go_sem, seval, hs, h0]
 have hn : (num (ka l.length)).length <= 9 := Mo 8 _
 refine Vy hb (new := eB l) (by simp only [go_sem, seval, hs]) (by simp only [go_sem, seval, hs]; exact agw) (by simp only [ax]; omega) (by simp only [ax]; omega) (fun v' h' hb' => ?_)
 simp only [go_sem, seval, hs]
 rw [<- im] at hb'
 exact hb'
def zf : Nat -> List UInt8 -> Nat -> Nat -> Nat -> Nat × Nat × Nat
 | 0, _, _, _, _ => (0, 0, 11)
 | _ + 1, [], _, _, _ => (0, 0, 10)
 | k + 1, c :: r, at_, i, n =>
  let m := n + c.toNat % 128 * 128 ^ i
  if c.toNat < 128 then (if (c.toNat = 0 /\ 0 < i) \/ 9007199254740992 < m then (0, 0, 11) else (m, at_ + i + 1, 0)) else zf k r at_ (i + 1) m
def cd (b : List UInt8) (at_ : Int) : Nat × Nat × Nat := if at_ < 0 \/ (b.length : Int) < at_ then (0, 0, 10) else zf 8 (b.drop at_.toNat) at_.toNat 0 0
theorem Bx (m : Nat) (h : m < 256) : bits .and .u8 (m : Int) 128 = if m < 128 then 0 else 128 := by
 have : ∀ m : Fin 256, bits .and .u8 ((m.val : Nat) : Int) 128 = if m.val < 128 then 0 else 128 := by decide +kernel
 exact this ⟨m, h⟩
theorem Sc (m : Nat) (h : m < 256) : bits .and .u8 (m : Int) 127 = ((m % 128 : Nat) : Int) := by
 have : ∀ m : Fin 256, bits .and .u8 ((m.val : Nat) : Int) 127 = ((m.val % 128 : Nat) : Int) := by decide +kernel
 exact this ⟨m, h⟩
theorem Uu (i : Nat) (h : i <= 7) : 128 ^ (i + 1) <= 72057594037927936 /\ 0 < 128 ^ i := by
 have : ∀ i : Fin 8, 128 ^ (i.val + 1) <= 72057594037927936 /\ 0 < 128 ^ i.val := by decide +kernel
 exact this ⟨i, by omega⟩
theorem adg (i c : Nat) (hi : i <= 7) (hc : c < 128) : IntKind.i64.wrap ((c : Int) * 2 ^ min (7 * (i : Int)).toNat IntKind.i64.bits) = ((c * 128 ^ i : Nat) : Int) := by
 have h1 : min (7 * (i : Int)).toNat IntKind.i64.bits = 7 * i := by
  have : IntKind.i64.bits = 64 := rfl
  omega
 have h2 : (2 : Int) ^ (7 * i) = ((128 ^ i : Nat) : Int) := by
  rw [Int.pow_mul]; simp
 rw [h1, h2, <- Int.natCast_mul]
 have h3 : c * 128 ^ i <= 127 * 128 ^ i := Nat.mul_le_mul_right _ (by omega)
 have h4 := (Uu i hi).1
 rw [Nat.pow_succ] at h4
 exact IntWalk.i64_in _ (by omega)
theorem abv (i c : Nat) (hi : i <= 7) (hc : c < 128) : IntKind.i64.wrap ((c : Int) * 2 ^ min (7 * (i : Int)).toNat 64) = ((c * 128 ^ i : Nat) : Int) := adg i c hi hc
theorem ah9 (i n c : Nat) (hi : i <= 7) (hn : n < 128 ^ i) (hc : c < 128) : bits .or .i64 (n : Int) ((c * 128 ^ i : Nat) : Int) = ((n + c * 128 ^ i : Nat) : Int) := by
 have h3 : c * 128 ^ i <= 127 * 128 ^ i := Nat.mul_le_mul_right _ (by omega)
 have h4 := (Uu i hi).1
 rw [Nat.pow_succ] at h4
 have h63 : (2 : Nat) ^ 63 = 9223372036854775808 := by decide
 rw [(bits_nat .i64 63 (by decide) (fun n a b => IntWalk.i64_in _ (by omega)) n (c * 128 ^ i) (by omega) (by omega)).2]
 congr 1
 have h5 : 128 ^ i = 2 ^ (7 * i) := by rw [Nat.pow_mul]
 rw [h5] at hn |-
 rw [Nat.mul_comm c, Nat.or_comm, <- Nat.two_pow_add_eq_or_of_lt hn c]
 omega
def GN (x : Nat × Nat × Nat) (o : Out) (s : List VV) : Prop :=
 (x = (0, 0, 11) /\ (o = .exit 0 \/ o = .goto 1)) \/ (x = (0, 0, 10) /\ o = .goto 0) \/
 (∃ m j, x = (m, j, 0) /\ o = .ret /\ s.getD 4 .undef = vi .i64 m /\ s.getD 5 .undef = vi .i64 j /\ s.getD 6 .undef = vi .u16 0)
theorem f100_loop (b : List UInt8) (v : VV) (hv : SlV 1 (eB b) v) (at_ : Nat) (h : ae) (Q : Pst) (hat : at_ <= b.length) (hb : b.length <= 1000000000) : ∀ (k i n : Nat) (s : List VV), i + k = 8 -> n < 128 ^ i -> s.length = 60 ->
  s.getD 0 .undef = v -> s.getD 1 .undef = vi .i64 at_ -> s.getD 7 .undef = vi .i64 n -> s.getD 8 .undef = vi .i64 i -> at_ + i <= b.length ->
  (∀ o s', s'.length = 60 -> GN (zf k (b.drop (at_ + i)) at_ i n) o s' -> Q o ⟨s', h⟩) ->
  X F (.loop f100_0) ⟨s, h⟩ Q := by
 intro k
 induction k with
 | zero =>
  intro i n s hi hn hs h0 h1 h7 h8 hai hQ
  have hlt : ¬ (i : Int) < 8 := by omega
  rw [ba, bi f100_0.eq_1]
  simp only [go_sem, seval, hs, h8, hlt]
  refine hQ _ _ (by simp only [ah, hs]) (.inl ⟨?_, .inl rfl⟩)
  simp only [zf]
 | succ k ih =>
  intro i n s hi hn hs h0 h1 h7 h8 hai hQ
  have hlt : (i : Int) < 8 := by omega
  rw [ba, bi f100_0.eq_1]
  have ea : IntKind.i64.wrap ((at_ : Int) + (i : Int)) = ((at_ + i : Nat) : Int) := by rw [IntWalk.i64_in _ (by omega)]; omega
  simp only [go_sem, seval, hs, h0, h1, h7, h8, hlt, ea, ax, hv.ln]
  refine Tt (fun hc => ?_) (fun hc => ?_)
  ·simp only [go_sem, seval]
   refine hQ _ _ (by simp only [ah, hs]) (.inr (.inl ⟨?_, rfl⟩))
   rw [List.drop_eq_nil_of_le (by omega)]
   simp only [zf]
  ·have hlt2 : at_ + i < b.length := by omega
   obtain ⟨c, hget⟩ : ∃ c, b[at_ + i]? = some c := ⟨_, List.getElem?_eq_getElem hlt2⟩
   have hd : b.drop (at_ + i) = c :: b.drop (at_ + i + 1) := by
    rw [List.drop_eq_getElem_cons hlt2]
    rw [List.getElem?_eq_getElem hlt2] at hget
    cases hget; rfl
   have hc256 : c.toNat < 256 := c.toNat_lt
   simp only [go_sem, seval, hs, h0, h1, h7, h8, ea]
   rw [hv.ia (e := br c) (by omega) (by rw [show ((at_ + i : Nat) : Int).toNat = at_ + i from rfl]; exact yo hget)]
   simp only [go_sem, seval, hs, h0, h1, h7, h8, br, Sc c.toNat hc256, Bx c.toNat hc256]
   have e1 : IntKind.i64.wrap ((c.toNat % 128 : Nat) : Int) = ((c.toNat % 128 : Nat) : Int) := IntWalk.i64_in _ (by omega)
   have e2 : IntKind.i64.wrap (7 * (i : Int)) = 7 * (i : Int) := IntWalk.i64_in _ (by omega)
   have e3 : ¬ (7 * (i : Int)) < 0 := by omega
   simp only [go_sem, seval, hs, h0, h1, h7, h8, e1, e2, e3, abv i _ (by omega) (Nat.mod_lt _ (by decide : 128 > 0)), ah9 i n _ (by omega) hn (Nat.mod_lt _ (by decide : 128 > 0))]
   have hm : n + c.toNat % 128 * 128 ^ i < 128 ^ (i + 1) := by
    have : c.toNat % 128 * 128 ^ i <= 127 * 128 ^ i := Nat.mul_le_mul_right _ (by omega)
    rw [Nat.pow_succ]; omega
   have hp := (Uu i (by omega)).1
   rw [hd] at hQ
   simp only [zf] at hQ
   generalize n + c.toNat % 128 * 128 ^ i = m at hm hQ |-
   by_cases hcm : c.toNat < 128
   ·simp only [hcm, if_true] at hQ
    have e4 : bits .and .u8 (c.toNat : Int) 128 = 0 := by rw [Bx _ hc256, if_pos hcm]
    have e5 : IntKind.i64.wrap (((at_ + i : Nat) : Int) + 1) = ((at_ + i + 1 : Nat) : Int) := by rw [IntWalk.i64_in _ (by omega)]; omega
    have ret : ∀ s', s'.length = 60 -> ¬ ((c.toNat = 0 /\ 0 < i) \/ 9007199254740992 < m) -> s'.getD 4 .undef = vi .i64 m -> s'.getD 5 .undef = vi .i64 ((at_ + i + 1 : Nat) : Int) -> s'.getD 6 .undef = vi .u16 0 -> Q .ret ⟨s', h⟩ := by
     intro s' a1 a2 a3 a4 a5
     refine hQ _ _ a1 ?_
     rw [if_neg a2]
     exact .inr (.inr ⟨_, _, rfl, rfl, a3, a4, a5⟩)
    have bad : ∀ s', s'.length = 60 -> ((c.toNat = 0 /\ 0 < i) \/ 9007199254740992 < m) -> Q (.goto 1) ⟨s', h⟩ := by
     intro s' a1 a2
     refine hQ _ _ a1 ?_
     rw [if_pos a2]
     exact .inl ⟨rfl, .inr rfl⟩
    clear hQ ih
    by_cases hM : 9007199254740992 < (m : Int)
    ·by_cases hz : (c.toNat : Int) = 0
     ·by_cases hi0 : (0 : Int) < i
      ·simp only [go_sem, seval, hs, h1, h8, e4, e5, ea, eq_true hz, hi0, hM]
       exact bad _ (by simp only [ah, hs]) (by omega)
      ·simp only [go_sem, seval, hs, h1, h8, e4, e5, ea, eq_true hz, hi0, hM]
       exact bad _ (by simp only [ah, hs]) (by omega)
     ·simp only [go_sem, seval, hs, h1, h8, e4, e5, ea, hz, hM]
      exact bad _ (by simp only [ah, hs]) (by omega)
    ·by_cases hz : (c.toNat : Int) = 0
     ·by_cases hi0 : (0 : Int) < i
      ·simp only [go_sem, seval, hs, h1, h8, e4, e5, ea, eq_true hz, hi0, hM]
       exact bad _ (by simp only [ah, hs]) (by omega)
      ·simp only [go_sem, seval, hs, h1, h8, e4, e5, ea, eq_true hz, hi0, hM]
       exact ret _ (by simp only [ah, hs]) (by omega) (by simp only [go_sem, seval, hs]) (by simp only [go_sem, seval, hs]) (by simp only [go_sem, seval, hs])
     ·simp only [go_sem, seval, hs, h1, h8, e4, e5, ea, hz, hM]
      exact ret _ (by simp only [ah, hs]) (by omega) (by simp only [go_sem, seval, hs]) (by simp only [go_sem, seval, hs]) (by simp only [go_sem, seval, hs])
   ·simp only [hcm, if_false] at hQ
    have e4 : ¬ bits .and .u8 (c.toNat : Int) 128 = 0 := by rw [Bx _ hc256, if_neg hcm]; decide
    have e5 : IntKind.i64.wrap ((i : Int) + 1) = ((i + 1 : Nat) : Int) := by rw [IntWalk.i64_in _ (by omega)]; omega
    simp only [go_sem, seval, hs, h8, e4, e5]
    refine ih (i + 1) m _ (by omega) hm ?_ ?_ ?_ ?_ ?_ (by omega) ?_
    ·simp only [ah, hs]
    ·simp only [go_sem, seval, hs, h0]
    ·simp only [go_sem, seval, hs, h1]
    ·simp only [go_sem, seval, hs]
    ·simp only [go_sem, seval, hs]
    ·exact hQ
theorem Po (b : List UInt8) (v : VV) (hv : SlV 1 (eB b) v) (at_ : Int) (h : ae) (hb : b.length <= 1000000000) :
  call F 100 [v, vi .i64 at_] h = some (.ret (.tup [vi .i64 (cd b at_).1, vi .i64 (cd b at_).2.1, vi .u16 (cd b at_).2.2]), h) := by
 ·refine Aj (fn := f100) rfl ?_
  simp only [f100]
  generalize hs0 : ([v, vi .i64 at_] ++ List.replicate _ VV.undef : List VV) = s
  have hs : s.length = 60 := by grind
  have h0 : s.getD 0 .undef = v := by grind
  have h1 : s.getD 1 .undef = vi .i64 at_ := by grind
  clear hs0
  simp only [go_sem, seval]
  rw [bi f100_1.eq_1]
  simp only [go_sem, seval, hs, h0, h1]
  have short : ∀ s', s'.length = 60 -> cd b at_ = (0, 0, 10) -> S F f100_1 (RQ [.t 4, .t 5, .t 6] (Is (.tup [vi .i64 (cd b at_).1, vi .i64 (cd b at_).2.1, vi .u16 (cd b at_).2.2]) h)) (.goto 0) ⟨s', h⟩ := by
   intro s' hs' e
   rw [Ol rfl, Vs f100_1.eq_1, dv rfl, dv rfl, dv rfl, dv rfl, dv rfl, Az rfl, wj]
   simp only [go_sem, seval, hs', e]
   exact ⟨rfl, rfl⟩
  have wrong : ∀ s', s'.length = 60 -> cd b at_ = (0, 0, 11) -> S F f100_1 (RQ [.t 4, .t 5, .t 6] (Is (.tup [vi .i64 (cd b at_).1, vi .i64 (cd b at_).2.1, vi .u16 (cd b at_).2.2]) h)) (.goto 1) ⟨s', h⟩ := by
   intro s' hs' e
   rw [Ol rfl, Vs f100_1.eq_1, dv rfl, dv rfl, dv rfl, Az rfl, wj]
   simp only [go_sem, seval, hs', e]
   exact ⟨rfl, rfl⟩
  by_cases c1 : at_ < 0
  ·simp only [go_sem, seval, hs, h0, h1, eq_true c1]
   exact short _ (by simp_all) (by unfold cd; grind)
  ·by_cases c2 : (b.length : Int) < at_
   ·simp only [go_sem, seval, hs, h0, h1, c1, ax, hv.ln, eq_true c2]
    exact short _ (by simp_all) (by unfold cd; grind)
   ·simp only [go_sem, seval, hs, h0, h1, c1, ax, hv.ln, c2]
    have eg : cd b at_ = zf 8 (b.drop at_.toNat) at_.toNat 0 0 := by unfold cd; grind
    obtain ⟨a, rfl⟩ : ∃ a : Nat, at_ = Int.ofNat a := Int.eq_ofNat_of_zero_le (show 0 <= at_ by omega)
    have c2' : ¬ (b.length : Int) < (a : Int) := c2
    refine f100_loop b v hv a h _ (by omega) hb 8 0 0 _ rfl (by decide) ?_ ?_ ?_ ?_ ?_ (by omega) ?_
    ·simp_all
    ·simp_all
    ·simp_all
    ·simp_all
    ·simp_all
    ·intro o s' hs' hg
     rw [Nat.add_zero] at hg
     rw [show zf 8 (b.drop a) a 0 0 = cd b (Int.ofNat a) from eg.symm] at hg
     rcases hg with ⟨e, rfl | rfl⟩ | ⟨e, rfl⟩ | ⟨m, j, e, rfl, a1, a2, a3⟩
     ·simp only [go_sem, seval, hs', e]
      exact ⟨rfl, rfl⟩
     ·simp only [go_sem, seval]
      grind
     ·simp only [go_sem, seval]
      grind
     ·simp only [go_sem, seval, hs', e, a1, a2, a3]
      exact ⟨rfl, rfl⟩
open Go Go.Vm
theorem Dx : ∀ k r at_ i n, (zf k r at_ i n).1 <= 9007199254740992 /\ ((zf k r at_ i n).2.2 = 0 -> at_ + i < (zf k r at_ i n).2.1 /\ (zf k r at_ i n).2.1 <= at_ + i + r.length) /\ (zf k r at_ i n).2.2 <= 11
 | 0, _, _, _, _ => by simp [zf]
 | k + 1, [], _, _, _ => by simp [zf]
 | k + 1, c :: r, at_, i, n => by
  simp only [zf, List.length_cons]
  split
  ·grind
  ·have := Dx k r at_ (i + 1) (n + c.toNat % 128 * 128 ^ i)
   omega
theorem nx (b : List UInt8) (a : Int) : (cd b a).1 <= 9007199254740992 /\ ((cd b a).2.2 = 0 -> 0 <= a /\ a < ((cd b a).2.1 : Int) /\ (cd b a).2.1 <= b.length) /\ (cd b a).2.2 <= 11 := by
 unfold cd
 split
 ·simp
 ·have := Dx 8 (b.drop a.toNat) a.toNat 0 0
  grind
def bh (b : List UInt8) (a most : Int) : List UInt8 × Nat × Nat :=
 if (cd b a).2.2 ≠ 0 then ([], 0, (cd b a).2.2) else
 if most < ((cd b a).1 : Int) then ([], 0, 3) else
 if (b.length : Int) - ((cd b a).2.1 : Int) < ((cd b a).1 : Int) then ([], 0, 10) else
 ((b.drop (cd b a).2.1).take (cd b a).1, (cd b a).2.1 + (cd b a).1, 0)
theorem zj (b : List UInt8) (v : VV) (hv : SlV 1 (eB b) v) (a most : Int) (h : ae) (hb : b.length <= 1000000000) :
  call F 99 [v, vi .i64 a, vi .i64 most] h = some (.ret (.tup [txt (bh b a most).1, vi .i64 (bh b a most).2.1, vi .u16 (bh b a most).2.2]), h) := by
 refine Aj (fn := f99) rfl ?_
 simp only [f99]
 generalize hs0 : ([v, vi .i64 a, vi .i64 most] ++ List.replicate _ VV.undef : List VV) = s
 have hs : s.length = 44 := by grind
 have h0 : s.getD 0 .undef = v := by grind
 have h1 : s.getD 1 .undef = vi .i64 a := by grind
 have h2 : s.getD 2 .undef = vi .i64 most := by grind
 clear hs0
 simp only [go_sem, seval, hs, h0, h1, h2]
 refine ap (by simp only [List.map, go_sem, seval, hs]; exact hv.clos (eh mc)) (Po b v hv a [] hb) rfl ?_
 have hbd := nx b a
 unfold bh
 generalize cd b a = x at hbd |-
 obtain ⟨n, j, e⟩ := x
 simp only [go_sem, seval, hs, h0, h1, h2] at hbd |-
 by_cases c1 : (e : Int) = 0
 ·have c1' : e = 0 := by omega
  subst c1'
  have hb1 := hbd.2.1 rfl
  have e1 : IntKind.i64.wrap ((b.length : Int) - (j : Int)) = (b.length : Int) - (j : Int) := IntWalk.i64_in _ (by omega)
  by_cases c2 : most < (n : Int)
  ·simp only [go_sem, seval, hs, h0, h1, h2, eq_true c1, c2]
   exact Is.refl _ _
  ·by_cases c3 : (b.length : Int) - (j : Int) < (n : Int)
   ·simp only [go_sem, seval, hs, h0, h1, h2, eq_true c1, c2, ax, hv.ln, e1, c3]
    exact Is.refl _ _
   ·have e2 : IntKind.i64.wrap ((j : Int) + (n : Int)) = ((j + n : Nat) : Int) := by rw [IntWalk.i64_in _ (by omega)]; omega
    simp only [go_sem, seval, hs, h0, h1, h2, eq_true c1, c2, ax, hv.ln, e1, e2, c3]
    obtain ⟨v', hv', e3⟩ := hv.part (h := h) (k := .i64) (k' := .i64) (a := (j : Int)) (b := ((j + n : Nat) : Int)) (by omega) (by omega) (by rw [ax]; omega)
    rw [Hn] at hv'
    have e4 : (((j + n : Nat) : Int).toNat - (j : Int).toNat) = n := by omega
    rw [e4] at hv'
    rw [e3]
    simp only [go_sem, seval, hs, e2, hv'.bs]
    exact Is.refl _ _
 ·have c1' : ¬ e = 0 := by omega
  simp only [go_sem, seval, hs, h0, h1, h2, c1, c1']
  exact Is.refl _ _
def alh (k v : List UInt8) : List CV := [.sc (.string ⟨k.toArray⟩), .sl 1 (eB v) false]
theorem Bh {h : ae} {c1 c2 c3 : CV} : au h (.tup [.cv c1, .cv c2, .cv c3]) = some (.tup [.cv c1, .cv c2, .cv c3]) := rfl
def ake (v : VV) (v' : VV) (_ : ae) : Prop := v' = v
open Go Go.Vm
def jc (get : Int -> List CV × Nat × Nat) : Nat -> Nat -> List (List CV) -> List (List CV) × Nat × Nat
 | 0, a, out => (out, a, 0)
 | n + 1, a, out => if (get a).2.2 ≠ 0 then (out, (get a).2.1, (get a).2.2) else jc get n (get a).2.1 (out ++ [(get a).1])
def ip (get : Int -> List CV × Nat × Nat) (b : List UInt8) : List (List CV) × Nat :=
 let x := cd b 0
 if x.2.2 ≠ 0 then ([], x.2.2) else
 if 5000 < x.1 then ([], 3) else
 let y := jc get x.1 x.2.1 []
 if y.2.2 ≠ 0 then ([], y.2.2) else
 if y.2.1 < b.length then ([], 11) else (y.1, 0)
theorem Gc {h : ae} {z : Nat} {els : List (List CV)} {v : VV} {c : CV} (hb : eu h z els v) : au h (.tup [v, .cv c]) = some (.tup [slV z els, .cv c]) := by
 obtain ⟨h1, e⟩ := hb.slV
 simp only [au, cf, e]
 rfl
open Go Go.Vm
def ak4 (e : List CV) (p : List UInt8 × List UInt8) : Prop := ∃ c, e = [.sc (.string ⟨p.1.toArray⟩), c] /\ SlV 1 (eB p.2) (.cv c)
inductive RowsE : List (List CV) -> List (List UInt8 × List UInt8) -> Prop
 | nil : RowsE [] []
 | cons {e : List CV} {p : List UInt8 × List UInt8} {l : List (List CV)} {k : List (List UInt8 × List UInt8)} (h : ak4 e p) (t : RowsE l k) : RowsE (e :: l) (p :: k)
theorem RowsE.len {l : List (List CV)} {k : List (List UInt8 × List UInt8)} (h : RowsE l k) : l.length = k.length := by
 induction h with
 | nil => rfl
 | cons _ _ ih => simp [ih]
def ii (p : List UInt8 × List UInt8) : List UInt8 := jd p.1 ++ jd p.2
theorem Kr (k n : Nat) : yf k n ≠ [] := by
 cases k with
 | zero => simp [yf]
 | succ k => simp only [yf]; grind
theorem Bo (l : List UInt8) : eB (jd l) ≠ [] := by
 unfold jd num
 simp [eB, Kr]
theorem Nr (l : List UInt8) : l.length <= (jd l).length := by simp [jd]
theorem In (l : List UInt8) (hl : l.length <= 1000000000) : ∃ v h', call F 75 [txt l] [] = some (.ret v, h') /\ au h' v = some (.cv (.sl 1 (eB (jd l)) false)) := by
 obtain ⟨v, h', h1, h2⟩ := Eu l [] hl
 exact ⟨v, h', h1, h2.res (Bo l)⟩
theorem Yl (n : Int) : ∃ v h', call F 74 [vi .i64 n] [] = some (.ret v, h') /\ au h' v = some (.cv (.sl 1 (eB (num (ka n))) false)) := by
 obtain ⟨v, h', h1, h2⟩ := Mf n []
 refine ⟨v, h', h1, h2.res ?_⟩
 unfold num
 simp [eB, Kr]
open Go Go.Vm
open Go Go.Vm
theorem nu (n : Nat) (h : n < 256) : (u8 n).toNat = n := by
 unfold u8
 simp_all
theorem Nk {a b : Nat} (ha : a < 256) (hb : b < 256) (h : u8 a = u8 b) : a = b := by
 have := congrArg UInt8.toNat h
 rwa [nu a ha, nu b hb] at this
theorem ze : ∀ k j n, n < 128 ^ (j + 1) -> (yf k n).length <= j + 1
 | 0, j, n, h => by simp [yf]
 | k + 1, 0, n, h => by
  have : ¬ 127 < n := by omega
  simp only [yf, if_neg this]
  simp
 | k + 1, j + 1, n, h => by
  rw [Nat.pow_succ] at h
  simp only [yf]
  split
  ·have := ze k j (n / 128) (by omega)
   grind
  ·simp
theorem aay (n : Int) : ka n <= 9007199254740992 := by unfold ka; omega
theorem nw (n : Nat) (h : n <= 9007199254740992) : ka n = n := by unfold ka; omega
theorem anz : (128 : Nat) ^ (8 + 1) = 9223372036854775808 := by decide
theorem anr : (128 : Nat) ^ (7 + 1) = 72057594037927936 := by decide
theorem qa (n : Int) : (num (ka n)).length <= 8 := ze 8 7 _ (by rw [anr]; have := aay n; omega)
open Go Go.Vm
open Go Go.Vm
theorem Jz : ∀ j k n r at_ i acc, n < 128 ^ (j + 1) -> (yf j n).length <= k -> (0 < n \/ i = 0) -> acc + n * 128 ^ i <= 9007199254740992 ->
  zf k (yf j n ++ r) at_ i acc = (acc + n * 128 ^ i, at_ + i + (yf j n).length, 0)
 | 0, 0, n, r, at_, i, acc, hn, hk, h0, hm => by simp [yf] at hk
 | 0, k + 1, n, r, at_, i, acc, hn, hk, h0, hm => by
  have hn' : n < 128 := by omega
  simp only [yf, List.cons_append, List.nil_append, zf, nu n (by omega), Nat.mod_eq_of_lt hn', hn', if_true]
  grind
 | j + 1, 0, n, r, at_, i, acc, hn, hk, h0, hm => by
  simp only [yf] at hk
  grind
 | j + 1, k + 1, n, r, at_, i, acc, hn, hk, h0, hm => by
  rw [Nat.pow_succ] at hn
  simp only [yf] at hk |-
  by_cases h : 127 < n
  ·rw [if_pos h] at hk |-
   simp only [List.length_cons] at hk |-
   have e : acc + n % 128 * 128 ^ i + n / 128 * 128 ^ (i + 1) = acc + n * 128 ^ i := by
    have : n * 128 ^ i = (n % 128 + 128 * (n / 128)) * 128 ^ i := by grind
    grind
   simp only [List.cons_append, zf, nu (128 + n % 128) (by omega)]
   rw [if_neg (by omega), show (128 + n % 128) % 128 = n % 128 by omega]
   rw [Jz j k (n / 128) r at_ (i + 1) (acc + n % 128 * 128 ^ i) (by omega) (by omega) (.inl (by omega)) (by omega), e]
   grind
  ·rw [if_neg h]
   have hn' : n < 128 := by omega
   simp only [List.cons_append, List.nil_append, zf, nu n (by omega), Nat.mod_eq_of_lt hn', hn', if_true]
   grind
theorem Ej (a r : List UInt8) (n : Nat) (h : n <= 9007199254740992) : cd (a ++ num n ++ r) a.length = (n, a.length + (num n).length, 0) := by
 have hl := qa n
 rw [nw n h] at hl
 unfold cd
 rw [if_neg (by grind)]
 have : ((a.length : Int)).toNat = a.length := rfl
 rw [this, List.append_assoc, List.drop_left]
 unfold num at hl |-
 rw [Jz 8 8 n r a.length 0 0 (by omega) hl (.inr rfl) (by omega)]
 simp
theorem lh (a r l : List UInt8) (most : Int) (hl : l.length ≤ 1000000000) : bh (a ++ jd l ++ r) a.length most = if most < (l.length : Int) then ([], 0, 3) else (l, a.length + (jd l).length, 0) := by
  have h1 : ka (l.length : Int) = l.length := nw _ (by omega)
  have e : cd (a ++ jd l ++ r) a.length = (l.length, a.length + (num l.length).length, 0) := by
    unfold jd
    rw [h1]
    have := Ej a (l ++ r) l.length (by omega)
    grind
  unfold bh
  rw [e]
  simp only [ne_eq, not_true_eq_false, if_false]
  split
  · rfl
  · have hb : ((a ++ jd l ++ r).length : Int) - ((a.length + (num l.length).length : Nat) : Int) = ((l.length + r.length : Nat) : Int) := by
      unfold jd
      grind
    rw [if_neg (by omega)]
    congr 1
    · unfold jd
      grind
    grind
open Go Go.Vm
theorem ajh {l : List UInt8} : eB l ≠ [] ↔ l ≠ [] := by cases l <;> simp [eB]
theorem Ux {l : List UInt8} {n : Nat} : (eB l).take n = eB (l.take n) := by simp [eB, List.map_take]
theorem Xq {l : List UInt8} {n : Nat} : (eB l).drop n = eB (l.drop n) := by simp [eB, List.map_drop]
theorem ace (n : Nat) : num n ≠ [] := Kr 8 n
open Go Go.Vm
theorem Cd (n : Nat) : IntKind.u8.wrap (n : Int) = ((n % 256 : Nat) : Int) := by
 rw [IntKind.wrap_u8]; omega
open Go Go.Vm
theorem RowsE.snoc {l : List (List CV)} {k : List (List UInt8 × List UInt8)} (h : RowsE l k) {e : List CV} {p : List UInt8 × List UInt8} (hp : ak4 e p) : RowsE (l ++ [e]) (k ++ [p]) := by
 induction h with
 | nil => exact .cons hp .nil
 | cons h _ ih => exact .cons h ih
open Go Go.Vm
open Go Go.Vm
open Go Go.Vm
open Go Go.Vm
open Go Go.Vm
def ch0 : List CV := [.sc (.string ⟨#[]⟩), .sc (.slice none 0 0), .sc (.bool false)]
def chC (k : List UInt8) (c : CV) (g : Bool) : List CV := [.sc (.string ⟨k.toArray⟩), c, .sc (.bool g)]
def dy (b : List UInt8) (a : Int) : List CV × Nat × Nat :=
 if (bh b a 30).2.2 ≠ 0 then (ch0, 0, (bh b a 30).2.2) else
 match b[(bh b a 30).2.1]? with
 | none => (ch0, 0, 10)
 | some c => if c.toNat = 1 then (chC (bh b a 30).1 (.sc (.slice none 0 0)) true, (bh b a 30).2.1 + 1, 0) else
  if 1 < c.toNat then (ch0, 0, 11) else
  (chC (bh b a 30).1 (.sl 1 (eB (bh b ((bh b a 30).2.1 + 1 : Nat) 150).1) false) false, (bh b ((bh b a 30).2.1 + 1 : Nat) 150).2.1, (bh b ((bh b a 30).2.1 + 1 : Nat) 150).2.2)
theorem Hl (b : List UInt8) (a m : Int) (h : (bh b a m).2.2 = 0) : (bh b a m).2.1 <= b.length /\ (bh b a m).1.length <= b.length /\ 0 <= a /\ a < (bh b a m).2.1 := by
 have hbd := nx b a
 unfold bh at h |-
 grind
theorem Ll (b : List UInt8) (a : Int) : ∃ u w t, (dy b a).1 = [u, w, t] := by
 unfold dy
 split
 ·exact ⟨_, _, _, rfl⟩
 ·split
  ·exact ⟨_, _, _, rfl⟩
  ·split
   ·exact ⟨_, _, _, rfl⟩
   ·split
    ·exact ⟨_, _, _, rfl⟩
    ·exact ⟨_, _, _, rfl⟩
theorem adj {h : ae} {u w t c1 c2 : CV} : au h (.tup [.agg [.cv u, .cv w, .cv t], .cv c1, .cv c2]) = some (.tup [.agg [.cv u, .cv w, .cv t], .cv c1, .cv c2]) := rfl
theorem al1 {a b c : VV} {u w : CV} : bdO [a, b, c] [(0, 1, .cv u), (2, 1, .cv w)] = some (.agg [.cv u, b, .cv w]) := rfl
theorem alq {a b c : VV} {u w : CV} : bdO [a, b, c] [(0, 1, .cv u), (1, 1, .cv w)] = some (.agg [.cv u, .cv w, c]) := rfl
theorem Rb (b : List UInt8) (v : VV) (hv : SlV 1 (eB b) v) (a : Int) (hb : b.length <= 1000000000) :
  ∃ w h', call F 93 [v, vi .i64 a] [] = some (.ret w, h') /\ ake (.tup [.agg ((dy b a).1.map .cv), vi .i64 (dy b a).2.1, vi .u16 (dy b a).2.2]) w h' := by
 refine bc (fn := f93) rfl ?_
 simp only [f93]
 generalize hs0 : ([v, vi .i64 a] ++ List.replicate _ VV.undef : List VV) = s
 have hs : s.length = 59 := by grind
 have h0 : s.getD 0 .undef = v := by grind
 have h1 : s.getD 1 .undef = vi .i64 a := by grind
 clear hs0
 simp only [go_sem, seval, hs, h0, h1, List.nil_append, List.length_nil]
 refine ap (by simp only [List.map, go_sem, seval, hs, h0, h1]; exact hv.clos (eh (eh mc))) (zj b v hv a 30 [] hb) Bh ?_
 have hbd := Hl b a 30
 unfold dy
 generalize bh b a 30 = x at hbd |-
 obtain ⟨k, j, e⟩ := x
 simp only [go_sem, seval, hs, h0] at hbd |-
 by_cases c1 : (e : Int) = 0
 ·have c1' : e = 0 := by omega
  subst c1'
  obtain ⟨hj, _⟩ := hbd rfl
  by_cases c2 : (j : Int) = (b.length : Int)
  ·have hg : b[j]? = none := List.getElem?_eq_none (by omega)
   simp only [go_sem, seval, hs, h0, eq_true c1, hv.ln, ax, eq_true c2, hg]
   refine Ve (id := 0) (by simp_all) rfl rfl (by simp_all) (by simp_all) ?_
   simp only [go_sem, seval, hs]
   rfl
  ·obtain ⟨c, hg⟩ : ∃ c, b[j]? = some c := ⟨_, List.getElem?_eq_getElem (show j < b.length by omega)⟩
   have hia : ∀ h : ae, iaO h 1 v (vi .i64 (j : Int)) = some (.rptr (br c), h) := fun h => hv.ia (by omega) (by exact yo hg)
   have e5 : IntKind.i64.wrap ((j : Int) + 1) = ((j + 1 : Nat) : Int) := by rw [IntWalk.i64_in _ (by omega)]; omega
   by_cases c3 : (c.toNat : Int) = 1
   ·have c3' : c.toNat = 1 := by omega
    have k1 : ((1 : Nat) : Int) = 1 := rfl
    simp only [go_sem, seval, hs, h0, eq_true c1, hv.ln, ax, c2, hia, br, eq_true c3, c3', k1, hg, al1, e5]
    refine Ve (id := 0) (by simp_all) rfl rfl (by simp_all) (by simp_all) ?_
    simp only [go_sem, seval, hs]
    rfl
   ·have c3' : ¬ c.toNat = 1 := by omega
    by_cases c4 : (1 : Int) < (c.toNat : Int)
    ·have c4' : 1 < c.toNat := by omega
     simp only [go_sem, seval, hs, h0, eq_true c1, hv.ln, ax, c2, hia, br, c3, c3', c4, c4', hg]
     refine Ve (id := 0) (by simp_all) rfl rfl (by simp_all) (by simp_all) ?_
     simp only [go_sem, seval, hs]
     rfl
    ·have c4' : ¬ 1 < c.toNat := by omega
     simp only [go_sem, seval, hs, h0, eq_true c1, hv.ln, ax, c2, hia, br, c3, c3', c4, c4', hg, e5]
     refine ap (by simp only [List.map, go_sem, seval, hs]; exact hv.clos (eh (eh mc))) (zj b v hv (j + 1 : Nat) 150 [] hb) Bh ?_
     generalize bh b (j + 1 : Nat) 150 = y
     obtain ⟨u, j2, e2⟩ := y
     simp only [go_sem, seval, hs, alq]
     refine Ve (id := 0) (by simp_all) rfl rfl (by simp_all) (by simp_all) ?_
     simp only [go_sem, seval, hs]
     rfl
 ·have c1' : ¬ e = 0 := by omega
  simp only [go_sem, seval, hs, c1, c1']
  refine Ve (id := 0) (by simp_all) rfl rfl (by simp_all) (by simp_all) ?_
  simp only [go_sem, seval, hs]
  rfl
theorem f92_end (e : Nat) (s : List VV) (h : ae) (Q : Pst) (hs : s.length = 55) (h9 : s.getD 9 .undef = vi .u16 e) (he : e ≠ 0)
  (hQ : ∀ s', s'.length = 55 -> (∀ i, i < 10 -> s'.getD i .undef = s.getD i .undef) -> Q (.exit 0) ⟨s', h⟩) : X F (.loop f92_0) ⟨s, h⟩ Q := by
 rw [ba, bi f92_0.eq_1]
 have he' : ¬ (e : Int) = 0 := by omega
 simp only [go_sem, seval, hs, h9, he']
 refine hQ _ (by simp_all) (fun i hi => ?_)
 have : ∀ j, 10 <= j -> j ≠ i := by omega
 simp_all
theorem f92_loop (b : List UInt8) (vb_ : VV) (hv : SlV 1 (eB b) vb_) (hb : b.length <= 1000000000) : ∀ (n a : Nat) (out : List (List CV)) (s : List VV) (h : ae) (v : VV) (Q : Pst), out.length + n <= 5000 -> s.length = 55 ->
  s.getD 0 .undef = vb_ -> s.getD 1 .undef = .func 93 [] -> s.getD 6 .undef = v -> s.getD 7 .undef = vi .i64 n -> s.getD 8 .undef = vi .i64 a -> s.getD 9 .undef = vi .u16 0 -> eu h 3 out v ->
  (∀ s' h' v', s'.length = 55 -> s'.getD 0 .undef = vb_ -> s'.getD 6 .undef = v' -> eu h' 3 (jc (dy b) n a out).1 v' ->
   s'.getD 8 .undef = vi .i64 (jc (dy b) n a out).2.1 -> s'.getD 9 .undef = vi .u16 (jc (dy b) n a out).2.2 -> Q (.exit 0) ⟨s', h'⟩) ->
  X F (.loop f92_0) ⟨s, h⟩ Q := by
 intro n
 induction n with
 | zero =>
  intro a out s h v Q hn hs h0 h1 h6 h7 h8 h9 hbuf hQ
  rw [ba, bi f92_0.eq_1]
  have hn0 : ¬ (0 : Int) < ((0 : Nat) : Int) := by decide
  simp only [go_sem, Nat.reduceLT, Nat.reduceEqDiff, reduceCtorEq, Int.reduceLT, Int.reduceEq, hs, h7, h9, hn0]
  exact hQ _ _ v (by grind) (by grind) (by grind) hbuf (by simp only [go_sem, Nat.reduceLT, Nat.reduceEqDiff, reduceCtorEq, Int.reduceLT, Int.reduceEq, h8, jc]) (by simp only [go_sem, Nat.reduceLT, Nat.reduceEqDiff, reduceCtorEq, Int.reduceLT, Int.reduceEq, h9, jc]; rfl)
 | succ n ih =>
  intro a out s h v Q hn hs h0 h1 h6 h7 h8 h9 hbuf hQ
  rw [ba, bi f92_0.eq_1]
  have hn0 : (0 : Int) < ((n + 1 : Nat) : Int) := by omega
  simp only [go_sem, seval, hs, h0, h1, h6, h7, h8, h9, hn0]
  obtain ⟨w, hc, hcall, hw⟩ := Rb b vb_ hv a hb
  obtain ⟨u1, u2, u3, hu⟩ := Ll b a
  unfold ake at hw
  rw [hw, hu] at hcall
  refine As (by simp only [go_sem, seval, hs]) (by simp only [List.map, go_sem, seval, hs]; exact hv.clos (eh mc)) hcall adj ?_
  simp only [go_sem, seval, hs, h0, h1, h6, h7, h8, h9]
  have e7 : IntKind.i64.wrap (((n + 1 : Nat) : Int) - 1) = (n : Int) := by rw [IntWalk.i64_in _ (by omega)]; omega
  by_cases c1 : ((dy b a).2.2 : Int) = 0
  ·have c1' : (dy b a).2.2 = 0 := by omega
   simp only [go_sem, seval, hs, h6, eq_true c1]
   refine Bk (new := [[u1, u2, u3]]) (hbuf.push _) (by simp only [go_sem, seval, hs]) (by simp only [go_sem, seval, hs]) (by grind) (by grind) (fun v' h' hb' _ _ => ?_)
   simp only [go_sem, Nat.reduceLT, Nat.reduceEqDiff, reduceCtorEq, Int.reduceLT, Int.reduceEq, hs, h7, e7]
   refine ih (dy b a).2.1 (out ++ [(dy b a).1]) _ h' v' Q (by grind) (by simp only [ah, hs]) (by simp only [go_sem, Nat.reduceLT, Nat.reduceEqDiff, reduceCtorEq, Int.reduceLT, Int.reduceEq, h0]) (by simp only [go_sem, Nat.reduceLT, Nat.reduceEqDiff, reduceCtorEq, Int.reduceLT, Int.reduceEq, h1]) (by simp only [go_sem, Nat.reduceLT, Nat.reduceEqDiff, reduceCtorEq, Int.reduceLT, Int.reduceEq, hs]) (by simp only [go_sem, Nat.reduceLT, Nat.reduceEqDiff, reduceCtorEq, Int.reduceLT, Int.reduceEq, hs]) (by simp only [go_sem, Nat.reduceLT, Nat.reduceEqDiff, reduceCtorEq, Int.reduceLT, Int.reduceEq, hs]) (by simp only [go_sem, Nat.reduceLT, Nat.reduceEqDiff, reduceCtorEq, Int.reduceLT, Int.reduceEq, hs, c1']; rfl) (by grind) ?_
   simp only [jc, c1', ne_eq, not_true_eq_false, if_false] at hQ
   exact hQ
  ·have c1' : ¬ (dy b a).2.2 = 0 := by omega
   simp only [go_sem, seval, hs, h6, h7, c1, e7]
   refine f92_end (dy b a).2.2 _ _ Q (by simp_all) (by simp_all) c1' (fun s' hs' hl => ?_)
   simp only [jc, c1', ne_eq, not_false_eq_true, if_true] at hQ
   refine hQ s' _ v hs' ?_ ?_ (hbuf.push _) ?_ ?_
   ·rw [hl 0 (by decide)]; simp only [go_sem, seval, h0]
   ·rw [hl 6 (by decide)]; simp only [go_sem, seval, h6]
   ·rw [hl 8 (by decide)]; simp only [go_sem, seval, hs]
   ·rw [hl 9 (by decide)]; simp only [go_sem, seval, hs]
theorem Rd (b : List UInt8) (vb_ : VV) (hv : SlV 1 (eB b) vb_) (hb : b.length ≤ 1000000000) :
    ∃ v h', call F 92 [vb_, .func 93 []] [] = some (.ret v, h') ∧ Ad (.tup [slV 3 (ip (dy b) b).1, vi .u16 (ip (dy b) b).2]) v h' := by
  refine bc (fn := f92) rfl ?_
  simp only [f92]
  generalize hs0 : ([vb_, .func 93 []] ++ List.replicate _ VV.undef : List VV) = s
  have hs : s.length = 55 := by grind
  have h0 : s.getD 0 .undef = vb_ := by grind
  have h1 : s.getD 1 .undef = .func 93 [] := by grind
  clear hs0
  simp only [go_sem, seval, hs, h0, h1]
  refine ap (by simp only [List.map, go_sem, seval, hs]; exact hv.clos (eh mc)) (Po b vb_ hv 0 [] hb) Bh ?_
  have hbd := nx b 0
  unfold ip
  generalize cd b 0 = x at hbd ⊢
  obtain ⟨n, a, e⟩ := x
  simp only [go_sem, seval, hs, h0, h1] at hbd ⊢
  -- the end, with an error
  have bad : ∀ (e : Nat) (s' : List VV) (h' : ae) (w : VV), s'.length = 55 → e ≠ 0 → s'.getD 9 .undef = vi .u16 e → w = .tup [slV 3 [], vi .u16 e] →
      X F (.seq (.block 2
  (.seq (.reg [
  ⟨none, (some 46), (.mv (.t 9))⟩,
  ⟨none, (some 47), (.bin .neq (.t 46) (.c (.cv (.sc (.int .u16 0)))))⟩,
  ⟨none, (some 45), (.mv (.t 47))⟩])
  (.cond (.t 45)
  (.seq (.reg [
  ⟨none, (some 48), (.mv (.t 9))⟩,
  ⟨none, (some 4), (.mv (.c (.cv (.sc (.slice none 0 0)))))⟩,
  ⟨none, (some 5), (.mv (.t 48))⟩])
  .ret)
  (.seq (.reg [
  ⟨none, (some 50), (.mv (.t 8))⟩,
  ⟨none, (some 51), (.mv (.t 0))⟩,
  ⟨none, (some 52), (.len false (.t 51))⟩,
  ⟨none, (some 53), (.bin .lss (.t 50) (.t 52))⟩,
  ⟨none, (some 49), (.mv (.t 53))⟩])
  (.cond (.t 49)
  (.seq (.reg [
  ⟨none, (some 4), (.mv (.c (.cv (.sc (.slice none 0 0)))))⟩,
  ⟨none, (some 5), (.mv (.c (.cv (.sc (.int .u16 11)))))⟩])
  .ret) .skip)))))
  (.seq (.reg [
  ⟨none, (some 54), (.mv (.t 6))⟩,
  ⟨none, (some 4), (.mv (.t 54))⟩,
  ⟨none, (some 5), (.mv (.c (.cv (.sc (.int .u16 0)))))⟩])
  .ret)) ⟨s', h'⟩ (RQ [.t 4, .t 5] (Ad w)) := by
    intro e s' h' w hs' he h9 hw
    have he' : ¬ (e : Int) = 0 := by omega
    simp only [go_sem, seval, hs', h9, he']
    rw [hw]
    exact Gc (eu.nil h' 3)
  by_cases c1 : (e : Int) = 0
  · have c1' : e = 0 := by omega
    subst c1'
    by_cases c2 : (5000 : Int) < (n : Int)
    · have c2' : 5000 < n := by omega
      simp only [go_sem, Nat.reduceLT, Nat.reduceEqDiff, reduceCtorEq, Int.reduceLT, Int.reduceEq, hs, h0, h1, eq_true c1, c2, c2']
      refine f92_end 3 _ _ _ (by simp_all) (by simp_all) (by decide) (fun s' hs' hl => ?_)
      simp only [Ou, if_true, Oa]
      refine bad 3 _ _ _ hs' (by decide) ?_ rfl
      rw [hl 9 (by decide)]; simp only [go_sem, Nat.reduceLT, Nat.reduceEqDiff, reduceCtorEq, Int.reduceLT, Int.reduceEq, hs]; rfl
    · have c2' : ¬ 5000 < n := by omega
      simp only [go_sem, Nat.reduceLT, Nat.reduceEqDiff, reduceCtorEq, Int.reduceLT, Int.reduceEq, hs, h0, h1, eq_true c1, c2, c2']
      refine f92_loop b vb_ hv hb n a [] _ _ ct _ (by grind) (by simp_all) (by simp only [go_sem, Nat.reduceLT, Nat.reduceEqDiff, reduceCtorEq, Int.reduceLT, Int.reduceEq, h0]) (by simp_all) (by simp_all) (by simp_all) (by simp_all) (by simp_all) (eu.nil _ _) ?_
      intro s' h' v' hs' h0' h6' hb' h8' h9'
      simp only [Ou, if_true, Oa]
      generalize jc (dy b) n a [] = y at *
      obtain ⟨out, j, e2⟩ := y
      simp only at *
      by_cases c3 : (e2 : Int) = 0
      · have c3' : e2 = 0 := by omega
        subst c3'
        by_cases c4 : (j : Int) < (b.length : Int)
        · have c4' : j < b.length := by omega
          simp only [go_sem, seval, hs', h0', h6', h8', h9', eq_true c3, ax, hv.ln, c4, c4']
          exact Gc (eu.nil h' 3)
        · have c4' : ¬ j < b.length := by omega
          simp only [go_sem, seval, hs', h0', h6', h8', h9', eq_true c3, ax, hv.ln, c4, c4']
          exact Gc hb'
      · have c3' : e2 ≠ 0 := by omega
        grind
  · have c1' : e ≠ 0 := by omega
    simp only [go_sem, seval, hs, h0, h1, c1]
    rw [if_pos c1']
    refine f92_end e _ _ _ (by simp_all) (by simp_all) c1' (fun s' hs' hl => ?_)
    simp only [Ou, if_true, Oa]
    refine bad e _ _ _ hs' c1' ?_ rfl
    rw [hl 9 (by decide)]; simp only [go_sem, seval, hs]
theorem Ku (b : List UInt8) (vb_ : VV) (hv : SlV 1 (eB b) vb_) (hb : b.length <= 1000000000) :
  ∃ v h', call F 84 [vb_] [] = some (.ret v, h') /\ Ad (.tup [slV 3 (ip (dy b) b).1, vi .u16 (ip (dy b) b).2]) v h' := by
 refine bc (fn := f84) rfl ?_
 simp only [f84]
 generalize hs0 : ([vb_] ++ List.replicate _ VV.undef : List VV) = s
 have hs : s.length = 8 := by grind
 have h0 : s.getD 0 .undef = vb_ := by grind
 clear hs0
 simp only [go_sem, seval, hs, h0]
 obtain ⟨v, hc, hcall, hw⟩ := Rd b vb_ hv hb
 refine ap (h1 := []) (by simp only [List.map, go_sem, seval, hs]; exact hv.clos rfl) hcall hw ?_
 simp only [go_sem, seval, hs]
 unfold slV
 split <;> rfl
open Go Go.Vm
theorem RowsE.get {l : List (List CV)} {k : List (List UInt8 × List UInt8)} (h : RowsE l k) : ∀ {i : Nat}, i < k.length -> ∃ e p, l[i]? = some e /\ k[i]? = some p /\ ak4 e p := by
 induction h with
 | nil => grind
 | @cons e p l k h _ ih =>
  grind
open Go Go.Vm
def ak1 (kv : List (List UInt8 × List UInt8)) : Prop := ∀ p ∈ kv, p.1.length <= 30 /\ p.2.length <= 150
theorem Yq (p : List UInt8 × List UInt8) (h : p.1.length <= 30 /\ p.2.length <= 150) : (ii p).length <= 200 := by
 unfold ii jd
 have h1 := qa p.1.length
 have h2 := qa p.2.length
 grind
open Go Go.Vm
open Go Go.Vm
theorem An (c : UInt8) : u8 c.toNat = c := by
 unfold u8
 simp_all
theorem Ko : ∀ (k : Nat) (l : List UInt8) (at_ i acc m j : Nat), zf k l at_ i acc = (m, j, 0) ->
  ∃ n q r, l = q ++ r /\ j = at_ + i + q.length /\ m = acc + n * 128 ^ i /\ (0 < n \/ i = 0) /\ ∀ K, n < 128 ^ (K + 1) -> q = yf K n
 | 0, _, _, _, _, _, _, h => by simp [zf] at h
 | k + 1, [], _, _, _, _, _, h => by simp [zf] at h
 | k + 1, c :: l, at_, i, acc, m, j, h => by
  have hc := c.toNat_lt
  simp only [zf] at h
  by_cases h1 : c.toNat < 128
  ·rw [if_pos h1] at h
   split at h
   ·simp at h
   ·rename_i h2
    simp only [Prod.mk.injEq] at h
    obtain ⟨rfl, rfl, _⟩ := h
    rw [Nat.mod_eq_of_lt h1]
    refine ⟨c.toNat, [c], l, rfl, rfl, rfl, by omega, fun K _ => ?_⟩
    have : ¬ 127 < c.toNat := by omega
    cases K with
    | zero => simp [yf, An]
    | succ K => simp [yf, this, An]
  ·rw [if_neg h1] at h
   obtain ⟨n, q, r, e1, e2, e3, e4, e5⟩ := Ko k l at_ (i + 1) _ m j h
   refine ⟨c.toNat % 128 + 128 * n, c :: q, r, by rw [e1]; rfl, by grind, ?_, .inl (by omega), fun K hK => ?_⟩
   ·grind
   ·cases K with
    | zero => omega
    | succ K =>
     have hn : 0 < n := by omega
     rw [Nat.pow_succ] at hK
     simp only [yf]
     rw [if_pos (by omega), e5 K (by omega)]
     have h3 : (c.toNat % 128 + 128 * n) % 128 = c.toNat % 128 := by omega
     have h4 : (c.toNat % 128 + 128 * n) / 128 = n := by omega
     have h5 : 128 + c.toNat % 128 = c.toNat := by omega
     rw [h3, h4, h5, An]
theorem Bc {b : List UInt8} {a : Int} {n j : Nat} (h : cd b a = (n, j, 0)) : ∃ p r, b = p ++ num n ++ r /\ (p.length : Int) = a /\ j = p.length + (num n).length /\ n <= 9007199254740992 := by
 have hbd := nx b a
 rw [h] at hbd
 unfold cd at h
 split at h
 ·simp at h
 ·rename_i h0
  obtain ⟨n', q, r, e1, e2, e3, e4, e5⟩ := Ko _ _ _ _ _ _ _ h
  simp only [Nat.pow_zero, Nat.mul_one, Nat.zero_add, Nat.add_zero] at e2 e3
  subst e3
  have hl : (b.take a.toNat).length = a.toNat := by grind
  have hq : q = num n := e5 8 (by omega)
  refine ⟨b.take a.toNat, r, ?_, by omega, by grind, hbd.1⟩
  rw [List.append_assoc, <- hq, <- e1, List.take_append_drop]
theorem yi {b : List UInt8} {a most : Int} {s : List UInt8} {j : Nat} (h : bh b a most = (s, j, 0)) : ∃ p r, b = p ++ jd s ++ r /\ (p.length : Int) = a /\ j = p.length + (jd s).length /\ (s.length : Int) <= most := by
 unfold bh at h
 split at h
 ·grind
 ·rename_i h0
  split at h
  ·simp at h
  ·rename_i h1
   split at h
   ·simp at h
   ·rename_i h2
    have hx : cd b a = ((cd b a).1, (cd b a).2.1, 0) := by
     grind
    obtain ⟨p, r, e1, e2, e3, e4⟩ := Bc hx
    generalize (cd b a).1 = n at *
    generalize (cd b a).2.1 = k at *
    simp only [Prod.mk.injEq] at h
    obtain ⟨h3, h4, _⟩ := h
    have hk : k = (p ++ num n).length := by grind
    have hd : b.drop k = r := by grind
    rw [hd] at h3
    have hr : r.length = b.length - k := by grind
    have hkb : k <= b.length := by omega
    have hs : s.length = n := by grind
    refine ⟨p, r.drop n, ?_, e2, ?_, by omega⟩
    ·unfold jd
     rw [hs, nw n e4, <- h3]
     rw [List.append_assoc p, List.append_assoc, List.take_append_drop, <- List.append_assoc]
     exact e1
    ·unfold jd
     rw [hs, nw n e4, List.length_append, hs]; omega
open Go Go.Vm
theorem f102_inner : ∀ (r j n : Nat) (s : List VV) (h : ae) (Q : Pst), j + r = 8 -> n < 4294967296 -> s.length = 23 -> s.getD 3 .undef = vi .u32 n -> s.getD 9 .undef = vi .i64 j ->
  (∀ s', s'.length = 23 -> s'.getD 1 .undef = s.getD 1 .undef -> s'.getD 0 .undef = s.getD 0 .undef -> s'.getD 2 .undef = s.getD 2 .undef -> s'.getD 4 .undef = s.getD 4 .undef -> s'.getD 3 .undef = vi .u32 (ek r n) -> Q (.exit 2) ⟨s', h⟩) -> X F (.loop f102_2) ⟨s, h⟩ Q := by
 intro r
 induction r with
 | zero =>
  intro j n s h Q hj hn hs h3 h9 hQ
  rw [ba, bi f102_2.eq_1]
  have c : ¬ (j : Int) < 8 := by omega
  simp only [go_sem, seval, hs, h9, c]
  rw [bi f102_1.eq_1]
  simp only [go_sem, seval, hs]
  exact hQ _ (by grind) (by grind) (by grind) (by grind) (by grind) (by simp only [go_sem, seval, h3]; rfl)
 | succ r ih =>
  intro j n s h Q hj hn hs h3 h9 hQ
  rw [ba, bi f102_2.eq_1]
  have c : (j : Int) < 8 := by omega
  have hw : IntKind.i64.wrap ((j : Int) + 1) = ((j + 1 : Nat) : Int) := by rw [IntWalk.i64_in _ (by omega)]; omega
  have e1 : (n : Int).fdiv (2 ^ min ((1 : Int).toNat) IntKind.u32.bits) = ((n / 2 : Nat) : Int) := by
   show (n : Int).fdiv 2 = _
   grind
  have e1' : (n : Int).fdiv (2 ^ min ((1 : Int).toNat) 32) = ((n / 2 : Nat) : Int) := e1
  have e2 : IntKind.u32.wrap (3988292384 * ((n % 2 : Nat) : Int)) = ((3988292384 * (n % 2) : Nat) : Int) := by
   rw [IntWalk.u32_in _ (by omega)]; omega
  have e3 : bits .xor .u32 ((n / 2 : Nat) : Int) ((3988292384 * (n % 2) : Nat) : Int) = ((Bt n : Nat) : Int) := Eo (by omega) (by omega)
  simp only [go_sem, seval, hs, h9, c]
  rw [bi f102_1.eq_1]
  simp only [go_sem, Nat.reduceLT, Nat.reduceEqDiff, reduceCtorEq, Int.reduceLT, Int.reduceEq, hs, h3, h9, oh (show ¬ (1 : Int) < 0 by decide), Xd hn, Wb, e1, e1', e2, e3, hw]
  exact ih (j + 1) (Bt n) _ h Q (by omega) (Nq hn) (by simp only [ah, hs]) (by simp only [go_sem, Nat.reduceLT, Nat.reduceEqDiff, reduceCtorEq, Int.reduceLT, Int.reduceEq, hs]) (by simp only [go_sem, Nat.reduceLT, Nat.reduceEqDiff, reduceCtorEq, Int.reduceLT, Int.reduceEq, hs]) (fun s' b b1 b0 b2 b4 b3 => hQ s' b (by rw [b1]; simp only [go_sem, Nat.reduceLT, Nat.reduceEqDiff, reduceCtorEq, Int.reduceLT, Int.reduceEq]) (by rw [b0]; simp only [go_sem, Nat.reduceLT, Nat.reduceEqDiff, reduceCtorEq, Int.reduceLT, Int.reduceEq]) (by rw [b2]; simp only [go_sem, Nat.reduceLT, Nat.reduceEqDiff, reduceCtorEq, Int.reduceLT, Int.reduceEq]) (by rw [b4]; simp only [go_sem, Nat.reduceLT, Nat.reduceEqDiff, reduceCtorEq, Int.reduceLT, Int.reduceEq]) (by rw [b3]; rfl))
def yy (k : Nat) : List VV := (List.range k).map (fun i => vi .u32 (ek 8 i)) ++ List.replicate (256 - k) (vi .u32 0)
theorem vo {k : Nat} (h : k <= 256) : (yy k).length = 256 := by simp [yy]; omega
theorem ab0 {k : Nat} (h : k < 256) : (yy k).set k (vi .u32 (ek 8 k)) = yy (k + 1) := by
 unfold yy
 rw [List.set_append_right _ _ (by simp)]
 have : 256 - k = (256 - (k + 1)) + 1 := by omega
 rw [this, List.replicate_succ]
 simp [List.range_succ]
theorem Zw {i : Nat} (h : i < 256) : (yy 256)[i]? = some (vi .u32 (ek 8 i)) := by simp [yy, h]
theorem f102_loop : ∀ (r k : Nat) (s : List VV) (h : ae) (p : Nat) (Q : Pst), k + r = 256 -> s.length = 23 -> s.getD 1 .undef = .ptr p 0 -> s.getD 4 .undef = vi .i64 k -> h[p]? = some (.box (yy k) false) ->
  (∀ s' h', s'.length = 23 -> s'.getD 1 .undef = .ptr p 0 -> s'.getD 0 .undef = s.getD 0 .undef -> h' = h.set p (.box (yy 256) false) -> Q (.exit 0) ⟨s', h'⟩) -> X F (.loop f102_3) ⟨s, h⟩ Q := by
 intro r
 induction r with
 | zero =>
  intro k s h p Q hk hs h1 h4 hp hQ
  rw [ba, bi f102_3.eq_1]
  have c : ¬ (k : Int) < 256 := by omega
  simp only [go_sem, seval, hs, h4, c]
  rw [bi f102_0.eq_1]
  simp only [go_sem, seval, hs]
  have : k = 256 := by omega
  subst this
  refine hQ _ _ (by grind) (by grind) (by grind) ?_
  apply List.ext_getElem?
  grind
 | succ r ih =>
  intro k s h p Q hk hs h1 h4 hp hQ
  rw [ba, bi f102_3.eq_1]
  have c : (k : Int) < 256 := by omega
  have hw : IntKind.i64.wrap ((k : Int) + 1) = ((k + 1 : Nat) : Int) := by rw [IntWalk.i64_in _ (by omega)]; omega
  have e1 : IntKind.u32.wrap (k : Int) = (k : Int) := IntWalk.u32_in _ (by omega)
  simp only [go_sem, seval, hs, h4, c]
  rw [bi f102_0.eq_1]
  simp only [go_sem, Nat.reduceLT, Nat.reduceEqDiff, reduceCtorEq, Int.reduceLT, Int.reduceEq, hs, h4, e1]
  refine f102_inner 8 0 k _ h _ (by omega) (by omega) (by simp_all) (by grind) (by grind) (fun s' b b1 b0 b2 b4 b3 => ?_)
  have b1' : s'.getD 1 .undef = .ptr p 0 := by grind
  have b2' : s'.getD 2 .undef = vi .i64 k := by grind
  have b4' : s'.getD 4 .undef = vi .i64 k := by grind
  have b0' : s'.getD 0 .undef = s.getD 0 .undef := by grind
  have hst := Af (v := vi .u32 (ek 8 k)) rfl hp (by rw [vo (by omega)]; omega : k < (yy k).length)
  simp only [go_sem, seval, b, b1', b2', b3, Yd (show k < 256 by omega), Nat.mul_one, hst, b4', hw]
  refine ih (k + 1) _ _ p Q (by omega) (by grind) (by grind) (by grind) (by rw [List.getElem?_set_self (ev hp), ab0 (by omega)]) (fun s'' h'' d d1 d0 dh => hQ s'' h'' d d1 (by grind) (by simp_all))
theorem Rx : ∃ v h', call F 102 [] [] = some (.ret v, h') /\ au h' v = some (.agg (yy 256)) := by
 refine bc (P := fun v h' => au h' v = some (.agg (yy 256))) (fn := f102) rfl ?_
 simp only [f102]
 generalize hZ : (List.replicate 256 (VV.cv (.sc (.int .u32 0)))) = Z
 have hZl : Z.length = 256 := by grind
 have hZt : Z = yy 0 := by rw [<- hZ]; rfl
 generalize hs0 : ([] ++ List.replicate _ VV.undef : List VV) = s
 have hs : s.length = 23 := by grind
 clear hs0
 simp only [go_sem, Nat.reduceLT, Nat.reduceEqDiff, reduceCtorEq, Int.reduceLT, Int.reduceEq, hs]
 have q0 : ([VO.box Z false] ++ [VO.box Z false])[1]? = some (.box (yy 0) false) := by rw [hZt]; rfl
 refine f102_loop 256 0 _ _ 1 _ (by omega) (by grind) (by grind) (by grind) q0 (fun s' h' a1 b1 b0 hh => ?_)
 have b0' : s'.getD 0 .undef = .ptr 0 0 := by grind
 have q1 : h'[1]? = some (.box (yy 256) false) := by rw [hh]; rfl
 have q0 : h'[0]? = some (.box Z false) := by rw [hh]; rfl
 have l1 := Bg q1 (vo (Nat.le_refl _))
 have s1 := ly (n := 256) (vo (Nat.le_refl _)) q0 hZl
 have hcl : ∀ h2 : ae, au h2 (.agg (yy 256)) = some (.agg (yy 256)) := by
  intro h2
  obtain ⟨l, hl⟩ : ∃ l : List CV, yy 256 = l.map .cv := ⟨(List.range 256).map (fun i => .sc (.int .u32 (ek 8 i))), by simp [yy]⟩
  rw [hl]
  simp [au, gc, zn]
 have hTl := vo (Nat.le_refl 256)
 generalize yy 256 = T at *
 simp only [go_sem, seval, a1, b1, b0', l1, s1]
 exact Sr (id := 0) (by grind) (by rw [List.getElem?_set_self (ev q0)]) hTl (hcl _)
theorem f95_loop {b : List UInt8} {u : VV} (hu : SlV 1 (eB b) u) (hb : b.length <= 1000000000) {h : ae} {p : Nat} (hp : h[p]? = some (.box (yy 256) false)) :
  ∀ (r k m : Nat) (s : List VV) (Q : Pst), k + r = b.length -> m < 4294967296 -> s.length = 29 -> s.getD 0 .undef = vi .u32 m -> s.getD 5 .undef = .ptr p 0 -> s.getD 11 .undef = u -> s.getD 12 .undef = vi .i64 b.length -> s.getD 13 .undef = vi .i64 k ->
   (∀ s', s'.length = 29 -> s'.getD 0 .undef = vi .u32 (al2 m (b.drop k)) -> Q (.exit 0) ⟨s', h⟩) -> X F (.loop f95_1) ⟨s, h⟩ Q := by
 intro r
 induction r with
 | zero =>
  intro k m s Q hk hm hs h0 h5 h11 h12 h13 hQ
  rw [ba, bi f95_1.eq_1]
  have c : ¬ (k : Int) < (b.length : Int) := by omega
  simp only [go_sem, seval, hs, h12, h13, c]
  rw [bi f95_0.eq_1]
  simp only [go_sem, seval, hs]
  exact hQ _ (by grind) (by simp only [go_sem, seval, h0]; rw [List.drop_eq_nil_of_le (by omega)]; rfl)
 | succ r ih =>
  intro k m s Q hk hm hs h0 h5 h11 h12 h13 hQ
  rw [ba, bi f95_1.eq_1]
  have c : (k : Int) < (b.length : Int) := by omega
  have hkl : k < b.length := by omega
  have hw : IntKind.i64.wrap ((k : Int) + 1) = ((k + 1 : Nat) : Int) := by rw [IntWalk.i64_in _ (by omega)]; omega
  have hia := hu.ia (h := h) (k := .i64) (j := (k : Int)) (by omega) (yo (List.getElem?_eq_getElem hkl))
  have hc := (b[k]).toNat_lt
  have e1 : (m : Int).fdiv (2 ^ min ((8 : Int).toNat) 32) = ((m / 256 : Nat) : Int) := by
   grind
  have e1' : (m : Int).fdiv (2 ^ min ((8 : Int).toNat) IntKind.u32.bits) = ((m / 256 : Nat) : Int) := e1
  have e2 : IntKind.u8.wrap (m : Int) = ((m % 256 : Nat) : Int) := by rw [IntKind.wrap_u8]; omega
  have e3 : bits .xor .u8 ((m % 256 : Nat) : Int) ((b[k].toNat : Nat) : Int) = (((m % 256) ^^^ b[k].toNat : Nat) : Int) := Un (by omega) hc
  have hx : (m % 256) ^^^ b[k].toNat < 256 := Nat.xor_lt_two_pow (n := 8) (by omega) (by omega)
  have hld : ldO h false 1 (.ptr p ((m % 256) ^^^ b[k].toNat)) = some (vi .u32 (ek 8 ((m % 256) ^^^ b[k].toNat)), h) := bg hp (Zw hx)
  have hcs : ek 8 ((m % 256) ^^^ b[k].toNat) < 4294967296 := vq 8 (by omega)
  have e4 : bits .xor .u32 ((m / 256 : Nat) : Int) ((ek 8 ((m % 256) ^^^ b[k].toNat) : Nat) : Int) = ((ek 8 (m ^^^ b[k].toNat) : Nat) : Int) := by
   rw [Eo (by omega) hcs, Mz m (b[k])]
  simp only [go_sem, seval, hs, h12, h13, c]
  rw [bi f95_0.eq_1]
  simp only [go_sem, Nat.reduceLT, Nat.reduceEqDiff, reduceCtorEq, Int.reduceLT, Int.reduceEq, hs, h0, h5, h11, h13, hia, br, oh (show ¬ (8 : Int) < 0 by decide), Wb, e1, e1', e2, e3, Yd hx, Nat.mul_one, hld, e4, hw]
  refine ih (k + 1) (ek 8 (m ^^^ b[k].toNat)) _ Q (by omega) (vq 8 (ahk hm _)) (by simp only [ah, hs]) (by simp only [go_sem, Nat.reduceLT, Nat.reduceEqDiff, reduceCtorEq, Int.reduceLT, Int.reduceEq, hs]) (by simp only [go_sem, Nat.reduceLT, Nat.reduceEqDiff, reduceCtorEq, Int.reduceLT, Int.reduceEq, h5]) (by simp only [go_sem, Nat.reduceLT, Nat.reduceEqDiff, reduceCtorEq, Int.reduceLT, Int.reduceEq, h11]) (by simp only [go_sem, Nat.reduceLT, Nat.reduceEqDiff, reduceCtorEq, Int.reduceLT, Int.reduceEq, h12]) (by simp only [go_sem, Nat.reduceLT, Nat.reduceEqDiff, reduceCtorEq, Int.reduceLT, Int.reduceEq, hs]) (fun s' b1 b2 => hQ s' b1 ?_)
  rw [b2, List.drop_eq_getElem_cons hkl]; rfl
theorem aa4 {b : List UInt8} {u : VV} (hu : SlV 1 (eB b) u) (hb : b.length <= 1000000000) {n : Nat} (hn : n < 4294967296) : ∃ h', call F 95 [vi .u32 n, u] [] = some (.ret (vi .u32 (ak3 n b)), h') := by
 have : ∃ v h', call F 95 [vi .u32 n, u] [] = some (.ret v, h') /\ (fun v h' => v = vi .u32 (ak3 n b)) v h' := by
  refine bc (fn := f95) rfl ?_
  simp only [f95]
  generalize hZ : (List.replicate 256 (VV.cv (.sc (.int .u32 0)))) = Z
  have hZl : Z.length = 256 := by grind
  generalize hs0 : ([vi .u32 n, u] ++ List.replicate _ VV.undef : List VV) = s
  have hs : s.length = 29 := by grind
  have h0 : s.getD 0 .undef = vi .u32 n := by grind
  have h1 : s.getD 1 .undef = u := by grind
  clear hs0
  obtain ⟨vt, ht, n44, r44⟩ := Rx
  simp only [go_sem, seval, hs]
  refine ap (h1 := []) (by simp only [List.map]; rfl) n44 r44 ?_
  have q0 : ([] ++ [VO.box Z false] : ae)[0]? = some (.box Z false) := rfl
  have s1 := ly (n := 256) (vo (Nat.le_refl _)) q0 hZl
  have q1 : (([] ++ [VO.box Z false] : ae).set 0 (.box (yy 256) false))[0]? = some (.box (yy 256) false) := rfl
  have hx : 4294967295 ^^^ n < 4294967296 := Nat.xor_lt_two_pow (n := 32) (by decide) (by omega)
  generalize hT : yy 256 = T at *
  simp only [go_sem, Nat.reduceLT, Nat.reduceEqDiff, reduceCtorEq, Int.reduceLT, Int.reduceEq, hs, List.length_nil, s1, h0, h1, Py hn, hu.ln, ax]
  subst hT
  refine f95_loop hu hb q1 b.length 0 _ _ _ (by omega) hx (by simp only [ah, hs]) (by simp only [go_sem, Nat.reduceLT, Nat.reduceEqDiff, reduceCtorEq, Int.reduceLT, Int.reduceEq, hs]) (by simp only [go_sem, Nat.reduceLT, Nat.reduceEqDiff, reduceCtorEq, Int.reduceLT, Int.reduceEq, hs]) (by simp only [go_sem, Nat.reduceLT, Nat.reduceEqDiff, reduceCtorEq, Int.reduceLT, Int.reduceEq, hs]) (by simp only [go_sem, Nat.reduceLT, Nat.reduceEqDiff, reduceCtorEq, Int.reduceLT, Int.reduceEq, hs]) (by simp only [go_sem, Nat.reduceLT, Nat.reduceEqDiff, reduceCtorEq, Int.reduceLT, Int.reduceEq, hs]; rfl) (fun s' a1 a0 => ?_)
  have hlt := Mx b hx
  simp only [go_sem, seval, a1, a0, Py hlt]
  rfl
 grind
theorem ag4 {b : List UInt8} {u : VV} (hu : SlV 1 (eB b) u) (hb : b.length <= 1000000000) : ∃ h', call F 87 [u] [] = some (.ret (vi .u32 (crc b)), h') := by
 have : ∃ v h', call F 87 [u] [] = some (.ret v, h') /\ (fun v h' => v = vi .u32 (crc b)) v h' := by
  refine bc (fn := f87) rfl ?_
  simp only [f87]
  generalize hs0 : ([u] ++ List.replicate _ VV.undef : List VV) = s
  have hs : s.length = 5 := by grind
  have h0 : s.getD 0 .undef = u := by grind
  clear hs0
  obtain ⟨h', n39⟩ := aa4 hu hb (n := 0) (by decide)
  simp only [go_sem, seval, hs, h0]
  refine ap (h1 := []) (by simp only [List.map, go_sem, seval, hs]; exact eh (hu.clos rfl)) n39 rfl ?_
  simp only [go_sem, seval, hs]
  rfl
 grind
open Go Go.Vm
theorem je {n : Nat} (h : n < 256) : (UInt8.ofNat n).toNat = n := by simp_all
theorem amr (n : Nat) (h : n < 4294967296) : eB (le4 n) = [[.sc (.int .u8 ((n % 256 : Nat) : Int))], [.sc (.int .u8 ((n / 256 % 256 : Nat) : Int))], [.sc (.int .u8 ((n / 65536 % 256 : Nat) : Int))], [.sc (.int .u8 ((n / 16777216 : Nat) : Int))]] := by
 simp only [eB, le4, List.map, br]
 rw [je (by omega), je (by omega), je (by omega), je (by omega)]
theorem Nw {g0 h : ae} {b : List UInt8} {u : VV} (hu : BSrc g0 h b u) (hb : b.length <= 900000000) : Ret F 77 [u] h fun v h' => NB g0 h' 1 (eB (oc b)) v := by
 refine bc (fn := f77) rfl ?_
 simp only [f77]
 generalize hs0 : ([u] ++ List.replicate _ VV.undef : List VV) = s
 have hs : s.length = 27 := by grind
 have h0 : s.getD 0 .undef = u := by grind
 clear hs0
 obtain ⟨w, h1, hc, hw, e1, hsrc⟩ := hu.cl
 obtain ⟨hx, n32⟩ := ag4 hw (by omega)
 have hlt := aka b
 generalize hn : crc b = n at *
 simp only [go_sem, seval, hs, h0]
 refine ap (h1 := h1) (by simp only [List.map, go_sem, seval, hs]; exact hc) n32 rfl ?_
 have hw4 : IntKind.i64.wrap ((b.length : Int) + 4) = ((b.length + 4 : Nat) : Int) := by rw [IntWalk.i64_in _ (by omega)]; omega
 simp only [go_sem, seval, hs, h0, hu.ln, hw4]
 refine aae (k := .i64) (k' := .i64) (b := b.length + 4) e1 (by simp only [go_sem, seval]) (by simp only [go_sem, seval, hs]) (by omega) (by omega) (by omega) (fun v2 h2 B2 x2 => ?_)
 simp only [go_sem, seval, hs, h0]
 refine nl B2 (new := eB b) (by simp only [go_sem, seval, hs]) (by simp only [go_sem, seval, hs]; grind) (by simp only [List.length_nil, ax]; omega) (by simp only [List.length_nil, ax]; omega) (fun v3 h3 B3 _ _ _ => ?_)
 have s1 : IntKind.u8.wrap (n : Int) = ((n % 256 : Nat) : Int) := by rw [IntKind.wrap_u8]; omega
 have s2 : IntKind.u8.wrap ((n : Int).fdiv (2 ^ min ((8 : Int).toNat) 32)) = ((n / 256 % 256 : Nat) : Int) := by
  show IntKind.u8.wrap ((n : Int).fdiv 256) = _
  rw [Int.fdiv_eq_ediv_of_nonneg _ (by decide), IntKind.wrap_u8]; omega
 have s3 : IntKind.u8.wrap ((n : Int).fdiv (2 ^ min ((16 : Int).toNat) 32)) = ((n / 65536 % 256 : Nat) : Int) := by
  show IntKind.u8.wrap ((n : Int).fdiv 65536) = _
  rw [Int.fdiv_eq_ediv_of_nonneg _ (by decide), IntKind.wrap_u8]; omega
 have s4 : IntKind.u8.wrap ((n : Int).fdiv (2 ^ min ((24 : Int).toNat) 32)) = ((n / 16777216 : Nat) : Int) := by
  show IntKind.u8.wrap ((n : Int).fdiv 16777216) = _
  rw [Int.fdiv_eq_ediv_of_nonneg _ (by decide), IntKind.wrap_u8]; omega
 have s2' : IntKind.u8.wrap ((n : Int).fdiv (2 ^ min ((8 : Int).toNat) IntKind.u32.bits)) = ((n / 256 % 256 : Nat) : Int) := s2
 have s3' : IntKind.u8.wrap ((n : Int).fdiv (2 ^ min ((16 : Int).toNat) IntKind.u32.bits)) = ((n / 65536 % 256 : Nat) : Int) := s3
 have s4' : IntKind.u8.wrap ((n : Int).fdiv (2 ^ min ((24 : Int).toNat) IntKind.u32.bits)) = ((n / 16777216 : Nat) : Int) := s4
 simp only [go_sem, Nat.reduceLT, Nat.reduceEqDiff, reduceCtorEq, Int.reduceLT, Int.reduceEq, hs, oh (show ¬ (8 : Int) < 0 by decide), oh (show ¬ (16 : Int) < 0 by decide), oh (show ¬ (24 : Int) < 0 by decide), s1, s2, s3, s4, s2', s3', s4', anj]
 rw [List.nil_append] at B3
 refine nl B3 (new := eB (le4 n)) (by simp only [go_sem, Nat.reduceLT, Nat.reduceEqDiff, reduceCtorEq, Int.reduceLT, Int.reduceEq, hs]) (by simp only [go_sem, Nat.reduceLT, Nat.reduceEqDiff, reduceCtorEq, Int.reduceLT, Int.reduceEq, hs]; rw [amr n hlt]) (by simp only [ax]; rw [show (le4 n).length = 4 from rfl]; omega) (by simp only [ax]; rw [show (le4 n).length = 4 from rfl]; omega) (fun v4 h4 B4 _ _ _ => ?_)
 simp only [go_sem, seval, hs]
 unfold oc
 rw [im, hn]
 exact B4
theorem Ai {b : List UInt8} {u : VV} (hu : SlV 1 (eB b) u) (hb : b.length <= 900000000) : Er F 77 [u] (SlV 1 (eB (oc b))) := by
 obtain ⟨v, h', n, B⟩ := Nw (hu.bsrc (HExt.refl [])) hb
 exact ⟨v, h', n, B.res⟩
theorem rm {a b : List UInt8} {u w : VV} (hu : SlV 1 (eB a) u) (hw : SlV 1 (eB b) w) : call F 81 [u, w] [] = some (.ret (vb (decide (a = b))), []) := by
 refine Aj (fn := f81) rfl ?_
 simp only [f81]
 generalize hs0 : ([u, w] ++ List.replicate _ VV.undef : List VV) = s
 have hs : s.length = 10 := by grind
 have h0 : s.getD 0 .undef = u := by grind
 have h1 : s.getD 1 .undef = w := by grind
 clear hs0
 have te : kt .eql (txt a) (txt b) = some (vb (decide (a = b))) := by
  by_cases h : a = b <;> simp [kt, tm, h]
 simp only [go_sem, seval, hs, h0, h1, hu.bs, hw.bs, te]
 exact ⟨rfl, rfl⟩
def Cy (b : List UInt8) : Bool := decide (4 <= b.length) && decide (oc (b.take (b.length - 4)) = b)
theorem Tq {b : List UInt8} {u : VV} (hu : SlV 1 (eB b) u) (hb : b.length <= 900000000) : Ret F 90 [u] [] fun v h' => v = vb (Cy b) := by
 refine bc (fn := f90) rfl ?_
 simp only [f90]
 generalize hs0 : ([u] ++ List.replicate _ VV.undef : List VV) = s
 have hs : s.length = 17 := by grind
 have h0 : s.getD 0 .undef = u := by grind
 clear hs0
 have hw4 : IntKind.i64.wrap ((b.length : Int) - 4) = (b.length : Int) - 4 := IntWalk.i64_in _ (by omega)
 unfold Cy
 by_cases c : 4 <= b.length
 ·have c1 : (0 : Int) <= (b.length : Int) - 4 := by omega
  have e4 : ((b.length : Int) - 4) = ((b.length - 4 : Nat) : Int) := by omega
  obtain ⟨w, hw, hsl⟩ := hu.upto (h := []) (k := .i64) (b := ((b.length - 4 : Nat) : Int)) (by omega) (by rw [ax]; omega)
  rw [Int.toNat_natCast, Ux] at hw
  obtain ⟨v, h', n23, x, hx, hS⟩ := Ai hw (by grind)
  simp only [go_sem, seval, hs, h0, hu.ln, ax, hw4, ge_iff_le, c1]
  rw [e4]
  simp only [go_sem, seval, hs, h0, hsl]
  refine ap (h1 := []) (by simp only [List.map, go_sem, seval, hs]; exact hw.clos rfl) n23 hx ?_
  simp only [go_sem, seval, hs, h0]
  refine ap (h1 := []) (by simp only [List.map, go_sem, seval, hs]; exact hS.clos (hu.clos rfl)) (rm hS hu) rfl ?_
  simp only [go_sem, seval, hs, c, Bool.true_and]
 ·have c1 : ¬ (0 : Int) <= (b.length : Int) - 4 := by omega
  simp only [go_sem, seval, hs, h0, hu.ln, ax, hw4, ge_iff_le, c1, c, Bool.false_and]
open Go Go.Vm
abbrev KV := List UInt8 × List UInt8
def md : Nat -> List KV -> Nat
 | _, [] => 0
 | n, p :: r => if 30 < p.1.length \/ 150 < p.2.length then 0 else if 250 < n + (1 + (ii p).length) then 0 else 1 + md (n + (1 + (ii p).length)) r
def Oo (l : List KV) : Nat := (l.map fun p => 1 + (ii p).length).sum
theorem mo {p : KV} {l : List KV} : Oo (p :: l) = 1 + (ii p).length + Oo l := by simp [Oo]
theorem qw : ∀ (l : List KV) (n : Nat), md n l <= l.length
 | [], n => Nat.le_refl _
 | p :: l, n => by
  simp only [md]
  split
  ·simp
  ·split
   ·simp
   ·have := qw l (n + (1 + (ii p).length)); simp; omega
theorem Hf : ∀ (l : List KV) (n : Nat), md n l = l.length -> n <= 250 -> n + Oo l <= 250 /\ ak1 l
 | [], n, _, hn => ⟨by simp [Oo]; exact hn, fun p h => by cases h⟩
 | p :: l, n, h, hn => by
  simp only [md] at h
  split at h
  ·simp at h
  ·rename_i c1
   split at h
   ·simp at h
   ·have := Hf l (n + (1 + (ii p).length)) (by grind) (by omega)
    rw [mo]
    refine ⟨by omega, fun q hq => ?_⟩
    rcases List.mem_cons.1 hq with rfl | hq
    ·omega
    ·exact this.2 q hq
theorem zw : ∀ (l : List KV) (n : Nat), md n (l.take (md n l)) = md n l
 | [], n => rfl
 | p :: l, n => by
  simp only [md]
  split
  ·rfl
  ·rename_i c1
   split
   ·rfl
   ·rename_i c2
    rw [Nat.add_comm 1, List.take_succ_cons]
    simp only [md]
    rw [if_neg c1, if_neg c2, zw l]
    omega
def Xw : List UInt8 -> Nat -> Nat -> List KV -> List UInt8
 | pg, _, _, [] => pg
 | pg, i, a, p :: r => Xw (am (pg.set (2 + i) (UInt8.ofNat (a - (ii p).length))) (a - (ii p).length) (ii p)) (i + 1) (a - (ii p).length) r
def Ck (level n : Nat) : List UInt8 := UInt8.ofNat level :: UInt8.ofNat n :: List.replicate 250 0
theorem oq {a b : Nat} : (Ck a b).length = 252 := by unfold Ck; grind
def Ru (level : Nat) (l : List KV) : List UInt8 := Xw (Ck level l.length) 0 252 l
def ga (level : Nat) (l : List KV) : List UInt8 := oc (Ru level l)
def Yg (level : Int) (l : List KV) : Option (List UInt8) := if level < 0 \/ 4 < level \/ md 0 l < l.length then none else some (ga level.toNat l)
theorem Ga : ∀ (l : List KV) (pg : List UInt8) (i a : Nat), Oo l <= a -> a <= pg.length -> (Xw pg i a l).length = pg.length
 | [], pg, i, a, _, _ => rfl
 | p :: l, pg, i, a, h, ha => by
  rw [mo] at h
  have hl : (am (pg.set (2 + i) (UInt8.ofNat (a - (ii p).length))) (a - (ii p).length) (ii p)).length = pg.length := by
   rw [ey (by grind), List.length_set]
  simp only [Xw]
  rw [Ga l _ _ _ (by omega) (by omega), hl]
theorem Hx {level : Nat} {l : List KV} (h : Oo l <= 250) : (Ru level l).length = 252 := by
 unfold Ru
 rw [Ga _ _ _ _ (by omega) (by rw [oq]; omega), oq]
theorem Dv {α : Type} {l c : List α} {off j : Nat} (h : off + c.length <= l.length) (hj : j < off \/ off + c.length <= j) : (am l off c)[j]? = l[j]? := by
 unfold am
 have ht : (l.take off).length = off := by simp; omega
 rcases hj with hj | hj
 ·grind
 ·rw [List.getElem?_append_right (by simp; omega), List.getElem?_drop]
  grind
theorem Wg {α : Type} {l c : List α} {off j : Nat} (h : off + c.length <= l.length) (hj : j < c.length) : (am l off c)[off + j]? = c[j]? := by
 unfold am
 grind
theorem xv : ∀ (l : List KV) (pg : List UInt8) (i a : Nat), 2 + i + Oo l <= a -> a <= pg.length -> ∀ j, j < 2 + i \/ a <= j -> (Xw pg i a l)[j]? = pg[j]?
 | [], pg, i, a, _, _, j, _ => rfl
 | p :: l, pg, i, a, h, ha, j, hj => by
  rw [mo] at h
  have hl : (am (pg.set (2 + i) (UInt8.ofNat (a - (ii p).length))) (a - (ii p).length) (ii p)).length = pg.length := by
   rw [ey (by grind), List.length_set]
  simp only [Xw]
  rw [xv l _ (i + 1) _ (by omega) (by omega) j (by omega), Dv (by grind) (by omega), List.getElem?_set_ne (by omega)]
def rg (b : List UInt8) (a to : Nat) : Option KV :=
 if to <= a then none else
 if (bh (b.take to) a 30).2.2 ≠ 0 then none else
 if (bh (b.take to) (bh (b.take to) a 30).2.1 150).2.2 = 0 /\ (bh (b.take to) (bh (b.take to) a 30).2.1 150).2.1 = to then some ((bh (b.take to) a 30).1, (bh (b.take to) (bh (b.take to) a 30).2.1 150).1) else none
def Cu (b : List UInt8) : Nat -> Nat -> Nat -> Option (List KV)
 | 0, _, _ => some []
 | n + 1, i, to => if to <= 2 + i then none else match rg b (b.getD (2 + i) 0).toNat to with
  | none => none
  | some p => (Cu b n (i + 1) (b.getD (2 + i) 0).toNat).map (p :: ·)
def wr (b : List UInt8) : Nat × List KV × Nat :=
 if b.length ≠ 256 then (0, [], 11) else if Cy b = false then (0, [], 12) else
 match Cu b (b.getD 1 0).toNat 0 252 with
 | none => (0, [], 11)
 | some l => if Yg ((b.getD 0 0).toNat : Int) l = some b then ((b.getD 0 0).toNat, l, 0) else (0, [], 11)
theorem Vh {b : List UInt8} {a : Nat} {p : KV} (h1 : p.1.length <= 30) (h2 : p.2.length <= 150) (hb : b.take (a + (ii p).length) = b.take a ++ ii p) (ha : (b.take a).length = a) : rg b a (a + (ii p).length) = some p := by
 have hne : 0 < (ii p).length := by
  unfold ii
  have hn : jd p.1 ≠ [] := fun e => Bo p.1 (by rw [e]; rfl)
  have := List.length_pos_iff.2 hn
  simp; omega
 have e1 : bh (b.take a ++ ii p) a 30 = (p.1, a + (jd p.1).length, 0) := by
  have := lh (b.take a) (jd p.2) p.1 30 (by omega)
  rw [ha, if_neg (by omega)] at this
  rw [<- this]; unfold ii; grind
 have e2 : bh (b.take a ++ ii p) ((a + (jd p.1).length : Nat) : Int) 150 = (p.2, a + (ii p).length, 0) := by
  have := lh (b.take a ++ jd p.1) [] p.2 150 (by omega)
  rw [List.length_append, ha, if_neg (by omega)] at this
  unfold ii
  grind
 unfold rg
 grind
theorem Pa : ∀ (l : List KV) (pg b : List UInt8) (i a : Nat), ak1 l -> 2 + i + Oo l <= a -> a <= pg.length -> a <= 252 -> (∀ j, j < pg.length -> b[j]? = (Xw pg i a l)[j]?) -> Cu b l.length i a = some l
 | [], pg, b, i, a, _, _, _, _, _ => rfl
 | p :: l, pg, b, i, a, hf, h, ha, ha2, hb => by
  rw [mo] at h
  have hp := hf p (List.mem_cons_self ..)
  have hl : (am (pg.set (2 + i) (UInt8.ofNat (a - (ii p).length))) (a - (ii p).length) (ii p)).length = pg.length := by
   rw [ey (by grind), List.length_set]
  simp only [Xw] at hb
  have hfr := xv l (am (pg.set (2 + i) (UInt8.ofNat (a - (ii p).length))) (a - (ii p).length) (ii p)) (i + 1) (a - (ii p).length) (by omega) (by omega)
  have hslot : b.getD (2 + i) 0 = UInt8.ofNat (a - (ii p).length) := by
   rw [List.getD_eq_getElem?_getD, hb _ (by omega), hfr _ (by omega), Dv (by grind) (by omega), List.getElem?_set_self (by omega)]
   rfl
  have hslot' : (b.getD (2 + i) 0).toNat = a - (ii p).length := by rw [hslot]; exact je (by omega)
  have hbl : a <= b.length := by
   apply Nat.le_of_not_lt
   intro hlt
   have h1 := hb b.length (by omega)
   rw [List.getElem?_eq_none (Nat.le_refl _)] at h1
   have h2 := Ga l (am (pg.set (2 + i) (UInt8.ofNat (a - (ii p).length))) (a - (ii p).length) (ii p)) (i + 1) (a - (ii p).length) (by omega) (by omega)
   grind
  have htake : b.take (a - (ii p).length + (ii p).length) = b.take (a - (ii p).length) ++ ii p := by
   apply List.ext_getElem?
   intro j
   by_cases hj : j < a - (ii p).length
   ·rw [List.getElem?_take_of_lt (by omega), List.getElem?_append_left (by simp; omega), List.getElem?_take_of_lt hj]
   ·by_cases hj2 : j < a
    ·rw [List.getElem?_take_of_lt (by omega), List.getElem?_append_right (by simp; omega), List.length_take, Nat.min_eq_left (by omega)]
     rw [hb _ (by omega), hfr _ (by omega)]
     have := Wg (l := pg.set (2 + i) (UInt8.ofNat (a - (ii p).length))) (c := ii p) (off := a - (ii p).length) (j := j - (a - (ii p).length)) (by rw [List.length_set]; omega) (by omega)
     rw [<- this]; congr 1; omega
    ·rw [List.getElem?_eq_none (by simp; omega), List.getElem?_eq_none (by simp; omega)]
  have hlast := Vh (b := b) (a := a - (ii p).length) hp.1 hp.2 htake (by simp; omega)
  rw [Nat.sub_add_cancel (by omega)] at hlast
  simp only [List.length_cons, Cu]
  rw [if_neg (by omega), hslot', hlast, Pa l _ b (i + 1) (a - (ii p).length) (fun q hq => hf q (List.mem_cons_of_mem _ hq)) (by omega) (by omega) (by omega) (fun j hj => hb j (by omega))]
  rfl
theorem Mk {b : List UInt8} : Cy (oc b) = true := by
 unfold Cy
 have h1 : (oc b).take ((oc b).length - 4) = b := by
  rw [pd, Nat.add_sub_cancel]; unfold oc; grind
 rw [h1]
 simp [pd]
theorem Ba {level : Nat} {l : List KV} (hl : level <= 4) (hf : md 0 l = l.length) : wr (ga level l) = (level, l, 0) := by
 obtain ⟨hs, hF⟩ := Hf l 0 hf (by omega)
 rw [Nat.zero_add] at hs
 have hcount : l.length <= 250 := by
  have : ∀ l : List KV, l.length <= Oo l := by
   intro l
   induction l with
   | nil => simp [Oo]
   | cons p l ih => rw [mo]; simp; omega
  grind
 have hlen := Hx (level := level) hs
 have hplen : (ga level l).length = 256 := by unfold ga; rw [pd, hlen]
 have hget : ∀ j, j < 252 -> (ga level l)[j]? = (Ru level l)[j]? := by
  intro j hj
  unfold ga oc
  grind
 have hfr := xv l (Ck level l.length) 0 252 (by omega) (by rw [oq]; omega)
 have h0 : (ga level l).getD 0 0 = UInt8.ofNat level := by
  rw [List.getD_eq_getElem?_getD, hget 0 (by omega)]
  unfold Ru
  rw [hfr 0 (by omega)]; rfl
 have h1 : (ga level l).getD 1 0 = UInt8.ofNat l.length := by
  rw [List.getD_eq_getElem?_getD, hget 1 (by omega)]
  unfold Ru
  rw [hfr 1 (by omega)]; rfl
 have hdec : Cu (ga level l) l.length 0 252 = some l := Pa l (Ck level l.length) (ga level l) 0 252 hF (by omega) (by rw [oq]; omega) (by omega) (fun j hj => hget j (by rw [oq] at hj; exact hj))
 have henc : Yg (level : Int) l = some (ga level l) := by
  unfold Yg
  grind
 unfold wr
 rw [if_neg (by omega), if_neg (by unfold ga; rw [Mk]; simp), h1, je (by omega), hdec]
 simp only [h0, je (show level < 256 by omega), henc, if_true]
open Go Go.Vm
theorem Buf.nb {h0 h : ae} {z : Nat} {els : List (List CV)} {v : VV} (b : Buf h0 z els v h) : NB h0 h z els v := by
 rcases b with ⟨rfl, rfl, rfl⟩ | ⟨g, rfl, rfl⟩
 ·exact NB.nil _ _
 ·exact ⟨HExt.push _ _, .inr ⟨h0.length, g, Nat.le_refl _, rfl, bp⟩⟩
theorem ad2 (h : ae) {k l : List UInt8} {c : CV} (hc : SlV 1 (eB l) (.cv c)) (hk : k.length <= 100000000) (hl : l.length <= 100000000) : Ret F 98 [.agg [txt k, .cv c]] h fun v h' => NB h h' 1 (eB (ii (k, l))) v := by
 refine bc (fn := f98) rfl ?_
 simp only [f98]
 generalize hs0 : ([.agg [txt k, .cv c]] ++ List.replicate _ VV.undef : List VV) = s
 have hs : s.length = 11 := by grind
 have h0 : s.getD 0 .undef = .agg [txt k, .cv c] := by grind
 clear hs0
 simp only [go_sem, seval, hs, h0]
 rw [yn (n := 2) rfl]
 simp only [go_sem, seval, hs]
 have x1 := HExt.push h (VO.box [txt k, .cv c] false)
 have q1 : (h ++ [VO.box [txt k, .cv c] false])[h.length]? = some (.box [txt k, .cv c] false) := bp
 generalize h ++ [VO.box [txt k, .cv c] false] = g1 at x1 q1
 obtain ⟨v5, g5, n5, b5⟩ := Eu k g1 (by omega)
 obtain ⟨v9, g9, n9, b9⟩ := Eu l g5 (by omega)
 have B5 := Buf.nb b5
 have B9 := Buf.nb b9
 have q5 := B5.ext.get q1
 have q9 := B9.ext.get q5
 refine qy 7 (fun g => g[h.length]? = some (.box [txt k, .cv c] false)) q1 rfl rfl ?_
 simp only [List.take_succ_cons, List.take_zero]
 refine pm (v := .ptr h.length 0) rfl (by rw [vm]; simp only [go_sem, seval, hs]) ?_
 refine tz (v := txt k) rfl (by rw [ki]; simp only [go_sem, seval, hs]; exact bg q1 rfl) ?_
 refine wh (by simp only [List.map, go_sem, seval, hs]; exact n5) q5 ?_
 refine pm (v := .ptr h.length 1) rfl (by rw [vm]; simp only [go_sem, seval, hs]) ?_
 refine ox (v := .cv c) rfl q5 (fun g hg => by rw [ki]; simp only [go_sem, seval, hs]; exact bg hg rfl) ?_
 refine ox (v := txt l) rfl q5 (fun g hg => by rw [Hb]; simp only [go_sem, seval, hs, hc.bs]) ?_
 refine wh (by simp only [List.map, go_sem, seval, hs]; exact n9) q9 ?_
 simp only [XDA, List.drop_succ_cons, List.drop_zero]
 have ht1 : (eB (jd k)).length <= 200000000 := by
  rw [ax]; unfold jd; rw [List.length_append]
  have := qa (k.length : Int); omega
 have ht2 : (eB (jd l)).length <= 200000000 := by
  rw [ax]; unfold jd; rw [List.length_append]
  have := qa (l.length : Int); omega
 have BB : NB h g9 1 (eB (jd k)) v5 := by
  have := (B5.then B9.ext)
  exact ⟨x1.trans this.ext, this.v.imp id (fun ⟨id, g, a1, a2⟩ => ⟨id, g, Nat.le_trans x1.len a1, a2⟩)⟩
 refine Zl BB (new := eB (jd l)) (by simp only [go_sem, seval, hs]) (by simp only [go_sem, seval, hs]; exact B9.src) (by omega) (by omega) (fun v' h' B' _ _ _ => ?_)
 simp only [go_sem, seval, hs]
 rw [<- im] at B'
 exact B'
theorem Px {k l : List UInt8} {c : CV} (hc : SlV 1 (eB l) (.cv c)) (hk : k.length <= 100000000) (hl : l.length <= 100000000) : Er F 98 [.agg [txt k, .cv c]] (SlV 1 (eB (ii (k, l)))) := by
 obtain ⟨v, h', n, B⟩ := ad2 [] hc hk hl
 exact ⟨v, h', n, B.res⟩
open Go Go.Vm
theorem Zq {kv : List KV} {k n : Nat} {p : KV} (hp : kv[k]? = some p) : md n (kv.drop k) = if 30 < p.1.length \/ 150 < p.2.length then 0 else if 250 < n + (1 + (ii p).length) then 0 else 1 + md (n + (1 + (ii p).length)) (kv.drop (k + 1)) := by
 obtain ⟨hlt, e⟩ := List.getElem?_eq_some_iff.1 hp
 rw [List.drop_eq_getElem_cons hlt, e]
 rfl
theorem agz {p : KV} (h : p.1.length <= 30 /\ p.2.length <= 150) : (ii p).length <= 200 := Yq p h
theorem f97_loop {els : List (List CV)} {kv : List KV} {u : VV} (hS : SlV 2 els u) (hR : RowsE els kv) (hn : kv.length <= 9223372036854775807) :
  ∀ (r k n : Nat) (s : List VV) (h : ae) (Q : Pst), k + r = kv.length -> n <= 250 -> s.length = 36 -> s.getD 0 .undef = u -> s.getD 3 .undef = vi .i64 n -> s.getD 6 .undef = u -> s.getD 7 .undef = vi .i64 kv.length -> s.getD 8 .undef = vi .i64 k ->
   (md n (kv.drop k) = r -> ∀ s' h', s'.length = 36 -> s'.getD 0 .undef = u -> Q (.exit 0) ⟨s', h'⟩) -> (∀ s' h', s'.length = 36 -> s'.getD 2 .undef = vi .i64 ((k + md n (kv.drop k) : Nat) : Int) -> Q .ret ⟨s', h'⟩) -> X F (.loop f97_2) ⟨s, h⟩ Q := by
 intro r
 induction r with
 | zero =>
  intro k n s h Q hk hn2 hs h0 h3 h6 h7 h8 hE hQ
  rw [ba, bi f97_2.eq_1]
  have c : ¬ (k : Int) < (kv.length : Int) := by omega
  simp only [go_sem, seval, hs, h7, h8, c]
  rw [bi f97_0.eq_1]
  simp only [go_sem, seval, hs]
  refine hE ?_ _ _ (by simp only [ah, hs]) (by simp only [go_sem, seval, h0])
  rw [List.drop_eq_nil_of_le (by omega)]; rfl
 | succ r ih =>
  intro k n s h Q hk hn2 hs h0 h3 h6 h7 h8 hE hQ
  obtain ⟨e, p, he, hp, c, rfl, hc⟩ := hR.get (i := k) (by omega)
  obtain ⟨key, val⟩ := p
  simp only at hc
  have hfit := Zq (n := n) hp
  rw [ba, bi f97_2.eq_1]
  have c1 : (k : Int) < (kv.length : Int) := by omega
  have hw : IntKind.i64.wrap ((k : Int) + 1) = ((k + 1 : Nat) : Int) := by rw [IntWalk.i64_in _ (by omega)]; omega
  have hia := hS.ia (h := h) (k := .i64) (j := (k : Int)) (by omega) he
  simp only [go_sem, seval, hs, h7, h8, c1]
  rw [bi f97_0.eq_1]
  simp only [go_sem, seval, hs, h6, h8, hia, abl (n := 2) (show [CV.sc (.string ⟨key.toArray⟩), c].length = 2 from rfl), List.map]
  rw [bi f97_1.eq_1]
  have q1 : (h ++ [VO.box [txt key, .cv c] false])[h.length]? = some (.box [txt key, .cv c] false) := bp
  generalize h ++ [VO.box [txt key, .cv c] false] = g at q1
  have l0 : ldO g false 1 (.ptr h.length 0) = some (txt key, g) := bg q1 rfl
  have l1 : ldO g false 1 (.ptr h.length 1) = some (.cv c, g) := bg q1 rfl
  have l2 : ldO g true 2 (.ptr h.length 0) = some (.agg [txt key, .cv c], g) := Bg q1 rfl
  by_cases d1 : (30 : Int) < (key.length : Int)
  ·have d1' : 30 < key.length := by omega
   simp only [go_sem, seval, hs, l0, gt_iff_lt, d1]
   rw [if_pos (.inl d1')] at hfit
   exact hQ _ _ (by simp only [ah, hs]) (by simp only [go_sem, seval, hs, hfit]; rfl)
  ·have d1' : ¬ 30 < key.length := by omega
   by_cases d2 : (150 : Int) < (val.length : Int)
   ·have d2' : 150 < val.length := by omega
    simp only [go_sem, seval, hs, l0, l1, hc.ln, ax, gt_iff_lt, d1, d2]
    rw [if_pos (.inr d2')] at hfit
    exact hQ _ _ (by simp only [ah, hs]) (by simp only [go_sem, seval, hs, hfit]; rfl)
   ·have d2' : ¬ 150 < val.length := by omega
    rw [if_neg (by simp only; omega)] at hfit
    obtain ⟨v, h', n22, w, hw2, hS2⟩ := Px (k := key) (l := val) hc (by omega) (by omega)
    have hrl := agz (p := (key, val)) ⟨by simp only; omega, by simp only; omega⟩
    have ea : IntKind.i64.wrap (1 + ((ii (key, val)).length : Int)) = ((1 + (ii (key, val)).length : Nat) : Int) := by rw [IntWalk.i64_in _ (by omega)]; omega
    have eb : IntKind.i64.wrap ((n : Int) + ((1 + (ii (key, val)).length : Nat) : Int)) = ((n + (1 + (ii (key, val)).length) : Nat) : Int) := by rw [IntWalk.i64_in _ (by omega)]; omega
    simp only [go_sem, seval, hs, l0, l1, l2, hc.ln, ax, gt_iff_lt, d1, d2]
    refine ap (h1 := g) (by simp only [List.map, go_sem, seval, hs]; rfl) n22 hw2 ?_
    by_cases d3 : (250 : Int) < ((n + (1 + (ii (key, val)).length) : Nat) : Int)
    ·simp only [go_sem, seval, hs, h3, hS2.ln, ax, ea, eb, gt_iff_lt, d3]
     rw [if_pos (by omega)] at hfit
     exact hQ _ _ (by simp only [ah, hs]) (by simp only [go_sem, seval, hs, hfit]; rfl)
    ·simp only [go_sem, seval, hs, h3, hS2.ln, ax, ea, eb, gt_iff_lt, d3, h8, hw]
     rw [if_neg (by omega)] at hfit
     refine ih (k + 1) (n + (1 + (ii (key, val)).length)) _ _ Q (by omega) (by omega) (by simp only [ah, hs]) (by simp only [go_sem, seval, h0]) (by simp only [go_sem, seval, hs]) (by simp only [go_sem, seval, h6]) (by simp only [go_sem, seval, h7]) (by simp only [go_sem, seval, hs]) (fun hh => hE (by rw [hfit, hh]; omega)) (fun s' h' a1 a2 => hQ s' h' a1 ?_)
     rw [a2, hfit, Nat.add_assoc]
theorem Tb {els : List (List CV)} {kv : List KV} {u : VV} (hS : SlV 2 els u) (hR : RowsE els kv) (hn : kv.length <= 9223372036854775807) : ∃ h', call F 97 [u] [] = some (.ret (vi .i64 (md 0 kv : Nat)), h') := by
 have : Ret F 97 [u] [] fun v h' => v = vi .i64 (md 0 kv : Nat) := by
  refine bc (fn := f97) rfl ?_
  simp only [f97]
  generalize hs0 : ([u] ++ List.replicate _ VV.undef : List VV) = s
  have hs : s.length = 36 := by grind
  have h0 : s.getD 0 .undef = u := by grind
  clear hs0
  have hl := hR.len
  simp only [go_sem, Nat.reduceLT, Nat.reduceEqDiff, reduceCtorEq, Int.reduceLT, Int.reduceEq, hs, h0, hS.ln]
  refine f97_loop hS hR hn kv.length 0 0 _ _ _ (by omega) (by omega) (by grind) (by grind) (by grind) (by grind) (by grind) (by grind) (fun hh s' h' a1 a0 => ?_) (fun s' h' a1 a2 => ?_)
  ·simp only [go_sem, seval, a1, a0, hS.ln, hl]
   grind
  ·rw [List.drop_zero, Nat.zero_add] at a2
   simp only [go_sem, seval, a1, a2]
 obtain ⟨v, h', e1, rfl⟩ := this
 grind
open Go Go.Vm
theorem Bz {kv : List KV} {k : Nat} {p : KV} (hp : kv[k]? = some p) : kv.drop k = p :: kv.drop (k + 1) := by
 obtain ⟨hlt, e⟩ := List.getElem?_eq_some_iff.1 hp
 rw [List.drop_eq_getElem_cons hlt, e]
theorem f89_loop {els : List (List CV)} {kv : List KV} {u : VV} (hS : SlV 2 els u) (hR : RowsE els kv) (hn : kv.length <= 250) {g0 : ae} {p : Nat} (hp0 : g0.length <= p) :
  ∀ (r k a : Nat) (pg : List UInt8) (s : List VV) (h : ae) (Q : Pst), k + r = kv.length -> ak1 (kv.drop k) -> 2 + k + Oo (kv.drop k) <= a -> a <= 252 -> pg.length = 252 -> HExt g0 h -> h[p]? = some (jz pg) ->
   s.length = 56 -> s.getD 6 .undef = .ptr p 0 -> s.getD 7 .undef = vi .i64 a -> s.getD 31 .undef = u -> s.getD 32 .undef = vi .i64 kv.length -> s.getD 33 .undef = vi .i64 k ->
   (∀ s' h', s'.length = 56 -> s'.getD 6 .undef = .ptr p 0 -> HExt g0 h' -> h'[p]? = some (jz (Xw pg k a (kv.drop k))) -> Q (.exit 0) ⟨s', h'⟩) -> X F (.loop f89_2) ⟨s, h⟩ Q := by
 intro r
 induction r with
 | zero =>
  intro k a pg s h Q hk hf hsum ha hpl x hp hs h6 h7 h31 h32 h33 hE
  rw [ba, bi f89_2.eq_1]
  have c : ¬ (k : Int) < (kv.length : Int) := by omega
  simp only [go_sem, seval, hs, h32, h33, c]
  rw [bi f89_1.eq_1]
  simp only [go_sem, seval, hs]
  refine hE _ _ (by simp only [ah, hs]) (by simp only [go_sem, seval, h6]) x ?_
  rw [List.drop_eq_nil_of_le (by omega)]; exact hp
 | succ r ih =>
  intro k a pg s h Q hk hf hsum ha hpl x hp hs h6 h7 h31 h32 h33 hE
  obtain ⟨e, q, he, hq, c, rfl, hc⟩ := hR.get (i := k) (by omega)
  obtain ⟨key, val⟩ := q
  simp only at hc
  have hd := Bz hq
  rw [hd] at hf hsum
  rw [mo] at hsum
  have hfp : key.length <= 30 /\ val.length <= 150 := hf (key, val) (List.mem_cons_self ..)
  have hf' : ak1 (kv.drop (k + 1)) := fun q hq => hf q (List.mem_cons_of_mem _ hq)
  rw [ba, bi f89_2.eq_1]
  have c1 : (k : Int) < (kv.length : Int) := by omega
  have hw : IntKind.i64.wrap ((k : Int) + 1) = ((k + 1 : Nat) : Int) := by rw [IntWalk.i64_in _ (by omega)]; omega
  have hia := hS.ia (h := h) (k := .i64) (j := (k : Int)) (by omega) he
  simp only [go_sem, seval, hs, h32, h33, c1]
  rw [bi f89_1.eq_1]
  simp only [go_sem, seval, hs, h31, h33, hia, abl (n := 2) (show [CV.sc (.string ⟨key.toArray⟩), c].length = 2 from rfl), List.map]
  have q1 : (h ++ [VO.box [txt key, .cv c] false])[h.length]? = some (.box [txt key, .cv c] false) := bp
  have x1 := x.then (VO.box [txt key, .cv c] false)
  have hpp := (HExt.push h (VO.box [txt key, .cv c] false)).get hp
  generalize h ++ [VO.box [txt key, .cv c] false] = g at q1 x1 hpp
  have l2 : ldO g true 2 (.ptr h.length 0) = some (.agg [txt key, .cv c], g) := Bg q1 rfl
  obtain ⟨v, h', n22, w, hw2, hS2⟩ := Px (k := key) (l := val) hc (by omega) (by omega)
  generalize hrb : ii (key, val) = rb at *
  have e1 : IntKind.i64.wrap ((a : Int) - (rb.length : Int)) = ((a - rb.length : Nat) : Int) := by rw [IntWalk.i64_in _ (by omega)]; omega
  have e2 : IntKind.i64.wrap (2 + (k : Int)) = ((2 + k : Nat) : Int) := by rw [IntWalk.i64_in _ (by omega)]; omega
  have e3 : IntKind.u8.wrap ((a - rb.length : Nat) : Int) = ((UInt8.ofNat (a - rb.length)).toNat : Int) := by
   rw [je (by omega)]; exact IntWalk.u8_in _ (by omega)
  have s1 := Bl (x := UInt8.ofNat (a - rb.length)) hpp (show 2 + k < pg.length by omega)
  have hp2 : (g.set p (jz (pg.set (2 + k) (UInt8.ofNat (a - rb.length)))))[p]? = some (jz (pg.set (2 + k) (UInt8.ofNat (a - rb.length)))) := by rw [List.getElem?_set_self (ev hpp)]
  have x2 := x1.set hp0 (jz (pg.set (2 + k) (UInt8.ofNat (a - rb.length))))
  refine ap (h1 := g) (by simp only [List.map, go_sem, seval, hs]; rfl) n22 hw2 ?_
  simp only [go_sem, seval, hs, h6, h7, h33, hS2.ln, ax, e1, e2, e3, Yd (show 2 + k < 252 by omega), Nat.mul_one, s1]
  generalize g.set p (jz (pg.set (2 + k) (UInt8.ofNat (a - rb.length)))) = g2 at hp2 x2
  have hl2 : (pg.set (2 + k) (UInt8.ofNat (a - rb.length))).length = 252 := by rw [List.length_set, hpl]
  have s2 := Sz (n := 252) (a := a - rb.length) (k := .i64) hp2 (by rw [List.length_map, sb, hl2]; omega) (by omega)
  have s3 := ac9 (ex := true) (off := a - rb.length) (len := 252 - (a - rb.length)) hp2 (by omega) hS2.src (by omega)
  simp only [go_sem, seval, hs, h6, s2, s3, h33, hw]
  refine ih (k + 1) (a - rb.length) (am (pg.set (2 + k) (UInt8.ofNat (a - rb.length))) (a - rb.length) rb) _ _ Q (by omega) hf' (by omega) (by omega) (by rw [ey (by omega), hl2]) (x2.set hp0 _) (by rw [List.getElem?_set_self (ev hp2)]) (by simp only [ah, hs]) (by simp only [go_sem, seval, h6]) (by simp only [go_sem, seval, hs]) (by simp only [go_sem, seval, h31]) (by simp only [go_sem, seval, h32]) (by simp only [go_sem, seval, hs])
   (fun s' h' b1 b2 b3 b4 => hE s' h' b1 b2 b3 ?_)
  rw [hd]
  simp only [Xw, hrb]
  exact b4
def ami (h : ae) (x : Option (List UInt8)) (v : VV) (h' : ae) : Prop := match x with
 | none => v = .tup [ct, vb false]
 | some b => ∃ w, v = .tup [w, vb true] /\ NB h h' 1 (eB b) w
theorem Vx : ∀ l : List KV, 3 * l.length <= Oo l
 | [] => by simp [Oo]
 | p :: l => by
  have := Vx l
  rw [mo]
  have h1 : jd p.1 ≠ [] := fun e => Bo p.1 (by rw [e]; rfl)
  have h2 : jd p.2 ≠ [] := fun e => Bo p.2 (by rw [e]; rfl)
  have h3 := List.length_pos_iff.2 h1
  have h4 := List.length_pos_iff.2 h2
  have : (ii p).length = (jd p.1).length + (jd p.2).length := by unfold ii; simp
  simp; omega
theorem Dt (h : ae) (level : Int) {els : List (List CV)} {kv : List KV} {u : VV} (hS : SlV 2 els u) (hR : RowsE els kv) (hn : kv.length <= 9223372036854775807) : Ret F 89 [vi .i64 level, u] h fun v h' => ami h (Yg level kv) v h' := by
 refine bc (fn := f89) rfl ?_
 simp only [f89]
 generalize hs0 : ([vi .i64 level, u] ++ List.replicate _ VV.undef : List VV) = s
 have hs : s.length = 56 := by grind
 have h0 : s.getD 0 .undef = vi .i64 level := by grind
 have h1 : s.getD 1 .undef = u := by grind
 clear hs0
 generalize hZ : (List.replicate 252 (VV.cv (.sc (.int .u8 0)))) = Z
 have hZb : Z = (bC (List.replicate 252 0)).map .cv := by rw [<- hZ]; exact rp 252
 have hl := hR.len
 simp only [go_sem, seval, hs]
 rw [bi f89_0.eq_1]
 unfold Yg
 by_cases c1 : level < 0
 ·simp only [go_sem, seval, hs, h0, c1, true_or]
  rfl
 ·by_cases c2 : 4 < level
  ·simp only [go_sem, seval, hs, h0, c1, gt_iff_lt, c2, true_or, or_true]
   rfl
  ·obtain ⟨h11, n11⟩ := Tb hS hR hn
   have hle := qw kv 0
   simp only [go_sem, seval, hs, h0, h1, c1, gt_iff_lt, c2]
   refine ap (h1 := h) (by simp only [List.map, go_sem, seval, hs]; exact hS.clos rfl) n11 rfl ?_
   by_cases c3 : ((md 0 kv : Nat) : Int) < (kv.length : Int)
   ·have c3' : md 0 kv < kv.length := by omega
    simp only [go_sem, seval, hs, h1, hS.ln, hl, c3, c3', or_true]
    rfl
   ·have c3' : ¬ md 0 kv < kv.length := by omega
    obtain ⟨hsum, hF⟩ := Hf kv 0 (by omega) (by omega)
    have hcount := Vx kv
    have elv : IntKind.u8.wrap level = ((UInt8.ofNat level.toNat).toNat : Int) := by
     rw [je (by omega), IntWalk.u8_in _ (by omega)]; omega
    have eln : IntKind.u8.wrap (kv.length : Int) = ((UInt8.ofNat kv.length).toNat : Int) := by
     rw [je (by omega), IntWalk.u8_in _ (by omega)]
    simp only [go_sem, seval, hs, h0, h1, hS.ln, hl, c3, elv, eln]
    have q1 : (h ++ [VO.box Z false])[h.length]? = some (jz (List.replicate 252 0)) := by grind
    have x1 := HExt.push h (VO.box Z false)
    generalize h ++ [VO.box Z false] = g1 at q1 x1
    have s1 := Bl (x := UInt8.ofNat level.toNat) (j := 0) q1 (by grind)
    have q2 : (g1.set h.length (jz ((List.replicate 252 0).set 0 (UInt8.ofNat level.toNat))))[h.length]? = some (jz ((List.replicate 252 0).set 0 (UInt8.ofNat level.toNat))) := by grind
    have x2 := x1.set (Nat.le_refl _) (jz ((List.replicate 252 0).set 0 (UInt8.ofNat level.toNat)))
    generalize g1.set h.length (jz ((List.replicate 252 0).set 0 (UInt8.ofNat level.toNat))) = g2 at s1 q2 x2
    have s2 := Bl (x := UInt8.ofNat kv.length) (j := 1) q2 (by grind)
    have epg : ((List.replicate 252 (0 : UInt8)).set 0 (UInt8.ofNat level.toNat)).set 1 (UInt8.ofNat kv.length) = Ck level.toNat kv.length := rfl
    rw [epg] at s2
    have q3 : (g2.set h.length (jz (Ck level.toNat kv.length)))[h.length]? = some (jz (Ck level.toNat kv.length)) := by grind
    have x3 := x2.set (Nat.le_refl _) (jz (Ck level.toNat kv.length))
    generalize g2.set h.length (jz (Ck level.toNat kv.length)) = g3 at s2 q3 x3
    have i0 : Hq 252 1 (.ptr h.length 0) (vi .i64 0) = some (.ptr h.length 0) := Yd (j := 0) (by decide)
    have i1 : Hq 252 1 (.ptr h.length 0) (vi .i64 1) = some (.ptr h.length 1) := Yd (j := 1) (by decide)
    simp only [go_sem, Nat.reduceLT, Nat.reduceEqDiff, reduceCtorEq, Int.reduceLT, Int.reduceEq, hs, h1, hS.ln, hl, i0, i1, s1, s2]
    refine f89_loop hS hR (by omega) (Nat.le_refl h.length) kv.length 0 252 _ _ _ _ (by omega) hF (by grind) (by omega) oq x3 q3 (by simp only [ah, hs]) (by simp only [go_sem, Nat.reduceLT, Nat.reduceEqDiff, reduceCtorEq, Int.reduceLT, Int.reduceEq, hs]) (by simp only [go_sem, Nat.reduceLT, Nat.reduceEqDiff, reduceCtorEq, Int.reduceLT, Int.reduceEq, hs]; rfl) (by simp only [go_sem, Nat.reduceLT, Nat.reduceEqDiff, reduceCtorEq, Int.reduceLT, Int.reduceEq, hs]) (by simp only [go_sem, Nat.reduceLT, Nat.reduceEqDiff, reduceCtorEq, Int.reduceLT, Int.reduceEq, hs]) (by simp only [go_sem, Nat.reduceLT, Nat.reduceEqDiff, reduceCtorEq, Int.reduceLT, Int.reduceEq, hs]; rfl) (fun s' h' a1 a6 x4 q4 => ?_)
    rw [List.drop_zero] at q4
    have hpl : (Xw (Ck level.toNat kv.length) 0 252 kv).length = 252 := Hx (by omega)
    have ss := Ix (n := 252) (z := 1) (off := 0) q4 (by rw [List.length_map, sb, hpl]; omega)
    have Bs := agm (ex := true) x4 q4 (Nat.le_refl _)
    rw [hpl] at Bs
    obtain ⟨v5, h5, n5, B5⟩ := Nw Bs (by omega)
    simp only [go_sem, seval, a1, a6, ss]
    refine ao (by simp only [List.map, go_sem, seval, a1]; exact n5) ?_
    have hneg : ¬ (level < 0 \/ 4 < level \/ md 0 kv < kv.length) := by omega
    simp only [go_sem, seval, a1, c3', or_self]
    exact ⟨v5, rfl, B5⟩
open Go Go.Vm
open Go Go.Vm
def akj (b : List UInt8) (a to : Nat) (e : List CV) : Prop := (∃ c1 c2, e = [c1, c2]) /\ ∀ p, rg b a to = some p -> e = alh p.1 p.2
theorem Zh {b : List UInt8} {u : VV} (hu : SlV 1 (eB b) u) (hb : b.length ≤ 1000000) {a to : Nat} (hto : to ≤ b.length) (ha : a ≤ 1000000) : Ret F 91 [u, vi .i64 a, vi .i64 to] [] fun v h' => ∃ e, au h' v = some (.tup [.agg (e.map .cv), vb (rg b a to).isSome]) ∧ akj b a to e := by
  refine eE3 (fn := f91) (n := 48) rfl rfl fun s hs h0 h1 h2 => ?_
  simp only [f91]
  have q0 : ([] ++ [VO.box [.cv (.sc (.string ⟨#[]⟩)), ct] false] : ae)[0]? = some (.box [.cv (.sc (.string ⟨#[]⟩)), ct] false) := rfl
  have l0 : ldO ([] ++ [VO.box [.cv (.sc (.string ⟨#[]⟩)), ct] false] : ae) true 2 (.ptr 0 0) = some (.agg [.cv (.sc (.string ⟨#[]⟩)), ct], ([] ++ [VO.box [.cv (.sc (.string ⟨#[]⟩)), ct] false] : ae)) := Bg q0 rfl
  have s0 : ∀ x y : VV, stO ([] ++ [VO.box [.cv (.sc (.string ⟨#[]⟩)), ct] false] : ae) 2 (.ptr 0 0) (.agg [x, y]) = some (.undef, [VO.box [x, y] false]) := fun x y => ly rfl q0 rfl
  have s0' : ∀ x y : VV, ([VO.box [x, y] false] : ae)[0]? = some (.box [x, y] false) := fun _ _ => rfl
  simp only [go_sem, seval, hs, List.length_nil]
  rw [bi f91_0.eq_1]
  have fin : ∀ {s' : List VV} {c1 c2 : CV} {ok : Bool}, s'.length = 48 → s'.getD 6 .undef = .ptr 0 0 → s'.getD 7 .undef = vb ok → ok = (rg b a to).isSome → (∀ p, rg b a to = some p → [c1, c2] = alh p.1 p.2) →
      RQ [.cell 6 true 2, .t 7] (fun v h' => ∃ e, au h' v = some (.tup [.agg (e.map .cv), vb (rg b a to).isSome]) ∧ akj b a to e) .ret ⟨s', [VO.box [.cv c1, .cv c2] false]⟩ := by
    intro s' c1 c2 ok a1 a6 a7 hok hp
    refine Yk (id := 0) a6 rfl rfl (by omega) ?_
    rw [a7, hok]
    exact ⟨[c1, c2], rfl, ⟨c1, c2, rfl⟩, hp⟩
  by_cases c1 : (to : Int) ≤ (a : Int)
  · have e : rg b a to = none := by unfold rg; rw [if_pos (by omega)]
    simp only [go_sem, seval, hs, h1, h2, ge_iff_le, c1, l0, s0]
    exact fin (by simp only [ah, hs]) (by simp only [go_sem, seval, hs]) (by simp only [go_sem, seval, hs]; rfl) (by simp [e]) (fun p hp => by rw [e] at hp; cases hp)
  · have c1' : ¬ to ≤ a := by omega
    obtain ⟨w, hw, hsl⟩ := hu.upto (h := ([] ++ [VO.box [.cv (.sc (.string ⟨#[]⟩)), ct] false])) (k := .i64) (b := (to : Int)) (by omega) (by rw [ax]; omega)
    rw [Int.toNat_natCast, Ux] at hw
    have hwl : (b.take to).length ≤ 1000000000 := by rw [List.length_take]; omega
    have n1 := zj (b.take to) w hw (a : Int) 30 [] hwl
    generalize hx : bh (b.take to) (a : Int) 30 = x at *
    have r1 : au [] (.tup [txt x.1, vi .i64 x.2.1, vi .u16 x.2.2]) = some (.tup [txt x.1, vi .i64 x.2.1, vi .u16 x.2.2]) := rfl
    simp only [go_sem, seval, hs, h0, h1, h2, ge_iff_le, c1, hsl]
    refine ap (h1 := ([] ++ [VO.box [.cv (.sc (.string ⟨#[]⟩)), ct] false])) (by simp only [List.map, go_sem, seval, hs]; exact hw.clos rfl) n1 r1 ?_
    simp only [go_sem, seval, hs]
    rw [bi f91_1.eq_1]
    by_cases c2 : (x.2.2 : Int) = 0
    · have c2' : x.2.2 = 0 := by omega
      have n2 := zj (b.take to) w hw (x.2.1 : Int) 150 [] hwl
      generalize hy : bh (b.take to) (x.2.1 : Int) 150 = y at *
      have r2 : au [] (.tup [txt y.1, vi .i64 y.2.1, vi .u16 y.2.2]) = some (.tup [txt y.1, vi .i64 y.2.1, vi .u16 y.2.2]) := rfl
      simp only [go_sem, seval, hs, h0, h2, eq_true c2, hsl]
      refine ap (h1 := ([] ++ [VO.box [.cv (.sc (.string ⟨#[]⟩)), ct] false])) (by simp only [List.map, go_sem, seval, hs]; exact hw.clos rfl) n2 r2 ?_
      have eL : rg b a to = if y.2.2 = 0 ∧ y.2.1 = to then some (x.1, y.1) else none := by
        unfold rg
        rw [if_neg c1', hx, if_neg (by rw [c2']; simp), hy]
      by_cases c3 : (y.2.2 : Int) = 0
      · by_cases c4 : (y.2.1 : Int) = (to : Int)
        · rw [if_pos ⟨by omega, by omega⟩] at eL
          simp only [go_sem, seval, hs, h2, eq_true c3, eq_true c4, s0]
          exact fin (by simp only [ah, hs]) (by simp only [go_sem, seval, hs]) (by simp only [go_sem, seval, hs]; rfl) (by simp [eL]) (fun p hp => by rw [eL] at hp; cases hp; rfl)
        · rw [if_neg (by omega)] at eL
          simp only [go_sem, seval, hs, h2, eq_true c3, c4, s0]
          exact fin (by simp only [ah, hs]) (by simp only [go_sem, seval, hs]) (by simp only [go_sem, seval, hs]; rfl) (by simp [eL]) (fun p hp => by rw [eL] at hp; cases hp)
      · rw [if_neg (by omega)] at eL
        simp only [go_sem, seval, hs, h2, c3, s0]
        exact fin (by simp only [ah, hs]) (by simp only [go_sem, seval, hs]) (by simp only [go_sem, seval, hs]; rfl) (by simp [eL]) (fun p hp => by rw [eL] at hp; cases hp)
    · have e : rg b a to = none := by
        unfold rg
        rw [if_neg c1', hx, if_pos (by omega)]
      simp only [go_sem, seval, hs, c2, l0, s0]
      exact fin (by simp only [ah, hs]) (by simp only [go_sem, seval, hs]) (by simp only [go_sem, seval, hs]; rfl) (by simp [e]) (fun p hp => by rw [e] at hp; cases hp)
open Go Go.Vm
theorem NB.snoc {h0 h : ae} {els : List (List CV)} {kv : List KV} {v : VV} (hR : RowsE els kv) (p : KV) : RowsE (els ++ [alh p.1 p.2]) (kv ++ [p]) :=
 hR.snoc ⟨.sl 1 (eB p.2) false, rfl, .inr ⟨false, rfl⟩⟩
theorem Su {b : List UInt8} {n i to : Nat} (h1 : ¬ to <= 2 + i) : Cu b (n + 1) i to = match rg b (b.getD (2 + i) 0).toNat to with | none => none | some p => (Cu b n (i + 1) (b.getD (2 + i) 0).toNat).map (p :: ·) := by
 simp only [Cu]; grind
theorem f82_loop {b : List UInt8} {u : VV} (hu : SlV 1 (eB b) u) (hb : b.length = 256) {n : Nat} (hn : n <= 255) {g0 : ae} :
  ∀ (r i to : Nat) (els : List (List CV)) (kv : List KV) (v : VV) (s : List VV) (h : ae) (Q : Pst), i + r = n -> to <= 252 -> kv.length = i -> NB g0 h 2 els v -> RowsE els kv -> s.length = 75 -> s.getD 0 .undef = u -> s.getD 5 .undef = v -> s.getD 6 .undef = vi .i64 to -> s.getD 24 .undef = vi .i64 n -> s.getD 25 .undef = vi .i64 i ->
   (∀ rest, Cu b r i to = some rest -> ∀ s' h' els' v', s'.length = 75 -> s'.getD 0 .undef = u -> s'.getD 5 .undef = v' -> NB g0 h' 2 els' v' -> RowsE els' (kv ++ rest) -> Q (.exit 1) ⟨s', h'⟩) ->
   (Cu b r i to = none -> ∀ s' h', s'.length = 75 -> s'.getD 2 .undef = vi .i64 0 -> s'.getD 3 .undef = ct -> s'.getD 4 .undef = vi .u16 11 -> HExt g0 h' -> Q .ret ⟨s', h'⟩) -> X F (.loop f82_3) ⟨s, h⟩ Q := by
 intro r
 induction r with
 | zero =>
  intro i to els kv v s h Q hi hto hkv hB hR hs h0 h5 h6 h24 h25 hE hN
  rw [ba, bi f82_3.eq_1]
  have c : ¬ (i : Int) < (n : Int) := by omega
  simp only [go_sem, seval, hs, h24, h25, c]
  rw [bi f82_0.eq_1]
  simp only [go_sem, seval, hs]
  exact hE [] rfl _ _ els v (by simp only [ah, hs]) (by simp only [go_sem, seval, h0]) (by simp only [go_sem, seval, h5]) hB (by rw [List.append_nil]; exact hR)
 | succ r ih =>
  intro i to els kv v s h Q hi hto hkv hB hR hs h0 h5 h6 h24 h25 hE hN
  rw [ba, bi f82_3.eq_1]
  have c : (i : Int) < (n : Int) := by omega
  have hw : IntKind.i64.wrap ((i : Int) + 1) = ((i + 1 : Nat) : Int) := by rw [IntWalk.i64_in _ (by omega)]; omega
  have e2 : IntKind.i64.wrap (2 + (i : Int)) = ((2 + i : Nat) : Int) := by rw [IntWalk.i64_in _ (by omega)]; omega
  simp only [go_sem, seval, hs, h24, h25, c]
  rw [bi f82_0.eq_1]
  simp only [go_sem, seval, hs, h25]
  rw [bi f82_1.eq_1]
  by_cases c1 : (to : Int) <= ((2 + i : Nat) : Int)
  ·simp only [go_sem, seval, hs, h6, e2, ge_iff_le, c1]
   refine hN (by simp only [Cu]; rw [if_pos (by omega)]) _ _ (by simp only [ah, hs]) (by simp only [go_sem, seval, hs]) (by simp only [go_sem, seval, hs]) (by simp only [go_sem, seval, hs]) hB.ext
  ·have c1' : ¬ to <= 2 + i := by omega
   have hlt : 2 + i < b.length := by omega
   have hia := hu.ia (h := h) (k := .i64) (j := ((2 + i : Nat) : Int)) (by omega) (yo (List.getElem?_eq_getElem hlt))
   have hbd : b.getD (2 + i) 0 = b[2 + i] := by rw [List.getD_eq_getElem?_getD, List.getElem?_eq_getElem hlt]; rfl
   have hdec := Su (b := b) (n := r) c1'
   have hx8 := (b[2 + i]).toNat_lt
   have ew : IntKind.i64.wrap ((b[2 + i].toNat : Nat) : Int) = ((b[2 + i].toNat : Nat) : Int) := IntWalk.i64_in _ (by omega)
   rw [hbd] at hdec
   obtain ⟨v25, g25, n25, e, r25, ⟨x1, x2, rfl⟩, hp⟩ := Zh hu (by omega) (a := b[2 + i].toNat) (to := to) (by omega) (by omega)
   generalize ha : b[2 + i].toNat = a at *
   simp only [go_sem, seval, hs, h0, h6, e2, ge_iff_le, c1, hia, br, ha, ew]
   refine ap (h1 := h) (by simp only [List.map, go_sem, seval, hs]; exact hu.clos rfl) n25 r25 ?_
   simp only [go_sem, seval, hs, List.map]
   rw [bi f82_2.eq_1]
   cases hL : rg b a to with
   | none =>
    rw [hL] at hdec
    simp only [go_sem, seval, hs, Option.isSome_none]
    exact hN hdec _ _ (by simp only [ah, hs]) (by simp only [go_sem, seval, hs]) (by simp only [go_sem, seval, hs]) (by simp only [go_sem, seval, hs]) (hB.ext.then _)
   | some p =>
    rw [hL] at hdec
    have he := hp p hL
    have hto' : a <= 252 := by
     unfold rg at hL
     split at hL
     ·cases hL
     ·omega
    have q1 : (h ++ [VO.box [.cv x1, .cv x2] false])[h.length]? = some (.box [.cv x1, .cv x2] false) := bp
    have B1 := hB.then (HExt.push h (VO.box [.cv x1, .cv x2] false))
    simp only [go_sem, seval, hs, h5, Option.isSome_some]
    have hlen := hR.len
    refine nl B1 (new := [[x1, x2]]) (by simp only [go_sem, seval, hs]) (by simp only [go_sem, seval, hs]) (by simp only [List.length_singleton]; omega) (by simp only [List.length_singleton]; omega) (fun v' h' B' _ _ _ => ?_)
    simp only [go_sem, seval, hs, h25, hw]
    rw [he] at B'
    refine ih (i + 1) a _ (kv ++ [p]) v' _ h' Q (by omega) hto' (by simp; omega) B' (NB.snoc (h0 := []) (h := []) (v := .undef) hR p) (by simp only [ah, hs]) (by simp only [go_sem, seval, h0]) (by simp only [go_sem, seval, hs]) (by simp only [go_sem, seval, hs]) (by simp only [go_sem, seval, h24]) (by simp only [go_sem, seval, hs])
     (fun rest hr s' h' els' v' a1 a0 a5 B2 R2 => hE (p :: rest) (by rw [hdec, hr]; rfl) s' h' els' v' a1 a0 a5 B2 (by rw [List.append_assoc] at R2; exact R2)) (fun hr s' h' a1 a2 a3 a4 a5 => hN (by rw [hdec, hr]; rfl) s' h' a1 a2 a3 a4 a5)
def akz (b : List UInt8) (w : VV) (k : IntKind) : Prop := ∃ els x, w = .tup [vi .i64 (wr b).1, x, vi k (wr b).2.2] /\ SlV 2 els x /\ RowsE els (wr b).2.1
theorem ami.pure {b : Option (List UInt8)} {v : VV} {h' : ae} (h : ami [] b v h') : ∃ w, au h' v = some (.tup [w, vb b.isSome]) /\ ∀ c, b = some c -> SlV 1 (eB c) w := by
 cases b with
 | none =>
  have : v = .tup [ct, vb false] := h
  subst this
  exact ⟨ct, rfl, fun c hc => by cases hc⟩
 | some c =>
  obtain ⟨w, rfl, B⟩ := h
  obtain ⟨x, h1, e1, e2⟩ := B.clos
  refine ⟨x, ?_, fun c' hc => by grind⟩
  have : cf h' [w, vb true] = some ([x, vb true], h1) := bf e1 rfl
  simp only [au, this, Option.map_some, Option.isSome_some]
theorem Qw {b : List UInt8} {u : VV} (hu : SlV 1 (eB b) u) (hb : b.length <= 1000000) : Er F 82 [u] fun w => akz b w .u16 := by
 have : Ret F 82 [u] [] fun v h' => ∃ w, au h' v = some w /\ akz b w .u16 := by
  refine eE1 (fn := f82) (n := 75) rfl rfl fun s hs h0 => ?_
  simp only [f82]
  have no : ∀ (e : Nat), wr b = (0, [], e) -> akz b (.tup [vi .i64 0, ct, vi .u16 e]) .u16 := fun e he => ⟨[], ct, by rw [he]; rfl, .inl ⟨rfl, rfl⟩, by rw [he]; exact RowsE.nil⟩
  have fin : ∀ (s' : List VV) (h' : ae) (e : Nat), s'.length = 75 -> s'.getD 2 .undef = vi .i64 0 -> s'.getD 3 .undef = ct -> s'.getD 4 .undef = vi .u16 e -> wr b = (0, [], e) -> RQ [.t 2, .t 3, .t 4] (fun v h' => ∃ w, au h' v = some w /\ akz b w .u16) .ret ⟨s', h'⟩ := by
   intro s' h' e a1 a2 a3 a4 he
   simp only [go_sem, seval, a1, a2, a3, a4]
   exact ⟨_, rfl, no e he⟩
  by_cases c1 : (b.length : Int) = 256
  ·have c1' : b.length = 256 := by omega
   obtain ⟨v24, h24, n24, rfl⟩ := Tq hu (by omega)
   simp only [go_sem, seval, hs, h0, hu.ln, ax, eq_true c1, ne_eq, not_true_eq_false]
   refine ap (h1 := []) (by simp only [List.map, go_sem, seval, hs]; exact hu.clos rfl) n24 rfl ?_
   cases hr : Cy b with
   | false =>
    simp only [go_sem, seval, hs]
    exact ⟨_, rfl, no 12 (by unfold wr; rw [if_neg (by rw [c1']; simp), hr, if_pos rfl])⟩
   | true =>
    have g1 : (1 : Nat) < b.length := by omega
    have g0 : (0 : Nat) < b.length := by omega
    have hia1 : iaO [] 1 u (vi .i64 1) = some (.rptr (br b[1]), []) := hu.ia (h := []) (k := .i64) (j := ((1 : Nat) : Int)) (by omega) (yo (List.getElem?_eq_getElem g1))
    have hia0 : ∀ h : ae, iaO h 1 u (vi .i64 0) = some (.rptr (br b[0]), h) := fun h => hu.ia (h := h) (k := .i64) (j := ((0 : Nat) : Int)) (by omega) (yo (List.getElem?_eq_getElem g0))
    have b1 : b.getD 1 0 = b[1] := by rw [List.getD_eq_getElem?_getD, List.getElem?_eq_getElem g1]; rfl
    have b0 : b.getD 0 0 = b[0] := by rw [List.getD_eq_getElem?_getD, List.getElem?_eq_getElem g0]; rfl
    have x1 := (b[1]).toNat_lt
    have x0 := (b[0]).toNat_lt
    have w1 : IntKind.i64.wrap (b[1].toNat : Int) = (b[1].toNat : Int) := IntWalk.i64_in _ (by omega)
    have w0 : IntKind.i64.wrap (b[0].toNat : Int) = (b[0].toNat : Int) := IntWalk.i64_in _ (by omega)
    have hdF : wr b = match Cu b b[1].toNat 0 252 with | none => (0, [], 11) | some l => if Yg (b[0].toNat : Int) l = some b then (b[0].toNat, l, 0) else (0, [], 11) := by
     unfold wr
     rw [if_neg (by rw [c1']; simp), hr, if_neg (by simp), b1, b0]
     all_goals (cases Cu b b[1].toNat 0 252 <;> rfl)
    simp only [go_sem, Nat.reduceLT, Nat.reduceEqDiff, reduceCtorEq, Int.reduceLT, Int.reduceEq, hs, h0, hia1, br, w1]
    refine f82_loop hu c1' (n := b[1].toNat) (by omega) (g0 := []) b[1].toNat 0 252 [] [] ct _ _ _ (by omega) (by omega) rfl (NB.nil _ _) RowsE.nil (by simp only [ah, hs]) (by simp only [go_sem, Nat.reduceLT, Nat.reduceEqDiff, reduceCtorEq, Int.reduceLT, Int.reduceEq, h0]) (by simp only [go_sem, Nat.reduceLT, Nat.reduceEqDiff, reduceCtorEq, Int.reduceLT, Int.reduceEq, hs]) (by simp only [go_sem, Nat.reduceLT, Nat.reduceEqDiff, reduceCtorEq, Int.reduceLT, Int.reduceEq, hs]; rfl) (by simp only [go_sem, Nat.reduceLT, Nat.reduceEqDiff, reduceCtorEq, Int.reduceLT, Int.reduceEq, hs]) (by simp only [go_sem, Nat.reduceLT, Nat.reduceEqDiff, reduceCtorEq, Int.reduceLT, Int.reduceEq, hs]; rfl)
     (fun rest hr2 s' h' els' v' a1 a0 a5 B R => ?_) (fun hr2 s' h' a1 a2 a3 a4 _ => ?_)
    ·replace hdF : wr b = if Yg (b[0].toNat : Int) rest = some b then (b[0].toNat, rest, 0) else (0, [], 11) := by rw [hdF, hr2]
     rw [List.nil_append] at R
     have hlen : rest.length <= 9223372036854775807 := by
      have : ∀ (n i to : Nat) (l : List KV), Cu b n i to = some l -> l.length = n := by
       intro n
       induction n with
       | zero => intro i to l h; simp only [Cu] at h; cases h; rfl
       | succ n ih =>
        intro i to l h
        simp only [Cu] at h
        split at h
        ·cases h
        ·split at h
         ·cases h
         ·cases hd : Cu b n (i + 1) (b.getD (2 + i) 0).toNat with
          | none => rw [hd] at h; cases h
          | some l' => rw [hd] at h; cases h; simp [ih _ _ _ hd]
      have := this _ _ _ _ hr2; omega
     obtain ⟨x, h1, e1, e2⟩ := B.clos
     obtain ⟨v10, h10, n10, P10⟩ := Dt [] (b[0].toNat : Int) e2 R hlen
     obtain ⟨y, r10, hy⟩ := P10.pure
     simp only [go_sem, seval, a1, a0, a5, hia0, br, w0]
     have ec : cf h' [vi .i64 (b[0].toNat : Int), v'] = some ([vi .i64 (b[0].toNat : Int), x], h1) := bf rfl (by simp only [cf, e1])
     refine ap (h1 := h1) (by simp only [List.map, go_sem, seval, a1]; exact ec) n10 r10 ?_
     have B1 : gi h1 2 v' = some els' /\ ∃ z, gc h1 v' = some (z, h1) /\ SlV 2 els' z := by
      rcases B.v with ⟨rfl, rfl⟩ | ⟨id, g, _, rfl, a4⟩
      ·simp [gc, Go.Vm.clos] at e1
       exact ⟨rfl, ct, rfl, .inl ⟨rfl, rfl⟩⟩
      ·simp [gc, Go.Vm.clos, a4] at e1
       obtain ⟨_, rfl⟩ := e1
       have hg : (h'.set id (VO.arr 2 els' g true))[id]? = some (.arr 2 els' g true) := by rw [List.getElem?_set_self (ev a4)]
       refine ⟨by simp [gi, hg], .cv (.sl 2 els' false), ?_, .inr ⟨false, rfl⟩⟩
       simp [gc, Go.Vm.clos, hg]
     obtain ⟨z, ez, hz⟩ := B1.2
     have e12 : au h1 (.tup [vi .i64 (b[0].toNat : Int), v', vi .u16 0]) = some (.tup [vi .i64 (b[0].toNat : Int), z, vi .u16 0]) := by
      have : cf h1 [vi .i64 (b[0].toNat : Int), v', vi .u16 0] = some ([vi .i64 (b[0].toNat : Int), z, vi .u16 0], h1) := bf rfl (bf ez rfl)
      simp only [au, this, Option.map_some]
     cases hE : Yg (b[0].toNat : Int) rest with
     | none =>
      rw [hE] at hdF
      simp only [go_sem, seval, a1, Option.isSome_none]
      exact ⟨_, rfl, no 11 (by rw [hdF]; simp)⟩
     | some c =>
      have hS := hy c hE
      have n26 := rm hS hu
      rw [hE] at hdF
      simp only [go_sem, seval, a1, a0, Option.isSome_some]
      refine ap (h1 := h1) (by simp only [List.map, go_sem, seval, a1]; exact hS.clos (hu.clos rfl)) n26 rfl ?_
      by_cases hc : c = b
      ·rw [hc] at hdF
       rw [if_pos rfl] at hdF
       simp only [go_sem, seval, a1, a0, a5, hc, hia0, br, w0]
       exact ⟨_, e12, els', z, by rw [hdF]; rfl, hz, by rw [hdF]; exact R⟩
      ·have hc' : ¬ some c = some b := fun e => hc (by cases e; rfl)
       rw [if_neg hc'] at hdF
       simp only [go_sem, seval, a1, hc]
       exact ⟨_, rfl, no 11 hdF⟩
    ·rw [hr2] at hdF
     simp only [go_sem, seval, a1, a2, a3, a4]
     exact ⟨_, rfl, no 11 hdF⟩
  ·simp only [go_sem, seval, hs, h0, hu.ln, ax, c1]
   exact ⟨_, rfl, no 11 (by unfold wr; rw [if_pos (by omega)])⟩
 exact this
open Go Go.Vm
theorem Zx : ∀ {b : List UInt8} (n i to : Nat) (l : List KV), Cu b n i to = some l -> l.length = n := by
 intro b n
 induction n with
 | zero => intro i to l h; simp only [Cu] at h; cases h; rfl
 | succ n ih =>
  intro i to l h
  simp only [Cu] at h
  split at h
  ·cases h
  ·split at h
   ·cases h
   ·cases hd : Cu b n (i + 1) (b.getD (2 + i) 0).toNat with
    | none => grind
    | some l' => grind
theorem ahq {a b : List UInt8} : kt .leq (txt a) (txt b) = some (vb (Op.bytesLess a b || a == b)) := rfl
open Go Go.Vm
def ko : List KV -> Bool
 | a :: b :: r => !(Cv b.1 a.1) && ko (b :: r)
 | _ => true
theorem ab1 {kv : List KV} {k : Nat} {p q : KV} (hk : 1 <= k) (hp : kv[k - 1]? = some p) (hq : kv[k]? = some q) : ko (kv.drop (k - 1)) = (!(Cv q.1 p.1) && ko (kv.drop k)) := by
 have e1 := Bz hp
 have e2 := Bz hq
 have e : k - 1 + 1 = k := by omega
 rw [e] at e1
 rw [e1, e2, ko]
theorem afe {kv : List KV} {k : Nat} (hk : kv.length <= k + 1) : ko (kv.drop k) = true := by
 have : (kv.drop k).length <= 1 := by grind
 match kv.drop k, this with
 | [], _ => rfl
 | [_], _ => rfl
theorem f78_loop {els : List (List CV)} {kv : List KV} {u : VV} {h : ae} (hS : SlV 2 els u) (hR : RowsE els kv) (hn : kv.length <= 9223372036854775807) :
  ∀ (r k : Nat) (s : List VV) (Q : Pst), 1 <= k -> k + r = kv.length -> s.length = 26 -> s.getD 0 .undef = u -> s.getD 5 .undef = vi .i64 kv.length -> s.getD 6 .undef = vi .i64 k ->
   (ko (kv.drop (k - 1)) = true -> ∀ s', s'.length = 26 -> Q (.exit 0) ⟨s', h⟩) -> (ko (kv.drop (k - 1)) = false -> ∀ s', s'.length = 26 -> s'.getD 2 .undef = vb false -> Q .ret ⟨s', h⟩) -> X F (.loop f78_1) ⟨s, h⟩ Q := by
 intro r
 induction r with
 | zero =>
  intro k s Q hk1 hk hs h0 h5 h6 hE hQ
  rw [ba, bi f78_1.eq_1]
  have c : ¬ (k : Int) < (kv.length : Int) := by omega
  simp only [go_sem, seval, hs, h5, h6, c]
  rw [bi f78_0.eq_1]
  simp only [go_sem, seval, hs]
  exact hE (afe (by omega)) _ (by grind)
 | succ r ih =>
  intro k s Q hk1 hk hs h0 h5 h6 hE hQ
  obtain ⟨e, p, he, hp, c, rfl, hc⟩ := hR.get (i := k) (by omega)
  obtain ⟨e', p', he', hp', c', rfl, hc'⟩ := hR.get (i := k - 1) (by omega)
  have hst := ab1 hk1 hp' hp
  rw [ba, bi f78_1.eq_1]
  have c1 : (k : Int) < (kv.length : Int) := by omega
  have c2 : (0 : Int) < (k : Int) := by omega
  have hw : IntKind.i64.wrap ((k : Int) + 1) = ((k + 1 : Nat) : Int) := by rw [IntWalk.i64_in _ (by omega)]; omega
  have hw2 : IntKind.i64.wrap ((k : Int) - 1) = ((k - 1 : Nat) : Int) := by rw [IntWalk.i64_in _ (by omega)]; omega
  have hia := hS.ia (h := h) (k := .i64) (j := (k : Int)) (by omega) he
  have hia2 := hS.ia (h := h) (k := .i64) (j := ((k - 1 : Nat) : Int)) (by omega) he'
  simp only [go_sem, seval, hs, h5, h6, c1]
  rw [bi f78_0.eq_1]
  simp only [go_sem, seval, hs, h6]
  refine nv rfl ?_
  simp only [go_sem, seval, hs, h0, gt_iff_lt, c2, hw2, hia, hia2, ahq]
  cases hb : (Op.bytesLess p.1 p'.1 || p.1 == p'.1) with
  | true =>
   simp only [go_sem, seval, hs]
   have : Cv p.1 p'.1 = true := hb
   simp_all
  | false =>
   simp only [go_sem, seval, hs, h6, hw]
   have : Cv p.1 p'.1 = false := hb
   rw [this] at hst
   simp only [Bool.not_false, Bool.true_and] at hst
   refine ih (k + 1) _ Q (by omega) (by omega) (by simp_all) (by simp_all) (by simp_all) (by simp_all) (fun hh => hE (by grind)) (fun hh => hQ (by grind))
theorem Re {els : List (List CV)} {kv : List KV} {u : VV} (hS : SlV 2 els u) (hR : RowsE els kv) (hn : kv.length <= 9223372036854775807) : ∃ h', call F 78 [u] [] = some (.ret (vb (ko kv)), h') := by
 have : Ret F 78 [u] [] fun v h' => v = vb (ko kv) := by
  refine bc (fn := f78) rfl ?_
  simp only [f78]
  generalize hs0 : ([u] ++ List.replicate _ VV.undef : List VV) = s
  have hs : s.length = 26 := by grind
  have h0 : s.getD 0 .undef = u := by grind
  clear hs0
  have hl := hR.len
  simp only [go_sem, seval, hs, h0, hS.ln, hl]
  cases kv with
  | nil =>
   rw [ba, bi f78_1.eq_1]
   have c : ¬ (0 : Int) < ((([] : List KV).length : Nat) : Int) := by simp
   simp only [go_sem, seval, hs, c]
   rw [bi f78_0.eq_1]
   simp only [go_sem, seval, hs]
   rfl
  | cons p kv =>
   rw [ba, bi f78_1.eq_1]
   have c : (0 : Int) < (((p :: kv).length : Nat) : Int) := by grind
   have c0 : ¬ (0 : Int) < 0 := by decide
   have hw : IntKind.i64.wrap ((0 : Int) + 1) = ((1 : Nat) : Int) := by decide
   simp only [go_sem, seval, hs, c]
   rw [bi f78_0.eq_1]
   simp only [go_sem, seval, hs]
   refine nv rfl ?_
   simp only [go_sem, Nat.reduceLT, Nat.reduceEqDiff, reduceCtorEq, Int.reduceLT, Int.reduceEq, hs, gt_iff_lt, c0, hw]
   refine f78_loop hS hR hn kv.length 1 _ _ (by omega) (by simp; omega) (by simp_all) (by simp_all) (by simp_all) (by simp_all) (fun hh s' a1 => ?_) (fun hh s' a1 a2 => ?_)
   ·simp only [go_sem, seval, a1]
    grind
   ·simp only [go_sem, seval, a1, a2]
    grind
 obtain ⟨v, h', e1, rfl⟩ := this
 grind
open Go Go.Vm
theorem ahe (b : List UInt8) : (wr b).2.2 <= 12 /\ (wr b).1 <= 255 := by
 unfold wr
 split
 ·simp
 ·split
  ·simp
  ·split
   ·simp
   ·split
    ·have := (b.getD 0 0).toNat_lt
     grind
    ·simp
theorem abo (b : List UInt8) : (wr b).2.1.length <= 255 := by
 unfold wr
 split
 ·simp
 ·split
  ·simp
  ·split
   ·simp
   ·rename_i l hl
    have := Zx _ _ _ _ hl
    have h2 := (b.getD 1 0).toNat_lt
    grind
open Go Go.Vm
theorem Bw {els : List (List CV)} {kv : List KV} (hR : RowsE els kv) (n : Nat) : RowsE (els.take n) (kv.take n) := by
 induction hR generalizing n with
 | nil => simp; exact .nil
 | cons h _ ih =>
  cases n with
  | zero => exact .nil
  | succ n => exact .cons h (ih n)
open Go Go.Vm
theorem adq (id : Nat) : F (YB + id) = none := by
 cases h : F (YB + id) with
 | none => rfl
 | some fn => have := tlt h; omega
def wq : List KV -> List UInt8
 | [] => []
 | p :: _ => p.1
def nd : Nat -> List (List KV) -> List KV
 | _, [] => []
 | n, g :: r => (wq g, num (ka (n : Int))) :: nd (n + 1) r
theorem gf : ∀ (n : Nat) (gs : List (List KV)), (nd n gs).length = gs.length
 | _, [] => rfl
 | n, g :: r => by simp [nd, gf (n + 1) r]
theorem Be : ∀ (n : Nat) (gs : List (List KV)) (g : List KV), nd n (gs ++ [g]) = nd n gs ++ [(wq g, num (ka ((n + gs.length : Nat) : Int)))]
 | n, [], g => by simp [nd]
 | n, x :: gs, g => by
  simp only [List.cons_append, nd, Be (n + 1) gs g, List.length_cons]
  grind
def td (gs : List (List KV)) : Nat := (gs.map List.length).sum
theorem Kl (gs : List (List KV)) (g : List KV) : td (gs ++ [g]) = td gs + g.length := by simp [td]
inductive PgE : List (List CV) -> List (List UInt8) -> Prop
 | nil : PgE [] []
 | cons {c : CV} {b : List UInt8} {l : List (List CV)} {k : List (List UInt8)} (h : SlV 1 (eB b) (.cv c)) (t : PgE l k) : PgE ([c] :: l) (b :: k)
theorem PgE.len {l : List (List CV)} {k : List (List UInt8)} (h : PgE l k) : l.length = k.length := by
 induction h with
 | nil => rfl
 | cons _ _ ih => simp [ih]
theorem PgE.app {l m : List (List CV)} {k j : List (List UInt8)} (h : PgE l k) (h2 : PgE m j) : PgE (l ++ m) (k ++ j) := by
 induction h with
 | nil => exact h2
 | cons h _ ih => exact .cons h ih
theorem PgE.snoc {l : List (List CV)} {k : List (List UInt8)} (h : PgE l k) {c : CV} {b : List UInt8} (hc : SlV 1 (eB b) (.cv c)) : PgE (l ++ [[c]]) (k ++ [b]) := h.app (.cons hc .nil)
theorem PgE.get {l : List (List CV)} {k : List (List UInt8)} (h : PgE l k) {i : Nat} (hi : i < k.length) : ∃ c b, l[i]? = some [c] /\ k[i]? = some b /\ SlV 1 (eB b) (.cv c) := by
 induction h generalizing i with
 | nil => simp at hi
 | cons h t ih =>
  grind
structure LvB (tb N n : Nat) (pg0 : List (List UInt8)) (g : ae) (gs : List (List KV)) : Prop where
 i3 : g[N]? = some (.box [.ptr tb 0] false)
 i4 : g[N + 1]? = some (.box [vi .i64 n] false)
 i6 : g[N + 2]? = some (.box [ct] false)
 i7 : g[N + 3]? = some (.box [vb false] false)
 i8 : ∃ va elsA, g[N + 4]? = some (.box [va] false) /\ eu g 2 elsA va /\ RowsE elsA (nd pg0.length gs)
 i9 : g[N + 5]? = some (.box [vi .i64 (td gs : Nat)] false)
 it : ∃ vp elsP, g[tb]? = some (.box [vp] false) /\ eu g 1 elsP vp /\ PgE elsP (pg0 ++ gs.map (ga n))
theorem LvB.loop {tb N n : Nat} {pg0 : List (List UInt8)} {g : ae} {gs : List (List KV)} (L : LvB tb N n pg0 g gs) (htb : tb < N) {ps : List Nat} {a b : IR} {s : List VV} {t : LoopState} {p : Option Jmp} (ho : g[N + 7]? = some (.loop ps a b s t p)) (o : VO) : LvB tb N n pg0 (g.set (N + 7) o) gs := by
 obtain ⟨va, elsA, a1, a2, a3⟩ := L.i8
 obtain ⟨vp, elsP, b1, b2, b3⟩ := L.it
 have ne : ∀ {j : Nat}, j ≠ N + 7 -> (g.set (N + 7) o)[j]? = g[j]? := fun hj => List.getElem?_set_ne (fun e => hj e.symm)
 exact ⟨by rw [ne (by omega)]; exact L.i3, by rw [ne (by omega)]; exact L.i4, by rw [ne (by omega)]; exact L.i6, by rw [ne (by omega)]; exact L.i7, ⟨va, elsA, by grind, a2.setLoop ho o, a3⟩, by rw [ne (by omega)]; exact L.i9, ⟨vp, elsP, by grind, b2.setLoop ho o, b3⟩⟩
theorem aat {n : Nat} {gk : List KV} (hn : n <= 4) (hf : md 0 gk = gk.length) : Yg (n : Int) gk = some (ga n gk) := by
 unfold Yg
 grind
theorem Ky {tb N n : Nat} (htb : tb < N) (hn : n ≤ 4) {s0 : List VV} (hs0 : s0.length = 63) (k3 : s0.getD 3 .undef = .ptr N 0) (k4 : s0.getD 4 .undef = .ptr (N + 1) 0) (k6 : s0.getD 6 .undef = .ptr (N + 2) 0) (k7 : s0.getD 7 .undef = .ptr (N + 3) 0)
    (k8 : s0.getD 8 .undef = .ptr (N + 4) 0) (k9 : s0.getD 9 .undef = .ptr (N + 5) 0) {pg0 : List (List UInt8)} {g : ae} {gs : List (List KV)} (L : LvB tb N n pg0 g gs) {p0 : Option Jmp} (hp : g[N + 7]? = some (.loop [16] f79_0 f79_3 s0 .ready p0))
    {gv vl : VV} {elsg : List (List CV)} {gk : List KV} (hv : VZ g 2 elsg gv) (hR : RowsE elsg gk) (hfit : md 0 gk = gk.length) (hcnt : pg0.length + gs.length ≤ 1000000) (hsum : td gs + gk.length ≤ 1000000) (hlb : g[N + 6]? = some (.box [vl] false)) :
    ∃ h', call F (YB + (N + 7)) [gv] g = some (.ret (vb true), h') ∧ LvB tb N n pg0 h' (gs ++ [gk]) ∧ h'[N + 7]? = some (.loop [16] f79_0 f79_3 s0 .ready none) ∧ KZ g h' ∧ h'[N + 6]? = some (.box [vl] false) := by
  have key := Gs (F := F) (id := N + 7) (adq _) (ps := [16]) (asg := f79_0) (body := f79_3) (s0 := s0) (a := [gv]) (h := g) (P := fun v h' => v = vb true ∧ LvB tb N n pg0 h' (gs ++ [gk]) ∧ h'[N + 7]? = some (.loop [16] f79_0 f79_3 s0 .ready none) ∧ KZ g h' ∧ h'[N + 6]? = some (.box [vl] false)) hp rfl ?_
  · obtain ⟨v, h', e1, rfl, e2⟩ := key
    exact ⟨h', e1, e2⟩
  have hset : tq s0 [16] [gv] = s0.set 16 gv := rfl
  rw [hset, bi f79_0.eq_1]
  simp only [go_sem, seval, hs0]
  refine ⟨rfl, p0, hp, ?_⟩
  dsimp only
  have Lb := L.loop htb hp (.loop [16] f79_0 f79_3 s0 .busy p0)
  have hp1 : (g.set (N + 7) (.loop [16] f79_0 f79_3 s0 .busy p0))[N + 7]? = some (.loop [16] f79_0 f79_3 s0 .busy p0) := List.getElem?_set_self (ev hp)
  have kz1 := KZ.setLoop g hp (.loop [16] f79_0 f79_3 s0 .busy p0)
  have hv1 := hv.kz kz1
  have hlb1 : (g.set (N + 7) (.loop [16] f79_0 f79_3 s0 .busy p0))[N + 6]? = some (.box [vl] false) := by rw [List.getElem?_set_ne (by omega)]; exact hlb
  generalize g.set (N + 7) (.loop [16] f79_0 f79_3 s0 .busy p0) = g1 at Lb hp1 kz1 hv1 hlb1
  obtain ⟨va, elsA, a1, a2, a3⟩ := Lb.i8
  obtain ⟨vp, elsP, b1, b2, b3⟩ := Lb.it
  have hl := hR.len
  obtain ⟨w, w1, w2⟩ := hv1.clos
  obtain ⟨v32, h32, n32, P32⟩ := Dt [] (n : Int) w2 hR (by omega)
  obtain ⟨y, r32, hy⟩ := P32.pure
  rw [aat hn hfit] at r32 hy
  have hy' := hy _ rfl
  obtain ⟨cy, rfl⟩ : ∃ cy, y = .cv cy := by rcases hy' with ⟨rfl, _⟩ | ⟨ex, rfl⟩ <;> exact ⟨_, rfl⟩
  have hpl := b3.len
  rw [List.length_append, List.length_map] at hpl
  obtain ⟨v33, h33, n33, r33⟩ := Yl ((pg0.length + gs.length : Nat) : Int)
  rw [bi f79_3.eq_1]
  simp only [go_sem, seval, hs0, k4, iu Lb.i4]
  refine ap (h1 := g1) (by simp only [List.map, go_sem, seval, hs0]; exact eh (bf w1 rfl)) n32 r32 ?_
  simp only [go_sem, seval, hs0]
  rw [bi f79_1.eq_1]
  simp only [go_sem, seval, hs0, Option.isSome_some, k3, iu Lb.i3, iu b1, b2.vf.ln, hpl]
  refine ap (h1 := g1) (by simp only [List.map, go_sem, seval, hs0]; exact eh rfl) n33 r33 ?_
  have bd : ∀ c : CV, bdO [.cv (.sc (.string ⟨#[]⟩)), .cv (.sc (.slice none 0 0))] [(1, 1, .cv c)] = some (.agg [.cv (.sc (.string ⟨#[]⟩)), .cv c]) := fun c => rfl
  simp only [go_sem, seval, hs0, bd]
  -- the row's box
  have q0 : (g1 ++ [VO.box [.cv (.sc (.string ⟨#[]⟩)), .cv (.sl 1 (eB (num (ka ((pg0.length + gs.length : Nat) : Int)))) false)] false])[g1.length]? = some (.box [txt [], .cv (.sl 1 (eB (num (ka ((pg0.length + gs.length : Nat) : Int)))) false)] false) := bp
  have x0 := HExt.push g1 (VO.box [.cv (.sc (.string ⟨#[]⟩)), .cv (.sl 1 (eB (num (ka ((pg0.length + gs.length : Nat) : Int)))) false)] false)
  have hB7 : N + 7 < g1.length := ev hp1
  generalize hcn : (CV.sl 1 (eB (num (ka ((pg0.length + gs.length : Nat) : Int)))) false) = cn at *
  have hcnS : SlV 1 (eB (num (ka ((pg0.length + gs.length : Nat) : Int)))) (.cv cn) := by rw [← hcn]; exact .inr ⟨false, rfl⟩
  generalize g1 ++ [VO.box [.cv (.sc (.string ⟨#[]⟩)), .cv cn] false] = g2 at q0 x0
  generalize hB : g1.length = nB at *
  have hv2 := hv1.kz x0.kz
  -- behind the key
  have fin : ∀ (s : List VV) (g3 : ae), s.length = 63 → s.getD 3 .undef = .ptr N 0 → s.getD 8 .undef = .ptr (N + 4) 0 → s.getD 9 .undef = .ptr (N + 5) 0 → s.getD 10 .undef = gv → s.getD 11 .undef = .cv cy → s.getD 13 .undef = .ptr nB 0 →
      g3[nB]? = some (.box [txt (wq gk), .cv cn] false) → (∀ j, j < nB → g3[j]? = g1[j]?) → KZ g1 g3 → eu g3 2 elsA va → eu g3 1 elsP vp → X F (.draw [(
  ⟨none, (some 40), (.ld false 1 (.t 3))⟩, (.r 0 3)), (
  ⟨none, (some 41), (.ld false 1 (.t 8))⟩, (.r 0 0)), (
  ⟨none, (some 42), (.ld true 2 (.t 13))⟩, (.r 0 0)), (
  ⟨none, (some 43), (.mksl 2 1 [(.cv (.sc (.string ⟨#[]⟩))), (.cv (.sc (.slice none 0 0)))] [(0, (2, (.t 42)))] false)⟩, (.r 0 0)), (
  ⟨none, (some 44), (.app 2 40 [(.sc (.string ⟨#[]⟩)), (.sc (.slice none 0 0))] (.t 41) (.t 43))⟩, .k), (
  ⟨none, (some 45), (.ld false 1 (.t 3))⟩, (.r 0 1)), (
  ⟨none, (some 46), (.nilck (.t 45))⟩, .p), (
  ⟨none, (some 47), (.fad 0 (.t 46))⟩, .p), (
  ⟨none, (some 48), (.ld false 1 (.t 47))⟩, (.r 0 1)), (
  ⟨none, (some 49), (.mv (.t 11))⟩, .p), (
  ⟨none, (some 50), (.mksl 1 1 [(.cv (.sc (.slice none 0 0)))] [(0, (1, (.t 49)))] false)⟩, (.r 0 1)), (
  ⟨none, (some 51), (.app 1 24 [(.sc (.slice none 0 0))] (.t 48) (.t 50))⟩, .k), (
  ⟨none, none, (.st 1 (.t 8) (.t 44))⟩, .k), (
  ⟨none, (some 52), (.nilck (.t 40))⟩, .p), (
  ⟨none, (some 53), (.fad 0 (.t 52))⟩, .p), (
  ⟨none, none, (.st 1 (.t 53) (.t 51))⟩, .k)]) ⟨s, g3⟩ (K F (.reg [
  ⟨none, (some 54), (.ld false 1 (.t 9))⟩,
  ⟨none, (some 55), (.mv (.t 10))⟩,
  ⟨none, (some 56), (.len false (.t 55))⟩,
  ⟨none, (some 57), (.bin .add (.t 54) (.t 56))⟩,
  ⟨none, none, (.st 1 (.t 9) (.t 57))⟩]) (B 1 (RB (N + 7) [16] f79_0 f79_3 s0 fun v h' => v = vb true ∧ LvB tb N n pg0 h' (gs ++ [gk]) ∧ h'[N + 7]? = some (.loop [16] f79_0 f79_3 s0 .ready none) ∧ KZ g h' ∧ h'[N + 6]? = some (.box [vl] false)))) := by
    intro s g3 hs h3 h8 h9 h10 h11 h13 qB same kz3 A3 P3
    have j3 : g3[N]? = some (.box [.ptr tb 0] false) := by rw [same N (by omega)]; exact Lb.i3
    have jt : g3[tb]? = some (.box [vp] false) := by rw [same tb (by omega)]; exact b1
    have j8 : g3[N + 4]? = some (.box [va] false) := by rw [same (N + 4) (by omega)]; exact a1
    have hAl := a3.len
    rw [gf] at hAl
    have hmk2 : ∀ h : ae, mkO h 2 1 [.cv (.sc (.string ⟨#[]⟩)), .cv (.sc (.slice none 0 0))] [(0, 2, .agg [txt (wq gk), .cv cn])] = some (.cv (.sl 2 [[.sc (.string ⟨(wq gk).toArray⟩), cn]] true), h) := fun h => Lu
    have hmk1 : ∀ h : ae, mkO h 1 1 [.cv (.sc (.slice none 0 0))] [(0, 1, .cv cy)] = some (.cv (.sl 1 [[cy]] true), h) := fun h => rfl
    refine qy 13 (fun g => g[N]? = some (.box [.ptr tb 0] false) ∧ g[tb]? = some (.box [vp] false)) ⟨j3, jt⟩ rfl rfl ?_
    simp only [List.take_succ_cons, List.take_zero]
    refine ox (v := .ptr tb 0) rfl ⟨j3, jt⟩ (fun g hg => by rw [ki]; simp only [go_sem, seval, hs, h3]; exact bg hg.1 rfl) ?_
    refine tz (v := va) rfl (by rw [ki]; simp only [go_sem, seval, hs, h8]; exact bg j8 rfl) ?_
    refine tz (v := .agg [txt (wq gk), .cv cn]) rfl (by rw [ki]; simp only [go_sem, seval, hs, h13]; exact Bg qB rfl) ?_
    refine tz (v := .cv (.sl 2 [[.sc (.string ⟨(wq gk).toArray⟩), cn]] true)) rfl (by rw [xj]; simp only [go_sem, seval, hs, hmk2]) ?_
    simp only [oi]
    have hx44 : ∀ s' : List VV, s'.getD 41 .undef = va → s'.getD 43 .undef = .cv (.sl 2 [[.sc (.string ⟨(wq gk).toArray⟩), cn]] true) → ∃ v' h', ai g3 (ad s') (.app 2 40 [(.sc (.string ⟨#[]⟩)), (.sc (.slice none 0 0))] (.t 41) (.t 43)) = some (v', h') ∧ eu h' 2 (elsA ++ [[.sc (.string ⟨(wq gk).toArray⟩), cn]]) v' ∧ KG 2 g3 h' := by
      intro s' e1 e2
      exact Tn A3 (by simp only [Nd, e1]) (by simp only [Nd, e2, Tg]) (by simp only [List.length_singleton]; omega) (by simp only [List.length_singleton]; omega)
    obtain ⟨va', g4, e44, A4, kg4⟩ := hx44 ((((s.set 40 (.ptr tb 0)).set 41 va).set 42 (.agg [txt (wq gk), .cv cn])).set 43 (.cv (.sl 2 [[.sc (.string ⟨(wq gk).toArray⟩), cn]] true))) (by simp only [go_sem, seval, hs]) (by simp only [go_sem, seval, hs])
    have l3 := kg4.box j3
    have lt := kg4.box jt
    refine Ay (v := va') (h' := g4) rfl e44 ⟨l3, lt⟩ ?_
    have P4 := P3.kg kg4 (by decide)
    refine ox (v := .ptr tb 0) rfl ⟨l3, lt⟩ (fun g hg => by rw [ki]; simp only [go_sem, seval, hs, h3]; exact bg hg.1 rfl) ?_
    refine pm (v := .ptr tb 0) rfl (by rw [zd]; simp only [go_sem, seval, hs]) ?_
    refine pm (v := .ptr tb 0) rfl (by rw [vm]; simp only [go_sem, seval, hs]) ?_
    refine ox (v := vp) rfl ⟨l3, lt⟩ (fun g hg => by rw [ki]; simp only [go_sem, seval, hs]; exact bg hg.2 rfl) ?_
    refine pm (v := .cv cy) rfl (by simp only [ai]; simp only [go_sem, seval, hs, h11]) ?_
    refine ox (v := .cv (.sl 1 [[cy]] true)) rfl ⟨l3, lt⟩ (fun g hg => by rw [xj]; simp only [go_sem, seval, hs, hmk1]) ?_
    simp only [oi]
    obtain ⟨vp', g5, e51, P5, kg5⟩ := Tn (by_ := 24) (zero := [(.sc (.slice none 0 0))]) (x := .t 48) (y := .t 50) (new := [[cy]]) (s := (((((((((((s.set 40 (.ptr tb 0)).set 41 va).set 42 (.agg [txt (wq gk), .cv cn])).set 43 (.cv (.sl 2 [[.sc (.string ⟨(wq gk).toArray⟩), cn]] true))).set 44 va').set 45 (.ptr tb 0)).set 46 (.ptr tb 0)).set 47 (.ptr tb 0)).set 48 vp).set 49 (.cv cy)).set 50 (.cv (.sl 1 [[cy]] true)))) P4 (by simp only [go_sem, seval, hs]) (by simp only [go_sem, seval, hs]) (by simp only [List.length_singleton]; omega) (by simp only [List.length_singleton]; omega)
    have m3 := kg5.box l3
    have mt := kg5.box lt
    have m8 := kg5.box (kg4.box j8)
    have A5 := A4.kg kg5 (by decide)
    refine Ay (v := vp') (h' := g5) rfl e51 ⟨m3, mt⟩ ?_
    simp only [oi]
    have st8 := Af (v := va') A5.vf_cell m8 (show 0 < 1 by decide)
    have o8 : (g5.set (N + 4) (.box [va'] false))[N + 4]? = some (.box [va'] false) := List.getElem?_set_self (ev m8)
    have o3 : (g5.set (N + 4) (.box [va'] false))[N]? = some (.box [.ptr tb 0] false) := by rw [List.getElem?_set_ne (by omega)]; exact m3
    have ot : (g5.set (N + 4) (.box [va'] false))[tb]? = some (.box [vp] false) := by rw [List.getElem?_set_ne (by omega)]; exact mt
    refine Ay (v := .undef) (h' := g5.set (N + 4) (.box [va'] false)) rfl (by show stO _ 1 _ _ = _; simp only [go_sem, seval, hs, h8]; exact st8) ⟨o3, ot⟩ ?_
    simp only [XDA, List.drop_succ_cons, List.drop_zero, Cj]
    have A6 := A5.setBox m8 (.box [va'] false)
    have P6 := P5.setBox m8 (.box [va'] false)
    have kz6 : KZ g (g5.set (N + 4) (.box [va'] false)) := (kz1.trans (kz3.trans (kg4.kz.trans kg5.kz))).trans (KZ.setBox g5 m8 _)
    have keep : ∀ j, j < nB → j ≠ N + 4 → ∀ o, g1[j]? = some o → (∀ e gg, o ≠ VO.arr 2 e gg false) → (∀ e gg, o ≠ VO.arr 1 e gg false) → (g5.set (N + 4) (.box [va'] false))[j]? = some o := by
      intro j hj hj4 o ho hn1 hn2
      rw [List.getElem?_set_ne (by omega)]
      exact kg5.2 j o (kg4.2 j o (by rw [same j hj]; exact ho) hn1) hn2
    have bx : ∀ j, j < nB → j ≠ N + 4 → ∀ cells, g1[j]? = some (.box cells false) → (g5.set (N + 4) (.box [va'] false))[j]? = some (.box cells false) := fun j hj hj4 cells ho => keep j hj hj4 _ ho (fun _ _ e => by cases e) (fun _ _ e => by cases e)
    have i4' := bx (N + 1) (by omega) (by omega) _ Lb.i4
    have i6' := bx (N + 2) (by omega) (by omega) _ Lb.i6
    have i7' := bx (N + 3) (by omega) (by omega) _ Lb.i7
    have i9' := bx (N + 5) (by omega) (by omega) _ Lb.i9
    have il' := bx (N + 6) (by omega) (by omega) _ hlb1
    have ip' := keep (N + 7) (by omega) (by omega) _ hp1 (fun _ _ e => by cases e) (fun _ _ e => by cases e)
    generalize g5.set (N + 4) (.box [va'] false) = g6 at *
    have stt := Af (v := vp') P6.vf_cell ot (show 0 < 1 by decide)
    have nt : ∀ {j : Nat}, j ≠ tb → (g6.set tb (.box [vp'] false))[j]? = g6[j]? := fun hj => List.getElem?_set_ne (fun e => hj e.symm)
    have st9 := Af (h := g6.set tb (.box [vp'] false)) (v := vi .i64 (td (gs ++ [gk]) : Nat)) rfl (by rw [nt (show N + 5 ≠ tb by omega)]; exact i9') (show 0 < 1 by decide)
    have hw : IntKind.i64.wrap (((td gs : Nat) : Int) + (elsg.length : Int)) = ((td (gs ++ [gk]) : Nat) : Int) := by
      rw [Kl, IntWalk.i64_in _ (by omega)]; omega
    have l9 : ldO (g6.set tb (.box [vp'] false)) false 1 (.ptr (N + 5) 0) = some (vi .i64 (td gs : Nat), g6.set tb (.box [vp'] false)) := bg (by rw [nt (by omega)]; exact i9') rfl
    simp only [List.set_cons_zero] at stt st9
    simp only [go_sem, seval, hs, stt, h9, l9, h10, hv2.vf.ln, hw, st9]
    refine ⟨none, .busy, p0, rfl, ?_, rfl, ?_, List.getElem?_set_self ?_, ?_, ?_⟩
    · rw [List.getElem?_set_ne (by omega), nt (by omega)]; exact ip'
    · refine LvB.loop (t := .busy) (p := p0) ?_ htb (by rw [List.getElem?_set_ne (by omega), nt (by omega)]; exact ip') _
      have P7 := (eu.setBox P6 ot (.box [vp'] false)).setBox (by rw [nt (show N + 5 ≠ tb by omega)]; exact i9') (.box [vi .i64 (td (gs ++ [gk]) : Nat)] false)
      have A7 := (eu.setBox A6 ot (.box [vp'] false)).setBox (by rw [nt (show N + 5 ≠ tb by omega)]; exact i9') (.box [vi .i64 (td (gs ++ [gk]) : Nat)] false)
      have n9 : ∀ {j : Nat}, j ≠ N + 5 → j ≠ tb → ((g6.set tb (.box [vp'] false)).set (N + 5) (.box [vi .i64 (td (gs ++ [gk]) : Nat)] false))[j]? = g6[j]? := fun h1 h2 => by rw [List.getElem?_set_ne (fun e => h1 e.symm), nt h2]
      refine ⟨by rw [n9 (by omega) (by omega)]; exact o3, by rw [n9 (by omega) (by omega)]; exact i4', by rw [n9 (by omega) (by omega)]; exact i6', by rw [n9 (by omega) (by omega)]; exact i7', ⟨va', _, by rw [n9 (by omega) (by omega)]; exact o8, A7, ?_⟩, List.getElem?_set_self (by rw [List.length_set]; exact ev i9'), ⟨vp', _, by rw [List.getElem?_set_ne (by omega)]; exact List.getElem?_set_self (ev ot), P7, ?_⟩⟩
      · rw [Be]
        exact a3.snoc ⟨cn, rfl, hcnS⟩
      · rw [List.map_append, ← List.append_assoc]
        exact b3.snoc hy'
    · rw [List.length_set, List.length_set]; exact ev ip'
    · refine (kz6.trans ((KZ.setBox g6 ot _).trans (KZ.setBox _ (i := N + 5) (by rw [nt (by omega)]; exact i9') _))).trans (KZ.setLoop _ (by rw [List.getElem?_set_ne (by omega), nt (by omega)]; exact ip') _)
    · rw [List.getElem?_set_ne (by omega), List.getElem?_set_ne (by omega), nt (by omega)]; exact il'
  rw [bi f79_2.eq_1]
  cases gk with
  | nil =>
    have he : elsg = [] := by cases hR; rfl
    have c : ¬ (0 : Int) < ((elsg.length : Nat) : Int) := by rw [he]; simp
    simp only [go_sem, seval, hs0, hv2.vf.ln, gt_iff_lt, c]
    exact fin _ g2 (by simp only [ah, hs0]) (by simp only [go_sem, seval, k3]) (by simp only [go_sem, seval, k8]) (by simp only [go_sem, seval, k9]) (by simp only [go_sem, seval, hs0]) (by simp only [go_sem, seval, hs0]) (by simp only [go_sem, seval, hs0]) q0 (fun j hj => x0.same j (by omega)) x0.kz (a2.hext x0) (b2.hext x0)
  | cons p gk =>
    obtain ⟨e, p', he, hp', c', rfl, hc'⟩ := hR.get (i := 0) (by simp)
    simp at hp'
    subst hp'
    have c : (0 : Int) < ((elsg.length : Nat) : Int) := by rw [hl, List.length_cons]; omega
    obtain ⟨q, q1, q2, q3, _⟩ := hv2.vf.cell (k := .i64) he
    obtain ⟨q', q4, q5⟩ := q3 0 _ rfl
    have q1' : iaO g2 2 gv (vi .i64 0) = some (q, g2) := q1
    have sB := Af (v := txt p.1) rfl q0 (show 0 < 2 by decide)
    simp only [List.set_cons_zero] at sB
    simp only [go_sem, seval, hs0, hv2.vf.ln, gt_iff_lt, c, q1', q4, q5, sB]
    exact fin _ (g2.set nB (.box [txt p.1, .cv cn] false)) (by simp only [ah, hs0]) (by simp only [go_sem, seval, k3]) (by simp only [go_sem, seval, k8]) (by simp only [go_sem, seval, k9]) (by simp only [go_sem, seval, hs0]) (by simp only [go_sem, seval, hs0]) (by simp only [go_sem, seval, hs0]) (List.getElem?_set_self (ev q0)) (fun j hj => by rw [List.getElem?_set_ne (by omega)]; exact x0.same j (by omega)) (x0.kz.trans (KZ.setBox g2 q0 _)) ((a2.hext x0).setBox q0 _) ((b2.hext x0).setBox q0 _)
open Go Go.Vm
def dx : Nat -> List KV -> List (List KV)
 | 0, _ => []
 | n + 1, l => l.take (md 0 l) :: (if md 0 l = 0 \/ md 0 l = l.length then [] else dx n (l.drop (md 0 l)))
def grp (l : List KV) : List (List KV) := dx (l.length + 1) l
theorem Ut {els : List (List CV)} {kv : List KV} (hR : RowsE els kv) (n : Nat) : RowsE (els.drop n) (kv.drop n) := by
 induction hR generalizing n with
 | nil => simp; exact .nil
 | cons h t ih =>
  cases n with
  | zero => exact .cons h t
  | succ n => exact ih n
theorem LvB.froze {tb N n : Nat} {pg0 : List (List UInt8)} {g g1 : ae} {gs : List (List KV)} (L : LvB tb N n pg0 g gs) (f : Froze g g1) {els : List (List CV)} {v : VV} (hz : gs = [] \/ VZ g 2 els v) (hb : ∀ z' elsB u, eu g z' elsB u -> (2 ≠ z' \/ elsB = [] \/ VZ g 2 els v) -> eu g1 z' elsB u) : LvB tb N n pg0 g1 gs := by
 obtain ⟨va, elsA, a1, a2, a3⟩ := L.i8
 obtain ⟨vp, elsP, b1, b2, b3⟩ := L.it
 refine ⟨f.box' L.i3, f.box' L.i4, f.box' L.i6, f.box' L.i7, ⟨va, elsA, f.box' a1, hb _ _ _ a2 ?_, a3⟩, f.box' L.i9, ⟨vp, elsP, f.box' b1, hb _ _ _ b2 (.inl (by decide)), b3⟩⟩
 rcases hz with rfl | hz
 ·refine .inr (.inl ?_)
  have := a3.len
  exact List.eq_nil_of_length_eq_zero this
 grind
theorem LvB.setLb {tb N n : Nat} {pg0 : List (List UInt8)} {g : ae} {gs : List (List KV)} (L : LvB tb N n pg0 g gs) (htb : tb < N) {cells : List VV} {fr : Bool} (hb : g[N + 6]? = some (.box cells fr)) (o : VO) : LvB tb N n pg0 (g.set (N + 6) o) gs := by
 obtain ⟨va, elsA, a1, a2, a3⟩ := L.i8
 obtain ⟨vp, elsP, b1, b2, b3⟩ := L.it
 have ne : ∀ {j : Nat}, j ≠ N + 6 -> (g.set (N + 6) o)[j]? = g[j]? := fun hj => List.getElem?_set_ne (fun e => hj e.symm)
 exact ⟨by rw [ne (by omega)]; exact L.i3, by rw [ne (by omega)]; exact L.i4, by rw [ne (by omega)]; exact L.i6, by rw [ne (by omega)]; exact L.i7, ⟨va, elsA, by grind, a2.setBox hb o, a3⟩, by rw [ne (by omega)]; exact L.i9, ⟨vp, elsP, by grind, b2.setBox hb o, b3⟩⟩
theorem f96_loop {tb N n : Nat} (htb : tb < N) (hn : n <= 4) {s0 : List VV} (hs0 : s0.length = 63) (k3 : s0.getD 3 .undef = .ptr N 0) (k4 : s0.getD 4 .undef = .ptr (N + 1) 0) (k6 : s0.getD 6 .undef = .ptr (N + 2) 0) (k7 : s0.getD 7 .undef = .ptr (N + 3) 0)
  (k8 : s0.getD 8 .undef = .ptr (N + 4) 0) (k9 : s0.getD 9 .undef = .ptr (N + 5) 0) {pg0 : List (List UInt8)} :
  ∀ (m : Nat) (kvr : List KV) (els : List (List CV)) (v : VV) (gs : List (List KV)) (s : List VV) (g : ae) (Q : Pst), kvr.length < m -> VF g 2 els v -> (gs = [] \/ VZ g 2 els v) -> RowsE els kvr -> LvB tb N n pg0 g gs -> g[N + 7]? = some (.loop [16] f79_0 f79_3 s0 .ready none) -> g[N + 6]? = some (.box [v] false) ->
   s.length = 25 -> s.getD 0 .undef = .yield (N + 7) -> s.getD 1 .undef = .ptr (N + 6) 0 -> pg0.length + gs.length + kvr.length + 1 <= 1000000 -> td gs + kvr.length <= 1000000 ->
   (∀ s' g', LvB tb N n pg0 g' (gs ++ dx m kvr) -> g'[N + 7]? = some (.loop [16] f79_0 f79_3 s0 .ready none) -> Q .ret ⟨s', g'⟩) -> X F (.loop f96_1) ⟨s, g⟩ Q := by
 intro m
 induction m with
 | zero => intro kvr els v gs s g Q h; omega
 | succ m ih =>
  intro kvr els v gs s g Q hm hv hz hR L hp hlb hs e0 e1 hc1 hc2 hQ
  have hl := hR.len
  obtain ⟨w, g1, w1, w2, fr1, vz1, kz1, hbf⟩ := hv.closZ
  obtain ⟨h43, n43⟩ := Tb w2 hR (by omega)
  have hfl := qw kvr 0
  have htk := zw kvr 0
  have L1 := L.froze fr1 hz hbf
  have hp1 := fr1.loop' hp
  have hlb1 := fr1.box' hlb
  have hgr : dx (m + 1) kvr = kvr.take (md 0 kvr) :: (if md 0 kvr = 0 \/ md 0 kvr = kvr.length then [] else dx m (kvr.drop (md 0 kvr))) := rfl
  generalize hk : md 0 kvr = k at *
  obtain ⟨w9, c9, vz9⟩ := vz1.upto (k := .i64) (n := k) (by omega)
  have hlt : (kvr.take k).length = k := by grind
  obtain ⟨g2, n2, L2, hp2, kz2, hlb2⟩ := Ky htb hn hs0 k3 k4 k6 k7 k8 k9 L1 hp1 vz9 (Bw hR k) (by rw [htk, hlt]) (by omega) (by omega) hlb1
  have vz2 := vz1.kz kz2
  rw [ba, bi f96_1.eq_1]
  simp only [go_sem, seval, hs, e1, iu hlb]
  refine ap (h1 := g1) (by simp only [List.map, go_sem, seval, hs]; exact bf w1 rfl) n43 rfl ?_
  simp only [go_sem, seval, hs]
  rw [bi f96_0.eq_1]
  simp only [go_sem, seval, hs, e0, e1, iu hlb1, c9]
  refine Gz (id := N + 7) (by simp only [go_sem, seval, hs]) (by simp only [List.map, go_sem, seval, hs]; exact n2) ?_
  by_cases d0 : k = 0
  ·subst d0
   have dz : ((0 : Nat) : Int) = 0 := rfl
   simp only [go_sem, seval, hs, dz]
   grind
  ·have d0' : ¬ ((k : Nat) : Int) = 0 := by omega
   by_cases d1 : k = kvr.length
   ·have d1' : ((k : Nat) : Int) = (els.length : Int) := by omega
    simp only [go_sem, seval, hs, eq_false d0', e1, iu hlb2, vz2.vf.ln, eq_true d1']
    grind
   ·have d1' : ¬ ((k : Nat) : Int) = (els.length : Int) := by omega
    obtain ⟨w', c', vz'⟩ := vz2.from_ (k := .i64) (n := k) (by omega)
    have stb := Af (v := w') vz'.cellv hlb2 (show 0 < 1 by decide)
    simp only [List.set_cons_zero] at stb
    have kz3 := KZ.setBox g2 hlb2 (.box [w'] false)
    simp only [go_sem, seval, hs, eq_false d0', e1, iu hlb2, vz2.vf.ln, eq_false d1', c', stb]
    refine ih (kvr.drop k) (els.drop k) w' (gs ++ [kvr.take k]) _ _ Q (by grind) (vz'.kz kz3).vf (.inr (vz'.kz kz3)) (Ut hR k) (L2.setLb htb hlb2 _) ?_ (List.getElem?_set_self (ev hlb2)) (by simp_all) (by simp only [go_sem, seval, e0]) (by simp only [go_sem, seval, e1]) ?_ ?_ (fun s' g' a1 a2 => hQ s' g' ?_ a2)
    ·grind
    ·grind
    ·rw [Kl, List.length_drop]; omega
    grind
theorem acu {h l : ae} {i : Nat} : (h ++ l)[h.length + i]? = l[i]? := by
 grind
theorem al3 {P : VV -> ae -> Prop} {s : List VV} {h : ae} {a b i j : Nat} {x y : VV} {fa fb : Bool} (ha : s.getD a .undef = .ptr i 0) (hb : s.getD b .undef = .ptr j 0) (hi : h[i]? = some (.box [x] fa)) (hj : h[j]? = some (.box [y] fb))
  (hP : P (.tup [x, y]) h) : RQ [.cell a false 1, .cell b false 1] P .ret ⟨s, h⟩ := by
 refine ⟨trivial, [x, y], ?_, hP⟩
 simp only [ke, yq, ha, hb, hi, hj, List.drop_zero]
 rfl
theorem Wv {h : ae} {tb n : Nat} {u vp : VV} {els elsP : List (List CV)} {kv : List KV} {pg0 : List (List UInt8)} (hn : n <= 4) (hv : VF h 2 els u) (hR : RowsE els kv) (ht : h[tb]? = some (.box [vp] false)) (hP : eu h 1 elsP vp) (hE : PgE elsP pg0)
  (hc1 : pg0.length + kv.length + 1 <= 1000000) : Ret F 79 [.ptr tb 0, vi .i64 n, u] h fun v g => ∃ va elsA vp' elsP', v = .tup [va, vb (decide (td (grp kv) = kv.length))] /\ eu g 2 elsA va /\ RowsE elsA (nd pg0.length (grp kv)) /\ g[tb]? = some (.box [vp'] false) /\ eu g 1 elsP' vp' /\ PgE elsP' (pg0 ++ (grp kv).map (ga n)) := by
 refine eE3 (fn := f79) (n := 63) rfl rfl fun s hs h0 h1 h2 => ?_
 simp only [f79]
 have hl := hR.len
 have htb := ev ht
 simp only [go_sem, seval, hs, h0, h1]
 rw [Yj rfl]
 simp only [go_sem, seval, hs, h1]
 rw [Yj rfl]
 simp only [go_sem, seval, hs, List.append_assoc, List.cons_append, List.nil_append, List.length_append, List.length_cons, List.length_nil]
 have e5 : ∀ l : ae, (h ++ [VO.box [.ptr tb 0] false, .box [vi .i64 n] false, .box [ct] false, .box [vb false] false, .box [ct] false, .box [vi .i64 0] false])[h.length + 5]? = some (.box [vi .i64 0] false) := fun _ => acu
 have st5 := Af (v := vi .i64 0) rfl (e5 []) (show 0 < 1 by decide)
 have set5 : (h ++ [VO.box [.ptr tb 0] false, .box [vi .i64 n] false, .box [ct] false, .box [vb false] false, .box [ct] false, .box [vi .i64 0] false]).set (h.length + 5) (.box [vi .i64 0] false) = h ++ [VO.box [.ptr tb 0] false, .box [vi .i64 n] false, .box [ct] false, .box [vb false] false, .box [ct] false, .box [vi .i64 0] false] := mz (e5 [])
 simp only [List.set_cons_zero] at st5
 rw [set5] at st5
 simp only [go_sem, seval, hs, Nat.zero_add, Nat.reduceAdd, st5, h2]
 have n31 : call F 88 [u] (h ++ [VO.box [.ptr tb 0] false, .box [vi .i64 n] false, .box [ct] false, .box [vb false] false, .box [ct] false, .box [vi .i64 0] false]) = some (.ret (.func 96 [.ptr (h.length + 6) 0]), h ++ [VO.box [.ptr tb 0] false, .box [vi .i64 n] false, .box [ct] false, .box [vb false] false, .box [ct] false, .box [vi .i64 0] false, .box [u] false]) := by
  have : Ret F 88 [u] (h ++ [VO.box [.ptr tb 0] false, .box [vi .i64 n] false, .box [ct] false, .box [vb false] false, .box [ct] false, .box [vi .i64 0] false]) fun v g => v = .func 96 [.ptr (h.length + 6) 0] /\ g = h ++ [VO.box [.ptr tb 0] false, .box [vi .i64 n] false, .box [ct] false, .box [vb false] false, .box [ct] false, .box [vi .i64 0] false, .box [u] false] := by
   refine eE1 (fn := f88) (n := 4) rfl rfl fun s hs h0 => ?_
   simp only [f88]
   simp only [go_sem, seval, hs, h0]
   rw [Yj hv.cellv]
   simp only [go_sem, seval, hs, List.append_assoc, List.cons_append, List.nil_append, List.length_append, List.length_cons, List.length_nil, Nat.zero_add, Nat.reduceAdd, List.map]
   exact ⟨trivial, trivial⟩
  obtain ⟨v, h', e1, rfl, rfl⟩ := this
  exact e1
 refine ao (by simp only [List.map, go_sem, seval, hs]; exact n31) ?_
 simp only [go_sem, seval, hs]
 generalize hN : h.length = N at *
 generalize hs1 : (((((((s.set 3 (VV.ptr N 0)).set 4 (.ptr (N + 1) 0)).set 6 (.ptr (N + 2) 0)).set 7 (.ptr (N + 3) 0)).set 8 (.ptr (N + 4) 0)).set 9 (.ptr (N + 5) 0)).set 14 u).set 15 (.func 96 [.ptr (N + 6) 0]) = s1
 have a0 : s1.length = 63 := by rw [<- hs1]; simp only [ah, hs]
 have a2 : s1.getD 2 .undef = u := by rw [<- hs1]; simp only [go_sem, seval, h2]
 have a3 : s1.getD 3 .undef = .ptr N 0 := by rw [<- hs1]; simp only [go_sem, seval, hs]
 have a4 : s1.getD 4 .undef = .ptr (N + 1) 0 := by rw [<- hs1]; simp only [go_sem, seval, hs]
 have a6 : s1.getD 6 .undef = .ptr (N + 2) 0 := by rw [<- hs1]; simp only [go_sem, seval, hs]
 have a7 : s1.getD 7 .undef = .ptr (N + 3) 0 := by rw [<- hs1]; simp only [go_sem, seval, hs]
 have a8 : s1.getD 8 .undef = .ptr (N + 4) 0 := by rw [<- hs1]; simp only [go_sem, seval, hs]
 have a9 : s1.getD 9 .undef = .ptr (N + 5) 0 := by rw [<- hs1]; simp only [go_sem, seval, hs]
 have a15 : s1.getD 15 .undef = .func 96 [.ptr (N + 6) 0] := by rw [<- hs1]; simp only [go_sem, seval, hs]
 generalize hg1 : h ++ [VO.box [.ptr tb 0] false, .box [vi .i64 n] false, .box [ct] false, .box [vb false] false, .box [ct] false, .box [vi .i64 0] false, .box [u] false] = g1
 have gl : g1.length = N + 7 := by rw [<- hg1, List.length_append, hN]; rfl
 have gat : ∀ i o, [VO.box [.ptr tb 0] false, .box [vi .i64 n] false, .box [ct] false, .box [vb false] false, .box [ct] false, .box [vi .i64 0] false, .box [u] false][i]? = some o -> g1[N + i]? = some o := by
  intro i o ho
  rw [<- hg1, <- hN, acu]; exact ho
 have x1 : HExt h g1 := by rw [<- hg1]; exact ⟨by simp, fun j hj => by rw [List.getElem?_append_left hj]⟩
 have x2 := x1.then (.loop [16] f79_0 f79_3 s1 .ready none)
 have g2at : ∀ i o, g1[i]? = some o -> (g1 ++ [.loop [16] f79_0 f79_3 s1 .ready none])[i]? = some o := fun i o ho => by rw [List.getElem?_append_left (ev ho)]; exact ho
 have hloop : (g1 ++ [.loop [16] f79_0 f79_3 s1 .ready none])[N + 7]? = some (.loop [16] f79_0 f79_3 s1 .ready none) := by rw [<- gl]; exact bp
 have L0 : LvB tb N n pg0 (g1 ++ [.loop [16] f79_0 f79_3 s1 .ready none]) [] :=
  ⟨g2at _ _ (gat 0 _ rfl), g2at _ _ (gat 1 _ rfl), g2at _ _ (gat 2 _ rfl), g2at _ _ (gat 3 _ rfl), ⟨ct, [], g2at _ _ (gat 4 _ rfl), eu.nil _ _, .nil⟩, g2at _ _ (gat 5 _ rfl), ⟨vp, elsP, x2.get ht, hP.hext x2, by simpa using hE⟩⟩
 have zb : Ret F 96 [.yield (N + 7), .ptr (N + 6) 0] (g1 ++ [.loop [16] f79_0 f79_3 s1 .ready none]) fun v g' => LvB tb N n pg0 g' (grp kv) /\ g'[N + 7]? = some (.loop [16] f79_0 f79_3 s1 .ready none) := by
  refine eE2 (fn := f96) (n := 25) rfl rfl fun s hs h0 h1 => ?_
  simp only [f96]
  simp only [go_sem, seval]
  refine f96_loop htb hn a0 a3 a4 a6 a7 a8 a9 (kv.length + 1) kv els u [] _ _ _ (by omega) (hv.ext x2) (.inl rfl) hR L0 hloop (g2at _ _ (gat 6 _ rfl)) (by simp only [ah, hs]) h0 h1 (by simp; omega) (by simp [td]; omega) (fun s' g' b1 b2 => ?_)
  simp only [go_sem, seval]
  exact ⟨by simpa [grp] using b1, b2⟩
 obtain ⟨v42, g3, n42, L3, hp3⟩ := zb
 refine zg (f := 96) (caps := [.ptr (N + 6) 0]) (t := .ready) (p := none) a15 (by rw [gl]; exact n42) (by rw [gl]; exact hp3) (by intro e; cases e) ?_
 rw [gl]
 have hb7 : N + 7 < g3.length := ev hp3
 have L4 := L3.loop htb hp3 (.loop [16] f79_0 f79_3 s1 .exhausted none)
 generalize g3.set (N + 7) (.loop [16] f79_0 f79_3 s1 .exhausted none) = g4 at L4
 obtain ⟨va, elsA, b1, b2, b3⟩ := L4.i8
 obtain ⟨vp', elsP', c1, c2, c3⟩ := L4.it
 have hk9 := L4.i9
 have hk6 := L4.i6
 have hk7 := L4.i7
 simp only [go_sem, seval, Mj]
 refine qy 6 (fun g => g[N + 5]? = some (.box [vi .i64 (td (grp kv) : Nat)] false)) hk9 rfl rfl ?_
 simp only [List.take_succ_cons, List.take_zero]
 refine tz (v := va) rfl (by rw [ki]; simp only [go_sem, seval, a0, a8]; exact bg b1 rfl) ?_
 refine ox (v := vi .i64 (td (grp kv) : Nat)) rfl hk9 (fun g hg => by rw [ki]; simp only [go_sem, seval, a0, a9]; exact bg hg rfl) ?_
 refine pm (v := u) rfl (by simp only [ai]; simp only [go_sem, seval, a0, a2]) ?_
 refine pm (v := vi .i64 els.length) rfl (by rw [Pm]; simp only [go_sem, seval, a0]; rw [hv.ln]; rfl) ?_
 refine pm (v := vb (decide (td (grp kv) = kv.length))) rfl (by rw [Hr]; simp only [go_sem, seval, a0]; rw [<- hl]; simp only [go_sem, seval, Int.ofNat_inj]) ?_
 have s6 := Af (v := va) b2.vf_cell hk6 (show 0 < 1 by decide)
 simp only [List.set_cons_zero] at s6
 refine Ay (v := .undef) (h' := g4.set (N + 2) (.box [va] false)) rfl (by show stO _ 1 _ _ = _; simp only [go_sem, seval, a0, a6]; exact s6) (by rw [List.getElem?_set_ne (by omega)]; exact hk9) ?_
 simp only [XDA, List.drop_succ_cons, List.drop_zero, Cj, oi]
 have s7 := Af (h := g4.set (N + 2) (.box [va] false)) (v := vb (decide (td (grp kv) = kv.length))) rfl (by rw [List.getElem?_set_ne (show N + 2 ≠ N + 3 by omega)]; exact hk7) (show 0 < 1 by decide)
 simp only [List.set_cons_zero] at s7
 simp only [go_sem, seval, a0, a7, s7]
 have lt6 := ev hk6
 have lt7 := ev hk7
 refine al3 (i := N + 2) (j := N + 3) (x := va) (y := vb (decide (td (grp kv) = kv.length))) (by simp only [go_sem, seval, a6]) (by simp only [go_sem, seval, a7]) (by rw [List.getElem?_set_ne (by omega)]; exact List.getElem?_set_self lt6) (List.getElem?_set_self (by rw [List.length_set]; exact lt7)) ?_
 refine ⟨va, elsA, vp', elsP', rfl, ((b2.setBox hk6 _).setBox (by rw [List.getElem?_set_ne (by omega)]; exact hk7) _), b3, ?_, ((c2.setBox hk6 _).setBox (by rw [List.getElem?_set_ne (by omega)]; exact hk7) _), c3⟩
 rw [List.getElem?_set_ne (by omega), List.getElem?_set_ne (by omega)]
 exact c1
open Go Go.Vm
theorem By : ∀ (m : Nat) (l : List KV), (dx m l).length <= l.length + 1
 | 0, _ => by simp [dx]
 | m + 1, l => by
  have hf := qw l 0
  rw [dx]
  by_cases h : md 0 l = 0 \/ md 0 l = l.length
  ·grind
  ·rw [if_neg h, List.length_cons]
   have := By m (l.drop (md 0 l))
   grind
theorem Et (l : List KV) : (grp l).length <= l.length + 1 := By _ l
def Jf : Nat -> Nat -> List (List UInt8) -> List KV -> Option (List (List UInt8))
 | 0, _, _, _ => none
 | f + 1, n, pg, l => if td (grp l) = l.length then (if (grp l).length = 1 then some (pg ++ (grp l).map (ga n)) else Jf f (n + 1) (pg ++ (grp l).map (ga n)) (nd pg.length (grp l))) else none
def dl (l : List KV) : Option (List (List UInt8)) := if ko l = true /\ l.length <= 5000 then Jf 5 0 [] l else none
theorem f59_loop {tb : Nat} : ∀ (f n : Nat) (pg : List (List UInt8)) (l : List KV) (els elsP : List (List CV)) (u vp : VV) (s : List VV) (h : ae) (Q : Pst), n + f = 5 -> VF h 2 els u -> RowsE els l -> h[tb]? = some (.box [vp] false) -> eu h 1 elsP vp -> PgE elsP pg ->
  s.length = 41 -> s.getD 0 .undef = u -> s.getD 4 .undef = .ptr tb 0 -> s.getD 5 .undef = vi .i64 n -> l.length <= 5000 + n -> pg.length <= n * 5010 ->
  (Jf f n pg l = none -> ∀ s' h', s'.length = 41 -> Q (.exit 0) ⟨s', h'⟩) -> (∀ pg' s' h' vp' elsP', Jf f n pg l = some pg' -> s'.length = 41 -> s'.getD 2 .undef = vp' -> s'.getD 3 .undef = vb true -> eu h' 1 elsP' vp' -> PgE elsP' pg' -> Q .ret ⟨s', h'⟩) -> X F (.loop f59_1) ⟨s, h⟩ Q := by
 intro f
 induction f with
 | zero =>
  intro n pg l els elsP u vp s h Q hn hv hR ht hP hE hs e0 e4 e5 hb1 hb2 hN hS
  have c : ¬ ((n : Nat) : Int) <= 4 := by omega
  rw [ba, bi f59_1.eq_1]
  simp only [go_sem, seval, hs, e5, c]
  exact hN rfl _ _ (by grind)
 | succ f ih =>
  intro n pg l els elsP u vp s h Q hn hv hR ht hP hE hs e0 e4 e5 hb1 hb2 hN hS
  have c : ((n : Nat) : Int) <= 4 := by omega
  have hn4 : n * 5010 <= 20040 := by omega
  obtain ⟨v, g, n23, va, elsA, vp', elsP', rfl, q1, q2, q3, q4, q5⟩ := Wv (n := n) (by omega) hv hR ht hP hE (by omega)
  have hg := Et l
  have hA := q2.len
  rw [gf] at hA
  rw [ba, bi f59_1.eq_1]
  simp only [go_sem, seval, hs, e5, c, e4, e0]
  refine ao (by simp only [List.map, go_sem, seval, hs, e4, e5, e0]; exact n23) ?_
  simp only [Jf] at hN hS
  by_cases d : td (grp l) = l.length
  ·simp only [eq_true d, if_true] at hN hS
   by_cases d1 : (grp l).length = 1
   ·simp only [eq_true d1, if_true] at hN hS
    have d1' : ((elsA.length : Nat) : Int) = 1 := by omega
    simp only [go_sem, seval, hs, d, q1.lnO', d1', e4, iu q3]
    refine hS _ _ _ _ _ rfl (by simp only [ah, hs]) (by simp only [go_sem, seval, hs]) (by simp only [go_sem, seval, hs]) q4 q5
   ·simp only [eq_false d1, if_false] at hN hS
    have d1' : ¬ ((elsA.length : Nat) : Int) = 1 := by omega
    have hw : IntKind.i64.wrap (((n : Nat) : Int) + 1) = ((n + 1 : Nat) : Int) := by rw [IntWalk.i64_in _ (by omega)]; omega
    simp only [go_sem, seval, hs, d, q1.lnO', d1', e5, hw]
    refine ih (n + 1) _ _ elsA elsP' va vp' _ _ Q (by omega) q1.vf q2 q3 q4 q5 (by simp only [ah, hs]) (by simp only [go_sem, seval, hs]) (by simp only [go_sem, seval, e4]) (by simp only [go_sem, seval, hs]) (by rw [gf]; omega) ?_ hN hS
    grind
  ·simp only [eq_false d, if_false] at hN hS
   simp only [go_sem, seval, hs, d]
   exact hN trivial _ _ (by simp only [ah, hs])
theorem Xt {u : VV} {els : List (List CV)} {l : List KV} (hS : SlV 2 els u) (hR : RowsE els l) (hl : l.length ≤ 9223372036854775807) : Ret F 59 [u] [] fun v g => match dl l with
    | none => v = .tup [ct, vb false]
    | some pg => ∃ vp elsP, v = .tup [vp, vb true] ∧ eu g 1 elsP vp ∧ PgE elsP pg := by
  refine bc (fn := f59) rfl ?_
  simp only [f59]
  generalize hs0 : ([u] ++ List.replicate _ VV.undef : List VV) = s
  have hs : s.length = 41 := by grind
  have h0 : s.getD 0 .undef = u := by grind
  clear hs0
  obtain ⟨h15, n15⟩ := Re hS hR hl
  have hlen := hR.len
  have hcl : cf ([] : ae) [u] = some ([u], []) := bf (by rcases hS with ⟨rfl, _⟩ | ⟨_, rfl⟩ <;> rfl) rfl
  simp only [go_sem, seval, hs]
  rw [bi f59_2.eq_1]
  simp only [go_sem, seval, hs]
  rw [bi f59_0.eq_1]
  simp only [go_sem, seval, hs, h0]
  refine ap (h1 := []) (by simp only [List.map, go_sem, seval, hs, h0]; exact hcl) n15 rfl ?_
  cases hr : ko l with
  | false =>
    have : dl l = none := by unfold dl; grind
    rw [this]
    simp only [go_sem, seval, hs]
  | true =>
    by_cases d : l.length ≤ 5000
    · have hb : dl l = Jf 5 0 [] l := by unfold dl; grind
      rw [hb]
      have d' : ¬ ((els.length : Nat) : Int) > 5000 := by omega
      simp only [go_sem, seval, hs, hS.ln, d', h0]
      have bxa : bxO [] 1 (VV.agg [VV.cv (CV.sc (Value.slice none 0 0))]) = some (.ptr 0 0, [.box [ct] false]) := rfl
      simp only [go_sem, Nat.reduceLT, Nat.reduceEqDiff, reduceCtorEq, Int.reduceLT, Int.reduceEq, hs, bxa]
      refine f59_loop (tb := 0) 5 0 [] l els [] u ct _ _ _ rfl (.inl hS) hR rfl (eu.nil _ _) .nil (by simp_all) (by simp only [go_sem, Nat.reduceLT, Nat.reduceEqDiff, reduceCtorEq, Int.reduceLT, Int.reduceEq, h0]) (by simp_all) (by simp_all) (by omega) (by simp) (fun hn s' h' a1 => ?_) (fun pg' s' h' vp' elsP' hsome a0 a1 a2 a3 a4 => ?_)
      · rw [hn]
        simp only [go_sem, seval, a1]
      · rw [hsome]
        simp only [go_sem, seval, a0, a1, a2]
        grind
    · have d' : ((els.length : Nat) : Int) > 5000 := by omega
      have : dl l = none := by unfold dl; grind
      rw [this]
      simp only [go_sem, seval, hs, hS.ln, d', h0]
open Go Go.Vm
theorem mid {a b : IR} {st : St} {Q : Pst} {P : St -> Prop} (h1 : X F a st fun o st' => o = .norm /\ P st') (h2 : ∀ st', P st' -> X F b st' Q) : X F a st (K F b Q) := by
 obtain ⟨o, st', e, rfl, hP⟩ := h1
 exact ⟨.norm, st', e, h2 st' hP⟩
theorem vj (g : List KV) (gs : List (List KV)) : td (g :: gs) = g.length + td gs := by simp [td]
open Go Go.Vm
theorem ais {h : ae} {elsP : List (List CV)} {vp : VV} {t : Bool} (hP : eu h 1 elsP vp) : ∃ w1, au h (.tup [vp, vb t]) = some (.tup [w1, vb t]) /\ SlV 1 elsP w1 := by
 obtain ⟨w1, h1, c1, s1, _⟩ := hP.vf.closZ
 refine ⟨w1, ?_, s1⟩
 have : cf h [vp, vb t] = some ([w1, vb t], h1) := bf c1 (eh rfl)
 simp only [au, this, Option.map]
def ahs (r : Option (List (List UInt8))) (w : VV) : Prop := match r with
 | none => w = .tup [ct, vb false]
 | some pg => ∃ x elsP, w = .tup [x, vb true] /\ SlV 1 elsP x /\ PgE elsP pg
theorem Ef {u : VV} {els : List (List CV)} {l : List KV} (hS : SlV 2 els u) (hR : RowsE els l) (hl : l.length <= 9223372036854775807) : Er F 59 [u] (ahs (dl l)) := by
 obtain ⟨v, g, n1, q⟩ := Xt hS hR hl
 cases hb : dl l with
 | none =>
  rw [hb] at q
  have q' : v = .tup [ct, vb false] := q
  subst q'
  exact ⟨_, g, n1, .tup [ct, vb false], rfl, rfl⟩
 | some pg =>
  rw [hb] at q
  obtain ⟨vp, elsP, rfl, q1, q2⟩ := q
  obtain ⟨w, c1, c2⟩ := ais (t := true) q1
  exact ⟨_, g, n1, _, c1, w, elsP, rfl, c2, q2⟩
open Go Go.Vm
theorem Kq {α : Type} {a b : List α} {i : Nat} {x y : α} (ha : a[i]? = some x) (hb : b[i]? = some y) : (a.drop i = b.drop i) ↔ (x = y /\ a.drop (i + 1) = b.drop (i + 1)) := by
 obtain ⟨la, rfl⟩ := List.getElem?_eq_some_iff.1 ha
 obtain ⟨lb, rfl⟩ := List.getElem?_eq_some_iff.1 hb
 rw [List.drop_eq_getElem_cons la, List.drop_eq_getElem_cons lb, List.cons.injEq]
section
variable {a b : List (List UInt8)} {ea eb : List (List CV)} {u w : VV}
theorem f83_loop (ha : PgE ea a) (hb : PgE eb b) (hu : SlV 1 ea u) (hw : SlV 1 eb w) (hl : a.length = b.length) (hn : a.length <= 1000000) : ∀ (r i : Nat) (s : List VV) (h : ae) (Q : Pst), i + r = a.length -> s.length = 32 -> s.getD 2 .undef = .func 81 [] -> s.getD 1 .undef = w -> s.getD 15 .undef = u -> s.getD 16 .undef = vi .i64 a.length -> s.getD 17 .undef = vi .i64 i ->
  (a.drop i = b.drop i -> ∀ s', s'.length = 32 -> Q (.exit 0) ⟨s', h⟩) -> (a.drop i ≠ b.drop i -> ∀ s', s'.length = 32 -> s'.getD 6 .undef = vb false -> Q .ret ⟨s', h⟩) -> X F (.loop f83_2) ⟨s, h⟩ Q := by
 intro r
 induction r with
 | zero =>
  intro i s h Q hi hs e2 e1 e15 e16 e17 hY hN
  have c : ¬ ((i : Nat) : Int) < (a.length : Int) := by omega
  rw [ba, bi f83_2.eq_1]
  simp only [go_sem, seval, hs, e17, e16, c]
  rw [bi f83_1.eq_1]
  simp only [go_sem, seval, hs]
  grind
 | succ r ih =>
  intro i s h Q hi hs e2 e1 e15 e16 e17 hY hN
  have c : ((i : Nat) : Int) < (a.length : Int) := by omega
  obtain ⟨ca, xa, a1, a2, a3⟩ := ha.get (i := i) (by omega)
  obtain ⟨cb, xb, b1, b2, b3⟩ := hb.get (i := i) (by omega)
  have ia : iaO h 1 u (vi .i64 (i : Int)) = some (.rptr [ca], h) := hu.ia (by omega) (by grind)
  have ib : iaO h 1 w (vi .i64 (i : Int)) = some (.rptr [cb], h) := hw.ia (by omega) (by grind)
  have la : ldO h false 1 (.rptr [ca]) = some (.cv ca, h) := ij
  have lb : ldO h false 1 (.rptr [cb]) = some (.cv cb, h) := ij
  have hwr : IntKind.i64.wrap ((i : Int) + 1) = ((i + 1 : Nat) : Int) := by rw [IntWalk.i64_in _ (by omega)]; omega
  rw [ba, bi f83_2.eq_1]
  simp only [go_sem, seval, hs, e17, e16, c]
  rw [bi f83_1.eq_1]
  simp only [go_sem, seval, hs, e17, e15, e1, e2, ia, ib, la, lb]
  refine As (by simp only [go_sem, seval, hs]) (by simp only [List.map, go_sem, seval, hs]; exact a3.clos (b3.clos rfl)) (rm a3 b3) rfl ?_
  by_cases d : xa = xb
  ·simp only [go_sem, seval, hs, d, e17, hwr]
   refine ih (i + 1) _ _ Q (by omega) (by simp_all) (by simp_all) (by simp_all) (by simp_all) (by simp_all) (by simp_all) (fun hh => hY ((Kq a2 b2).2 ⟨d, hh⟩)) (fun hh => hN (fun e => hh ((Kq a2 b2).1 e).2))
  ·simp only [go_sem, seval, hs, d]
   exact hN (fun e => d ((Kq a2 b2).1 e).1) _ (by simp_all) (by simp_all)
theorem ahy (ha : PgE ea a) (hb : PgE eb b) (hu : SlV 1 ea u) (hw : SlV 1 eb w) (hn : a.length <= 1000000) : ∃ h', call F 83 [u, w, .func 81 []] [] = some (.ret (vb (decide (a = b))), h') := by
 have : Ret F 83 [u, w, .func 81 []] [] fun v h' => v = vb (decide (a = b)) := by
  refine bc (fn := f83) rfl ?_
  simp only [f83]
  generalize hs0 : ([u, w, .func 81 []] ++ List.replicate _ VV.undef : List VV) = s
  have hs : s.length = 32 := by grind
  have h0 : s.getD 0 .undef = u := by grind
  have h1 : s.getD 1 .undef = w := by grind
  have h2 : s.getD 2 .undef = .func 81 [] := by grind
  clear hs0
  have hal := ha.len
  have hbl := hb.len
  simp only [go_sem, seval, hs]
  rw [bi f83_0.eq_1]
  by_cases c : a.length = b.length
  ·have c1 : ¬ ((ea.length : Nat) : Int) ≠ (eb.length : Int) := by omega
   simp only [go_sem, Nat.reduceLT, Nat.reduceEqDiff, reduceCtorEq, Int.reduceLT, Int.reduceEq, hs, h0, h1, hu.ln, hw.ln, c1]
   refine f83_loop ha hb hu hw c hn a.length 0 _ _ _ (by omega) (by simp_all) (by simp_all) (by simp_all) (by simp_all) (by simp_all) (by simp_all) (fun hh s' a1 => ?_) (fun hh s' a1 a2 => ?_)
   ·simp only [go_sem, seval, a1]
    grind
   ·simp only [go_sem, seval, a1, a2]
    grind
  ·have c1 : ((ea.length : Nat) : Int) ≠ (eb.length : Int) := by omega
   simp only [go_sem, seval, hs, h0, h1, hu.ln, hw.ln, c1]
   exact congrArg vb (decide_eq_false (fun e => c (congrArg List.length e))).symm
 obtain ⟨v, h', n1, rfl⟩ := this
 grind
end
open Go Go.Vm
def ng : List (List UInt8) -> List KV -> Nat × List KV
 | [], acc => (0, acc)
 | b :: r, acc => if (wr b).2.2 ≠ 0 then ((wr b).2.2, []) else ng r (if (wr b).1 = 0 then acc ++ (wr b).2.1 else acc)
def wn (pg : List (List UInt8)) : List KV × Nat := if (ng pg []).1 ≠ 0 then ([], (ng pg []).1) else if dl (ng pg []).2 = some pg then ((ng pg []).2, 0) else ([], 11)
theorem Ox : ∀ (f n : Nat) (pg : List (List UInt8)) (l : List KV) (p : List (List UInt8)), n + f = 5 -> l.length <= 5000 + n -> pg.length <= n * 5010 -> Jf f n pg l = some p -> p.length <= 25050
 | 0, _, _, _, _, _, _, _, h => by cases h
 | f + 1, n, pg, l, p, hn, h1, h2, h => by
  have hg := Et l
  have hp : (pg ++ (grp l).map (ga n)).length <= (n + 1) * 5010 := by grind
  rw [Jf] at h
  split at h
  ·split at h
   ·grind
   ·exact Ox f (n + 1) _ _ p (by omega) (by rw [gf]; omega) hp h
  ·cases h
theorem Rj {l : List KV} {p : List (List UInt8)} (h : dl l = some p) : p.length <= 1000000 := by
 unfold dl at h
 split at h
 ·rename_i hh
  have := Ox 5 0 [] l p rfl (by omega) (by simp) h
  omega
 ·cases h
theorem RowsE.app' {l m : List (List CV)} {k j : List KV} (h : RowsE l k) (h2 : RowsE m j) : RowsE (l ++ m) (k ++ j) := by
 induction h with
 | nil => exact h2
 | cons h _ ih => exact .cons h ih
theorem a14 {acc i r n e d D : Nat} (hac : acc <= 255 * i) (hi : i + (r + 1) = n) (hn : n <= 1000000) (hl : e = acc) (hld : d = D) (hdl : D <= 255) : acc <= 255 * (i + 1) /\ (e + d) * 40 <= 35184372088832 /\ e + d <= 35184372088832 /\ acc + D <= 255 * (i + 1) /\ i + 1 + r = n := ⟨by omega, by omega, by omega, by omega, by omega⟩
section
variable {pg : List (List UInt8)} {ep : List (List CV)} {u : VV}
theorem f64_loop (hp : PgE ep pg) (hu : SlV 1 ep u) (hn : pg.length <= 1000000) (hb : ∀ b ∈ pg, b.length <= 1000000) : ∀ (r i : Nat) (acc : List KV) (els : List (List CV)) (v : VV) (s : List VV) (h : ae) (Q : Pst), i + r = pg.length -> eu h 2 els v -> RowsE els acc -> acc.length <= 255 * i ->
  s.length = 47 -> s.getD 0 .undef = u -> s.getD 4 .undef = v -> s.getD 12 .undef = u -> s.getD 13 .undef = vi .i64 pg.length -> s.getD 14 .undef = vi .i64 i ->
  ((ng (pg.drop i) acc).1 = 0 -> ∀ s' h' els' v', s'.length = 47 -> s'.getD 0 .undef = u -> s'.getD 4 .undef = v' -> eu h' 2 els' v' -> RowsE els' (ng (pg.drop i) acc).2 -> (ng (pg.drop i) acc).2.length <= 255 * pg.length -> Q (.exit 0) ⟨s', h'⟩) ->
  ((ng (pg.drop i) acc).1 ≠ 0 -> ∀ s' h', s'.length = 47 -> s'.getD 2 .undef = ct -> s'.getD 3 .undef = vi .u16 ((ng (pg.drop i) acc).1 : Nat) -> Q .ret ⟨s', h'⟩) -> X F (.loop f64_2) ⟨s, h⟩ Q := by
 intro r
 induction r with
 | zero =>
  intro i acc els v s h Q hi hv hR hac hs e0 e4 e12 e13 e14 hY hN
  have c : ¬ ((i : Nat) : Int) < (pg.length : Int) := by omega
  rw [ba, bi f64_2.eq_1]
  simp only [go_sem, seval, hs, e14, e13, c]
  rw [bi f64_0.eq_1]
  simp only [go_sem, seval, hs]
  have hd : pg.drop i = [] := List.drop_eq_nil_of_le (by omega)
  rw [hd] at hY
  refine hY rfl _ _ els v (by simp only [ah, hs]) (by simp only [go_sem, seval, e0]) (by simp only [go_sem, seval, e4]) hv hR ?_
  have : i = pg.length := by omega
  rw [<- this]; exact hac
 | succ r ih =>
  intro i acc els v s h Q hi hv hR hac hs e0 e4 e12 e13 e14 hY hN
  have c : ((i : Nat) : Int) < (pg.length : Int) := by omega
  have hpl := hp.len
  obtain ⟨ca, xa, a1, a2, a3⟩ := hp.get (i := i) (by omega)
  have hxl : xa.length <= 1000000 := hb xa (List.mem_of_getElem? a2)
  have ia : iaO h 1 u (vi .i64 (i : Int)) = some (.rptr [ca], h) := hu.ia (by omega) (by rw [Int.toNat_natCast]; exact a1)
  have la : ldO h false 1 (.rptr [ca]) = some (.cv ca, h) := ij
  have hwr : IntKind.i64.wrap ((i : Int) + 1) = ((i + 1 : Nat) : Int) := by rw [IntWalk.i64_in _ (by omega)]; omega
  obtain ⟨v24, h24, n24, w, r24, eld, x, rfl, sd, hRd⟩ := Qw a3 hxl
  have hd : pg.drop i = xa :: pg.drop (i + 1) := by
   obtain ⟨la, rfl⟩ := List.getElem?_eq_some_iff.1 a2
   rw [List.drop_eq_getElem_cons la]
  have hr : ng (pg.drop i) acc = if (wr xa).2.2 ≠ 0 then ((wr xa).2.2, []) else ng (pg.drop (i + 1)) (if (wr xa).1 = 0 then acc ++ (wr xa).2.1 else acc) := by rw [hd]; rfl
  have hdl := abo xa
  have hde := ahe xa
  generalize wr xa = D at *
  have hl := hR.len
  have hld := hRd.len
  obtain ⟨hac2, hz1, hz2, hz3', hz4⟩ := a14 hac hi hn hl hld hdl
  have hz3 : (acc ++ D.2.1).length <= 255 * (i + 1) := by rw [List.length_append]; exact hz3'
  rw [hr] at hY hN
  rw [ba, bi f64_2.eq_1]
  simp only [go_sem, seval, hs, e14, e13, c]
  rw [bi f64_0.eq_1]
  simp only [go_sem, seval, hs, e14, e12, ia, la]
  refine ap (h1 := h) (by simp only [List.map, go_sem, seval, hs]; exact a3.clos rfl) n24 r24 ?_
  simp only [go_sem, seval, hs]
  rw [bi f64_1.eq_1]
  by_cases d : D.2.2 = 0
  ·have d' : ¬ ((D.2.2 : Nat) : Int) ≠ 0 := by omega
   have d2 : ¬ (D.2.2 ≠ 0) := by omega
   simp only [if_neg d2] at hY hN
   simp only [go_sem, seval, hs, d']
   by_cases d3 : D.1 = 0
   ·have d4 : ((D.1 : Nat) : Int) = 0 := by omega
    simp only [if_pos d3] at hY hN
    simp only [go_sem, seval, hs, d4, e4]
    refine Gw hv (by simp only [go_sem, seval, hs, e4]) (by simp only [go_sem, seval, hs]; exact sd.src) hz1 hz2 (fun v' h' hv' kg => ?_)
    simp only [go_sem, seval, hs, e14, hwr]
    refine ih (i + 1) _ _ v' _ _ Q hz4 hv' (hR.app' hRd) hz3 (by simp only [ah, hs]) (by simp only [go_sem, seval, e0]) (by simp only [go_sem, seval, hs]) (by simp only [go_sem, seval, e12]) (by simp only [go_sem, seval, e13]) (by simp only [go_sem, seval, hs]) hY hN
   ·have d4 : ¬ ((D.1 : Nat) : Int) = 0 := by omega
    simp only [if_neg d3] at hY hN
    simp only [go_sem, seval, hs, d4, e4, e14, hwr]
    refine ih (i + 1) _ _ v _ _ Q hz4 hv hR hac2 (by simp only [ah, hs]) (by simp only [go_sem, seval, e0]) (by simp only [go_sem, seval, e4]) (by simp only [go_sem, seval, e12]) (by simp only [go_sem, seval, e13]) (by simp only [go_sem, seval, hs]) hY hN
  ·have d' : ((D.2.2 : Nat) : Int) ≠ 0 := by omega
   simp only [if_pos (show D.2.2 ≠ 0 from d)] at hY hN
   simp only [go_sem, seval, hs, d']
   exact hN d _ _ (by simp only [ah, hs]) (by simp only [go_sem, seval, hs]) (by simp only [go_sem, seval, hs])
def ad5 (pg : List (List UInt8)) (w : VV) : Prop := ∃ x els, w = .tup [x, vi .u16 ((wn pg).2 : Nat)] /\ SlV 2 els x /\ RowsE els (wn pg).1
theorem Zn (hp : PgE ep pg) (hu : SlV 1 ep u) (hn : pg.length <= 1000000) (hb : ∀ b ∈ pg, b.length <= 1000000) : Er F 64 [u] (ad5 pg) := by
 have : Ret F 64 [u] [] fun v g => ∃ w, au g v = some w /\ ad5 pg w := by
  refine bc (fn := f64) rfl ?_
  simp only [f64]
  generalize hs0 : ([u] ++ List.replicate _ VV.undef : List VV) = s
  have hs : s.length = 47 := by grind
  have h0 : s.getD 0 .undef = u := by grind
  clear hs0
  have hpl := hp.len
  have bad : ∀ (h : ae) (e : Nat), wn pg = ([], e) -> ∃ w, au h (.tup [ct, vi .u16 (e : Nat)]) = some w /\ ad5 pg w := fun h e he => ⟨_, rfl, ct, [], by rw [he], .nil, by rw [he]; exact .nil⟩
  simp only [go_sem, Nat.reduceLT, Nat.reduceEqDiff, reduceCtorEq, Int.reduceLT, Int.reduceEq, hs, h0, hu.ln]
  refine f64_loop hp hu hn hb pg.length 0 [] [] ct _ _ _ (by omega) (eu.nil _ _) .nil (by simp) (by grind) (by grind) (by grind) (by grind) (by grind) (by grind) (fun hh s' h' els' v' a1 a0 a2 a3 a4 a5 => ?_) (fun hh s' h' a1 a2 a3 => ?_)
  ·rw [List.drop_zero] at hh a4 a5
   obtain ⟨w, h2, c1, c2, _, vz, _⟩ := a3.vf.closZ
   obtain ⟨v13, h13, n13, w13, r13, hB⟩ := Ef c2 a4 (by omega)
   simp only [go_sem, seval, a1, a2]
   refine ap (h1 := h2) (by simp only [List.map, go_sem, seval, a1, a2]; exact bf c1 rfl) n13 r13 ?_
   cases hbd : dl (ng pg []).2 with
   | none =>
    rw [hbd] at hB
    have hB' : w13 = .tup [ct, vb false] := hB
    subst hB'
    simp only [go_sem, seval, a1]
    refine bad _ 11 ?_
    unfold wn; grind
   | some p2 =>
    rw [hbd] at hB
    obtain ⟨x, elsB, rfl, sx, pE⟩ := hB
    have hp2 : p2.length <= 1000000 := Rj hbd
    obtain ⟨h25, n25⟩ := ahy pE hp sx hu hp2
    simp only [go_sem, seval, a1, a0]
    refine ap (h1 := h2) (by simp only [List.map, go_sem, seval, a1, a0]; exact sx.clos (hu.clos rfl)) n25 rfl ?_
    by_cases d : p2 = pg
    ·have hr : wn pg = ((ng pg []).2, 0) := by unfold wn; grind
     obtain ⟨w2, e1, e2⟩ := vz.clos
     simp only [go_sem, seval, a1, a2, d]
     refine ⟨.tup [w2, vi .u16 0], ?_, w2, els', by rw [hr]; rfl, e2, by grind⟩
     have : cf h2 [v', vi .u16 0] = some ([w2, vi .u16 0], h2) := bf e1 (eh rfl)
     simp only [au, this, Option.map]
    ·simp only [go_sem, seval, a1, d]
     refine bad _ 11 ?_
     unfold wn; grind
  ·rw [List.drop_zero] at hh a3
   simp only [go_sem, seval, a1, a2, a3]
   refine bad _ _ ?_
   unfold wn; grind
 obtain ⟨v, h', n1, w, c1, c2⟩ := this
 exact ⟨v, h', n1, w, c1, c2⟩
end
open Go Go.Vm
theorem aew : grp [] = [[]] := rfl
theorem Xv : dl [] = some [ga 0 []] := by
 unfold dl
 rw [if_pos ⟨rfl, by simp⟩]
 unfold Jf
 rw [aew, if_pos (by simp [td])]
 simp
theorem Zv {b : List UInt8} (h : (wr b).2.2 = 0) : b.length = 256 := by
 unfold wr at h
 grind
theorem Uc {n : Nat} {l : List KV} (hn : n <= 4) (hf : md 0 l = l.length) : (ga n l).length = 256 := Zv (by rw [Ba hn hf])
open Go Go.Vm
theorem ai8 {a b : List UInt8} : kt .gtr (txt a) (txt b) = some (vb (Op.bytesLess b a)) := by
 have h1 : kt .gtr (txt a) (txt b) = some (vb (!(Op.bytesLess a b || a == b))) := rfl
 rw [h1]
 have h2 : Cv a b = (Op.bytesLess a b || a == b) := rfl
 rw [<- h2]
 cases h : Cv a b with
 | true => rw [Au.1 h]; rfl
 | false => rw [Ib.1 h]; rfl
theorem aiq {a b : List UInt8} : kt .eql (txt a) (txt b) = some (vb (decide (a = b))) := by
 by_cases h : a = b <;> simp [kt, tm, h]
open Go Go.Vm
open Go Go.Vm
open Go Go.Vm
open Go Go.Vm
abbrev Ch := List UInt8 × List UInt8 × Bool
def chB (p : Ch) : List UInt8 := jd p.1 ++ (if p.2.2 then [1] else 0 :: jd p.2.1)
def gu (l : List Ch) : List UInt8 := num (ka l.length) ++ (l.map chB).flatten
def chE (e : List CV) (p : Ch) : Prop := ∃ c, e = [.sc (.string ⟨p.1.toArray⟩), c, .sc (.bool p.2.2)] /\ SlV 1 (eB p.2.1) (.cv c)
inductive ChsE : List (List CV) -> List Ch -> Prop
 | nil : ChsE [] []
 | cons {e : List CV} {p : Ch} {l : List (List CV)} {k : List Ch} (h : chE e p) (t : ChsE l k) : ChsE (e :: l) (p :: k)
theorem ChsE.len {l : List (List CV)} {k : List Ch} (h : ChsE l k) : l.length = k.length := by
 induction h with
 | nil => rfl
 | cons _ _ ih => simp [ih]
theorem ah4 {a b c d : Nat} (h : a + (b + c) <= d) : a + b + c <= d := by omega
theorem f46_loop (l : List (List CV)) (vl : VV) (hv : SlV 3 l vl) : ∀ (rest : List (List CV)) (kv : List Ch) (_ : ChsE rest kv) (i : Nat) (out : List UInt8) (s : List VV) (h : ae) (v : VV) (Q : Pst),
  l.drop i = rest -> i <= l.length -> l.length <= 1000000000 -> out.length + ((kv.map chB).flatten).length <= 1000000000 -> s.length = 36 ->
  s.getD 9 .undef = vl -> s.getD 10 .undef = vi .i64 l.length -> s.getD 11 .undef = vi .i64 i -> s.getD 3 .undef = v -> eu h 1 (eB out) v ->
  (∀ s' h' v', s'.length = 36 -> s'.getD 3 .undef = v' -> eu h' 1 (eB (out ++ (kv.map chB).flatten)) v' -> Q (.exit 0) ⟨s', h'⟩) ->
  X F (.loop f46_2) ⟨s, h⟩ Q := by
 intro rest kv hR
 induction hR with
 | nil =>
  intro i out s h v Q hd hi hl hn hs h9 h10 h11 h3 hb hQ
  rw [ba, bi f46_2.eq_1]
  have hlt : ¬ (i : Int) < (l.length : Int) := by
   have := congrArg List.length hd
   rw [List.length_drop, List.length_nil] at this
   omega
  simp only [go_sem, seval, hs, h10, h11, hlt]
  rw [bi f46_0.eq_1]
  simp only [go_sem, seval, hs, hlt]
  exact hQ _ _ v (by simp only [ah, hs]) (by simp only [go_sem, seval, h3]) (by simpa using hb)
 | @cons e p rl rk hrow hrest ih =>
  intro i out s h v Q hd hi hl hn hs h9 h10 h11 h3 hb hQ
  have hget : l[i]? = some e := by
   have := congrArg (fun x => x[0]?) hd
   simpa using this
  have hilt : i < l.length := (List.getElem?_eq_some_iff.1 hget).1
  have hd' : l.drop (i + 1) = rl := by
   rw [<- List.drop_drop, hd]; rfl
  obtain ⟨c, rfl, hc⟩ := hrow
  have hlt : (i : Int) < (l.length : Int) := by omega
  simp only [List.map_cons, List.flatten_cons, List.length_append, chB] at hn
  have hk1 := Nr p.1
  have hk2 := Nr p.2.1
  have e5 : IntKind.i64.wrap ((i : Int) + 1) = ((i + 1 : Nat) : Int) := by rw [IntWalk.i64_in _ (by omega)]; omega
  rw [ba, bi f46_2.eq_1]
  simp only [go_sem, seval, hs, h9, h10, h11, h3, hlt]
  rw [bi f46_0.eq_1]
  simp only [go_sem, seval, hs, h9, h10, h11, h3]
  rw [hv.ia (e := [.sc (.string ⟨p.1.toArray⟩), c, .sc (.bool p.2.2)]) (by omega) (by exact hget)]
  simp only [go_sem, seval, hs, h9, h10, h11, h3]
  rw [Yb (v := .cv (.sc (.string ⟨p.1.toArray⟩))) rfl]
  simp only [go_sem, seval, hs, h9, h10, h11, h3]
  obtain ⟨v1, hc1, hcall1, hres1⟩ := In p.1 (by omega)
  refine ap (by simp only [List.map, go_sem, seval, hs]; exact eh mc) hcall1 hres1 ?_
  simp only [go_sem, seval, hs, h9, h10, h11, h3]
  refine Bk (new := eB (jd p.1)) (hb.push _) (by simp only [go_sem, seval, hs]) (by simp only [go_sem, seval, hs]) (by simp only [ax]; omega) (by simp only [ax]; omega) (fun v' h' hb' _ hfr => ?_)
  have hbox := hfr h.length _ bp (fun e g => by simp)
  rw [<- im] at hb'
  have l2 : ldO h' false 1 (.ptr h.length 2) = some (vb p.2.2, h') := bg (c := vb p.2.2) hbox rfl
  have l1 : ldO h' false 1 (.ptr h.length 1) = some (.cv c, h') := bg (c := .cv c) hbox rfl
  simp only [go_sem, seval, hs]
  rw [bi f46_1.eq_1]
  cases hg : p.2.2 with
  | true =>
   rw [hg] at l2 hn
   simp only [go_sem, seval, hs, l2]
   refine Bk hb' (new := eB [1]) (by simp only [go_sem, seval, hs]) (by simp only [go_sem, seval, hs]; rfl) (by simp only [ax, List.length_append]; simp at hn |-; omega) (by simp only [ax, List.length_append]; simp at hn |-; omega) (fun v2 h2 hb2 _ _ => ?_)
   rw [<- im, List.append_assoc] at hb2
   simp only [go_sem, seval, hs, h11, e5]
   refine ih (i + 1) (out ++ chB p) _ h2 v2 Q hd' (by omega) hl (by simp only [chB, List.length_append, hg]; exact ah4 hn) (by simp only [ah, hs]) (by simp only [go_sem, seval, h9]) (by simp only [go_sem, seval, h10]) (by simp only [go_sem, seval, hs]) (by simp only [go_sem, seval, hs]) (by simpa only [chB, hg, if_true] using hb2) ?_
   simp only [List.map_cons, List.flatten_cons, <- List.append_assoc] at hQ
   exact hQ
  | false =>
   rw [hg] at l2 hn
   simp only [go_sem, seval, hs, l2]
   refine Bk hb' (new := eB [0]) (by simp only [go_sem, seval, hs]) (by simp only [go_sem, seval, hs]; rfl) (by simp only [ax, List.length_append]; simp at hn |-; omega) (by simp only [ax, List.length_append]; simp at hn |-; omega) (fun v2 h2 hb2 _ hfr2 => ?_)
   have hbox2 := hfr2 h.length _ hbox (fun e g => by simp)
   have l3 : ldO h2 false 1 (.ptr h.length 1) = some (.cv c, h2) := bg (c := .cv c) hbox2 rfl
   rw [<- im, List.append_assoc] at hb2
   simp only [go_sem, seval, hs, l3, hc.bs]
   obtain ⟨v2, hc2, hcall2, hres2⟩ := In p.2.1 (by simp at hn; omega)
   refine ap (by simp only [List.map, go_sem, seval, hs]; exact eh mc) hcall2 hres2 ?_
   simp only [go_sem, seval, hs]
   refine Bk (new := eB (jd p.2.1)) hb2 (by simp only [go_sem, seval, hs]) (by simp only [go_sem, seval, hs]) (by simp only [ax, List.length_append]; simp at hn |-; omega) (by simp only [ax, List.length_append]; simp at hn |-; omega) (fun v3 h3' hb3 _ _ => ?_)
   rw [<- im, List.append_assoc, List.append_assoc] at hb3
   simp only [go_sem, seval, hs, h11, e5]
   refine ih (i + 1) (out ++ chB p) _ h3' v3 Q hd' (by omega) hl (by simp only [chB, List.length_append, hg]; exact ah4 hn) (by simp only [ah, hs]) (by simp only [go_sem, seval, h9]) (by simp only [go_sem, seval, h10]) (by simp only [go_sem, seval, hs]) (by simp only [go_sem, seval, hs]) (by simpa only [chB, hg, if_false, List.singleton_append, Bool.false_eq_true] using hb3) ?_
   simp only [List.map_cons, List.flatten_cons, <- List.append_assoc] at hQ
   exact hQ
theorem afh (l : List (List CV)) (kv : List Ch) (vl : VV) (hv : SlV 3 l vl) (hR : ChsE l kv) (h : ae) (hn : (gu kv).length <= 1000000000) (hk : kv.length <= 1000000000) :
  ∃ v h', call F 46 [vl] h = some (.ret v, h') /\ eu h' 1 (eB (gu kv)) v := by
 have : ∃ v h', call F 46 [vl] h = some (.ret v, h') /\ (fun v h' => eu h' 1 (eB (gu kv)) v) v h' := by
  refine bc (fn := f46) rfl ?_
  simp only [f46]
  generalize hs0 : ([vl] ++ List.replicate _ VV.undef : List VV) = s
  have hs : s.length = 36 := by grind
  have h0 : s.getD 0 .undef = vl := by grind
  clear hs0
  simp only [go_sem, seval, hs, h0, hv.ln]
  obtain ⟨v1, h1, hcall1, hb1⟩ := Mf l.length h
  refine ao (by simp only [List.map, go_sem, seval, hs]; exact hcall1) ?_
  simp only [go_sem, Nat.reduceLT, Nat.reduceEqDiff, reduceCtorEq, Int.reduceLT, Int.reduceEq, hs, h0, hv.ln]
  have hne : eB (num (ka l.length)) ≠ [] := ajh.2 (ace _)
  have hlen : ((l.length : Nat) : Int) = ((kv.length : Nat) : Int) := by rw [hR.len]
  simp only [gu, List.length_append] at hn
  refine f46_loop l vl hv l kv hR 0 (num (ka l.length)) _ h1 v1 _ rfl (by omega) (by omega) (by grind) (by grind) (by simp_all) (by simp_all) (by simp_all) (by simp_all) (hb1.toG hne) ?_
  intro s' h' v' hs' h3' hb'
  simp only [go_sem, seval, hs', h3']
  rw [hlen] at hb'
  exact hb'
 exact this
def acg (p : Ch) : List CV := if p.2.2 then chC p.1 (.sc (.slice none 0 0)) true else chC p.1 (.sl 1 (eB p.2.1) false) false
def ur (l : List Ch) : List (List CV) := l.map acg
def qd (l : List Ch) : Prop := ∀ p ∈ l, p.1.length <= 30 /\ p.2.1.length <= 150 /\ (p.2.2 = true -> p.2.1 = [])
theorem So : ∀ (l : List Ch), qd l -> ChsE (ur l) l
 | [], _ => .nil
 | p :: l, h => by
  refine .cons ?_ (So l fun q hq => h q (by simp [hq]))
  obtain ⟨_, _, h3⟩ := h p (by simp)
  unfold acg
  cases hg : p.2.2 with
  | true => exact ⟨_, by rw [hg]; rfl, .inl ⟨rfl, by rw [h3 hg]; rfl⟩⟩
  | false => exact ⟨_, by rw [hg]; rfl, SlV.sl⟩
def py (l : List Ch) : List UInt8 := (l.map chB).flatten
theorem me {p : Ch} {l : List Ch} : py (p :: l) = chB p ++ py l := rfl
theorem Ri {b : List UInt8} {a : Int} {e : List CV} {j : Nat} (h : dy b a = (e, j, 0)) : ∃ q p r, b = p ++ chB q ++ r /\ (p.length : Int) = a /\ j = p.length + (chB q).length /\ e = acg q /\ q.1.length <= 30 /\ q.2.1.length <= 150 /\ (q.2.2 = true -> q.2.1 = []) := by
 unfold dy at h
 split at h
 ·grind
 ·rename_i h0
  have hx : bh b a 30 = ((bh b a 30).1, (bh b a 30).2.1, 0) := by
   grind
  obtain ⟨p, r, e1, e2, e3, e4⟩ := yi hx
  generalize (bh b a 30).1 = k at *
  generalize (bh b a 30).2.1 = j1 at *
  split at h
  ·simp at h
  ·rename_i c hc
   have hr : ∃ r', r = c :: r' := by
    have hj : j1 = (p ++ jd k).length := by grind
    rw [e1, hj, List.getElem?_append_right (Nat.le_refl _), Nat.sub_self] at hc
    cases r with
    | nil => simp at hc
    | cons d r' => grind
   obtain ⟨r, rfl⟩ := hr
   split at h
   ·rename_i h1
    simp only [Prod.mk.injEq] at h
    obtain ⟨h3, h4, _⟩ := h
    have hc1 : c = 1 := by rw [<- An c, h1]; rfl
    subst hc1
    refine ⟨(k, [], true), p, r, by rw [e1]; simp [chB], e2, ?_, h3.symm, by grind, by simp, fun _ => rfl⟩
    simp only [chB, if_true, List.length_append, List.length_singleton]; omega
   ·rename_i h1
    split at h
    ·simp at h
    ·rename_i h2
     have hc0 : c = 0 := by rw [<- An c, show c.toNat = 0 by omega]; rfl
     subst hc0
     simp only [Prod.mk.injEq] at h
     obtain ⟨h3, h4, h5⟩ := h
     have hy : bh b ((j1 + 1 : Nat) : Int) 150 = ((bh b ((j1 + 1 : Nat) : Int) 150).1, (bh b ((j1 + 1 : Nat) : Int) 150).2.1, 0) := by rw [<- h5]
     obtain ⟨p', r', f1, f2, f3, f4⟩ := yi hy
     generalize (bh b ((j1 + 1 : Nat) : Int) 150).1 = v at *
     generalize (bh b ((j1 + 1 : Nat) : Int) 150).2.1 = j2 at *
     have e1' : b = (p ++ jd k ++ [0]) ++ r := by rw [e1]; simp
     have hp : p' = p ++ jd k ++ [0] := by
      have g1 : b.take (j1 + 1) = p' := by rw [f1, List.append_assoc, show j1 + 1 = p'.length by omega, List.take_left]
      have g2 : b.take (j1 + 1) = p ++ jd k ++ [0] := by rw [e1', show j1 + 1 = (p ++ jd k ++ [0]).length by grind, List.take_left]
      grind
     refine ⟨(k, v, false), p, r', ?_, e2, ?_, h3.symm, by grind, by grind, by simp⟩
     ·rw [f1, hp]; simp only [chB, Bool.false_eq_true, if_false, List.append_assoc, List.cons_append, List.nil_append]
     ·rw [<- h4, f3, hp]; simp only [chB, Bool.false_eq_true, if_false, List.length_append, List.length_cons, List.length_nil]; omega
theorem ym {b : List UInt8} : ∀ (m a : Nat) (out els : List (List CV)) (j : Nat), a <= b.length -> jc (dy b) m a out = (els, j, 0) ->
  ∃ kv p r, b = p ++ py kv ++ r /\ p.length = a /\ j = p.length + (py kv).length /\ els = out ++ ur kv /\ kv.length = m /\ qd kv
 | 0, a, out, els, j, ha, h => by
  simp only [jc, Prod.mk.injEq] at h
  obtain ⟨rfl, rfl, _⟩ := h
  exact ⟨[], b.take a, b.drop a, by simp [py], by grind, by rw [List.length_take]; simp [py]; omega, by simp [ur], rfl, by intro p hp; simp at hp⟩
 | m + 1, a, out, els, j, ha, h => by
  simp only [jc] at h
  split at h
  ·grind
  ·rename_i h0
   have hx : dy b (a : Int) = ((dy b (a : Int)).1, (dy b (a : Int)).2.1, 0) := by
    grind
   obtain ⟨q, p, r, e1, e2, e3, e4, e5⟩ := Ri hx
   generalize (dy b (a : Int)).1 = e at *
   generalize (dy b (a : Int)).2.1 = j1 at *
   have hj : j1 <= b.length := by grind
   obtain ⟨kv, p', r', f1, f2, f3, f4, f5, f6⟩ := ym m j1 _ els j hj h
   have hp : p' = p ++ chB q := by
    have h1 : b.take j1 = p' := by grind
    grind
   refine ⟨q :: kv, p, r', ?_, by omega, ?_, ?_, by simp [f5], ?_⟩
   ·rw [f1, hp, me]; grind
   ·rw [f3, hp, me]; grind
   ·rw [f4, e4]; simp [ur]
   ·intro q' hq
    rcases List.mem_cons.1 hq with rfl | hq
    ·exact e5
    ·exact f6 q' hq
theorem Iq {b : List UInt8} (h : (ip (dy b) b).2 = 0) : ∃ kv, (ip (dy b) b).1 = ur kv /\ b = gu kv /\ qd kv := by
 unfold ip at h |-
 simp only at h |-
 split at h
 ·omega
 ·rename_i h0
  rw [if_neg h0]
  have hx : cd b 0 = ((cd b 0).1, (cd b 0).2.1, 0) := by
   grind
  obtain ⟨p, r, e1, e2, e3, e4⟩ := Bc hx
  generalize (cd b 0).1 = n at *
  generalize (cd b 0).2.1 = a at *
  have hp0 : p = [] := List.eq_nil_of_length_eq_zero (by omega)
  subst hp0
  split at h
  ·simp at h
  ·rename_i h1
   rw [if_neg h1]
   split at h
   ·omega
   ·rename_i h2
    rw [if_neg h2]
    have hy : jc (dy b) n a [] = ((jc (dy b) n a []).1, (jc (dy b) n a []).2.1, 0) := by
     grind
    have ha : a <= b.length := by grind
    obtain ⟨kv, p', r', f1, f2, f3, f4, f5, f6⟩ := ym n a [] _ _ ha hy
    generalize (jc (dy b) n a []).1 = els at *
    generalize (jc (dy b) n a []).2.1 = j at *
    split at h
    ·simp at h
    ·rename_i h3
     rw [if_neg h3]
     have hr : r' = [] := by
      have := congrArg List.length f1
      simp only [List.length_append] at this
      exact List.eq_nil_of_length_eq_zero (by omega)
     subst hr
     have hp : p' = num n := by
      have h1 : b.take a = p' := by grind
      grind
     refine ⟨kv, by grind, ?_, f6⟩
     rw [f1, hp, List.append_nil]
     unfold gu
     rw [f5, nw n e4]
     rfl
open Go Go.Vm
theorem Qb : ∀ kv : List Ch, kv.length <= ((kv.map chB).flatten).length
 | [] => by simp
 | p :: kv => by
  have := Qb kv
  have h1 : 0 < (chB p).length := by
   have := Bo p.1
   rw [ajh] at this
   have := List.length_pos_iff.2 this
   unfold chB; grind
  grind
open Go Go.Vm
open Go Go.Vm
theorem ChsE.get {l : List (List CV)} {k : List Ch} (h : ChsE l k) : ∀ {i : Nat}, i < k.length -> ∃ e p, l[i]? = some e /\ k[i]? = some p /\ chE e p := by
 induction h with
 | nil => grind
 | @cons e p l k h _ ih =>
  grind
theorem Kw {get : Int -> List CV × Nat × Nat} (b : List UInt8) (h : (ip get b).2 ≠ 0) : (ip get b).1 = [] := by
 unfold ip at h |-
 grind
theorem Le (b : List UInt8) : ∃ kv, ChsE (ip (dy b) b).1 kv /\ kv.length <= b.length := by
 by_cases h : (ip (dy b) b).2 = 0
 ·obtain ⟨kv, h1, h2, h3⟩ := Iq h
  refine ⟨kv, by rw [h1]; exact So kv h3, ?_⟩
  have := congrArg List.length h2
  unfold gu at this
  rw [List.length_append] at this
  have := Qb kv
  omega
 ·exact ⟨[], by rw [Kw b h]; exact .nil, by simp⟩
open Go Go.Vm
open Go Go.Vm
theorem ai1 (p : Ch) : (jd p.1).length + (if p.2.2 then 1 else 1 + (jd p.2.1).length) = (chB p).length := by
 unfold chB
 grind
open Go Go.Vm
open Go Go.Vm
def wd (n : Nat) : List UInt8 := [u8 (n / 16777216 % 256), u8 (n / 65536 % 256), u8 (n / 256 % 256), u8 (n % 256)]
theorem Jw {n : Nat} : (wd n).length = 4 := rfl
theorem Vf {n i : Nat} (h : i < 4) : (wd n).take (i + 1) = (wd n).take i ++ [u8 (n / 2 ^ (24 - 8 * i) % 256)] := by
 match i, h with
 | 0, _ => rfl
 | 1, _ => rfl
 | 2, _ => rfl
 | 3, _ => simp [wd]
theorem ac4 {n i : Nat} (h : i < 4) : IntKind.u8.wrap ((n : Int).fdiv (2 ^ min ((24 - 8 * (i : Int)).toNat) 64)) = ((u8 (n / 2 ^ (24 - 8 * i) % 256)).toNat : Int) := by
 rw [nu _ (by omega)]
 have e : min ((24 - 8 * (i : Int)).toNat) 64 = 24 - 8 * i := by omega
 rw [e, Int.fdiv_eq_ediv_of_nonneg _ (by grind), IntKind.wrap_u8]
 grind
theorem f76_loop {p off len n : Nat} {ex : Bool} {b : List UInt8} (hl : off + 4 <= b.length) (hlen : 4 <= len) : ∀ (r i : Nat) (s : List VV) (h : ae) (Q : Pst), i + r = 4 -> h[p]? = some (jz (am b off ((wd n).take i))) -> s.length = 18 -> s.getD 0 .undef = .ob p off len 1 ex -> s.getD 1 .undef = vi .i64 n -> s.getD 5 .undef = vi .i64 i ->
  (∀ s' h', s'.length = 18 -> (∀ o, h'.set p o = h.set p o) -> h'[p]? = some (jz (am b off (wd n))) -> Q (.exit 0) ⟨s', h'⟩) -> X F (.loop f76_1) ⟨s, h⟩ Q := by
 intro r
 induction r with
 | zero =>
  intro i s h Q hi hb hs e0 e1 e5 hQ
  have c : ¬ ((i : Nat) : Int) < 4 := by omega
  rw [ba, bi f76_1.eq_1]
  simp only [go_sem, seval, hs, e5]
  rw [bi f76_0.eq_1]
  simp only [go_sem, seval, hs, c]
  have : (wd n).take i = wd n := List.take_of_length_le (by rw [Jw]; omega)
  grind
 | succ r ih =>
  intro i s h Q hi hb hs e0 e1 e5 hQ
  have c : ((i : Nat) : Int) < 4 := by omega
  have hi4 : i < 4 := by omega
  have w1 : IntKind.i64.wrap (8 * (i : Int)) = 8 * (i : Int) := IntWalk.i64_in _ (by omega)
  have w2 : IntKind.i64.wrap (24 - 8 * (i : Int)) = 24 - 8 * (i : Int) := IntWalk.i64_in _ (by omega)
  have w3 : ¬ (24 - 8 * (i : Int)) < 0 := by omega
  have w4 : IntKind.i64.wrap ((i : Int) + 1) = ((i + 1 : Nat) : Int) := by rw [IntWalk.i64_in _ (by omega)]; omega
  have hlk : ((wd n).take i).length = i := by rw [List.length_take, Jw]; omega
  have hsl : (am b off ((wd n).take i)).length = b.length := ey (by omega)
  have ia : iaO h 1 (.ob p off len 1 ex) (vi .i64 (i : Int)) = some (.ptr p (off + i), h) := by
   have : i < len := by omega
   simp [iaO, ai, mi, qg, this]
  have st := Bl (x := u8 (n / 2 ^ (24 - 8 * i) % 256)) hb (j := off + i) (by omega)
  rw [Ci (by omega) hlk, <- Vf hi4] at st
  rw [ba, bi f76_1.eq_1]
  simp only [go_sem, seval, hs, e5]
  rw [bi f76_0.eq_1]
  simp only [go_sem, seval, hs, c, e0, e1, w1, w2, oh w3, ac4 hi4, ia, st, e5, w4]
  refine ih (i + 1) _ _ Q (by omega) (List.getElem?_set_self (ev hb)) (by simp_all) (by simp_all) (by simp_all) (by simp_all) (fun s' h' a1 a2 a3 => hQ s' h' a1 (fun o => ?_) a3)
  simp_all
theorem Pe {h : ae} {p off len n : Nat} {ex : Bool} {b : List UInt8} (hb : h[p]? = some (jz b)) (hl : off + 4 <= b.length) (hlen : 4 <= len) : ∃ v, call F 76 [.ob p off len 1 ex, vi .i64 n] h = some (.ret v, h.set p (jz (am b off (wd n)))) := by
 have : Ret F 76 [.ob p off len 1 ex, vi .i64 n] h fun v g => g = h.set p (jz (am b off (wd n))) := by
  refine bc (fn := f76) rfl ?_
  simp only [f76]
  generalize hs0 : ([.ob p off len 1 ex, vi .i64 n] ++ List.replicate _ VV.undef : List VV) = s
  have hs : s.length = 18 := by grind
  have h0 : s.getD 0 .undef = .ob p off len 1 ex := by grind
  have h1 : s.getD 1 .undef = vi .i64 n := by grind
  clear hs0
  simp only [go_sem, Nat.reduceLT, Nat.reduceEqDiff, reduceCtorEq, Int.reduceLT, Int.reduceEq, hs]
  refine f76_loop (n := n) (ex := ex) hl hlen 4 0 _ _ _ (by omega) (by rw [List.take_zero, Lo]; exact hb) (by grind) (by grind) (by grind) (by grind) (fun s' h' a1 a2 a3 => ?_)
  simp only [go_sem, seval, a1]
  rw [<- a2]; exact (mz a3).symm
 obtain ⟨v, g, e1, rfl⟩ := this
 grind
open Go Go.Vm
def Cs (epoch n i of_ : Nat) (p : List UInt8) : List UInt8 := wd epoch ++ wd n ++ [u8 i, u8 of_, u8 p.length] ++ p ++ List.replicate (49 - p.length) 0
def kd (epoch n i of_ : Nat) (p : List UInt8) : List UInt8 := oc (Cs epoch n i of_ p)
theorem Xk {epoch n i of_ : Nat} {p : List UInt8} (h : p.length <= 49) : (Cs epoch n i of_ p).length = 60 := by
 unfold Cs wd; simp; omega
theorem pd (b : List UInt8) : (oc b).length = b.length + 4 := by unfold oc; rw [List.length_append]; rfl
theorem Jk {epoch n i of_ : Nat} {p : List UInt8} (h : p.length <= 49) : (kd epoch n i of_ p).length = 64 := by
 unfold kd; rw [pd, Xk h]
theorem Lq {epoch n i of_ : Nat} {p : List UInt8} (h : p.length <= 49) :
  am ((((am (am (List.replicate 60 0) 0 (wd epoch)) 4 (wd n)).set 8 (u8 i)).set 9 (u8 of_)).set 10 (u8 p.length)) 11 p = Cs epoch n i of_ p := by
 have e1 : am (List.replicate 60 (0 : UInt8)) 0 (wd epoch) = wd epoch ++ List.replicate 56 0 := by simp [am, wd]
 have e2 : am (wd epoch ++ List.replicate 56 0) 4 (wd n) = wd epoch ++ wd n ++ List.replicate 52 0 := by simp [am, wd]
 have e3 : (((wd epoch ++ wd n ++ List.replicate 52 0).set 8 (u8 i)).set 9 (u8 of_)).set 10 (u8 p.length) = wd epoch ++ wd n ++ [u8 i, u8 of_, u8 p.length] ++ List.replicate 49 0 := by
  simp [wd, List.replicate_succ]
 rw [e1, e2, e3]
 have hl : (wd epoch ++ wd n ++ [u8 i, u8 of_, u8 p.length]).length = 11 := by simp [wd]
 unfold am Cs
 have t : (wd epoch ++ wd n ++ [u8 i, u8 of_, u8 p.length] ++ List.replicate 49 0).take 11 = wd epoch ++ wd n ++ [u8 i, u8 of_, u8 p.length] := by
  grind
 have d : (wd epoch ++ wd n ++ [u8 i, u8 of_, u8 p.length] ++ List.replicate 49 (0 : UInt8)).drop (11 + p.length) = List.replicate (49 - p.length) 0 := by
  rw [List.drop_append, List.drop_of_length_le (by omega), hl, Nat.add_sub_cancel_left, List.nil_append, List.drop_replicate]
 rw [t, d]
theorem Pn {epoch n i of_ : Nat} {p : List UInt8} {u : VV} (hu : SlV 1 (eB p) u) (hp : p.length <= 49) :
  Er F 48 [vi .i64 epoch, vi .i64 n, vi .i64 i, vi .i64 of_, u] (SlV 1 (eB (kd epoch n i of_ p))) := by
 have : Ret F 48 [vi .i64 epoch, vi .i64 n, vi .i64 i, vi .i64 of_, u] [] fun v g => ∃ w, au g v = some w /\ SlV 1 (eB (kd epoch n i of_ p)) w := by
  refine eE5 (fn := f48) (n := 33) rfl rfl fun s hs h0 h1 h2 h3 h4 => ?_
  simp only [f48]
  have wu : ∀ m : Nat, IntKind.u8.wrap (m : Int) = ((u8 m).toNat : Int) := fun m => by
   rw [Cd]; unfold u8; rw [UInt8.toNat_ofNat']
  have hbox : ([VO.box (List.replicate 60 (VV.cv (.sc (.int .u8 0)))) false] : ae)[0]? = some (jz (List.replicate 60 0)) := by
   rw [rp]; rfl
  simp only [go_sem, Nat.reduceLT, Nat.reduceEqDiff, reduceCtorEq, Int.reduceLT, Int.reduceEq, hs, List.nil_append, List.length_nil]
  generalize [VO.box (List.replicate 60 (VV.cv (.sc (.int .u8 0)))) false] = g0 at hbox
  have sa : ∀ {g : ae} {b : List UInt8}, g[0]? = some (jz b) -> b.length = 60 -> saO g 60 1 (.ptr 0 0) none none = some (.ob 0 0 60 1 true, g) := fun hb hl => Ix hb (by simp [sb]; omega)
  have sf : ∀ {g : ae} {b : List UInt8} (a : Nat), g[0]? = some (jz b) -> b.length = 60 -> a <= 60 -> saO g 60 1 (.ptr 0 0) (some (vi .i64 a)) none = some (.ob 0 a (60 - a) 1 true, g) := fun a hb hl ha => Sz hb (by simp [sb]; omega) ha
  have l0 : (List.replicate 60 (0 : UInt8)).length = 60 := by simp
  unfold kd
  rw [<- Lq hp]
  generalize List.replicate 60 (0 : UInt8) = c0 at hbox l0 |-
  have wl : ∀ m, (wd m).length = 4 := fun _ => rfl
  obtain ⟨v1, n1⟩ := Pe (n := epoch) (off := 0) (len := 60) (ex := true) hbox (by omega) (by omega)
  have b1 := List.getElem?_set_self (a := jz (am c0 0 (wd epoch))) (ev hbox)
  have l1 : (am c0 0 (wd epoch)).length = 60 := by rw [ey (by rw [wl]; omega), l0]
  simp only [sa hbox l0, go_sem, Nat.reduceLT, Nat.reduceEqDiff, reduceCtorEq, Int.reduceLT, Int.reduceEq, hs, h0]
  refine ao (by simp only [List.map, go_sem, seval, hs]; exact n1) ?_
  generalize g0.set 0 (jz (am c0 0 (wd epoch))) = g1 at b1
  generalize am c0 0 (wd epoch) = c1 at b1 l1 |-
  have s4 : saO g1 60 1 (.ptr 0 0) (some (vi .i64 4)) none = some (.ob 0 4 56 1 true, g1) := sf 4 b1 l1 (by omega)
  obtain ⟨v2, n2⟩ := Pe (n := n) (off := 4) (len := 56) (ex := true) b1 (by omega) (by omega)
  have b2 := List.getElem?_set_self (a := jz (am c1 4 (wd n))) (ev b1)
  have l2 : (am c1 4 (wd n)).length = 60 := by rw [ey (by rw [wl]; omega), l1]
  simp only [go_sem, seval, hs, s4, h1]
  refine ao (by simp only [List.map, go_sem, seval, hs]; exact n2) ?_
  generalize g1.set 0 (jz (am c1 4 (wd n))) = g2 at b2
  generalize am c1 4 (wd n) = c2 at b2 l2 |-
  have i8 : Hq 60 1 (.ptr 0 0) (vi .i64 8) = some (.ptr 0 8) := rfl
  have i9 : Hq 60 1 (.ptr 0 0) (vi .i64 9) = some (.ptr 0 9) := rfl
  have i10 : Hq 60 1 (.ptr 0 0) (vi .i64 10) = some (.ptr 0 10) := rfl
  have t3 := Bl (x := u8 i) b2 (j := 8) (by omega)
  have b3 := List.getElem?_set_self (a := jz (c2.set 8 (u8 i))) (ev b2)
  have l3 : (c2.set 8 (u8 i)).length = 60 := by rw [List.length_set, l2]
  generalize g2.set 0 (jz (c2.set 8 (u8 i))) = g3 at t3 b3
  generalize c2.set 8 (u8 i) = c3 at b3 l3 |-
  have t4 := Bl (x := u8 of_) b3 (j := 9) (by omega)
  have b4 := List.getElem?_set_self (a := jz (c3.set 9 (u8 of_))) (ev b3)
  have l4 : (c3.set 9 (u8 of_)).length = 60 := by rw [List.length_set, l3]
  generalize g3.set 0 (jz (c3.set 9 (u8 of_))) = g4 at t4 b4
  generalize c3.set 9 (u8 of_) = c4 at b4 l4 |-
  have t5 := Bl (x := u8 p.length) b4 (j := 10) (by omega)
  have b5 := List.getElem?_set_self (a := jz (c4.set 10 (u8 p.length))) (ev b4)
  have l5 : (c4.set 10 (u8 p.length)).length = 60 := by rw [List.length_set, l4]
  generalize g4.set 0 (jz (c4.set 10 (u8 p.length))) = g5 at t5 b5
  generalize c4.set 10 (u8 p.length) = c5 at b5 l5 |-
  have s11 : saO g5 60 1 (.ptr 0 0) (some (vi .i64 11)) none = some (.ob 0 11 49 1 true, g5) := sf 11 b5 l5 (by omega)
  have t6 := ac9 (off := 11) (len := 49) (ex := true) (w := u) b5 (by omega) hu.src (by omega)
  have b6 := List.getElem?_set_self (a := jz (am c5 11 p)) (ev b5)
  have l6 : (am c5 11 p).length = 60 := by rw [ey (by omega), l5]
  generalize g5.set 0 (jz (am c5 11 p)) = g6 at t6 b6
  generalize am c5 11 p = c6 at b6 l6 |-
  have cl := Nf (ex := true) (off := 0) (len := 60) b6 (by omega)
  rw [List.drop_zero, List.take_of_length_le (by omega)] at cl
  obtain ⟨v7, h7, n7, w7, r7, S7⟩ := Ai (b := c6) (u := .cv (.sl 1 (eB c6) true)) (.inr ⟨true, rfl⟩) (by omega)
  simp only [go_sem, seval, hs, h2, h3, h4, wu, hu.ln, ax, i8, i9, i10, t3, t4, t5, s11, t6, sa b6 l6]
  refine ap (by simp only [List.map, go_sem, seval, hs]; exact bf cl rfl) n7 r7 ?_
  simp only [go_sem, seval, hs]
  refine ⟨w7, ?_, S7⟩
  rcases S7 with ⟨rfl, _⟩ | ⟨ex, rfl⟩ <;> rfl
 obtain ⟨v, g, n1, w, e1, e2⟩ := this
 exact ⟨v, g, n1, w, e1, e2⟩
open Go Go.Vm
def ks (n : Int) : Bool := decide (0 <= n) && decide (n <= 1073741824)
theorem sq (n : Int) : ∃ h', call F 47 [vi .i64 n] [] = some (.ret (vb (ks n)), h') := by
 have : Ret F 47 [vi .i64 n] [] fun v h' => v = vb (ks n) := by
  refine bc (fn := f47) rfl ?_
  simp only [f47]
  generalize hs0 : ([vi .i64 n] ++ List.replicate _ VV.undef : List VV) = s
  have hs : s.length = 9 := by grind
  have h0 : s.getD 0 .undef = vi .i64 n := by grind
  clear hs0
  unfold ks
  by_cases c : 0 <= n
  ·simp only [go_sem, seval, hs, h0, ge_iff_le, c, Bool.true_and]
  ·simp only [go_sem, seval, hs, h0, ge_iff_le, c, Bool.false_and]
 obtain ⟨v, h', n1, rfl⟩ := this
 grind
open Go Go.Vm
def ma (k : Nat) : Nat -> List UInt8 -> List (List UInt8)
 | 0, _ => []
 | m + 1, l => if l = [] then [] else l.take k :: ma k m (l.drop k)
def pcs (k : Nat) (l : List UInt8) : List (List UInt8) := ma k l.length l
theorem Gk (k : Nat) : ∀ (m : Nat) (l : List UInt8), (ma k m l).length <= m
 | 0, _ => by simp [ma]
 | m + 1, l => by
  unfold ma
  split
  ·simp
  ·have := Gk k m (l.drop k); grind
theorem ajf {h : ae} {z : Nat} {es : List (List CV)} {v : VV} (hv : SlV z es v) {k1 k2 k3 : IntKind} {a b : Nat} (hab : a <= b) (hb : b <= es.length) :
  ∃ v', SlV z ((es.drop a).take (b - a)) v' /\ slO h z v (some (vi k1 a)) (some (vi k2 b)) (some (vi k3 b)) = some (v', h) := by
 rcases hv with ⟨rfl, rfl⟩ | ⟨ex, rfl⟩
 ·simp at hb
  have ha : a = 0 := by omega
  subst hb ha
  exact ⟨ct, .inl ⟨rfl, by simp⟩, by simp [slO, ai, mi, lz, bnd, qg]⟩
 ·refine ⟨.cv (.sl z ((es.drop a).take (b - a)) true), .inr ⟨_, rfl⟩, ?_⟩
  have h1 : (a : Int) <= (b : Int) := by omega
  have h2 : (b : Int) <= (es.length : Int) := by omega
  simp [slO, ai, mi, lz, bnd, qg, h1, h2]
theorem Wj {N : Nat} {s0 : List VV} (hs0 : s0.length = 13) (k2 : s0.getD 2 .undef = .ptr (N + 2) 0) {g : ae} {va : VV} {els : List (List CV)} (hA : g[N + 2]? = some (.box [va] false)) (hB : eu g 1 els va) {p0 : Option Jmp} (hp : g[N + 3]? = some (.loop [7] f72_0 f72_1 s0 .ready p0))
  {c : CV} (hl : els.length <= 1000000000) :
  ∃ h' va', call F (YB + (N + 3)) [.cv c] g = some (.ret (vb true), h') /\ h'[N + 3]? = some (.loop [7] f72_0 f72_1 s0 .ready none) /\ h'[N + 2]? = some (.box [va'] false) /\ eu h' 1 (els ++ [[c]]) va' /\ (∀ (j : Nat), j ≠ N + 2 -> ∀ (cells : List VV) (fr : Bool), g[j]? = some (.box cells fr) -> h'[j]? = some (.box cells fr)) := by
 have key := Gs (F := F) (id := N + 3) (by cases h : F (YB + (N + 3)) with
  | none => rfl
  | some fn => have := tlt h; omega) (ps := [7]) (asg := f72_0) (body := f72_1) (s0 := s0) (a := [.cv c]) (h := g) (P := fun v h' => v = vb true /\ ∃ va', h'[N + 3]? = some (.loop [7] f72_0 f72_1 s0 .ready none) /\ h'[N + 2]? = some (.box [va'] false) /\ eu h' 1 (els ++ [[c]]) va' /\ (∀ (j : Nat), j ≠ N + 2 -> ∀ (cells : List VV) (fr : Bool), g[j]? = some (.box cells fr) -> h'[j]? = some (.box cells fr))) hp rfl ?_
 ·grind
 have hset : tq s0 [7] [.cv c] = s0.set 7 (.cv c) := rfl
 rw [hset, bi f72_0.eq_1]
 simp only [go_sem, seval, hs0]
 refine ⟨rfl, p0, hp, ?_⟩
 dsimp only
 have hp1 : (g.set (N + 3) (.loop [7] f72_0 f72_1 s0 .busy p0))[N + 3]? = some (.loop [7] f72_0 f72_1 s0 .busy p0) := List.getElem?_set_self (ev hp)
 have hA1 : (g.set (N + 3) (.loop [7] f72_0 f72_1 s0 .busy p0))[N + 2]? = some (.box [va] false) := by grind
 have hB1 := hB.setLoop hp (.loop [7] f72_0 f72_1 s0 .busy p0)
 have kp : ∀ (j : Nat) (cells : List VV) (fr : Bool), g[j]? = some (.box cells fr) -> (g.set (N + 3) (.loop [7] f72_0 f72_1 s0 .busy p0))[j]? = some (.box cells fr) := fun j cells fr hj => by
  grind
 generalize g.set (N + 3) (.loop [7] f72_0 f72_1 s0 .busy p0) = g1 at hp1 hA1 hB1 kp
 have m1 : ∀ h : ae, mkO h 1 1 [.cv (.sc (.slice none 0 0))] [(0, 1, .cv c)] = some (.cv (.sl 1 [[c]] true), h) := fun _ => rfl
 rw [bi f72_1.eq_1]
 simp only [go_sem, seval, hs0, k2, iu hA1, m1]
 refine Gw hB1 (new := [[c]]) (by simp only [go_sem, seval, hs0]) (by simp only [go_sem, seval, hs0]) (by grind) (by grind) (fun va' g2 B2 kg => ?_)
 have hA2 := kg.box hA1
 have hp2 := kg.loop hp1
 have st2 := Af (v := va') B2.vf_cell hA2 (show 0 < 1 by decide)
 simp only [List.set_cons_zero] at st2
 simp only [go_sem, seval, hs0, k2, st2]
 refine ⟨none, .busy, p0, rfl, by grind, rfl, va', List.getElem?_set_self (by grind), ?_, ?_, ?_⟩
 ·grind
 ·refine eu.setLoop (ps := [7]) (a := f72_0) (b := f72_1) (s := s0) (t := .busy) (p := p0) (B2.setBox hA2 _) (by grind) _
 ·intro j hj cells fr ho
  have h1 := kg.box (kp j cells fr ho)
  grind
theorem f73_loop {N k : Nat} (hk : 0 < k) (hk2 : k <= 1000000) {s0 : List VV} (hs0 : s0.length = 13) (k2 : s0.getD 2 .undef = .ptr (N + 2) 0) {b : List UInt8} {u : VV} (hu : SlV 1 (eB b) u) (hbl : b.length <= 1000000000) :
  ∀ (m i : Nat) (els : List (List CV)) (va : VV) (ps : List (List UInt8)) (s : List VV) (g : ae) (Q : Pst), i + m = b.length -> els.length <= i -> g[N]? = some (.box [u] false) -> g[N + 1]? = some (.box [vi .i64 k] false) -> g[N + 2]? = some (.box [va] false) -> eu g 1 els va -> PgE els ps ->
   g[N + 3]? = some (.loop [7] f72_0 f72_1 s0 .ready none) -> s.length = 31 -> s.getD 0 .undef = .yield (N + 3) -> s.getD 1 .undef = .ptr N 0 -> s.getD 2 .undef = .ptr (N + 1) 0 -> s.getD 4 .undef = vi .i64 i ->
   (∀ s' g' els' va', s'.length = 31 -> g'[N + 2]? = some (.box [va'] false) -> eu g' 1 els' va' -> PgE els' (ps ++ ma k m (b.drop i)) -> g'[N + 3]? = some (.loop [7] f72_0 f72_1 s0 .ready none) -> Q (.exit 0) ⟨s', g'⟩) -> X F (.loop f73_0) ⟨s, g⟩ Q := by
 intro m
 induction m using Nat.strongRecOn with
 | _ m ih =>
  intro i els va ps s g Q hi hel hN hN1 hA hB hP hp hs e0 e1 e2 e4 hQ
  by_cases hm : m = 0
  ·subst hm
   have c : ¬ ((i : Nat) : Int) < (b.length : Int) := by omega
   rw [ba, bi f73_0.eq_1]
   simp only [go_sem, seval, hs, e4, e1, iu hN, hu.ln, ax, c]
   exact hQ _ g els va (by simp only [ah, hs]) hA hB (by simpa [ma] using hP) hp
  ·have c : ((i : Nat) : Int) < (b.length : Int) := by omega
   obtain ⟨m', rfl⟩ : ∃ m', m = m' + 1 := ⟨m - 1, by omega⟩
   obtain ⟨w1, w1a, w1b⟩ := hu.from_ (h := g) (k := .i64) (a := (i : Int)) (by omega) (by rw [ax]; omega)
   rw [Int.toNat_natCast, Xq] at w1a
   have hln := w1a.ln
   rw [ax, List.length_drop] at hln
   have hmn : min (k : Int) ((b.length - i : Nat) : Int) = ((min k (b.length - i) : Nat) : Int) := by omega
   have hend : IntKind.i64.wrap ((i : Int) + ((min k (b.length - i) : Nat) : Int)) = ((i + min k (b.length - i) : Nat) : Int) := by rw [IntWalk.i64_in _ (by omega)]; omega
   have hnx : IntKind.i64.wrap ((i : Int) + (k : Int)) = ((i + k : Nat) : Int) := by rw [IntWalk.i64_in _ (by omega)]; omega
   obtain ⟨w2, w2a, w2b⟩ := ajf (h := g) hu (k1 := .i64) (k2 := .i64) (k3 := .i64) (a := i) (b := i + min k (b.length - i)) (by omega) (by rw [ax]; omega)
   rw [Hn, Nat.add_sub_cancel_left] at w2a
   have htk : (b.drop i).take (min k (b.length - i)) = (b.drop i).take k := by
    rw [List.take_eq_take_iff, List.length_drop]; omega
   rw [htk] at w2a
   obtain ⟨c2, rfl⟩ : ∃ c2, w2 = .cv c2 := by rcases w2a with ⟨rfl, _⟩ | ⟨ex, rfl⟩ <;> exact ⟨_, rfl⟩
   obtain ⟨g2, va2, n2, hp2, hA2, hB2, kp2⟩ := Wj hs0 k2 hA hB hp (c := c2) (by omega)
   have hne : b.drop i ≠ [] := by
    intro e
    have := congrArg List.length e
    rw [List.length_drop, List.length_nil] at this; omega
   have hpc : ma k (m' + 1) (b.drop i) = (b.drop i).take k :: ma k m' ((b.drop i).drop k) := by
    rw [ma, if_neg hne]
   rw [hpc] at hQ
   rw [ba, bi f73_0.eq_1]
   simp only [go_sem, seval, hs, e4, e1, iu hN, hu.ln, ax, c]
   refine nv rfl ?_
   simp only [go_sem, seval, hs, e4, e1, e2, iu hN, iu hN1, w1b, hln, hmn]
   simp only [go_sem, seval, hs, e4, e1, e0, iu hN, hend, w2b]
   refine Gz (id := N + 3) (by simp only [go_sem, seval, hs]) (by simp only [List.map, go_sem, seval, hs]; exact n2) ?_
   have hN2 := kp2 N (by omega) _ _ hN
   have hN12 := kp2 (N + 1) (by omega) _ _ hN1
   simp only [go_sem, seval, hs, e4, e2, iu hN12, hnx]
   by_cases hlast : b.length <= i + k
   ·-- the last one
    have hdk : (b.drop i).drop k = [] := by rw [List.drop_drop]; exact List.drop_eq_nil_of_le (by omega)
    have hnil : ∀ n, ma k n ([] : List UInt8) = [] := fun n => by cases n <;> simp [ma]
    have c9 : ¬ ((i + k : Nat) : Int) < (b.length : Int) := by omega
    rw [hdk, hnil] at hQ
    rw [ba, bi f73_0.eq_1]
    simp only [go_sem, seval, hs, e1, iu hN2, hu.ln, ax, c9]
    exact hQ _ g2 _ va2 (by simp only [ah, hs]) hA2 hB2 (hP.snoc w2a) hp2
   ·refine ih (m' + 1 - k) (by omega) (i + k) _ va2 (ps ++ [(b.drop i).take k]) _ _ Q (by omega) (by simp; omega) hN2 hN12 hA2 hB2 (hP.snoc w2a) hp2 (by simp only [ah, hs]) (by simp only [go_sem, seval, e0]) (by simp only [go_sem, seval, e1]) (by simp only [go_sem, seval, e2]) (by simp only [go_sem, seval, hs]) (fun s' g' els' va' a1 a2 a3 a4 a5 => hQ s' g' els' va' a1 a2 a3 ?_ a5)
    rw [List.append_assoc] at a4
    have : ma k m' ((b.drop i).drop k) = ma k (m' + 1 - k) (b.drop (i + k)) := by
     rw [List.drop_drop]
     have key : ∀ (n1 n2 : Nat) (l : List UInt8), l.length <= n1 -> l.length <= n2 -> ma k n1 l = ma k n2 l := by
      intro n1
      induction n1 with
      | zero =>
       intro n2 l h1 h2
       have : l = [] := List.eq_nil_of_length_eq_zero (by omega)
       subst this
       cases n2 <;> simp [ma]
      | succ n1 ih1 =>
       intro n2 l h1 h2
       by_cases hl : l = []
       ·subst hl; cases n2 <;> simp [ma]
       ·cases n2 with
        | zero => exact absurd (List.eq_nil_of_length_eq_zero (by omega)) hl
        | succ n2 =>
         have : 0 < l.length := List.length_pos_iff.2 hl
         rw [ma, if_neg hl, ma, if_neg hl, ih1 n2 _ (by rw [List.length_drop]; omega) (by rw [List.length_drop]; omega)]
     refine key _ _ _ (by rw [List.length_drop]; omega) (by rw [List.length_drop]; omega)
    rw [this]
    exact a4
theorem Ln {b : List UInt8} {u : VV} (hu : SlV 1 (eB b) u) (hbl : b.length <= 1000000000) {h : ae} {k N : Nat} (hk : 0 < k) (hk2 : k <= 1000000) (hN : h.length = N + 2) (hN1 : h[N]? = some (.box [u] false)) (hN2 : h[N + 1]? = some (.box [vi .i64 k] false)) :
  Ret F 44 [.func 73 [.ptr N 0, .ptr (N + 1) 0]] h fun v g => ∃ els, eu g 1 els v /\ PgE els (pcs k b) := by
 have n55 : Ret F 72 [ct, .func 73 [.ptr N 0, .ptr (N + 1) 0]] h fun v g => ∃ els, eu g 1 els v /\ PgE els (pcs k b) := by
  refine bc (fn := f72) rfl ?_
  simp only [f72]
  generalize hs0 : ([ct, .func 73 [.ptr N 0, .ptr (N + 1) 0]] ++ List.replicate _ VV.undef : List VV) = s
  have hs : s.length = 13 := by grind
  have h0 : s.getD 0 .undef = ct := by grind
  have h1 : s.getD 1 .undef = .func 73 [.ptr N 0, .ptr (N + 1) 0] := by grind
  clear hs0
  simp only [go_sem, seval, hs, h0]
  rw [Yj rfl]
  simp only [go_sem, seval, hs, h1, hN]
  generalize hs1 : ((s.set 2 (VV.ptr (N + 2) 0)).set 4 ct).set 6 (.func 73 [.ptr N 0, .ptr (N + 1) 0]) = s1
  have a0 : s1.length = 13 := by grind
  have a2 : s1.getD 2 .undef = .ptr (N + 2) 0 := by grind
  have a6 : s1.getD 6 .undef = .func 73 [.ptr N 0, .ptr (N + 1) 0] := by grind
  have gl : (h ++ [VO.box [ct] false]).length = N + 3 := by grind
  have g0 : (h ++ [VO.box [ct] false])[N]? = some (.box [u] false) := by grind
  have g1 : (h ++ [VO.box [ct] false])[N + 1]? = some (.box [vi .i64 k] false) := by grind
  have g2 : (h ++ [VO.box [ct] false])[N + 2]? = some (.box [ct] false) := by grind
  generalize h ++ [VO.box [ct] false] = g at gl g0 g1 g2
  have p2 : ∀ (j : Nat) (o : VO), g[j]? = some o -> (g ++ [.loop [7] f72_0 f72_1 s1 .ready none])[j]? = some o := fun j o ho => by grind
  have hloop : (g ++ [.loop [7] f72_0 f72_1 s1 .ready none])[N + 3]? = some (.loop [7] f72_0 f72_1 s1 .ready none) := by grind
  have zb : Ret F 73 [.yield (N + 3), .ptr N 0, .ptr (N + 1) 0] (g ++ [.loop [7] f72_0 f72_1 s1 .ready none]) fun v g' => ∃ els' va', g'[N + 2]? = some (.box [va'] false) /\ eu g' 1 els' va' /\ PgE els' (pcs k b) /\ g'[N + 3]? = some (.loop [7] f72_0 f72_1 s1 .ready none) := by
   refine bc (fn := f73) rfl ?_
   simp only [f73]
   generalize hs0 : ([.yield (N + 3), .ptr N 0, .ptr (N + 1) 0] ++ List.replicate _ VV.undef : List VV) = s
   have hs : s.length = 31 := by grind
   have h0 : s.getD 0 .undef = .yield (N + 3) := by grind
   have h1 : s.getD 1 .undef = .ptr N 0 := by grind
   have h2 : s.getD 2 .undef = .ptr (N + 1) 0 := by grind
   clear hs0
   simp only [go_sem, Nat.reduceLT, Nat.reduceEqDiff, reduceCtorEq, Int.reduceLT, Int.reduceEq, hs]
   refine f73_loop hk hk2 a0 a2 hu hbl b.length 0 [] ct [] _ _ _ (by omega) (by simp) (p2 _ _ g0) (p2 _ _ g1) (p2 _ _ g2) (eu.nil _ _) .nil hloop (by grind) (by grind) (by grind) (by grind) (by grind) (fun s' g' els' va' b0 b1 b2 b3 b4 => ?_)
   simp only [go_sem, seval, b0]
   exact ⟨els', va', b1, b2, by simpa [pcs] using b3, b4⟩
  obtain ⟨v56, g3, n56, els', va', c1, c2, c3, c4⟩ := zb
  refine zg (f := 73) (caps := [.ptr N 0, .ptr (N + 1) 0]) (t := .ready) (p := none) a6 (by rw [gl]; exact n56) (by grind) (by grind) ?_
  rw [gl]
  have d1 : (g3.set (N + 3) (.loop [7] f72_0 f72_1 s1 .exhausted none))[N + 2]? = some (.box [va'] false) := by grind
  have d2 := c2.setLoop c4 (.loop [7] f72_0 f72_1 s1 .exhausted none)
  generalize g3.set (N + 3) (.loop [7] f72_0 f72_1 s1 .exhausted none) = g4 at d1 d2
  simp only [go_sem, seval, Mj, a0, a2, iu d1]
  grind
 obtain ⟨v, g, n1, P⟩ := n55
 have : Ret F 44 [.func 73 [.ptr N 0, .ptr (N + 1) 0]] h fun v g => ∃ els, eu g 1 els v /\ PgE els (pcs k b) := by
  refine bc (fn := f44) rfl ?_
  simp only [f44]
  generalize hs0 : ([.func 73 [.ptr N 0, .ptr (N + 1) 0]] ++ List.replicate _ VV.undef : List VV) = s
  have hs : s.length = 5 := by grind
  have h0 : s.getD 0 .undef = .func 73 [.ptr N 0, .ptr (N + 1) 0] := by grind
  clear hs0
  simp only [go_sem, seval, hs, h0]
  refine ao (by simp only [List.map, go_sem, seval, hs]; exact n1) ?_
  simp only [go_sem, seval, hs]
  exact P
 exact this
open Go Go.Vm
theorem Mt (k : Nat) (hk : 0 < k) : ∀ (n1 n2 : Nat) (l : List UInt8), l.length <= n1 -> l.length <= n2 -> ma k n1 l = ma k n2 l := by
 intro n1
 induction n1 with
 | zero =>
  intro n2 l h1 h2
  have : l = [] := List.eq_nil_of_length_eq_zero (by omega)
  subst this
  cases n2 <;> simp [ma]
 | succ n1 ih1 =>
  intro n2 l h1 h2
  by_cases hl : l = []
  ·grind
  ·cases n2 with
   | zero => grind
   | succ n2 =>
    have : 0 < l.length := List.length_pos_iff.2 hl
    rw [ma, if_neg hl, ma, if_neg hl, ih1 n2 _ (by grind) (by grind)]
theorem su {k : Nat} (hk : 0 < k) {l : List UInt8} (hl : l ≠ []) : pcs k l = l.take k :: pcs k (l.drop k) := by
 unfold pcs
 have h0 : 0 < l.length := List.length_pos_iff.2 hl
 obtain ⟨m, hm⟩ : ∃ m, l.length = m + 1 := ⟨l.length - 1, by omega⟩
 rw [hm, ma, if_neg hl, Mt k hk m (l.drop k).length _ (by grind) (Nat.le_refl _)]
theorem Sn {k : Nat} : pcs k [] = [] := rfl
theorem Lg {k : Nat} (hk : 0 < k) : ∀ (n : Nat) (l : List UInt8), l.length <= n -> (pcs k l).length = (l.length + (k - 1)) / k
 | 0, l, h => by
  have : l = [] := List.eq_nil_of_length_eq_zero (by omega)
  subst this
  simp only [Sn, List.length_nil, Nat.zero_add]
  exact (Nat.div_eq_of_lt (by omega)).symm
 | n + 1, l, h => by
  by_cases hl : l = []
  ·subst hl
   simp only [Sn, List.length_nil, Nat.zero_add]
   exact (Nat.div_eq_of_lt (by omega)).symm
  ·have h0 : 0 < l.length := List.length_pos_iff.2 hl
   rw [su hk hl, List.length_cons, Lg hk n (l.drop k) (by grind), List.length_drop]
   by_cases hc : k <= l.length
   ·have : l.length + (k - 1) = (l.length - k + (k - 1)) + k := by omega
    simp_all
   ·have e1 : l.length - k = 0 := by omega
    rw [e1, Nat.zero_add, Nat.div_eq_of_lt (by omega)]
    have : l.length + (k - 1) = (l.length - 1) + k := by omega
    rw [this, Nat.add_div_right _ hk, Nat.div_eq_of_lt (by omega)]
theorem Qa {k : Nat} {l : List UInt8} : ∀ p ∈ pcs k l, p.length <= k := by
 unfold pcs
 have key : ∀ (m : Nat) (l : List UInt8), ∀ p ∈ ma k m l, p.length <= k := by
  intro m
  induction m with
  | zero => intro l p hp; simp [ma] at hp
  | succ m ih =>
   intro l p hp
   unfold ma at hp
   grind
 exact key _ _
def li (epoch n of_ : Nat) : Nat -> List (List UInt8) -> List (List UInt8)
 | _, [] => []
 | i, p :: r => kd epoch n i of_ p :: li epoch n of_ (i + 1) r
theorem kq {epoch n of_ : Nat} : ∀ (i : Nat) (l : List (List UInt8)), (li epoch n of_ i l).length = l.length
 | _, [] => rfl
 | i, p :: r => by simp [li, kq (i + 1) r]
def er (epoch n : Int) (l : List Ch) : Option (List (List UInt8)) :=
 if ks epoch = true /\ ks n = true /\ (pcs 49 (gu l)).length <= 200 then some (li epoch.toNat n.toNat (pcs 49 (gu l)).length 0 (pcs 49 (gu l))) else none
def Hs (r : Option (List (List UInt8))) (w : VV) : Prop := match r with
 | none => w = .tup [ct, vb false]
 | some p => ∃ x els, w = .tup [x, vb true] /\ SlV 1 els x /\ PgE els p
theorem zt {n : Int} (h : ks n = true) : n = ((n.toNat : Nat) : Int) /\ n.toNat <= 1073741824 := by
 unfold ks at h
 grind
theorem f19_loop {epoch n : Nat} {ps : List (List UInt8)} {elsP : List (List CV)} {u : VV} {h0 : ae} (hps : PgE elsP ps) (hu : VF h0 1 elsP u) (hp49 : ∀ p ∈ ps, p.length <= 49) (hl : ps.length <= 200) :
  ∀ (m i : Nat) (els : List (List CV)) (v : VV) (acc : List (List UInt8)) (s : List VV) (h : ae) (Q : Pst), i + m = ps.length -> els.length <= i -> NB h0 h 1 els v -> PgE els acc ->
   s.length = 48 -> s.getD 0 .undef = vi .i64 epoch -> s.getD 1 .undef = vi .i64 n -> s.getD 8 .undef = u -> s.getD 9 .undef = v -> s.getD 29 .undef = u -> s.getD 30 .undef = vi .i64 ps.length -> s.getD 31 .undef = vi .i64 i ->
   (∀ s' h' els' v', s'.length = 48 -> s'.getD 9 .undef = v' -> NB h0 h' 1 els' v' -> PgE els' (acc ++ li epoch n ps.length i (ps.drop i)) -> Q (.exit 0) ⟨s', h'⟩) -> X F (.loop f19_2) ⟨s, h⟩ Q := by
 intro m
 have hpl := hps.len
 induction m with
 | zero =>
  intro i els v acc s h Q hi hel hB hP hs e0 e1 e8 e9 e29 e30 e31 hQ
  have c : ¬ ((i : Nat) : Int) < (ps.length : Int) := by omega
  have hd : ps.drop i = [] := List.drop_eq_nil_of_le (by omega)
  rw [hd] at hQ
  rw [ba, bi f19_2.eq_1]
  simp only [go_sem, seval, hs, e31, e30]
  rw [bi f19_1.eq_1]
  simp only [go_sem, seval, hs, c]
  exact hQ _ _ els v (by grind) (by grind) hB (by simpa [li] using hP)
 | succ m ih =>
  intro i els v acc s h Q hi hel hB hP hs e0 e1 e8 e9 e29 e30 e31 hQ
  have c : ((i : Nat) : Int) < (ps.length : Int) := by omega
  obtain ⟨cp, b, he, hb, hc⟩ := hps.get (i := i) (by omega)
  have hd : ps.drop i = b :: ps.drop (i + 1) := by
   obtain ⟨la, rfl⟩ := List.getElem?_eq_some_iff.1 hb
   simp_all
  rw [hd, li] at hQ
  obtain ⟨q, q1, _, _, q3⟩ := (hu.ext hB.ext).cell (k := .i64) he
  have q4 := q3 _ _ rfl
  have hwr : IntKind.i64.wrap ((i : Int) + 1) = ((i + 1 : Nat) : Int) := by rw [IntWalk.i64_in _ (by omega)]; omega
  obtain ⟨v47, h47, n47, w47, r47, S47⟩ := Pn (epoch := epoch) (n := n) (i := i) (of_ := ps.length) hc (hp49 b (List.mem_of_getElem? hb))
  obtain ⟨c47, rfl⟩ : ∃ c2, w47 = .cv c2 := by rcases S47 with ⟨rfl, _⟩ | ⟨ex, rfl⟩ <;> exact ⟨_, rfl⟩
  have m1 : ∀ h : ae, mkO h 1 1 [.cv (.sc (.slice none 0 0))] [(0, 1, .cv c47)] = some (.cv (.sl 1 [[c47]] true), h) := fun _ => rfl
  have hln := (hu.ext hB.ext).ln
  rw [hpl] at hln
  rw [ba, bi f19_2.eq_1]
  simp only [go_sem, seval, hs, e31, e30]
  rw [bi f19_1.eq_1]
  simp only [go_sem, seval, hs, c, e29, e31, q1, q4, e0, e1, e8, e9, hln]
  refine ap (h1 := h) (by simp only [List.map, go_sem, seval, hs]; exact eh (eh (eh (eh (hc.clos rfl))))) n47 r47 ?_
  simp only [go_sem, seval, hs, m1]
  refine nl hB (new := [[c47]]) (by simp only [go_sem, seval, hs]) (by simp only [go_sem, seval, hs]) (by grind) (by grind) (fun v' h' hB' _ _ _ => ?_)
  simp only [go_sem, seval, hs, e31, hwr]
  refine ih (i + 1) _ v' (acc ++ [kd epoch n i ps.length b]) _ _ Q (by omega) (by simp; omega) hB' (hP.snoc S47) (by simp only [ah, hs]) (by simp only [go_sem, seval, e0]) (by simp only [go_sem, seval, e1]) (by simp only [go_sem, seval, e8]) (by simp only [go_sem, seval, hs]) (by simp only [go_sem, seval, e29]) (by simp only [go_sem, seval, e30]) (by simp only [go_sem, seval, hs]) (fun s' h2 els' v2 a1 a2 a3 a4 => hQ s' h2 els' v2 a1 a2 a3 ?_)
  grind
theorem Ja {epoch n : Int} {els : List (List CV)} {l : List Ch} {u : VV} (hS : SlV 3 els u) (hC : ChsE els l) (hl : (gu l).length <= 1000000) (hk : l.length <= 1000000) : Er F 19 [vi .i64 epoch, vi .i64 n, u] (Hs (er epoch n l)) := by
 have : Ret F 19 [vi .i64 epoch, vi .i64 n, u] [] fun v g => ∃ w, au g v = some w /\ Hs (er epoch n l) w := by
  refine bc (fn := f19) rfl ?_
  simp only [f19]
  generalize hs0 : ([vi .i64 epoch, vi .i64 n, u] ++ List.replicate _ VV.undef : List VV) = s
  have hs : s.length = 48 := by grind
  have h0 : s.getD 0 .undef = vi .i64 epoch := by grind
  have h1 : s.getD 1 .undef = vi .i64 n := by grind
  have h2 : s.getD 2 .undef = u := by grind
  clear hs0
  obtain ⟨v46, h46, n46, B46⟩ := afh els l u hS hC [] (by omega) (by omega)
  obtain ⟨w46, r46, S46⟩ : ∃ w, au h46 v46 = some w /\ SlV 1 (eB (gu l)) w := by
   have := B46.close
   exact ⟨_, this, Xb⟩
  obtain ⟨h42a, n42a⟩ := sq epoch
  obtain ⟨h42b, n42b⟩ := sq n
  have n45 : call F 45 [w46, vi .i64 49] [] = some (.ret (.func 73 [.ptr 0 0, .ptr 1 0]), [VO.box [w46] false, .box [vi .i64 49] false]) := by
   have : Ret F 45 [w46, vi .i64 49] [] fun v g => v = .func 73 [.ptr 0 0, .ptr 1 0] /\ g = [VO.box [w46] false, .box [vi .i64 49] false] := by
    refine bc (fn := f45) rfl ?_
    simp only [f45]
    generalize hs0 : ([w46, vi .i64 49] ++ List.replicate _ VV.undef : List VV) = s
    have hs : s.length = 9 := by grind
    have h0 : s.getD 0 .undef = w46 := by grind
    have h1 : s.getD 1 .undef = vi .i64 49 := by grind
    clear hs0
    have cw : en w46 = true := by rcases S46 with ⟨rfl, _⟩ | ⟨ex, rfl⟩ <;> rfl
    simp only [go_sem, seval, hs, h0]
    rw [Yj cw]
    simp only [go_sem, seval, hs, h1]
    rw [Yj rfl]
    have l1 : ldO ([VO.box [w46] false, VO.box [vi .i64 49] false] : ae) false 1 (.ptr 1 0) = some (vi .i64 49, [VO.box [w46] false, VO.box [vi .i64 49] false]) := iu rfl
    simp only [go_sem, seval, hs, List.nil_append, List.cons_append, List.length_nil, List.length_cons, Nat.zero_add, Nat.reduceAdd]
    rw [bi f45_0.eq_1]
    simp only [go_sem, seval, hs, l1, show ¬ (49 : Int) < 1 by decide, List.map]
    grind
   obtain ⟨v, h', e1, rfl, rfl⟩ := this
   exact e1
  obtain ⟨v44, h44, n44, elsP, B44, P44⟩ := Ln S46 (by omega) (h := [VO.box [w46] false, .box [vi .i64 49] false]) (k := 49) (N := 0) (by omega) (by omega) rfl rfl rfl
  have hpl := P44.len
  have hln := B44.vf.ln
  rw [hpl] at hln
  simp only [go_sem, seval, hs, h2]
  refine ap (h1 := []) (by simp only [List.map, go_sem, seval, hs]; exact hS.clos rfl) n46 r46 ?_
  simp only [go_sem, seval, hs]
  refine ao (by simp only [List.map, go_sem, seval, hs]; exact n45) ?_
  simp only [go_sem, seval, hs]
  refine ao (by simp only [List.map, go_sem, seval, hs]; exact n44) ?_
  simp only [go_sem, seval, hs]
  rw [bi f19_0.eq_1]
  simp only [go_sem, seval, hs, h0]
  refine ap (h1 := h44) (by simp only [List.map, go_sem, seval, hs]; rfl) n42a rfl ?_
  have bad : ∀ g, er epoch n l = none -> ∃ w, au g (.tup [ct, vb false]) = some w /\ Hs (er epoch n l) w := fun g e => ⟨_, rfl, by rw [e]; rfl⟩
  by_cases c1 : ks epoch = true
  ·simp only [go_sem, seval, hs, c1, h1]
   refine ap (h1 := h44) (by simp only [List.map, go_sem, seval, hs]; rfl) n42b rfl ?_
   by_cases c2 : ks n = true
   ·obtain ⟨e1, e2⟩ := zt c1
    obtain ⟨e3, e4⟩ := zt c2
    by_cases c3 : (200 : Int) < ((pcs 49 (gu l)).length : Int)
    ·simp only [go_sem, seval, hs, c2, hln, gt_iff_lt, c3]
     exact bad _ (by unfold er; grind)
    ·simp only [go_sem, Nat.reduceLT, Nat.reduceEqDiff, reduceCtorEq, Int.reduceLT, Int.reduceEq, hs, c2, hln, gt_iff_lt, c3]
     refine f19_loop (h0 := h44) P44 B44.vf (fun p hp => Qa p hp) (by omega) (pcs 49 (gu l)).length 0 [] ct [] _ _ _ (by omega) (by simp) (NB.nil _ _) .nil (by simp only [ah, hs]) (by simp only [go_sem, Nat.reduceLT, Nat.reduceEqDiff, reduceCtorEq, Int.reduceLT, Int.reduceEq, h0]; exact congrArg _ e1) (by simp only [go_sem, Nat.reduceLT, Nat.reduceEqDiff, reduceCtorEq, Int.reduceLT, Int.reduceEq, h1]; exact congrArg _ e3) (by simp only [go_sem, Nat.reduceLT, Nat.reduceEqDiff, reduceCtorEq, Int.reduceLT, Int.reduceEq, hs]) (by simp only [go_sem, Nat.reduceLT, Nat.reduceEqDiff, reduceCtorEq, Int.reduceLT, Int.reduceEq, hs]) (by simp only [go_sem, Nat.reduceLT, Nat.reduceEqDiff, reduceCtorEq, Int.reduceLT, Int.reduceEq, hs]) (by simp only [go_sem, Nat.reduceLT, Nat.reduceEqDiff, reduceCtorEq, Int.reduceLT, Int.reduceEq, hs]) (by simp only [go_sem, Nat.reduceLT, Nat.reduceEqDiff, reduceCtorEq, Int.reduceLT, Int.reduceEq, hs]; rfl) (fun s' h' els' v' a1 a2 a3 a4 => ?_)
     obtain ⟨w, r1, r2⟩ : ∃ w, au h' (.tup [v', vb true]) = some (.tup [w, vb true]) /\ SlV 1 els' w := by
      obtain ⟨w, g, d1, d2⟩ := a3.clos
      exact ⟨w, by simp only [au, bf d1 (eh mc), Option.map], d2⟩
     simp only [go_sem, seval, a1, a2]
     refine ⟨_, r1, ?_⟩
     have : er epoch n l = some (li epoch.toNat n.toNat (pcs 49 (gu l)).length 0 (pcs 49 (gu l))) := by
      unfold er; grind
     rw [this]
     exact ⟨w, els', rfl, r2, by grind⟩
   ·have c2' : ks n = false := by grind
    simp only [go_sem, seval, hs, c2']
    exact bad _ (by unfold er; grind)
  ·have c1' : ks epoch = false := by grind
   simp only [go_sem, seval, hs, c1']
   exact bad _ (by unfold er; grind)
 obtain ⟨v, g, n1, w, e1, e2⟩ := this
 exact ⟨v, g, n1, w, e1, e2⟩
open Go Go.Vm
open Go Go.Vm
def kOf (b : List UInt8) : Nat := (b.getD 10 0).toNat
def Lz (b : List UInt8) : Nat := (b.getD 9 0).toNat
def my (b : List UInt8) : List UInt8 := (b.drop 11).take (kOf b)
def ov (epoch n i of_ : Nat) (b : List UInt8) : Prop :=
 b.length = 64 /\ 1 <= kOf b /\ kOf b <= 49 /\ 1 <= of_ /\ of_ <= 200 /\ (of_ <= i + 1 \/ kOf b = 49) /\ kd epoch n i of_ (my b) = b
instance {epoch n i of_ : Nat} {b : List UInt8} : Decidable (ov epoch n i of_ b) := by unfold ov; infer_instance
def frL (epoch n of_ : Nat) : Nat -> Nat -> List (List UInt8) -> List UInt8 -> Option (List UInt8)
 | 0, _, _, acc => some acc
 | m + 1, i, ss, acc => match ss with
  | [] => none
  | b :: r => if ov epoch n i of_ b then (if i + 1 < of_ then frL epoch n of_ m (i + 1) r (acc ++ my b) else some (acc ++ my b)) else none
theorem Oy {b : List UInt8} (h : b.length = 64) (h2 : kOf b <= 49) : (my b).length = kOf b := by
 unfold my; grind
def f65_t : IR :=
 (.seq
 (.seq (.reg [
 ⟨none, (some 89), (.mv (.t 8))⟩,
 ⟨none, (some 90), (.call 84 true [(.t 89)])⟩,
 ⟨none, (some 88), (.mv (.t 90))⟩,
 ⟨none, (some 91), (.ext (.t 88) 0)⟩,
 ⟨none, (some 92), (.ext (.t 88) 1)⟩,
 ⟨none, (some 9), (.mv (.t 91))⟩,
 ⟨none, (some 10), (.mv (.t 92))⟩])
 (.seq (.reg [
 ⟨none, (some 93), (.mv (.t 10))⟩,
 ⟨none, (some 94), (.bin .eql (.t 93) (.c (.cv (.sc (.int .u16 0)))))⟩])
 (.cond (.t 94)
 (.seq (.reg [
 ⟨none, (some 95), (.mv (.t 9))⟩,
 ⟨none, (some 96), (.mv (.t 12))⟩,
 ⟨none, (some 6), (.mv (.t 95))⟩,
 ⟨none, (some 7), (.mv (.t 96))⟩])
 .ret) .skip)))
 (.seq (.label 0)
 (.seq (.reg [
 ⟨none, (some 6), (.mv (.c (.cv (.sc (.slice none 0 0)))))⟩,
 ⟨none, (some 7), (.mv (.c (.cv (.sc (.int .i64 0)))))⟩])
 .ret)))
theorem ack {b : List UInt8} {i : Nat} (h : i < b.length) : b[i]? = some (b.getD i 0) := by
 grind
section
variable {epoch n : Nat} {ss : List (List UInt8)} {elsS : List (List CV)} {u : VV} {h0 : ae}
theorem f65_loop (hP : PgE elsS ss) (hu : VF h0 1 elsS u) {of_ : Nat} (hof : ∀ b, ss[0]? = some b -> of_ = Lz b) :
  ∀ (m i : Nat) (acc : List UInt8) (va : VV) (s : List VV) (h : ae) (Q : Pst), m + i = 200 -> (i = 0 \/ (i < of_ /\ of_ <= 200)) -> i <= ss.length -> acc.length <= 49 * i -> NB h0 h 1 (eB acc) va ->
   s.length = 97 -> s.getD 0 .undef = vi .i64 epoch -> s.getD 1 .undef = vi .i64 n -> s.getD 2 .undef = u -> s.getD 8 .undef = va -> s.getD 11 .undef = vi .i64 i -> (i = 0 /\ s.getD 12 .undef = vi .i64 1 \/ s.getD 12 .undef = vi .i64 of_) ->
   (frL epoch n of_ m i (ss.drop i) acc = none -> ∀ s' h', s'.length = 97 -> s'.getD 6 .undef = ct -> s'.getD 7 .undef = vi .i64 0 -> HExt h0 h' -> Q .ret ⟨s', h'⟩) ->
   (∀ all, frL epoch n of_ m i (ss.drop i) acc = some all -> ∀ s' h' va', s'.length = 97 -> s'.getD 8 .undef = va' -> s'.getD 12 .undef = vi .i64 of_ -> NB h0 h' 1 (eB all) va' -> all.length <= 10000 -> X F f65_t ⟨s', h'⟩ (S F f65_4 Q)) -> XF F f65_4 1 ⟨s, h⟩ (S F f65_4 Q) := by
 intro m
 have hpl := hP.len
 induction m with
 | zero => intro i acc va s h Q hm hio; omega
 | succ m ih =>
  intro i acc va s h Q hm hio hile hac hB hs e0 e1 e2 e8 e11 e12 hN hY
  have bad : frL epoch n of_ (m + 1) i (ss.drop i) acc = none -> ∀ s' h', s'.length = 97 -> HExt h0 h' -> S F f65_4 Q (.goto 0) ⟨s', h'⟩ := by
   intro hno s' h' hs' hx
   rw [Ol rfl, Vs f65_4.eq_1, dv rfl, dv rfl, dv rfl, dv rfl, dv rfl, dv rfl, dv rfl, dv rfl, dv rfl, Az rfl, wj]
   simp only [go_sem, seval, hs']
   exact hN hno _ h' (by simp only [ah, hs']) (by simp only [go_sem, seval, hs']) (by simp only [go_sem, seval, hs']) hx
  rw [Vs f65_4.eq_1, dv rfl, dv rfl, dv rfl, dv rfl, Az rfl, wj]
  show X F (.seq f65_0 (.seq _ (.seq _ f65_t))) ⟨s, h⟩ _
  rw [aez, bi f65_0.eq_1]
  have hv := hu.ext hB.ext
  by_cases d0 : i = ss.length
  ·have d0' : (i : Int) = (elsS.length : Int) := by omega
   simp only [go_sem, seval, hs, e11, e2, hv.ln, d0']
   exact bad (by rw [d0, List.drop_length]; rfl) _ _ (by simp only [ah, hs]) hB.ext
  have d0' : ¬ (i : Int) = (elsS.length : Int) := by omega
  obtain ⟨cb, b, he, hb, hc⟩ := hP.get (i := i) (by omega)
  have hd : ss.drop i = b :: ss.drop (i + 1) := by
   obtain ⟨la, e⟩ := List.getElem?_eq_some_iff.1 hb
   rw [List.drop_eq_getElem_cons la, e]
  have hno : ¬ ov epoch n i of_ b -> frL epoch n of_ (m + 1) i (ss.drop i) acc = none := fun hn => by rw [hd]; simp only [frL]; rw [if_neg hn]
  obtain ⟨q, q1, _, _, q3⟩ := hv.cell (k := .i64) he
  have q4 := q3 _ _ rfl
  by_cases d1 : b.length = 64
  ·have d1' : ¬ ((b.length : Nat) : Int) ≠ 64 := by omega
   have i10 : ∀ g : ae, iaO g 1 (.cv cb) (vi .i64 10) = some (.rptr (br (b.getD 10 0)), g) := fun g => hc.ia (by omega) (by show (eB b)[10]? = _; exact yo (ack (by omega)))
   have i9 : ∀ g : ae, iaO g 1 (.cv cb) (vi .i64 9) = some (.rptr (br (b.getD 9 0)), g) := fun g => hc.ia (by omega) (by show (eB b)[9]? = _; exact yo (ack (by omega)))
   have k10 : ∀ g : ae, ldO g false 1 (.rptr (br (b.getD 10 0))) = some (vi .u8 (kOf b), g) := fun g => ij
   have k9 : ∀ g : ae, ldO g false 1 (.rptr (br (b.getD 9 0))) = some (vi .u8 (Lz b), g) := fun g => ij
   have hk256 : kOf b < 256 := (b.getD 10 0).toNat_lt
   have ho256 : Lz b < 256 := (b.getD 9 0).toNat_lt
   have wk : IntKind.i64.wrap (kOf b : Int) = (kOf b : Int) := IntWalk.i64_in _ (by omega)
   have wo : IntKind.i64.wrap (Lz b : Int) = (Lz b : Int) := IntWalk.i64_in _ (by omega)
   simp only [go_sem, seval, hs, e11, e2, hv.ln, d0', q1, q4, hc.ln, ax, d1', i10, k10, wk]
   refine mid (P := fun st => st.h = h /\ st.s.length = 97 /\ st.s.getD 0 .undef = vi .i64 epoch /\ st.s.getD 1 .undef = vi .i64 n /\ st.s.getD 2 .undef = u /\ st.s.getD 8 .undef = va /\ st.s.getD 11 .undef = vi .i64 i /\ st.s.getD 12 .undef = vi .i64 of_ /\ st.s.getD 13 .undef = .cv cb /\ st.s.getD 14 .undef = vi .i64 (kOf b)) ?_ ?_
   ·rw [bi f65_1.eq_1]
    by_cases d2 : i = 0
    ·have d2' : ((i : Nat) : Int) = 0 := by omega
     have e : of_ = Lz b := hof b (by rw [<- d2]; exact hb)
     simp only [go_sem, seval, hs, e11, d2', i9, k9, wo, e, e0, e1, e2, e8, and_self]
    ·have d2' : ¬ ((i : Nat) : Int) = 0 := by omega
     have e : s.getD 12 .undef = vi .i64 of_ := by
      rcases e12 with ⟨e, _⟩ | e
      ·exact absurd e d2
      ·exact e
     simp only [go_sem, seval, hs, e11, d2', e0, e1, e2, e8, e, and_self]
   ·rintro ⟨s1, h1⟩ ⟨rfl, hs1, ff0, ff1, ff2, ff8, ff11, ff12, ff13, ff14⟩
    dsimp only at hs1 ff0 ff1 ff2 ff8 ff11 ff12 ff13 ff14
    rw [aez]
    have hof256 : of_ < 256 := by
     rcases hio with h | h
     ·have := hof b (by rw [<- h]; exact hb); omega
     ·omega
    have wof : IntKind.i64.wrap ((of_ : Int) - 1) = (of_ : Int) - 1 := IntWalk.i64_in _ (by omega)
    by_cases g1 : (kOf b : Int) < 1
    ·rw [bi f65_2.eq_1]
     simp only [go_sem, seval, hs1, ff14, g1]
     exact bad (hno (fun hh => by have := hh.2.1; omega)) _ _ (by simp only [ah, hs1]) hB.ext
    by_cases g2 : (49 : Int) < (kOf b : Int)
    ·rw [bi f65_2.eq_1]
     simp only [go_sem, seval, hs1, ff14, g1, gt_iff_lt, g2]
     exact bad (hno (fun hh => by have := hh.2.2.1; omega)) _ _ (by simp only [ah, hs1]) hB.ext
    by_cases g3 : (of_ : Int) < 1
    ·rw [bi f65_2.eq_1]
     simp only [go_sem, seval, hs1, ff14, ff12, g1, gt_iff_lt, g2, g3]
     exact bad (hno (fun hh => by have := hh.2.2.2.1; omega)) _ _ (by simp only [ah, hs1]) hB.ext
    by_cases g4 : (200 : Int) < (of_ : Int)
    ·rw [bi f65_2.eq_1]
     simp only [go_sem, seval, hs1, ff14, ff12, g1, gt_iff_lt, g2, g3, g4]
     exact bad (hno (fun hh => by have := hh.2.2.2.2.1; omega)) _ _ (by simp only [ah, hs1]) hB.ext
    have w11 : IntKind.i64.wrap (11 + (kOf b : Int)) = ((11 + kOf b : Nat) : Int) := by rw [IntWalk.i64_in _ (by omega)]; omega
    have hbl := Oy d1 (by omega)
    have wi1 : IntKind.i64.wrap ((i : Int) + 1) = ((i + 1 : Nat) : Int) := by rw [IntWalk.i64_in _ (by omega)]; omega
    obtain ⟨wp, sp, psl⟩ : ∃ v', SlV 1 (eB (my b)) v' /\ ∀ g : ae, slO g 1 (.cv cb) (some (vi .i64 11)) (some (vi .i64 ((11 + kOf b : Nat) : Int))) none = some (v', g) := by
     rcases hc with ⟨e, e'⟩ | ⟨ex, e'⟩
     ·exfalso
      have := congrArg List.length e'
      rw [ax, List.length_nil] at this; omega
     ·cases e'
      refine ⟨.cv (.sl 1 (eB (my b)) (ex && (11 + kOf b == (eB b).length))), .inr ⟨_, rfl⟩, fun g => ?_⟩
      have e1 : (11 : Int) <= ((11 + kOf b : Nat) : Int) := by omega
      have e2 : ((11 + kOf b : Nat) : Int) <= ((eB b).length : Int) := by rw [ax]; omega
      have e3 : ((11 + kOf b : Nat) : Int).toNat = 11 + kOf b := by omega
      have e4 : (0 : Int) <= ((11 + kOf b : Nat) : Int) := by omega
      have e5 : (11 : Int) <= max ((11 + kOf b : Nat) : Int) 0 := by omega
      simp only [slO, ai, mi, lz, bnd, qg, Option.map_some, Option.map_none]
      rw [if_pos ⟨e4, e2⟩, e3]
      simp only
      rw [if_pos ⟨by decide, e1⟩]
      simp [Hn, my]
    obtain ⟨v47, h47, n47, w47, r47, S47⟩ := Pn (epoch := epoch) (n := n) (i := i) (of_ := of_) sp (by rw [hbl]; omega)
    have neq := rm S47 hc
    by_cases hor : of_ <= i + 1 \/ kOf b = 49
    ·refine mid (P := fun st => st.h = h1 /\ st.s.length = 97 /\ st.s.getD 0 .undef = vi .i64 epoch /\ st.s.getD 1 .undef = vi .i64 n /\ st.s.getD 2 .undef = u /\ st.s.getD 8 .undef = va /\ st.s.getD 11 .undef = vi .i64 i /\ st.s.getD 12 .undef = vi .i64 of_ /\ st.s.getD 13 .undef = .cv cb /\ st.s.getD 14 .undef = vi .i64 (kOf b)) ?_ ?_
     ·rw [bi f65_2.eq_1]
      by_cases g5 : (i : Int) < (of_ : Int) - 1
      ·have g6 : ¬ (kOf b : Int) < 49 := by omega
       simp only [go_sem, seval, hs1, ff14, ff12, ff11, g1, gt_iff_lt, g2, g3, g4, wof, g5, g6, ff0, ff1, ff2, ff8, ff13, and_self]
      ·simp only [go_sem, seval, hs1, ff14, ff12, ff11, g1, gt_iff_lt, g2, g3, g4, wof, g5, ff0, ff1, ff2, ff8, ff13, and_self]
     rintro ⟨s2, h1'⟩ ⟨e, hs2, p0, p1, p2, p8, p11, p12, p13, p14⟩
     dsimp only at e hs2 p0 p1 p2 p8 p11 p12 p13 p14
     subst e
     simp only [go_sem, seval, hs2]
     rw [bi f65_3.eq_1]
     simp only [go_sem, seval, hs2, p0, p1, p11, p12, p13, p14, w11, psl]
     refine ap (h1 := h1') (by simp only [List.map, go_sem, seval, hs2]; exact eh (eh (eh (eh (sp.clos rfl))))) n47 r47 ?_
     simp only [go_sem, seval, hs2, p13]
     refine ap (h1 := h1') (by simp only [List.map, go_sem, seval, hs2]; exact S47.clos (hc.clos rfl)) neq rfl ?_
     by_cases g5 : kd epoch n i of_ (my b) = b
     ·have hok : ov epoch n i of_ b := ⟨d1, by omega, by omega, by omega, by omega, hor, g5⟩
      simp only [go_sem, seval, hs2, g5, decide_true, p8, p13, p14, w11, psl]
      refine nl hB (new := eB (my b)) (by simp only [go_sem, seval, hs2]) (by simp only [go_sem, seval, hs2]; exact sp.src) (by rw [ax, ax]; omega) (by rw [ax, ax]; omega) (fun v' h' hB' _ _ _ => ?_)
      rw [<- im] at hB'
      have hfr : frL epoch n of_ (m + 1) i (ss.drop i) acc = if i + 1 < of_ then frL epoch n of_ m (i + 1) (ss.drop (i + 1)) (acc ++ my b) else some (acc ++ my b) := by
       rw [hd]; simp only [frL]; rw [if_pos hok]
      rw [hfr] at hN hY
      simp only [go_sem, seval, hs2, p11, p12, wi1]
      by_cases g6 : i + 1 < of_
      ·have g6' : ((i + 1 : Nat) : Int) < (of_ : Int) := by omega
       rw [if_pos g6] at hN hY
       simp only [go_sem, seval, hs2, g6']
       rw [Ol rfl]
       exact ih (i + 1) (acc ++ my b) v' _ _ Q (by omega) (.inr ⟨g6, by omega⟩) (by omega) (by rw [List.length_append]; omega) hB' (by simp only [ah, hs2]) (by simp only [go_sem, seval, p0]) (by simp only [go_sem, seval, p1]) (by simp only [go_sem, seval, p2]) (by simp only [go_sem, seval, hs2]) (by simp only [go_sem, seval, hs2]) (.inr (by simp only [go_sem, seval, p12])) hN hY
      ·have g6' : ¬ ((i + 1 : Nat) : Int) < (of_ : Int) := by omega
       rw [if_neg g6] at hN hY
       simp only [go_sem, seval, hs2, g6']
       exact hY _ rfl _ _ v' (by simp only [ah, hs2]) (by simp only [go_sem, seval, hs2]) (by simp only [go_sem, seval, p12]) hB' (by rw [List.length_append]; omega)
     ·simp only [go_sem, seval, hs2, g5, decide_false]
      exact bad (hno (fun hh => g5 hh.2.2.2.2.2.2)) _ _ (by simp only [ah, hs2]) hB.ext
    ·have g5 : (i : Int) < (of_ : Int) - 1 := by omega
     have g6 : (kOf b : Int) < 49 := by omega
     rw [bi f65_2.eq_1]
     simp only [go_sem, seval, hs1, ff14, ff12, ff11, g1, gt_iff_lt, g2, g3, g4, wof, g5, g6]
     exact bad (hno (fun hh => hor hh.2.2.2.2.2.1)) _ _ (by simp only [ah, hs1]) hB.ext
  ·have d1' : ((b.length : Nat) : Int) ≠ 64 := by omega
   simp only [go_sem, seval, hs, e11, e2, hv.ln, d0', q1, q4, hc.ln, ax, d1']
   exact bad (hno (fun hh => d1 hh.1)) _ _ (by simp only [ah, hs]) hB.ext
end
end Go.V08
