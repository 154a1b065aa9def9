/- Part of a proof: of what it says, and when, each theorem tells itself. -/
import Derived.Test.YtbhoknaipfnlnaaC08Ir
import Derived.Test.YtbhoknaipfnlnaaVmAll2
set_option linter.unusedSimpArgs false
set_option linter.unusedVariables false
namespace Go.V08
open Go Go.Vm
def u8 (n : Nat) : UInt8 := UInt8.ofNat n
def wr : Nat -> Nat -> List UInt8
 | 0, n => [u8 n]
 | k + 1, n => if 127 < n then u8 (128 + n % 128) :: wr k (n / 128) else [u8 n]
def num (n : Nat) : List UInt8 := wr 8 n
theorem iw (a b : List UInt8) : eB (a ++ b) = eB a ++ eB b := by simp [eB]
theorem ak0 (n : Nat) (h : n < 256) : eB [u8 n] = [[.sc (.int .u8 n)]] := by
 simp only [eB, List.map, ba, u8]
 rw [UInt8.toNat_ofNat']
 grind
theorem Yi (m : Nat) (h : m < 256) : bits .or .u8 (m : Int) 128 = ((128 + m % 128 : Nat) : Int) := by
 have : ∀ m : Fin 256, bits .or .u8 ((m.val : Nat) : Int) 128 = ((128 + m.val % 128 : Nat) : Int) := by decide +kernel
 exact this ⟨m, h⟩
theorem f74_loop : ∀ (k n : Nat) (out : List UInt8) (h0 : ah) (s : List VV) (h : ah) (v : VV) (Q : Pst), n < 128 ^ (k + 1) -> n < 9223372036854775808 -> out.length + k <= 100 -> s.length = 22 ->
  s.getD 0 .undef = vi .i64 n -> s.getD 3 .undef = v -> Buf h0 1 (eB out) v h ->
  (∀ (n' : Nat) (out' : List UInt8) s' h' v', s'.length = 22 -> s'.getD 0 .undef = vi .i64 n' -> n' <= 127 -> s'.getD 3 .undef = v' -> Buf h0 1 (eB out') v' h' -> out' ++ [u8 n'] = out ++ wr k n -> Q (.exit 0) ⟨s', h'⟩) ->
  X F (.loop f74_0) ⟨s, h⟩ Q := by
 intro k
 induction k with
 | zero =>
  intro n out h0 s h v Q hn hn2 hlen hs h1 h2 hb hQ
  rw [aw, bf f74_0.eq_1]
  simp only [go_sem, seval, hs, h1]
  refine Oc (fun hc => ?_) (fun hc => ?_)
  ·omega
  ·simp only [go_sem, seval]
   refine hQ n out _ h v (by grind) ?_ (by omega) ?_ hb ?_
   ·grind
   ·grind
   ·rfl
 | succ k ih =>
  intro n out h0 s h v Q hn hn2 hlen hs h1 h2 hb hQ
  rw [aw, bf f74_0.eq_1]
  simp only [go_sem, seval, hs, h1]
  refine Oc (fun hc => ?_) (fun hc => ?_)
  ·simp only [go_sem, seval, hs, h1, h2]
   have e1 : bits .or .u8 (IntKind.u8.wrap n) 128 = ((128 + n % 128 : Nat) : Int) := by
    rw [IntKind.wrap_u8]
    have hm : ((n : Int) % 256) = ((n % 256 : Nat) : Int) := by omega
    rw [hm]
    have := Yi (n % 256) (by omega)
    omega
   rw [e1]
   refine So (new := eB [u8 (128 + n % 128)]) hb (by simp only [go_sem, seval, hs]) ?_ ?_ ?_ (fun v' h' hb' => ?_)
   ·simp only [go_sem, seval, hs]
    rw [ak0 _ (by omega)]
   ·simp [eB]; omega
   ·simp [eB]; omega
   ·simp only [go_sem, Nat.reduceLT, Nat.reduceEqDiff, reduceCtorEq, Int.reduceLT, Int.reduceEq, hs, h1, ny, not_false_eq_true]
    have e2 : ((n : Int).fdiv (2 ^ min (7 : Int).toNat 64)) = ((n / 128 : Nat) : Int) := by
     grind
    rw [e2]
    rw [<- iw] at hb'
    refine ih (n / 128) (out ++ [u8 (128 + n % 128)]) h0 _ h' v' Q ?_ ?_ ?_ ?_ ?_ ?_ hb' ?_
    ·omega
    ·omega
    ·simp; omega
    ·simp only [go_sem, seval, hs]
    ·simp only [go_sem, seval, hs]
    ·simp only [go_sem, seval, hs]
    ·intro n' out' s' h'' v'' a1 a2 a3 a4 a5 a6
     refine hQ n' out' s' h'' v'' a1 a2 a3 a4 a5 ?_
     rw [a6]
     have : 127 < n := by omega
     simp [wr, this]
  ·simp only [go_sem, seval]
   refine hQ n out _ h v (by grind) ?_ (by omega) ?_ hb ?_
   ·grind
   ·grind
   ·have : ¬ 127 < n := by omega
    simp only [wr, if_neg this]
def kh (n : Int) : Nat := (max 0 (min n 9007199254740992)).toNat
theorem Lr : ∀ k n, (wr k n).length <= k + 1
 | 0, _ => by simp [wr]
 | k + 1, n => by
  simp only [wr]
  split
  ·simp only [List.length_cons]
   have := Lr k (n / 128)
   omega
  ·simp
theorem Mm (n : Int) (h : ah) : ∃ v h', call F 74 [vi .i64 n] h = some (.ret v, h') /\ Buf h 1 (eB (num (kh n))) v h' := by
 refine bj (fn := f74) rfl ?_
 simp only [f74, List.length_cons, List.length_nil, List.cons_append, List.nil_append]
 generalize hs0 : (vi .i64 n :: List.replicate (22 - (0 + 1)) VV.undef) = s
 have hs : s.length = 22 := by grind
 have h0 : s.getD 0 .undef = vi .i64 n := by grind
 clear hs0
 simp only [go_sem, seval, hs, h0]
 have ec : max 0 (min n 9007199254740992) = ((kh n : Nat) : Int) := by unfold kh; omega
 have hc : kh n <= 9007199254740992 := by omega
 refine f74_loop 8 (kh n) [] h _ h br _ ?_ ?_ ?_ ?_ ?_ ?_ (Buf.nil _ _) ?_
 ·omega
 ·omega
 ·decide
 ·grind
 ·grind
 ·grind
 ·intro n' out' s' h' v' a1 a2 a3 a4 a5 a6
  simp only [go_sem, seval, a1, a2, a4]
  have e1 : IntKind.u8.wrap (n' : Int) = n' := IntWalk.u8_in _ (by omega)
  rw [e1]
  have hl : (out' ++ [u8 n']).length <= 20 := by rw [a6]; simp only [List.nil_append]; have := Lr 8 (kh n); omega
  simp at hl
  refine So (new := eB [u8 n']) a5 (by simp only [go_sem, seval, a1]) ?_ ?_ ?_ (fun v' h' hb' => ?_)
  ·simp only [go_sem, seval, a1]
   rw [ak0 _ (by omega)]
  ·simp [eB]; omega
  ·simp [eB]; omega
  ·simp only [go_sem, seval, a1]
   rw [<- iw, a6] at hb'
   exact hb'
def jk (l : List UInt8) : List UInt8 := num (kh l.length) ++ l
theorem Hf (l : List UInt8) (h : ah) (hl : l.length <= 1000000000) : ∃ v h', call F 75 [txt l] h = some (.ret v, h') /\ Buf h 1 (eB (jk l)) v h' := by
 refine bj (fn := f75) rfl ?_
 simp only [f75]
 generalize hs0 : ([txt l] ++ List.replicate _ VV.undef : List VV) = s
 have hs : s.length = 8 := by grind
 have h0 : s.getD 0 .undef = txt l := by grind
 clear hs0
 simp only [go_sem, seval, hs, h0]
 obtain ⟨v, h', hc, hb⟩ := Mm l.length h
 refine ap (v := v) (h' := h') (by simp only [List.map, go_sem, seval, hs]; exact hc) ?_
 simp only [go_sem, seval, hs, h0]
 have hn : (num (kh l.length)).length <= 9 := Lr 8 _
 refine So hb (new := eB l) (by simp only [go_sem, seval, hs]) (by simp only [go_sem, seval, hs]; exact adu) (by simp only [ax]; omega) (by simp only [ax]; omega) (fun v' h' hb' => ?_)
 simp only [go_sem, seval, hs]
 rw [<- iw] at hb'
 exact hb'
def zj : Nat -> List UInt8 -> Nat -> Nat -> Nat -> Nat × Nat × Nat
 | 0, _, _, _, _ => (0, 0, 11)
 | _ + 1, [], _, _, _ => (0, 0, 10)
 | k + 1, c :: r, at_, i, n =>
  let m := n + c.toNat % 128 * 128 ^ i
  if c.toNat < 128 then (if (c.toNat = 0 /\ 0 < i) \/ 9007199254740992 < m then (0, 0, 11) else (m, at_ + i + 1, 0)) else zj k r at_ (i + 1) m
def cf (b : List UInt8) (at_ : Int) : Nat × Nat × Nat := if at_ < 0 \/ (b.length : Int) < at_ then (0, 0, 10) else zj 8 (b.drop at_.toNat) at_.toNat 0 0
theorem Bl (m : Nat) (h : m < 256) : bits .and .u8 (m : Int) 128 = if m < 128 then 0 else 128 := by
 have : ∀ m : Fin 256, bits .and .u8 ((m.val : Nat) : Int) 128 = if m.val < 128 then 0 else 128 := by decide +kernel
 exact this ⟨m, h⟩
theorem Rs (m : Nat) (h : m < 256) : bits .and .u8 (m : Int) 127 = ((m % 128 : Nat) : Int) := by
 have : ∀ m : Fin 256, bits .and .u8 ((m.val : Nat) : Int) 127 = ((m.val % 128 : Nat) : Int) := by decide +kernel
 exact this ⟨m, h⟩
theorem Wt (i : Nat) (h : i <= 7) : 128 ^ (i + 1) <= 72057594037927936 /\ 0 < 128 ^ i := by
 have : ∀ i : Fin 8, 128 ^ (i.val + 1) <= 72057594037927936 /\ 0 < 128 ^ i.val := by decide +kernel
 exact this ⟨i, by omega⟩
theorem adb (i c : Nat) (hi : i <= 7) (hc : c < 128) : IntKind.i64.wrap ((c : Int) * 2 ^ min (7 * (i : Int)).toNat IntKind.i64.bits) = ((c * 128 ^ i : Nat) : Int) := by
 have h1 : min (7 * (i : Int)).toNat IntKind.i64.bits = 7 * i := by
  have : IntKind.i64.bits = 64 := rfl
  omega
 have h2 : (2 : Int) ^ (7 * i) = ((128 ^ i : Nat) : Int) := by
  rw [Int.pow_mul]; simp
 rw [h1, h2, <- Int.natCast_mul]
 have h3 : c * 128 ^ i <= 127 * 128 ^ i := Nat.mul_le_mul_right _ (by omega)
 have h4 := (Wt i hi).1
 rw [Nat.pow_succ] at h4
 exact IntWalk.i64_in _ (by omega)
theorem Zy (i c : Nat) (hi : i <= 7) (hc : c < 128) : IntKind.i64.wrap ((c : Int) * 2 ^ min (7 * (i : Int)).toNat 64) = ((c * 128 ^ i : Nat) : Int) := adb i c hi hc
theorem akp (i n c : Nat) (hi : i <= 7) (hn : n < 128 ^ i) (hc : c < 128) : bits .or .i64 (n : Int) ((c * 128 ^ i : Nat) : Int) = ((n + c * 128 ^ i : Nat) : Int) := by
 have h3 : c * 128 ^ i <= 127 * 128 ^ i := Nat.mul_le_mul_right _ (by omega)
 have h4 := (Wt i hi).1
 rw [Nat.pow_succ] at h4
 have h63 : (2 : Nat) ^ 63 = 9223372036854775808 := by decide
 rw [(bits_nat .i64 63 (by decide) (fun n a b => IntWalk.i64_in _ (by omega)) n (c * 128 ^ i) (by omega) (by omega)).2]
 congr 1
 have h5 : 128 ^ i = 2 ^ (7 * i) := by rw [Nat.pow_mul]
 rw [h5] at hn |-
 rw [Nat.mul_comm c, Nat.or_comm, <- Nat.two_pow_add_eq_or_of_lt hn c]
 omega
def GN (x : Nat × Nat × Nat) (o : Out) (s : List VV) : Prop :=
 (x = (0, 0, 11) /\ (o = .exit 0 \/ o = .goto 1)) \/ (x = (0, 0, 10) /\ o = .goto 0) \/
 (∃ m j, x = (m, j, 0) /\ o = .ret /\ s.getD 4 .undef = vi .i64 m /\ s.getD 5 .undef = vi .i64 j /\ s.getD 6 .undef = vi .u16 0)
theorem f100_loop (b : List UInt8) (v : VV) (hv : SlV 1 (eB b) v) (at_ : Nat) (h : ah) (Q : Pst) (hat : at_ <= b.length) (hb : b.length <= 1000000000) : ∀ (k i n : Nat) (s : List VV), i + k = 8 -> n < 128 ^ i -> s.length = 60 ->
  s.getD 0 .undef = v -> s.getD 1 .undef = vi .i64 at_ -> s.getD 7 .undef = vi .i64 n -> s.getD 8 .undef = vi .i64 i -> at_ + i <= b.length ->
  (∀ o s', s'.length = 60 -> GN (zj k (b.drop (at_ + i)) at_ i n) o s' -> Q o ⟨s', h⟩) ->
  X F (.loop f100_0) ⟨s, h⟩ Q := by
 intro k
 induction k with
 | zero =>
  intro i n s hi hn hs h0 h1 h7 h8 hai hQ
  have hlt : ¬ (i : Int) < 8 := by omega
  rw [aw, bf f100_0.eq_1]
  simp only [go_sem, seval, hs, h8, hlt]
  refine hQ _ _ (by simp only [ae, hs]) (.inl ⟨?_, .inl rfl⟩)
  simp only [zj]
 | succ k ih =>
  intro i n s hi hn hs h0 h1 h7 h8 hai hQ
  have hlt : (i : Int) < 8 := by omega
  rw [aw, bf f100_0.eq_1]
  have ea : IntKind.i64.wrap ((at_ : Int) + (i : Int)) = ((at_ + i : Nat) : Int) := by rw [IntWalk.i64_in _ (by omega)]; omega
  simp only [go_sem, seval, hs, h0, h1, h7, h8, hlt, ea, ax, hv.ln]
  refine Oc (fun hc => ?_) (fun hc => ?_)
  ·simp only [go_sem, seval]
   refine hQ _ _ (by simp only [ae, hs]) (.inr (.inl ⟨?_, rfl⟩))
   rw [List.drop_eq_nil_of_le (by omega)]
   simp only [zj]
  ·have hlt2 : at_ + i < b.length := by omega
   obtain ⟨c, hget⟩ : ∃ c, b[at_ + i]? = some c := ⟨_, List.getElem?_eq_getElem hlt2⟩
   have hd : b.drop (at_ + i) = c :: b.drop (at_ + i + 1) := by
    rw [List.drop_eq_getElem_cons hlt2]
    rw [List.getElem?_eq_getElem hlt2] at hget
    cases hget; rfl
   have hc256 : c.toNat < 256 := c.toNat_lt
   simp only [go_sem, seval, hs, h0, h1, h7, h8, ea]
   rw [hv.ia (e := ba c) (by omega) (by rw [show ((at_ + i : Nat) : Int).toNat = at_ + i from rfl]; exact nx hget)]
   simp only [go_sem, seval, hs, h0, h1, h7, h8, ba, Rs c.toNat hc256, Bl c.toNat hc256]
   have e1 : IntKind.i64.wrap ((c.toNat % 128 : Nat) : Int) = ((c.toNat % 128 : Nat) : Int) := IntWalk.i64_in _ (by omega)
   have e2 : IntKind.i64.wrap (7 * (i : Int)) = 7 * (i : Int) := IntWalk.i64_in _ (by omega)
   have e3 : ¬ (7 * (i : Int)) < 0 := by omega
   simp only [go_sem, seval, hs, h0, h1, h7, h8, e1, e2, e3, Zy i _ (by omega) (Nat.mod_lt _ (by decide : 128 > 0)), akp i n _ (by omega) hn (Nat.mod_lt _ (by decide : 128 > 0))]
   have hm : n + c.toNat % 128 * 128 ^ i < 128 ^ (i + 1) := by
    have : c.toNat % 128 * 128 ^ i <= 127 * 128 ^ i := Nat.mul_le_mul_right _ (by omega)
    rw [Nat.pow_succ]; omega
   have hp := (Wt i (by omega)).1
   rw [hd] at hQ
   simp only [zj] at hQ
   generalize n + c.toNat % 128 * 128 ^ i = m at hm hQ |-
   by_cases hcm : c.toNat < 128
   ·simp only [hcm, if_true] at hQ
    have e4 : bits .and .u8 (c.toNat : Int) 128 = 0 := by rw [Bl _ hc256, if_pos hcm]
    have e5 : IntKind.i64.wrap (((at_ + i : Nat) : Int) + 1) = ((at_ + i + 1 : Nat) : Int) := by rw [IntWalk.i64_in _ (by omega)]; omega
    have ret : ∀ s', s'.length = 60 -> ¬ ((c.toNat = 0 /\ 0 < i) \/ 9007199254740992 < m) -> s'.getD 4 .undef = vi .i64 m -> s'.getD 5 .undef = vi .i64 ((at_ + i + 1 : Nat) : Int) -> s'.getD 6 .undef = vi .u16 0 -> Q .ret ⟨s', h⟩ := by
     intro s' a1 a2 a3 a4 a5
     refine hQ _ _ a1 ?_
     rw [if_neg a2]
     exact .inr (.inr ⟨_, _, rfl, rfl, a3, a4, a5⟩)
    have bad : ∀ s', s'.length = 60 -> ((c.toNat = 0 /\ 0 < i) \/ 9007199254740992 < m) -> Q (.goto 1) ⟨s', h⟩ := by
     intro s' a1 a2
     refine hQ _ _ a1 ?_
     rw [if_pos a2]
     exact .inl ⟨rfl, .inr rfl⟩
    clear hQ ih
    by_cases hM : 9007199254740992 < (m : Int)
    ·by_cases hz : (c.toNat : Int) = 0
     ·by_cases hi0 : (0 : Int) < i
      ·simp only [go_sem, seval, hs, h1, h8, e4, e5, ea, eq_true hz, hi0, hM]
       exact bad _ (by simp only [ae, hs]) (by omega)
      ·simp only [go_sem, seval, hs, h1, h8, e4, e5, ea, eq_true hz, hi0, hM]
       exact bad _ (by simp only [ae, hs]) (by omega)
     ·simp only [go_sem, seval, hs, h1, h8, e4, e5, ea, hz, hM]
      exact bad _ (by simp only [ae, hs]) (by omega)
    ·by_cases hz : (c.toNat : Int) = 0
     ·by_cases hi0 : (0 : Int) < i
      ·simp only [go_sem, seval, hs, h1, h8, e4, e5, ea, eq_true hz, hi0, hM]
       exact bad _ (by simp only [ae, hs]) (by omega)
      ·simp only [go_sem, seval, hs, h1, h8, e4, e5, ea, eq_true hz, hi0, hM]
       exact ret _ (by simp only [ae, hs]) (by omega) (by simp only [go_sem, seval, hs]) (by simp only [go_sem, seval, hs]) (by simp only [go_sem, seval, hs])
     ·simp only [go_sem, seval, hs, h1, h8, e4, e5, ea, hz, hM]
      exact ret _ (by simp only [ae, hs]) (by omega) (by simp only [go_sem, seval, hs]) (by simp only [go_sem, seval, hs]) (by simp only [go_sem, seval, hs])
   ·simp only [hcm, if_false] at hQ
    have e4 : ¬ bits .and .u8 (c.toNat : Int) 128 = 0 := by rw [Bl _ hc256, if_neg hcm]; decide
    have e5 : IntKind.i64.wrap ((i : Int) + 1) = ((i + 1 : Nat) : Int) := by rw [IntWalk.i64_in _ (by omega)]; omega
    simp only [go_sem, seval, hs, h8, e4, e5]
    refine ih (i + 1) m _ (by omega) hm ?_ ?_ ?_ ?_ ?_ (by omega) ?_
    ·simp only [ae, hs]
    ·simp only [go_sem, seval, hs, h0]
    ·simp only [go_sem, seval, hs, h1]
    ·simp only [go_sem, seval, hs]
    ·simp only [go_sem, seval, hs]
    ·exact hQ
theorem Pm (b : List UInt8) (v : VV) (hv : SlV 1 (eB b) v) (at_ : Int) (h : ah) (hb : b.length <= 1000000000) :
  call F 100 [v, vi .i64 at_] h = some (.ret (.tup [vi .i64 (cf b at_).1, vi .i64 (cf b at_).2.1, vi .u16 (cf b at_).2.2]), h) := by
 ·refine Bw (fn := f100) rfl ?_
  simp only [f100]
  generalize hs0 : ([v, vi .i64 at_] ++ List.replicate _ VV.undef : List VV) = s
  have hs : s.length = 60 := by grind
  have h0 : s.getD 0 .undef = v := by grind
  have h1 : s.getD 1 .undef = vi .i64 at_ := by grind
  clear hs0
  simp only [go_sem, seval]
  rw [bf f100_1.eq_1]
  simp only [go_sem, seval, hs, h0, h1]
  have short : ∀ s', s'.length = 60 -> cf b at_ = (0, 0, 10) -> S F f100_1 (RQ [.t 4, .t 5, .t 6] (Is (.tup [vi .i64 (cf b at_).1, vi .i64 (cf b at_).2.1, vi .u16 (cf b at_).2.2]) h)) (.goto 0) ⟨s', h⟩ := by
   intro s' hs' e
   rw [Nv rfl, Uj f100_1.eq_1, dw rfl, dw rfl, dw rfl, dw rfl, dw rfl, Ad rfl, we]
   simp only [go_sem, seval, hs', e]
   exact ⟨rfl, rfl⟩
  have wrong : ∀ s', s'.length = 60 -> cf b at_ = (0, 0, 11) -> S F f100_1 (RQ [.t 4, .t 5, .t 6] (Is (.tup [vi .i64 (cf b at_).1, vi .i64 (cf b at_).2.1, vi .u16 (cf b at_).2.2]) h)) (.goto 1) ⟨s', h⟩ := by
   intro s' hs' e
   rw [Nv rfl, Uj f100_1.eq_1, dw rfl, dw rfl, dw rfl, Ad rfl, we]
   simp only [go_sem, seval, hs', e]
   exact ⟨rfl, rfl⟩
  by_cases c1 : at_ < 0
  ·simp only [go_sem, seval, hs, h0, h1, eq_true c1]
   exact short _ (by simp_all) (by unfold cf; grind)
  ·by_cases c2 : (b.length : Int) < at_
   ·simp only [go_sem, seval, hs, h0, h1, c1, ax, hv.ln, eq_true c2]
    exact short _ (by simp_all) (by unfold cf; grind)
   ·simp only [go_sem, seval, hs, h0, h1, c1, ax, hv.ln, c2]
    have eg : cf b at_ = zj 8 (b.drop at_.toNat) at_.toNat 0 0 := by unfold cf; grind
    obtain ⟨a, rfl⟩ : ∃ a : Nat, at_ = Int.ofNat a := Int.eq_ofNat_of_zero_le (show 0 <= at_ by omega)
    have c2' : ¬ (b.length : Int) < (a : Int) := c2
    refine f100_loop b v hv a h _ (by omega) hb 8 0 0 _ rfl (by decide) ?_ ?_ ?_ ?_ ?_ (by omega) ?_
    ·simp_all
    ·simp_all
    ·simp_all
    ·simp_all
    ·simp_all
    ·intro o s' hs' hg
     rw [Nat.add_zero] at hg
     rw [show zj 8 (b.drop a) a 0 0 = cf b (Int.ofNat a) from eg.symm] at hg
     rcases hg with ⟨e, rfl | rfl⟩ | ⟨e, rfl⟩ | ⟨m, j, e, rfl, a1, a2, a3⟩
     ·simp only [go_sem, seval, hs', e]
      exact ⟨rfl, rfl⟩
     ·simp only [go_sem, seval]
      grind
     ·simp only [go_sem, seval]
      grind
     ·simp only [go_sem, seval, hs', e, a1, a2, a3]
      exact ⟨rfl, rfl⟩
open Go Go.Vm
theorem Dy : ∀ k r at_ i n, (zj k r at_ i n).1 <= 9007199254740992 /\ ((zj k r at_ i n).2.2 = 0 -> at_ + i < (zj k r at_ i n).2.1 /\ (zj k r at_ i n).2.1 <= at_ + i + r.length) /\ (zj k r at_ i n).2.2 <= 11
 | 0, _, _, _, _ => by simp [zj]
 | k + 1, [], _, _, _ => by simp [zj]
 | k + 1, c :: r, at_, i, n => by
  simp only [zj, List.length_cons]
  split
  ·split
   ·simp
   ·refine ⟨by simp only; omega, fun _ => ⟨by simp only; omega, by simp only; omega⟩, by simp⟩
  ·have := Dy k r at_ (i + 1) (n + c.toNat % 128 * 128 ^ i)
   refine ⟨this.1, fun e => ?_, this.2.2⟩
   have := this.2.1 e
   omega
theorem np (b : List UInt8) (a : Int) : (cf b a).1 <= 9007199254740992 /\ ((cf b a).2.2 = 0 -> 0 <= a /\ a < ((cf b a).2.1 : Int) /\ (cf b a).2.1 <= b.length) /\ (cf b a).2.2 <= 11 := by
 unfold cf
 split
 ·simp
 ·have := Dy 8 (b.drop a.toNat) a.toNat 0 0
  refine ⟨this.1, fun e => ?_, this.2.2⟩
  have := this.2.1 e
  rw [List.length_drop] at this
  omega
def bg (b : List UInt8) (a most : Int) : List UInt8 × Nat × Nat :=
 if (cf b a).2.2 ≠ 0 then ([], 0, (cf b a).2.2) else
 if most < ((cf b a).1 : Int) then ([], 0, 3) else
 if (b.length : Int) - ((cf b a).2.1 : Int) < ((cf b a).1 : Int) then ([], 0, 10) else
 ((b.drop (cf b a).2.1).take (cf b a).1, (cf b a).2.1 + (cf b a).1, 0)
theorem yv (b : List UInt8) (v : VV) (hv : SlV 1 (eB b) v) (a most : Int) (h : ah) (hb : b.length <= 1000000000) :
  call F 99 [v, vi .i64 a, vi .i64 most] h = some (.ret (.tup [txt (bg b a most).1, vi .i64 (bg b a most).2.1, vi .u16 (bg b a most).2.2]), h) := by
 refine eP3 (fn := f99) (n := 44) rfl rfl fun s hs h0 h1 h2 => ?_
 simp only [f99]
 simp only [go_sem, seval, hs, h0, h1, h2]
 refine ao (by simp only [List.map, go_sem, seval, hs]; exact hv.clos (dv lf)) (Pm b v hv a [] hb) rfl ?_
 have hbd := np b a
 unfold bg
 generalize cf b a = x at hbd |-
 obtain ⟨n, j, e⟩ := x
 simp only [go_sem, seval, hs, h0, h1, h2] at hbd |-
 by_cases c1 : (e : Int) = 0
 ·have c1' : e = 0 := by omega
  subst c1'
  have hb1 := hbd.2.1 rfl
  have e1 : IntKind.i64.wrap ((b.length : Int) - (j : Int)) = (b.length : Int) - (j : Int) := IntWalk.i64_in _ (by omega)
  by_cases c2 : most < (n : Int)
  ·simp only [go_sem, seval, hs, h0, h1, h2, eq_true c1, c2]
   exact Is.refl _ _
  ·by_cases c3 : (b.length : Int) - (j : Int) < (n : Int)
   ·simp only [go_sem, seval, hs, h0, h1, h2, eq_true c1, c2, ax, hv.ln, e1, c3]
    exact Is.refl _ _
   ·have e2 : IntKind.i64.wrap ((j : Int) + (n : Int)) = ((j + n : Nat) : Int) := by rw [IntWalk.i64_in _ (by omega)]; omega
    simp only [go_sem, seval, hs, h0, h1, h2, eq_true c1, c2, ax, hv.ln, e1, e2, c3]
    obtain ⟨v', hv', e3⟩ := hv.part (h := h) (k := .i64) (k' := .i64) (a := (j : Int)) (b := ((j + n : Nat) : Int)) (by omega) (by omega) (by rw [ax]; omega)
    rw [Ek] at hv'
    have e4 : (((j + n : Nat) : Int).toNat - (j : Int).toNat) = n := by omega
    rw [e4] at hv'
    rw [e3]
    simp only [go_sem, seval, hs, e2, hv'.bs]
    exact Is.refl _ _
 ·have c1' : ¬ e = 0 := by omega
  simp only [go_sem, seval, hs, h0, h1, h2, c1, c1']
  exact Is.refl _ _
def anq (k v : List UInt8) : List CV := [.sc (.string ⟨k.toArray⟩), .sl 1 (eB v) false]
theorem Am {h : ah} {c1 c2 c3 : CV} : av h (.tup [.cv c1, .cv c2, .cv c3]) = some (.tup [.cv c1, .cv c2, .cv c3]) := rfl
def alj (v : VV) (v' : VV) (_ : ah) : Prop := v' = v
open Go Go.Vm
def jh (get : Int -> List CV × Nat × Nat) : Nat -> Nat -> List (List CV) -> List (List CV) × Nat × Nat
 | 0, a, out => (out, a, 0)
 | n + 1, a, out => if (get a).2.2 ≠ 0 then (out, (get a).2.1, (get a).2.2) else jh get n (get a).2.1 (out ++ [(get a).1])
def iu (get : Int -> List CV × Nat × Nat) (b : List UInt8) : List (List CV) × Nat :=
 let x := cf b 0
 if x.2.2 ≠ 0 then ([], x.2.2) else
 if 5000 < x.1 then ([], 3) else
 let y := jh get x.1 x.2.1 []
 if y.2.2 ≠ 0 then ([], y.2.2) else
 if y.2.1 < b.length then ([], 11) else (y.1, 0)
theorem Gc {h : ah} {z : Nat} {els : List (List CV)} {v : VV} {c : CV} (hb : ej h z els v) : av h (.tup [v, .cv c]) = some (.tup [slV z els, .cv c]) := by
 obtain ⟨h1, e⟩ := hb.slV
 simp only [av, cg, e]
 rfl
open Go Go.Vm
def alv (e : List CV) (p : List UInt8 × List UInt8) : Prop := ∃ c, e = [.sc (.string ⟨p.1.toArray⟩), c] /\ SlV 1 (eB p.2) (.cv c)
inductive RowsE : List (List CV) -> List (List UInt8 × List UInt8) -> Prop
 | nil : RowsE [] []
 | cons {e : List CV} {p : List UInt8 × List UInt8} {l : List (List CV)} {k : List (List UInt8 × List UInt8)} (h : alv e p) (t : RowsE l k) : RowsE (e :: l) (p :: k)
theorem RowsE.len {l : List (List CV)} {k : List (List UInt8 × List UInt8)} (h : RowsE l k) : l.length = k.length := by
 induction h with
 | nil => rfl
 | cons _ _ ih => simp [ih]
def jg (p : List UInt8 × List UInt8) : List UInt8 := jk p.1 ++ jk p.2
theorem Lt (k n : Nat) : wr k n ≠ [] := by
 cases k with
 | zero => simp [wr]
 | succ k => simp only [wr]; split <;> simp
theorem Br (l : List UInt8) : eB (jk l) ≠ [] := by
 unfold jk num
 simp [eB, Lt]
theorem Oz (l : List UInt8) : l.length <= (jk l).length := by simp [jk]
theorem Ic (l : List UInt8) (hl : l.length <= 1000000000) : ∃ v h', call F 75 [txt l] [] = some (.ret v, h') /\ av h' v = some (.cv (.sl 1 (eB (jk l)) false)) := by
 obtain ⟨v, h', h1, h2⟩ := Hf l [] hl
 exact ⟨v, h', h1, h2.res (Br l)⟩
theorem Zs (n : Int) : ∃ v h', call F 74 [vi .i64 n] [] = some (.ret v, h') /\ av h' v = some (.cv (.sl 1 (eB (num (kh n))) false)) := by
 obtain ⟨v, h', h1, h2⟩ := Mm n []
 refine ⟨v, h', h1, h2.res ?_⟩
 unfold num
 simp [eB, Lt]
open Go Go.Vm
open Go Go.Vm
theorem jy (n : Nat) (h : n < 256) : (u8 n).toNat = n := by
 unfold u8
 rw [UInt8.toNat_ofNat']
 exact Nat.mod_eq_of_lt h
theorem Np {a b : Nat} (ha : a < 256) (hb : b < 256) (h : u8 a = u8 b) : a = b := by
 have := congrArg UInt8.toNat h
 rwa [jy a ha, jy b hb] at this
theorem Nu : ∀ k j n, n < 128 ^ (j + 1) -> (wr k n).length <= j + 1
 | 0, j, n, h => by simp [wr]
 | k + 1, 0, n, h => by
  have : ¬ 127 < n := by omega
  simp only [wr, if_neg this]
  simp
 | k + 1, j + 1, n, h => by
  rw [Nat.pow_succ] at h
  simp only [wr]
  split
  ·have := Nu k j (n / 128) (by omega)
   simp only [List.length_cons]; omega
  ·simp
theorem aaq (n : Int) : kh n <= 9007199254740992 := by unfold kh; omega
theorem tc (n : Nat) (h : n <= 9007199254740992) : kh n = n := by unfold kh; omega
theorem anu : (128 : Nat) ^ (8 + 1) = 9223372036854775808 := by decide
theorem aoc : (128 : Nat) ^ (7 + 1) = 72057594037927936 := by decide
theorem nd (n : Int) : (num (kh n)).length <= 8 := Nu 8 7 _ (by rw [aoc]; have := aaq n; omega)
open Go Go.Vm
open Go Go.Vm
theorem Ja : ∀ j k n r at_ i acc, n < 128 ^ (j + 1) -> (wr j n).length <= k -> (0 < n \/ i = 0) -> acc + n * 128 ^ i <= 9007199254740992 ->
  zj k (wr j n ++ r) at_ i acc = (acc + n * 128 ^ i, at_ + i + (wr j n).length, 0)
 | 0, 0, n, r, at_, i, acc, hn, hk, h0, hm => by simp [wr] at hk
 | 0, k + 1, n, r, at_, i, acc, hn, hk, h0, hm => by
  have hn' : n < 128 := by omega
  simp only [wr, List.cons_append, List.nil_append, zj, jy n (by omega), Nat.mod_eq_of_lt hn', hn', if_true]
  rw [if_neg (by omega)]
  rfl
 | j + 1, 0, n, r, at_, i, acc, hn, hk, h0, hm => by
  simp only [wr] at hk
  split at hk <;> simp at hk
 | j + 1, k + 1, n, r, at_, i, acc, hn, hk, h0, hm => by
  rw [Nat.pow_succ] at hn
  simp only [wr] at hk |-
  by_cases h : 127 < n
  ·rw [if_pos h] at hk |-
   simp only [List.length_cons] at hk |-
   have e : acc + n % 128 * 128 ^ i + n / 128 * 128 ^ (i + 1) = acc + n * 128 ^ i := by
    have : n * 128 ^ i = (n % 128 + 128 * (n / 128)) * 128 ^ i := by rw [Nat.mod_add_div]
    rw [this, Nat.add_mul, Nat.pow_succ, Nat.add_assoc]
    congr 2
    rw [Nat.mul_comm (128 ^ i) 128, <- Nat.mul_assoc, Nat.mul_comm 128 (n / 128)]
   simp only [List.cons_append, zj, jy (128 + n % 128) (by omega)]
   rw [if_neg (by omega), show (128 + n % 128) % 128 = n % 128 by omega]
   rw [Ja j k (n / 128) r at_ (i + 1) (acc + n % 128 * 128 ^ i) (by omega) (by omega) (.inl (by omega)) (by rw [e]; exact hm), e]
   rw [show at_ + (i + 1) + (wr j (n / 128)).length = at_ + i + ((wr j (n / 128)).length + 1) by omega]
  ·rw [if_neg h]
   have hn' : n < 128 := by omega
   simp only [List.cons_append, List.nil_append, zj, jy n (by omega), Nat.mod_eq_of_lt hn', hn', if_true]
   rw [if_neg (by omega)]
   rfl
theorem Cu (a r : List UInt8) (n : Nat) (h : n <= 9007199254740992) : cf (a ++ num n ++ r) a.length = (n, a.length + (num n).length, 0) := by
 have hl := nd n
 rw [tc n h] at hl
 unfold cf
 rw [if_neg (by simp only [List.length_append]; omega)]
 have : ((a.length : Int)).toNat = a.length := rfl
 rw [this, List.append_assoc, List.drop_left]
 unfold num at hl |-
 rw [Ja 8 8 n r a.length 0 0 (by rw [anu]; omega) hl (.inr rfl) (by omega)]
 simp
theorem lu (a r l : List UInt8) (most : Int) (hl : l.length ≤ 1000000000) : bg (a ++ jk l ++ r) a.length most = if most < (l.length : Int) then ([], 0, 3) else (l, a.length + (jk l).length, 0) := by
  have h1 : kh (l.length : Int) = l.length := tc _ (by omega)
  have e : cf (a ++ jk l ++ r) a.length = (l.length, a.length + (num l.length).length, 0) := by
    unfold jk
    rw [h1]
    have := Cu a (l ++ r) l.length (by omega)
    simpa [List.append_assoc] using this
  unfold bg
  rw [e]
  simp only [ne_eq, not_true_eq_false, if_false]
  split
  · rfl
  · have hb : ((a ++ jk l ++ r).length : Int) - ((a.length + (num l.length).length : Nat) : Int) = ((l.length + r.length : Nat) : Int) := by
      unfold jk
      rw [h1]
      simp only [List.length_append]
      omega
    rw [if_neg (by rw [hb]; omega)]
    congr 1
    · unfold jk
      rw [h1]
      have : a ++ (num l.length ++ l) ++ r = (a ++ num l.length) ++ (l ++ r) := by simp
      rw [this, show a.length + (num l.length).length = (a ++ num l.length).length by simp, List.drop_left, List.take_left]
    · congr 1
      unfold jk
      rw [h1]
      simp only [List.length_append]; omega
open Go Go.Vm
theorem alh {l : List UInt8} : eB l ≠ [] ↔ l ≠ [] := by cases l <;> simp [eB]
theorem Wb {l : List UInt8} {n : Nat} : (eB l).take n = eB (l.take n) := by simp [eB, List.map_take]
theorem Wq {l : List UInt8} {n : Nat} : (eB l).drop n = eB (l.drop n) := by simp [eB, List.map_drop]
theorem acz (n : Nat) : num n ≠ [] := Lt 8 n
open Go Go.Vm
def aj3 (x : UInt8) : List UInt8 := [u8 (97 + x.toNat % 16), u8 (97 + x.toNat / 16 % 4)]
def aev (y : UInt8) (n : Nat) : List UInt8 := (List.range n).map fun j => u8 ((y.toNat + j) % 256)
def alm (x y : UInt8) : List UInt8 := aev y (if 230 < x.toNat then 100 + y.toNat % 50 else y.toNat % 40)
def Cj : Nat -> List UInt8 -> List (List UInt8 × List UInt8)
 | n + 1, x :: y :: r => (aj3 x, alm x y) :: Cj n r
 | _, _ => []
theorem Eu (y : UInt8) (n : Nat) : (aev y n).length = n := by simp [aev]
theorem ab5 (x y : UInt8) : (alm x y).length <= 149 := by
 unfold alm
 rw [Eu]
 split <;> omega
theorem Gq : ∀ n c, (Cj n c).length <= n
 | 0, _ => by simp [Cj]
 | n + 1, [] => by simp [Cj]
 | n + 1, [_] => by simp [Cj]
 | n + 1, x :: y :: r => by simp only [Cj, List.length_cons]; have := Gq n r; omega
theorem po (n : Nat) : IntKind.u8.wrap (n : Int) = ((n % 256 : Nat) : Int) := by
 rw [IntKind.wrap_u8]; omega
theorem f49_fill (c : List UInt8) (vc : VV) (hc : SlV 1 (eB c) vc) (i : Nat) (y : UInt8) (hy : c[i + 1]? = some y) (hi : i <= 200) (h0 : ah) : ∀ (d k : Nat) (vl : List UInt8) (s : List VV) (Q : Pst),
  vl.length = k + d -> vl.length <= 200 -> (∀ j, j < k -> vl[j]? = some (u8 ((y.toNat + j) % 256))) -> s.length = 82 -> s.getD 0 .undef = vc -> s.getD 6 .undef = vi .i64 i -> s.getD 7 .undef = .own h0.length 0 0 vl.length true -> s.getD 8 .undef = vi .i64 k ->
  (∀ s', s'.length = 82 -> (∀ j, j < 8 -> s'.getD j .undef = s.getD j .undef) -> Q (.exit 2) ⟨s', h0 ++ [.arr 1 (eB (aev y vl.length)) 0 false]⟩) ->
  X F (.loop f49_0) ⟨s, h0 ++ [.arr 1 (eB vl) 0 false]⟩ Q := by
 intro d
 induction d with
 | zero =>
  intro k vl s Q hl hl2 hv hs h_0 h6 h7 h8 hQ
  rw [aw, bf f49_0.eq_1]
  have hlt : ¬ (k : Int) < (vl.length : Int) := by omega
  simp only [go_sem, seval, hs, h7, h8, hlt]
  have e : vl = aev y vl.length := by
   apply List.ext_getElem?
   intro j
   by_cases hj : j < k
   ·rw [hv j hj]
    unfold aev
    rw [List.getElem?_map, List.getElem?_range (by omega)]
    rfl
   ·rw [List.getElem?_eq_none (by omega), List.getElem?_eq_none (by rw [Eu]; omega)]
  rw [<- e] at hQ
  refine hQ _ (by simp only [ae, hs]) (fun j hj => ?_)
  have : ∀ m, 8 <= m -> m ≠ j := by omega
  rw [eo (this _ (by decide)), eo (this _ (by decide)), eo (this _ (by decide)), eo (this _ (by decide))]
 | succ d ih =>
  intro k vl s Q hl hl2 hv hs h_0 h6 h7 h8 hQ
  rw [aw, bf f49_0.eq_1]
  have hlt : (k : Int) < (vl.length : Int) := by omega
  have e1 : IntKind.i64.wrap ((i : Int) + 1) = ((i + 1 : Nat) : Int) := by rw [IntWalk.i64_in _ (by omega)]; omega
  have e2 : IntKind.i64.wrap ((k : Int) + 1) = ((k + 1 : Nat) : Int) := by rw [IntWalk.i64_in _ (by omega)]; omega
  simp only [go_sem, seval, hs, h_0, h6, h7, h8, hlt, e1, e2]
  rw [hc.ia (e := ba y) (by omega) (by exact nx hy)]
  have e3 : IntKind.u8.wrap ((y.toNat : Int) + IntKind.u8.wrap (k : Int)) = (((u8 ((y.toNat + k) % 256)).toNat : Nat) : Int) := by
   rw [jy _ (by omega), po, <- Int.natCast_add, po]; omega
  simp only [go_sem, seval, hs, h_0, h6, h7, h8, ba, e3]
  rw [ae0 (by omega)]
  simp only [go_sem, seval, hs, h_0, h6, h7, h8, ba, e3]
  rw [agt (by omega)]
  simp only [go_sem, seval, hs, h_0, h6, h7, h8, e2]
  have hl3 : (vl.set k (u8 ((y.toNat + k) % 256))).length = vl.length := List.length_set
  rw [<- hl3] at hQ
  refine ih (k + 1) _ _ Q (by rw [hl3]; omega) (by rw [hl3]; omega) ?_ (by simp only [ae, hs]) (by simp only [go_sem, seval, h_0]) (by simp only [go_sem, seval, h6]) (by simp only [go_sem, seval, h7, hl3]) (by simp only [go_sem, seval, hs]) ?_
  ·intro j hj
   by_cases hjk : j = k
   ·subst hjk
    rw [List.getElem?_set_self (by omega)]
   ·rw [List.getElem?_set_ne (by omega)]
    exact hv j (by omega)
  ·intro s' hs' hj'
   refine hQ s' hs' (fun j hj => ?_)
   rw [hj' j hj]
   have : ∀ m, 8 <= m -> m ≠ j := by omega
   simp only [eo (this _ (by decide : 8 <= 44)), eo (this _ (by decide : 8 <= 45)), eo (this _ (by decide : 8 <= 46)), eo (this _ (by decide : 8 <= 47)), eo (this _ (by decide : 8 <= 48)), eo (this _ (by decide : 8 <= 49)), eo (this _ (by decide : 8 <= 50)), eo (this _ (by decide : 8 <= 51)),
    eo (this _ (by decide : 8 <= 52)), eo (this _ (by decide : 8 <= 53)), eo (this _ (by decide : 8 <= 54)), eo (this _ (by decide : 8 <= 55)), eo (this _ (by decide : 8 <= 56)), eo (this _ (by decide : 8 <= 57)), eo (this _ (by decide : 8 <= 58)), eo (this _ (by decide : 8 <= 59)), eo (this _ (by decide : 8 <= 60)), eo (this _ (by decide : 8 <= 8))]
open Go Go.Vm
theorem RowsE.snoc {l : List (List CV)} {k : List (List UInt8 × List UInt8)} (h : RowsE l k) {e : List CV} {p : List UInt8 × List UInt8} (hp : alv e p) : RowsE (l ++ [e]) (k ++ [p]) := by
 induction h with
 | nil => exact .cons hp .nil
 | cons h _ ih => exact .cons h ih
theorem am8 {a b : VV} {u : CV} {i g o l : Nat} {e : Bool} : bdO [a, b] [(0, 1, .cv u), (1, 1, .own i g o l e)] = some (.agg [.cv u, .own i g o l e]) := rfl
theorem Ix {hh : ah} {z0 z1 : VV} {u : CV} {els : List (List CV)} {n : Nat} (hn : els.length = n) :
  ahk (hh ++ [.arr 1 els 0 false]) 2 1 [z0, z1] [(0, 2, .agg [.cv u, .own hh.length 0 0 n true])] = some (.own (hh ++ [VO.arr 1 els 0 true]).length 0 0 1 true, hh ++ [.arr 1 els 0 true] ++ [.arr 2 [[u, .sl 1 els true]] 0 false]) := by
 have e1 : fill [z0, z1] [(0, 2, .agg [.cv u, .own hh.length 0 0 n true])] = some [.cv u, .own hh.length 0 0 n true] := rfl
 have e2 : qf (hh ++ [.arr 1 els 0 false]) [.cv u, .own hh.length 0 0 n true] = some ([u, .sl 1 els true], hh ++ [.arr 1 els 0 true]) := by
  have e3 : ∀ (h : ah) (c : CV), clos h (.cv c) = some (c, h) := fun _ _ => rfl
  simp only [qf, e3, Wu hn]
 simp only [ahk, e1, e2]
 rfl
theorem Ti {hh : ah} {e : List CV} : iz (hh ++ [.arr 2 [e] 0 false]) 2 (.own hh.length 0 0 1 true) = some [e] := by
 simp [iz, gh]
theorem f49_loop (c : List UInt8) (vc : VV) (hc : SlV 1 (eB c) vc) (n : Nat) (hn : n <= 60) : ∀ (m i : Nat) (els : List (List CV)) (kv : List (List UInt8 × List UInt8)) (h : ah) (v : VV) (s : List VV) (Q : Pst),
  i + 2 * m = 2 * n -> els.length + m <= n -> RowsE els kv -> ej h 2 els v -> s.length = 82 -> s.getD 0 .undef = vc -> s.getD 1 .undef = vi .i64 n -> s.getD 5 .undef = v -> s.getD 6 .undef = vi .i64 i ->
  (∀ s' h' v' els', s'.length = 82 -> s'.getD 5 .undef = v' -> ej h' 2 els' v' -> RowsE els' (kv ++ Cj m (c.drop i)) -> Q (.exit 0) ⟨s', h'⟩) ->
  X F (.loop f49_1) ⟨s, h⟩ Q := by
 intro m
 induction m with
 | zero =>
  intro i els kv h v s Q him hel hR hb hs h0 h1 h5 h6 hQ
  rw [aw, bf f49_1.eq_1]
  have e1 : IntKind.i64.wrap ((i : Int) + 1) = ((i + 1 : Nat) : Int) := by rw [IntWalk.i64_in _ (by omega)]; omega
  have e2 : IntKind.i64.wrap (2 * (n : Int)) = ((2 * n : Nat) : Int) := by rw [IntWalk.i64_in _ (by omega)]; omega
  have hlt : ¬ (i : Int) < ((2 * n : Nat) : Int) := by omega
  have fin : ∀ s', s'.length = 82 -> s'.getD 5 .undef = v -> Q (.exit 0) ⟨s', h⟩ := by
   intro s' hs' h5'
   refine hQ s' h v els hs' h5' hb ?_
   simp only [Cj, List.append_nil]; exact hR
  by_cases hl : ((i + 1 : Nat) : Int) < (c.length : Int)
  ·simp only [go_sem, seval, hs, h0, h1, h5, h6, e1, e2, hc.ln, ax, hl, hlt]
   exact fin _ (by simp only [ae, hs]) (by simp only [go_sem, seval, h5])
  ·simp only [go_sem, seval, hs, h0, h1, h5, h6, e1, e2, hc.ln, ax, hl, hlt]
   exact fin _ (by simp only [ae, hs]) (by simp only [go_sem, seval, h5])
 | succ m ih =>
  intro i els kv h v s Q him hel hR hb hs h0 h1 h5 h6 hQ
  rw [aw, bf f49_1.eq_1]
  have e1 : IntKind.i64.wrap ((i : Int) + 1) = ((i + 1 : Nat) : Int) := by rw [IntWalk.i64_in _ (by omega)]; omega
  have e2 : IntKind.i64.wrap (2 * (n : Int)) = ((2 * n : Nat) : Int) := by rw [IntWalk.i64_in _ (by omega)]; omega
  have e3 : IntKind.i64.wrap ((i : Int) + 2) = ((i + 2 : Nat) : Int) := by rw [IntWalk.i64_in _ (by omega)]; omega
  have hlt : (i : Int) < ((2 * n : Nat) : Int) := by omega
  by_cases hl : ((i + 1 : Nat) : Int) < (c.length : Int)
  ·have hi1 : i + 1 < c.length := by omega
   obtain ⟨x, hx⟩ : ∃ x, c[i]? = some x := ⟨_, List.getElem?_eq_getElem (by omega)⟩
   obtain ⟨y, hy⟩ : ∃ y, c[i + 1]? = some y := ⟨_, List.getElem?_eq_getElem hi1⟩
   have hd : c.drop i = x :: y :: c.drop (i + 2) := by
    rw [List.drop_eq_getElem_cons (by omega), List.drop_eq_getElem_cons (by omega)]
    rw [List.getElem?_eq_getElem (by omega)] at hx hy
    cases hx; cases hy; rfl
   have hx256 := x.toNat_lt
   have hy256 := y.toNat_lt
   simp only [go_sem, seval, hs, h0, h1, h5, h6, e1, e2, hc.ln, ax, hl, hlt]
   have iy : ∀ h : ah, iaO h 1 vc (vi .i64 ((i + 1 : Nat) : Int)) = some (.rptr (ba y), h) := fun h => hc.ia (by omega) (by exact nx hy)
   have ix : ∀ h : ah, iaO h 1 vc (vi .i64 (i : Int)) = some (.rptr (ba x), h) := fun h => hc.ia (by omega) (by exact nx hx)
   have m40 : IntKind.i64.wrap ((y.toNat : Int).tmod 40) = ((y.toNat % 40 : Nat) : Int) := by
    rw [Int.tmod_eq_emod_of_nonneg (by omega), IntWalk.i64_in _ (by omega)]; omega
   have m50 : IntKind.i64.wrap (100 + IntKind.i64.wrap ((y.toNat : Int).tmod 50)) = ((100 + y.toNat % 50 : Nat) : Int) := by
    have : IntKind.i64.wrap ((y.toNat : Int).tmod 50) = ((y.toNat % 50 : Nat) : Int) := by
     rw [Int.tmod_eq_emod_of_nonneg (by omega), IntWalk.i64_in _ (by omega)]; omega
    rw [this, IntWalk.i64_in _ (by omega)]; omega
   simp only [go_sem, seval, hs, h0, h1, h5, h6, e1, iy, ba, m40]
   refine Xs (k := .i64) (k' := .i64) (a := y.toNat % 40) (by simp only [go_sem, seval, hs]) (by simp only [go_sem, seval, hs]) (by omega) (by omega) ?_
   rw [qr]
   simp only [go_sem, seval, hs, h0, h1, h5, h6, e1, ix, ba]
   refine ah0 (fun st => ∃ hh L, st.h = hh ++ [.arr 1 (eB (List.replicate L 0)) 0 false] /\ ej hh 2 els v /\ L = (if 230 < x.toNat then 100 + y.toNat % 50 else y.toNat % 40) /\ st.s.length = 82 /\ st.s.getD 0 .undef = vc /\ st.s.getD 1 .undef = vi .i64 n /\ st.s.getD 5 .undef = v /\ st.s.getD 6 .undef = vi .i64 i /\ st.s.getD 7 .undef = .own hh.length 0 0 L true) (fun hc' => ?_) (fun hc' => ?_) ?_
   ·have hgt : 230 < x.toNat := by omega
    simp only [go_sem, seval, hs, h0, h1, h5, h6, e1, iy, ba, m50]
    refine Xs (k := .i64) (k' := .i64) (a := 100 + y.toNat % 50) (by simp only [go_sem, seval, hs]) (by simp only [go_sem, seval, hs]) (by omega) (by omega) ?_
    rw [qr]
    simp only [go_sem, seval, hs]
    exact ⟨_, _, rfl, hb.push _, by rw [if_pos hgt], by simp only [ae, hs], by simp only [go_sem, seval, h0], by simp only [go_sem, seval, h1], by simp only [go_sem, seval, h5], by simp only [go_sem, seval, h6], by simp only [go_sem, seval, hs]⟩
   ·have hgt : ¬ 230 < x.toNat := by omega
    simp only [go_sem, seval, hs]
    exact ⟨_, _, rfl, hb, by rw [if_neg hgt], by simp only [ae, hs], by simp only [go_sem, seval, h0], by simp only [go_sem, seval, h1], by simp only [go_sem, seval, h5], by simp only [go_sem, seval, h6], by simp only [go_sem, seval, hs]⟩
   ·clear iy ix
    rintro s h' ⟨hh, L, rfl, hb, hL, hs, h0, h1, h5, h6, h7⟩
    simp only at hs h0 h1 h5 h6 h7
    have hL2 : L <= 149 := by rw [hL]; split <;> omega
    have hrep : (List.replicate L (0 : UInt8)).length = L := List.length_replicate
    simp only [go_sem, Nat.reduceLT, Nat.reduceEqDiff, reduceCtorEq, Int.reduceLT, Int.reduceEq, hs]
    refine f49_fill c vc hc i y hy (by omega) hh L 0 (List.replicate L 0) _ _ (by rw [hrep]; omega) (by rw [hrep]; omega) (fun j hj => by omega) (by simp only [ae, hs]) (by simp only [go_sem, Nat.reduceLT, Nat.reduceEqDiff, reduceCtorEq, Int.reduceLT, Int.reduceEq, h0]) (by simp only [go_sem, Nat.reduceLT, Nat.reduceEqDiff, reduceCtorEq, Int.reduceLT, Int.reduceEq, h6]) (by simp only [go_sem, Nat.reduceLT, Nat.reduceEqDiff, reduceCtorEq, Int.reduceLT, Int.reduceEq, h7, hrep]) (by simp only [go_sem, Nat.reduceLT, Nat.reduceEqDiff, reduceCtorEq, Int.reduceLT, Int.reduceEq, hs]; rfl) ?_
    intro s' hs' hj'
    have h0' : s'.getD 0 .undef = vc := by rw [hj' 0 (by decide)]; simp only [go_sem, seval, h0]
    have h1' : s'.getD 1 .undef = vi .i64 n := by rw [hj' 1 (by decide)]; simp only [go_sem, seval, h1]
    have h5' : s'.getD 5 .undef = v := by rw [hj' 5 (by decide)]; simp only [go_sem, seval, h5]
    have h6' : s'.getD 6 .undef = vi .i64 i := by rw [hj' 6 (by decide)]; simp only [go_sem, seval, h6]
    have h7' : s'.getD 7 .undef = .own hh.length 0 0 L true := by rw [hj' 7 (by decide)]; simp only [go_sem, seval, h7]
    clear hj'
    rw [hrep]
    have iy : ∀ h : ah, iaO h 1 vc (vi .i64 ((i + 1 : Nat) : Int)) = some (.rptr (ba y), h) := fun h => hc.ia (by omega) (by exact nx hy)
    have ix : ∀ h : ah, iaO h 1 vc (vi .i64 (i : Int)) = some (.rptr (ba x), h) := fun h => hc.ia (by omega) (by exact nx hx)
    have k1 : IntKind.u8.wrap (97 + (x.toNat : Int).tmod 16) = (((u8 (97 + x.toNat % 16)).toNat : Nat) : Int) := by
     rw [jy _ (by omega), Int.tmod_eq_emod_of_nonneg (by omega), IntKind.wrap_u8]; omega
    have k2 : IntKind.u8.wrap (97 + (IntKind.u8.wrap ((x.toNat : Int).tdiv 16)).tmod 4) = (((u8 (97 + x.toNat / 16 % 4)).toNat : Nat) : Int) := by
     have : IntKind.u8.wrap ((x.toNat : Int).tdiv 16) = ((x.toNat / 16 : Nat) : Int) := by
      rw [Int.tdiv_eq_ediv_of_nonneg (by omega), IntKind.wrap_u8]; omega
     rw [jy _ (by omega), this, Int.tmod_eq_emod_of_nonneg (by omega), IntKind.wrap_u8]; omega
    simp only [go_sem, seval, Jf, hs']
    refine jz rfl ?_
    simp only [go_sem, seval, hs', h0', h5', h6', h7', ix, ba, k1, k2]
    rw [show ([[CV.sc (.int .u8 ((u8 (97 + x.toNat % 16)).toNat : Nat))], [CV.sc (.int .u8 ((u8 (97 + x.toNat / 16 % 4)).toNat : Nat))]] : List (List CV)) = eB (aj3 x) from rfl]
    simp only [go_sem, seval, hs', h0', h5', h6', h7', am8]
    rw [Ix (by rw [ax, Eu])]
    simp only [go_sem, seval, hs', h5']
    refine aee ((hb.push _).push _) (new := [[.sc (.string ⟨(aj3 x).toArray⟩), .sl 1 (eB (aev y L)) true]]) (by simp only [go_sem, seval, hs']) (by simp only [go_sem, seval, hs']; exact Ti) (by simp only [List.length_singleton]; omega) (by simp only [List.length_singleton]; omega) (fun v' h' hb' _ _ => ?_)
    simp only [go_sem, seval, hs', h6', e3]
    refine ih (i + 2) _ (kv ++ [(aj3 x, alm x y)]) h' v' _ Q (by omega) (by simp only [List.length_append, List.length_singleton]; omega) (hR.snoc ⟨_, rfl, ?_⟩) hb' (by simp only [ae, hs']) (by simp only [go_sem, seval, h0']) (by simp only [go_sem, seval, h1']) (by simp only [go_sem, seval, hs']) (by simp only [go_sem, seval, hs']) ?_
    ·unfold alm
     rw [<- hL]
     exact SlV.sl
    ·intro s' h' v' els' a1 a2 a3 a4
     refine hQ s' h' v' els' a1 a2 a3 ?_
     rw [hd]
     simp only [Cj]
     rw [List.append_assoc] at a4
     exact a4
  ·simp only [go_sem, seval, hs, h0, h1, h5, h6, e1, e2, hc.ln, ax, hl, hlt]
   refine hQ _ h v els (by simp only [ae, hs]) (by simp only [go_sem, seval, h5]) hb ?_
   have : Cj (m + 1) (c.drop i) = [] := by
    match hd : c.drop i with
    | [] => rfl
    | [_] => rfl
    | _ :: _ :: _ =>
     have := congrArg List.length hd
     simp only [List.length_drop, List.length_cons] at this
     omega
   rw [this, List.append_nil]; exact hR
theorem ab7 (c : List UInt8) (vc : VV) (hc : SlV 1 (eB c) vc) (n : Nat) (hn : n <= 60) (h : ah) : ∃ v h', call F 49 [vc, vi .i64 n] h = some (.ret v, h') /\ ∃ els, ej h' 2 els v /\ RowsE els (Cj n c) := by
 have : ∃ v h', call F 49 [vc, vi .i64 n] h = some (.ret v, h') /\ (fun v h' => ∃ els, ej h' 2 els v /\ RowsE els (Cj n c)) v h' := by
  refine bj (fn := f49) rfl ?_
  simp only [f49]
  generalize hs0 : ([vc, vi .i64 n] ++ List.replicate _ VV.undef : List VV) = s
  have hs : s.length = 82 := by grind
  have h0 : s.getD 0 .undef = vc := by grind
  have h1 : s.getD 1 .undef = vi .i64 n := by grind
  clear hs0
  simp only [go_sem, Nat.reduceLT, Nat.reduceEqDiff, reduceCtorEq, Int.reduceLT, Int.reduceEq, hs, h0, h1]
  refine f49_loop c vc hc n hn n 0 [] [] h br _ _ (by omega) (by simp) .nil (ej.nil _ _) (by grind) (by grind) (by grind) (by grind) (by grind) ?_
  intro s' h' v' els' hs' h5' hb' hR'
  simp only [go_sem, seval, hs', h5']
  grind
 exact this
theorem Uw (c : List UInt8) (vc : VV) (hc : SlV 1 (eB c) vc) (n : Nat) (hn : n <= 60) : ∃ v h' els, call F 49 [vc, vi .i64 n] [] = some (.ret v, h') /\ av h' v = some (slV 2 els) /\ RowsE els (Cj n c) := by
 obtain ⟨v, h', h1, els, h2, h3⟩ := ab7 c vc hc n hn []
 exact ⟨v, h', els, h1, h2.close, h3⟩
open Go Go.Vm
open Go Go.Vm
open Go Go.Vm
open Go Go.Vm
open Go Go.Vm
def ch0 : List CV := [.sc (.string ⟨#[]⟩), .sc (.slice none 0 0), .sc (.bool false)]
def chC (k : List UInt8) (c : CV) (g : Bool) : List CV := [.sc (.string ⟨k.toArray⟩), c, .sc (.bool g)]
def du (b : List UInt8) (a : Int) : List CV × Nat × Nat :=
 if (bg b a 30).2.2 ≠ 0 then (ch0, 0, (bg b a 30).2.2) else
 match b[(bg b a 30).2.1]? with
 | none => (ch0, 0, 10)
 | some c => if c.toNat = 1 then (chC (bg b a 30).1 (.sc (.slice none 0 0)) true, (bg b a 30).2.1 + 1, 0) else
  if 1 < c.toNat then (ch0, 0, 11) else
  (chC (bg b a 30).1 (.sl 1 (eB (bg b ((bg b a 30).2.1 + 1 : Nat) 150).1) false) false, (bg b ((bg b a 30).2.1 + 1 : Nat) 150).2.1, (bg b ((bg b a 30).2.1 + 1 : Nat) 150).2.2)
theorem El (b : List UInt8) (a m : Int) (h : (bg b a m).2.2 = 0) : (bg b a m).2.1 <= b.length /\ (bg b a m).1.length <= b.length /\ 0 <= a /\ a < (bg b a m).2.1 := by
 have hbd := np b a
 unfold bg at h |-
 grind
theorem Ki (b : List UInt8) (a : Int) : ∃ u w t, (du b a).1 = [u, w, t] := by
 unfold du
 split
 ·exact ⟨_, _, _, rfl⟩
 ·split
  ·exact ⟨_, _, _, rfl⟩
  ·split
   ·exact ⟨_, _, _, rfl⟩
   ·split
    ·exact ⟨_, _, _, rfl⟩
    ·exact ⟨_, _, _, rfl⟩
theorem aer {h : ah} {u w t c1 c2 : CV} : av h (.tup [.agg [.cv u, .cv w, .cv t], .cv c1, .cv c2]) = some (.tup [.agg [.cv u, .cv w, .cv t], .cv c1, .cv c2]) := rfl
theorem ai2 {a b c : VV} {u w : CV} : bdO [a, b, c] [(0, 1, .cv u), (2, 1, .cv w)] = some (.agg [.cv u, b, .cv w]) := rfl
theorem aij {a b c : VV} {u w : CV} : bdO [a, b, c] [(0, 1, .cv u), (1, 1, .cv w)] = some (.agg [.cv u, .cv w, c]) := rfl
theorem Rq (b : List UInt8) (v : VV) (hv : SlV 1 (eB b) v) (a : Int) (hb : b.length <= 1000000000) :
  ∃ w h', call F 93 [v, vi .i64 a] [] = some (.ret w, h') /\ alj (.tup [.agg ((du b a).1.map .cv), vi .i64 (du b a).2.1, vi .u16 (du b a).2.2]) w h' := by
 refine bj (fn := f93) rfl ?_
 simp only [f93]
 generalize hs0 : ([v, vi .i64 a] ++ List.replicate _ VV.undef : List VV) = s
 have hs : s.length = 59 := by grind
 have h0 : s.getD 0 .undef = v := by grind
 have h1 : s.getD 1 .undef = vi .i64 a := by grind
 clear hs0
 simp only [go_sem, seval, hs, h0, h1, List.nil_append, List.length_nil]
 refine ao (by simp only [List.map, go_sem, seval, hs, h0, h1]; exact hv.clos (dv (dv lf))) (yv b v hv a 30 [] hb) Am ?_
 have hbd := El b a 30
 unfold du
 generalize bg b a 30 = x at hbd |-
 obtain ⟨k, j, e⟩ := x
 simp only [go_sem, seval, hs, h0] at hbd |-
 by_cases c1 : (e : Int) = 0
 ·have c1' : e = 0 := by omega
  subst c1'
  obtain ⟨hj, _⟩ := hbd rfl
  by_cases c2 : (j : Int) = (b.length : Int)
  ·have hg : b[j]? = none := List.getElem?_eq_none (by omega)
   simp only [go_sem, seval, hs, h0, eq_true c1, hv.ln, ax, eq_true c2, hg]
   refine Sl (id := 0) (by simp_all) rfl rfl (by simp_all) (by simp_all) ?_
   simp only [go_sem, seval, hs]
   rfl
  ·obtain ⟨c, hg⟩ : ∃ c, b[j]? = some c := ⟨_, List.getElem?_eq_getElem (show j < b.length by omega)⟩
   have hia : ∀ h : ah, iaO h 1 v (vi .i64 (j : Int)) = some (.rptr (ba c), h) := fun h => hv.ia (by omega) (by exact nx hg)
   have e5 : IntKind.i64.wrap ((j : Int) + 1) = ((j + 1 : Nat) : Int) := by rw [IntWalk.i64_in _ (by omega)]; omega
   by_cases c3 : (c.toNat : Int) = 1
   ·have c3' : c.toNat = 1 := by omega
    have k1 : ((1 : Nat) : Int) = 1 := rfl
    simp only [go_sem, seval, hs, h0, eq_true c1, hv.ln, ax, c2, hia, ba, eq_true c3, c3', k1, hg, ai2, e5]
    refine Sl (id := 0) (by simp_all) rfl rfl (by simp_all) (by simp_all) ?_
    simp only [go_sem, seval, hs]
    rfl
   ·have c3' : ¬ c.toNat = 1 := by omega
    by_cases c4 : (1 : Int) < (c.toNat : Int)
    ·have c4' : 1 < c.toNat := by omega
     simp only [go_sem, seval, hs, h0, eq_true c1, hv.ln, ax, c2, hia, ba, c3, c3', c4, c4', hg]
     refine Sl (id := 0) (by simp_all) rfl rfl (by simp_all) (by simp_all) ?_
     simp only [go_sem, seval, hs]
     rfl
    ·have c4' : ¬ 1 < c.toNat := by omega
     simp only [go_sem, seval, hs, h0, eq_true c1, hv.ln, ax, c2, hia, ba, c3, c3', c4, c4', hg, e5]
     refine ao (by simp only [List.map, go_sem, seval, hs]; exact hv.clos (dv (dv lf))) (yv b v hv (j + 1 : Nat) 150 [] hb) Am ?_
     generalize bg b (j + 1 : Nat) 150 = y
     obtain ⟨u, j2, e2⟩ := y
     simp only [go_sem, seval, hs, aij]
     refine Sl (id := 0) (by simp_all) rfl rfl (by simp_all) (by simp_all) ?_
     simp only [go_sem, seval, hs]
     rfl
 ·have c1' : ¬ e = 0 := by omega
  simp only [go_sem, seval, hs, c1, c1']
  refine Sl (id := 0) (by simp_all) rfl rfl (by simp_all) (by simp_all) ?_
  simp only [go_sem, seval, hs]
  rfl
theorem f92_end (e : Nat) (s : List VV) (h : ah) (Q : Pst) (hs : s.length = 55) (h9 : s.getD 9 .undef = vi .u16 e) (he : e ≠ 0)
  (hQ : ∀ s', s'.length = 55 -> (∀ i, i < 10 -> s'.getD i .undef = s.getD i .undef) -> Q (.exit 0) ⟨s', h⟩) : X F (.loop f92_0) ⟨s, h⟩ Q := by
 rw [aw, bf f92_0.eq_1]
 have he' : ¬ (e : Int) = 0 := by omega
 simp only [go_sem, seval, hs, h9, he']
 refine hQ _ (by simp_all) (fun i hi => ?_)
 have : ∀ j, 10 <= j -> j ≠ i := by omega
 simp_all
theorem f92_loop (b : List UInt8) (vb_ : VV) (hv : SlV 1 (eB b) vb_) (hb : b.length <= 1000000000) : ∀ (n a : Nat) (out : List (List CV)) (s : List VV) (h : ah) (v : VV) (Q : Pst), out.length + n <= 5000 -> s.length = 55 ->
  s.getD 0 .undef = vb_ -> s.getD 1 .undef = .func 93 [] -> s.getD 6 .undef = v -> s.getD 7 .undef = vi .i64 n -> s.getD 8 .undef = vi .i64 a -> s.getD 9 .undef = vi .u16 0 -> ej h 3 out v ->
  (∀ s' h' v', s'.length = 55 -> s'.getD 0 .undef = vb_ -> s'.getD 6 .undef = v' -> ej h' 3 (jh (du b) n a out).1 v' ->
   s'.getD 8 .undef = vi .i64 (jh (du b) n a out).2.1 -> s'.getD 9 .undef = vi .u16 (jh (du b) n a out).2.2 -> Q (.exit 0) ⟨s', h'⟩) ->
  X F (.loop f92_0) ⟨s, h⟩ Q := by
 intro n
 induction n with
 | zero =>
  intro a out s h v Q hn hs h0 h1 h6 h7 h8 h9 hbuf hQ
  rw [aw, bf f92_0.eq_1]
  have hn0 : ¬ (0 : Int) < ((0 : Nat) : Int) := by decide
  simp only [go_sem, Nat.reduceLT, Nat.reduceEqDiff, reduceCtorEq, Int.reduceLT, Int.reduceEq, hs, h7, h9, hn0]
  exact hQ _ _ v (by grind) (by grind) (by grind) hbuf (by simp only [go_sem, Nat.reduceLT, Nat.reduceEqDiff, reduceCtorEq, Int.reduceLT, Int.reduceEq, h8, jh]) (by simp only [go_sem, Nat.reduceLT, Nat.reduceEqDiff, reduceCtorEq, Int.reduceLT, Int.reduceEq, h9, jh]; rfl)
 | succ n ih =>
  intro a out s h v Q hn hs h0 h1 h6 h7 h8 h9 hbuf hQ
  rw [aw, bf f92_0.eq_1]
  have hn0 : (0 : Int) < ((n + 1 : Nat) : Int) := by omega
  simp only [go_sem, seval, hs, h0, h1, h6, h7, h8, h9, hn0]
  obtain ⟨w, hc, hcall, hw⟩ := Rq b vb_ hv a hb
  obtain ⟨u1, u2, u3, hu⟩ := Ki b a
  unfold alj at hw
  rw [hw, hu] at hcall
  refine Bg (by simp only [go_sem, seval, hs]) (by simp only [List.map, go_sem, seval, hs]; exact hv.clos (dv lf)) hcall aer ?_
  simp only [go_sem, seval, hs, h0, h1, h6, h7, h8, h9]
  have e7 : IntKind.i64.wrap (((n + 1 : Nat) : Int) - 1) = (n : Int) := by rw [IntWalk.i64_in _ (by omega)]; omega
  by_cases c1 : ((du b a).2.2 : Int) = 0
  ·have c1' : (du b a).2.2 = 0 := by omega
   simp only [go_sem, seval, hs, h6, eq_true c1]
   refine uz (new := [[u1, u2, u3]]) (hbuf.push _) (by simp only [go_sem, seval, hs]) (by simp only [go_sem, seval, hs]) (by grind) (by grind) (fun v' h' hb' _ _ => ?_)
   simp only [go_sem, Nat.reduceLT, Nat.reduceEqDiff, reduceCtorEq, Int.reduceLT, Int.reduceEq, hs, h7, e7]
   refine ih (du b a).2.1 (out ++ [(du b a).1]) _ h' v' Q (by grind) (by simp only [ae, hs]) (by simp only [go_sem, Nat.reduceLT, Nat.reduceEqDiff, reduceCtorEq, Int.reduceLT, Int.reduceEq, h0]) (by simp only [go_sem, Nat.reduceLT, Nat.reduceEqDiff, reduceCtorEq, Int.reduceLT, Int.reduceEq, h1]) (by simp only [go_sem, Nat.reduceLT, Nat.reduceEqDiff, reduceCtorEq, Int.reduceLT, Int.reduceEq, hs]) (by simp only [go_sem, Nat.reduceLT, Nat.reduceEqDiff, reduceCtorEq, Int.reduceLT, Int.reduceEq, hs]) (by simp only [go_sem, Nat.reduceLT, Nat.reduceEqDiff, reduceCtorEq, Int.reduceLT, Int.reduceEq, hs]) (by simp only [go_sem, Nat.reduceLT, Nat.reduceEqDiff, reduceCtorEq, Int.reduceLT, Int.reduceEq, hs, c1']; rfl) (by grind) ?_
   simp only [jh, c1', ne_eq, not_true_eq_false, if_false] at hQ
   exact hQ
  ·have c1' : ¬ (du b a).2.2 = 0 := by omega
   simp only [go_sem, seval, hs, h6, h7, c1, e7]
   refine f92_end (du b a).2.2 _ _ Q (by simp_all) (by simp_all) c1' (fun s' hs' hl => ?_)
   simp only [jh, c1', ne_eq, not_false_eq_true, if_true] at hQ
   refine hQ s' _ v hs' ?_ ?_ (hbuf.push _) ?_ ?_
   ·rw [hl 0 (by decide)]; simp only [go_sem, seval, h0]
   ·rw [hl 6 (by decide)]; simp only [go_sem, seval, h6]
   ·rw [hl 8 (by decide)]; simp only [go_sem, seval, hs]
   ·rw [hl 9 (by decide)]; simp only [go_sem, seval, hs]
theorem Ry (b : List UInt8) (vb_ : VV) (hv : SlV 1 (eB b) vb_) (hb : b.length ≤ 1000000000) :
    ∃ v h', call F 92 [vb_, .func 93 []] [] = some (.ret v, h') ∧ Bm (.tup [slV 3 (iu (du b) b).1, vi .u16 (iu (du b) b).2]) v h' := by
  refine bj (fn := f92) rfl ?_
  simp only [f92]
  generalize hs0 : ([vb_, .func 93 []] ++ List.replicate _ VV.undef : List VV) = s
  have hs : s.length = 55 := by grind
  have h0 : s.getD 0 .undef = vb_ := by grind
  have h1 : s.getD 1 .undef = .func 93 [] := by grind
  clear hs0
  simp only [go_sem, seval, hs, h0, h1]
  refine ao (by simp only [List.map, go_sem, seval, hs]; exact hv.clos (dv lf)) (Pm b vb_ hv 0 [] hb) Am ?_
  have hbd := np b 0
  unfold iu
  generalize cf b 0 = x at hbd ⊢
  obtain ⟨n, a, e⟩ := x
  simp only [go_sem, seval, hs, h0, h1] at hbd ⊢
  -- the end, with an error
  have bad : ∀ (e : Nat) (s' : List VV) (h' : ah) (w : VV), s'.length = 55 → e ≠ 0 → s'.getD 9 .undef = vi .u16 e → w = .tup [slV 3 [], vi .u16 e] →
      X F (.seq (.block 2
  (.seq (.reg [
  ⟨none, (some 46), (.mv (.t 9))⟩,
  ⟨none, (some 47), (.bin .neq (.t 46) (.c (.cv (.sc (.int .u16 0)))))⟩,
  ⟨none, (some 45), (.mv (.t 47))⟩])
  (.cond (.t 45)
  (.seq (.reg [
  ⟨none, (some 48), (.mv (.t 9))⟩,
  ⟨none, (some 4), (.mv (.c (.cv (.sc (.slice none 0 0)))))⟩,
  ⟨none, (some 5), (.mv (.t 48))⟩])
  .ret)
  (.seq (.reg [
  ⟨none, (some 50), (.mv (.t 8))⟩,
  ⟨none, (some 51), (.mv (.t 0))⟩,
  ⟨none, (some 52), (.len false (.t 51))⟩,
  ⟨none, (some 53), (.bin .lss (.t 50) (.t 52))⟩,
  ⟨none, (some 49), (.mv (.t 53))⟩])
  (.cond (.t 49)
  (.seq (.reg [
  ⟨none, (some 4), (.mv (.c (.cv (.sc (.slice none 0 0)))))⟩,
  ⟨none, (some 5), (.mv (.c (.cv (.sc (.int .u16 11)))))⟩])
  .ret) .skip)))))
  (.seq (.reg [
  ⟨none, (some 54), (.mv (.t 6))⟩,
  ⟨none, (some 4), (.mv (.t 54))⟩,
  ⟨none, (some 5), (.mv (.c (.cv (.sc (.int .u16 0)))))⟩])
  .ret)) ⟨s', h'⟩ (RQ [.t 4, .t 5] (Bm w)) := by
    intro e s' h' w hs' he h9 hw
    have he' : ¬ (e : Int) = 0 := by omega
    simp only [go_sem, seval, hs', h9, he']
    rw [hw]
    exact Gc (ej.nil h' 3)
  by_cases c1 : (e : Int) = 0
  · have c1' : e = 0 := by omega
    subst c1'
    by_cases c2 : (5000 : Int) < (n : Int)
    · have c2' : 5000 < n := by omega
      simp only [go_sem, Nat.reduceLT, Nat.reduceEqDiff, reduceCtorEq, Int.reduceLT, Int.reduceEq, hs, h0, h1, eq_true c1, c2, c2']
      refine f92_end 3 _ _ _ (by simp_all) (by simp_all) (by decide) (fun s' hs' hl => ?_)
      simp only [Jf, if_true, Pb]
      refine bad 3 _ _ _ hs' (by decide) ?_ rfl
      rw [hl 9 (by decide)]; simp only [go_sem, Nat.reduceLT, Nat.reduceEqDiff, reduceCtorEq, Int.reduceLT, Int.reduceEq, hs]; rfl
    · have c2' : ¬ 5000 < n := by omega
      simp only [go_sem, Nat.reduceLT, Nat.reduceEqDiff, reduceCtorEq, Int.reduceLT, Int.reduceEq, hs, h0, h1, eq_true c1, c2, c2']
      refine f92_loop b vb_ hv hb n a [] _ _ br _ (by grind) (by simp_all) (by simp only [go_sem, Nat.reduceLT, Nat.reduceEqDiff, reduceCtorEq, Int.reduceLT, Int.reduceEq, h0]) (by simp_all) (by simp_all) (by simp_all) (by simp_all) (by simp_all) (ej.nil _ _) ?_
      intro s' h' v' hs' h0' h6' hb' h8' h9'
      simp only [Jf, if_true, Pb]
      generalize jh (du b) n a [] = y at *
      obtain ⟨out, j, e2⟩ := y
      simp only at *
      by_cases c3 : (e2 : Int) = 0
      · have c3' : e2 = 0 := by omega
        subst c3'
        by_cases c4 : (j : Int) < (b.length : Int)
        · have c4' : j < b.length := by omega
          simp only [go_sem, seval, hs', h0', h6', h8', h9', eq_true c3, ax, hv.ln, c4, c4']
          exact Gc (ej.nil h' 3)
        · have c4' : ¬ j < b.length := by omega
          simp only [go_sem, seval, hs', h0', h6', h8', h9', eq_true c3, ax, hv.ln, c4, c4']
          exact Gc hb'
      · have c3' : e2 ≠ 0 := by omega
        grind
  · have c1' : e ≠ 0 := by omega
    simp only [go_sem, seval, hs, h0, h1, c1]
    rw [if_pos c1']
    refine f92_end e _ _ _ (by simp_all) (by simp_all) c1' (fun s' hs' hl => ?_)
    simp only [Jf, if_true, Pb]
    refine bad e _ _ _ hs' c1' ?_ rfl
    rw [hl 9 (by decide)]; simp only [go_sem, seval, hs]
theorem Kh (b : List UInt8) (vb_ : VV) (hv : SlV 1 (eB b) vb_) (hb : b.length <= 1000000000) :
  ∃ v h', call F 84 [vb_] [] = some (.ret v, h') /\ Bm (.tup [slV 3 (iu (du b) b).1, vi .u16 (iu (du b) b).2]) v h' := by
 refine bj (fn := f84) rfl ?_
 simp only [f84]
 generalize hs0 : ([vb_] ++ List.replicate _ VV.undef : List VV) = s
 have hs : s.length = 8 := by grind
 have h0 : s.getD 0 .undef = vb_ := by grind
 clear hs0
 simp only [go_sem, seval, hs, h0]
 obtain ⟨v, hc, hcall, hw⟩ := Ry b vb_ hv hb
 refine ao (h1 := []) (by simp only [List.map, go_sem, seval, hs]; exact hv.clos rfl) hcall hw ?_
 simp only [go_sem, seval, hs]
 unfold slV
 split <;> rfl
open Go Go.Vm
theorem RowsE.get {l : List (List CV)} {k : List (List UInt8 × List UInt8)} (h : RowsE l k) : ∀ {i : Nat}, i < k.length -> ∃ e p, l[i]? = some e /\ k[i]? = some p /\ alv e p := by
 induction h with
 | nil => intro i hi; simp at hi
 | @cons e p l k h _ ih =>
  intro i hi
  cases i with
  | zero => exact ⟨e, p, rfl, rfl, h⟩
  | succ i =>
   obtain ⟨e', p', h1, h2, h3⟩ := ih (i := i) (by simpa using hi)
   exact ⟨e', p', by simpa using h1, by simpa using h2, h3⟩
open Go Go.Vm
def ahm (kv : List (List UInt8 × List UInt8)) : Prop := ∀ p ∈ kv, p.1.length <= 30 /\ p.2.length <= 150
theorem zp : ∀ n c, ahm (Cj n c)
 | 0, _ => by intro p hp; simp [Cj] at hp
 | n + 1, [] => by intro p hp; simp [Cj] at hp
 | n + 1, [_] => by intro p hp; simp [Cj] at hp
 | n + 1, x :: y :: r => by
  intro p hp
  simp only [Cj, List.mem_cons] at hp
  rcases hp with rfl | hp
  ·have := ab5 x y
   exact ⟨by simp [aj3], by simp only; omega⟩
  ·exact zp n r p hp
theorem Yz (p : List UInt8 × List UInt8) (h : p.1.length <= 30 /\ p.2.length <= 150) : (jg p).length <= 200 := by
 unfold jg jk
 have h1 := nd p.1.length
 have h2 := nd p.2.length
 simp only [List.length_append]; omega
open Go Go.Vm
open Go Go.Vm
theorem Bj (c : UInt8) : u8 c.toNat = c := by
 unfold u8
 exact UInt8.ofNat_toNat
theorem Jg : ∀ (k : Nat) (l : List UInt8) (at_ i acc m j : Nat), zj k l at_ i acc = (m, j, 0) ->
  ∃ n q r, l = q ++ r /\ j = at_ + i + q.length /\ m = acc + n * 128 ^ i /\ (0 < n \/ i = 0) /\ ∀ K, n < 128 ^ (K + 1) -> q = wr K n
 | 0, _, _, _, _, _, _, h => by simp [zj] at h
 | k + 1, [], _, _, _, _, _, h => by simp [zj] at h
 | k + 1, c :: l, at_, i, acc, m, j, h => by
  have hc := c.toNat_lt
  simp only [zj] at h
  by_cases h1 : c.toNat < 128
  ·rw [if_pos h1] at h
   split at h
   ·simp at h
   ·rename_i h2
    simp only [Prod.mk.injEq] at h
    obtain ⟨rfl, rfl, _⟩ := h
    rw [Nat.mod_eq_of_lt h1]
    refine ⟨c.toNat, [c], l, rfl, rfl, rfl, by omega, fun K _ => ?_⟩
    have : ¬ 127 < c.toNat := by omega
    cases K with
    | zero => simp [wr, Bj]
    | succ K => simp [wr, this, Bj]
  ·rw [if_neg h1] at h
   obtain ⟨n, q, r, e1, e2, e3, e4, e5⟩ := Jg k l at_ (i + 1) _ m j h
   refine ⟨c.toNat % 128 + 128 * n, c :: q, r, by rw [e1]; rfl, by simp only [List.length_cons]; omega, ?_, .inl (by omega), fun K hK => ?_⟩
   ·rw [e3, Nat.pow_succ, Nat.add_mul, Nat.add_assoc]
    congr 2
    rw [Nat.mul_comm (128 ^ i) 128, <- Nat.mul_assoc, Nat.mul_comm n 128]
   ·cases K with
    | zero => omega
    | succ K =>
     have hn : 0 < n := by omega
     rw [Nat.pow_succ] at hK
     simp only [wr]
     rw [if_pos (by omega), e5 K (by omega)]
     have h3 : (c.toNat % 128 + 128 * n) % 128 = c.toNat % 128 := by omega
     have h4 : (c.toNat % 128 + 128 * n) / 128 = n := by omega
     have h5 : 128 + c.toNat % 128 = c.toNat := by omega
     rw [h3, h4, h5, Bj]
theorem Az {b : List UInt8} {a : Int} {n j : Nat} (h : cf b a = (n, j, 0)) : ∃ p r, b = p ++ num n ++ r /\ (p.length : Int) = a /\ j = p.length + (num n).length /\ n <= 9007199254740992 := by
 have hbd := np b a
 rw [h] at hbd
 unfold cf at h
 split at h
 ·simp at h
 ·rename_i h0
  obtain ⟨n', q, r, e1, e2, e3, e4, e5⟩ := Jg _ _ _ _ _ _ _ h
  simp only [Nat.pow_zero, Nat.mul_one, Nat.zero_add, Nat.add_zero] at e2 e3
  subst e3
  have hl : (b.take a.toNat).length = a.toNat := by rw [List.length_take]; omega
  have hq : q = num n := e5 8 (by rw [anu]; have := hbd.1; simp only at this; omega)
  refine ⟨b.take a.toNat, r, ?_, by rw [hl]; omega, by rw [hl, e2, hq], hbd.1⟩
  rw [List.append_assoc, <- hq, <- e1, List.take_append_drop]
theorem yn {b : List UInt8} {a most : Int} {s : List UInt8} {j : Nat} (h : bg b a most = (s, j, 0)) : ∃ p r, b = p ++ jk s ++ r /\ (p.length : Int) = a /\ j = p.length + (jk s).length /\ (s.length : Int) <= most := by
 unfold bg at h
 split at h
 ·rename_i h0
  simp only [Prod.mk.injEq] at h
  exact absurd h.2.2 h0
 ·rename_i h0
  split at h
  ·simp at h
  ·rename_i h1
   split at h
   ·simp at h
   ·rename_i h2
    have hx : cf b a = ((cf b a).1, (cf b a).2.1, 0) := by
     have : (cf b a).2.2 = 0 := by simpa using h0
     rw [<- this]
    obtain ⟨p, r, e1, e2, e3, e4⟩ := Az hx
    generalize (cf b a).1 = n at *
    generalize (cf b a).2.1 = k at *
    simp only [Prod.mk.injEq] at h
    obtain ⟨h3, h4, _⟩ := h
    have hk : k = (p ++ num n).length := by rw [List.length_append]; exact e3
    have hd : b.drop k = r := by rw [e1, hk, List.drop_left]
    rw [hd] at h3
    have hr : r.length = b.length - k := by rw [<- hd, List.length_drop]
    have hkb : k <= b.length := by rw [e1, hk]; simp only [List.length_append]; omega
    have hs : s.length = n := by rw [<- h3, List.length_take]; omega
    refine ⟨p, r.drop n, ?_, e2, ?_, by rw [hs]; omega⟩
    ·unfold jk
     rw [hs, tc n e4, <- h3]
     rw [List.append_assoc p, List.append_assoc, List.take_append_drop, <- List.append_assoc]
     exact e1
    ·unfold jk
     rw [hs, tc n e4, List.length_append, hs]; omega
open Go Go.Vm
theorem f102_inner : ∀ (r j n : Nat) (s : List VV) (h : ah) (Q : Pst), j + r = 8 -> n < 4294967296 -> s.length = 23 -> s.getD 3 .undef = vi .u32 n -> s.getD 9 .undef = vi .i64 j ->
  (∀ s', s'.length = 23 -> s'.getD 1 .undef = s.getD 1 .undef -> s'.getD 0 .undef = s.getD 0 .undef -> s'.getD 2 .undef = s.getD 2 .undef -> s'.getD 4 .undef = s.getD 4 .undef -> s'.getD 3 .undef = vi .u32 (eu r n) -> Q (.exit 2) ⟨s', h⟩) -> X F (.loop f102_2) ⟨s, h⟩ Q := by
 intro r
 induction r with
 | zero =>
  intro j n s h Q hj hn hs h3 h9 hQ
  rw [aw, bf f102_2.eq_1]
  have c : ¬ (j : Int) < 8 := by omega
  simp only [go_sem, seval, hs, h9, c]
  rw [bf f102_1.eq_1]
  simp only [go_sem, seval, hs]
  exact hQ _ (by grind) (by grind) (by grind) (by grind) (by grind) (by simp only [go_sem, seval, h3]; rfl)
 | succ r ih =>
  intro j n s h Q hj hn hs h3 h9 hQ
  rw [aw, bf f102_2.eq_1]
  have c : (j : Int) < 8 := by omega
  have hw : IntKind.i64.wrap ((j : Int) + 1) = ((j + 1 : Nat) : Int) := by rw [IntWalk.i64_in _ (by omega)]; omega
  have e1 : (n : Int).fdiv (2 ^ min ((1 : Int).toNat) IntKind.u32.bits) = ((n / 2 : Nat) : Int) := by
   show (n : Int).fdiv 2 = _
   grind
  have e1' : (n : Int).fdiv (2 ^ min ((1 : Int).toNat) 32) = ((n / 2 : Nat) : Int) := e1
  have e2 : IntKind.u32.wrap (3988292384 * ((n % 2 : Nat) : Int)) = ((3988292384 * (n % 2) : Nat) : Int) := by
   rw [IntWalk.u32_in _ (by omega)]; omega
  have e3 : bits .xor .u32 ((n / 2 : Nat) : Int) ((3988292384 * (n % 2) : Nat) : Int) = ((zz n : Nat) : Int) := Cw (by omega) (by omega)
  simp only [go_sem, seval, hs, h9, c]
  rw [bf f102_1.eq_1]
  simp only [go_sem, Nat.reduceLT, Nat.reduceEqDiff, reduceCtorEq, Int.reduceLT, Int.reduceEq, hs, h3, h9, ny (show ¬ (1 : Int) < 0 by decide), Wx hn, Vu, e1, e1', e2, e3, hw]
  exact ih (j + 1) (zz n) _ h Q (by omega) (Mx hn) (by simp only [ae, hs]) (by simp only [go_sem, Nat.reduceLT, Nat.reduceEqDiff, reduceCtorEq, Int.reduceLT, Int.reduceEq, hs]) (by simp only [go_sem, Nat.reduceLT, Nat.reduceEqDiff, reduceCtorEq, Int.reduceLT, Int.reduceEq, hs]) (fun s' b b1 b0 b2 b4 b3 => hQ s' b (by rw [b1]; simp only [go_sem, Nat.reduceLT, Nat.reduceEqDiff, reduceCtorEq, Int.reduceLT, Int.reduceEq]) (by rw [b0]; simp only [go_sem, Nat.reduceLT, Nat.reduceEqDiff, reduceCtorEq, Int.reduceLT, Int.reduceEq]) (by rw [b2]; simp only [go_sem, Nat.reduceLT, Nat.reduceEqDiff, reduceCtorEq, Int.reduceLT, Int.reduceEq]) (by rw [b4]; simp only [go_sem, Nat.reduceLT, Nat.reduceEqDiff, reduceCtorEq, Int.reduceLT, Int.reduceEq]) (by rw [b3]; rfl))
def zi (k : Nat) : List VV := (List.range k).map (fun i => vi .u32 (eu 8 i)) ++ List.replicate (256 - k) (vi .u32 0)
theorem vm {k : Nat} (h : k <= 256) : (zi k).length = 256 := by simp [zi]; omega
theorem abw {k : Nat} (h : k < 256) : (zi k).set k (vi .u32 (eu 8 k)) = zi (k + 1) := by
 unfold zi
 rw [List.set_append_right _ _ (by simp)]
 have : 256 - k = (256 - (k + 1)) + 1 := by omega
 rw [this, List.replicate_succ]
 simp [List.range_succ]
theorem aar {i : Nat} (h : i < 256) : (zi 256)[i]? = some (vi .u32 (eu 8 i)) := by simp [zi, h]
theorem f102_loop : ∀ (r k : Nat) (s : List VV) (h : ah) (p : Nat) (Q : Pst), k + r = 256 -> s.length = 23 -> s.getD 1 .undef = .ptr p 0 -> s.getD 4 .undef = vi .i64 k -> h[p]? = some (.box (zi k) false) ->
  (∀ s' h', s'.length = 23 -> s'.getD 1 .undef = .ptr p 0 -> s'.getD 0 .undef = s.getD 0 .undef -> h' = h.set p (.box (zi 256) false) -> Q (.exit 0) ⟨s', h'⟩) -> X F (.loop f102_3) ⟨s, h⟩ Q := by
 intro r
 induction r with
 | zero =>
  intro k s h p Q hk hs h1 h4 hp hQ
  rw [aw, bf f102_3.eq_1]
  have c : ¬ (k : Int) < 256 := by omega
  simp only [go_sem, seval, hs, h4, c]
  rw [bf f102_0.eq_1]
  simp only [go_sem, seval, hs]
  have : k = 256 := by omega
  subst this
  refine hQ _ _ (by grind) (by grind) (by grind) ?_
  apply List.ext_getElem?
  grind
 | succ r ih =>
  intro k s h p Q hk hs h1 h4 hp hQ
  rw [aw, bf f102_3.eq_1]
  have c : (k : Int) < 256 := by omega
  have hw : IntKind.i64.wrap ((k : Int) + 1) = ((k + 1 : Nat) : Int) := by rw [IntWalk.i64_in _ (by omega)]; omega
  have e1 : IntKind.u32.wrap (k : Int) = (k : Int) := IntWalk.u32_in _ (by omega)
  simp only [go_sem, seval, hs, h4, c]
  rw [bf f102_0.eq_1]
  simp only [go_sem, Nat.reduceLT, Nat.reduceEqDiff, reduceCtorEq, Int.reduceLT, Int.reduceEq, hs, h4, e1]
  refine f102_inner 8 0 k _ h _ (by omega) (by omega) (by simp_all) (by grind) (by grind) (fun s' b b1 b0 b2 b4 b3 => ?_)
  have b1' : s'.getD 1 .undef = .ptr p 0 := by grind
  have b2' : s'.getD 2 .undef = vi .i64 k := by grind
  have b4' : s'.getD 4 .undef = vi .i64 k := by grind
  have b0' : s'.getD 0 .undef = s.getD 0 .undef := by grind
  have hst := zf (v := vi .u32 (eu 8 k)) rfl hp (by rw [vm (by omega)]; omega : k < (zi k).length)
  simp only [go_sem, seval, b, b1', b2', b3, Tr (show k < 256 by omega), Nat.mul_one, hst, b4', hw]
  refine ih (k + 1) _ _ p Q (by omega) (by grind) (by grind) (by grind) (by rw [List.getElem?_set_self (ey hp), abw (by omega)]) (fun s'' h'' d d1 d0 dh => hQ s'' h'' d d1 (by grind) (by simp_all))
theorem Qh : ∃ v h', call F 102 [] [] = some (.ret v, h') /\ av h' v = some (.agg (zi 256)) := by
 refine bj (P := fun v h' => av h' v = some (.agg (zi 256))) (fn := f102) rfl ?_
 simp only [f102]
 generalize hZ : (List.replicate 256 (VV.cv (.sc (.int .u32 0)))) = Z
 have hZl : Z.length = 256 := by grind
 have hZt : Z = zi 0 := by rw [<- hZ]; rfl
 generalize hs0 : ([] ++ List.replicate _ VV.undef : List VV) = s
 have hs : s.length = 23 := by grind
 clear hs0
 simp only [go_sem, Nat.reduceLT, Nat.reduceEqDiff, reduceCtorEq, Int.reduceLT, Int.reduceEq, hs]
 have q0 : ([VO.box Z false] ++ [VO.box Z false])[1]? = some (.box (zi 0) false) := by rw [hZt]; rfl
 refine f102_loop 256 0 _ _ 1 _ (by omega) (by grind) (by grind) (by grind) q0 (fun s' h' a1 b1 b0 hh => ?_)
 have b0' : s'.getD 0 .undef = .ptr 0 0 := by grind
 have q1 : h'[1]? = some (.box (zi 256) false) := by rw [hh]; rfl
 have q0 : h'[0]? = some (.box Z false) := by rw [hh]; rfl
 have l1 := By q1 (vm (Nat.le_refl _))
 have s1 := jw (n := 256) (vm (Nat.le_refl _)) q0 hZl
 have hcl : ∀ h2 : ah, av h2 (.agg (zi 256)) = some (.agg (zi 256)) := by
  intro h2
  obtain ⟨l, hl⟩ : ∃ l : List CV, zi 256 = l.map .cv := ⟨(List.range 256).map (fun i => .sc (.int .u32 (eu 8 i))), by simp [zi]⟩
  rw [hl]
  simp [av, ie, yx]
 have hTl := vm (Nat.le_refl 256)
 generalize zi 256 = T at *
 simp only [go_sem, seval, a1, b1, b0', l1, s1]
 exact Ul (id := 0) (by grind) (by rw [List.getElem?_set_self (ey q0)]) hTl (hcl _)
theorem f95_loop {b : List UInt8} {u : VV} (hu : SlV 1 (eB b) u) (hb : b.length <= 1000000000) {h : ah} {p : Nat} (hp : h[p]? = some (.box (zi 256) false)) :
  ∀ (r k m : Nat) (s : List VV) (Q : Pst), k + r = b.length -> m < 4294967296 -> s.length = 29 -> s.getD 0 .undef = vi .u32 m -> s.getD 5 .undef = .ptr p 0 -> s.getD 11 .undef = u -> s.getD 12 .undef = vi .i64 b.length -> s.getD 13 .undef = vi .i64 k ->
   (∀ s', s'.length = 29 -> s'.getD 0 .undef = vi .u32 (amx m (b.drop k)) -> Q (.exit 0) ⟨s', h⟩) -> X F (.loop f95_1) ⟨s, h⟩ Q := by
 intro r
 induction r with
 | zero =>
  intro k m s Q hk hm hs h0 h5 h11 h12 h13 hQ
  rw [aw, bf f95_1.eq_1]
  have c : ¬ (k : Int) < (b.length : Int) := by omega
  simp only [go_sem, seval, hs, h12, h13, c]
  rw [bf f95_0.eq_1]
  simp only [go_sem, seval, hs]
  exact hQ _ (by grind) (by simp only [go_sem, seval, h0]; rw [List.drop_eq_nil_of_le (by omega)]; rfl)
 | succ r ih =>
  intro k m s Q hk hm hs h0 h5 h11 h12 h13 hQ
  rw [aw, bf f95_1.eq_1]
  have c : (k : Int) < (b.length : Int) := by omega
  have hkl : k < b.length := by omega
  have hw : IntKind.i64.wrap ((k : Int) + 1) = ((k + 1 : Nat) : Int) := by rw [IntWalk.i64_in _ (by omega)]; omega
  have hia := hu.ia (h := h) (k := .i64) (j := (k : Int)) (by omega) (nx (List.getElem?_eq_getElem hkl))
  have hc := (b[k]).toNat_lt
  have e1 : (m : Int).fdiv (2 ^ min ((8 : Int).toNat) 32) = ((m / 256 : Nat) : Int) := by
   grind
  have e1' : (m : Int).fdiv (2 ^ min ((8 : Int).toNat) IntKind.u32.bits) = ((m / 256 : Nat) : Int) := e1
  have e2 : IntKind.u8.wrap (m : Int) = ((m % 256 : Nat) : Int) := by rw [IntKind.wrap_u8]; omega
  have e3 : bits .xor .u8 ((m % 256 : Nat) : Int) ((b[k].toNat : Nat) : Int) = (((m % 256) ^^^ b[k].toNat : Nat) : Int) := Vh (by omega) hc
  have hx : (m % 256) ^^^ b[k].toNat < 256 := Nat.xor_lt_two_pow (n := 8) (by omega) (by omega)
  have hld : ldO h false 1 (.ptr p ((m % 256) ^^^ b[k].toNat)) = some (vi .u32 (eu 8 ((m % 256) ^^^ b[k].toNat)), h) := bc hp (aar hx)
  have hcs : eu 8 ((m % 256) ^^^ b[k].toNat) < 4294967296 := vh 8 (by omega)
  have e4 : bits .xor .u32 ((m / 256 : Nat) : Int) ((eu 8 ((m % 256) ^^^ b[k].toNat) : Nat) : Int) = ((eu 8 (m ^^^ b[k].toNat) : Nat) : Int) := by
   rw [Cw (by omega) hcs, Ll m (b[k])]
  simp only [go_sem, seval, hs, h12, h13, c]
  rw [bf f95_0.eq_1]
  simp only [go_sem, Nat.reduceLT, Nat.reduceEqDiff, reduceCtorEq, Int.reduceLT, Int.reduceEq, hs, h0, h5, h11, h13, hia, ba, ny (show ¬ (8 : Int) < 0 by decide), Vu, e1, e1', e2, e3, Tr hx, Nat.mul_one, hld, e4, hw]
  refine ih (k + 1) (eu 8 (m ^^^ b[k].toNat)) _ Q (by omega) (vh 8 (ajt hm _)) (by simp only [ae, hs]) (by simp only [go_sem, Nat.reduceLT, Nat.reduceEqDiff, reduceCtorEq, Int.reduceLT, Int.reduceEq, hs]) (by simp only [go_sem, Nat.reduceLT, Nat.reduceEqDiff, reduceCtorEq, Int.reduceLT, Int.reduceEq, h5]) (by simp only [go_sem, Nat.reduceLT, Nat.reduceEqDiff, reduceCtorEq, Int.reduceLT, Int.reduceEq, h11]) (by simp only [go_sem, Nat.reduceLT, Nat.reduceEqDiff, reduceCtorEq, Int.reduceLT, Int.reduceEq, h12]) (by simp only [go_sem, Nat.reduceLT, Nat.reduceEqDiff, reduceCtorEq, Int.reduceLT, Int.reduceEq, hs]) (fun s' b1 b2 => hQ s' b1 ?_)
  rw [b2, List.drop_eq_getElem_cons hkl]; rfl
theorem Yg {b : List UInt8} {u : VV} (hu : SlV 1 (eB b) u) (hb : b.length <= 1000000000) {n : Nat} (hn : n < 4294967296) : ∃ h', call F 95 [vi .u32 n, u] [] = some (.ret (vi .u32 (al3 n b)), h') := by
 have : ∃ v h', call F 95 [vi .u32 n, u] [] = some (.ret v, h') /\ (fun v h' => v = vi .u32 (al3 n b)) v h' := by
  refine bj (fn := f95) rfl ?_
  simp only [f95]
  generalize hZ : (List.replicate 256 (VV.cv (.sc (.int .u32 0)))) = Z
  have hZl : Z.length = 256 := by grind
  generalize hs0 : ([vi .u32 n, u] ++ List.replicate _ VV.undef : List VV) = s
  have hs : s.length = 29 := by grind
  have h0 : s.getD 0 .undef = vi .u32 n := by grind
  have h1 : s.getD 1 .undef = u := by grind
  clear hs0
  obtain ⟨vt, ht, n44, r44⟩ := Qh
  simp only [go_sem, seval, hs]
  refine ao (h1 := []) (by simp only [List.map]; rfl) n44 r44 ?_
  have q0 : ([] ++ [VO.box Z false] : ah)[0]? = some (.box Z false) := rfl
  have s1 := jw (n := 256) (vm (Nat.le_refl _)) q0 hZl
  have q1 : (([] ++ [VO.box Z false] : ah).set 0 (.box (zi 256) false))[0]? = some (.box (zi 256) false) := rfl
  have hx : 4294967295 ^^^ n < 4294967296 := Nat.xor_lt_two_pow (n := 32) (by decide) (by omega)
  generalize hT : zi 256 = T at *
  simp only [go_sem, Nat.reduceLT, Nat.reduceEqDiff, reduceCtorEq, Int.reduceLT, Int.reduceEq, hs, List.length_nil, s1, h0, h1, Nk hn, hu.ln, ax]
  subst hT
  refine f95_loop hu hb q1 b.length 0 _ _ _ (by omega) hx (by simp only [ae, hs]) (by simp only [go_sem, Nat.reduceLT, Nat.reduceEqDiff, reduceCtorEq, Int.reduceLT, Int.reduceEq, hs]) (by simp only [go_sem, Nat.reduceLT, Nat.reduceEqDiff, reduceCtorEq, Int.reduceLT, Int.reduceEq, hs]) (by simp only [go_sem, Nat.reduceLT, Nat.reduceEqDiff, reduceCtorEq, Int.reduceLT, Int.reduceEq, hs]) (by simp only [go_sem, Nat.reduceLT, Nat.reduceEqDiff, reduceCtorEq, Int.reduceLT, Int.reduceEq, hs]) (by simp only [go_sem, Nat.reduceLT, Nat.reduceEqDiff, reduceCtorEq, Int.reduceLT, Int.reduceEq, hs]; rfl) (fun s' a1 a0 => ?_)
  have hlt := Mg b hx
  simp only [go_sem, seval, a1, a0, Nk hlt]
  rfl
 grind
theorem adn {b : List UInt8} {u : VV} (hu : SlV 1 (eB b) u) (hb : b.length <= 1000000000) : ∃ h', call F 87 [u] [] = some (.ret (vi .u32 (crc b)), h') := by
 have : ∃ v h', call F 87 [u] [] = some (.ret v, h') /\ (fun v h' => v = vi .u32 (crc b)) v h' := by
  refine bj (fn := f87) rfl ?_
  simp only [f87]
  generalize hs0 : ([u] ++ List.replicate _ VV.undef : List VV) = s
  have hs : s.length = 5 := by grind
  have h0 : s.getD 0 .undef = u := by grind
  clear hs0
  obtain ⟨h', n39⟩ := Yg hu hb (n := 0) (by decide)
  simp only [go_sem, seval, hs, h0]
  refine ao (h1 := []) (by simp only [List.map, go_sem, seval, hs]; exact dv (hu.clos rfl)) n39 rfl ?_
  simp only [go_sem, seval, hs]
  rfl
 grind
open Go Go.Vm
theorem lh {n : Nat} (h : n < 256) : (UInt8.ofNat n).toNat = n := by rw [UInt8.toNat_ofNat']; exact Nat.mod_eq_of_lt h
theorem amr (n : Nat) (h : n < 4294967296) : eB (le4 n) = [[.sc (.int .u8 ((n % 256 : Nat) : Int))], [.sc (.int .u8 ((n / 256 % 256 : Nat) : Int))], [.sc (.int .u8 ((n / 65536 % 256 : Nat) : Int))], [.sc (.int .u8 ((n / 16777216 : Nat) : Int))]] := by
 simp only [eB, le4, List.map, ba]
 rw [lh (by omega), lh (by omega), lh (by omega), lh (by omega)]
theorem Ow {g0 h : ah} {b : List UInt8} {u : VV} (hu : BSrc g0 h b u) (hb : b.length <= 900000000) : Ret F 77 [u] h fun v h' => NB g0 h' 1 (eB (oc b)) v := by
 refine eE1 (fn := f77) (n := 27) rfl rfl fun s hs h0 => ?_
 simp only [f77]
 obtain ⟨w, h1, hc, hw, e1, hsrc⟩ := hu.cl
 obtain ⟨hx, n32⟩ := adn hw (by omega)
 have hlt := alk b
 generalize hn : crc b = n at *
 simp only [go_sem, seval, hs, h0]
 refine ao (h1 := h1) (by simp only [List.map, go_sem, seval, hs]; exact hc) n32 rfl ?_
 have hw4 : IntKind.i64.wrap ((b.length : Int) + 4) = ((b.length + 4 : Nat) : Int) := by rw [IntWalk.i64_in _ (by omega)]; omega
 simp only [go_sem, seval, hs, h0, hu.ln, hw4]
 refine Yh (k := .i64) (k' := .i64) (b := b.length + 4) e1 (by simp only [go_sem, seval]) (by simp only [go_sem, seval, hs]) (by omega) (by omega) (by omega) (fun v2 h2 B2 x2 => ?_)
 simp only [go_sem, seval, hs, h0]
 refine nl B2 (new := eB b) (by simp only [go_sem, seval, hs]) (by simp only [go_sem, seval, hs]; exact hsrc _ x2) (by simp only [List.length_nil, ax]; omega) (by simp only [List.length_nil, ax]; omega) (fun v3 h3 B3 _ _ _ => ?_)
 have s1 : IntKind.u8.wrap (n : Int) = ((n % 256 : Nat) : Int) := by rw [IntKind.wrap_u8]; omega
 have s2 : IntKind.u8.wrap ((n : Int).fdiv (2 ^ min ((8 : Int).toNat) 32)) = ((n / 256 % 256 : Nat) : Int) := by
  show IntKind.u8.wrap ((n : Int).fdiv 256) = _
  rw [Int.fdiv_eq_ediv_of_nonneg _ (by decide), IntKind.wrap_u8]; omega
 have s3 : IntKind.u8.wrap ((n : Int).fdiv (2 ^ min ((16 : Int).toNat) 32)) = ((n / 65536 % 256 : Nat) : Int) := by
  show IntKind.u8.wrap ((n : Int).fdiv 65536) = _
  rw [Int.fdiv_eq_ediv_of_nonneg _ (by decide), IntKind.wrap_u8]; omega
 have s4 : IntKind.u8.wrap ((n : Int).fdiv (2 ^ min ((24 : Int).toNat) 32)) = ((n / 16777216 : Nat) : Int) := by
  show IntKind.u8.wrap ((n : Int).fdiv 16777216) = _
  rw [Int.fdiv_eq_ediv_of_nonneg _ (by decide), IntKind.wrap_u8]; omega
 have s2' : IntKind.u8.wrap ((n : Int).fdiv (2 ^ min ((8 : Int).toNat) IntKind.u32.bits)) = ((n / 256 % 256 : Nat) : Int) := s2
 have s3' : IntKind.u8.wrap ((n : Int).fdiv (2 ^ min ((16 : Int).toNat) IntKind.u32.bits)) = ((n / 65536 % 256 : Nat) : Int) := s3
 have s4' : IntKind.u8.wrap ((n : Int).fdiv (2 ^ min ((24 : Int).toNat) IntKind.u32.bits)) = ((n / 16777216 : Nat) : Int) := s4
 simp only [go_sem, Nat.reduceLT, Nat.reduceEqDiff, reduceCtorEq, Int.reduceLT, Int.reduceEq, hs, ny (show ¬ (8 : Int) < 0 by decide), ny (show ¬ (16 : Int) < 0 by decide), ny (show ¬ (24 : Int) < 0 by decide), s1, s2, s3, s4, s2', s3', s4', aop]
 rw [List.nil_append] at B3
 refine nl B3 (new := eB (le4 n)) (by simp only [go_sem, Nat.reduceLT, Nat.reduceEqDiff, reduceCtorEq, Int.reduceLT, Int.reduceEq, hs]) (by simp only [go_sem, Nat.reduceLT, Nat.reduceEqDiff, reduceCtorEq, Int.reduceLT, Int.reduceEq, hs]; rw [amr n hlt]) (by simp only [ax]; rw [show (le4 n).length = 4 from rfl]; omega) (by simp only [ax]; rw [show (le4 n).length = 4 from rfl]; omega) (fun v4 h4 B4 _ _ _ => ?_)
 simp only [go_sem, seval, hs]
 unfold oc
 rw [iw, hn]
 exact B4
theorem Bn {b : List UInt8} {u : VV} (hu : SlV 1 (eB b) u) (hb : b.length <= 900000000) : Cg F 77 [u] (SlV 1 (eB (oc b))) := by
 obtain ⟨v, h', n, B⟩ := Ow (hu.bsrc (HExt.refl [])) hb
 exact ⟨v, h', n, B.res⟩
theorem sb {a b : List UInt8} {u w : VV} (hu : SlV 1 (eB a) u) (hw : SlV 1 (eB b) w) : call F 81 [u, w] [] = some (.ret (vb (decide (a = b))), []) := by
 refine eP2 (fn := f81) (n := 10) rfl rfl fun s hs h0 h1 => ?_
 simp only [f81]
 have te : kx .eql (txt a) (txt b) = some (vb (decide (a = b))) := by
  by_cases h : a = b <;> simp [kx, tn, h]
 simp only [go_sem, seval, hs, h0, h1, hu.bs, hw.bs, te]
 exact ⟨rfl, rfl⟩
def Dr (b : List UInt8) : Bool := decide (4 <= b.length) && decide (oc (b.take (b.length - 4)) = b)
theorem Vs {b : List UInt8} {u : VV} (hu : SlV 1 (eB b) u) (hb : b.length <= 900000000) : Ret F 90 [u] [] fun v h' => v = vb (Dr b) := by
 refine eE1 (fn := f90) (n := 17) rfl rfl fun s hs h0 => ?_
 simp only [f90]
 have hw4 : IntKind.i64.wrap ((b.length : Int) - 4) = (b.length : Int) - 4 := IntWalk.i64_in _ (by omega)
 unfold Dr
 by_cases c : 4 <= b.length
 ·have c1 : (0 : Int) <= (b.length : Int) - 4 := by omega
  have e4 : ((b.length : Int) - 4) = ((b.length - 4 : Nat) : Int) := by omega
  obtain ⟨w, hw, hsl⟩ := hu.upto (h := []) (k := .i64) (b := ((b.length - 4 : Nat) : Int)) (by omega) (by rw [ax]; omega)
  rw [Int.toNat_natCast, Wb] at hw
  obtain ⟨v, h', n23, x, hx, hS⟩ := Bn hw (by rw [List.length_take]; omega)
  simp only [go_sem, seval, hs, h0, hu.ln, ax, hw4, ge_iff_le, c1]
  rw [e4]
  simp only [go_sem, seval, hs, h0, hsl]
  refine ao (h1 := []) (by simp only [List.map, go_sem, seval, hs]; exact hw.clos rfl) n23 hx ?_
  simp only [go_sem, seval, hs, h0]
  refine ao (h1 := []) (by simp only [List.map, go_sem, seval, hs]; exact hS.clos (hu.clos rfl)) (sb hS hu) rfl ?_
  simp only [go_sem, seval, hs, c, Bool.true_and]
 ·have c1 : ¬ (0 : Int) <= (b.length : Int) - 4 := by omega
  simp only [go_sem, seval, hs, h0, hu.ln, ax, hw4, ge_iff_le, c1, c, Bool.false_and]
open Go Go.Vm
abbrev KV := List UInt8 × List UInt8
def od : Nat -> List KV -> Nat
 | _, [] => 0
 | n, p :: r => if 30 < p.1.length \/ 150 < p.2.length then 0 else if 250 < n + (1 + (jg p).length) then 0 else 1 + od (n + (1 + (jg p).length)) r
def Na (l : List KV) : Nat := (l.map fun p => 1 + (jg p).length).sum
theorem ng {p : KV} {l : List KV} : Na (p :: l) = 1 + (jg p).length + Na l := by simp [Na]
theorem xg : ∀ (l : List KV) (n : Nat), od n l <= l.length
 | [], n => Nat.le_refl _
 | p :: l, n => by
  simp only [od]
  split
  ·simp
  ·split
   ·simp
   ·have := xg l (n + (1 + (jg p).length)); simp; omega
theorem En : ∀ (l : List KV) (n : Nat), od n l = l.length -> n <= 250 -> n + Na l <= 250 /\ ahm l
 | [], n, _, hn => ⟨by simp [Na]; exact hn, fun p h => by cases h⟩
 | p :: l, n, h, hn => by
  simp only [od] at h
  split at h
  ·simp at h
  ·rename_i c1
   split at h
   ·simp at h
   ·have := En l (n + (1 + (jg p).length)) (by grind) (by omega)
    rw [ng]
    refine ⟨by omega, fun q hq => ?_⟩
    rcases List.mem_cons.1 hq with rfl | hq
    ·omega
    ·exact this.2 q hq
theorem Af : ∀ (l : List KV) (n : Nat), od n (l.take (od n l)) = od n l
 | [], n => rfl
 | p :: l, n => by
  simp only [od]
  split
  ·rfl
  ·rename_i c1
   split
   ·rfl
   ·rename_i c2
    rw [Nat.add_comm 1, List.take_succ_cons]
    simp only [od]
    rw [if_neg c1, if_neg c2, Af l]
    omega
def Xo : List UInt8 -> Nat -> Nat -> List KV -> List UInt8
 | pg, _, _, [] => pg
 | pg, i, a, p :: r => Xo (am (pg.set (2 + i) (UInt8.ofNat (a - (jg p).length))) (a - (jg p).length) (jg p)) (i + 1) (a - (jg p).length) r
def zk (level n : Nat) : List UInt8 := UInt8.ofNat level :: UInt8.ofNat n :: List.replicate 250 0
theorem ow {a b : Nat} : (zk a b).length = 252 := by unfold zk; grind
def Qn (level : Nat) (l : List KV) : List UInt8 := Xo (zk level l.length) 0 252 l
def gd (level : Nat) (l : List KV) : List UInt8 := oc (Qn level l)
def Ye (level : Int) (l : List KV) : Option (List UInt8) := if level < 0 \/ 4 < level \/ od 0 l < l.length then none else some (gd level.toNat l)
theorem Ew : ∀ (l : List KV) (pg : List UInt8) (i a : Nat), Na l <= a -> a <= pg.length -> (Xo pg i a l).length = pg.length
 | [], pg, i, a, _, _ => rfl
 | p :: l, pg, i, a, h, ha => by
  rw [ng] at h
  have hl : (am (pg.set (2 + i) (UInt8.ofNat (a - (jg p).length))) (a - (jg p).length) (jg p)).length = pg.length := by
   rw [gb (by grind), List.length_set]
  simp only [Xo]
  rw [Ew l _ _ _ (by omega) (by omega), hl]
theorem Jr {level : Nat} {l : List KV} (h : Na l <= 250) : (Qn level l).length = 252 := by
 unfold Qn
 rw [Ew _ _ _ _ (by omega) (by rw [ow]; omega), ow]
theorem Dc {α : Type} {l c : List α} {off j : Nat} (h : off + c.length <= l.length) (hj : j < off \/ off + c.length <= j) : (am l off c)[j]? = l[j]? := by
 unfold am
 have ht : (l.take off).length = off := by simp; omega
 rcases hj with hj | hj
 ·grind
 ·rw [List.getElem?_append_right (by simp; omega), List.getElem?_drop]
  grind
theorem Tu {α : Type} {l c : List α} {off j : Nat} (h : off + c.length <= l.length) (hj : j < c.length) : (am l off c)[off + j]? = c[j]? := by
 unfold am
 grind
theorem xc : ∀ (l : List KV) (pg : List UInt8) (i a : Nat), 2 + i + Na l <= a -> a <= pg.length -> ∀ j, j < 2 + i \/ a <= j -> (Xo pg i a l)[j]? = pg[j]?
 | [], pg, i, a, _, _, j, _ => rfl
 | p :: l, pg, i, a, h, ha, j, hj => by
  rw [ng] at h
  have hl : (am (pg.set (2 + i) (UInt8.ofNat (a - (jg p).length))) (a - (jg p).length) (jg p)).length = pg.length := by
   rw [gb (by grind), List.length_set]
  simp only [Xo]
  rw [xc l _ (i + 1) _ (by omega) (by omega) j (by omega), Dc (by grind) (by omega), List.getElem?_set_ne (by omega)]
def ra (b : List UInt8) (a to : Nat) : Option KV :=
 if to <= a then none else
 if (bg (b.take to) a 30).2.2 ≠ 0 then none else
 if (bg (b.take to) (bg (b.take to) a 30).2.1 150).2.2 = 0 /\ (bg (b.take to) (bg (b.take to) a 30).2.1 150).2.1 = to then some ((bg (b.take to) a 30).1, (bg (b.take to) (bg (b.take to) a 30).2.1 150).1) else none
def Cp (b : List UInt8) : Nat -> Nat -> Nat -> Option (List KV)
 | 0, _, _ => some []
 | n + 1, i, to => if to <= 2 + i then none else match ra b (b.getD (2 + i) 0).toNat to with
  | none => none
  | some p => (Cp b n (i + 1) (b.getD (2 + i) 0).toNat).map (p :: ·)
def wt (b : List UInt8) : Nat × List KV × Nat :=
 if b.length ≠ 256 then (0, [], 11) else if Dr b = false then (0, [], 12) else
 match Cp b (b.getD 1 0).toNat 0 252 with
 | none => (0, [], 11)
 | some l => if Ye ((b.getD 0 0).toNat : Int) l = some b then ((b.getD 0 0).toNat, l, 0) else (0, [], 11)
theorem Wl {b : List UInt8} {a : Nat} {p : KV} (h1 : p.1.length <= 30) (h2 : p.2.length <= 150) (hb : b.take (a + (jg p).length) = b.take a ++ jg p) (ha : (b.take a).length = a) : ra b a (a + (jg p).length) = some p := by
 have hne : 0 < (jg p).length := by
  unfold jg
  have hn : jk p.1 ≠ [] := fun e => Br p.1 (by rw [e]; rfl)
  have := List.length_pos_iff.2 hn
  simp; omega
 have e1 : bg (b.take a ++ jg p) a 30 = (p.1, a + (jk p.1).length, 0) := by
  have := lu (b.take a) (jk p.2) p.1 30 (by omega)
  rw [ha, if_neg (by omega)] at this
  rw [<- this]; unfold jg; grind
 have e2 : bg (b.take a ++ jg p) ((a + (jk p.1).length : Nat) : Int) 150 = (p.2, a + (jg p).length, 0) := by
  have := lu (b.take a ++ jk p.1) [] p.2 150 (by omega)
  rw [List.length_append, ha, if_neg (by omega)] at this
  unfold jg
  grind
 unfold ra
 grind
theorem Ob : ∀ (l : List KV) (pg b : List UInt8) (i a : Nat), ahm l -> 2 + i + Na l <= a -> a <= pg.length -> a <= 252 -> (∀ j, j < pg.length -> b[j]? = (Xo pg i a l)[j]?) -> Cp b l.length i a = some l
 | [], pg, b, i, a, _, _, _, _, _ => rfl
 | p :: l, pg, b, i, a, hf, h, ha, ha2, hb => by
  rw [ng] at h
  have hp := hf p (List.mem_cons_self ..)
  have hl : (am (pg.set (2 + i) (UInt8.ofNat (a - (jg p).length))) (a - (jg p).length) (jg p)).length = pg.length := by
   rw [gb (by grind), List.length_set]
  simp only [Xo] at hb
  have hfr := xc l (am (pg.set (2 + i) (UInt8.ofNat (a - (jg p).length))) (a - (jg p).length) (jg p)) (i + 1) (a - (jg p).length) (by omega) (by omega)
  have hslot : b.getD (2 + i) 0 = UInt8.ofNat (a - (jg p).length) := by
   rw [List.getD_eq_getElem?_getD, hb _ (by omega), hfr _ (by omega), Dc (by grind) (by omega), List.getElem?_set_self (by omega)]
   rfl
  have hslot' : (b.getD (2 + i) 0).toNat = a - (jg p).length := by rw [hslot]; exact lh (by omega)
  have hbl : a <= b.length := by
   apply Nat.le_of_not_lt
   intro hlt
   have h1 := hb b.length (by omega)
   rw [List.getElem?_eq_none (Nat.le_refl _)] at h1
   have h2 := Ew l (am (pg.set (2 + i) (UInt8.ofNat (a - (jg p).length))) (a - (jg p).length) (jg p)) (i + 1) (a - (jg p).length) (by omega) (by omega)
   grind
  have htake : b.take (a - (jg p).length + (jg p).length) = b.take (a - (jg p).length) ++ jg p := by
   apply List.ext_getElem?
   intro j
   by_cases hj : j < a - (jg p).length
   ·rw [List.getElem?_take_of_lt (by omega), List.getElem?_append_left (by simp; omega), List.getElem?_take_of_lt hj]
   ·by_cases hj2 : j < a
    ·rw [List.getElem?_take_of_lt (by omega), List.getElem?_append_right (by simp; omega), List.length_take, Nat.min_eq_left (by omega)]
     rw [hb _ (by omega), hfr _ (by omega)]
     have := Tu (l := pg.set (2 + i) (UInt8.ofNat (a - (jg p).length))) (c := jg p) (off := a - (jg p).length) (j := j - (a - (jg p).length)) (by rw [List.length_set]; omega) (by omega)
     rw [<- this]; congr 1; omega
    ·rw [List.getElem?_eq_none (by simp; omega), List.getElem?_eq_none (by simp; omega)]
  have hlast := Wl (b := b) (a := a - (jg p).length) hp.1 hp.2 htake (by simp; omega)
  rw [Nat.sub_add_cancel (by omega)] at hlast
  simp only [List.length_cons, Cp]
  rw [if_neg (by omega), hslot', hlast, Ob l _ b (i + 1) (a - (jg p).length) (fun q hq => hf q (List.mem_cons_of_mem _ hq)) (by omega) (by omega) (by omega) (fun j hj => hb j (by omega))]
  rfl
theorem Mt {b : List UInt8} : Dr (oc b) = true := by
 unfold Dr
 have h1 : (oc b).take ((oc b).length - 4) = b := by
  rw [pc, Nat.add_sub_cancel]; unfold oc; grind
 rw [h1]
 simp [pc]
theorem Bc {level : Nat} {l : List KV} (hl : level <= 4) (hf : od 0 l = l.length) : wt (gd level l) = (level, l, 0) := by
 obtain ⟨hs, hF⟩ := En l 0 hf (by omega)
 rw [Nat.zero_add] at hs
 have hcount : l.length <= 250 := by
  have : ∀ l : List KV, l.length <= Na l := by
   intro l
   induction l with
   | nil => simp [Na]
   | cons p l ih => rw [ng]; simp; omega
  grind
 have hlen := Jr (level := level) hs
 have hplen : (gd level l).length = 256 := by unfold gd; rw [pc, hlen]
 have hget : ∀ j, j < 252 -> (gd level l)[j]? = (Qn level l)[j]? := by
  intro j hj
  unfold gd oc
  grind
 have hfr := xc l (zk level l.length) 0 252 (by omega) (by rw [ow]; omega)
 have h0 : (gd level l).getD 0 0 = UInt8.ofNat level := by
  rw [List.getD_eq_getElem?_getD, hget 0 (by omega)]
  unfold Qn
  rw [hfr 0 (by omega)]; rfl
 have h1 : (gd level l).getD 1 0 = UInt8.ofNat l.length := by
  rw [List.getD_eq_getElem?_getD, hget 1 (by omega)]
  unfold Qn
  rw [hfr 1 (by omega)]; rfl
 have hdec : Cp (gd level l) l.length 0 252 = some l := Ob l (zk level l.length) (gd level l) 0 252 hF (by omega) (by rw [ow]; omega) (by omega) (fun j hj => hget j (by rw [ow] at hj; exact hj))
 have henc : Ye (level : Int) l = some (gd level l) := by
  unfold Ye
  grind
 unfold wt
 rw [if_neg (by omega), if_neg (by unfold gd; rw [Mt]; simp), h1, lh (by omega), hdec]
 simp only [h0, lh (show level < 256 by omega), henc, if_true]
open Go Go.Vm
theorem Buf.nb {h0 h : ah} {z : Nat} {els : List (List CV)} {v : VV} (b : Buf h0 z els v h) : NB h0 h z els v := by
 rcases b with ⟨rfl, rfl, rfl⟩ | ⟨g, rfl, rfl⟩
 ·exact NB.nil _ _
 ·exact ⟨HExt.push _ _, .inr ⟨h0.length, g, Nat.le_refl _, rfl, bk⟩⟩
theorem agu (h : ah) {k l : List UInt8} {c : CV} (hc : SlV 1 (eB l) (.cv c)) (hk : k.length <= 100000000) (hl : l.length <= 100000000) : Ret F 98 [.agg [txt k, .cv c]] h fun v h' => NB h h' 1 (eB (jg (k, l))) v := by
 refine eE1 (fn := f98) (n := 11) rfl rfl fun s hs h0 => ?_
 simp only [f98]
 simp only [go_sem, seval, hs, h0]
 rw [vj (n := 2) rfl]
 simp only [go_sem, seval, hs]
 have x1 := HExt.push h (VO.box [txt k, .cv c] false)
 have q1 : (h ++ [VO.box [txt k, .cv c] false])[h.length]? = some (.box [txt k, .cv c] false) := bk
 generalize h ++ [VO.box [txt k, .cv c] false] = g1 at x1 q1
 obtain ⟨v5, g5, n5, b5⟩ := Hf k g1 (by omega)
 obtain ⟨v9, g9, n9, b9⟩ := Hf l g5 (by omega)
 have B5 := Buf.nb b5
 have B9 := Buf.nb b9
 have q5 := B5.ext.get q1
 have q9 := B9.ext.get q5
 refine ug 7 (fun g => g[h.length]? = some (.box [txt k, .cv c] false)) q1 rfl rfl ?_
 simp only [List.take_succ_cons, List.take_zero]
 refine pp (v := .ptr h.length 0) rfl (by rw [tl]; simp only [go_sem, seval, hs]) ?_
 refine uy (v := txt k) rfl (by rw [mf]; simp only [go_sem, seval, hs]; exact bc q1 rfl) ?_
 refine wi (by simp only [List.map, go_sem, seval, hs]; exact n5) q5 ?_
 refine pp (v := .ptr h.length 1) rfl (by rw [tl]; simp only [go_sem, seval, hs]) ?_
 refine wz (v := .cv c) rfl q5 (fun g hg => by rw [mf]; simp only [go_sem, seval, hs]; exact bc hg rfl) ?_
 refine wz (v := txt l) rfl q5 (fun g hg => by rw [Lw]; simp only [go_sem, seval, hs, hc.bs]) ?_
 refine wi (by simp only [List.map, go_sem, seval, hs]; exact n9) q9 ?_
 simp only [XDA, List.drop_succ_cons, List.drop_zero]
 have ht1 : (eB (jk k)).length <= 200000000 := by
  rw [ax]; unfold jk; rw [List.length_append]
  have := nd (k.length : Int); omega
 have ht2 : (eB (jk l)).length <= 200000000 := by
  rw [ax]; unfold jk; rw [List.length_append]
  have := nd (l.length : Int); omega
 have BB : NB h g9 1 (eB (jk k)) v5 := by
  have := (B5.then B9.ext)
  exact ⟨x1.trans this.ext, this.v.imp id (fun ⟨id, g, a1, a2⟩ => ⟨id, g, Nat.le_trans x1.len a1, a2⟩)⟩
 refine Zt BB (new := eB (jk l)) (by simp only [go_sem, seval, hs]) (by simp only [go_sem, seval, hs]; exact B9.src) (by omega) (by omega) (fun v' h' B' _ _ _ => ?_)
 simp only [go_sem, seval, hs]
 rw [<- iw] at B'
 exact B'
theorem Ny {k l : List UInt8} {c : CV} (hc : SlV 1 (eB l) (.cv c)) (hk : k.length <= 100000000) (hl : l.length <= 100000000) : Cg F 98 [.agg [txt k, .cv c]] (SlV 1 (eB (jg (k, l)))) := by
 obtain ⟨v, h', n, B⟩ := agu [] hc hk hl
 exact ⟨v, h', n, B.res⟩
open Go Go.Vm
theorem aan {kv : List KV} {k n : Nat} {p : KV} (hp : kv[k]? = some p) : od n (kv.drop k) = if 30 < p.1.length \/ 150 < p.2.length then 0 else if 250 < n + (1 + (jg p).length) then 0 else 1 + od (n + (1 + (jg p).length)) (kv.drop (k + 1)) := by
 obtain ⟨hlt, e⟩ := List.getElem?_eq_some_iff.1 hp
 rw [List.drop_eq_getElem_cons hlt, e]
 rfl
theorem agz {p : KV} (h : p.1.length <= 30 /\ p.2.length <= 150) : (jg p).length <= 200 := Yz p h
theorem f97_loop {els : List (List CV)} {kv : List KV} {u : VV} (hS : SlV 2 els u) (hR : RowsE els kv) (hn : kv.length <= 9223372036854775807) :
  ∀ (r k n : Nat) (s : List VV) (h : ah) (Q : Pst), k + r = kv.length -> n <= 250 -> s.length = 36 -> s.getD 0 .undef = u -> s.getD 3 .undef = vi .i64 n -> s.getD 6 .undef = u -> s.getD 7 .undef = vi .i64 kv.length -> s.getD 8 .undef = vi .i64 k ->
   (od n (kv.drop k) = r -> ∀ s' h', s'.length = 36 -> s'.getD 0 .undef = u -> Q (.exit 0) ⟨s', h'⟩) -> (∀ s' h', s'.length = 36 -> s'.getD 2 .undef = vi .i64 ((k + od n (kv.drop k) : Nat) : Int) -> Q .ret ⟨s', h'⟩) -> X F (.loop f97_2) ⟨s, h⟩ Q := by
 intro r
 induction r with
 | zero =>
  intro k n s h Q hk hn2 hs h0 h3 h6 h7 h8 hE hQ
  rw [aw, bf f97_2.eq_1]
  have c : ¬ (k : Int) < (kv.length : Int) := by omega
  simp only [go_sem, seval, hs, h7, h8, c]
  rw [bf f97_0.eq_1]
  simp only [go_sem, seval, hs]
  refine hE ?_ _ _ (by simp only [ae, hs]) (by simp only [go_sem, seval, h0])
  rw [List.drop_eq_nil_of_le (by omega)]; rfl
 | succ r ih =>
  intro k n s h Q hk hn2 hs h0 h3 h6 h7 h8 hE hQ
  obtain ⟨e, p, he, hp, c, rfl, hc⟩ := hR.get (i := k) (by omega)
  obtain ⟨key, val⟩ := p
  simp only at hc
  have hfit := aan (n := n) hp
  rw [aw, bf f97_2.eq_1]
  have c1 : (k : Int) < (kv.length : Int) := by omega
  have hw : IntKind.i64.wrap ((k : Int) + 1) = ((k + 1 : Nat) : Int) := by rw [IntWalk.i64_in _ (by omega)]; omega
  have hia := hS.ia (h := h) (k := .i64) (j := (k : Int)) (by omega) he
  simp only [go_sem, seval, hs, h7, h8, c1]
  rw [bf f97_0.eq_1]
  simp only [go_sem, seval, hs, h6, h8, hia, adt (n := 2) (show [CV.sc (.string ⟨key.toArray⟩), c].length = 2 from rfl), List.map]
  rw [bf f97_1.eq_1]
  have q1 : (h ++ [VO.box [txt key, .cv c] false])[h.length]? = some (.box [txt key, .cv c] false) := bk
  generalize h ++ [VO.box [txt key, .cv c] false] = g at q1
  have l0 : ldO g false 1 (.ptr h.length 0) = some (txt key, g) := bc q1 rfl
  have l1 : ldO g false 1 (.ptr h.length 1) = some (.cv c, g) := bc q1 rfl
  have l2 : ldO g true 2 (.ptr h.length 0) = some (.agg [txt key, .cv c], g) := By q1 rfl
  by_cases d1 : (30 : Int) < (key.length : Int)
  ·have d1' : 30 < key.length := by omega
   simp only [go_sem, seval, hs, l0, gt_iff_lt, d1]
   rw [if_pos (.inl d1')] at hfit
   exact hQ _ _ (by simp only [ae, hs]) (by simp only [go_sem, seval, hs, hfit]; rfl)
  ·have d1' : ¬ 30 < key.length := by omega
   by_cases d2 : (150 : Int) < (val.length : Int)
   ·have d2' : 150 < val.length := by omega
    simp only [go_sem, seval, hs, l0, l1, hc.ln, ax, gt_iff_lt, d1, d2]
    rw [if_pos (.inr d2')] at hfit
    exact hQ _ _ (by simp only [ae, hs]) (by simp only [go_sem, seval, hs, hfit]; rfl)
   ·have d2' : ¬ 150 < val.length := by omega
    rw [if_neg (by simp only; omega)] at hfit
    obtain ⟨v, h', n22, w, hw2, hS2⟩ := Ny (k := key) (l := val) hc (by omega) (by omega)
    have hrl := agz (p := (key, val)) ⟨by simp only; omega, by simp only; omega⟩
    have ea : IntKind.i64.wrap (1 + ((jg (key, val)).length : Int)) = ((1 + (jg (key, val)).length : Nat) : Int) := by rw [IntWalk.i64_in _ (by omega)]; omega
    have eb : IntKind.i64.wrap ((n : Int) + ((1 + (jg (key, val)).length : Nat) : Int)) = ((n + (1 + (jg (key, val)).length) : Nat) : Int) := by rw [IntWalk.i64_in _ (by omega)]; omega
    simp only [go_sem, seval, hs, l0, l1, l2, hc.ln, ax, gt_iff_lt, d1, d2]
    refine ao (h1 := g) (by simp only [List.map, go_sem, seval, hs]; rfl) n22 hw2 ?_
    by_cases d3 : (250 : Int) < ((n + (1 + (jg (key, val)).length) : Nat) : Int)
    ·simp only [go_sem, seval, hs, h3, hS2.ln, ax, ea, eb, gt_iff_lt, d3]
     rw [if_pos (by omega)] at hfit
     exact hQ _ _ (by simp only [ae, hs]) (by simp only [go_sem, seval, hs, hfit]; rfl)
    ·simp only [go_sem, seval, hs, h3, hS2.ln, ax, ea, eb, gt_iff_lt, d3, h8, hw]
     rw [if_neg (by omega)] at hfit
     refine ih (k + 1) (n + (1 + (jg (key, val)).length)) _ _ Q (by omega) (by omega) (by simp only [ae, hs]) (by simp only [go_sem, seval, h0]) (by simp only [go_sem, seval, hs]) (by simp only [go_sem, seval, h6]) (by simp only [go_sem, seval, h7]) (by simp only [go_sem, seval, hs]) (fun hh => hE (by rw [hfit, hh]; omega)) (fun s' h' a1 a2 => hQ s' h' a1 ?_)
     rw [a2, hfit, Nat.add_assoc]
theorem Tg {els : List (List CV)} {kv : List KV} {u : VV} (hS : SlV 2 els u) (hR : RowsE els kv) (hn : kv.length <= 9223372036854775807) : ∃ h', call F 97 [u] [] = some (.ret (vi .i64 (od 0 kv : Nat)), h') := by
 have : Ret F 97 [u] [] fun v h' => v = vi .i64 (od 0 kv : Nat) := by
  refine bj (fn := f97) rfl ?_
  simp only [f97]
  generalize hs0 : ([u] ++ List.replicate _ VV.undef : List VV) = s
  have hs : s.length = 36 := by grind
  have h0 : s.getD 0 .undef = u := by grind
  clear hs0
  have hl := hR.len
  simp only [go_sem, Nat.reduceLT, Nat.reduceEqDiff, reduceCtorEq, Int.reduceLT, Int.reduceEq, hs, h0, hS.ln]
  refine f97_loop hS hR hn kv.length 0 0 _ _ _ (by omega) (by omega) (by grind) (by grind) (by grind) (by grind) (by grind) (by grind) (fun hh s' h' a1 a0 => ?_) (fun s' h' a1 a2 => ?_)
  ·simp only [go_sem, seval, a1, a0, hS.ln, hl]
   grind
  ·rw [List.drop_zero, Nat.zero_add] at a2
   simp only [go_sem, seval, a1, a2]
 obtain ⟨v, h', e1, rfl⟩ := this
 grind
open Go Go.Vm
theorem Ar {kv : List KV} {k : Nat} {p : KV} (hp : kv[k]? = some p) : kv.drop k = p :: kv.drop (k + 1) := by
 obtain ⟨hlt, e⟩ := List.getElem?_eq_some_iff.1 hp
 rw [List.drop_eq_getElem_cons hlt, e]
theorem f89_loop {els : List (List CV)} {kv : List KV} {u : VV} (hS : SlV 2 els u) (hR : RowsE els kv) (hn : kv.length <= 250) {g0 : ah} {p : Nat} (hp0 : g0.length <= p) :
  ∀ (r k a : Nat) (pg : List UInt8) (s : List VV) (h : ah) (Q : Pst), k + r = kv.length -> ahm (kv.drop k) -> 2 + k + Na (kv.drop k) <= a -> a <= 252 -> pg.length = 252 -> HExt g0 h -> h[p]? = some (kk pg) ->
   s.length = 56 -> s.getD 6 .undef = .ptr p 0 -> s.getD 7 .undef = vi .i64 a -> s.getD 31 .undef = u -> s.getD 32 .undef = vi .i64 kv.length -> s.getD 33 .undef = vi .i64 k ->
   (∀ s' h', s'.length = 56 -> s'.getD 6 .undef = .ptr p 0 -> HExt g0 h' -> h'[p]? = some (kk (Xo pg k a (kv.drop k))) -> Q (.exit 0) ⟨s', h'⟩) -> X F (.loop f89_2) ⟨s, h⟩ Q := by
 intro r
 induction r with
 | zero =>
  intro k a pg s h Q hk hf hsum ha hpl x hp hs h6 h7 h31 h32 h33 hE
  rw [aw, bf f89_2.eq_1]
  have c : ¬ (k : Int) < (kv.length : Int) := by omega
  simp only [go_sem, seval, hs, h32, h33, c]
  rw [bf f89_1.eq_1]
  simp only [go_sem, seval, hs]
  refine hE _ _ (by simp only [ae, hs]) (by simp only [go_sem, seval, h6]) x ?_
  rw [List.drop_eq_nil_of_le (by omega)]; exact hp
 | succ r ih =>
  intro k a pg s h Q hk hf hsum ha hpl x hp hs h6 h7 h31 h32 h33 hE
  obtain ⟨e, q, he, hq, c, rfl, hc⟩ := hR.get (i := k) (by omega)
  obtain ⟨key, val⟩ := q
  simp only at hc
  have hd := Ar hq
  rw [hd] at hf hsum
  rw [ng] at hsum
  have hfp : key.length <= 30 /\ val.length <= 150 := hf (key, val) (List.mem_cons_self ..)
  have hf' : ahm (kv.drop (k + 1)) := fun q hq => hf q (List.mem_cons_of_mem _ hq)
  rw [aw, bf f89_2.eq_1]
  have c1 : (k : Int) < (kv.length : Int) := by omega
  have hw : IntKind.i64.wrap ((k : Int) + 1) = ((k + 1 : Nat) : Int) := by rw [IntWalk.i64_in _ (by omega)]; omega
  have hia := hS.ia (h := h) (k := .i64) (j := (k : Int)) (by omega) he
  simp only [go_sem, seval, hs, h32, h33, c1]
  rw [bf f89_1.eq_1]
  simp only [go_sem, seval, hs, h31, h33, hia, adt (n := 2) (show [CV.sc (.string ⟨key.toArray⟩), c].length = 2 from rfl), List.map]
  have q1 : (h ++ [VO.box [txt key, .cv c] false])[h.length]? = some (.box [txt key, .cv c] false) := bk
  have x1 := x.then (VO.box [txt key, .cv c] false)
  have hpp := (HExt.push h (VO.box [txt key, .cv c] false)).get hp
  generalize h ++ [VO.box [txt key, .cv c] false] = g at q1 x1 hpp
  have l2 : ldO g true 2 (.ptr h.length 0) = some (.agg [txt key, .cv c], g) := By q1 rfl
  obtain ⟨v, h', n22, w, hw2, hS2⟩ := Ny (k := key) (l := val) hc (by omega) (by omega)
  generalize hrb : jg (key, val) = rb at *
  have e1 : IntKind.i64.wrap ((a : Int) - (rb.length : Int)) = ((a - rb.length : Nat) : Int) := by rw [IntWalk.i64_in _ (by omega)]; omega
  have e2 : IntKind.i64.wrap (2 + (k : Int)) = ((2 + k : Nat) : Int) := by rw [IntWalk.i64_in _ (by omega)]; omega
  have e3 : IntKind.u8.wrap ((a - rb.length : Nat) : Int) = ((UInt8.ofNat (a - rb.length)).toNat : Int) := by
   rw [lh (by omega)]; exact IntWalk.u8_in _ (by omega)
  have s1 := Aw (x := UInt8.ofNat (a - rb.length)) hpp (show 2 + k < pg.length by omega)
  have hp2 : (g.set p (kk (pg.set (2 + k) (UInt8.ofNat (a - rb.length)))))[p]? = some (kk (pg.set (2 + k) (UInt8.ofNat (a - rb.length)))) := by rw [List.getElem?_set_self (ey hpp)]
  have x2 := x1.set hp0 (kk (pg.set (2 + k) (UInt8.ofNat (a - rb.length))))
  refine ao (h1 := g) (by simp only [List.map, go_sem, seval, hs]; rfl) n22 hw2 ?_
  simp only [go_sem, seval, hs, h6, h7, h33, hS2.ln, ax, e1, e2, e3, Tr (show 2 + k < 252 by omega), Nat.mul_one, s1]
  generalize g.set p (kk (pg.set (2 + k) (UInt8.ofNat (a - rb.length)))) = g2 at hp2 x2
  have hl2 : (pg.set (2 + k) (UInt8.ofNat (a - rb.length))).length = 252 := by rw [List.length_set, hpl]
  have s2 := Wh (n := 252) (a := a - rb.length) (k := .i64) hp2 (by rw [List.length_map, rh, hl2]; omega) (by omega)
  have s3 := adv (ex := true) (off := a - rb.length) (len := 252 - (a - rb.length)) hp2 (by omega) hS2.src (by omega)
  simp only [go_sem, seval, hs, h6, s2, s3, h33, hw]
  refine ih (k + 1) (a - rb.length) (am (pg.set (2 + k) (UInt8.ofNat (a - rb.length))) (a - rb.length) rb) _ _ Q (by omega) hf' (by omega) (by omega) (by rw [gb (by omega), hl2]) (x2.set hp0 _) (by rw [List.getElem?_set_self (ey hp2)]) (by simp only [ae, hs]) (by simp only [go_sem, seval, h6]) (by simp only [go_sem, seval, hs]) (by simp only [go_sem, seval, h31]) (by simp only [go_sem, seval, h32]) (by simp only [go_sem, seval, hs])
   (fun s' h' b1 b2 b3 b4 => hE s' h' b1 b2 b3 ?_)
  rw [hd]
  simp only [Xo, hrb]
  exact b4
def al5 (h : ah) (x : Option (List UInt8)) (v : VV) (h' : ah) : Prop := match x with
 | none => v = .tup [br, vb false]
 | some b => ∃ w, v = .tup [w, vb true] /\ NB h h' 1 (eB b) w
theorem Xt : ∀ l : List KV, 3 * l.length <= Na l
 | [] => by simp [Na]
 | p :: l => by
  have := Xt l
  rw [ng]
  have h1 : jk p.1 ≠ [] := fun e => Br p.1 (by rw [e]; rfl)
  have h2 : jk p.2 ≠ [] := fun e => Br p.2 (by rw [e]; rfl)
  have h3 := List.length_pos_iff.2 h1
  have h4 := List.length_pos_iff.2 h2
  have : (jg p).length = (jk p.1).length + (jk p.2).length := by unfold jg; simp
  simp; omega
theorem Di (h : ah) (level : Int) {els : List (List CV)} {kv : List KV} {u : VV} (hS : SlV 2 els u) (hR : RowsE els kv) (hn : kv.length <= 9223372036854775807) : Ret F 89 [vi .i64 level, u] h fun v h' => al5 h (Ye level kv) v h' := by
 refine bj (fn := f89) rfl ?_
 simp only [f89]
 generalize hs0 : ([vi .i64 level, u] ++ List.replicate _ VV.undef : List VV) = s
 have hs : s.length = 56 := by grind
 have h0 : s.getD 0 .undef = vi .i64 level := by grind
 have h1 : s.getD 1 .undef = u := by grind
 clear hs0
 generalize hZ : (List.replicate 252 (VV.cv (.sc (.int .u8 0)))) = Z
 have hZb : Z = (bC (List.replicate 252 0)).map .cv := by rw [<- hZ]; exact ql 252
 have hl := hR.len
 simp only [go_sem, seval, hs]
 rw [bf f89_0.eq_1]
 unfold Ye
 by_cases c1 : level < 0
 ·simp only [go_sem, seval, hs, h0, c1, true_or]
  rfl
 ·by_cases c2 : 4 < level
  ·simp only [go_sem, seval, hs, h0, c1, gt_iff_lt, c2, true_or, or_true]
   rfl
  ·obtain ⟨h11, n11⟩ := Tg hS hR hn
   have hle := xg kv 0
   simp only [go_sem, seval, hs, h0, h1, c1, gt_iff_lt, c2]
   refine ao (h1 := h) (by simp only [List.map, go_sem, seval, hs]; exact hS.clos rfl) n11 rfl ?_
   by_cases c3 : ((od 0 kv : Nat) : Int) < (kv.length : Int)
   ·have c3' : od 0 kv < kv.length := by omega
    simp only [go_sem, seval, hs, h1, hS.ln, hl, c3, c3', or_true]
    rfl
   ·have c3' : ¬ od 0 kv < kv.length := by omega
    obtain ⟨hsum, hF⟩ := En kv 0 (by omega) (by omega)
    have hcount := Xt kv
    have elv : IntKind.u8.wrap level = ((UInt8.ofNat level.toNat).toNat : Int) := by
     rw [lh (by omega), IntWalk.u8_in _ (by omega)]; omega
    have eln : IntKind.u8.wrap (kv.length : Int) = ((UInt8.ofNat kv.length).toNat : Int) := by
     rw [lh (by omega), IntWalk.u8_in _ (by omega)]
    simp only [go_sem, seval, hs, h0, h1, hS.ln, hl, c3, elv, eln]
    have q1 : (h ++ [VO.box Z false])[h.length]? = some (kk (List.replicate 252 0)) := by grind
    have x1 := HExt.push h (VO.box Z false)
    generalize h ++ [VO.box Z false] = g1 at q1 x1
    have s1 := Aw (x := UInt8.ofNat level.toNat) (j := 0) q1 (by grind)
    have q2 : (g1.set h.length (kk ((List.replicate 252 0).set 0 (UInt8.ofNat level.toNat))))[h.length]? = some (kk ((List.replicate 252 0).set 0 (UInt8.ofNat level.toNat))) := by grind
    have x2 := x1.set (Nat.le_refl _) (kk ((List.replicate 252 0).set 0 (UInt8.ofNat level.toNat)))
    generalize g1.set h.length (kk ((List.replicate 252 0).set 0 (UInt8.ofNat level.toNat))) = g2 at s1 q2 x2
    have s2 := Aw (x := UInt8.ofNat kv.length) (j := 1) q2 (by grind)
    have epg : ((List.replicate 252 (0 : UInt8)).set 0 (UInt8.ofNat level.toNat)).set 1 (UInt8.ofNat kv.length) = zk level.toNat kv.length := rfl
    rw [epg] at s2
    have q3 : (g2.set h.length (kk (zk level.toNat kv.length)))[h.length]? = some (kk (zk level.toNat kv.length)) := by grind
    have x3 := x2.set (Nat.le_refl _) (kk (zk level.toNat kv.length))
    generalize g2.set h.length (kk (zk level.toNat kv.length)) = g3 at s2 q3 x3
    have i0 : Hm 252 1 (.ptr h.length 0) (vi .i64 0) = some (.ptr h.length 0) := Tr (j := 0) (by decide)
    have i1 : Hm 252 1 (.ptr h.length 0) (vi .i64 1) = some (.ptr h.length 1) := Tr (j := 1) (by decide)
    simp only [go_sem, Nat.reduceLT, Nat.reduceEqDiff, reduceCtorEq, Int.reduceLT, Int.reduceEq, hs, h1, hS.ln, hl, i0, i1, s1, s2]
    refine f89_loop hS hR (by omega) (Nat.le_refl h.length) kv.length 0 252 _ _ _ _ (by omega) hF (by grind) (by omega) ow x3 q3 (by simp only [ae, hs]) (by simp only [go_sem, Nat.reduceLT, Nat.reduceEqDiff, reduceCtorEq, Int.reduceLT, Int.reduceEq, hs]) (by simp only [go_sem, Nat.reduceLT, Nat.reduceEqDiff, reduceCtorEq, Int.reduceLT, Int.reduceEq, hs]; rfl) (by simp only [go_sem, Nat.reduceLT, Nat.reduceEqDiff, reduceCtorEq, Int.reduceLT, Int.reduceEq, hs]) (by simp only [go_sem, Nat.reduceLT, Nat.reduceEqDiff, reduceCtorEq, Int.reduceLT, Int.reduceEq, hs]) (by simp only [go_sem, Nat.reduceLT, Nat.reduceEqDiff, reduceCtorEq, Int.reduceLT, Int.reduceEq, hs]; rfl) (fun s' h' a1 a6 x4 q4 => ?_)
    rw [List.drop_zero] at q4
    have hpl : (Xo (zk level.toNat kv.length) 0 252 kv).length = 252 := Jr (by omega)
    have ss := Io (n := 252) (z := 1) (off := 0) q4 (by rw [List.length_map, rh, hpl]; omega)
    have Bs := ag2 (ex := true) x4 q4 (Nat.le_refl _)
    rw [hpl] at Bs
    obtain ⟨v5, h5, n5, B5⟩ := Ow Bs (by omega)
    simp only [go_sem, seval, a1, a6, ss]
    refine ap (by simp only [List.map, go_sem, seval, a1]; exact n5) ?_
    have hneg : ¬ (level < 0 \/ 4 < level \/ od 0 kv < kv.length) := by omega
    simp only [go_sem, seval, a1, c3', or_self]
    exact ⟨v5, rfl, B5⟩
open Go Go.Vm
open Go Go.Vm
def ajs (b : List UInt8) (a to : Nat) (e : List CV) : Prop := (∃ c1 c2, e = [c1, c2]) /\ ∀ p, ra b a to = some p -> e = anq p.1 p.2
theorem ab1 {b : List UInt8} {u : VV} (hu : SlV 1 (eB b) u) (hb : b.length ≤ 1000000) {a to : Nat} (hto : to ≤ b.length) (ha : a ≤ 1000000) : Ret F 91 [u, vi .i64 a, vi .i64 to] [] fun v h' => ∃ e, av h' v = some (.tup [.agg (e.map .cv), vb (ra b a to).isSome]) ∧ ajs b a to e := by
  refine eE3 (fn := f91) (n := 48) rfl rfl fun s hs h0 h1 h2 => ?_
  simp only [f91]
  have q0 : ([] ++ [VO.box [.cv (.sc (.string ⟨#[]⟩)), br] false] : ah)[0]? = some (.box [.cv (.sc (.string ⟨#[]⟩)), br] false) := rfl
  have l0 : ldO ([] ++ [VO.box [.cv (.sc (.string ⟨#[]⟩)), br] false] : ah) true 2 (.ptr 0 0) = some (.agg [.cv (.sc (.string ⟨#[]⟩)), br], ([] ++ [VO.box [.cv (.sc (.string ⟨#[]⟩)), br] false] : ah)) := By q0 rfl
  have s0 : ∀ x y : VV, stO ([] ++ [VO.box [.cv (.sc (.string ⟨#[]⟩)), br] false] : ah) 2 (.ptr 0 0) (.agg [x, y]) = some (.undef, [VO.box [x, y] false]) := fun x y => jw rfl q0 rfl
  have s0' : ∀ x y : VV, ([VO.box [x, y] false] : ah)[0]? = some (.box [x, y] false) := fun _ _ => rfl
  simp only [go_sem, seval, hs, List.length_nil]
  rw [bf f91_0.eq_1]
  have fin : ∀ {s' : List VV} {c1 c2 : CV} {ok : Bool}, s'.length = 48 → s'.getD 6 .undef = .ptr 0 0 → s'.getD 7 .undef = vb ok → ok = (ra b a to).isSome → (∀ p, ra b a to = some p → [c1, c2] = anq p.1 p.2) →
      RQ [.cell 6 true 2, .t 7] (fun v h' => ∃ e, av h' v = some (.tup [.agg (e.map .cv), vb (ra b a to).isSome]) ∧ ajs b a to e) .ret ⟨s', [VO.box [.cv c1, .cv c2] false]⟩ := by
    intro s' c1 c2 ok a1 a6 a7 hok hp
    refine Ys (id := 0) a6 rfl rfl (by omega) ?_
    rw [a7, hok]
    exact ⟨[c1, c2], rfl, ⟨c1, c2, rfl⟩, hp⟩
  by_cases c1 : (to : Int) ≤ (a : Int)
  · have e : ra b a to = none := by unfold ra; rw [if_pos (by omega)]
    simp only [go_sem, seval, hs, h1, h2, ge_iff_le, c1, l0, s0]
    exact fin (by simp only [ae, hs]) (by simp only [go_sem, seval, hs]) (by simp only [go_sem, seval, hs]; rfl) (by simp [e]) (fun p hp => by rw [e] at hp; cases hp)
  · have c1' : ¬ to ≤ a := by omega
    obtain ⟨w, hw, hsl⟩ := hu.upto (h := ([] ++ [VO.box [.cv (.sc (.string ⟨#[]⟩)), br] false])) (k := .i64) (b := (to : Int)) (by omega) (by rw [ax]; omega)
    rw [Int.toNat_natCast, Wb] at hw
    have hwl : (b.take to).length ≤ 1000000000 := by rw [List.length_take]; omega
    have n1 := yv (b.take to) w hw (a : Int) 30 [] hwl
    generalize hx : bg (b.take to) (a : Int) 30 = x at *
    have r1 : av [] (.tup [txt x.1, vi .i64 x.2.1, vi .u16 x.2.2]) = some (.tup [txt x.1, vi .i64 x.2.1, vi .u16 x.2.2]) := rfl
    simp only [go_sem, seval, hs, h0, h1, h2, ge_iff_le, c1, hsl]
    refine ao (h1 := ([] ++ [VO.box [.cv (.sc (.string ⟨#[]⟩)), br] false])) (by simp only [List.map, go_sem, seval, hs]; exact hw.clos rfl) n1 r1 ?_
    simp only [go_sem, seval, hs]
    rw [bf f91_1.eq_1]
    by_cases c2 : (x.2.2 : Int) = 0
    · have c2' : x.2.2 = 0 := by omega
      have n2 := yv (b.take to) w hw (x.2.1 : Int) 150 [] hwl
      generalize hy : bg (b.take to) (x.2.1 : Int) 150 = y at *
      have r2 : av [] (.tup [txt y.1, vi .i64 y.2.1, vi .u16 y.2.2]) = some (.tup [txt y.1, vi .i64 y.2.1, vi .u16 y.2.2]) := rfl
      simp only [go_sem, seval, hs, h0, h2, eq_true c2, hsl]
      refine ao (h1 := ([] ++ [VO.box [.cv (.sc (.string ⟨#[]⟩)), br] false])) (by simp only [List.map, go_sem, seval, hs]; exact hw.clos rfl) n2 r2 ?_
      have eL : ra b a to = if y.2.2 = 0 ∧ y.2.1 = to then some (x.1, y.1) else none := by
        unfold ra
        rw [if_neg c1', hx, if_neg (by rw [c2']; simp), hy]
      by_cases c3 : (y.2.2 : Int) = 0
      · by_cases c4 : (y.2.1 : Int) = (to : Int)
        · rw [if_pos ⟨by omega, by omega⟩] at eL
          simp only [go_sem, seval, hs, h2, eq_true c3, eq_true c4, s0]
          exact fin (by simp only [ae, hs]) (by simp only [go_sem, seval, hs]) (by simp only [go_sem, seval, hs]; rfl) (by simp [eL]) (fun p hp => by rw [eL] at hp; cases hp; rfl)
        · rw [if_neg (by omega)] at eL
          simp only [go_sem, seval, hs, h2, eq_true c3, c4, s0]
          exact fin (by simp only [ae, hs]) (by simp only [go_sem, seval, hs]) (by simp only [go_sem, seval, hs]; rfl) (by simp [eL]) (fun p hp => by rw [eL] at hp; cases hp)
      · rw [if_neg (by omega)] at eL
        simp only [go_sem, seval, hs, h2, c3, s0]
        exact fin (by simp only [ae, hs]) (by simp only [go_sem, seval, hs]) (by simp only [go_sem, seval, hs]; rfl) (by simp [eL]) (fun p hp => by rw [eL] at hp; cases hp)
    · have e : ra b a to = none := by
        unfold ra
        rw [if_neg c1', hx, if_pos (by omega)]
      simp only [go_sem, seval, hs, c2, l0, s0]
      exact fin (by simp only [ae, hs]) (by simp only [go_sem, seval, hs]) (by simp only [go_sem, seval, hs]; rfl) (by simp [e]) (fun p hp => by rw [e] at hp; cases hp)
open Go Go.Vm
theorem NB.snoc {h0 h : ah} {els : List (List CV)} {kv : List KV} {v : VV} (hR : RowsE els kv) (p : KV) : RowsE (els ++ [anq p.1 p.2]) (kv ++ [p]) :=
 hR.snoc ⟨.sl 1 (eB p.2) false, rfl, .inr ⟨false, rfl⟩⟩
theorem Wm {b : List UInt8} {n i to : Nat} (h1 : ¬ to <= 2 + i) : Cp b (n + 1) i to = match ra b (b.getD (2 + i) 0).toNat to with | none => none | some p => (Cp b n (i + 1) (b.getD (2 + i) 0).toNat).map (p :: ·) := by
 simp only [Cp]; grind
theorem f82_loop {b : List UInt8} {u : VV} (hu : SlV 1 (eB b) u) (hb : b.length = 256) {n : Nat} (hn : n <= 255) {g0 : ah} :
  ∀ (r i to : Nat) (els : List (List CV)) (kv : List KV) (v : VV) (s : List VV) (h : ah) (Q : Pst), i + r = n -> to <= 252 -> kv.length = i -> NB g0 h 2 els v -> RowsE els kv -> s.length = 75 -> s.getD 0 .undef = u -> s.getD 5 .undef = v -> s.getD 6 .undef = vi .i64 to -> s.getD 24 .undef = vi .i64 n -> s.getD 25 .undef = vi .i64 i ->
   (∀ rest, Cp b r i to = some rest -> ∀ s' h' els' v', s'.length = 75 -> s'.getD 0 .undef = u -> s'.getD 5 .undef = v' -> NB g0 h' 2 els' v' -> RowsE els' (kv ++ rest) -> Q (.exit 1) ⟨s', h'⟩) ->
   (Cp b r i to = none -> ∀ s' h', s'.length = 75 -> s'.getD 2 .undef = vi .i64 0 -> s'.getD 3 .undef = br -> s'.getD 4 .undef = vi .u16 11 -> HExt g0 h' -> Q .ret ⟨s', h'⟩) -> X F (.loop f82_3) ⟨s, h⟩ Q := by
 intro r
 induction r with
 | zero =>
  intro i to els kv v s h Q hi hto hkv hB hR hs h0 h5 h6 h24 h25 hE hN
  rw [aw, bf f82_3.eq_1]
  have c : ¬ (i : Int) < (n : Int) := by omega
  simp only [go_sem, seval, hs, h24, h25, c]
  rw [bf f82_0.eq_1]
  simp only [go_sem, seval, hs]
  exact hE [] rfl _ _ els v (by simp only [ae, hs]) (by simp only [go_sem, seval, h0]) (by simp only [go_sem, seval, h5]) hB (by rw [List.append_nil]; exact hR)
 | succ r ih =>
  intro i to els kv v s h Q hi hto hkv hB hR hs h0 h5 h6 h24 h25 hE hN
  rw [aw, bf f82_3.eq_1]
  have c : (i : Int) < (n : Int) := by omega
  have hw : IntKind.i64.wrap ((i : Int) + 1) = ((i + 1 : Nat) : Int) := by rw [IntWalk.i64_in _ (by omega)]; omega
  have e2 : IntKind.i64.wrap (2 + (i : Int)) = ((2 + i : Nat) : Int) := by rw [IntWalk.i64_in _ (by omega)]; omega
  simp only [go_sem, seval, hs, h24, h25, c]
  rw [bf f82_0.eq_1]
  simp only [go_sem, seval, hs, h25]
  rw [bf f82_1.eq_1]
  by_cases c1 : (to : Int) <= ((2 + i : Nat) : Int)
  ·simp only [go_sem, seval, hs, h6, e2, ge_iff_le, c1]
   refine hN (by simp only [Cp]; rw [if_pos (by omega)]) _ _ (by simp only [ae, hs]) (by simp only [go_sem, seval, hs]) (by simp only [go_sem, seval, hs]) (by simp only [go_sem, seval, hs]) hB.ext
  ·have c1' : ¬ to <= 2 + i := by omega
   have hlt : 2 + i < b.length := by omega
   have hia := hu.ia (h := h) (k := .i64) (j := ((2 + i : Nat) : Int)) (by omega) (nx (List.getElem?_eq_getElem hlt))
   have hbd : b.getD (2 + i) 0 = b[2 + i] := by rw [List.getD_eq_getElem?_getD, List.getElem?_eq_getElem hlt]; rfl
   have hdec := Wm (b := b) (n := r) c1'
   have hx8 := (b[2 + i]).toNat_lt
   have ew : IntKind.i64.wrap ((b[2 + i].toNat : Nat) : Int) = ((b[2 + i].toNat : Nat) : Int) := IntWalk.i64_in _ (by omega)
   rw [hbd] at hdec
   obtain ⟨v25, g25, n25, e, r25, ⟨x1, x2, rfl⟩, hp⟩ := ab1 hu (by omega) (a := b[2 + i].toNat) (to := to) (by omega) (by omega)
   generalize ha : b[2 + i].toNat = a at *
   simp only [go_sem, seval, hs, h0, h6, e2, ge_iff_le, c1, hia, ba, ha, ew]
   refine ao (h1 := h) (by simp only [List.map, go_sem, seval, hs]; exact hu.clos rfl) n25 r25 ?_
   simp only [go_sem, seval, hs, List.map]
   rw [bf f82_2.eq_1]
   cases hL : ra b a to with
   | none =>
    rw [hL] at hdec
    simp only [go_sem, seval, hs, Option.isSome_none]
    exact hN hdec _ _ (by simp only [ae, hs]) (by simp only [go_sem, seval, hs]) (by simp only [go_sem, seval, hs]) (by simp only [go_sem, seval, hs]) (hB.ext.then _)
   | some p =>
    rw [hL] at hdec
    have he := hp p hL
    have hto' : a <= 252 := by
     unfold ra at hL
     split at hL
     ·cases hL
     ·omega
    have q1 : (h ++ [VO.box [.cv x1, .cv x2] false])[h.length]? = some (.box [.cv x1, .cv x2] false) := bk
    have B1 := hB.then (HExt.push h (VO.box [.cv x1, .cv x2] false))
    simp only [go_sem, seval, hs, h5, Option.isSome_some]
    have hlen := hR.len
    refine nl B1 (new := [[x1, x2]]) (by simp only [go_sem, seval, hs]) (by simp only [go_sem, seval, hs]) (by simp only [List.length_singleton]; omega) (by simp only [List.length_singleton]; omega) (fun v' h' B' _ _ _ => ?_)
    simp only [go_sem, seval, hs, h25, hw]
    rw [he] at B'
    refine ih (i + 1) a _ (kv ++ [p]) v' _ h' Q (by omega) hto' (by simp; omega) B' (NB.snoc (h0 := []) (h := []) (v := .undef) hR p) (by simp only [ae, hs]) (by simp only [go_sem, seval, h0]) (by simp only [go_sem, seval, hs]) (by simp only [go_sem, seval, hs]) (by simp only [go_sem, seval, h24]) (by simp only [go_sem, seval, hs])
     (fun rest hr s' h' els' v' a1 a0 a5 B2 R2 => hE (p :: rest) (by rw [hdec, hr]; rfl) s' h' els' v' a1 a0 a5 B2 (by rw [List.append_assoc] at R2; exact R2)) (fun hr s' h' a1 a2 a3 a4 a5 => hN (by rw [hdec, hr]; rfl) s' h' a1 a2 a3 a4 a5)
def al0 (b : List UInt8) (w : VV) (k : IntKind) : Prop := ∃ els x, w = .tup [vi .i64 (wt b).1, x, vi k (wt b).2.2] /\ SlV 2 els x /\ RowsE els (wt b).2.1
theorem al5.pure {b : Option (List UInt8)} {v : VV} {h' : ah} (h : al5 [] b v h') : ∃ w, av h' v = some (.tup [w, vb b.isSome]) /\ ∀ c, b = some c -> SlV 1 (eB c) w := by
 cases b with
 | none =>
  have : v = .tup [br, vb false] := h
  subst this
  exact ⟨br, rfl, fun c hc => by cases hc⟩
 | some c =>
  obtain ⟨w, rfl, B⟩ := h
  obtain ⟨x, h1, e1, e2⟩ := B.clos
  refine ⟨x, ?_, fun c' hc => by grind⟩
  have : cg h' [w, vb true] = some ([x, vb true], h1) := cj e1 rfl
  simp only [av, this, Option.map_some, Option.isSome_some]
theorem Rl {b : List UInt8} {u : VV} (hu : SlV 1 (eB b) u) (hb : b.length <= 1000000) : Cg F 82 [u] fun w => al0 b w .u16 := by
 have : Ret F 82 [u] [] fun v h' => ∃ w, av h' v = some w /\ al0 b w .u16 := by
  refine eE1 (fn := f82) (n := 75) rfl rfl fun s hs h0 => ?_
  simp only [f82]
  have no : ∀ (e : Nat), wt b = (0, [], e) -> al0 b (.tup [vi .i64 0, br, vi .u16 e]) .u16 := fun e he => ⟨[], br, by rw [he]; rfl, .inl ⟨rfl, rfl⟩, by rw [he]; exact RowsE.nil⟩
  have fin : ∀ (s' : List VV) (h' : ah) (e : Nat), s'.length = 75 -> s'.getD 2 .undef = vi .i64 0 -> s'.getD 3 .undef = br -> s'.getD 4 .undef = vi .u16 e -> wt b = (0, [], e) -> RQ [.t 2, .t 3, .t 4] (fun v h' => ∃ w, av h' v = some w /\ al0 b w .u16) .ret ⟨s', h'⟩ := by
   intro s' h' e a1 a2 a3 a4 he
   simp only [go_sem, seval, a1, a2, a3, a4]
   exact ⟨_, rfl, no e he⟩
  by_cases c1 : (b.length : Int) = 256
  ·have c1' : b.length = 256 := by omega
   obtain ⟨v24, h24, n24, rfl⟩ := Vs hu (by omega)
   simp only [go_sem, seval, hs, h0, hu.ln, ax, eq_true c1, ne_eq, not_true_eq_false]
   refine ao (h1 := []) (by simp only [List.map, go_sem, seval, hs]; exact hu.clos rfl) n24 rfl ?_
   cases hr : Dr b with
   | false =>
    simp only [go_sem, seval, hs]
    exact ⟨_, rfl, no 12 (by unfold wt; rw [if_neg (by rw [c1']; simp), hr, if_pos rfl])⟩
   | true =>
    have g1 : (1 : Nat) < b.length := by omega
    have g0 : (0 : Nat) < b.length := by omega
    have hia1 : iaO [] 1 u (vi .i64 1) = some (.rptr (ba b[1]), []) := hu.ia (h := []) (k := .i64) (j := ((1 : Nat) : Int)) (by omega) (nx (List.getElem?_eq_getElem g1))
    have hia0 : ∀ h : ah, iaO h 1 u (vi .i64 0) = some (.rptr (ba b[0]), h) := fun h => hu.ia (h := h) (k := .i64) (j := ((0 : Nat) : Int)) (by omega) (nx (List.getElem?_eq_getElem g0))
    have b1 : b.getD 1 0 = b[1] := by rw [List.getD_eq_getElem?_getD, List.getElem?_eq_getElem g1]; rfl
    have b0 : b.getD 0 0 = b[0] := by rw [List.getD_eq_getElem?_getD, List.getElem?_eq_getElem g0]; rfl
    have x1 := (b[1]).toNat_lt
    have x0 := (b[0]).toNat_lt
    have w1 : IntKind.i64.wrap (b[1].toNat : Int) = (b[1].toNat : Int) := IntWalk.i64_in _ (by omega)
    have w0 : IntKind.i64.wrap (b[0].toNat : Int) = (b[0].toNat : Int) := IntWalk.i64_in _ (by omega)
    have hdF : wt b = match Cp b b[1].toNat 0 252 with | none => (0, [], 11) | some l => if Ye (b[0].toNat : Int) l = some b then (b[0].toNat, l, 0) else (0, [], 11) := by
     unfold wt
     rw [if_neg (by rw [c1']; simp), hr, if_neg (by simp), b1, b0]
     all_goals (cases Cp b b[1].toNat 0 252 <;> rfl)
    simp only [go_sem, Nat.reduceLT, Nat.reduceEqDiff, reduceCtorEq, Int.reduceLT, Int.reduceEq, hs, h0, hia1, ba, w1]
    refine f82_loop hu c1' (n := b[1].toNat) (by omega) (g0 := []) b[1].toNat 0 252 [] [] br _ _ _ (by omega) (by omega) rfl (NB.nil _ _) RowsE.nil (by simp only [ae, hs]) (by simp only [go_sem, Nat.reduceLT, Nat.reduceEqDiff, reduceCtorEq, Int.reduceLT, Int.reduceEq, h0]) (by simp only [go_sem, Nat.reduceLT, Nat.reduceEqDiff, reduceCtorEq, Int.reduceLT, Int.reduceEq, hs]) (by simp only [go_sem, Nat.reduceLT, Nat.reduceEqDiff, reduceCtorEq, Int.reduceLT, Int.reduceEq, hs]; rfl) (by simp only [go_sem, Nat.reduceLT, Nat.reduceEqDiff, reduceCtorEq, Int.reduceLT, Int.reduceEq, hs]) (by simp only [go_sem, Nat.reduceLT, Nat.reduceEqDiff, reduceCtorEq, Int.reduceLT, Int.reduceEq, hs]; rfl)
     (fun rest hr2 s' h' els' v' a1 a0 a5 B R => ?_) (fun hr2 s' h' a1 a2 a3 a4 _ => ?_)
    ·replace hdF : wt b = if Ye (b[0].toNat : Int) rest = some b then (b[0].toNat, rest, 0) else (0, [], 11) := by rw [hdF, hr2]
     rw [List.nil_append] at R
     have hlen : rest.length <= 9223372036854775807 := by
      have : ∀ (n i to : Nat) (l : List KV), Cp b n i to = some l -> l.length = n := by
       intro n
       induction n with
       | zero => intro i to l h; simp only [Cp] at h; cases h; rfl
       | succ n ih =>
        intro i to l h
        simp only [Cp] at h
        split at h
        ·cases h
        ·split at h
         ·cases h
         ·cases hd : Cp b n (i + 1) (b.getD (2 + i) 0).toNat with
          | none => rw [hd] at h; cases h
          | some l' => rw [hd] at h; cases h; simp [ih _ _ _ hd]
      have := this _ _ _ _ hr2; omega
     obtain ⟨x, h1, e1, e2⟩ := B.clos
     obtain ⟨v10, h10, n10, P10⟩ := Di [] (b[0].toNat : Int) e2 R hlen
     obtain ⟨y, r10, hy⟩ := P10.pure
     simp only [go_sem, seval, a1, a0, a5, hia0, ba, w0]
     have ec : cg h' [vi .i64 (b[0].toNat : Int), v'] = some ([vi .i64 (b[0].toNat : Int), x], h1) := cj rfl (by simp only [cg, e1])
     refine ao (h1 := h1) (by simp only [List.map, go_sem, seval, a1]; exact ec) n10 r10 ?_
     have B1 : gh h1 2 v' = some els' /\ ∃ z, ie h1 v' = some (z, h1) /\ SlV 2 els' z := by
      rcases B.v with ⟨rfl, rfl⟩ | ⟨id, g, _, rfl, a4⟩
      ·simp [ie, Go.Vm.clos] at e1
       exact ⟨rfl, br, rfl, .inl ⟨rfl, rfl⟩⟩
      ·simp [ie, Go.Vm.clos, a4] at e1
       obtain ⟨_, rfl⟩ := e1
       have hg : (h'.set id (VO.arr 2 els' g true))[id]? = some (.arr 2 els' g true) := by rw [List.getElem?_set_self (ey a4)]
       refine ⟨by simp [gh, hg], .cv (.sl 2 els' false), ?_, .inr ⟨false, rfl⟩⟩
       simp [ie, Go.Vm.clos, hg]
     obtain ⟨z, ez, hz⟩ := B1.2
     have e12 : av h1 (.tup [vi .i64 (b[0].toNat : Int), v', vi .u16 0]) = some (.tup [vi .i64 (b[0].toNat : Int), z, vi .u16 0]) := by
      have : cg h1 [vi .i64 (b[0].toNat : Int), v', vi .u16 0] = some ([vi .i64 (b[0].toNat : Int), z, vi .u16 0], h1) := cj rfl (cj ez rfl)
      simp only [av, this, Option.map_some]
     cases hE : Ye (b[0].toNat : Int) rest with
     | none =>
      rw [hE] at hdF
      simp only [go_sem, seval, a1, Option.isSome_none]
      exact ⟨_, rfl, no 11 (by rw [hdF]; simp)⟩
     | some c =>
      have hS := hy c hE
      have n26 := sb hS hu
      rw [hE] at hdF
      simp only [go_sem, seval, a1, a0, Option.isSome_some]
      refine ao (h1 := h1) (by simp only [List.map, go_sem, seval, a1]; exact hS.clos (hu.clos rfl)) n26 rfl ?_
      by_cases hc : c = b
      ·rw [hc] at hdF
       rw [if_pos rfl] at hdF
       simp only [go_sem, seval, a1, a0, a5, hc, hia0, ba, w0]
       exact ⟨_, e12, els', z, by rw [hdF]; rfl, hz, by rw [hdF]; exact R⟩
      ·have hc' : ¬ some c = some b := fun e => hc (by cases e; rfl)
       rw [if_neg hc'] at hdF
       simp only [go_sem, seval, a1, hc]
       exact ⟨_, rfl, no 11 hdF⟩
    ·rw [hr2] at hdF
     simp only [go_sem, seval, a1, a2, a3, a4]
     exact ⟨_, rfl, no 11 hdF⟩
  ·simp only [go_sem, seval, hs, h0, hu.ln, ax, c1]
   exact ⟨_, rfl, no 11 (by unfold wt; rw [if_pos (by omega)])⟩
 exact this
open Go Go.Vm
theorem aau : ∀ {b : List UInt8} (n i to : Nat) (l : List KV), Cp b n i to = some l -> l.length = n := by
 intro b n
 induction n with
 | zero => intro i to l h; simp only [Cp] at h; cases h; rfl
 | succ n ih =>
  intro i to l h
  simp only [Cp] at h
  split at h
  ·cases h
  ·split at h
   ·cases h
   ·cases hd : Cp b n (i + 1) (b.getD (2 + i) 0).toNat with
    | none => rw [hd] at h; cases h
    | some l' => rw [hd] at h; cases h; simp [ih _ _ _ hd]
theorem ajp {a b : List UInt8} : kx .leq (txt a) (txt b) = some (vb (Op.bytesLess a b || a == b)) := rfl
open Go Go.Vm
def nc : List KV -> Bool
 | a :: b :: r => !(Ci b.1 a.1) && nc (b :: r)
 | _ => true
theorem Zl {kv : List KV} {k : Nat} {p q : KV} (hk : 1 <= k) (hp : kv[k - 1]? = some p) (hq : kv[k]? = some q) : nc (kv.drop (k - 1)) = (!(Ci q.1 p.1) && nc (kv.drop k)) := by
 have e1 := Ar hp
 have e2 := Ar hq
 have e : k - 1 + 1 = k := by omega
 rw [e] at e1
 rw [e1, e2, nc]
theorem aex {kv : List KV} {k : Nat} (hk : kv.length <= k + 1) : nc (kv.drop k) = true := by
 have : (kv.drop k).length <= 1 := by rw [List.length_drop]; omega
 match kv.drop k, this with
 | [], _ => rfl
 | [_], _ => rfl
theorem f78_loop {els : List (List CV)} {kv : List KV} {u : VV} {h : ah} (hS : SlV 2 els u) (hR : RowsE els kv) (hn : kv.length <= 9223372036854775807) :
  ∀ (r k : Nat) (s : List VV) (Q : Pst), 1 <= k -> k + r = kv.length -> s.length = 26 -> s.getD 0 .undef = u -> s.getD 5 .undef = vi .i64 kv.length -> s.getD 6 .undef = vi .i64 k ->
   (nc (kv.drop (k - 1)) = true -> ∀ s', s'.length = 26 -> Q (.exit 0) ⟨s', h⟩) -> (nc (kv.drop (k - 1)) = false -> ∀ s', s'.length = 26 -> s'.getD 2 .undef = vb false -> Q .ret ⟨s', h⟩) -> X F (.loop f78_1) ⟨s, h⟩ Q := by
 intro r
 induction r with
 | zero =>
  intro k s Q hk1 hk hs h0 h5 h6 hE hQ
  rw [aw, bf f78_1.eq_1]
  have c : ¬ (k : Int) < (kv.length : Int) := by omega
  simp only [go_sem, seval, hs, h5, h6, c]
  rw [bf f78_0.eq_1]
  simp only [go_sem, seval, hs]
  exact hE (aex (by omega)) _ (by simp only [ae, hs])
 | succ r ih =>
  intro k s Q hk1 hk hs h0 h5 h6 hE hQ
  obtain ⟨e, p, he, hp, c, rfl, hc⟩ := hR.get (i := k) (by omega)
  obtain ⟨e', p', he', hp', c', rfl, hc'⟩ := hR.get (i := k - 1) (by omega)
  have hst := Zl hk1 hp' hp
  rw [aw, bf f78_1.eq_1]
  have c1 : (k : Int) < (kv.length : Int) := by omega
  have c2 : (0 : Int) < (k : Int) := by omega
  have hw : IntKind.i64.wrap ((k : Int) + 1) = ((k + 1 : Nat) : Int) := by rw [IntWalk.i64_in _ (by omega)]; omega
  have hw2 : IntKind.i64.wrap ((k : Int) - 1) = ((k - 1 : Nat) : Int) := by rw [IntWalk.i64_in _ (by omega)]; omega
  have hia := hS.ia (h := h) (k := .i64) (j := (k : Int)) (by omega) he
  have hia2 := hS.ia (h := h) (k := .i64) (j := ((k - 1 : Nat) : Int)) (by omega) he'
  simp only [go_sem, seval, hs, h5, h6, c1]
  rw [bf f78_0.eq_1]
  simp only [go_sem, seval, hs, h6]
  refine jz rfl ?_
  simp only [go_sem, seval, hs, h0, gt_iff_lt, c2, hw2, hia, hia2, ajp]
  cases hb : (Op.bytesLess p.1 p'.1 || p.1 == p'.1) with
  | true =>
   simp only [go_sem, seval, hs]
   have : Ci p.1 p'.1 = true := hb
   rw [this] at hst
   exact hQ hst _ (by simp only [ae, hs]) (by simp only [go_sem, seval, hs])
  | false =>
   simp only [go_sem, seval, hs, h6, hw]
   have : Ci p.1 p'.1 = false := hb
   rw [this] at hst
   simp only [Bool.not_false, Bool.true_and] at hst
   refine ih (k + 1) _ Q (by omega) (by omega) (by simp only [ae, hs]) (by simp only [go_sem, seval, h0]) (by simp only [go_sem, seval, h5]) (by simp only [go_sem, seval, hs]) (fun hh => hE (by rw [hst]; exact hh)) (fun hh => hQ (by rw [hst]; exact hh))
theorem Ra {els : List (List CV)} {kv : List KV} {u : VV} (hS : SlV 2 els u) (hR : RowsE els kv) (hn : kv.length <= 9223372036854775807) : ∃ h', call F 78 [u] [] = some (.ret (vb (nc kv)), h') := by
 have : Ret F 78 [u] [] fun v h' => v = vb (nc kv) := by
  refine eE1 (fn := f78) (n := 26) rfl rfl fun s hs h0 => ?_
  simp only [f78]
  have hl := hR.len
  simp only [go_sem, seval, hs, h0, hS.ln, hl]
  cases kv with
  | nil =>
   rw [aw, bf f78_1.eq_1]
   have c : ¬ (0 : Int) < ((([] : List KV).length : Nat) : Int) := by simp
   simp only [go_sem, seval, hs, c]
   rw [bf f78_0.eq_1]
   simp only [go_sem, seval, hs]
   rfl
  | cons p kv =>
   rw [aw, bf f78_1.eq_1]
   have c : (0 : Int) < (((p :: kv).length : Nat) : Int) := by rw [List.length_cons]; omega
   have c0 : ¬ (0 : Int) < 0 := by decide
   have hw : IntKind.i64.wrap ((0 : Int) + 1) = ((1 : Nat) : Int) := by decide
   simp only [go_sem, seval, hs, c]
   rw [bf f78_0.eq_1]
   simp only [go_sem, seval, hs]
   refine jz rfl ?_
   simp only [go_sem, Nat.reduceLT, Nat.reduceEqDiff, reduceCtorEq, Int.reduceLT, Int.reduceEq, hs, gt_iff_lt, c0, hw]
   refine f78_loop hS hR hn kv.length 1 _ _ (by omega) (by simp; omega) (by simp only [ae, hs]) (by simp only [go_sem, Nat.reduceLT, Nat.reduceEqDiff, reduceCtorEq, Int.reduceLT, Int.reduceEq, h0]) (by simp only [go_sem, Nat.reduceLT, Nat.reduceEqDiff, reduceCtorEq, Int.reduceLT, Int.reduceEq, hs]) (by simp only [go_sem, Nat.reduceLT, Nat.reduceEqDiff, reduceCtorEq, Int.reduceLT, Int.reduceEq, hs]) (fun hh s' a1 => ?_) (fun hh s' a1 a2 => ?_)
   ·simp only [go_sem, seval, a1]
    exact congrArg vb hh.symm
   ·simp only [go_sem, seval, a1, a2]
    exact congrArg vb hh.symm
 obtain ⟨v, h', e1, rfl⟩ := this
 exact ⟨h', e1⟩
open Go Go.Vm
theorem ahr (b : List UInt8) : (wt b).2.2 <= 12 /\ (wt b).1 <= 255 := by
 unfold wt
 split
 ·simp
 ·split
  ·simp
  ·split
   ·simp
   ·split
    ·have := (b.getD 0 0).toNat_lt
     refine ⟨by simp, ?_⟩
     show (b.getD 0 0).toNat <= 255
     omega
    ·simp
theorem ab6 (b : List UInt8) : (wt b).2.1.length <= 255 := by
 unfold wt
 split
 ·simp
 ·split
  ·simp
  ·split
   ·simp
   ·rename_i l hl
    have := aau _ _ _ _ hl
    have h2 := (b.getD 1 0).toNat_lt
    split
    ·simp only; omega
    ·simp
open Go Go.Vm
theorem Bk {els : List (List CV)} {kv : List KV} (hR : RowsE els kv) (n : Nat) : RowsE (els.take n) (kv.take n) := by
 induction hR generalizing n with
 | nil => simp; exact .nil
 | cons h _ ih =>
  cases n with
  | zero => exact .nil
  | succ n => exact .cons h (ih n)
open Go Go.Vm
theorem afu (id : Nat) : F (YB + id) = none := by
 cases h : F (YB + id) with
 | none => rfl
 | some fn => have := tlt h; omega
def yd : List KV -> List UInt8
 | [] => []
 | p :: _ => p.1
def pz : Nat -> List (List KV) -> List KV
 | _, [] => []
 | n, g :: r => (yd g, num (kh (n : Int))) :: pz (n + 1) r
theorem om : ∀ (n : Nat) (gs : List (List KV)), (pz n gs).length = gs.length
 | _, [] => rfl
 | n, g :: r => by simp [pz, om (n + 1) r]
theorem zq : ∀ (n : Nat) (gs : List (List KV)) (g : List KV), pz n (gs ++ [g]) = pz n gs ++ [(yd g, num (kh ((n + gs.length : Nat) : Int)))]
 | n, [], g => by simp [pz]
 | n, x :: gs, g => by
  simp only [List.cons_append, pz, zq (n + 1) gs g, List.length_cons]
  grind
def ve (gs : List (List KV)) : Nat := (gs.map List.length).sum
theorem Kc (gs : List (List KV)) (g : List KV) : ve (gs ++ [g]) = ve gs + g.length := by simp [ve]
inductive PgE : List (List CV) -> List (List UInt8) -> Prop
 | nil : PgE [] []
 | cons {c : CV} {b : List UInt8} {l : List (List CV)} {k : List (List UInt8)} (h : SlV 1 (eB b) (.cv c)) (t : PgE l k) : PgE ([c] :: l) (b :: k)
theorem PgE.len {l : List (List CV)} {k : List (List UInt8)} (h : PgE l k) : l.length = k.length := by
 induction h with
 | nil => rfl
 | cons _ _ ih => simp [ih]
theorem PgE.app {l m : List (List CV)} {k j : List (List UInt8)} (h : PgE l k) (h2 : PgE m j) : PgE (l ++ m) (k ++ j) := by
 induction h with
 | nil => exact h2
 | cons h _ ih => exact .cons h ih
theorem PgE.snoc {l : List (List CV)} {k : List (List UInt8)} (h : PgE l k) {c : CV} {b : List UInt8} (hc : SlV 1 (eB b) (.cv c)) : PgE (l ++ [[c]]) (k ++ [b]) := h.app (.cons hc .nil)
theorem PgE.get {l : List (List CV)} {k : List (List UInt8)} (h : PgE l k) {i : Nat} (hi : i < k.length) : ∃ c b, l[i]? = some [c] /\ k[i]? = some b /\ SlV 1 (eB b) (.cv c) := by
 induction h generalizing i with
 | nil => simp at hi
 | cons h t ih =>
  grind
structure LvB (tb N n : Nat) (pg0 : List (List UInt8)) (g : ah) (gs : List (List KV)) : Prop where
 i3 : g[N]? = some (.box [.ptr tb 0] false)
 i4 : g[N + 1]? = some (.box [vi .i64 n] false)
 i6 : g[N + 2]? = some (.box [br] false)
 i7 : g[N + 3]? = some (.box [vb false] false)
 i8 : ∃ va elsA, g[N + 4]? = some (.box [va] false) /\ ej g 2 elsA va /\ RowsE elsA (pz pg0.length gs)
 i9 : g[N + 5]? = some (.box [vi .i64 (ve gs : Nat)] false)
 it : ∃ vp elsP, g[tb]? = some (.box [vp] false) /\ ej g 1 elsP vp /\ PgE elsP (pg0 ++ gs.map (gd n))
theorem LvB.loop {tb N n : Nat} {pg0 : List (List UInt8)} {g : ah} {gs : List (List KV)} (L : LvB tb N n pg0 g gs) (htb : tb < N) {ps : List Nat} {a b : IR} {s : List VV} {t : LoopState} {p : Option Jmp} (ho : g[N + 7]? = some (.loop ps a b s t p)) (o : VO) : LvB tb N n pg0 (g.set (N + 7) o) gs := by
 obtain ⟨va, elsA, a1, a2, a3⟩ := L.i8
 obtain ⟨vp, elsP, b1, b2, b3⟩ := L.it
 have ne : ∀ {j : Nat}, j ≠ N + 7 -> (g.set (N + 7) o)[j]? = g[j]? := fun hj => List.getElem?_set_ne (fun e => hj e.symm)
 exact ⟨by rw [ne (by omega)]; exact L.i3, by rw [ne (by omega)]; exact L.i4, by rw [ne (by omega)]; exact L.i6, by rw [ne (by omega)]; exact L.i7, ⟨va, elsA, by grind, a2.setLoop ho o, a3⟩, by rw [ne (by omega)]; exact L.i9, ⟨vp, elsP, by grind, b2.setLoop ho o, b3⟩⟩
theorem aah {n : Nat} {gk : List KV} (hn : n <= 4) (hf : od 0 gk = gk.length) : Ye (n : Int) gk = some (gd n gk) := by
 unfold Ye
 grind
theorem Lx {tb N n : Nat} (htb : tb < N) (hn : n ≤ 4) {s0 : List VV} (hs0 : s0.length = 63) (k3 : s0.getD 3 .undef = .ptr N 0) (k4 : s0.getD 4 .undef = .ptr (N + 1) 0) (k6 : s0.getD 6 .undef = .ptr (N + 2) 0) (k7 : s0.getD 7 .undef = .ptr (N + 3) 0)
    (k8 : s0.getD 8 .undef = .ptr (N + 4) 0) (k9 : s0.getD 9 .undef = .ptr (N + 5) 0) {pg0 : List (List UInt8)} {g : ah} {gs : List (List KV)} (L : LvB tb N n pg0 g gs) {p0 : Option Jmp} (hp : g[N + 7]? = some (.loop [16] f79_0 f79_3 s0 .ready p0))
    {gv vl : VV} {elsg : List (List CV)} {gk : List KV} (hv : VZ g 2 elsg gv) (hR : RowsE elsg gk) (hfit : od 0 gk = gk.length) (hcnt : pg0.length + gs.length ≤ 1000000) (hsum : ve gs + gk.length ≤ 1000000) (hlb : g[N + 6]? = some (.box [vl] false)) :
    ∃ h', call F (YB + (N + 7)) [gv] g = some (.ret (vb true), h') ∧ LvB tb N n pg0 h' (gs ++ [gk]) ∧ h'[N + 7]? = some (.loop [16] f79_0 f79_3 s0 .ready none) ∧ KZ g h' ∧ h'[N + 6]? = some (.box [vl] false) := by
  have key := Gf (F := F) (id := N + 7) (afu _) (ps := [16]) (asg := f79_0) (body := f79_3) (s0 := s0) (a := [gv]) (h := g) (P := fun v h' => v = vb true ∧ LvB tb N n pg0 h' (gs ++ [gk]) ∧ h'[N + 7]? = some (.loop [16] f79_0 f79_3 s0 .ready none) ∧ KZ g h' ∧ h'[N + 6]? = some (.box [vl] false)) hp rfl ?_
  · obtain ⟨v, h', e1, rfl, e2⟩ := key
    exact ⟨h', e1, e2⟩
  have hset : tk s0 [16] [gv] = s0.set 16 gv := rfl
  rw [hset, bf f79_0.eq_1]
  simp only [go_sem, seval, hs0]
  refine ⟨rfl, p0, hp, ?_⟩
  dsimp only
  have Lb := L.loop htb hp (.loop [16] f79_0 f79_3 s0 .busy p0)
  have hp1 : (g.set (N + 7) (.loop [16] f79_0 f79_3 s0 .busy p0))[N + 7]? = some (.loop [16] f79_0 f79_3 s0 .busy p0) := List.getElem?_set_self (ey hp)
  have kz1 := KZ.setLoop g hp (.loop [16] f79_0 f79_3 s0 .busy p0)
  have hv1 := hv.kz kz1
  have hlb1 : (g.set (N + 7) (.loop [16] f79_0 f79_3 s0 .busy p0))[N + 6]? = some (.box [vl] false) := by rw [List.getElem?_set_ne (by omega)]; exact hlb
  generalize g.set (N + 7) (.loop [16] f79_0 f79_3 s0 .busy p0) = g1 at Lb hp1 kz1 hv1 hlb1
  obtain ⟨va, elsA, a1, a2, a3⟩ := Lb.i8
  obtain ⟨vp, elsP, b1, b2, b3⟩ := Lb.it
  have hl := hR.len
  obtain ⟨w, w1, w2⟩ := hv1.clos
  obtain ⟨v32, h32, n32, P32⟩ := Di [] (n : Int) w2 hR (by omega)
  obtain ⟨y, r32, hy⟩ := P32.pure
  rw [aah hn hfit] at r32 hy
  have hy' := hy _ rfl
  obtain ⟨cy, rfl⟩ : ∃ cy, y = .cv cy := by rcases hy' with ⟨rfl, _⟩ | ⟨ex, rfl⟩ <;> exact ⟨_, rfl⟩
  have hpl := b3.len
  rw [List.length_append, List.length_map] at hpl
  obtain ⟨v33, h33, n33, r33⟩ := Zs ((pg0.length + gs.length : Nat) : Int)
  rw [bf f79_3.eq_1]
  simp only [go_sem, seval, hs0, k4, im Lb.i4]
  refine ao (h1 := g1) (by simp only [List.map, go_sem, seval, hs0]; exact dv (cj w1 rfl)) n32 r32 ?_
  simp only [go_sem, seval, hs0]
  rw [bf f79_1.eq_1]
  simp only [go_sem, seval, hs0, Option.isSome_some, k3, im Lb.i3, im b1, b2.vf.ln, hpl]
  refine ao (h1 := g1) (by simp only [List.map, go_sem, seval, hs0]; exact dv rfl) n33 r33 ?_
  have bd : ∀ c : CV, bdO [.cv (.sc (.string ⟨#[]⟩)), .cv (.sc (.slice none 0 0))] [(1, 1, .cv c)] = some (.agg [.cv (.sc (.string ⟨#[]⟩)), .cv c]) := fun c => rfl
  simp only [go_sem, seval, hs0, bd]
  -- the row's box
  have q0 : (g1 ++ [VO.box [.cv (.sc (.string ⟨#[]⟩)), .cv (.sl 1 (eB (num (kh ((pg0.length + gs.length : Nat) : Int)))) false)] false])[g1.length]? = some (.box [txt [], .cv (.sl 1 (eB (num (kh ((pg0.length + gs.length : Nat) : Int)))) false)] false) := bk
  have x0 := HExt.push g1 (VO.box [.cv (.sc (.string ⟨#[]⟩)), .cv (.sl 1 (eB (num (kh ((pg0.length + gs.length : Nat) : Int)))) false)] false)
  have hB7 : N + 7 < g1.length := ey hp1
  generalize hcn : (CV.sl 1 (eB (num (kh ((pg0.length + gs.length : Nat) : Int)))) false) = cn at *
  have hcnS : SlV 1 (eB (num (kh ((pg0.length + gs.length : Nat) : Int)))) (.cv cn) := by rw [← hcn]; exact .inr ⟨false, rfl⟩
  generalize g1 ++ [VO.box [.cv (.sc (.string ⟨#[]⟩)), .cv cn] false] = g2 at q0 x0
  generalize hB : g1.length = nB at *
  have hv2 := hv1.kz x0.kz
  -- behind the key
  have fin : ∀ (s : List VV) (g3 : ah), s.length = 63 → s.getD 3 .undef = .ptr N 0 → s.getD 8 .undef = .ptr (N + 4) 0 → s.getD 9 .undef = .ptr (N + 5) 0 → s.getD 10 .undef = gv → s.getD 11 .undef = .cv cy → s.getD 13 .undef = .ptr nB 0 →
      g3[nB]? = some (.box [txt (yd gk), .cv cn] false) → (∀ j, j < nB → g3[j]? = g1[j]?) → KZ g1 g3 → ej g3 2 elsA va → ej g3 1 elsP vp → X F (.draw [(
  ⟨none, (some 40), (.ld false 1 (.t 3))⟩, (.r 0 3)), (
  ⟨none, (some 41), (.ld false 1 (.t 8))⟩, (.r 0 0)), (
  ⟨none, (some 42), (.ld true 2 (.t 13))⟩, (.r 0 0)), (
  ⟨none, (some 43), (.mksl 2 1 [(.cv (.sc (.string ⟨#[]⟩))), (.cv (.sc (.slice none 0 0)))] [(0, (2, (.t 42)))] false)⟩, (.r 0 0)), (
  ⟨none, (some 44), (.app 2 40 [(.sc (.string ⟨#[]⟩)), (.sc (.slice none 0 0))] (.t 41) (.t 43))⟩, .k), (
  ⟨none, (some 45), (.ld false 1 (.t 3))⟩, (.r 0 1)), (
  ⟨none, (some 46), (.nilck (.t 45))⟩, .p), (
  ⟨none, (some 47), (.fad 0 (.t 46))⟩, .p), (
  ⟨none, (some 48), (.ld false 1 (.t 47))⟩, (.r 0 1)), (
  ⟨none, (some 49), (.mv (.t 11))⟩, .p), (
  ⟨none, (some 50), (.mksl 1 1 [(.cv (.sc (.slice none 0 0)))] [(0, (1, (.t 49)))] false)⟩, (.r 0 1)), (
  ⟨none, (some 51), (.app 1 24 [(.sc (.slice none 0 0))] (.t 48) (.t 50))⟩, .k), (
  ⟨none, none, (.st 1 (.t 8) (.t 44))⟩, .k), (
  ⟨none, (some 52), (.nilck (.t 40))⟩, .p), (
  ⟨none, (some 53), (.fad 0 (.t 52))⟩, .p), (
  ⟨none, none, (.st 1 (.t 53) (.t 51))⟩, .k)]) ⟨s, g3⟩ (K F (.reg [
  ⟨none, (some 54), (.ld false 1 (.t 9))⟩,
  ⟨none, (some 55), (.mv (.t 10))⟩,
  ⟨none, (some 56), (.len false (.t 55))⟩,
  ⟨none, (some 57), (.bin .add (.t 54) (.t 56))⟩,
  ⟨none, none, (.st 1 (.t 9) (.t 57))⟩]) (B 1 (RB (N + 7) [16] f79_0 f79_3 s0 fun v h' => v = vb true ∧ LvB tb N n pg0 h' (gs ++ [gk]) ∧ h'[N + 7]? = some (.loop [16] f79_0 f79_3 s0 .ready none) ∧ KZ g h' ∧ h'[N + 6]? = some (.box [vl] false)))) := by
    intro s g3 hs h3 h8 h9 h10 h11 h13 qB same kz3 A3 P3
    have j3 : g3[N]? = some (.box [.ptr tb 0] false) := by rw [same N (by omega)]; exact Lb.i3
    have jt : g3[tb]? = some (.box [vp] false) := by rw [same tb (by omega)]; exact b1
    have j8 : g3[N + 4]? = some (.box [va] false) := by rw [same (N + 4) (by omega)]; exact a1
    have hAl := a3.len
    rw [om] at hAl
    have hmk2 : ∀ h : ah, mkO h 2 1 [.cv (.sc (.string ⟨#[]⟩)), .cv (.sc (.slice none 0 0))] [(0, 2, .agg [txt (yd gk), .cv cn])] = some (.cv (.sl 2 [[.sc (.string ⟨(yd gk).toArray⟩), cn]] true), h) := fun h => Lq
    have hmk1 : ∀ h : ah, mkO h 1 1 [.cv (.sc (.slice none 0 0))] [(0, 1, .cv cy)] = some (.cv (.sl 1 [[cy]] true), h) := fun h => rfl
    refine ug 13 (fun g => g[N]? = some (.box [.ptr tb 0] false) ∧ g[tb]? = some (.box [vp] false)) ⟨j3, jt⟩ rfl rfl ?_
    simp only [List.take_succ_cons, List.take_zero]
    refine wz (v := .ptr tb 0) rfl ⟨j3, jt⟩ (fun g hg => by rw [mf]; simp only [go_sem, seval, hs, h3]; exact bc hg.1 rfl) ?_
    refine uy (v := va) rfl (by rw [mf]; simp only [go_sem, seval, hs, h8]; exact bc j8 rfl) ?_
    refine uy (v := .agg [txt (yd gk), .cv cn]) rfl (by rw [mf]; simp only [go_sem, seval, hs, h13]; exact By qB rfl) ?_
    refine uy (v := .cv (.sl 2 [[.sc (.string ⟨(yd gk).toArray⟩), cn]] true)) rfl (by rw [Hh]; simp only [go_sem, seval, hs, hmk2]) ?_
    simp only [ol]
    have hx44 : ∀ s' : List VV, s'.getD 41 .undef = va → s'.getD 43 .undef = .cv (.sl 2 [[.sc (.string ⟨(yd gk).toArray⟩), cn]] true) → ∃ v' h', ak g3 (ad s') (.app 2 40 [(.sc (.string ⟨#[]⟩)), (.sc (.slice none 0 0))] (.t 41) (.t 43)) = some (v', h') ∧ ej h' 2 (elsA ++ [[.sc (.string ⟨(yd gk).toArray⟩), cn]]) v' ∧ KG 2 g3 h' := by
      intro s' e1 e2
      exact Sh A3 (by simp only [Lm, e1]) (by simp only [Lm, e2, Xe]) (by simp only [List.length_singleton]; omega) (by simp only [List.length_singleton]; omega)
    obtain ⟨va', g4, e44, A4, kg4⟩ := hx44 ((((s.set 40 (.ptr tb 0)).set 41 va).set 42 (.agg [txt (yd gk), .cv cn])).set 43 (.cv (.sl 2 [[.sc (.string ⟨(yd gk).toArray⟩), cn]] true))) (by simp only [go_sem, seval, hs]) (by simp only [go_sem, seval, hs])
    have l3 := kg4.box j3
    have lt := kg4.box jt
    refine Gy (v := va') (h' := g4) rfl e44 ⟨l3, lt⟩ ?_
    have P4 := P3.kg kg4 (by decide)
    refine wz (v := .ptr tb 0) rfl ⟨l3, lt⟩ (fun g hg => by rw [mf]; simp only [go_sem, seval, hs, h3]; exact bc hg.1 rfl) ?_
    refine pp (v := .ptr tb 0) rfl (by rw [yz]; simp only [go_sem, seval, hs]) ?_
    refine pp (v := .ptr tb 0) rfl (by rw [tl]; simp only [go_sem, seval, hs]) ?_
    refine wz (v := vp) rfl ⟨l3, lt⟩ (fun g hg => by rw [mf]; simp only [go_sem, seval, hs]; exact bc hg.2 rfl) ?_
    refine pp (v := .cv cy) rfl (by simp only [ak]; simp only [go_sem, seval, hs, h11]) ?_
    refine wz (v := .cv (.sl 1 [[cy]] true)) rfl ⟨l3, lt⟩ (fun g hg => by rw [Hh]; simp only [go_sem, seval, hs, hmk1]) ?_
    simp only [ol]
    obtain ⟨vp', g5, e51, P5, kg5⟩ := Sh (by_ := 24) (zero := [(.sc (.slice none 0 0))]) (x := .t 48) (y := .t 50) (new := [[cy]]) (s := (((((((((((s.set 40 (.ptr tb 0)).set 41 va).set 42 (.agg [txt (yd gk), .cv cn])).set 43 (.cv (.sl 2 [[.sc (.string ⟨(yd gk).toArray⟩), cn]] true))).set 44 va').set 45 (.ptr tb 0)).set 46 (.ptr tb 0)).set 47 (.ptr tb 0)).set 48 vp).set 49 (.cv cy)).set 50 (.cv (.sl 1 [[cy]] true)))) P4 (by simp only [go_sem, seval, hs]) (by simp only [go_sem, seval, hs]) (by simp only [List.length_singleton]; omega) (by simp only [List.length_singleton]; omega)
    have m3 := kg5.box l3
    have mt := kg5.box lt
    have m8 := kg5.box (kg4.box j8)
    have A5 := A4.kg kg5 (by decide)
    refine Gy (v := vp') (h' := g5) rfl e51 ⟨m3, mt⟩ ?_
    simp only [ol]
    have st8 := zf (v := va') A5.vf_cell m8 (show 0 < 1 by decide)
    have o8 : (g5.set (N + 4) (.box [va'] false))[N + 4]? = some (.box [va'] false) := List.getElem?_set_self (ey m8)
    have o3 : (g5.set (N + 4) (.box [va'] false))[N]? = some (.box [.ptr tb 0] false) := by rw [List.getElem?_set_ne (by omega)]; exact m3
    have ot : (g5.set (N + 4) (.box [va'] false))[tb]? = some (.box [vp] false) := by rw [List.getElem?_set_ne (by omega)]; exact mt
    refine Gy (v := .undef) (h' := g5.set (N + 4) (.box [va'] false)) rfl (by show stO _ 1 _ _ = _; simp only [go_sem, seval, hs, h8]; exact st8) ⟨o3, ot⟩ ?_
    simp only [XDA, List.drop_succ_cons, List.drop_zero, Bz]
    have A6 := A5.setBox m8 (.box [va'] false)
    have P6 := P5.setBox m8 (.box [va'] false)
    have kz6 : KZ g (g5.set (N + 4) (.box [va'] false)) := (kz1.trans (kz3.trans (kg4.kz.trans kg5.kz))).trans (KZ.setBox g5 m8 _)
    have keep : ∀ j, j < nB → j ≠ N + 4 → ∀ o, g1[j]? = some o → (∀ e gg, o ≠ VO.arr 2 e gg false) → (∀ e gg, o ≠ VO.arr 1 e gg false) → (g5.set (N + 4) (.box [va'] false))[j]? = some o := by
      intro j hj hj4 o ho hn1 hn2
      rw [List.getElem?_set_ne (by omega)]
      exact kg5.2 j o (kg4.2 j o (by rw [same j hj]; exact ho) hn1) hn2
    have bx : ∀ j, j < nB → j ≠ N + 4 → ∀ cells, g1[j]? = some (.box cells false) → (g5.set (N + 4) (.box [va'] false))[j]? = some (.box cells false) := fun j hj hj4 cells ho => keep j hj hj4 _ ho (fun _ _ e => by cases e) (fun _ _ e => by cases e)
    have i4' := bx (N + 1) (by omega) (by omega) _ Lb.i4
    have i6' := bx (N + 2) (by omega) (by omega) _ Lb.i6
    have i7' := bx (N + 3) (by omega) (by omega) _ Lb.i7
    have i9' := bx (N + 5) (by omega) (by omega) _ Lb.i9
    have il' := bx (N + 6) (by omega) (by omega) _ hlb1
    have ip' := keep (N + 7) (by omega) (by omega) _ hp1 (fun _ _ e => by cases e) (fun _ _ e => by cases e)
    generalize g5.set (N + 4) (.box [va'] false) = g6 at *
    have stt := zf (v := vp') P6.vf_cell ot (show 0 < 1 by decide)
    have nt : ∀ {j : Nat}, j ≠ tb → (g6.set tb (.box [vp'] false))[j]? = g6[j]? := fun hj => List.getElem?_set_ne (fun e => hj e.symm)
    have st9 := zf (h := g6.set tb (.box [vp'] false)) (v := vi .i64 (ve (gs ++ [gk]) : Nat)) rfl (by rw [nt (show N + 5 ≠ tb by omega)]; exact i9') (show 0 < 1 by decide)
    have hw : IntKind.i64.wrap (((ve gs : Nat) : Int) + (elsg.length : Int)) = ((ve (gs ++ [gk]) : Nat) : Int) := by
      rw [Kc, IntWalk.i64_in _ (by omega)]; omega
    have l9 : ldO (g6.set tb (.box [vp'] false)) false 1 (.ptr (N + 5) 0) = some (vi .i64 (ve gs : Nat), g6.set tb (.box [vp'] false)) := bc (by rw [nt (by omega)]; exact i9') rfl
    simp only [List.set_cons_zero] at stt st9
    simp only [go_sem, seval, hs, stt, h9, l9, h10, hv2.vf.ln, hw, st9]
    refine ⟨none, .busy, p0, rfl, ?_, rfl, ?_, List.getElem?_set_self ?_, ?_, ?_⟩
    · rw [List.getElem?_set_ne (by omega), nt (by omega)]; exact ip'
    · refine LvB.loop (t := .busy) (p := p0) ?_ htb (by rw [List.getElem?_set_ne (by omega), nt (by omega)]; exact ip') _
      have P7 := (ej.setBox P6 ot (.box [vp'] false)).setBox (by rw [nt (show N + 5 ≠ tb by omega)]; exact i9') (.box [vi .i64 (ve (gs ++ [gk]) : Nat)] false)
      have A7 := (ej.setBox A6 ot (.box [vp'] false)).setBox (by rw [nt (show N + 5 ≠ tb by omega)]; exact i9') (.box [vi .i64 (ve (gs ++ [gk]) : Nat)] false)
      have n9 : ∀ {j : Nat}, j ≠ N + 5 → j ≠ tb → ((g6.set tb (.box [vp'] false)).set (N + 5) (.box [vi .i64 (ve (gs ++ [gk]) : Nat)] false))[j]? = g6[j]? := fun h1 h2 => by rw [List.getElem?_set_ne (fun e => h1 e.symm), nt h2]
      refine ⟨by rw [n9 (by omega) (by omega)]; exact o3, by rw [n9 (by omega) (by omega)]; exact i4', by rw [n9 (by omega) (by omega)]; exact i6', by rw [n9 (by omega) (by omega)]; exact i7', ⟨va', _, by rw [n9 (by omega) (by omega)]; exact o8, A7, ?_⟩, List.getElem?_set_self (by rw [List.length_set]; exact ey i9'), ⟨vp', _, by rw [List.getElem?_set_ne (by omega)]; exact List.getElem?_set_self (ey ot), P7, ?_⟩⟩
      · rw [zq]
        exact a3.snoc ⟨cn, rfl, hcnS⟩
      · rw [List.map_append, ← List.append_assoc]
        exact b3.snoc hy'
    · rw [List.length_set, List.length_set]; exact ey ip'
    · refine (kz6.trans ((KZ.setBox g6 ot _).trans (KZ.setBox _ (i := N + 5) (by rw [nt (by omega)]; exact i9') _))).trans (KZ.setLoop _ (by rw [List.getElem?_set_ne (by omega), nt (by omega)]; exact ip') _)
    · rw [List.getElem?_set_ne (by omega), List.getElem?_set_ne (by omega), nt (by omega)]; exact il'
  rw [bf f79_2.eq_1]
  cases gk with
  | nil =>
    have he : elsg = [] := by cases hR; rfl
    have c : ¬ (0 : Int) < ((elsg.length : Nat) : Int) := by rw [he]; simp
    simp only [go_sem, seval, hs0, hv2.vf.ln, gt_iff_lt, c]
    exact fin _ g2 (by simp only [ae, hs0]) (by simp only [go_sem, seval, k3]) (by simp only [go_sem, seval, k8]) (by simp only [go_sem, seval, k9]) (by simp only [go_sem, seval, hs0]) (by simp only [go_sem, seval, hs0]) (by simp only [go_sem, seval, hs0]) q0 (fun j hj => x0.same j (by omega)) x0.kz (a2.hext x0) (b2.hext x0)
  | cons p gk =>
    obtain ⟨e, p', he, hp', c', rfl, hc'⟩ := hR.get (i := 0) (by simp)
    simp at hp'
    subst hp'
    have c : (0 : Int) < ((elsg.length : Nat) : Int) := by rw [hl, List.length_cons]; omega
    obtain ⟨q, q1, q2, q3, _⟩ := hv2.vf.cell (k := .i64) he
    obtain ⟨q', q4, q5⟩ := q3 0 _ rfl
    have q1' : iaO g2 2 gv (vi .i64 0) = some (q, g2) := q1
    have sB := zf (v := txt p.1) rfl q0 (show 0 < 2 by decide)
    simp only [List.set_cons_zero] at sB
    simp only [go_sem, seval, hs0, hv2.vf.ln, gt_iff_lt, c, q1', q4, q5, sB]
    exact fin _ (g2.set nB (.box [txt p.1, .cv cn] false)) (by simp only [ae, hs0]) (by simp only [go_sem, seval, k3]) (by simp only [go_sem, seval, k8]) (by simp only [go_sem, seval, k9]) (by simp only [go_sem, seval, hs0]) (by simp only [go_sem, seval, hs0]) (by simp only [go_sem, seval, hs0]) (List.getElem?_set_self (ey q0)) (fun j hj => by rw [List.getElem?_set_ne (by omega)]; exact x0.same j (by omega)) (x0.kz.trans (KZ.setBox g2 q0 _)) ((a2.hext x0).setBox q0 _) ((b2.hext x0).setBox q0 _)
open Go Go.Vm
def ip : Nat -> List KV -> List (List KV)
 | 0, _ => []
 | n + 1, l => l.take (od 0 l) :: (if od 0 l = 0 \/ od 0 l = l.length then [] else ip n (l.drop (od 0 l)))
def grp (l : List KV) : List (List KV) := ip (l.length + 1) l
theorem Tq {els : List (List CV)} {kv : List KV} (hR : RowsE els kv) (n : Nat) : RowsE (els.drop n) (kv.drop n) := by
 induction hR generalizing n with
 | nil => simp; exact .nil
 | cons h t ih =>
  cases n with
  | zero => exact .cons h t
  | succ n => exact ih n
theorem LvB.froze {tb N n : Nat} {pg0 : List (List UInt8)} {g g1 : ah} {gs : List (List KV)} (L : LvB tb N n pg0 g gs) (f : Froze g g1) {els : List (List CV)} {v : VV} (hz : gs = [] \/ VZ g 2 els v) (hb : ∀ z' elsB u, ej g z' elsB u -> (2 ≠ z' \/ elsB = [] \/ VZ g 2 els v) -> ej g1 z' elsB u) : LvB tb N n pg0 g1 gs := by
 obtain ⟨va, elsA, a1, a2, a3⟩ := L.i8
 obtain ⟨vp, elsP, b1, b2, b3⟩ := L.it
 refine ⟨f.box' L.i3, f.box' L.i4, f.box' L.i6, f.box' L.i7, ⟨va, elsA, f.box' a1, hb _ _ _ a2 ?_, a3⟩, f.box' L.i9, ⟨vp, elsP, f.box' b1, hb _ _ _ b2 (.inl (by decide)), b3⟩⟩
 rcases hz with rfl | hz
 ·refine .inr (.inl ?_)
  have := a3.len
  exact List.eq_nil_of_length_eq_zero this
 grind
theorem LvB.setLb {tb N n : Nat} {pg0 : List (List UInt8)} {g : ah} {gs : List (List KV)} (L : LvB tb N n pg0 g gs) (htb : tb < N) {cells : List VV} {fr : Bool} (hb : g[N + 6]? = some (.box cells fr)) (o : VO) : LvB tb N n pg0 (g.set (N + 6) o) gs := by
 obtain ⟨va, elsA, a1, a2, a3⟩ := L.i8
 obtain ⟨vp, elsP, b1, b2, b3⟩ := L.it
 have ne : ∀ {j : Nat}, j ≠ N + 6 -> (g.set (N + 6) o)[j]? = g[j]? := fun hj => List.getElem?_set_ne (fun e => hj e.symm)
 exact ⟨by rw [ne (by omega)]; exact L.i3, by rw [ne (by omega)]; exact L.i4, by rw [ne (by omega)]; exact L.i6, by rw [ne (by omega)]; exact L.i7, ⟨va, elsA, by grind, a2.setBox hb o, a3⟩, by rw [ne (by omega)]; exact L.i9, ⟨vp, elsP, by grind, b2.setBox hb o, b3⟩⟩
theorem f96_loop {tb N n : Nat} (htb : tb < N) (hn : n <= 4) {s0 : List VV} (hs0 : s0.length = 63) (k3 : s0.getD 3 .undef = .ptr N 0) (k4 : s0.getD 4 .undef = .ptr (N + 1) 0) (k6 : s0.getD 6 .undef = .ptr (N + 2) 0) (k7 : s0.getD 7 .undef = .ptr (N + 3) 0)
  (k8 : s0.getD 8 .undef = .ptr (N + 4) 0) (k9 : s0.getD 9 .undef = .ptr (N + 5) 0) {pg0 : List (List UInt8)} :
  ∀ (m : Nat) (kvr : List KV) (els : List (List CV)) (v : VV) (gs : List (List KV)) (s : List VV) (g : ah) (Q : Pst), kvr.length < m -> VF g 2 els v -> (gs = [] \/ VZ g 2 els v) -> RowsE els kvr -> LvB tb N n pg0 g gs -> g[N + 7]? = some (.loop [16] f79_0 f79_3 s0 .ready none) -> g[N + 6]? = some (.box [v] false) ->
   s.length = 25 -> s.getD 0 .undef = .yield (N + 7) -> s.getD 1 .undef = .ptr (N + 6) 0 -> pg0.length + gs.length + kvr.length + 1 <= 1000000 -> ve gs + kvr.length <= 1000000 ->
   (∀ s' g', LvB tb N n pg0 g' (gs ++ ip m kvr) -> g'[N + 7]? = some (.loop [16] f79_0 f79_3 s0 .ready none) -> Q .ret ⟨s', g'⟩) -> X F (.loop f96_1) ⟨s, g⟩ Q := by
 intro m
 induction m with
 | zero => intro kvr els v gs s g Q h; omega
 | succ m ih =>
  intro kvr els v gs s g Q hm hv hz hR L hp hlb hs e0 e1 hc1 hc2 hQ
  have hl := hR.len
  obtain ⟨w, g1, w1, w2, fr1, vz1, kz1, hbf⟩ := hv.closZ
  obtain ⟨h43, n43⟩ := Tg w2 hR (by omega)
  have hfl := xg kvr 0
  have htk := Af kvr 0
  have L1 := L.froze fr1 hz hbf
  have hp1 := fr1.loop' hp
  have hlb1 := fr1.box' hlb
  have hgr : ip (m + 1) kvr = kvr.take (od 0 kvr) :: (if od 0 kvr = 0 \/ od 0 kvr = kvr.length then [] else ip m (kvr.drop (od 0 kvr))) := rfl
  generalize hk : od 0 kvr = k at *
  obtain ⟨w9, c9, vz9⟩ := vz1.upto (k := .i64) (n := k) (by omega)
  have hlt : (kvr.take k).length = k := by grind
  obtain ⟨g2, n2, L2, hp2, kz2, hlb2⟩ := Lx htb hn hs0 k3 k4 k6 k7 k8 k9 L1 hp1 vz9 (Bk hR k) (by rw [htk, hlt]) (by omega) (by omega) hlb1
  have vz2 := vz1.kz kz2
  rw [aw, bf f96_1.eq_1]
  simp only [go_sem, seval, hs, e1, im hlb]
  refine ao (h1 := g1) (by simp only [List.map, go_sem, seval, hs]; exact cj w1 rfl) n43 rfl ?_
  simp only [go_sem, seval, hs]
  rw [bf f96_0.eq_1]
  simp only [go_sem, seval, hs, e0, e1, im hlb1, c9]
  refine Eg (id := N + 7) (by simp only [go_sem, seval, hs]) (by simp only [List.map, go_sem, seval, hs]; exact n2) ?_
  by_cases d0 : k = 0
  ·subst d0
   have dz : ((0 : Nat) : Int) = 0 := rfl
   simp only [go_sem, seval, hs, dz]
   grind
  ·have d0' : ¬ ((k : Nat) : Int) = 0 := by omega
   by_cases d1 : k = kvr.length
   ·have d1' : ((k : Nat) : Int) = (els.length : Int) := by omega
    simp only [go_sem, seval, hs, eq_false d0', e1, im hlb2, vz2.vf.ln, eq_true d1']
    grind
   ·have d1' : ¬ ((k : Nat) : Int) = (els.length : Int) := by omega
    obtain ⟨w', c', vz'⟩ := vz2.from_ (k := .i64) (n := k) (by omega)
    have stb := zf (v := w') vz'.cellv hlb2 (show 0 < 1 by decide)
    simp only [List.set_cons_zero] at stb
    have kz3 := KZ.setBox g2 hlb2 (.box [w'] false)
    simp only [go_sem, seval, hs, eq_false d0', e1, im hlb2, vz2.vf.ln, eq_false d1', c', stb]
    refine ih (kvr.drop k) (els.drop k) w' (gs ++ [kvr.take k]) _ _ Q (by grind) (vz'.kz kz3).vf (.inr (vz'.kz kz3)) (Tq hR k) (L2.setLb htb hlb2 _) ?_ (List.getElem?_set_self (ey hlb2)) (by simp_all) (by simp only [go_sem, seval, e0]) (by simp only [go_sem, seval, e1]) ?_ ?_ (fun s' g' a1 a2 => hQ s' g' ?_ a2)
    ·grind
    ·grind
    ·rw [Kc, List.length_drop]; omega
    grind
theorem acw {h l : ah} {i : Nat} : (h ++ l)[h.length + i]? = l[i]? := by
 grind
theorem amy {P : VV -> ah -> Prop} {s : List VV} {h : ah} {a b i j : Nat} {x y : VV} {fa fb : Bool} (ha : s.getD a .undef = .ptr i 0) (hb : s.getD b .undef = .ptr j 0) (hi : h[i]? = some (.box [x] fa)) (hj : h[j]? = some (.box [y] fb))
  (hP : P (.tup [x, y]) h) : RQ [.cell a false 1, .cell b false 1] P .ret ⟨s, h⟩ := by
 refine ⟨trivial, [x, y], ?_, hP⟩
 simp only [jv, xj, ha, hb, hi, hj, List.drop_zero]
 rfl
theorem Su {h : ah} {tb n : Nat} {u vp : VV} {els elsP : List (List CV)} {kv : List KV} {pg0 : List (List UInt8)} (hn : n <= 4) (hv : VF h 2 els u) (hR : RowsE els kv) (ht : h[tb]? = some (.box [vp] false)) (hP : ej h 1 elsP vp) (hE : PgE elsP pg0)
  (hc1 : pg0.length + kv.length + 1 <= 1000000) : Ret F 79 [.ptr tb 0, vi .i64 n, u] h fun v g => ∃ va elsA vp' elsP', v = .tup [va, vb (decide (ve (grp kv) = kv.length))] /\ ej g 2 elsA va /\ RowsE elsA (pz pg0.length (grp kv)) /\ g[tb]? = some (.box [vp'] false) /\ ej g 1 elsP' vp' /\ PgE elsP' (pg0 ++ (grp kv).map (gd n)) := by
 refine eE3 (fn := f79) (n := 63) rfl rfl fun s hs h0 h1 h2 => ?_
 simp only [f79]
 have hl := hR.len
 have htb := ey ht
 simp only [go_sem, seval, hs, h0, h1]
 rw [Yd rfl]
 simp only [go_sem, seval, hs, h1]
 rw [Yd rfl]
 simp only [go_sem, seval, hs, List.append_assoc, List.cons_append, List.nil_append, List.length_append, List.length_cons, List.length_nil]
 have e5 : ∀ l : ah, (h ++ [VO.box [.ptr tb 0] false, .box [vi .i64 n] false, .box [br] false, .box [vb false] false, .box [br] false, .box [vi .i64 0] false])[h.length + 5]? = some (.box [vi .i64 0] false) := fun _ => acw
 have st5 := zf (v := vi .i64 0) rfl (e5 []) (show 0 < 1 by decide)
 have set5 : (h ++ [VO.box [.ptr tb 0] false, .box [vi .i64 n] false, .box [br] false, .box [vb false] false, .box [br] false, .box [vi .i64 0] false]).set (h.length + 5) (.box [vi .i64 0] false) = h ++ [VO.box [.ptr tb 0] false, .box [vi .i64 n] false, .box [br] false, .box [vb false] false, .box [br] false, .box [vi .i64 0] false] := tv (e5 [])
 simp only [List.set_cons_zero] at st5
 rw [set5] at st5
 simp only [go_sem, seval, hs, Nat.zero_add, Nat.reduceAdd, st5, h2]
 have n31 : call F 88 [u] (h ++ [VO.box [.ptr tb 0] false, .box [vi .i64 n] false, .box [br] false, .box [vb false] false, .box [br] false, .box [vi .i64 0] false]) = some (.ret (.func 96 [.ptr (h.length + 6) 0]), h ++ [VO.box [.ptr tb 0] false, .box [vi .i64 n] false, .box [br] false, .box [vb false] false, .box [br] false, .box [vi .i64 0] false, .box [u] false]) := by
  have : Ret F 88 [u] (h ++ [VO.box [.ptr tb 0] false, .box [vi .i64 n] false, .box [br] false, .box [vb false] false, .box [br] false, .box [vi .i64 0] false]) fun v g => v = .func 96 [.ptr (h.length + 6) 0] /\ g = h ++ [VO.box [.ptr tb 0] false, .box [vi .i64 n] false, .box [br] false, .box [vb false] false, .box [br] false, .box [vi .i64 0] false, .box [u] false] := by
   refine eE1 (fn := f88) (n := 4) rfl rfl fun s hs h0 => ?_
   simp only [f88]
   simp only [go_sem, seval, hs, h0]
   rw [Yd hv.cellv]
   simp only [go_sem, seval, hs, List.append_assoc, List.cons_append, List.nil_append, List.length_append, List.length_cons, List.length_nil, Nat.zero_add, Nat.reduceAdd, List.map]
   exact ⟨trivial, trivial⟩
  obtain ⟨v, h', e1, rfl, rfl⟩ := this
  exact e1
 refine ap (by simp only [List.map, go_sem, seval, hs]; exact n31) ?_
 simp only [go_sem, seval, hs]
 generalize hN : h.length = N at *
 generalize hs1 : (((((((s.set 3 (VV.ptr N 0)).set 4 (.ptr (N + 1) 0)).set 6 (.ptr (N + 2) 0)).set 7 (.ptr (N + 3) 0)).set 8 (.ptr (N + 4) 0)).set 9 (.ptr (N + 5) 0)).set 14 u).set 15 (.func 96 [.ptr (N + 6) 0]) = s1
 have a0 : s1.length = 63 := by rw [<- hs1]; simp only [ae, hs]
 have a2 : s1.getD 2 .undef = u := by rw [<- hs1]; simp only [go_sem, seval, h2]
 have a3 : s1.getD 3 .undef = .ptr N 0 := by rw [<- hs1]; simp only [go_sem, seval, hs]
 have a4 : s1.getD 4 .undef = .ptr (N + 1) 0 := by rw [<- hs1]; simp only [go_sem, seval, hs]
 have a6 : s1.getD 6 .undef = .ptr (N + 2) 0 := by rw [<- hs1]; simp only [go_sem, seval, hs]
 have a7 : s1.getD 7 .undef = .ptr (N + 3) 0 := by rw [<- hs1]; simp only [go_sem, seval, hs]
 have a8 : s1.getD 8 .undef = .ptr (N + 4) 0 := by rw [<- hs1]; simp only [go_sem, seval, hs]
 have a9 : s1.getD 9 .undef = .ptr (N + 5) 0 := by rw [<- hs1]; simp only [go_sem, seval, hs]
 have a15 : s1.getD 15 .undef = .func 96 [.ptr (N + 6) 0] := by rw [<- hs1]; simp only [go_sem, seval, hs]
 generalize hg1 : h ++ [VO.box [.ptr tb 0] false, .box [vi .i64 n] false, .box [br] false, .box [vb false] false, .box [br] false, .box [vi .i64 0] false, .box [u] false] = g1
 have gl : g1.length = N + 7 := by rw [<- hg1, List.length_append, hN]; rfl
 have gat : ∀ i o, [VO.box [.ptr tb 0] false, .box [vi .i64 n] false, .box [br] false, .box [vb false] false, .box [br] false, .box [vi .i64 0] false, .box [u] false][i]? = some o -> g1[N + i]? = some o := by
  intro i o ho
  rw [<- hg1, <- hN, acw]; exact ho
 have x1 : HExt h g1 := by rw [<- hg1]; exact ⟨by simp, fun j hj => by rw [List.getElem?_append_left hj]⟩
 have x2 := x1.then (.loop [16] f79_0 f79_3 s1 .ready none)
 have g2at : ∀ i o, g1[i]? = some o -> (g1 ++ [.loop [16] f79_0 f79_3 s1 .ready none])[i]? = some o := fun i o ho => by rw [List.getElem?_append_left (ey ho)]; exact ho
 have hloop : (g1 ++ [.loop [16] f79_0 f79_3 s1 .ready none])[N + 7]? = some (.loop [16] f79_0 f79_3 s1 .ready none) := by rw [<- gl]; exact bk
 have L0 : LvB tb N n pg0 (g1 ++ [.loop [16] f79_0 f79_3 s1 .ready none]) [] :=
  ⟨g2at _ _ (gat 0 _ rfl), g2at _ _ (gat 1 _ rfl), g2at _ _ (gat 2 _ rfl), g2at _ _ (gat 3 _ rfl), ⟨br, [], g2at _ _ (gat 4 _ rfl), ej.nil _ _, .nil⟩, g2at _ _ (gat 5 _ rfl), ⟨vp, elsP, x2.get ht, hP.hext x2, by simpa using hE⟩⟩
 have zd : Ret F 96 [.yield (N + 7), .ptr (N + 6) 0] (g1 ++ [.loop [16] f79_0 f79_3 s1 .ready none]) fun v g' => LvB tb N n pg0 g' (grp kv) /\ g'[N + 7]? = some (.loop [16] f79_0 f79_3 s1 .ready none) := by
  refine eE2 (fn := f96) (n := 25) rfl rfl fun s hs h0 h1 => ?_
  simp only [f96]
  simp only [go_sem, seval]
  refine f96_loop htb hn a0 a3 a4 a6 a7 a8 a9 (kv.length + 1) kv els u [] _ _ _ (by omega) (hv.ext x2) (.inl rfl) hR L0 hloop (g2at _ _ (gat 6 _ rfl)) (by simp only [ae, hs]) h0 h1 (by simp; omega) (by simp [ve]; omega) (fun s' g' b1 b2 => ?_)
  simp only [go_sem, seval]
  exact ⟨by simpa [grp] using b1, b2⟩
 obtain ⟨v42, g3, n42, L3, hp3⟩ := zd
 refine yw (f := 96) (caps := [.ptr (N + 6) 0]) (t := .ready) (p := none) a15 (by rw [gl]; exact n42) (by rw [gl]; exact hp3) (by intro e; cases e) ?_
 rw [gl]
 have hb7 : N + 7 < g3.length := ey hp3
 have L4 := L3.loop htb hp3 (.loop [16] f79_0 f79_3 s1 .exhausted none)
 generalize g3.set (N + 7) (.loop [16] f79_0 f79_3 s1 .exhausted none) = g4 at L4
 obtain ⟨va, elsA, b1, b2, b3⟩ := L4.i8
 obtain ⟨vp', elsP', c1, c2, c3⟩ := L4.it
 have hk9 := L4.i9
 have hk6 := L4.i6
 have hk7 := L4.i7
 simp only [go_sem, seval, Lv]
 refine ug 6 (fun g => g[N + 5]? = some (.box [vi .i64 (ve (grp kv) : Nat)] false)) hk9 rfl rfl ?_
 simp only [List.take_succ_cons, List.take_zero]
 refine uy (v := va) rfl (by rw [mf]; simp only [go_sem, seval, a0, a8]; exact bc b1 rfl) ?_
 refine wz (v := vi .i64 (ve (grp kv) : Nat)) rfl hk9 (fun g hg => by rw [mf]; simp only [go_sem, seval, a0, a9]; exact bc hg rfl) ?_
 refine pp (v := u) rfl (by simp only [ak]; simp only [go_sem, seval, a0, a2]) ?_
 refine pp (v := vi .i64 els.length) rfl (by rw [Ns]; simp only [go_sem, seval, a0]; rw [hv.ln]; rfl) ?_
 refine pp (v := vb (decide (ve (grp kv) = kv.length))) rfl (by rw [Jc]; simp only [go_sem, seval, a0]; rw [<- hl]; simp only [go_sem, seval, Int.ofNat_inj]) ?_
 have s6 := zf (v := va) b2.vf_cell hk6 (show 0 < 1 by decide)
 simp only [List.set_cons_zero] at s6
 refine Gy (v := .undef) (h' := g4.set (N + 2) (.box [va] false)) rfl (by show stO _ 1 _ _ = _; simp only [go_sem, seval, a0, a6]; exact s6) (by rw [List.getElem?_set_ne (by omega)]; exact hk9) ?_
 simp only [XDA, List.drop_succ_cons, List.drop_zero, Bz, ol]
 have s7 := zf (h := g4.set (N + 2) (.box [va] false)) (v := vb (decide (ve (grp kv) = kv.length))) rfl (by rw [List.getElem?_set_ne (show N + 2 ≠ N + 3 by omega)]; exact hk7) (show 0 < 1 by decide)
 simp only [List.set_cons_zero] at s7
 simp only [go_sem, seval, a0, a7, s7]
 have lt6 := ey hk6
 have lt7 := ey hk7
 refine amy (i := N + 2) (j := N + 3) (x := va) (y := vb (decide (ve (grp kv) = kv.length))) (by simp only [go_sem, seval, a6]) (by simp only [go_sem, seval, a7]) (by rw [List.getElem?_set_ne (by omega)]; exact List.getElem?_set_self lt6) (List.getElem?_set_self (by rw [List.length_set]; exact lt7)) ?_
 refine ⟨va, elsA, vp', elsP', rfl, ((b2.setBox hk6 _).setBox (by rw [List.getElem?_set_ne (by omega)]; exact hk7) _), b3, ?_, ((c2.setBox hk6 _).setBox (by rw [List.getElem?_set_ne (by omega)]; exact hk7) _), c3⟩
 rw [List.getElem?_set_ne (by omega), List.getElem?_set_ne (by omega)]
 exact c1
open Go Go.Vm
theorem Bf : ∀ (m : Nat) (l : List KV), (ip m l).length <= l.length + 1
 | 0, _ => by simp [ip]
 | m + 1, l => by
  have hf := xg l 0
  rw [ip]
  by_cases h : od 0 l = 0 \/ od 0 l = l.length
  ·rw [if_pos h]; simp
  ·rw [if_neg h, List.length_cons]
   have := Bf m (l.drop (od 0 l))
   rw [List.length_drop] at this
   omega
theorem Un (l : List KV) : (grp l).length <= l.length + 1 := Bf _ l
def Sn : Nat -> Nat -> List (List UInt8) -> List KV -> Option (List (List UInt8))
 | 0, _, _, _ => none
 | f + 1, n, pg, l => if ve (grp l) = l.length then (if (grp l).length = 1 then some (pg ++ (grp l).map (gd n)) else Sn f (n + 1) (pg ++ (grp l).map (gd n)) (pz pg.length (grp l))) else none
def ed (l : List KV) : Option (List (List UInt8)) := if nc l = true /\ l.length <= 5000 then Sn 5 0 [] l else none
theorem f59_loop {tb : Nat} : ∀ (f n : Nat) (pg : List (List UInt8)) (l : List KV) (els elsP : List (List CV)) (u vp : VV) (s : List VV) (h : ah) (Q : Pst), n + f = 5 -> VF h 2 els u -> RowsE els l -> h[tb]? = some (.box [vp] false) -> ej h 1 elsP vp -> PgE elsP pg ->
  s.length = 41 -> s.getD 0 .undef = u -> s.getD 4 .undef = .ptr tb 0 -> s.getD 5 .undef = vi .i64 n -> l.length <= 5000 + n -> pg.length <= n * 5010 ->
  (Sn f n pg l = none -> ∀ s' h', s'.length = 41 -> Q (.exit 0) ⟨s', h'⟩) -> (∀ pg' s' h' vp' elsP', Sn f n pg l = some pg' -> s'.length = 41 -> s'.getD 2 .undef = vp' -> s'.getD 3 .undef = vb true -> ej h' 1 elsP' vp' -> PgE elsP' pg' -> Q .ret ⟨s', h'⟩) -> X F (.loop f59_1) ⟨s, h⟩ Q := by
 intro f
 induction f with
 | zero =>
  intro n pg l els elsP u vp s h Q hn hv hR ht hP hE hs e0 e4 e5 hb1 hb2 hN hS
  have c : ¬ ((n : Nat) : Int) <= 4 := by omega
  rw [aw, bf f59_1.eq_1]
  simp only [go_sem, seval, hs, e5, c]
  exact hN rfl _ _ (by simp only [ae, hs])
 | succ f ih =>
  intro n pg l els elsP u vp s h Q hn hv hR ht hP hE hs e0 e4 e5 hb1 hb2 hN hS
  have c : ((n : Nat) : Int) <= 4 := by omega
  have hn4 : n * 5010 <= 20040 := by omega
  obtain ⟨v, g, n23, va, elsA, vp', elsP', rfl, q1, q2, q3, q4, q5⟩ := Su (n := n) (by omega) hv hR ht hP hE (by omega)
  have hg := Un l
  have hA := q2.len
  rw [om] at hA
  rw [aw, bf f59_1.eq_1]
  simp only [go_sem, seval, hs, e5, c, e4, e0]
  refine ap (by simp only [List.map, go_sem, seval, hs, e4, e5, e0]; exact n23) ?_
  simp only [Sn] at hN hS
  by_cases d : ve (grp l) = l.length
  ·simp only [eq_true d, if_true] at hN hS
   by_cases d1 : (grp l).length = 1
   ·simp only [eq_true d1, if_true] at hN hS
    have d1' : ((elsA.length : Nat) : Int) = 1 := by omega
    simp only [go_sem, seval, hs, d, q1.lnO', d1', e4, im q3]
    refine hS _ _ _ _ _ rfl (by simp only [ae, hs]) (by simp only [go_sem, seval, hs]) (by simp only [go_sem, seval, hs]) q4 q5
   ·simp only [eq_false d1, if_false] at hN hS
    have d1' : ¬ ((elsA.length : Nat) : Int) = 1 := by omega
    have hw : IntKind.i64.wrap (((n : Nat) : Int) + 1) = ((n + 1 : Nat) : Int) := by rw [IntWalk.i64_in _ (by omega)]; omega
    simp only [go_sem, seval, hs, d, q1.lnO', d1', e5, hw]
    refine ih (n + 1) _ _ elsA elsP' va vp' _ _ Q (by omega) q1.vf q2 q3 q4 q5 (by simp only [ae, hs]) (by simp only [go_sem, seval, hs]) (by simp only [go_sem, seval, e4]) (by simp only [go_sem, seval, hs]) (by rw [om]; omega) ?_ hN hS
    rw [List.length_append, List.length_map]; omega
  ·simp only [eq_false d, if_false] at hN hS
   simp only [go_sem, seval, hs, d]
   exact hN trivial _ _ (by simp only [ae, hs])
theorem Sx {u : VV} {els : List (List CV)} {l : List KV} (hS : SlV 2 els u) (hR : RowsE els l) (hl : l.length ≤ 9223372036854775807) : Ret F 59 [u] [] fun v g => match ed l with
    | none => v = .tup [br, vb false]
    | some pg => ∃ vp elsP, v = .tup [vp, vb true] ∧ ej g 1 elsP vp ∧ PgE elsP pg := by
  refine eE1 (fn := f59) (n := 41) rfl rfl fun s hs h0 => ?_
  simp only [f59]
  obtain ⟨h15, n15⟩ := Ra hS hR hl
  have hlen := hR.len
  have hcl : cg ([] : ah) [u] = some ([u], []) := cj (by rcases hS with ⟨rfl, _⟩ | ⟨_, rfl⟩ <;> rfl) rfl
  simp only [go_sem, seval, hs]
  rw [bf f59_2.eq_1]
  simp only [go_sem, seval, hs]
  rw [bf f59_0.eq_1]
  simp only [go_sem, seval, hs, h0]
  refine ao (h1 := []) (by simp only [List.map, go_sem, seval, hs, h0]; exact hcl) n15 rfl ?_
  cases hr : nc l with
  | false =>
    have : ed l = none := by unfold ed; rw [if_neg (by rw [hr]; simp)]
    rw [this]
    simp only [go_sem, seval, hs]
  | true =>
    by_cases d : l.length ≤ 5000
    · have hb : ed l = Sn 5 0 [] l := by unfold ed; rw [if_pos ⟨hr, d⟩]
      rw [hb]
      have d' : ¬ ((els.length : Nat) : Int) > 5000 := by omega
      simp only [go_sem, seval, hs, hS.ln, d', h0]
      have bxa : bxO [] 1 (VV.agg [VV.cv (CV.sc (Value.slice none 0 0))]) = some (.ptr 0 0, [.box [br] false]) := rfl
      simp only [go_sem, Nat.reduceLT, Nat.reduceEqDiff, reduceCtorEq, Int.reduceLT, Int.reduceEq, hs, bxa]
      refine f59_loop (tb := 0) 5 0 [] l els [] u br _ _ _ rfl (.inl hS) hR rfl (ej.nil _ _) .nil (by simp only [ae, hs]) (by simp only [go_sem, Nat.reduceLT, Nat.reduceEqDiff, reduceCtorEq, Int.reduceLT, Int.reduceEq, h0]) (by simp only [go_sem, Nat.reduceLT, Nat.reduceEqDiff, reduceCtorEq, Int.reduceLT, Int.reduceEq, hs]) (by simp only [go_sem, Nat.reduceLT, Nat.reduceEqDiff, reduceCtorEq, Int.reduceLT, Int.reduceEq, hs]; rfl) (by omega) (by simp) (fun hn s' h' a1 => ?_) (fun pg' s' h' vp' elsP' hsome a0 a1 a2 a3 a4 => ?_)
      · rw [hn]
        simp only [go_sem, seval, a1]
      · rw [hsome]
        simp only [go_sem, seval, a0, a1, a2]
        exact ⟨vp', elsP', rfl, a3, a4⟩
    · have d' : ((els.length : Nat) : Int) > 5000 := by omega
      have : ed l = none := by unfold ed; rw [if_neg (by omega)]
      rw [this]
      simp only [go_sem, seval, hs, hS.ln, d', h0]
open Go Go.Vm
theorem mid {a b : IR} {st : St} {Q : Pst} {P : St -> Prop} (h1 : X F a st fun o st' => o = .norm /\ P st') (h2 : ∀ st', P st' -> X F b st' Q) : X F a st (K F b Q) := by
 obtain ⟨o, st', e, rfl, hP⟩ := h1
 exact ⟨.norm, st', e, h2 st' hP⟩
theorem Kb (g : List KV) (gs : List (List KV)) : ve (g :: gs) = g.length + ve gs := by simp [ve]
open Go Go.Vm
theorem aio {h : ah} {elsP : List (List CV)} {vp : VV} {t : Bool} (hP : ej h 1 elsP vp) : ∃ w1, av h (.tup [vp, vb t]) = some (.tup [w1, vb t]) /\ SlV 1 elsP w1 := by
 obtain ⟨w1, h1, c1, s1, _⟩ := hP.vf.closZ
 refine ⟨w1, ?_, s1⟩
 have : cg h [vp, vb t] = some ([w1, vb t], h1) := cj c1 (dv rfl)
 simp only [av, this, Option.map]
def alo (r : Option (List (List UInt8))) (w : VV) : Prop := match r with
 | none => w = .tup [br, vb false]
 | some pg => ∃ x elsP, w = .tup [x, vb true] /\ SlV 1 elsP x /\ PgE elsP pg
theorem Dm {u : VV} {els : List (List CV)} {l : List KV} (hS : SlV 2 els u) (hR : RowsE els l) (hl : l.length <= 9223372036854775807) : Cg F 59 [u] (alo (ed l)) := by
 obtain ⟨v, g, n1, q⟩ := Sx hS hR hl
 cases hb : ed l with
 | none =>
  rw [hb] at q
  have q' : v = .tup [br, vb false] := q
  subst q'
  exact ⟨_, g, n1, .tup [br, vb false], rfl, rfl⟩
 | some pg =>
  rw [hb] at q
  obtain ⟨vp, elsP, rfl, q1, q2⟩ := q
  obtain ⟨w, c1, c2⟩ := aio (t := true) q1
  exact ⟨_, g, n1, _, c1, w, elsP, rfl, c2, q2⟩
open Go Go.Vm
theorem Mc {α : Type} {a b : List α} {i : Nat} {x y : α} (ha : a[i]? = some x) (hb : b[i]? = some y) : (a.drop i = b.drop i) ↔ (x = y /\ a.drop (i + 1) = b.drop (i + 1)) := by
 obtain ⟨la, rfl⟩ := List.getElem?_eq_some_iff.1 ha
 obtain ⟨lb, rfl⟩ := List.getElem?_eq_some_iff.1 hb
 rw [List.drop_eq_getElem_cons la, List.drop_eq_getElem_cons lb, List.cons.injEq]
section
variable {a b : List (List UInt8)} {ea eb : List (List CV)} {u w : VV}
theorem f83_loop (ha : PgE ea a) (hb : PgE eb b) (hu : SlV 1 ea u) (hw : SlV 1 eb w) (hl : a.length = b.length) (hn : a.length <= 1000000) : ∀ (r i : Nat) (s : List VV) (h : ah) (Q : Pst), i + r = a.length -> s.length = 32 -> s.getD 2 .undef = .func 81 [] -> s.getD 1 .undef = w -> s.getD 15 .undef = u -> s.getD 16 .undef = vi .i64 a.length -> s.getD 17 .undef = vi .i64 i ->
  (a.drop i = b.drop i -> ∀ s', s'.length = 32 -> Q (.exit 0) ⟨s', h⟩) -> (a.drop i ≠ b.drop i -> ∀ s', s'.length = 32 -> s'.getD 6 .undef = vb false -> Q .ret ⟨s', h⟩) -> X F (.loop f83_2) ⟨s, h⟩ Q := by
 intro r
 induction r with
 | zero =>
  intro i s h Q hi hs e2 e1 e15 e16 e17 hY hN
  have c : ¬ ((i : Nat) : Int) < (a.length : Int) := by omega
  rw [aw, bf f83_2.eq_1]
  simp only [go_sem, seval, hs, e17, e16, c]
  rw [bf f83_1.eq_1]
  simp only [go_sem, seval, hs]
  refine hY ?_ _ (by simp only [ae, hs])
  rw [List.drop_eq_nil_of_le (by omega), List.drop_eq_nil_of_le (by omega)]
 | succ r ih =>
  intro i s h Q hi hs e2 e1 e15 e16 e17 hY hN
  have c : ((i : Nat) : Int) < (a.length : Int) := by omega
  obtain ⟨ca, xa, a1, a2, a3⟩ := ha.get (i := i) (by omega)
  obtain ⟨cb, xb, b1, b2, b3⟩ := hb.get (i := i) (by omega)
  have ia : iaO h 1 u (vi .i64 (i : Int)) = some (.rptr [ca], h) := hu.ia (by omega) (by rw [Int.toNat_natCast]; exact a1)
  have ib : iaO h 1 w (vi .i64 (i : Int)) = some (.rptr [cb], h) := hw.ia (by omega) (by rw [Int.toNat_natCast]; exact b1)
  have la : ldO h false 1 (.rptr [ca]) = some (.cv ca, h) := gi
  have lb : ldO h false 1 (.rptr [cb]) = some (.cv cb, h) := gi
  have hwr : IntKind.i64.wrap ((i : Int) + 1) = ((i + 1 : Nat) : Int) := by rw [IntWalk.i64_in _ (by omega)]; omega
  rw [aw, bf f83_2.eq_1]
  simp only [go_sem, seval, hs, e17, e16, c]
  rw [bf f83_1.eq_1]
  simp only [go_sem, seval, hs, e17, e15, e1, e2, ia, ib, la, lb]
  refine Bg (by simp only [go_sem, seval, hs]) (by simp only [List.map, go_sem, seval, hs]; exact a3.clos (b3.clos rfl)) (sb a3 b3) rfl ?_
  by_cases d : xa = xb
  ·simp only [go_sem, seval, hs, d, e17, hwr]
   refine ih (i + 1) _ _ Q (by omega) (by simp only [ae, hs]) (by simp only [go_sem, seval, e2]) (by simp only [go_sem, seval, e1]) (by simp only [go_sem, seval, e15]) (by simp only [go_sem, seval, e16]) (by simp only [go_sem, seval, hs]) (fun hh => hY ((Mc a2 b2).2 ⟨d, hh⟩)) (fun hh => hN (fun e => hh ((Mc a2 b2).1 e).2))
  ·simp only [go_sem, seval, hs, d]
   exact hN (fun e => d ((Mc a2 b2).1 e).1) _ (by simp only [ae, hs]) (by simp only [go_sem, seval, hs])
theorem ajk (ha : PgE ea a) (hb : PgE eb b) (hu : SlV 1 ea u) (hw : SlV 1 eb w) (hn : a.length <= 1000000) : ∃ h', call F 83 [u, w, .func 81 []] [] = some (.ret (vb (decide (a = b))), h') := by
 have : Ret F 83 [u, w, .func 81 []] [] fun v h' => v = vb (decide (a = b)) := by
  refine eE3 (fn := f83) (n := 32) rfl rfl fun s hs h0 h1 h2 => ?_
  simp only [f83]
  have hal := ha.len
  have hbl := hb.len
  simp only [go_sem, seval, hs]
  rw [bf f83_0.eq_1]
  by_cases c : a.length = b.length
  ·have c1 : ¬ ((ea.length : Nat) : Int) ≠ (eb.length : Int) := by omega
   simp only [go_sem, Nat.reduceLT, Nat.reduceEqDiff, reduceCtorEq, Int.reduceLT, Int.reduceEq, hs, h0, h1, hu.ln, hw.ln, c1]
   refine f83_loop ha hb hu hw c hn a.length 0 _ _ _ (by omega) (by simp only [ae, hs]) (by simp only [go_sem, Nat.reduceLT, Nat.reduceEqDiff, reduceCtorEq, Int.reduceLT, Int.reduceEq, h2]) (by simp only [go_sem, Nat.reduceLT, Nat.reduceEqDiff, reduceCtorEq, Int.reduceLT, Int.reduceEq, h1]) (by simp only [go_sem, Nat.reduceLT, Nat.reduceEqDiff, reduceCtorEq, Int.reduceLT, Int.reduceEq, hs]) (by simp only [go_sem, Nat.reduceLT, Nat.reduceEqDiff, reduceCtorEq, Int.reduceLT, Int.reduceEq, hs, hal]) (by simp only [go_sem, Nat.reduceLT, Nat.reduceEqDiff, reduceCtorEq, Int.reduceLT, Int.reduceEq, hs]; rfl) (fun hh s' a1 => ?_) (fun hh s' a1 a2 => ?_)
   ·simp only [go_sem, seval, a1]
    exact congrArg vb (decide_eq_true (by simpa using hh)).symm
   ·simp only [go_sem, seval, a1, a2]
    exact congrArg vb (decide_eq_false (by simpa using hh)).symm
  ·have c1 : ((ea.length : Nat) : Int) ≠ (eb.length : Int) := by omega
   simp only [go_sem, seval, hs, h0, h1, hu.ln, hw.ln, c1]
   exact congrArg vb (decide_eq_false (fun e => c (congrArg List.length e))).symm
 obtain ⟨v, h', n1, rfl⟩ := this
 exact ⟨h', n1⟩
end
open Go Go.Vm
def ni : List (List UInt8) -> List KV -> Nat × List KV
 | [], acc => (0, acc)
 | b :: r, acc => if (wt b).2.2 ≠ 0 then ((wt b).2.2, []) else ni r (if (wt b).1 = 0 then acc ++ (wt b).2.1 else acc)
def wh (pg : List (List UInt8)) : List KV × Nat := if (ni pg []).1 ≠ 0 then ([], (ni pg []).1) else if ed (ni pg []).2 = some pg then ((ni pg []).2, 0) else ([], 11)
theorem Ph : ∀ (f n : Nat) (pg : List (List UInt8)) (l : List KV) (p : List (List UInt8)), n + f = 5 -> l.length <= 5000 + n -> pg.length <= n * 5010 -> Sn f n pg l = some p -> p.length <= 25050
 | 0, _, _, _, _, _, _, _, h => by cases h
 | f + 1, n, pg, l, p, hn, h1, h2, h => by
  have hg := Un l
  have hp : (pg ++ (grp l).map (gd n)).length <= (n + 1) * 5010 := by grind
  rw [Sn] at h
  split at h
  ·split at h
   ·grind
   ·exact Ph f (n + 1) _ _ p (by omega) (by rw [om]; omega) hp h
  ·cases h
theorem Qe {l : List KV} {p : List (List UInt8)} (h : ed l = some p) : p.length <= 1000000 := by
 unfold ed at h
 split at h
 ·rename_i hh
  have := Ph 5 0 [] l p rfl (by omega) (by simp) h
  omega
 ·cases h
theorem RowsE.app' {l m : List (List CV)} {k j : List KV} (h : RowsE l k) (h2 : RowsE m j) : RowsE (l ++ m) (k ++ j) := by
 induction h with
 | nil => exact h2
 | cons h _ ih => exact .cons h ih
theorem a14 {acc i r n e d D : Nat} (hac : acc <= 255 * i) (hi : i + (r + 1) = n) (hn : n <= 1000000) (hl : e = acc) (hld : d = D) (hdl : D <= 255) : acc <= 255 * (i + 1) /\ (e + d) * 40 <= 35184372088832 /\ e + d <= 35184372088832 /\ acc + D <= 255 * (i + 1) /\ i + 1 + r = n := ⟨by omega, by omega, by omega, by omega, by omega⟩
section
variable {pg : List (List UInt8)} {ep : List (List CV)} {u : VV}
theorem f64_loop (hp : PgE ep pg) (hu : SlV 1 ep u) (hn : pg.length <= 1000000) (hb : ∀ b ∈ pg, b.length <= 1000000) : ∀ (r i : Nat) (acc : List KV) (els : List (List CV)) (v : VV) (s : List VV) (h : ah) (Q : Pst), i + r = pg.length -> ej h 2 els v -> RowsE els acc -> acc.length <= 255 * i ->
  s.length = 47 -> s.getD 0 .undef = u -> s.getD 4 .undef = v -> s.getD 12 .undef = u -> s.getD 13 .undef = vi .i64 pg.length -> s.getD 14 .undef = vi .i64 i ->
  ((ni (pg.drop i) acc).1 = 0 -> ∀ s' h' els' v', s'.length = 47 -> s'.getD 0 .undef = u -> s'.getD 4 .undef = v' -> ej h' 2 els' v' -> RowsE els' (ni (pg.drop i) acc).2 -> (ni (pg.drop i) acc).2.length <= 255 * pg.length -> Q (.exit 0) ⟨s', h'⟩) ->
  ((ni (pg.drop i) acc).1 ≠ 0 -> ∀ s' h', s'.length = 47 -> s'.getD 2 .undef = br -> s'.getD 3 .undef = vi .u16 ((ni (pg.drop i) acc).1 : Nat) -> Q .ret ⟨s', h'⟩) -> X F (.loop f64_2) ⟨s, h⟩ Q := by
 intro r
 induction r with
 | zero =>
  intro i acc els v s h Q hi hv hR hac hs e0 e4 e12 e13 e14 hY hN
  have c : ¬ ((i : Nat) : Int) < (pg.length : Int) := by omega
  rw [aw, bf f64_2.eq_1]
  simp only [go_sem, seval, hs, e14, e13, c]
  rw [bf f64_0.eq_1]
  simp only [go_sem, seval, hs]
  have hd : pg.drop i = [] := List.drop_eq_nil_of_le (by omega)
  rw [hd] at hY
  refine hY rfl _ _ els v (by simp only [ae, hs]) (by simp only [go_sem, seval, e0]) (by simp only [go_sem, seval, e4]) hv hR ?_
  have : i = pg.length := by omega
  rw [<- this]; exact hac
 | succ r ih =>
  intro i acc els v s h Q hi hv hR hac hs e0 e4 e12 e13 e14 hY hN
  have c : ((i : Nat) : Int) < (pg.length : Int) := by omega
  have hpl := hp.len
  obtain ⟨ca, xa, a1, a2, a3⟩ := hp.get (i := i) (by omega)
  have hxl : xa.length <= 1000000 := hb xa (List.mem_of_getElem? a2)
  have ia : iaO h 1 u (vi .i64 (i : Int)) = some (.rptr [ca], h) := hu.ia (by omega) (by rw [Int.toNat_natCast]; exact a1)
  have la : ldO h false 1 (.rptr [ca]) = some (.cv ca, h) := gi
  have hwr : IntKind.i64.wrap ((i : Int) + 1) = ((i + 1 : Nat) : Int) := by rw [IntWalk.i64_in _ (by omega)]; omega
  obtain ⟨v24, h24, n24, w, r24, eld, x, rfl, sd, hRd⟩ := Rl a3 hxl
  have hd : pg.drop i = xa :: pg.drop (i + 1) := by
   obtain ⟨la, rfl⟩ := List.getElem?_eq_some_iff.1 a2
   rw [List.drop_eq_getElem_cons la]
  have hr : ni (pg.drop i) acc = if (wt xa).2.2 ≠ 0 then ((wt xa).2.2, []) else ni (pg.drop (i + 1)) (if (wt xa).1 = 0 then acc ++ (wt xa).2.1 else acc) := by rw [hd]; rfl
  have hdl := ab6 xa
  have hde := ahr xa
  generalize wt xa = D at *
  have hl := hR.len
  have hld := hRd.len
  obtain ⟨hac2, hz1, hz2, hz3', hz4⟩ := a14 hac hi hn hl hld hdl
  have hz3 : (acc ++ D.2.1).length <= 255 * (i + 1) := by rw [List.length_append]; exact hz3'
  rw [hr] at hY hN
  rw [aw, bf f64_2.eq_1]
  simp only [go_sem, seval, hs, e14, e13, c]
  rw [bf f64_0.eq_1]
  simp only [go_sem, seval, hs, e14, e12, ia, la]
  refine ao (h1 := h) (by simp only [List.map, go_sem, seval, hs]; exact a3.clos rfl) n24 r24 ?_
  simp only [go_sem, seval, hs]
  rw [bf f64_1.eq_1]
  by_cases d : D.2.2 = 0
  ·have d' : ¬ ((D.2.2 : Nat) : Int) ≠ 0 := by omega
   have d2 : ¬ (D.2.2 ≠ 0) := by omega
   simp only [if_neg d2] at hY hN
   simp only [go_sem, seval, hs, d']
   by_cases d3 : D.1 = 0
   ·have d4 : ((D.1 : Nat) : Int) = 0 := by omega
    simp only [if_pos d3] at hY hN
    simp only [go_sem, seval, hs, d4, e4]
    refine Pn hv (by simp only [go_sem, seval, hs, e4]) (by simp only [go_sem, seval, hs]; exact sd.src) hz1 hz2 (fun v' h' hv' kg => ?_)
    simp only [go_sem, seval, hs, e14, hwr]
    refine ih (i + 1) _ _ v' _ _ Q hz4 hv' (hR.app' hRd) hz3 (by simp only [ae, hs]) (by simp only [go_sem, seval, e0]) (by simp only [go_sem, seval, hs]) (by simp only [go_sem, seval, e12]) (by simp only [go_sem, seval, e13]) (by simp only [go_sem, seval, hs]) hY hN
   ·have d4 : ¬ ((D.1 : Nat) : Int) = 0 := by omega
    simp only [if_neg d3] at hY hN
    simp only [go_sem, seval, hs, d4, e4, e14, hwr]
    refine ih (i + 1) _ _ v _ _ Q hz4 hv hR hac2 (by simp only [ae, hs]) (by simp only [go_sem, seval, e0]) (by simp only [go_sem, seval, e4]) (by simp only [go_sem, seval, e12]) (by simp only [go_sem, seval, e13]) (by simp only [go_sem, seval, hs]) hY hN
  ·have d' : ((D.2.2 : Nat) : Int) ≠ 0 := by omega
   simp only [if_pos (show D.2.2 ≠ 0 from d)] at hY hN
   simp only [go_sem, seval, hs, d']
   exact hN d _ _ (by simp only [ae, hs]) (by simp only [go_sem, seval, hs]) (by simp only [go_sem, seval, hs])
def agl (pg : List (List UInt8)) (w : VV) : Prop := ∃ x els, w = .tup [x, vi .u16 ((wh pg).2 : Nat)] /\ SlV 2 els x /\ RowsE els (wh pg).1
theorem Za (hp : PgE ep pg) (hu : SlV 1 ep u) (hn : pg.length <= 1000000) (hb : ∀ b ∈ pg, b.length <= 1000000) : Cg F 64 [u] (agl pg) := by
 have : Ret F 64 [u] [] fun v g => ∃ w, av g v = some w /\ agl pg w := by
  refine bj (fn := f64) rfl ?_
  simp only [f64]
  generalize hs0 : ([u] ++ List.replicate _ VV.undef : List VV) = s
  have hs : s.length = 47 := by grind
  have h0 : s.getD 0 .undef = u := by grind
  clear hs0
  have hpl := hp.len
  have bad : ∀ (h : ah) (e : Nat), wh pg = ([], e) -> ∃ w, av h (.tup [br, vi .u16 (e : Nat)]) = some w /\ agl pg w := fun h e he => ⟨_, rfl, br, [], by rw [he], .nil, by rw [he]; exact .nil⟩
  simp only [go_sem, Nat.reduceLT, Nat.reduceEqDiff, reduceCtorEq, Int.reduceLT, Int.reduceEq, hs, h0, hu.ln]
  refine f64_loop hp hu hn hb pg.length 0 [] [] br _ _ _ (by omega) (ej.nil _ _) .nil (by simp) (by grind) (by grind) (by grind) (by grind) (by grind) (by grind) (fun hh s' h' els' v' a1 a0 a2 a3 a4 a5 => ?_) (fun hh s' h' a1 a2 a3 => ?_)
  ·rw [List.drop_zero] at hh a4 a5
   obtain ⟨w, h2, c1, c2, _, vz, _⟩ := a3.vf.closZ
   obtain ⟨v13, h13, n13, w13, r13, hB⟩ := Dm c2 a4 (by omega)
   simp only [go_sem, seval, a1, a2]
   refine ao (h1 := h2) (by simp only [List.map, go_sem, seval, a1, a2]; exact cj c1 rfl) n13 r13 ?_
   cases hbd : ed (ni pg []).2 with
   | none =>
    rw [hbd] at hB
    have hB' : w13 = .tup [br, vb false] := hB
    subst hB'
    simp only [go_sem, seval, a1]
    refine bad _ 11 ?_
    unfold wh; grind
   | some p2 =>
    rw [hbd] at hB
    obtain ⟨x, elsB, rfl, sx, pE⟩ := hB
    have hp2 : p2.length <= 1000000 := Qe hbd
    obtain ⟨h25, n25⟩ := ajk pE hp sx hu hp2
    simp only [go_sem, seval, a1, a0]
    refine ao (h1 := h2) (by simp only [List.map, go_sem, seval, a1, a0]; exact sx.clos (hu.clos rfl)) n25 rfl ?_
    by_cases d : p2 = pg
    ·have hr : wh pg = ((ni pg []).2, 0) := by unfold wh; grind
     obtain ⟨w2, e1, e2⟩ := vz.clos
     simp only [go_sem, seval, a1, a2, d]
     refine ⟨.tup [w2, vi .u16 0], ?_, w2, els', by rw [hr]; rfl, e2, by grind⟩
     have : cg h2 [v', vi .u16 0] = some ([w2, vi .u16 0], h2) := cj e1 (dv rfl)
     simp only [av, this, Option.map]
    ·simp only [go_sem, seval, a1, d]
     refine bad _ 11 ?_
     unfold wh; grind
  ·rw [List.drop_zero] at hh a3
   simp only [go_sem, seval, a1, a2, a3]
   refine bad _ _ ?_
   unfold wh; grind
 obtain ⟨v, h', n1, w, c1, c2⟩ := this
 exact ⟨v, h', n1, w, c1, c2⟩
end
open Go Go.Vm
theorem ae2 : grp [] = [[]] := rfl
theorem Vb : ed [] = some [gd 0 []] := by
 unfold ed
 rw [if_pos ⟨rfl, by simp⟩]
 unfold Sn
 rw [ae2, if_pos (by simp [ve])]
 simp
theorem ab2 {b : List UInt8} (h : (wt b).2.2 = 0) : b.length = 256 := by
 unfold wt at h
 split at h
 ·simp at h
 ·rename_i hh; omega
theorem Tb {n : Nat} {l : List KV} (hn : n <= 4) (hf : od 0 l = l.length) : (gd n l).length = 256 := ab2 (by rw [Bc hn hf])
open Go Go.Vm
theorem akb {a b : List UInt8} : kx .gtr (txt a) (txt b) = some (vb (Op.bytesLess b a)) := by
 have h1 : kx .gtr (txt a) (txt b) = some (vb (!(Op.bytesLess a b || a == b))) := rfl
 rw [h1]
 have h2 : Ci a b = (Op.bytesLess a b || a == b) := rfl
 rw [<- h2]
 cases h : Ci a b with
 | true => rw [zt.1 h]; rfl
 | false => rw [Ss.1 h]; rfl
theorem acv {a b : List UInt8} : kx .eql (txt a) (txt b) = some (vb (decide (a = b))) := by
 by_cases h : a = b <;> simp [kx, tn, h]
open Go Go.Vm
open Go Go.Vm
open Go Go.Vm
open Go Go.Vm
abbrev Ch := List UInt8 × List UInt8 × Bool
def chB (p : Ch) : List UInt8 := jk p.1 ++ (if p.2.2 then [1] else 0 :: jk p.2.1)
def gy (l : List Ch) : List UInt8 := num (kh l.length) ++ (l.map chB).flatten
def chE (e : List CV) (p : Ch) : Prop := ∃ c, e = [.sc (.string ⟨p.1.toArray⟩), c, .sc (.bool p.2.2)] /\ SlV 1 (eB p.2.1) (.cv c)
inductive ChsE : List (List CV) -> List Ch -> Prop
 | nil : ChsE [] []
 | cons {e : List CV} {p : Ch} {l : List (List CV)} {k : List Ch} (h : chE e p) (t : ChsE l k) : ChsE (e :: l) (p :: k)
theorem ChsE.len {l : List (List CV)} {k : List Ch} (h : ChsE l k) : l.length = k.length := by
 induction h with
 | nil => rfl
 | cons _ _ ih => simp [ih]
theorem ChsE.snoc {l : List (List CV)} {k : List Ch} (h : ChsE l k) {e : List CV} {p : Ch} (hp : chE e p) : ChsE (l ++ [e]) (k ++ [p]) := by
 induction h with
 | nil => exact .cons hp .nil
 | cons h _ ih => exact .cons h ih
theorem ajd {a b c d : Nat} (h : a + (b + c) <= d) : a + b + c <= d := by omega
theorem f46_loop (l : List (List CV)) (vl : VV) (hv : SlV 3 l vl) : ∀ (rest : List (List CV)) (kv : List Ch) (_ : ChsE rest kv) (i : Nat) (out : List UInt8) (s : List VV) (h : ah) (v : VV) (Q : Pst),
  l.drop i = rest -> i <= l.length -> l.length <= 1000000000 -> out.length + ((kv.map chB).flatten).length <= 1000000000 -> s.length = 36 ->
  s.getD 9 .undef = vl -> s.getD 10 .undef = vi .i64 l.length -> s.getD 11 .undef = vi .i64 i -> s.getD 3 .undef = v -> ej h 1 (eB out) v ->
  (∀ s' h' v', s'.length = 36 -> s'.getD 3 .undef = v' -> ej h' 1 (eB (out ++ (kv.map chB).flatten)) v' -> Q (.exit 0) ⟨s', h'⟩) ->
  X F (.loop f46_2) ⟨s, h⟩ Q := by
 intro rest kv hR
 induction hR with
 | nil =>
  intro i out s h v Q hd hi hl hn hs h9 h10 h11 h3 hb hQ
  rw [aw, bf f46_2.eq_1]
  have hlt : ¬ (i : Int) < (l.length : Int) := by
   have := congrArg List.length hd
   rw [List.length_drop, List.length_nil] at this
   omega
  simp only [go_sem, seval, hs, h10, h11, hlt]
  rw [bf f46_0.eq_1]
  simp only [go_sem, seval, hs, hlt]
  exact hQ _ _ v (by simp only [ae, hs]) (by simp only [go_sem, seval, h3]) (by simpa using hb)
 | @cons e p rl rk hrow hrest ih =>
  intro i out s h v Q hd hi hl hn hs h9 h10 h11 h3 hb hQ
  have hget : l[i]? = some e := by
   have := congrArg (fun x => x[0]?) hd
   simpa using this
  have hilt : i < l.length := (List.getElem?_eq_some_iff.1 hget).1
  have hd' : l.drop (i + 1) = rl := by
   rw [<- List.drop_drop, hd]; rfl
  obtain ⟨c, rfl, hc⟩ := hrow
  have hlt : (i : Int) < (l.length : Int) := by omega
  simp only [List.map_cons, List.flatten_cons, List.length_append, chB] at hn
  have hk1 := Oz p.1
  have hk2 := Oz p.2.1
  have e5 : IntKind.i64.wrap ((i : Int) + 1) = ((i + 1 : Nat) : Int) := by rw [IntWalk.i64_in _ (by omega)]; omega
  rw [aw, bf f46_2.eq_1]
  simp only [go_sem, seval, hs, h9, h10, h11, h3, hlt]
  rw [bf f46_0.eq_1]
  simp only [go_sem, seval, hs, h9, h10, h11, h3]
  rw [hv.ia (e := [.sc (.string ⟨p.1.toArray⟩), c, .sc (.bool p.2.2)]) (by omega) (by exact hget)]
  simp only [go_sem, seval, hs, h9, h10, h11, h3]
  rw [Em (v := .cv (.sc (.string ⟨p.1.toArray⟩))) rfl]
  simp only [go_sem, seval, hs, h9, h10, h11, h3]
  obtain ⟨v1, hc1, hcall1, hres1⟩ := Ic p.1 (by omega)
  refine ao (by simp only [List.map, go_sem, seval, hs]; exact dv lf) hcall1 hres1 ?_
  simp only [go_sem, seval, hs, h9, h10, h11, h3]
  refine uz (new := eB (jk p.1)) (hb.push _) (by simp only [go_sem, seval, hs]) (by simp only [go_sem, seval, hs]) (by simp only [ax]; omega) (by simp only [ax]; omega) (fun v' h' hb' _ hfr => ?_)
  have hbox := hfr h.length _ bk (fun e g => by simp)
  rw [<- iw] at hb'
  have l2 : ldO h' false 1 (.ptr h.length 2) = some (vb p.2.2, h') := bc (c := vb p.2.2) hbox rfl
  have l1 : ldO h' false 1 (.ptr h.length 1) = some (.cv c, h') := bc (c := .cv c) hbox rfl
  simp only [go_sem, seval, hs]
  rw [bf f46_1.eq_1]
  cases hg : p.2.2 with
  | true =>
   rw [hg] at l2 hn
   simp only [go_sem, seval, hs, l2]
   refine uz hb' (new := eB [1]) (by simp only [go_sem, seval, hs]) (by simp only [go_sem, seval, hs]; rfl) (by simp only [ax, List.length_append]; simp at hn |-; omega) (by simp only [ax, List.length_append]; simp at hn |-; omega) (fun v2 h2 hb2 _ _ => ?_)
   rw [<- iw, List.append_assoc] at hb2
   simp only [go_sem, seval, hs, h11, e5]
   refine ih (i + 1) (out ++ chB p) _ h2 v2 Q hd' (by omega) hl (by simp only [chB, List.length_append, hg]; exact ajd hn) (by simp only [ae, hs]) (by simp only [go_sem, seval, h9]) (by simp only [go_sem, seval, h10]) (by simp only [go_sem, seval, hs]) (by simp only [go_sem, seval, hs]) (by simpa only [chB, hg, if_true] using hb2) ?_
   simp only [List.map_cons, List.flatten_cons, <- List.append_assoc] at hQ
   exact hQ
  | false =>
   rw [hg] at l2 hn
   simp only [go_sem, seval, hs, l2]
   refine uz hb' (new := eB [0]) (by simp only [go_sem, seval, hs]) (by simp only [go_sem, seval, hs]; rfl) (by simp only [ax, List.length_append]; simp at hn |-; omega) (by simp only [ax, List.length_append]; simp at hn |-; omega) (fun v2 h2 hb2 _ hfr2 => ?_)
   have hbox2 := hfr2 h.length _ hbox (fun e g => by simp)
   have l3 : ldO h2 false 1 (.ptr h.length 1) = some (.cv c, h2) := bc (c := .cv c) hbox2 rfl
   rw [<- iw, List.append_assoc] at hb2
   simp only [go_sem, seval, hs, l3, hc.bs]
   obtain ⟨v2, hc2, hcall2, hres2⟩ := Ic p.2.1 (by simp at hn; omega)
   refine ao (by simp only [List.map, go_sem, seval, hs]; exact dv lf) hcall2 hres2 ?_
   simp only [go_sem, seval, hs]
   refine uz (new := eB (jk p.2.1)) hb2 (by simp only [go_sem, seval, hs]) (by simp only [go_sem, seval, hs]) (by simp only [ax, List.length_append]; simp at hn |-; omega) (by simp only [ax, List.length_append]; simp at hn |-; omega) (fun v3 h3' hb3 _ _ => ?_)
   rw [<- iw, List.append_assoc, List.append_assoc] at hb3
   simp only [go_sem, seval, hs, h11, e5]
   refine ih (i + 1) (out ++ chB p) _ h3' v3 Q hd' (by omega) hl (by simp only [chB, List.length_append, hg]; exact ajd hn) (by simp only [ae, hs]) (by simp only [go_sem, seval, h9]) (by simp only [go_sem, seval, h10]) (by simp only [go_sem, seval, hs]) (by simp only [go_sem, seval, hs]) (by simpa only [chB, hg, if_false, List.singleton_append, Bool.false_eq_true] using hb3) ?_
   simp only [List.map_cons, List.flatten_cons, <- List.append_assoc] at hQ
   exact hQ
theorem ag8 (l : List (List CV)) (kv : List Ch) (vl : VV) (hv : SlV 3 l vl) (hR : ChsE l kv) (h : ah) (hn : (gy kv).length <= 1000000000) (hk : kv.length <= 1000000000) :
  ∃ v h', call F 46 [vl] h = some (.ret v, h') /\ ej h' 1 (eB (gy kv)) v := by
 have : ∃ v h', call F 46 [vl] h = some (.ret v, h') /\ (fun v h' => ej h' 1 (eB (gy kv)) v) v h' := by
  refine bj (fn := f46) rfl ?_
  simp only [f46]
  generalize hs0 : ([vl] ++ List.replicate _ VV.undef : List VV) = s
  have hs : s.length = 36 := by grind
  have h0 : s.getD 0 .undef = vl := by grind
  clear hs0
  simp only [go_sem, seval, hs, h0, hv.ln]
  obtain ⟨v1, h1, hcall1, hb1⟩ := Mm l.length h
  refine ap (by simp only [List.map, go_sem, seval, hs]; exact hcall1) ?_
  simp only [go_sem, Nat.reduceLT, Nat.reduceEqDiff, reduceCtorEq, Int.reduceLT, Int.reduceEq, hs, h0, hv.ln]
  have hne : eB (num (kh l.length)) ≠ [] := alh.2 (acz _)
  have hlen : ((l.length : Nat) : Int) = ((kv.length : Nat) : Int) := by rw [hR.len]
  simp only [gy, List.length_append] at hn
  refine f46_loop l vl hv l kv hR 0 (num (kh l.length)) _ h1 v1 _ rfl (by omega) (by omega) (by grind) (by grind) (by simp_all) (by simp_all) (by simp_all) (by simp_all) (hb1.toG hne) ?_
  intro s' h' v' hs' h3' hb'
  simp only [go_sem, seval, hs', h3']
  rw [hlen] at hb'
  exact hb'
 exact this
def ac7 (p : Ch) : List CV := if p.2.2 then chC p.1 (.sc (.slice none 0 0)) true else chC p.1 (.sl 1 (eB p.2.1) false) false
def ub (l : List Ch) : List (List CV) := l.map ac7
def tr (l : List Ch) : Prop := ∀ p ∈ l, p.1.length <= 30 /\ p.2.1.length <= 150 /\ (p.2.2 = true -> p.2.1 = [])
theorem Vf : ∀ (l : List Ch), tr l -> ChsE (ub l) l
 | [], _ => .nil
 | p :: l, h => by
  refine .cons ?_ (Vf l fun q hq => h q (by simp [hq]))
  obtain ⟨_, _, h3⟩ := h p (by simp)
  unfold ac7
  cases hg : p.2.2 with
  | true => exact ⟨_, by rw [hg]; rfl, .inl ⟨rfl, by rw [h3 hg]; rfl⟩⟩
  | false => exact ⟨_, by rw [hg]; rfl, SlV.sl⟩
def pt (l : List Ch) : List UInt8 := (l.map chB).flatten
theorem mj {p : Ch} {l : List Ch} : pt (p :: l) = chB p ++ pt l := rfl
theorem Qf {b : List UInt8} {a : Int} {e : List CV} {j : Nat} (h : du b a = (e, j, 0)) : ∃ q p r, b = p ++ chB q ++ r /\ (p.length : Int) = a /\ j = p.length + (chB q).length /\ e = ac7 q /\ q.1.length <= 30 /\ q.2.1.length <= 150 /\ (q.2.2 = true -> q.2.1 = []) := by
 unfold du at h
 split at h
 ·grind
 ·rename_i h0
  have hx : bg b a 30 = ((bg b a 30).1, (bg b a 30).2.1, 0) := by
   grind
  obtain ⟨p, r, e1, e2, e3, e4⟩ := yn hx
  generalize (bg b a 30).1 = k at *
  generalize (bg b a 30).2.1 = j1 at *
  split at h
  ·simp at h
  ·rename_i c hc
   have hr : ∃ r', r = c :: r' := by
    have hj : j1 = (p ++ jk k).length := by grind
    rw [e1, hj, List.getElem?_append_right (Nat.le_refl _), Nat.sub_self] at hc
    cases r with
    | nil => simp at hc
    | cons d r' => grind
   obtain ⟨r, rfl⟩ := hr
   split at h
   ·rename_i h1
    simp only [Prod.mk.injEq] at h
    obtain ⟨h3, h4, _⟩ := h
    have hc1 : c = 1 := by rw [<- Bj c, h1]; rfl
    subst hc1
    refine ⟨(k, [], true), p, r, by rw [e1]; simp [chB], e2, ?_, h3.symm, by grind, by simp, fun _ => rfl⟩
    simp only [chB, if_true, List.length_append, List.length_singleton]; omega
   ·rename_i h1
    split at h
    ·simp at h
    ·rename_i h2
     have hc0 : c = 0 := by rw [<- Bj c, show c.toNat = 0 by omega]; rfl
     subst hc0
     simp only [Prod.mk.injEq] at h
     obtain ⟨h3, h4, h5⟩ := h
     have hy : bg b ((j1 + 1 : Nat) : Int) 150 = ((bg b ((j1 + 1 : Nat) : Int) 150).1, (bg b ((j1 + 1 : Nat) : Int) 150).2.1, 0) := by rw [<- h5]
     obtain ⟨p', r', f1, f2, f3, f4⟩ := yn hy
     generalize (bg b ((j1 + 1 : Nat) : Int) 150).1 = v at *
     generalize (bg b ((j1 + 1 : Nat) : Int) 150).2.1 = j2 at *
     have e1' : b = (p ++ jk k ++ [0]) ++ r := by rw [e1]; simp
     have hp : p' = p ++ jk k ++ [0] := by
      have g1 : b.take (j1 + 1) = p' := by rw [f1, List.append_assoc, show j1 + 1 = p'.length by omega, List.take_left]
      have g2 : b.take (j1 + 1) = p ++ jk k ++ [0] := by rw [e1', show j1 + 1 = (p ++ jk k ++ [0]).length by grind, List.take_left]
      grind
     refine ⟨(k, v, false), p, r', ?_, e2, ?_, h3.symm, by grind, by grind, by simp⟩
     ·rw [f1, hp]; simp only [chB, Bool.false_eq_true, if_false, List.append_assoc, List.cons_append, List.nil_append]
     ·rw [<- h4, f3, hp]; simp only [chB, Bool.false_eq_true, if_false, List.length_append, List.length_cons, List.length_nil]; omega
theorem yg {b : List UInt8} : ∀ (m a : Nat) (out els : List (List CV)) (j : Nat), a <= b.length -> jh (du b) m a out = (els, j, 0) ->
  ∃ kv p r, b = p ++ pt kv ++ r /\ p.length = a /\ j = p.length + (pt kv).length /\ els = out ++ ub kv /\ kv.length = m /\ tr kv
 | 0, a, out, els, j, ha, h => by
  simp only [jh, Prod.mk.injEq] at h
  obtain ⟨rfl, rfl, _⟩ := h
  exact ⟨[], b.take a, b.drop a, by simp [pt], by grind, by rw [List.length_take]; simp [pt]; omega, by simp [ub], rfl, by intro p hp; simp at hp⟩
 | m + 1, a, out, els, j, ha, h => by
  simp only [jh] at h
  split at h
  ·grind
  ·rename_i h0
   have hx : du b (a : Int) = ((du b (a : Int)).1, (du b (a : Int)).2.1, 0) := by
    grind
   obtain ⟨q, p, r, e1, e2, e3, e4, e5⟩ := Qf hx
   generalize (du b (a : Int)).1 = e at *
   generalize (du b (a : Int)).2.1 = j1 at *
   have hj : j1 <= b.length := by grind
   obtain ⟨kv, p', r', f1, f2, f3, f4, f5, f6⟩ := yg m j1 _ els j hj h
   have hp : p' = p ++ chB q := by
    have h1 : b.take j1 = p' := by grind
    grind
   refine ⟨q :: kv, p, r', ?_, by omega, ?_, ?_, by simp [f5], ?_⟩
   ·rw [f1, hp, mj]; grind
   ·rw [f3, hp, mj]; grind
   ·rw [f4, e4]; simp [ub]
   ·intro q' hq
    rcases List.mem_cons.1 hq with rfl | hq
    ·exact e5
    ·exact f6 q' hq
theorem Hu {b : List UInt8} (h : (iu (du b) b).2 = 0) : ∃ kv, (iu (du b) b).1 = ub kv /\ b = gy kv /\ tr kv := by
 unfold iu at h |-
 simp only at h |-
 split at h
 ·omega
 ·rename_i h0
  rw [if_neg h0]
  have hx : cf b 0 = ((cf b 0).1, (cf b 0).2.1, 0) := by
   grind
  obtain ⟨p, r, e1, e2, e3, e4⟩ := Az hx
  generalize (cf b 0).1 = n at *
  generalize (cf b 0).2.1 = a at *
  have hp0 : p = [] := List.eq_nil_of_length_eq_zero (by omega)
  subst hp0
  split at h
  ·simp at h
  ·rename_i h1
   rw [if_neg h1]
   split at h
   ·omega
   ·rename_i h2
    rw [if_neg h2]
    have hy : jh (du b) n a [] = ((jh (du b) n a []).1, (jh (du b) n a []).2.1, 0) := by
     grind
    have ha : a <= b.length := by grind
    obtain ⟨kv, p', r', f1, f2, f3, f4, f5, f6⟩ := yg n a [] _ _ ha hy
    generalize (jh (du b) n a []).1 = els at *
    generalize (jh (du b) n a []).2.1 = j at *
    split at h
    ·simp at h
    ·rename_i h3
     rw [if_neg h3]
     have hr : r' = [] := by
      have := congrArg List.length f1
      simp only [List.length_append] at this
      exact List.eq_nil_of_length_eq_zero (by omega)
     subst hr
     have hp : p' = num n := by
      have h1 : b.take a = p' := by grind
      grind
     refine ⟨kv, by grind, ?_, f6⟩
     rw [f1, hp, List.append_nil]
     unfold gy
     rw [f5, tc n e4]
     rfl
open Go Go.Vm
theorem Oq : ∀ kv : List Ch, kv.length <= ((kv.map chB).flatten).length
 | [] => by simp
 | p :: kv => by
  have := Oq kv
  have h1 : 0 < (chB p).length := by
   have := Br p.1
   rw [alh] at this
   have := List.length_pos_iff.2 this
   unfold chB; rw [List.length_append]; omega
  simp only [List.map_cons, List.flatten_cons, List.length_append, List.length_cons]; omega
open Go Go.Vm
open Go Go.Vm
theorem ChsE.get {l : List (List CV)} {k : List Ch} (h : ChsE l k) : ∀ {i : Nat}, i < k.length -> ∃ e p, l[i]? = some e /\ k[i]? = some p /\ chE e p := by
 induction h with
 | nil => intro i hi; simp at hi
 | @cons e p l k h _ ih =>
  intro i hi
  cases i with
  | zero => exact ⟨e, p, rfl, rfl, h⟩
  | succ i =>
   obtain ⟨e', p', h1, h2, h3⟩ := ih (i := i) (by simpa using hi)
   exact ⟨e', p', by simpa using h1, by simpa using h2, h3⟩
theorem Kw {get : Int -> List CV × Nat × Nat} (b : List UInt8) (h : (iu get b).2 ≠ 0) : (iu get b).1 = [] := by
 unfold iu at h |-
 simp only at h |-
 split
 ·rfl
 ·rename_i h0
  rw [if_neg h0] at h
  split
  ·rfl
  ·rename_i h1
   rw [if_neg h1] at h
   split
   ·rfl
   ·rename_i h2
    rw [if_neg h2] at h
    split
    ·rfl
    ·rename_i h3
     rw [if_neg h3] at h
     exact absurd rfl h
theorem Mp (b : List UInt8) : ∃ kv, ChsE (iu (du b) b).1 kv /\ kv.length <= b.length := by
 by_cases h : (iu (du b) b).2 = 0
 ·obtain ⟨kv, h1, h2, h3⟩ := Hu h
  refine ⟨kv, by rw [h1]; exact Vf kv h3, ?_⟩
  have := congrArg List.length h2
  unfold gy at this
  rw [List.length_append] at this
  have := Oq kv
  omega
 ·exact ⟨[], by rw [Kw b h]; exact .nil, by simp⟩
open Go Go.Vm
open Go Go.Vm
theorem acp (p : Ch) : (jk p.1).length + (if p.2.2 then 1 else 1 + (jk p.2.1).length) = (chB p).length := by
 unfold chB
 rw [List.length_append]
 cases p.2.2 <;> simp <;> omega
def Zu (p : List UInt8 × List UInt8) : Ch := if p.2.length % 4 = 0 then (p.1, [], true) else (p.1, p.2, false)
def chL (n : Nat) (c : List UInt8) : List Ch := (Cj n c).map Zu
theorem f24_loop (l : List (List CV)) (k : List (List UInt8 × List UInt8)) (vl : VV) (hl : SlV 2 l vl) (hR : RowsE l k) (hk : k.length <= 100) (hkv : ahm k) : ∀ (rest : List (List UInt8 × List UInt8)) (i : Nat) (els : List (List CV)) (kv : List Ch) (h : ah) (v : VV) (s : List VV) (Q : Pst),
  k.drop i = rest -> i <= k.length -> els.length + rest.length <= 100 -> ChsE els kv -> ej h 3 els v -> s.length = 42 -> s.getD 5 .undef = v -> s.getD 6 .undef = vl -> s.getD 7 .undef = vi .i64 i ->
  (∀ s' h' v' els', s'.length = 42 -> s'.getD 5 .undef = v' -> ej h' 3 els' v' -> ChsE els' (kv ++ rest.map Zu) -> Q (.exit 0) ⟨s', h'⟩) -> X F (.loop f24_1) ⟨s, h⟩ Q := by
 intro rest
 induction rest with
 | nil =>
  intro i els kv h v s Q hd hi hel hC hb hs h5 h6 h7 hQ
  rw [aw, bf f24_1.eq_1]
  have hlt : ¬ (i : Int) < (l.length : Int) := by
   have := congrArg List.length hd
   rw [List.length_drop, List.length_nil] at this
   rw [hR.len]; omega
  simp only [go_sem, seval, hs, h6, h7, hl.ln, hlt]
  exact hQ _ h v els (by simp only [ae, hs]) (by simp only [go_sem, seval, h5]) hb (by simpa using hC)
 | cons p rest ih =>
  intro i els kv h v s Q hd hi hel hC hb hs h5 h6 h7 hQ
  rw [aw, bf f24_1.eq_1]
  have hget : k[i]? = some p := by
   have := congrArg (fun x => x[0]?) hd
   simpa using this
  have hilt : i < k.length := (List.getElem?_eq_some_iff.1 hget).1
  have hd' : k.drop (i + 1) = rest := by
   rw [<- List.drop_drop, hd]; rfl
  obtain ⟨e, p', g1, g2, c, rfl, hc⟩ := hR.get (i := i) hilt
  rw [hget] at g2; cases g2
  obtain ⟨f1, f2⟩ := hkv p (List.mem_of_getElem? hget)
  have hlt : (i : Int) < (l.length : Int) := by rw [hR.len]; omega
  have hia : ∀ h : ah, iaO h 2 vl (vi .i64 (i : Int)) = some (.rptr [.sc (.string ⟨p.1.toArray⟩), c], h) := fun h => hl.ia (by omega) (by exact g1)
  have e5 : IntKind.i64.wrap ((i : Int) + 1) = ((i + 1 : Nat) : Int) := by rw [IntWalk.i64_in _ (by omega)]; omega
  have e4 : (p.2.length : Int).tmod 4 = ((p.2.length % 4 : Nat) : Int) := rfl
  simp only [List.length_cons] at hel
  simp only [go_sem, seval, hs, h6, h7, hl.ln, hlt]
  refine aeb ?_
  refine abp ?_
  refine abp ?_
  refine acd (v := vl) (w := vi .i64 i) (by simp only [go_sem, seval, hs, h6]) (by simp only [go_sem, seval, hs, h7]) hia ?_
  refine acu (v := .rptr [.sc (.string ⟨p.1.toArray⟩), c]) (by simp only [go_sem, seval, hs]) rfl ?_
  refine aik (v := .rptr [.sc (.string ⟨p.1.toArray⟩), c]) (r := txt p.1) (by simp only [go_sem, seval, hs]) (fun h => gi) ?_
  refine abp ?_
  refine abp ?_
  refine acd (v := vl) (w := vi .i64 i) (by simp only [go_sem, seval, hs, h6]) (by simp only [go_sem, seval, hs, h7]) hia ?_
  refine acu (v := .rptr [.sc (.string ⟨p.1.toArray⟩), c]) (by simp only [go_sem, seval, hs]) rfl ?_
  refine aik (v := .rptr [c]) (r := .cv c) (by simp only [go_sem, seval, hs]) (fun h => gi) ?_
  refine Gm rfl ?_
  have e3 : ∀ {a b z : VV}, stO (h ++ [.box [a, b, z] false]) 3 (.ptr h.length 0) (.agg [txt p.1, .cv c, z]) = some (.undef, h ++ [.box [txt p.1, .cv c, z] false]) := To
  rw [Nr]
  simp only [go_sem, seval, hs, h7, aij, Pj]
  rw [bf f24_0.eq_1]
  have l1 : ∀ {a b z : VV}, ldO (h ++ [.box [a, b, z] false]) false 1 (.ptr h.length 1) = some (b, h ++ [.box [a, b, z] false]) := Em rfl
  have l0 : ∀ {a b z : VV}, ldO (h ++ [.box [a, b, z] false]) false 1 (.ptr h.length 0) = some (a, h ++ [.box [a, b, z] false]) := Em rfl
  by_cases hz : ((p.2.length % 4 : Nat) : Int) = 0
  ·have hz' : p.2.length % 4 = 0 := by omega
   simp only [go_sem, seval, hs, l1, hc.ln, ax, e4, eq_true hz, l0, ai2, h5]
   refine uz (hb.push _) (new := [[.sc (.string ⟨p.1.toArray⟩), .sc (.slice none 0 0), .sc (.bool true)]]) (by simp only [go_sem, seval, hs]) (by simp only [go_sem, seval, hs]) (by simp only [List.length_singleton]; omega) (by simp only [List.length_singleton]; omega) (fun v' h' hb' _ _ => ?_)
   simp only [go_sem, seval, hs, h7, e5]
   refine ih (i + 1) _ (kv ++ [Zu p]) h' v' _ Q hd' (by omega) (by simp only [List.length_append, List.length_singleton]; omega) (hC.snoc (p := Zu p) ?_) hb' (by simp only [ae, hs]) (by simp only [go_sem, seval, hs]) (by simp only [go_sem, seval, h6]) (by simp only [go_sem, seval, hs]) ?_
   ·unfold Zu; rw [if_pos hz']; exact ⟨_, rfl, .inl ⟨rfl, rfl⟩⟩
   ·intro s' h' v' els' a1 a2 a3 a4
    refine hQ s' h' v' els' a1 a2 a3 ?_
    simpa only [List.map_cons, List.append_assoc, List.singleton_append] using a4
  ·have hz' : ¬ p.2.length % 4 = 0 := by omega
   simp only [go_sem, seval, hs, l1, hc.ln, ax, e4, hz, h5]
   refine uz (hb.push _) (new := [[.sc (.string ⟨p.1.toArray⟩), c, .sc (.bool false)]]) (by simp only [go_sem, seval, hs]) (by simp only [go_sem, seval, hs]) (by simp only [List.length_singleton]; omega) (by simp only [List.length_singleton]; omega) (fun v' h' hb' _ _ => ?_)
   simp only [go_sem, seval, hs, h7, e5]
   refine ih (i + 1) _ (kv ++ [Zu p]) h' v' _ Q hd' (by omega) (by simp only [List.length_append, List.length_singleton]; omega) (hC.snoc (p := Zu p) ?_) hb' (by simp only [ae, hs]) (by simp only [go_sem, seval, hs]) (by simp only [go_sem, seval, h6]) (by simp only [go_sem, seval, hs]) ?_
   ·unfold Zu; rw [if_neg hz']; exact ⟨_, rfl, hc⟩
   ·intro s' h' v' els' a1 a2 a3 a4
    refine hQ s' h' v' els' a1 a2 a3 ?_
    simpa only [List.map_cons, List.append_assoc, List.singleton_append] using a4
open Go Go.Vm
open Go Go.Vm
def wd (n : Nat) : List UInt8 := [u8 (n / 16777216 % 256), u8 (n / 65536 % 256), u8 (n / 256 % 256), u8 (n % 256)]
theorem Jk {n : Nat} : (wd n).length = 4 := rfl
theorem Wz {n i : Nat} (h : i < 4) : (wd n).take (i + 1) = (wd n).take i ++ [u8 (n / 2 ^ (24 - 8 * i) % 256)] := by
 match i, h with
 | 0, _ => rfl
 | 1, _ => rfl
 | 2, _ => rfl
 | 3, _ => simp [wd]
theorem acr {n i : Nat} (h : i < 4) : IntKind.u8.wrap ((n : Int).fdiv (2 ^ min ((24 - 8 * (i : Int)).toNat) 64)) = ((u8 (n / 2 ^ (24 - 8 * i) % 256)).toNat : Int) := by
 rw [jy _ (by omega)]
 have e : min ((24 - 8 * (i : Int)).toNat) 64 = 24 - 8 * i := by omega
 rw [e, Int.fdiv_eq_ediv_of_nonneg _ (by apply Int.pow_nonneg; decide), IntKind.wrap_u8]
 have e2 : ((2 : Int) ^ (24 - 8 * i)) = ((2 ^ (24 - 8 * i) : Nat) : Int) := by simp
 rw [e2]
 omega
theorem f76_loop {p off len n : Nat} {ex : Bool} {b : List UInt8} (hl : off + 4 <= b.length) (hlen : 4 <= len) : ∀ (r i : Nat) (s : List VV) (h : ah) (Q : Pst), i + r = 4 -> h[p]? = some (kk (am b off ((wd n).take i))) -> s.length = 18 -> s.getD 0 .undef = .ob p off len 1 ex -> s.getD 1 .undef = vi .i64 n -> s.getD 5 .undef = vi .i64 i ->
  (∀ s' h', s'.length = 18 -> (∀ o, h'.set p o = h.set p o) -> h'[p]? = some (kk (am b off (wd n))) -> Q (.exit 0) ⟨s', h'⟩) -> X F (.loop f76_1) ⟨s, h⟩ Q := by
 intro r
 induction r with
 | zero =>
  intro i s h Q hi hb hs e0 e1 e5 hQ
  have c : ¬ ((i : Nat) : Int) < 4 := by omega
  rw [aw, bf f76_1.eq_1]
  simp only [go_sem, seval, hs, e5]
  rw [bf f76_0.eq_1]
  simp only [go_sem, seval, hs, c]
  have : (wd n).take i = wd n := List.take_of_length_le (by rw [Jk]; omega)
  rw [this] at hb
  exact hQ _ _ (by simp only [ae, hs]) (fun _ => rfl) hb
 | succ r ih =>
  intro i s h Q hi hb hs e0 e1 e5 hQ
  have c : ((i : Nat) : Int) < 4 := by omega
  have hi4 : i < 4 := by omega
  have w1 : IntKind.i64.wrap (8 * (i : Int)) = 8 * (i : Int) := IntWalk.i64_in _ (by omega)
  have w2 : IntKind.i64.wrap (24 - 8 * (i : Int)) = 24 - 8 * (i : Int) := IntWalk.i64_in _ (by omega)
  have w3 : ¬ (24 - 8 * (i : Int)) < 0 := by omega
  have w4 : IntKind.i64.wrap ((i : Int) + 1) = ((i + 1 : Nat) : Int) := by rw [IntWalk.i64_in _ (by omega)]; omega
  have hlk : ((wd n).take i).length = i := by rw [List.length_take, Jk]; omega
  have hsl : (am b off ((wd n).take i)).length = b.length := gb (by omega)
  have ia : iaO h 1 (.ob p off len 1 ex) (vi .i64 (i : Int)) = some (.ptr p (off + i), h) := by
   have : i < len := by omega
   simp [iaO, ak, mh, pq, this]
  have st := Aw (x := u8 (n / 2 ^ (24 - 8 * i) % 256)) hb (j := off + i) (by omega)
  rw [Ap (by omega) hlk, <- Wz hi4] at st
  rw [aw, bf f76_1.eq_1]
  simp only [go_sem, seval, hs, e5]
  rw [bf f76_0.eq_1]
  simp only [go_sem, seval, hs, c, e0, e1, w1, w2, ny w3, acr hi4, ia, st, e5, w4]
  refine ih (i + 1) _ _ Q (by omega) (List.getElem?_set_self (ey hb)) (by simp only [ae, hs]) (by simp only [go_sem, seval, e0]) (by simp only [go_sem, seval, e1]) (by simp only [go_sem, seval, hs]) (fun s' h' a1 a2 a3 => hQ s' h' a1 (fun o => ?_) a3)
  rw [a2 o, List.set_set]
theorem Nz {h : ah} {p off len n : Nat} {ex : Bool} {b : List UInt8} (hb : h[p]? = some (kk b)) (hl : off + 4 <= b.length) (hlen : 4 <= len) : ∃ v, call F 76 [.ob p off len 1 ex, vi .i64 n] h = some (.ret v, h.set p (kk (am b off (wd n)))) := by
 have : Ret F 76 [.ob p off len 1 ex, vi .i64 n] h fun v g => g = h.set p (kk (am b off (wd n))) := by
  refine eE2 (fn := f76) (n := 18) rfl rfl fun s hs h0 h1 => ?_
  simp only [f76]
  simp only [go_sem, Nat.reduceLT, Nat.reduceEqDiff, reduceCtorEq, Int.reduceLT, Int.reduceEq, hs]
  refine f76_loop (n := n) (ex := ex) hl hlen 4 0 _ _ _ (by omega) (by rw [List.take_zero, Mo]; exact hb) (by simp only [ae, hs]) (by simp only [go_sem, Nat.reduceLT, Nat.reduceEqDiff, reduceCtorEq, Int.reduceLT, Int.reduceEq, h0]) (by simp only [go_sem, Nat.reduceLT, Nat.reduceEqDiff, reduceCtorEq, Int.reduceLT, Int.reduceEq, h1]) (by simp only [go_sem, Nat.reduceLT, Nat.reduceEqDiff, reduceCtorEq, Int.reduceLT, Int.reduceEq, hs]; rfl) (fun s' h' a1 a2 a3 => ?_)
  simp only [go_sem, seval, a1]
  rw [<- a2]; exact (tv a3).symm
 obtain ⟨v, g, e1, rfl⟩ := this
 exact ⟨v, e1⟩
open Go Go.Vm
def Cn (epoch n i of_ : Nat) (p : List UInt8) : List UInt8 := wd epoch ++ wd n ++ [u8 i, u8 of_, u8 p.length] ++ p ++ List.replicate (49 - p.length) 0
def km (epoch n i of_ : Nat) (p : List UInt8) : List UInt8 := oc (Cn epoch n i of_ p)
theorem Ya {epoch n i of_ : Nat} {p : List UInt8} (h : p.length <= 49) : (Cn epoch n i of_ p).length = 60 := by
 unfold Cn wd; simp; omega
theorem pc (b : List UInt8) : (oc b).length = b.length + 4 := by unfold oc; rw [List.length_append]; rfl
theorem Ib {epoch n i of_ : Nat} {p : List UInt8} (h : p.length <= 49) : (km epoch n i of_ p).length = 64 := by
 unfold km; rw [pc, Ya h]
theorem Ky {epoch n i of_ : Nat} {p : List UInt8} (h : p.length <= 49) :
  am ((((am (am (List.replicate 60 0) 0 (wd epoch)) 4 (wd n)).set 8 (u8 i)).set 9 (u8 of_)).set 10 (u8 p.length)) 11 p = Cn epoch n i of_ p := by
 have e1 : am (List.replicate 60 (0 : UInt8)) 0 (wd epoch) = wd epoch ++ List.replicate 56 0 := by simp [am, wd]
 have e2 : am (wd epoch ++ List.replicate 56 0) 4 (wd n) = wd epoch ++ wd n ++ List.replicate 52 0 := by simp [am, wd]
 have e3 : (((wd epoch ++ wd n ++ List.replicate 52 0).set 8 (u8 i)).set 9 (u8 of_)).set 10 (u8 p.length) = wd epoch ++ wd n ++ [u8 i, u8 of_, u8 p.length] ++ List.replicate 49 0 := by
  simp [wd, List.replicate_succ]
 rw [e1, e2, e3]
 have hl : (wd epoch ++ wd n ++ [u8 i, u8 of_, u8 p.length]).length = 11 := by simp [wd]
 unfold am Cn
 have t : (wd epoch ++ wd n ++ [u8 i, u8 of_, u8 p.length] ++ List.replicate 49 0).take 11 = wd epoch ++ wd n ++ [u8 i, u8 of_, u8 p.length] := by
  grind
 have d : (wd epoch ++ wd n ++ [u8 i, u8 of_, u8 p.length] ++ List.replicate 49 (0 : UInt8)).drop (11 + p.length) = List.replicate (49 - p.length) 0 := by
  rw [List.drop_append, List.drop_of_length_le (by omega), hl, Nat.add_sub_cancel_left, List.nil_append, List.drop_replicate]
 rw [t, d]
theorem Nt {epoch n i of_ : Nat} {p : List UInt8} {u : VV} (hu : SlV 1 (eB p) u) (hp : p.length <= 49) :
  Cg F 48 [vi .i64 epoch, vi .i64 n, vi .i64 i, vi .i64 of_, u] (SlV 1 (eB (km epoch n i of_ p))) := by
 have : Ret F 48 [vi .i64 epoch, vi .i64 n, vi .i64 i, vi .i64 of_, u] [] fun v g => ∃ w, av g v = some w /\ SlV 1 (eB (km epoch n i of_ p)) w := by
  refine eE5 (fn := f48) (n := 33) rfl rfl fun s hs h0 h1 h2 h3 h4 => ?_
  simp only [f48]
  have wu : ∀ m : Nat, IntKind.u8.wrap (m : Int) = ((u8 m).toNat : Int) := fun m => by
   rw [po]; unfold u8; rw [UInt8.toNat_ofNat']
  have hbox : ([VO.box (List.replicate 60 (VV.cv (.sc (.int .u8 0)))) false] : ah)[0]? = some (kk (List.replicate 60 0)) := by
   rw [ql]; rfl
  simp only [go_sem, Nat.reduceLT, Nat.reduceEqDiff, reduceCtorEq, Int.reduceLT, Int.reduceEq, hs, List.nil_append, List.length_nil]
  generalize [VO.box (List.replicate 60 (VV.cv (.sc (.int .u8 0)))) false] = g0 at hbox
  have sa : ∀ {g : ah} {b : List UInt8}, g[0]? = some (kk b) -> b.length = 60 -> saO g 60 1 (.ptr 0 0) none none = some (.ob 0 0 60 1 true, g) := fun hb hl => Io hb (by simp [rh]; omega)
  have sf : ∀ {g : ah} {b : List UInt8} (a : Nat), g[0]? = some (kk b) -> b.length = 60 -> a <= 60 -> saO g 60 1 (.ptr 0 0) (some (vi .i64 a)) none = some (.ob 0 a (60 - a) 1 true, g) := fun a hb hl ha => Wh hb (by simp [rh]; omega) ha
  have l0 : (List.replicate 60 (0 : UInt8)).length = 60 := by simp
  unfold km
  rw [<- Ky hp]
  generalize List.replicate 60 (0 : UInt8) = c0 at hbox l0 |-
  have wl : ∀ m, (wd m).length = 4 := fun _ => rfl
  obtain ⟨v1, n1⟩ := Nz (n := epoch) (off := 0) (len := 60) (ex := true) hbox (by omega) (by omega)
  have b1 := List.getElem?_set_self (a := kk (am c0 0 (wd epoch))) (ey hbox)
  have l1 : (am c0 0 (wd epoch)).length = 60 := by rw [gb (by rw [wl]; omega), l0]
  simp only [sa hbox l0, go_sem, Nat.reduceLT, Nat.reduceEqDiff, reduceCtorEq, Int.reduceLT, Int.reduceEq, hs, h0]
  refine ap (by simp only [List.map, go_sem, seval, hs]; exact n1) ?_
  generalize g0.set 0 (kk (am c0 0 (wd epoch))) = g1 at b1
  generalize am c0 0 (wd epoch) = c1 at b1 l1 |-
  have s4 : saO g1 60 1 (.ptr 0 0) (some (vi .i64 4)) none = some (.ob 0 4 56 1 true, g1) := sf 4 b1 l1 (by omega)
  obtain ⟨v2, n2⟩ := Nz (n := n) (off := 4) (len := 56) (ex := true) b1 (by omega) (by omega)
  have b2 := List.getElem?_set_self (a := kk (am c1 4 (wd n))) (ey b1)
  have l2 : (am c1 4 (wd n)).length = 60 := by rw [gb (by rw [wl]; omega), l1]
  simp only [go_sem, seval, hs, s4, h1]
  refine ap (by simp only [List.map, go_sem, seval, hs]; exact n2) ?_
  generalize g1.set 0 (kk (am c1 4 (wd n))) = g2 at b2
  generalize am c1 4 (wd n) = c2 at b2 l2 |-
  have i8 : Hm 60 1 (.ptr 0 0) (vi .i64 8) = some (.ptr 0 8) := rfl
  have i9 : Hm 60 1 (.ptr 0 0) (vi .i64 9) = some (.ptr 0 9) := rfl
  have i10 : Hm 60 1 (.ptr 0 0) (vi .i64 10) = some (.ptr 0 10) := rfl
  have t3 := Aw (x := u8 i) b2 (j := 8) (by omega)
  have b3 := List.getElem?_set_self (a := kk (c2.set 8 (u8 i))) (ey b2)
  have l3 : (c2.set 8 (u8 i)).length = 60 := by rw [List.length_set, l2]
  generalize g2.set 0 (kk (c2.set 8 (u8 i))) = g3 at t3 b3
  generalize c2.set 8 (u8 i) = c3 at b3 l3 |-
  have t4 := Aw (x := u8 of_) b3 (j := 9) (by omega)
  have b4 := List.getElem?_set_self (a := kk (c3.set 9 (u8 of_))) (ey b3)
  have l4 : (c3.set 9 (u8 of_)).length = 60 := by rw [List.length_set, l3]
  generalize g3.set 0 (kk (c3.set 9 (u8 of_))) = g4 at t4 b4
  generalize c3.set 9 (u8 of_) = c4 at b4 l4 |-
  have t5 := Aw (x := u8 p.length) b4 (j := 10) (by omega)
  have b5 := List.getElem?_set_self (a := kk (c4.set 10 (u8 p.length))) (ey b4)
  have l5 : (c4.set 10 (u8 p.length)).length = 60 := by rw [List.length_set, l4]
  generalize g4.set 0 (kk (c4.set 10 (u8 p.length))) = g5 at t5 b5
  generalize c4.set 10 (u8 p.length) = c5 at b5 l5 |-
  have s11 : saO g5 60 1 (.ptr 0 0) (some (vi .i64 11)) none = some (.ob 0 11 49 1 true, g5) := sf 11 b5 l5 (by omega)
  have t6 := adv (off := 11) (len := 49) (ex := true) (w := u) b5 (by omega) hu.src (by omega)
  have b6 := List.getElem?_set_self (a := kk (am c5 11 p)) (ey b5)
  have l6 : (am c5 11 p).length = 60 := by rw [gb (by omega), l5]
  generalize g5.set 0 (kk (am c5 11 p)) = g6 at t6 b6
  generalize am c5 11 p = c6 at b6 l6 |-
  have cl := Kk (ex := true) (off := 0) (len := 60) b6 (by omega)
  rw [List.drop_zero, List.take_of_length_le (by omega)] at cl
  obtain ⟨v7, h7, n7, w7, r7, S7⟩ := Bn (b := c6) (u := .cv (.sl 1 (eB c6) true)) (.inr ⟨true, rfl⟩) (by omega)
  simp only [go_sem, seval, hs, h2, h3, h4, wu, hu.ln, ax, i8, i9, i10, t3, t4, t5, s11, t6, sa b6 l6]
  refine ao (by simp only [List.map, go_sem, seval, hs]; exact cj cl rfl) n7 r7 ?_
  simp only [go_sem, seval, hs]
  refine ⟨w7, ?_, S7⟩
  rcases S7 with ⟨rfl, _⟩ | ⟨ex, rfl⟩ <;> rfl
 obtain ⟨v, g, n1, w, e1, e2⟩ := this
 exact ⟨v, g, n1, w, e1, e2⟩
open Go Go.Vm
def ks (n : Int) : Bool := decide (0 <= n) && decide (n <= 1073741824)
theorem sr (n : Int) : ∃ h', call F 47 [vi .i64 n] [] = some (.ret (vb (ks n)), h') := by
 have : Ret F 47 [vi .i64 n] [] fun v h' => v = vb (ks n) := by
  refine eE1 (fn := f47) (n := 9) rfl rfl fun s hs h0 => ?_
  simp only [f47]
  unfold ks
  by_cases c : 0 <= n
  ·simp only [go_sem, seval, hs, h0, ge_iff_le, c, Bool.true_and]
  ·simp only [go_sem, seval, hs, h0, ge_iff_le, c, Bool.false_and]
 obtain ⟨v, h', n1, rfl⟩ := this
 exact ⟨h', n1⟩
open Go Go.Vm
def me (k : Nat) : Nat -> List UInt8 -> List (List UInt8)
 | 0, _ => []
 | m + 1, l => if l = [] then [] else l.take k :: me k m (l.drop k)
def pcs (k : Nat) (l : List UInt8) : List (List UInt8) := me k l.length l
theorem Gn (k : Nat) : ∀ (m : Nat) (l : List UInt8), (me k m l).length <= m
 | 0, _ => by simp [me]
 | m + 1, l => by
  unfold me
  split
  ·simp
  ·have := Gn k m (l.drop k); grind
theorem aj4 {h : ah} {z : Nat} {es : List (List CV)} {v : VV} (hv : SlV z es v) {k1 k2 k3 : IntKind} {a b : Nat} (hab : a <= b) (hb : b <= es.length) :
  ∃ v', SlV z ((es.drop a).take (b - a)) v' /\ slO h z v (some (vi k1 a)) (some (vi k2 b)) (some (vi k3 b)) = some (v', h) := by
 rcases hv with ⟨rfl, rfl⟩ | ⟨ex, rfl⟩
 ·simp at hb
  have ha : a = 0 := by omega
  subst hb ha
  exact ⟨br, .inl ⟨rfl, by simp⟩, by simp [slO, ak, mh, lz, bnd, pq]⟩
 ·refine ⟨.cv (.sl z ((es.drop a).take (b - a)) true), .inr ⟨_, rfl⟩, ?_⟩
  have h1 : (a : Int) <= (b : Int) := by omega
  have h2 : (b : Int) <= (es.length : Int) := by omega
  simp [slO, ak, mh, lz, bnd, pq, h1, h2]
theorem Xb {N : Nat} {s0 : List VV} (hs0 : s0.length = 13) (k2 : s0.getD 2 .undef = .ptr (N + 2) 0) {g : ah} {va : VV} {els : List (List CV)} (hA : g[N + 2]? = some (.box [va] false)) (hB : ej g 1 els va) {p0 : Option Jmp} (hp : g[N + 3]? = some (.loop [7] f72_0 f72_1 s0 .ready p0))
  {c : CV} (hl : els.length <= 1000000000) :
  ∃ h' va', call F (YB + (N + 3)) [.cv c] g = some (.ret (vb true), h') /\ h'[N + 3]? = some (.loop [7] f72_0 f72_1 s0 .ready none) /\ h'[N + 2]? = some (.box [va'] false) /\ ej h' 1 (els ++ [[c]]) va' /\ (∀ (j : Nat), j ≠ N + 2 -> ∀ (cells : List VV) (fr : Bool), g[j]? = some (.box cells fr) -> h'[j]? = some (.box cells fr)) := by
 have key := Gf (F := F) (id := N + 3) (by cases h : F (YB + (N + 3)) with
  | none => rfl
  | some fn => have := tlt h; omega) (ps := [7]) (asg := f72_0) (body := f72_1) (s0 := s0) (a := [.cv c]) (h := g) (P := fun v h' => v = vb true /\ ∃ va', h'[N + 3]? = some (.loop [7] f72_0 f72_1 s0 .ready none) /\ h'[N + 2]? = some (.box [va'] false) /\ ej h' 1 (els ++ [[c]]) va' /\ (∀ (j : Nat), j ≠ N + 2 -> ∀ (cells : List VV) (fr : Bool), g[j]? = some (.box cells fr) -> h'[j]? = some (.box cells fr))) hp rfl ?_
 ·grind
 have hset : tk s0 [7] [.cv c] = s0.set 7 (.cv c) := rfl
 rw [hset, bf f72_0.eq_1]
 simp only [go_sem, seval, hs0]
 refine ⟨rfl, p0, hp, ?_⟩
 dsimp only
 have hp1 : (g.set (N + 3) (.loop [7] f72_0 f72_1 s0 .busy p0))[N + 3]? = some (.loop [7] f72_0 f72_1 s0 .busy p0) := List.getElem?_set_self (ey hp)
 have hA1 : (g.set (N + 3) (.loop [7] f72_0 f72_1 s0 .busy p0))[N + 2]? = some (.box [va] false) := by grind
 have hB1 := hB.setLoop hp (.loop [7] f72_0 f72_1 s0 .busy p0)
 have kp : ∀ (j : Nat) (cells : List VV) (fr : Bool), g[j]? = some (.box cells fr) -> (g.set (N + 3) (.loop [7] f72_0 f72_1 s0 .busy p0))[j]? = some (.box cells fr) := fun j cells fr hj => by
  grind
 generalize g.set (N + 3) (.loop [7] f72_0 f72_1 s0 .busy p0) = g1 at hp1 hA1 hB1 kp
 have m1 : ∀ h : ah, mkO h 1 1 [.cv (.sc (.slice none 0 0))] [(0, 1, .cv c)] = some (.cv (.sl 1 [[c]] true), h) := fun _ => rfl
 rw [bf f72_1.eq_1]
 simp only [go_sem, seval, hs0, k2, im hA1, m1]
 refine Pn hB1 (new := [[c]]) (by simp only [go_sem, seval, hs0]) (by simp only [go_sem, seval, hs0]) (by grind) (by grind) (fun va' g2 B2 kg => ?_)
 have hA2 := kg.box hA1
 have hp2 := kg.loop hp1
 have st2 := zf (v := va') B2.vf_cell hA2 (show 0 < 1 by decide)
 simp only [List.set_cons_zero] at st2
 simp only [go_sem, seval, hs0, k2, st2]
 refine ⟨none, .busy, p0, rfl, by grind, rfl, va', List.getElem?_set_self (by grind), ?_, ?_, ?_⟩
 ·grind
 ·refine ej.setLoop (ps := [7]) (a := f72_0) (b := f72_1) (s := s0) (t := .busy) (p := p0) (B2.setBox hA2 _) (by grind) _
 ·intro j hj cells fr ho
  have h1 := kg.box (kp j cells fr ho)
  grind
theorem f73_loop {N k : Nat} (hk : 0 < k) (hk2 : k <= 1000000) {s0 : List VV} (hs0 : s0.length = 13) (k2 : s0.getD 2 .undef = .ptr (N + 2) 0) {b : List UInt8} {u : VV} (hu : SlV 1 (eB b) u) (hbl : b.length <= 1000000000) :
  ∀ (m i : Nat) (els : List (List CV)) (va : VV) (ps : List (List UInt8)) (s : List VV) (g : ah) (Q : Pst), i + m = b.length -> els.length <= i -> g[N]? = some (.box [u] false) -> g[N + 1]? = some (.box [vi .i64 k] false) -> g[N + 2]? = some (.box [va] false) -> ej g 1 els va -> PgE els ps ->
   g[N + 3]? = some (.loop [7] f72_0 f72_1 s0 .ready none) -> s.length = 31 -> s.getD 0 .undef = .yield (N + 3) -> s.getD 1 .undef = .ptr N 0 -> s.getD 2 .undef = .ptr (N + 1) 0 -> s.getD 4 .undef = vi .i64 i ->
   (∀ s' g' els' va', s'.length = 31 -> g'[N + 2]? = some (.box [va'] false) -> ej g' 1 els' va' -> PgE els' (ps ++ me k m (b.drop i)) -> g'[N + 3]? = some (.loop [7] f72_0 f72_1 s0 .ready none) -> Q (.exit 0) ⟨s', g'⟩) -> X F (.loop f73_0) ⟨s, g⟩ Q := by
 intro m
 induction m using Nat.strongRecOn with
 | _ m ih =>
  intro i els va ps s g Q hi hel hN hN1 hA hB hP hp hs e0 e1 e2 e4 hQ
  by_cases hm : m = 0
  ·subst hm
   have c : ¬ ((i : Nat) : Int) < (b.length : Int) := by omega
   rw [aw, bf f73_0.eq_1]
   simp only [go_sem, seval, hs, e4, e1, im hN, hu.ln, ax, c]
   exact hQ _ g els va (by simp only [ae, hs]) hA hB (by simpa [me] using hP) hp
  ·have c : ((i : Nat) : Int) < (b.length : Int) := by omega
   obtain ⟨m', rfl⟩ : ∃ m', m = m' + 1 := ⟨m - 1, by omega⟩
   obtain ⟨w1, w1a, w1b⟩ := hu.from_ (h := g) (k := .i64) (a := (i : Int)) (by omega) (by rw [ax]; omega)
   rw [Int.toNat_natCast, Wq] at w1a
   have hln := w1a.ln
   rw [ax, List.length_drop] at hln
   have hmn : min (k : Int) ((b.length - i : Nat) : Int) = ((min k (b.length - i) : Nat) : Int) := by omega
   have hend : IntKind.i64.wrap ((i : Int) + ((min k (b.length - i) : Nat) : Int)) = ((i + min k (b.length - i) : Nat) : Int) := by rw [IntWalk.i64_in _ (by omega)]; omega
   have hnx : IntKind.i64.wrap ((i : Int) + (k : Int)) = ((i + k : Nat) : Int) := by rw [IntWalk.i64_in _ (by omega)]; omega
   obtain ⟨w2, w2a, w2b⟩ := aj4 (h := g) hu (k1 := .i64) (k2 := .i64) (k3 := .i64) (a := i) (b := i + min k (b.length - i)) (by omega) (by rw [ax]; omega)
   rw [Ek, Nat.add_sub_cancel_left] at w2a
   have htk : (b.drop i).take (min k (b.length - i)) = (b.drop i).take k := by
    rw [List.take_eq_take_iff, List.length_drop]; omega
   rw [htk] at w2a
   obtain ⟨c2, rfl⟩ : ∃ c2, w2 = .cv c2 := by rcases w2a with ⟨rfl, _⟩ | ⟨ex, rfl⟩ <;> exact ⟨_, rfl⟩
   obtain ⟨g2, va2, n2, hp2, hA2, hB2, kp2⟩ := Xb hs0 k2 hA hB hp (c := c2) (by omega)
   have hne : b.drop i ≠ [] := by
    intro e
    have := congrArg List.length e
    rw [List.length_drop, List.length_nil] at this; omega
   have hpc : me k (m' + 1) (b.drop i) = (b.drop i).take k :: me k m' ((b.drop i).drop k) := by
    rw [me, if_neg hne]
   rw [hpc] at hQ
   rw [aw, bf f73_0.eq_1]
   simp only [go_sem, seval, hs, e4, e1, im hN, hu.ln, ax, c]
   refine jz rfl ?_
   simp only [go_sem, seval, hs, e4, e1, e2, im hN, im hN1, w1b, hln, hmn]
   simp only [go_sem, seval, hs, e4, e1, e0, im hN, hend, w2b]
   refine Eg (id := N + 3) (by simp only [go_sem, seval, hs]) (by simp only [List.map, go_sem, seval, hs]; exact n2) ?_
   have hN2 := kp2 N (by omega) _ _ hN
   have hN12 := kp2 (N + 1) (by omega) _ _ hN1
   simp only [go_sem, seval, hs, e4, e2, im hN12, hnx]
   by_cases hlast : b.length <= i + k
   ·-- the last one
    have hdk : (b.drop i).drop k = [] := by rw [List.drop_drop]; exact List.drop_eq_nil_of_le (by omega)
    have hnil : ∀ n, me k n ([] : List UInt8) = [] := fun n => by cases n <;> simp [me]
    have c9 : ¬ ((i + k : Nat) : Int) < (b.length : Int) := by omega
    rw [hdk, hnil] at hQ
    rw [aw, bf f73_0.eq_1]
    simp only [go_sem, seval, hs, e1, im hN2, hu.ln, ax, c9]
    exact hQ _ g2 _ va2 (by simp only [ae, hs]) hA2 hB2 (hP.snoc w2a) hp2
   ·refine ih (m' + 1 - k) (by omega) (i + k) _ va2 (ps ++ [(b.drop i).take k]) _ _ Q (by omega) (by simp; omega) hN2 hN12 hA2 hB2 (hP.snoc w2a) hp2 (by simp only [ae, hs]) (by simp only [go_sem, seval, e0]) (by simp only [go_sem, seval, e1]) (by simp only [go_sem, seval, e2]) (by simp only [go_sem, seval, hs]) (fun s' g' els' va' a1 a2 a3 a4 a5 => hQ s' g' els' va' a1 a2 a3 ?_ a5)
    rw [List.append_assoc] at a4
    have : me k m' ((b.drop i).drop k) = me k (m' + 1 - k) (b.drop (i + k)) := by
     rw [List.drop_drop]
     have key : ∀ (n1 n2 : Nat) (l : List UInt8), l.length <= n1 -> l.length <= n2 -> me k n1 l = me k n2 l := by
      intro n1
      induction n1 with
      | zero =>
       intro n2 l h1 h2
       have : l = [] := List.eq_nil_of_length_eq_zero (by omega)
       subst this
       cases n2 <;> simp [me]
      | succ n1 ih1 =>
       intro n2 l h1 h2
       by_cases hl : l = []
       ·subst hl; cases n2 <;> simp [me]
       ·cases n2 with
        | zero => exact absurd (List.eq_nil_of_length_eq_zero (by omega)) hl
        | succ n2 =>
         have : 0 < l.length := List.length_pos_iff.2 hl
         rw [me, if_neg hl, me, if_neg hl, ih1 n2 _ (by rw [List.length_drop]; omega) (by rw [List.length_drop]; omega)]
     refine key _ _ _ (by rw [List.length_drop]; omega) (by rw [List.length_drop]; omega)
    rw [this]
    exact a4
theorem Lc {b : List UInt8} {u : VV} (hu : SlV 1 (eB b) u) (hbl : b.length <= 1000000000) {h : ah} {k N : Nat} (hk : 0 < k) (hk2 : k <= 1000000) (hN : h.length = N + 2) (hN1 : h[N]? = some (.box [u] false)) (hN2 : h[N + 1]? = some (.box [vi .i64 k] false)) :
  Ret F 44 [.func 73 [.ptr N 0, .ptr (N + 1) 0]] h fun v g => ∃ els, ej g 1 els v /\ PgE els (pcs k b) := by
 have n55 : Ret F 72 [br, .func 73 [.ptr N 0, .ptr (N + 1) 0]] h fun v g => ∃ els, ej g 1 els v /\ PgE els (pcs k b) := by
  refine bj (fn := f72) rfl ?_
  simp only [f72]
  generalize hs0 : ([br, .func 73 [.ptr N 0, .ptr (N + 1) 0]] ++ List.replicate _ VV.undef : List VV) = s
  have hs : s.length = 13 := by grind
  have h0 : s.getD 0 .undef = br := by grind
  have h1 : s.getD 1 .undef = .func 73 [.ptr N 0, .ptr (N + 1) 0] := by grind
  clear hs0
  simp only [go_sem, seval, hs, h0]
  rw [Yd rfl]
  simp only [go_sem, seval, hs, h1, hN]
  generalize hs1 : ((s.set 2 (VV.ptr (N + 2) 0)).set 4 br).set 6 (.func 73 [.ptr N 0, .ptr (N + 1) 0]) = s1
  have a0 : s1.length = 13 := by grind
  have a2 : s1.getD 2 .undef = .ptr (N + 2) 0 := by grind
  have a6 : s1.getD 6 .undef = .func 73 [.ptr N 0, .ptr (N + 1) 0] := by grind
  have gl : (h ++ [VO.box [br] false]).length = N + 3 := by grind
  have g0 : (h ++ [VO.box [br] false])[N]? = some (.box [u] false) := by grind
  have g1 : (h ++ [VO.box [br] false])[N + 1]? = some (.box [vi .i64 k] false) := by grind
  have g2 : (h ++ [VO.box [br] false])[N + 2]? = some (.box [br] false) := by grind
  generalize h ++ [VO.box [br] false] = g at gl g0 g1 g2
  have p2 : ∀ (j : Nat) (o : VO), g[j]? = some o -> (g ++ [.loop [7] f72_0 f72_1 s1 .ready none])[j]? = some o := fun j o ho => by grind
  have hloop : (g ++ [.loop [7] f72_0 f72_1 s1 .ready none])[N + 3]? = some (.loop [7] f72_0 f72_1 s1 .ready none) := by grind
  have zd : Ret F 73 [.yield (N + 3), .ptr N 0, .ptr (N + 1) 0] (g ++ [.loop [7] f72_0 f72_1 s1 .ready none]) fun v g' => ∃ els' va', g'[N + 2]? = some (.box [va'] false) /\ ej g' 1 els' va' /\ PgE els' (pcs k b) /\ g'[N + 3]? = some (.loop [7] f72_0 f72_1 s1 .ready none) := by
   refine bj (fn := f73) rfl ?_
   simp only [f73]
   generalize hs0 : ([.yield (N + 3), .ptr N 0, .ptr (N + 1) 0] ++ List.replicate _ VV.undef : List VV) = s
   have hs : s.length = 31 := by grind
   have h0 : s.getD 0 .undef = .yield (N + 3) := by grind
   have h1 : s.getD 1 .undef = .ptr N 0 := by grind
   have h2 : s.getD 2 .undef = .ptr (N + 1) 0 := by grind
   clear hs0
   simp only [go_sem, Nat.reduceLT, Nat.reduceEqDiff, reduceCtorEq, Int.reduceLT, Int.reduceEq, hs]
   refine f73_loop hk hk2 a0 a2 hu hbl b.length 0 [] br [] _ _ _ (by omega) (by simp) (p2 _ _ g0) (p2 _ _ g1) (p2 _ _ g2) (ej.nil _ _) .nil hloop (by grind) (by grind) (by grind) (by grind) (by grind) (fun s' g' els' va' b0 b1 b2 b3 b4 => ?_)
   simp only [go_sem, seval, b0]
   exact ⟨els', va', b1, b2, by simpa [pcs] using b3, b4⟩
  obtain ⟨v56, g3, n56, els', va', c1, c2, c3, c4⟩ := zd
  refine yw (f := 73) (caps := [.ptr N 0, .ptr (N + 1) 0]) (t := .ready) (p := none) a6 (by rw [gl]; exact n56) (by grind) (by grind) ?_
  rw [gl]
  have d1 : (g3.set (N + 3) (.loop [7] f72_0 f72_1 s1 .exhausted none))[N + 2]? = some (.box [va'] false) := by grind
  have d2 := c2.setLoop c4 (.loop [7] f72_0 f72_1 s1 .exhausted none)
  generalize g3.set (N + 3) (.loop [7] f72_0 f72_1 s1 .exhausted none) = g4 at d1 d2
  simp only [go_sem, seval, Lv, a0, a2, im d1]
  grind
 obtain ⟨v, g, n1, P⟩ := n55
 have : Ret F 44 [.func 73 [.ptr N 0, .ptr (N + 1) 0]] h fun v g => ∃ els, ej g 1 els v /\ PgE els (pcs k b) := by
  refine bj (fn := f44) rfl ?_
  simp only [f44]
  generalize hs0 : ([.func 73 [.ptr N 0, .ptr (N + 1) 0]] ++ List.replicate _ VV.undef : List VV) = s
  have hs : s.length = 5 := by grind
  have h0 : s.getD 0 .undef = .func 73 [.ptr N 0, .ptr (N + 1) 0] := by grind
  clear hs0
  simp only [go_sem, seval, hs, h0]
  refine ap (by simp only [List.map, go_sem, seval, hs]; exact n1) ?_
  simp only [go_sem, seval, hs]
  exact P
 exact this
end Go.V08
