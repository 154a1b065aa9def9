/- Part of a proof: of what it says, and when, each theorem tells itself. -/
import Derived.Test.YtbhoknaipfnlnaaC08All6
import Derived.Test.YtbhoknaipfnlnaaRows
set_option linter.unusedSimpArgs false
set_option linter.unusedVariables false
namespace Go.V08
open Go Go.Vm
theorem Gd {α : Type} {l' l : List α} {k : Nat} (h : l'.Sublist (l.take k)) : l'.Sublist l := h.trans (List.take_sublist k l)
theorem afx {o : Nat × List UInt8} {l' : List (Nat × List UInt8)} (h : l'.Sublist [o]) : l' = [] \/ l' = [o] := by
 grind
theorem Ue {n : Nat} {d : D} (hl : Live d) (hn : d.firm.length = n) {e a : Nat} {rows : List KV} (hR : Rc n d.firm e a rows) (he : e < 1073741824) {pgs : Sec} (hr : gc n rows = some pgs) :
  (∀ F, Out (yp d pgs (1 - a) (e + 1)) F -> ∃ e' a', e' <= e + 1 /\ Rc n F e' a' rows) /\
  ((yp d pgs (1 - a) (e + 1)).dark = false -> Live (yp d pgs (1 - a) (e + 1)) /\ Vd n (yp d pgs (1 - a) (e + 1)).firm (e + 1) (1 - a) rows [] 0) /\
  d.w < (yp d pgs (1 - a) (e + 1)).w /\ (d.fused = false -> (yp d pgs (1 - a) (e + 1)).fused = false) := by
 obtain ⟨b0, b1⟩ := xt n
 obtain ⟨p1, p2⟩ := rm hR.dn.lo
 have hlo := hR.dn.lo
 have ha := hR.a1
 have hp : pgs.length <= an n := (ic hr).2
 have hsl := oi hr
 have h256 := mu (ic hr).1
 have hfl := sq (k := 256) pgs h256
 obtain ⟨_, h64, _⟩ := wx (k := 64) (by omega) (4 * pgs.length) pgs.flatten (by omega)
 rw [La, hn]
 generalize hLs : pcs 64 pgs.flatten = Ls at hsl h64
 have h64' : ∀ b ∈ Ls, b.length <= 64 := fun b hb => by grind
 have hin : mb n (1 - a) + Ls.length <= d.firm.length := by
  grind
 have hne : Ls ≠ [] := by
  intro e0
  have hb := Iv (ic hr).1
  have : pgs.length = 0 := by grind
  have : pgs = [] := List.eq_nil_of_length_eq_zero this
  rw [this] at hb
  rw [show ([] : Sec).dropLast = [] from rfl] at hb
  have h2 := xi (ic hr).1
  grind
 obtain ⟨hP, hw, hfu⟩ := alu hl hin h64'
 have hw := hw hne
 have hRa : ∀ l', l'.Sublist (wl (mb n (1 - a)) Ls) -> Rc n (pe d.firm l') e a rows := fun l' hs => hR.area (by omega) h64' hs
 have hn1 : (ph d (mb n (1 - a)) Ls).firm.length = n := by rw [ahl, hn]
 generalize hd1 : ph d (mb n (1 - a)) Ls = d1 at hw hfu hn1
 have dk : d1.dark = true -> ph d1 ((e + 1) % 2) [gj (e + 1) (1 - a) pgs.length] = d1 := fun h => Ev h _ _
 have hO1 : ∀ F, Out d1 F -> Rc n F e a rows := by
  rintro F ⟨l', s1, rfl⟩
  cases hP with
  | done h1 h2 =>
   rw [hd1] at h1 h2
   rw [h1] at s1
   rw [List.sublist_nil.1 s1]
   show Rc n d1.firm e a rows
   grind
  | cut h1 h2 k h3 =>
   rw [hd1] at h1 h2 h3
   rw [h3] at s1
   rw [h2]
   exact hRa _ (Gd s1)
 cases hdk : d1.dark with
 | true =>
  grind
 | false =>
  cases hP with
  | cut h1 _ _ _ => grind
  | done h1 h2 =>
   rw [hd1] at h1 h2
   have hl1 : Live d1 := ⟨h1, hdk⟩
   have hR1 : Rc n d1.firm e a rows := by grind
   have hA : ar n d1.firm (1 - a) (4 * pgs.length) = Ls := by
    have hx := acb (a := 1 - a) (F := d.firm) (Ls := Ls) (by omega) hR.dn (by omega) h64
    grind
   have hV := hR1.head he hr (by rw [hA, hLs])
   have hpd : pad (gj (e + 1) (1 - a) pgs.length) = gj (e + 1) (1 - a) pgs.length := Pg ru
   obtain ⟨hP2, hw2, hfu2⟩ := alu hl1 (a := (e + 1) % 2) (L := [gj (e + 1) (1 - a) pgs.length]) (by grind) (fun b hb => by rw [List.mem_singleton.1 hb, ru]; omega)
   have hw2 := hw2 (by simp)
   have hset : pe d1.firm (wl ((e + 1) % 2) [gj (e + 1) (1 - a) pgs.length]) = d1.firm.set ((e + 1) % 2) (gj (e + 1) (1 - a) pgs.length) := by
    show d1.firm.set ((e + 1) % 2) (pad _) = _
    rw [hpd]
   rw [<- hset] at hV
   have hw3 := Nat.lt_trans hw hw2
   have hRV := hV.rc
   have hRV : Rc n (pe d1.firm (wl ((e + 1) % 2) [gj (e + 1) (1 - a) pgs.length])) (e + 1) (1 - a) rows := hRV
   refine ⟨fun F hF => ?_, fun hd2 => ?_, hw3, fun h => hfu2 (hfu h)⟩
   ·obtain ⟨l', s1, rfl⟩ := hF
    cases hP2 with
    | done g1 g2 =>
     rw [g1] at s1
     rw [List.sublist_nil.1 s1]
     refine ⟨e + 1, 1 - a, Nat.le_refl _, ?_⟩
     show Rc n (ph d1 ((e + 1) % 2) [gj (e + 1) (1 - a) pgs.length]).firm (e + 1) (1 - a) rows
     grind
    | cut g1 g2 k g3 =>
     rw [g3] at s1
     rw [g2]
     rcases afx (Gd s1) with rfl | rfl
     ·exact ⟨e, a, by omega, hR1⟩
     ·exact ⟨e + 1, 1 - a, Nat.le_refl _, hRV⟩
   ·cases hP2 with
    | cut g1 _ _ _ => grind
    | done g1 g2 => exact ⟨⟨g1, hd2⟩, by grind⟩
structure Mem (n : Nat) (z : S) : Prop where
 dn : z.d.firm.length = n
 lo : 64 <= n
 hi : n <= 4096
 a1 : z.a <= 1
 room : ∃ p, gc n z.rows = some p
 used : z.used <= jn n
 fr : z.fr <= z.used
structure Run (n : Nat) (z : S) : Prop where
 live : Live z.d
 v : ∃ base L, Vd n z.d.firm z.e z.a base L z.used /\ z.rows = pa base L /\ z.fr = L.length
theorem aim {n : Nat} {z : S} (hM : Mem n z) (hR : Run n z) (he : z.e < 1073741824) {pg : Sec} (hr : gc n z.rows = some pg) :
  Mem n (ckF z pg) /\ (∀ F, Out (ckF z pg).d F -> ∃ e' a', e' <= (ckF z pg).e /\ Rc n F e' a' z.rows) /\ ((ckF z pg).d.dark = false -> Run n (ckF z pg)) /\ z.d.w < (ckF z pg).d.w /\ (z.d.fused = false -> (ckF z pg).d.fused = false) := by
 obtain ⟨base, L, hV, hrw, _⟩ := hR.v
 have hRc := hV.rc
 rw [<- hrw] at hRc
 obtain ⟨h1, h2, h3, h4⟩ := Ue hR.live hM.dn hRc he hr
 refine ⟨⟨by show (yp z.d pg (1 - z.a) (z.e + 1)).firm.length = n; rw [Wk, hM.dn], hM.lo, hM.hi, by show 1 - z.a <= 1; omega, ⟨pg, hr⟩, Nat.zero_le _, Nat.le_refl _⟩, h1, fun hd => ?_, h3, h4⟩
 obtain ⟨g1, g2⟩ := h2 hd
 exact ⟨g1, z.rows, [], g2, rfl, rfl⟩
theorem Ur {n : Nat} {z : S} (hM : Mem n z) (hR : Run n z) {c : List Ch} (hc : FrOK c) (hu : z.used + (aq z.e z.fr c).length <= jn n) (hroom : ∃ p, gc n (dg z.rows c) = some p) :
  Mem n (tw z c (aq z.e z.fr c)) /\ (∀ F, Out (tw z c (aq z.e z.fr c)).d F -> ∃ e' a', e' <= z.e /\ (Rc n F e' a' z.rows \/ Rc n F e' a' (dg z.rows c))) /\
  ((tw z c (aq z.e z.fr c)).d.dark = false -> Run n (tw z c (aq z.e z.fr c))) /\ z.d.w < (tw z c (aq z.e z.fr c)).d.w /\ (z.d.fused = false -> (tw z c (aq z.e z.fr c)).d.fused = false) := by
 obtain ⟨base, L, hV, hrw, hfr⟩ := hR.v
 have hfs := jp z.e z.fr c
 have hfr1 := hM.fr
 have hlo := hM.lo
 obtain ⟨p1, p2⟩ := rm hlo
 have he : z.e < 4294967296 := by have := hV.e2; omega
 have h64 : ∀ b ∈ aq z.e z.fr c, b.length <= 64 := fun b hb => by rw [(yj he b hb).2]; omega
 have hd : (tw z c (aq z.e z.fr c)).d = ph z.d (2 + z.used) (aq z.e z.fr c) := rfl
 obtain ⟨hP, hw, hfu⟩ := alu hR.live (a := 2 + z.used) (L := aq z.e z.fr c) (by rw [hM.dn]; omega) h64
 have hw := hw (by grind)
 have hpart := fun l' hs => hV.part hc (by grind) (by grind) (l' := l') hs
 rw [<- hfr, <- hrw] at hpart
 have hVn : Vd n (pe z.d.firm (wl (2 + z.used) (aq z.e z.fr c))) z.e z.a base (L ++ [c]) (z.used + (aq z.e z.fr c).length) := (hpart _ (.refl _)).1 rfl
 have hfold : pa base (L ++ [c]) = dg z.rows c := by rw [hrw]; unfold pa; grind
 have hRn := hVn.rc
 rw [hfold] at hRn
 refine ⟨⟨by rw [hd, ahl, hM.dn], hM.lo, hM.hi, hM.a1, hroom, hu, by show z.fr + 1 <= z.used + (aq z.e z.fr c).length; omega⟩, fun F hF => ?_, fun hdk => ?_, by grind, fun h => by grind⟩
 ·rw [hd] at hF
  obtain ⟨l', s1, rfl⟩ := hF
  cases hP with
  | done g1 g2 =>
   rw [g1] at s1
   rw [List.sublist_nil.1 s1]
   refine ⟨z.e, z.a, Nat.le_refl _, .inr ?_⟩
   show Rc n (ph z.d (2 + z.used) (aq z.e z.fr c)).firm _ _ _
   grind
  | cut g1 g2 k g3 =>
   rw [g3] at s1
   rw [g2]
   rcases (hpart l' (Gd s1)).2 with h | h
   ·exact ⟨z.e, z.a, Nat.le_refl _, .inl h⟩
   ·rw [h]; exact ⟨z.e, z.a, Nat.le_refl _, .inr hRn⟩
 ·rw [hd] at hdk
  cases hP with
  | cut g1 _ _ _ => grind
  | done g1 g2 =>
   refine ⟨⟨g1, hdk⟩, base, L ++ [c], ?_, hfold.symm, by show z.fr + 1 = _; grind⟩
   show Vd n (ph z.d (2 + z.used) (aq z.e z.fr c)).firm z.e z.a base (L ++ [c]) (z.used + (aq z.e z.fr c).length)
   grind
open Go Go.Vm
theorem Ip {d : D} (h : d.dark = true) (pg : Sec) (a e : Nat) : yp d pg a e = d := by rw [La, Ev h, Ev h]
theorem Ay {z : S} (h : z.d.dark = true) (c : List Ch) (ps : Sec) : (tw z c ps).d = z.d := Ev h _ _
theorem Po {z : S} (h : z.d.dark = true) (pg : Sec) : (ckF z pg).d = z.d := Ip h _ _ _
theorem ae5 {c : List Ch} (hl : c.any lng = false) (hg : ∀ p ∈ c, p.2.2 = true -> p.2.1 = []) (hn : c.length <= 5000) (hp : (pcs 49 (gy c)).length <= 200) : FrOK c := by
 refine ⟨fun p hp => ?_, hn, hp⟩
 have := List.any_eq_false.1 hl p hp
 unfold lng at this
 simp only [Bool.or_eq_true, decide_eq_true_eq, not_or] at this
 exact ⟨by omega, by omega, hg p hp⟩
structure ComP (n : Nat) (z : S) (c : List Ch) (r : S × Nat) : Prop where
 k : r.2 = 0 \/ r.2 = 3 \/ r.2 = 21
 mem : Mem n r.1
 e : r.1.e <= z.e + 1
 not : r.2 ≠ 0 \/ c = [] -> r.1 = z
 yes : r.2 = 0 -> r.1.rows = dg z.rows c
 dark : z.d.dark = true -> r.1.d = z.d
 run : Run n z -> r.2 = 0 -> c ≠ [] -> z.d.w < r.1.d.w /\ (∀ F, Out r.1.d F -> ∃ e' a', e' <= r.1.e /\ (Rc n F e' a' z.rows \/ Rc n F e' a' r.1.rows)) /\ (r.1.d.dark = false -> Run n r.1) /\ (z.d.fused = false -> r.1.d.fused = false)
theorem Gg {n : Nat} {z : S} {c : List Ch} (hM : Mem n z) {k : Nat} (hk : k = 3 \/ k = 21) : ComP n z c (z, k) :=
 have h0 : k ≠ 0 := by omega
 ⟨.inr hk, hM, Nat.le_succ _, fun _ => rfl, fun h => absurd h h0, fun _ => rfl, fun _ h => absurd h h0⟩
theorem sw {n : Nat} {z : S} {c : List Ch} (hM : Mem n z) (he : z.e < 1073741823) (hc : c.length <= 5000) (hg : ∀ p ∈ c, p.2.2 = true -> p.2.1 = []) : ComP n z c (bt z c) := by
 by_cases hn : c = []
 ·subst hn
  have : bt z [] = (z, 0) := by unfold bt; rw [if_pos rfl]
  rw [this]
  exact ⟨.inl rfl, hM, Nat.le_succ _, fun _ => rfl, fun _ => rfl, fun _ => rfl, fun _ _ h => absurd rfl h⟩
 cases hl : c.any lng with
 | true =>
  have : bt z c = (z, 3) := by unfold bt; rw [if_neg hn, if_pos hl]
  rw [this]
  exact Gg hM (.inl rfl)
 | false =>
  unfold bt
  rw [if_neg hn, if_neg (by rw [hl]; decide)]
  have hdn := hM.dn
  obtain ⟨pg0, hr0⟩ := hM.room
  rw [hdn]
  cases hrm : gc n (dg z.rows c) with
  | none => exact Gg hM (.inr rfl)
  | some pgA =>
   cases hpf : dx z.e z.fr c with
   | none => exact Gg hM (.inr rfl)
   | some ps =>
    obtain ⟨hps, h200⟩ := pj hpf
    have hF := ae5 hl hg hc h200
    dsimp only
    by_cases c2 : (bp n).1 < ps.length
    ·rw [if_pos c2]; exact Gg hM (.inr rfl)
    ·rw [if_neg c2]
     by_cases c3 : (bp n).1 < z.used + ps.length
     ·rw [if_pos c3, hr0]
      obtain ⟨ps', hp2, hpl⟩ := xh hpf (e' := z.e + 1) (by omega)
      obtain ⟨hps', _⟩ := pj (n := 0) hp2
      rw [hp2]
      have hu' : (ckF z pg0).used + (aq (ckF z pg0).e (ckF z pg0).fr c).length <= jn n := by
       show 0 + (aq (z.e + 1) 0 c).length <= jn n
       rw [<- hps', hpl]
       have : ¬ jn n < ps.length := c2
       omega
      have hMk : Mem n (ckF z pg0) := ⟨by show (yp z.d pg0 (1 - z.a) (z.e + 1)).firm.length = n; rw [Wk, hM.dn], hM.lo, hM.hi, by show 1 - z.a <= 1; omega, ⟨pg0, hr0⟩, Nat.zero_le _, Nat.le_refl _⟩
      rw [hps']
      have hfs := jp (z.e + 1) 0 c
      have hMa : Mem n (tw (ckF z pg0) c (aq (z.e + 1) 0 c)) := ⟨by show (ph (ckF z pg0).d _ _).firm.length = n; rw [ahl, hMk.dn], hM.lo, hM.hi, hMk.a1, ⟨pgA, hrm⟩, hu', by show 0 + 1 <= 0 + (aq (z.e + 1) 0 c).length; omega⟩
      refine ⟨.inl rfl, hMa, Nat.le_refl _, fun h => ?_, fun _ => rfl, fun h => ?_, fun hR _ _ => ?_⟩
      ·rcases h with h | h
       ·exact absurd rfl h
       ·exact absurd h hn
      ·show (tw (ckF z pg0) c (aq (z.e + 1) 0 c)).d = z.d
       rw [Ay (by rw [Po h]; exact h), Po h]
      ·obtain ⟨k1, k2, k3, k4, k5⟩ := aim hM hR (by omega) hr0
       cases hdk : (ckF z pg0).d.dark with
       | true =>
        have hsame : (tw (ckF z pg0) c (aq (z.e + 1) 0 c)).d = (ckF z pg0).d := Ay hdk _ _
        dsimp only
        rw [hsame]
        refine ⟨k4, fun F hF => ?_, fun h => ?_, k5⟩
        ·obtain ⟨e', a', q1, q2⟩ := k2 F hF
         exact ⟨e', a', q1, .inl q2⟩
        ·cases hdk.symm.trans h
       | false =>
        obtain ⟨m1, m2, m3, m4, m5⟩ := Ur k1 (k3 hdk) hF hu' ⟨pgA, hrm⟩
        exact ⟨Nat.lt_trans k4 m4, m2, m3, fun h => m5 (k5 h)⟩
     ·rw [if_neg c3, hps]
      have hu' : z.used + (aq z.e z.fr c).length <= jn n := by
       rw [<- hps]
       have : ¬ jn n < z.used + ps.length := c3
       omega
      have hfs := jp z.e z.fr c
      have hfr := hM.fr
      have hMa : Mem n (tw z c (aq z.e z.fr c)) := ⟨by show (ph z.d _ _).firm.length = n; rw [ahl, hM.dn], hM.lo, hM.hi, hM.a1, ⟨pgA, hrm⟩, hu', by show z.fr + 1 <= z.used + (aq z.e z.fr c).length; omega⟩
      refine ⟨.inl rfl, hMa, Nat.le_succ _, fun h => ?_, fun _ => rfl, fun h => Ay h _ _, fun hR _ _ => ?_⟩
      ·rcases h with h | h
       ·exact absurd rfl h
       ·exact absurd h hn
      ·obtain ⟨m1, m2, m3, m4, m5⟩ := Ur hM hR hF hu' ⟨pgA, hrm⟩
       exact ⟨m4, m2, m3, m5⟩
open Go Go.Vm
theorem qj {d : D} (h : d.loose = []) (i : Nat) : d.cell i = d.firm.getD i [] := by unfold D.cell; rw [h]; rfl
theorem Ni {d : D} (h : d.loose = []) {a m : Nat} (hm : a + m <= d.firm.length) : Ce d a m = (d.firm.drop a).take m := by
 apply List.ext_getElem?
 intro i
 unfold Ce
 by_cases hi : i < m
 ·rw [List.getElem?_map, List.getElem?_range hi, Option.map_some, qj h, List.getElem?_take_of_lt hi, List.getElem?_drop, List.getD_eq_getElem?_getD]
  obtain ⟨b, hb⟩ : ∃ b, d.firm[a + i]? = some b := ⟨_, List.getElem?_eq_getElem (by omega)⟩
  rw [hb]; rfl
 ·rw [List.getElem?_eq_none (by simp; omega), List.getElem?_eq_none (by rw [List.length_take]; omega)]
theorem Zo {d : D} (h : d.loose = []) {e a pg : Nat} (hd : Hd d.firm.length d.firm e a pg) : rr d = some (e, a, pg) := by
 obtain ⟨h1, h2⟩ := hd
 rcases (show e % 2 = 0 \/ e % 2 = 1 by omega) with he | he
 ·rw [he] at h1 h2
  have h2 : ∀ x, ju d.firm.length (d.firm.getD 1 []) = some x -> x.1 < e := h2
  refine sj (x := some (e, a, pg)) (y := ju d.firm.length (d.firm.getD 1 [])) (by rw [qj h]; exact h1) (by rw [qj h]) ?_
  cases hy : ju d.firm.length (d.firm.getD 1 []) with
  | none => rfl
  | some y =>
   have := h2 y hy
   show (if e < y.1 then some y else some (e, a, pg)) = _
   rw [if_neg (by omega)]
 ·rw [he] at h1 h2
  have h2 : ∀ x, ju d.firm.length (d.firm.getD 0 []) = some x -> x.1 < e := h2
  refine sj (x := ju d.firm.length (d.firm.getD 0 [])) (y := some (e, a, pg)) (by rw [qj h]) (by rw [qj h]; exact h1) ?_
  cases hx : ju d.firm.length (d.firm.getD 0 []) with
  | none => rfl
  | some x =>
   have := h2 x hx
   show (if x.1 < e then some (e, a, pg) else some x) = _
   rw [if_pos this]
structure OpenP (n : Nat) (e : Nat) (rows : List KV) (d : D) (k : Nat) (z : S) : Prop where
 rw_ : z.rows = rows
 ep : z.e = e + 1
 us : z.used = 0
 fr : z.fr = 0
 mem : Mem n z
 out : ∀ F, Out z.d F -> ∃ e' a', e' <= e + 1 /\ Rc n F e' a' rows
 run : z.d.dark = false -> Run n z
 nf : d.fused = false -> z.d.fused = false
 lim : z.d.Lim k
theorem Pa {h : ah} {p : Nat} {f l : Option Nat} {d : D} (hD : ev h p f l d) (hl : d.loose = []) {n e a : Nat} {rows : List KV} (hR : Rc n d.firm e a rows) (he : e < 1073741824) {k : Nat} (hL : d.Lim (k + 3000)) :
  Ret F 13 [.ptr p 0] h fun v g => ∃ q l' z, v = .tup [.ptr q 0, vi .u16 0] /\ h.length <= q /\ Moved h g p f l l' z.d /\ StoreAt g q p f l' z /\ OpenP n e rows d k z := by
 have hn : d.firm.length = n := hR.dn.len
 obtain ⟨base, pgs, L, h1, h2, h3, h4, h5, h6, h7⟩ := hR.ex
 obtain ⟨pgR, hr⟩ := hR.room
 obtain ⟨p1, p2⟩ := rm hR.dn.lo
 have hp : pgs.length <= an n := (ic h2).2
 have hpR : pgR.length <= an n := (ic hr).2
 have hlo := hR.dn.lo
 have hhi := hR.dn.hi
 have hbld := (ic h2).1
 have h256 := mu hbld
 have hfl := sq (k := 256) pgs h256
 obtain ⟨hs1, _, hs3⟩ := wx (k := 64) (by omega) (4 * pgs.length) pgs.flatten (by rw [hfl]; omega)
 obtain ⟨hin, hin2⟩ := Ku hlo hR.a1 hp
 have hf : rr d = some (e, a, pgs.length) := Zo hl (by rw [hn]; exact h1)
 have hlaid : Vj d a pgs.length = (base, 0) := by
  unfold Vj
  rw [hn, Ni hl (by rw [hn]; exact hin)]
  have : (d.firm.drop (mb n a)).take (pgs.length * 4) = pcs 64 pgs.flatten := by rw [Nat.mul_comm]; exact h3
  rw [this, hs3, ael (by omega) pgs h256]
  exact xi hbld
 have hjr : Ce d 2 (bp d.firm.length).1 = jr n d.firm := by
  rw [hn, Ni hl (by rw [hn]; show 2 + jn n <= n; omega)]; rfl
 have hFr : FrL (tg e (Ce d 2 (bp d.firm.length).1)).1 L := by
  rw [hjr, h4]; exact alq h5
 have hb5 : base.length <= 5000 := by
  unfold ed at hbld
  split at hbld
  ·rename_i c; exact c.2
  ·cases hbld
 have hr' : gc d.firm.length (pa base L) = some pgR := by rw [hn, <- h7]; exact hr
 obtain ⟨v, g, n1, q, l', rfl, hq, M, St⟩ := ae9 hD (by omega) hf hlaid hFr (by omega) hr' he (hL.le (by omega))
 have hlay : (∀ F, Out (yp d pgR (1 - a) (e + 1)) F -> ∃ e' a', e' <= e + 1 /\ Rc n F e' a' rows) /\
  ((yp d pgR (1 - a) (e + 1)).dark = false -> Live (yp d pgR (1 - a) (e + 1)) /\ Vd n (yp d pgR (1 - a) (e + 1)).firm (e + 1) (1 - a) rows [] 0) /\ (d.fused = false -> (yp d pgR (1 - a) (e + 1)).fused = false) := by
  cases hdk : d.dark with
  | false =>
   obtain ⟨o1, o2, o3, o4⟩ := Ue ⟨hl, hdk⟩ hn hR he hr
   exact ⟨o1, o2, o4⟩
  | true =>
   rw [Ip hdk]
   refine ⟨fun F hF => ⟨e, a, Nat.le_succ e, ?_⟩, fun h => ?_, fun h => h⟩
   ·rw [aa0 hl hF]; exact hR
   ·cases hdk.symm.trans h
 obtain ⟨o1, o2, o4⟩ := hlay
 have hz : (ckF ⟨d, pa base L, e, a, pgs.length, 0, 0⟩ pgR).d = yp d pgR (1 - a) (e + 1) := rfl
 refine ⟨_, g, n1, q, l', _, rfl, hq, M, St, h7.symm, rfl, rfl, rfl, ⟨?_, hlo, hhi, ?_, ⟨pgR, by show gc n (pa base L) = _; rw [<- h7]; exact hr⟩, Nat.zero_le _, Nat.le_refl _⟩, ?_, fun hd => ?_, ?_, ?_⟩
 ·rw [hz, Wk, hn]
 ·show 1 - a <= 1; omega
 ·rw [hz]; exact o1
 ·rw [hz] at hd
  obtain ⟨g1, g2⟩ := o2 hd
  exact ⟨g1, rows, [], g2, h7.symm, rfl⟩
 ·rw [hz]; exact o4
 ·rw [hz]
  exact yu (by rw [oi hr]; exact hL.le (by have := (ij hhi).2; have : an n <= 512 := this; omega))
open Go Go.Vm
theorem se {d : D} (h : d.fused = false) : d.dark = false := by unfold D.dark; rw [h]; rfl
theorem Xm {d : D} (h : d.fused = false) (hl : d.loose = []) {a : Nat} {L : List (List UInt8)} (hn : a + L.length <= d.firm.length) (hb : ∀ b ∈ L, b.length <= 64) :
  (ph d a L).loose = [] /\ (ph d a L).firm = pe d.firm (wl a L) /\ (ph d a L).fused = false := by
 obtain ⟨hP, _, hf⟩ := alu ⟨hl, se h⟩ hn hb
 have hf := hf h
 cases hP with
 | done h1 h2 => exact ⟨h1, h2, hf⟩
 | cut h1 _ _ _ => rw [se hf] at h1; cases h1
theorem Ud {d : D} (hO : d.OK) (hf : d.fused = false) (hl : d.loose = []) (hlo : 64 <= d.firm.length) : (rj d).fused = false /\ Live (rj d) /\ Vd d.firm.length (rj d).firm 1 0 [] [] 0 := by
 obtain ⟨n, hn⟩ : ∃ n, d.firm.length = n := ⟨_, rfl⟩
 have hhi : n <= 4096 := by rw [<- hn]; exact hO.n
 rw [hn] at hlo |-
 obtain ⟨p1, p2⟩ := rm hlo
 obtain ⟨b0, b1⟩ := xt n
 have hD0 : Dn n d.firm := ⟨hlo, hhi, hn, hO.f64⟩
 have hrep : ∀ b ∈ List.replicate (2 + jn n) ([] : List UInt8), b.length <= 64 := fun b hb => by rw [List.eq_of_mem_replicate hb]; simp
 obtain ⟨f1, f2, f3⟩ := Xm hf hl (a := 0) (L := List.replicate (2 + jn n) []) (by rw [List.length_replicate]; omega) hrep
 have hpb : ed [] = some [gd 0 []] := ze
 have h256 := mu hpb
 have hfl := sq (k := 256) [gd 0 []] h256
 obtain ⟨hs1, hs2, _⟩ := wx (k := 64) (by omega) 4 ([gd 0 []] : Sec).flatten (by rw [hfl]; rfl)
 have hs2' : ∀ b ∈ pcs 64 ([gd 0 []] : Sec).flatten, b.length <= 64 := fun b hb => by rw [hs2 b hb]; exact Nat.le_refl _
 have hd : rj d = yp (ph d 0 (List.replicate (2 + jn n) [])) [gd 0 []] 0 1 := by unfold rj; rw [hn]; rfl
 have hn1 : (ph d 0 (List.replicate (2 + jn n) [])).firm.length = n := by rw [ahl, hn]
 rw [hd, La, hn1]
 have hD1 : Dn n (ph d 0 (List.replicate (2 + jn n) [])).firm := by rw [f2]; exact hD0.sub hrep (.refl _)
 have hz : ∀ i, i < 2 + jn n -> (ph d 0 (List.replicate (2 + jn n) [])).firm[i]? = some z64 := fun i hi => by
  have := Oe (List.replicate (2 + jn n) []) d.firm 0 i (by rw [List.length_replicate]; omega) (by rw [List.length_replicate]; exact hi)
  rw [Nat.zero_add] at this
  rw [f2, this, List.getElem?_replicate, if_pos hi]
  rfl
 generalize ph d 0 (List.replicate (2 + jn n) []) = d1 at f1 f3 hn1 hD1 hz
 have han : 4 * 1 <= 4 * an n := by omega
 obtain ⟨g1, g2, g3⟩ := Xm f3 f1 (a := mb n 0) (L := pcs 64 ([gd 0 []] : Sec).flatten) (by rw [hs1, hn1]; omega) hs2'
 have hA := acb (a := 0) (F := d1.firm) (by omega) hD1 (by rw [hs1]; omega) hs2
 rw [hs1] at hA
 have hn2 : (ph d1 (mb n 0) (pcs 64 ([gd 0 []] : Sec).flatten)).firm.length = n := by rw [ahl, hn1]
 have hz2 : ∀ i, i < 2 + jn n -> (ph d1 (mb n 0) (pcs 64 ([gd 0 []] : Sec).flatten)).firm[i]? = some z64 := fun i hi => by
  rw [g2, Kf (.refl _) (.inl (by omega)), hz i hi]
 have hD2 : Dn n (ph d1 (mb n 0) (pcs 64 ([gd 0 []] : Sec).flatten)).firm := by rw [g2]; exact hD1.sub hs2' (.refl _)
 rw [<- g2] at hA
 generalize ph d1 (mb n 0) (pcs 64 ([gd 0 []] : Sec).flatten) = d2 at g1 g3 hn2 hz2 hD2 hA
 have hpl : ([gd 0 []] : Sec).length = 1 := rfl
 rw [hpl]
 have hh64 : ∀ b ∈ [gj 1 0 1], b.length <= 64 := fun b hb => by rw [List.mem_singleton.1 hb, ru]; exact Nat.le_refl _
 obtain ⟨k1, k2, k3⟩ := Xm g3 g1 (a := 1 % 2) (L := [gj 1 0 1]) (by rw [hn2]; simp only [List.length_singleton]; omega) hh64
 have hset : pe d2.firm (wl (1 % 2) [gj 1 0 1]) = d2.firm.set 1 (gj 1 0 1) := by
  show d2.firm.set (1 % 2) (pad _) = _
  rw [Pg ru]
 have hD3 : Dn n (d2.firm.set 1 (gj 1 0 1)) := by rw [<- hset]; exact hD2.sub hh64 (.refl _)
 rw [hset] at k2
 refine ⟨k3, ⟨k1, se k3⟩, ?_⟩
 rw [k2]
 have ne : ∀ i, 2 <= i -> (d2.firm.set 1 (gj 1 0 1))[i]? = d2.firm[i]? := fun i hi => List.getElem?_set_ne (by omega)
 refine ⟨hD3, by omega, by omega, by omega, ⟨[gd 0 []], ⟨?_, fun x hx => ?_⟩, zh hlo, ?_⟩, by simp [cz], rfl, Nat.zero_le _, fun i b _ hi hb => ?_, fun c hc => (by cases hc), ⟨_, zh hlo⟩, fun i b hi hb => ?_⟩
 ·show ju n ((d2.firm.set 1 (gj 1 0 1)).getD 1 []) = _
  rw [List.getD_eq_getElem?_getD, List.getElem?_set_self (by omega)]
  exact zl (by omega) (by omega) (by omega) (Nat.le_refl 1) (by show 1 <= an n; omega) hhi
 ·have hx : ju n ((d2.firm.set 1 (gj 1 0 1)).getD 0 []) = some x := hx
  rw [List.getD_eq_getElem?_getD, List.getElem?_set_ne (by omega), hz2 0 (by omega)] at hx
  have hx : ju n z64 = some x := hx
  rw [Qt] at hx; cases hx
 ·rw [hpl, <- hA]
  exact ox fun i hi => ne _ (by omega)
 ·rw [ne _ (by omega), hz2 _ (by omega)] at hb
  cases hb
  exact (Nw 1).1
 ·rw [ne _ (by omega), hz2 _ (by omega)] at hb
  cases hb
  exact (Nw 1).2
theorem Kx {d : D} {k : Nat} (h : d.Lim (k + 2000)) (hn : d.firm.length <= 4096) : (rj d).Lim k := by
 have hj := (ij hn).1
 have h256 := mu ze
 have hps : (pcs 64 ([gd 0 []] : Sec).flatten).length = 4 := by
  have hfl := sq (k := 256) [gd 0 []] h256
  exact (wx (k := 64) (by omega) 4 ([gd 0 []] : Sec).flatten (by rw [hfl]; rfl)).1
 unfold rj
 refine yu (ov (nj _ _ _ _ (h.le ?_)))
 rw [List.length_replicate, hps]; omega
theorem De {h : ah} {p : Nat} {f l : Option Nat} {d : D} (hD : ev h p f l d) (hf : d.fused = false) (hl : d.loose = []) (hlo : 64 <= d.firm.length) {k : Nat} (hL : d.Lim (k + 2000)) :
  Ret F 11 [.ptr p 0] h fun v g => v = vi .u16 0 /\ ∃ l' d', Moved h g p f l l' d' /\ d'.fused = false /\ Live d' /\ Vd d.firm.length d'.firm 1 0 [] [] 0 /\ d'.Lim k := by
 obtain ⟨v, g, n1, rfl, l', M⟩ := Qa hD hlo (hL.le (by have := (ij hL.ok.n).1; omega))
 obtain ⟨a1, a2, a3⟩ := Ud hL.ok hf hl hlo
 exact ⟨_, g, n1, rfl, l', _, M, a1, a2, a3, Kx hL hL.ok.n⟩
open Go Go.Vm
theorem RowsE.setV {els : List (List CV)} {rows : List KV} (h : RowsE els rows) {i : Nat} {k v : List UInt8} (hi : rows[i]? = some (k, v)) {c : CV} (hc : SlV 1 (eB v) (.cv c)) : RowsE (els.set i [.sc (.string ⟨k.toArray⟩), c]) rows := by
 induction h generalizing i with
 | nil => simp at hi
 | cons h t ih =>
  cases i with
  | zero => cases hi; exact .cons ⟨c, rfl, hc⟩ t
  | succ i => exact .cons h (ih (by grind))
theorem f42_loop {rows : List KV} (hl : rows.length <= 1000000) (hv : ∀ r ∈ rows, r.2.length <= 1000000000) {uo : VV} {id g : Nat} (huo : uo = .own id g 0 rows.length false) : ∀ (r i : Nat) (els : List (List CV)) (s : List VV) (h : ah) (Q : Pst), i + r = rows.length -> h[id]? = some (.arr 2 els g false) -> rows.length <= els.length -> RowsE (els.take rows.length) rows ->
  s.length = 24 -> s.getD 3 .undef = uo -> s.getD 8 .undef = uo -> s.getD 9 .undef = vi .i64 rows.length -> s.getD 10 .undef = vi .i64 i ->
  (∀ s' h' els', s'.length = 24 -> s'.getD 3 .undef = uo -> h'[id]? = some (.arr 2 els' g false) -> rows.length <= els'.length -> RowsE (els'.take rows.length) rows -> Q (.exit 0) ⟨s', h'⟩) -> X F (.loop f42_1) ⟨s, h⟩ Q := by
 intro r
 induction r with
 | zero =>
  intro i els s h Q hi hb hfl hR hs e3 e8 e9 e10 hQ
  have c : ¬ ((i : Nat) : Int) < (rows.length : Int) := by omega
  rw [aw, bf f42_1.eq_1]
  simp only [go_sem, seval, hs, e9, e10, c]
  rw [bf f42_0.eq_1]
  simp only [go_sem, seval, hs]
  grind
 | succ r ih =>
  intro i els s h Q hi hb hfl hR hs e3 e8 e9 e10 hQ
  have c : ((i : Nat) : Int) < (rows.length : Int) := by omega
  obtain ⟨e, kv, a1, a2, cc, rfl, a3⟩ := hR.get (i := i) (by omega)
  rw [List.getElem?_take_of_lt (by omega)] at a1
  subst huo
  have ia : ∀ {g' : ah}, g'[id]? = some (.arr 2 els g false) -> iaO g' 2 (.own id g 0 rows.length false) (vi .i64 (i : Int)) = some (.eptr id g i 0, g') := fun {g'} hg => by
   rw [yh (by omega) hg (by omega)]; simp
  have ld2 : ldO h true 2 (.eptr id g i 0) = some (.agg [txt kv.1, .cv cc], h) := by
   simp [ldO, ak, mh, hb, a1, dj]
  have hb2 : (h ++ [VO.box [txt kv.1, .cv cc] false])[id]? = some (.arr 2 els g false) := (HExt.push h _).get hb
  have q5 : (h ++ [VO.box [txt kv.1, .cv cc] false])[h.length]? = some (.box [txt kv.1, .cv cc] false) := bk
  have ld5 : ldO (h ++ [VO.box [txt kv.1, .cv cc] false]) false 1 (.ptr h.length 1) = some (.cv cc, _) := bc q5 rfl
  obtain ⟨v5, g5, n5, w5, r5, S5⟩ := yc a3 (hv kv (List.mem_of_getElem? a2))
  obtain ⟨c5, rfl⟩ : ∃ c5, w5 = .cv c5 := by rcases S5 with ⟨rfl, _⟩ | ⟨ex, rfl⟩ <;> exact ⟨_, rfl⟩
  have clc : ∀ g' : ah, cg g' [.cv cc] = some ([.cv cc], g') := fun g' => rfl
  have st5 := anc (off := 1) (c := c5) hb2 a1 (by grind)
  have hwr : IntKind.i64.wrap ((i : Int) + 1) = ((i + 1 : Nat) : Int) := by rw [IntWalk.i64_in _ (by omega)]; omega
  have fd : fdO 1 (.eptr id g i 0) = some (.eptr id g i 1) := rfl
  rw [aw, bf f42_1.eq_1]
  simp only [go_sem, seval, hs, e9, e10, c]
  rw [bf f42_0.eq_1]
  simp only [go_sem, seval, hs, e8, e10, ia hb, ld2]
  simp only [go_sem, seval, hs, e3, e8, e10, ld5]
  refine ao (by simp only [List.map, go_sem, seval, hs]; exact clc _) n5 r5 ?_
  simp only [go_sem, seval, hs, ia hb2, fd, st5, e10, hwr]
  refine ih (i + 1) _ _ _ Q (by omega) (List.getElem?_set_self (ey hb2)) (by grind) (by rw [List.take_set]; exact hR.setV (k := kv.1) (v := kv.2) a2 S5) (by simp only [ae, hs]) (by simp only [go_sem, seval, hs, e3]) (by simp only [go_sem, seval, hs, e8]) (by simp only [go_sem, seval, hs, e9]) (by simp only [go_sem, seval, hs]) hQ
theorem Qb {rows : List KV} {els : List (List CV)} {u : VV} (hu : SlV 2 els u) (hR : RowsE els rows) (hl : rows.length ≤ 1000000) (hv : ∀ r ∈ rows, r.2.length ≤ 1000000000) : Cg F 42 [u] fun w => ∃ els', SlV 2 els' w ∧ RowsE els' rows := by
  have hel := hR.len
  obtain ⟨v6, g6, n6, B6⟩ := Do (h := []) hu.vf (by omega)
  rcases B6.v with ⟨e6, rfl⟩ | ⟨e6, rfl⟩ | ⟨id, gg, full, _, rfl, a2, a3, a4⟩
  · have hr : rows.length = 0 := by grind
    have : Ret F 42 [u] [] fun v g => v = br := by
      refine bj (fn := f42) rfl ?_
      simp only [f42]
      generalize hs0 : ([u] ++ List.replicate _ VV.undef : List VV) = s
      have hs : s.length = 24 := by grind
      have h0 : s.getD 0 .undef = u := by grind
      clear hs0
      have c : ¬ ((0 : Int) < 0) := by decide
      simp only [go_sem, seval, hs, h0]
      refine ap (by simp only [List.map, go_sem, seval, hs, h0]; exact n6) ?_
      simp only [go_sem, seval, hs]
      rw [aw, bf f42_1.eq_1]
      simp only [go_sem, seval, hs]
      rw [bf f42_0.eq_1]
      simp only [go_sem, seval, hs]
      all_goals trivial
    obtain ⟨v, g, n1, rfl⟩ := this
    exact ⟨_, g, n1, _, rfl, els, .inl ⟨rfl, e6⟩, hR⟩
  · have hr : rows.length = 0 := by grind
    have : Ret F 42 [u] [] fun v g => v = .cv (.sl 2 [] true) := by
      refine bj (fn := f42) rfl ?_
      simp only [f42]
      generalize hs0 : ([u] ++ List.replicate _ VV.undef : List VV) = s
      have hs : s.length = 24 := by grind
      have h0 : s.getD 0 .undef = u := by grind
      clear hs0
      simp only [go_sem, seval, hs, h0]
      refine ap (by simp only [List.map, go_sem, seval, hs, h0]; exact n6) ?_
      have hln : lnO false (.cv (.sl 2 [] true)) = some (vi .i64 0) := rfl
      simp only [go_sem, seval, hs, hln]
      rw [aw, bf f42_1.eq_1]
      simp only [go_sem, seval, hs]
      rw [bf f42_0.eq_1]
      simp only [go_sem, seval, hs]
      all_goals trivial
    obtain ⟨v, g, n1, rfl⟩ := this
    exact ⟨_, g, n1, _, rfl, els, .inr ⟨true, by rw [e6]⟩, hR⟩
  · have : Ret F 42 [u] [] fun v g => v = .own id gg 0 rows.length false ∧ ∃ els', g[id]? = some (.arr 2 els' gg false) ∧ rows.length ≤ els'.length ∧ RowsE (els'.take rows.length) rows := by
      rw [hel] at a3 a4 n6
      have hln : lnO false (.own id gg 0 rows.length false) = some (vi .i64 rows.length) := rfl
      refine bj (fn := f42) rfl ?_
      simp only [f42]
      generalize hs0 : ([u] ++ List.replicate _ VV.undef : List VV) = s
      have hs : s.length = 24 := by grind
      have h0 : s.getD 0 .undef = u := by grind
      clear hs0
      simp only [go_sem, seval, hs, h0]
      refine ap (by simp only [List.map, go_sem, seval, hs, h0]; exact n6) ?_
      simp only [go_sem, Nat.reduceLT, Nat.reduceEqDiff, reduceCtorEq, Int.reduceLT, Int.reduceEq, hs, hln]
      refine f42_loop hl hv rfl rows.length 0 full _ _ _ (by omega) a2 a3 (by grind) (by grind) (by grind) (by grind) (by grind) (by grind) (fun s' h' els' hs' k3 k4 k5 k6 => ?_)
      simp only [go_sem, seval, hs', k3]
      grind
    obtain ⟨v, g, n1, rfl, els', k4, k5, k6⟩ := this
    refine ⟨_, g, n1, .cv (.sl 2 (els'.take rows.length) false), ?_, _, .inr ⟨false, rfl⟩, k6⟩
    have : ie g (.own id gg 0 rows.length false) = some (.cv (.sl 2 (els'.take rows.length) false), g.set id (.arr 2 els' gg true)) := by
      simp only [ie, Go.Vm.clos, k4, Nat.zero_add, k5, and_self, if_true, List.drop_zero]
    simp only [av, this, Option.map]
theorem Pf {h : ah} {q p : Nat} {f l : Option Nat} {z : S} (hS : StoreAt h q p f l z) (hl : z.rows.length <= 1000000) (hv : ∀ r ∈ z.rows, r.2.length <= 1000000000) : ∃ w els, call F 16 [.ptr q 0] h = some (.ret w, h) /\ SlV 2 els w /\ RowsE els z.rows := by
 obtain ⟨u, els, hb, hU, hR⟩ := hS.box
 obtain ⟨v4, g4, n4, w4, y4, els4, S4, R4⟩ := Qb hU hR hl hv
 have clu : cg h [u] = some ([u], h) := by rcases hU with ⟨rfl, _⟩ | ⟨ex, rfl⟩ <;> rfl
 have l1 : ldO h false 1 (.ptr q 1) = some (u, h) := bc hb rfl
 have : Ret F 16 [.ptr q 0] h fun v g => v = w4 /\ g = h := by
  refine bj (fn := f16) rfl ?_
  simp only [f16]
  generalize hs0 : ([.ptr q 0] ++ List.replicate _ VV.undef : List VV) = s
  have hs : s.length = 10 := by grind
  have h0 : s.getD 0 .undef = .ptr q 0 := by grind
  clear hs0
  simp only [go_sem, seval, hs, h0]
  rw [bf f16_0.eq_1]
  simp only [go_sem, seval, hs, h0, l1]
  refine ao (h1 := h) (by simp only [List.map, go_sem, seval, hs]; exact clu) n4 y4 ?_
  simp only [go_sem, seval, hs]
  grind
 obtain ⟨v, g, e, rfl, rfl⟩ := this
 grind
theorem Uz {h : ah} {q p : Nat} {f l : Option Nat} {z : S} (hS : StoreAt h q p f l z) : call F 20 [.ptr q 0] h = some (.ret (vi .i64 z.e), h) := by
 obtain ⟨u, els, hb, hU, hR⟩ := hS.box
 have l2 : ldO h false 1 (.ptr q 2) = some (vi .i64 z.e, h) := bc hb rfl
 have : Ret F 20 [.ptr q 0] h fun v g => v = vi .i64 z.e /\ g = h := by
  refine bj (fn := f20) rfl ?_
  simp only [f20]
  generalize hs0 : ([.ptr q 0] ++ List.replicate _ VV.undef : List VV) = s
  have hs : s.length = 10 := by grind
  have h0 : s.getD 0 .undef = .ptr q 0 := by grind
  clear hs0
  simp only [go_sem, seval, hs, h0]
  rw [bf f20_0.eq_1]
  simp only [go_sem, seval, hs, h0, l2]
  grind
 obtain ⟨v, g, e, rfl, rfl⟩ := this
 exact e
open Go Go.Vm
theorem aig {n : Nat} {z : S} {c : List Ch} (hM : Mem n z) (hn : c ≠ []) (hl : c.any lng = false) (he : z.e < 1073741823) (hfr : z.fr <= 1073741824) (hroom : ∃ p, gc n (dg z.rows c) = some p) (hp : (pcs 49 (gy c)).length <= 200) (hj : (pcs 49 (gy c)).length <= jn n) : (bt z c).2 = 0 := by
 obtain ⟨pA, hrm⟩ := hroom
 obtain ⟨pg0, hr0⟩ := hM.room
 have hps : ∃ ps, dx z.e z.fr c = some ps /\ ps.length = (pcs 49 (gy c)).length := by
  have h1 := wj.2 (show z.e <= 1073741824 by omega)
  have h2 := wj.2 hfr
  unfold dx
  generalize ks (z.e : Int) = x1 at h1
  generalize ks (z.fr : Int) = x2 at h2
  subst h1 h2
  exact ⟨_, if_pos ⟨rfl, rfl, hp⟩, ku _ _⟩
 obtain ⟨ps, hpf, hpl⟩ := hps
 obtain ⟨ps', hp2, _⟩ := xh hpf (e' := z.e + 1) (by omega)
 unfold bt
 rw [if_neg hn, if_neg (by rw [hl]; decide), hM.dn, hrm, hpf]
 dsimp only
 rw [if_neg (by show ¬ jn n < ps.length; omega)]
 by_cases c3 : (bp n).1 < z.used + ps.length
 ·rw [if_pos c3, hr0, hp2]
 ·rw [if_neg c3]
theorem afv : ∃ p, gc 64 (dg [] [([97], [], false)]) = some p := by
 have h1 : dg [] [([97], [], false)] = [([97], [])] := by rfl
 have h2 : ∃ p, ed [([97], [])] = some [p] := ⟨_, by rfl⟩
 obtain ⟨p, h2⟩ := h2
 refine ⟨[p], ?_⟩
 rw [h1]
 unfold gc
 rw [h2]
 rfl
abbrev kc : List Ch := [([97], [], false)]
theorem aoj : ChsE [[.sc (.string ⟨#[97]⟩), .sc (.slice none 0 0), .sc (.bool false)]] kc := .cons ⟨_, rfl, .inl ⟨rfl, rfl⟩⟩ .nil
theorem Vl : (pcs 49 (gy kc)).length <= 16 := by
 have h := Ww (k := 49) (by omega) (gy kc).length (gy kc) (Nat.le_refl _)
 have : (gy kc).length <= 10 := by
  have : gy kc = num (kh (kc.length : Nat)) ++ (kc.map chB).flatten := rfl
  rw [this, List.length_append]
  have h1 : (num (kh (kc.length : Nat))).length <= 4 := by decide
  have h2 : ((kc.map chB).flatten).length <= 6 := by decide
  omega
 omega
theorem ags (n : Nat) (hn : n <= 4096) : (Se n).OK := by
 refine ⟨fun b hb => ?_, fun o ho => (by cases ho), ?_, by simp [Se], by show 0 < 1000000; omega, by show 0 < 1000000; omega⟩
 ·rw [List.eq_of_mem_replicate hb]; simp [z64]
 ·show (List.replicate n z64).length <= 4096; grind
theorem Pr (n : Nat) (hn : n <= 4096) : (Se n).Lim 700000 := ⟨ags n hn, by show 0 + 700000 < 800000; omega, by show 0 + 700000 < 800000; omega, by show 0 + 700000 < 800000; omega⟩
theorem Od (n : Nat) : (Se n).firm.length = n := by show (List.replicate n z64).length = n; grind
theorem Sz {h h1 h2 : ah} {p : Nat} {l' : Option Nat} {d : D} (e : Ext h h1) (hp : h.length <= p) {fi : Nat} (hf : h.length <= fi) (m : Moved h1 h2 p (some fi) none l' d) : Ext h h2 :=
 ⟨Nat.le_trans e.len m.kept.len, fun j hj => by rw [m.kept.same j (Nat.lt_of_lt_of_le hj e.len) (by omega) (by grind) (by grind), e.same j hj]⟩
theorem RowsE.vals {n : Nat} {rows : List KV} {p : Sec} (h : gc n rows = some p) : rows.length <= 5000 := by
 have := (ic h).1
 unfold ed at this
 grind
theorem Ok : ∀ (l : List KV) (n : Nat), od n l = l.length -> Xv l
 | [], n, _ => fun p hp => by cases hp
 | p :: l, n, h => by
  simp only [od, List.length_cons] at h
  split at h
  ·omega
  ·rename_i c1
   split at h
   ·omega
   ·intro q hq
    rcases List.mem_cons.1 hq with rfl | hq
    ·omega
    ·exact Ok l (n + (1 + (jg p).length)) (by omega) q hq
theorem Tj {n : Nat} {rows : List KV} {p : Sec} (h : gc n rows = some p) : Xv rows := by
 obtain ⟨up, _, _, _, e4⟩ := nw (ic h).1
 intro r hr
 rw [<- e4] at hr
 obtain ⟨g, hg, hr⟩ := List.mem_flatten.1 hr
 exact Ok g 0 (Lp rows g hg) r hr
structure New (h : ah) (n k : Nat) (g : ah) (q p : Nat) (f : Nat) (l' : Option Nat) (z : S) : Prop where
 ext : Ext h g
 hq : h.length <= q
 hp : h.length <= p
 hf : h.length <= f
 hl : ∀ i, l' = some i -> h.length <= i
 st : StoreAt g q p (some f) l' z
 rw_ : z.rows = []
 e2 : z.e = 2
 us : z.used = 0
 fr : z.fr = 0
 mem : Mem n z
 run : Run n z
 nf : z.d.fused = false
 lim : z.d.Lim k
theorem Uf (h : ah) : ∃ g, call F 12 [] h = some (.ret (vb true), g) /\ Ext h g := by
 obtain ⟨h1, n1, D1, l1, k1⟩ := Ub 64 (by omega) h
 have e1 : Ext h h1 := ⟨l1, k1⟩
 obtain ⟨v2, h2, n2, rfl, lA, dA, MA, f2, L2, V2, B2⟩ := De D1 rfl rfl (by rw [Od]; omega) (k := 690000) ((Pr 64 (by omega)).le (by omega))
 rw [Od] at V2
 obtain ⟨v3, h3, n3, q, lB, z, rfl, hq, MB, SB, OB⟩ := Pa MA.dev L2.loose V2.rc (by omega) (k := 680000) (B2.le (by omega))
 have hR := OB.run (se (OB.nf f2))
 have hrw : z.rows = [] := OB.rw_
 have hE : z.e = 2 := OB.ep
 have hU := OB.us
 have hF := OB.fr
 have MAB := MA.trans MB
 obtain ⟨w4, els4, n4, S4, R4⟩ := Pf SB (by grind) (by grind)
 rw [hrw] at R4
 have el4 : els4.length = 0 := R4.len
 have hP : PreC z kc := ⟨OB.lim.ok, by grind, by simp, by have := Vl; have := Bo (k := 49) (by omega) _ (gy kc) (Nat.le_refl _); have e : (me 49 (gy kc).length (gy kc)).length = (pcs 49 (gy kc)).length := rfl; omega, fun x hx => by grind⟩
 obtain ⟨pg0, hr0⟩ := OB.mem.room
 have hdn := OB.mem.dn
 obtain ⟨v5, h5, n5, rfl, lC, MC⟩ := Db SB (uc := .cv (.sl 3 [[.sc (.string ⟨#[97]⟩), .sc (.slice none 0 0), .sc (.bool false)]] true)) (.inr ⟨true, rfl⟩) aoj hP (by rw [hdn]; exact hr0) OB.mem.a1 (by omega) (by omega) (by omega) (OB.lim.le (by omega))
 have ha := aig (c := kc) OB.mem (by simp) rfl (by omega) (by omega) (by rw [hrw]; exact afv) (by have := Vl; omega) (by have := Vl; show _ <= 16; omega)
 have hy := (sw (c := kc) OB.mem (by omega) (by simp) (fun x hx _ => by grind)).yes ha
 rw [ha] at n5
 have n5 : call F 14 [.ptr q 0, .cv (.sl 3 [[.sc (.string ⟨#[97]⟩), .sc (.slice none 0 0), .sc (.bool false)]] true)] h3 = some (.ret (vi .u16 0), h5) := n5
 have hk1 : dg [] kc = [([97], [])] := by rfl
 rw [hrw, hk1] at hy
 obtain ⟨w6, els6, n6, S6, R6⟩ := Pf MC.st (by rw [hy]; simp) (by grind)
 rw [hy] at R6
 have el6 : els6.length = 1 := R6.len
 have nU := Uz SB
 rw [hE] at nU
 obtain ⟨v30, g30, m30, w30, y30, rfl⟩ := uh (n := 64) (by omega) (by omega)
 have p64 : bp (64 : Int).toNat = (16, 5) := by rfl
 rw [p64] at y30
 have y30 : av g30 v30 = some (.tup [vi .i64 16, vi .i64 5]) := y30
 have nU : call F 20 [.ptr q 0] h3 = some (.ret (vi .i64 2), h3) := nU
 have s4 := S4.ln
 rw [el4] at s4
 have s4 : lnO false w4 = some (vi .i64 0) := s4
 have s6 := S6.ln
 rw [el6] at s6
 have s6 : lnO false w6 = some (vi .i64 1) := s6
 suffices hx : Ret F 12 [] h fun v g => v = vb true /\ Ext h g by
  obtain ⟨v, g, a1, rfl, a2⟩ := hx
  grind
 have ext : Ext h h5 := by
  have k2 := MC.kept
  have x3 : Ext h h3 := Sz e1 (by omega) (by omega) MAB
  refine ⟨Nat.le_trans x3.len k2.len, fun j hj => ?_⟩
  have hq' : h.length <= q := Nat.le_trans e1.len (Nat.le_trans MA.kept.len hq)
  rw [k2.same j (Nat.lt_of_lt_of_le hj x3.len) (by omega) (by omega) (by grind) (fun e => ?_), x3.same j hj]
  rcases MAB.new j e with e' | e'
  ·cases e'
  omega
 refine bj (fn := f12) rfl ?_
 simp only [f12]
 generalize hs0 : ([] ++ List.replicate _ VV.undef : List VV) = s
 have hs : s.length = 57 := by grind
 clear hs0
 simp only [go_sem, seval, hs]
 refine ao (h1 := h) (by simp only [List.map, go_sem, seval, hs]; rfl) m30 y30 ?_
 simp only [go_sem, seval, hs]
 refine ap (by simp only [List.map, go_sem, seval, hs]; exact n1) ?_
 simp only [go_sem, seval, hs]
 rw [bf f12_0.eq_1]
 simp only [go_sem, seval, hs]
 refine ap (by simp only [List.map, go_sem, seval, hs]; exact n2) ?_
 simp only [go_sem, seval, hs]
 refine ap (by simp only [List.map, go_sem, seval, hs]; exact n3) ?_
 simp only [go_sem, seval, hs]
 refine ap (by simp only [List.map, go_sem, seval, hs]; exact nU) ?_
 simp only [go_sem, seval, hs]
 refine ap (by simp only [List.map, go_sem, seval, hs]; exact n4) ?_
 have bdk : bdO [VV.cv (CV.sc (Value.string ⟨#[]⟩)), VV.cv (CV.sc (Value.slice none 0 0)), VV.cv (CV.sc (Value.bool false))] [(0, 1, VV.cv (CV.sc (Value.string ⟨#[97]⟩)))] = some (.agg [.cv (.sc (.string ⟨#[97]⟩)), br, vb false]) := rfl
 have mkk : ∀ g : ah, mkO g 3 1 [.cv (.sc (.string ⟨#[]⟩)), .cv (.sc (.slice none 0 0)), .cv (.sc (.bool false))] [(0, 3, .agg [.cv (.sc (.string ⟨#[97]⟩)), br, vb false])] = some (.cv (.sl 3 [[.sc (.string ⟨#[97]⟩), .sc (.slice none 0 0), .sc (.bool false)]] true), g) := fun g => rfl
 simp only [go_sem, seval, hs, s4, bdk, mkk]
 refine ap (by simp only [List.map, go_sem, seval, hs]; exact n5) ?_
 simp only [go_sem, seval, hs]
 refine ap (by simp only [List.map, go_sem, seval, hs]; exact n6) ?_
 simp only [go_sem, seval, hs, s6]
 grind
open Go Go.Vm
structure Deed where
 kind : UInt8
 c : List UInt8
 keep : List Bool
 fuse : UInt8
def akc (e : List CV) (x : Deed) : Prop := ∃ cB cK : CV, e = [.sc (.int .u8 x.kind.toNat), cB, cK, .sc (.int .u8 x.fuse.toNat)] /\ SlV 1 (eB x.c) (.cv cB) /\ SlV 1 (Th x.keep) (.cv cK) /\ x.c.length <= 10000000 /\ x.keep.length <= 10000000
def Dh (els : List (List CV)) (l : List Deed) : Prop := els.length = l.length /\ ∀ (i : Nat) (x : Deed), l[i]? = some x -> ∃ e, els[i]? = some e /\ akc e x
theorem f23_loop {els : List (List CV)} {l : List Deed} {u : VV} (hS : SlV 4 els u) (hE : Dh els l) (hn : l.length <= 10000000) (h : ah) :
  ∀ (r k N : Nat) (s : List VV) (Q : Pst), k + r = l.length -> k <= N -> N <= k * 20000002 -> s.length = 30 -> s.getD 0 .undef = u -> s.getD 3 .undef = vi .i64 N -> s.getD 4 .undef = vi .i64 k ->
   (∀ s' N', s'.length = 30 -> s'.getD 3 .undef = vi .i64 (N' : Nat) -> l.length <= N' -> Q (.exit 0) ⟨s', h⟩) -> X F (.loop f23_0) ⟨s, h⟩ Q := by
 intro r
 induction r with
 | zero =>
  intro k N s Q hk h1 h2 hs h0 h3 h4 hQ
  rw [aw, bf f23_0.eq_1]
  have c : ¬ (k : Int) < (els.length : Int) := by rw [hE.1]; omega
  simp only [go_sem, seval, hs, h0, h4, hS.ln, c]
  grind
 | succ r ih =>
  intro k N s Q hk h1 h2 hs h0 h3 h4 hQ
  rw [aw, bf f23_0.eq_1]
  have c : (k : Int) < (els.length : Int) := by rw [hE.1]; omega
  have hkl : k < l.length := by omega
  obtain ⟨e, he, cB, cK, rfl, hB, hK, b1, b2⟩ := hE.2 k l[k] (List.getElem?_eq_getElem hkl)
  have hia := hS.ia (h := h) (k := .i64) (j := (k : Int)) (by omega) he
  have hw : IntKind.i64.wrap ((k : Int) + 1) = ((k + 1 : Nat) : Int) := by rw [IntWalk.i64_in _ (by omega)]; omega
  have q8 : (8 : Int) ≠ 0 := by decide
  have w1 : IntKind.i64.wrap (1 + ((l[k].c.length : Nat) : Int)) = ((1 + l[k].c.length : Nat) : Int) := by rw [IntWalk.i64_in _ (by omega)]; omega
  have w2 : IntKind.i64.wrap (((l[k].keep.length : Nat) : Int).tdiv 8) = ((l[k].keep.length / 8 : Nat) : Int) := by
   have : ((l[k].keep.length : Nat) : Int).tdiv 8 = ((l[k].keep.length / 8 : Nat) : Int) := rfl
   rw [this, IntWalk.i64_in _ (by omega)]
  have w3 : IntKind.i64.wrap (((1 + l[k].c.length : Nat) : Int) + ((l[k].keep.length / 8 : Nat) : Int)) = ((1 + l[k].c.length + l[k].keep.length / 8 : Nat) : Int) := by rw [IntWalk.i64_in _ (by omega)]; omega
  have w4 : IntKind.i64.wrap ((N : Int) + ((1 + l[k].c.length + l[k].keep.length / 8 : Nat) : Int)) = ((N + (1 + l[k].c.length + l[k].keep.length / 8) : Nat) : Int) := by rw [IntWalk.i64_in _ (by omega)]; omega
  simp only [go_sem, seval, hs, h0, h4, hS.ln, c]
  refine jz rfl ?_
  simp only [go_sem, seval, hs, h0, h3, h4, hia, hB.ln, hK.ln, ax, Hp, w1, Gt q8, w2, w3, w4, hw]
  exact ih (k + 1) (N + (1 + l[k].c.length + l[k].keep.length / 8)) _ Q (by omega) (by omega) (by omega) (by simp only [ae, hs]) (by simp only [go_sem, seval, h0]) (by simp only [go_sem, seval, hs]) (by simp only [go_sem, seval, hs]) hQ
theorem abq {els : List (List CV)} {l : List Deed} {u : VV} (hS : SlV 4 els u) (hE : Dh els l) (hn : l.length <= 10000000) : Cg F 23 [u] fun w => ∃ m, w = vb m /\ (m = false -> l.length <= 200) := by
 have : Ret F 23 [u] [] fun v _ => ∃ m, v = vb m /\ (m = false -> l.length <= 200) := by
  refine bj (fn := f23) rfl ?_
  simp only [f23]
  generalize hs0 : ([u] ++ List.replicate _ VV.undef : List VV) = s
  have hs : s.length = 30 := by grind
  have h0 : s.getD 0 .undef = u := by grind
  clear hs0
  simp only [go_sem, Nat.reduceLT, Nat.reduceEqDiff, reduceCtorEq, Int.reduceLT, Int.reduceEq, hs]
  refine f23_loop hS hE hn _ l.length 0 0 _ _ (by omega) (by omega) (by omega) (by grind) (by grind) (by grind) (by grind) (fun s' N' a1 a3 a4 => ?_)
  have r : ((N' : Int) > 200) = (200 < N') := by grind
  simp only [go_sem, seval, a1, a3, r]
  grind
 obtain ⟨v, g, n1, m, rfl, hm⟩ := this
 exact ⟨_, g, n1, _, rfl, m, rfl, hm⟩
def sz (k : UInt8) : Nat := match k.toNat % 6 with
 | 0 => 64 | 1 => 65 | 2 => 80 | 3 => 100 | 4 => 128 | _ => 200
theorem amj (k : UInt8) : 64 <= sz k /\ sz k <= 200 := by unfold sz; grind
theorem aba (k : UInt8) : Cg F 22 [vi .u8 k.toNat] fun w => w = vi .i64 (sz k : Nat) := by
  have : Ret F 22 [vi .u8 k.toNat] [] fun v _ => v = vi .i64 (sz k : Nat) := by
    have q6 : (6 : Int) ≠ 0 := by decide
    have em : (k.toNat : Int).tmod 6 = ((k.toNat % 6 : Nat) : Int) := rfl
    have hm : k.toNat % 6 < 6 := Nat.mod_lt _ (by decide)
    have mk6 : ∀ g : ah, mkO g 1 6 [.cv (.sc (.int .i64 0)), .cv (.sc (.int .i64 0)), .cv (.sc (.int .i64 0)), .cv (.sc (.int .i64 0)), .cv (.sc (.int .i64 0)), .cv (.sc (.int .i64 0))]
        [(0, 1, .cv (.sc (.int .i64 64))), (1, 1, .cv (.sc (.int .i64 65))), (2, 1, .cv (.sc (.int .i64 80))), (3, 1, .cv (.sc (.int .i64 100))), (4, 1, .cv (.sc (.int .i64 128))), (5, 1, .cv (.sc (.int .i64 200)))] = some (.cv (.sl 1 [[.sc (.int .i64 64)], [.sc (.int .i64 65)], [.sc (.int .i64 80)], [.sc (.int .i64 100)], [.sc (.int .i64 128)], [.sc (.int .i64 200)]] true), g) := fun g => rfl
    have ia : ∀ (g : ah) (m : Nat) (c : CV), m < 6 → [CV.sc (.int .i64 64), .sc (.int .i64 65), .sc (.int .i64 80), .sc (.int .i64 100), .sc (.int .i64 128), .sc (.int .i64 200)][m]? = some c →
        iaO g 1 (.cv (.sl 1 [[.sc (.int .i64 64)], [.sc (.int .i64 65)], [.sc (.int .i64 80)], [.sc (.int .i64 100)], [.sc (.int .i64 128)], [.sc (.int .i64 200)]] true)) (vi .u8 (m : Int)) = some (.rptr [c], g) := by
      intro g m c hm hc
      match m, hm with
      | 0, _ => cases hc; rfl
      | 1, _ => cases hc; rfl
      | 2, _ => cases hc; rfl
      | 3, _ => cases hc; rfl
      | 4, _ => cases hc; rfl
      | 5, _ => cases hc; rfl
    have hsz : [CV.sc (.int .i64 64), .sc (.int .i64 65), .sc (.int .i64 80), .sc (.int .i64 100), .sc (.int .i64 128), .sc (.int .i64 200)][k.toNat % 6]? = some (.sc (.int .i64 (sz k : Nat))) := by
      unfold sz
      generalize k.toNat % 6 = m at hm
      match m, hm with
      | 0, _ => rfl
      | 1, _ => rfl
      | 2, _ => rfl
      | 3, _ => rfl
      | 4, _ => rfl
      | 5, _ => rfl
    have la : ∀ g : ah, ldO g false 1 (.rptr [.sc (.int .i64 (sz k : Nat))]) = some (vi .i64 (sz k : Nat), g) := fun g => gi
    refine bj (fn := f22) rfl ?_
    simp only [f22]
    generalize hs0 : ([vi .u8 k.toNat] ++ List.replicate _ VV.undef : List VV) = s
    have hs : s.length = 8 := by grind
    have h0 : s.getD 0 .undef = vi .u8 k.toNat := by grind
    clear hs0
    simp only [go_sem, seval, hs, h0, mk6, Mh q6, em, ia _ _ _ hm hsz, la]
    all_goals trivial
  obtain ⟨v, g, n1, rfl⟩ := this
  exact ⟨_, g, n1, _, rfl, rfl⟩
theorem amo {P : VV -> ah -> Prop} {s : List VV} {h : ah} {a m n id : Nat} {cells : List VV} {fr : Bool} (ha : s.getD a .undef = .ptr id 0) (ho : h[id]? = some (.box cells fr)) (hn : cells.length = n) (hm : m < s.length)
  (hP : P (.tup [s.getD m .undef, .agg cells]) h) : RQ [.t m, .cell a true n] P .ret ⟨s, h⟩ := by
 subst hn
 refine ⟨trivial, [s.getD m .undef, .agg cells], ?_, hP⟩
 simp only [jv, xj, kd hm, ha, ho, List.drop_zero, List.take_length, dj, if_true]
theorem abu (k : UInt8) (h : ah) : Ret F 17 [vi .u8 k.toNat] h fun v g => ∃ p f cells, v = .tup [.ptr p 0, .agg cells] /\ cells.length = 6 /\ Ext h g /\ h.length <= p /\ h.length <= f /\ ev g p (some f) none (Se (sz k)) := by
 obtain ⟨hs1, hs2⟩ := amj k
 obtain ⟨v2, g2, n2, w2, y2, rfl⟩ := aba k
 obtain ⟨v4, g4, n4, y4⟩ := Qj (sz k) (by omega)
 refine bj (fn := f17) rfl ?_
 simp only [f17]
 generalize hs0 : ([vi .u8 k.toNat] ++ List.replicate _ VV.undef : List VV) = s
 have hs : s.length = 18 := by grind
 have h0 : s.getD 0 .undef = vi .u8 k.toNat := by grind
 clear hs0
 simp only [go_sem, seval, hs, h0]
 have x1 := Ext.push h (.box [br, br, vi .i64 0, vi .i64 0, vb false, vi .i64 0] false)
 have q3 : (h ++ [VO.box [br, br, vi .i64 0, vi .i64 0, vb false, vi .i64 0] false])[h.length]? = some (.box [br, br, vi .i64 0, vi .i64 0, vb false, vi .i64 0] false) := bk
 have gl : (h ++ [VO.box [br, br, vi .i64 0, vi .i64 0, vb false, vi .i64 0] false]).length = h.length + 1 := by simp
 generalize h ++ [VO.box [br, br, vi .i64 0, vi .i64 0, vb false, vi .i64 0] false] = g1 at x1 q3 gl
 obtain ⟨g3, n3, D3, l3, k3⟩ := Ub (sz k) (by omega) g1
 have x3 : Ext g1 g3 := ⟨l3, k3⟩
 refine ao (h1 := g1) (by simp only [List.map, go_sem, seval, hs]; rfl) n2 y2 ?_
 simp only [go_sem, seval, hs]
 refine ap (by simp only [List.map, go_sem, seval, hs]; exact n3) ?_
 simp only [go_sem, seval, hs, h0]
 refine ao (h1 := g3) (by simp only [List.map, go_sem, seval, hs]; rfl) n2 y2 ?_
 simp only [go_sem, seval, hs]
 refine ao (h1 := g3) (by simp only [List.map, go_sem, seval, hs]; rfl) n4 y4 ?_
 simp only [go_sem, seval, hs]
 have q3' := x3.get q3
 have qz : (g3 ++ [VO.box [br, br, vi .i64 0, vi .i64 0, vb false, vi .i64 0] false])[g3.length]? = some (.box [br, br, vi .i64 0, vi .i64 0, vb false, vi .i64 0] false) := bk
 have xl := Ext.push g3 (.box [br, br, vi .i64 0, vi .i64 0, vb false, vi .i64 0] false)
 generalize g3 ++ [VO.box [br, br, vi .i64 0, vi .i64 0, vb false, vi .i64 0] false] = g5 at qz xl
 have st6 : stO g5 6 (.ptr g3.length 0) (tV (slV 1 (sE (sz k))) br 0 0 false 0) = some (.undef, g5.set g3.length (.box [slV 1 (sE (sz k)), br, vi .i64 0, vi .i64 0, vb false, vi .i64 0] false)) := jw (n := 6) (cs := [slV 1 (sE (sz k)), br, vi .i64 0, vi .i64 0, vb false, vi .i64 0]) rfl qz rfl
 have q5 := List.getElem?_set_self (a := VO.box [slV 1 (sE (sz k)), br, vi .i64 0, vi .i64 0, vb false, vi .i64 0] false) (bh qz)
 have x6 : Ext g3 (g5.set g3.length (.box [slV 1 (sE (sz k)), br, vi .i64 0, vi .i64 0, vb false, vi .i64 0] false)) := HExt.ext (xl.hext.set (Nat.le_refl _) _)
 generalize g5.set g3.length (.box [slV 1 (sE (sz k)), br, vi .i64 0, vi .i64 0, vb false, vi .i64 0] false) = g6 at st6 q5 x6
 have L6 : ldO g6 true 6 (.ptr g3.length 0) = some (.agg [slV 1 (sE (sz k)), br, vi .i64 0, vi .i64 0, vb false, vi .i64 0], g6) := nv q5 rfl
 have q36 := x6.get q3'
 have st7 := jw (n := 6) (cs := [slV 1 (sE (sz k)), br, vi .i64 0, vi .i64 0, vb false, vi .i64 0]) rfl q36 rfl
 have D6 := D3.ext x6
 obtain ⟨vf, vl, b1, b2, b3⟩ := D6
 have hp3 : h.length + 1 = g1.length := gl.symm
 simp only [go_sem, seval, hs, st6]
 refine jz rfl ?_
 simp only [go_sem, seval, hs, L6, st7]
 refine amo (id := h.length) (by simp only [go_sem, seval, hs]) (List.getElem?_set_self (bh q36)) rfl (by simp only [ae, hs]; decide) ?_
 simp only [go_sem, seval, hs]
 have X6 : Ext h g6 := x1.trans (x3.trans x6)
 refine ⟨_, _, _, rfl, rfl, HExt.ext (X6.hext.set (Nat.le_refl _) _), by omega, by omega, Kq ⟨vf, vl, b1, b2, b3⟩ q36 (by omega) sm _⟩
open Go Go.Vm
theorem ahi {n : Nat} {z : S} {pg : Sec} (hr : gc n z.rows = some pg) {k : Nat} (h : z.d.Lim (k + 4 * an n + 3)) : (ckF z pg).d.Lim k := by
 show (yp z.d pg (1 - z.a) (z.e + 1)).Lim k
 have h2 : pg.length <= an n := (ic hr).2
 exact yu (by rw [oi hr]; exact h.le (by omega))
theorem Mz {z : S} {c : List Ch} {ps : Sec} {k : Nat} (h : z.d.Lim (k + ps.length + 1)) : (tw z c ps).d.Lim k := by
 show (pm z.d (2 + z.used) ps).flush.Lim k
 exact ov (nj _ _ _ _ (h.le (by omega)))
def Bp (z : S) (c : List Ch) (j : Nat) (o1 o2 o3 o4 : Option Sec) : S × Nat := match o1, o2 with
  | some _, some ps => if j < ps.length then (z, 21) else
      if j < z.used + ps.length then
        match o3 with
        | some pg => match o4 with
          | some ps' => (tw (ckF z pg) c ps', 0)
          | none => (z, 21)
        | none => (z, 21)
      else (tw z c ps, 0)
  | _, _ => (z, 21)
theorem vu {P : S × Nat -> Prop} {z : S} {c : List Ch} {j : Nat} {o1 o2 o3 o4 : Option Sec} (h21 : P (z, 21)) (hck : ∀ pg ps ps', o3 = some pg -> o2 = some ps -> o4 = some ps' -> ps.length <= j -> P (tw (ckF z pg) c ps', 0)) (hadd : ∀ ps, ps.length <= j -> P (tw z c ps, 0)) : P (Bp z c j o1 o2 o3 o4) := by
 unfold Bp
 cases o1 with
 | none => exact h21
 | some _ =>
  cases o2 with
  | none => exact h21
  | some ps =>
   dsimp only
   by_cases c2 : j < ps.length
   ·rw [if_pos c2]; exact h21
   ·rw [if_neg c2]
    by_cases c3 : j < z.used + ps.length
    ·rw [if_pos c3]
     cases o3 with
     | none => exact h21
     | some pg =>
      cases o4 with
      | none => exact h21
      | some ps' => exact hck pg ps ps' rfl rfl rfl (by omega)
    ·rw [if_neg c3]
     exact hadd ps (by omega)
theorem Hn {z : S} {c : List Ch} (hn : c ≠ []) (hl : ¬ c.any lng = true) : bt z c = Bp z c (bp z.d.firm.length).1 (gc z.d.firm.length (dg z.rows c)) (dx z.e z.fr c) (gc z.d.firm.length z.rows) (dx ((z.e + 1 : Nat) : Int) 0 c) := by
 unfold bt Bp
 rw [if_neg hn, if_neg hl]
 generalize dx ((z.e + 1 : Nat) : Int) 0 c = o4
 generalize dx z.e z.fr c = o2
 generalize gc z.d.firm.length (dg z.rows c) = o1
 generalize gc z.d.firm.length z.rows = o3
 cases o1 <;> cases o2 <;> cases o3 <;> cases o4 <;> rfl
theorem Qu {e n e' : Nat} {c : List Ch} {ps ps' : Sec} (h : dx e n c = some ps) (h' : dx (e' : Int) 0 c = some ps') : ps'.length = ps.length := by
 rw [(pj h).1, (pj (n := 0) h').1, mm, mm]
theorem vw {P : S × Nat -> Prop} {z : S} {c : List Ch} (h0 : P (z, 0)) (h3 : P (z, 3)) (h21 : P (z, 21)) (hck : ∀ pg ps', gc z.d.firm.length z.rows = some pg -> ps'.length <= (bp z.d.firm.length).1 -> P (tw (ckF z pg) c ps', 0)) (hadd : ∀ ps, ps.length <= (bp z.d.firm.length).1 -> P (tw z c ps, 0)) : P (bt z c) := by
 by_cases hn : c = []
 ·unfold bt; rw [if_pos hn]; exact h0
 by_cases hl : c.any lng = true
 ·unfold bt; rw [if_neg hn, if_pos hl]; exact h3
 rw [Hn hn hl]
 exact vu h21 (fun pg ps ps' e1 e2 e3 e4 => hck pg ps' e1 (by rw [Qu e2 e3]; exact e4)) hadd
theorem Rx {n : Nat} {z : S} {c : List Ch} (hM : Mem n z) (hn : n <= 1000) {k : Nat} (h : z.d.Lim (k + 1000)) : (bt z c).1.d.Lim k := by
 obtain ⟨p1, p2⟩ := rm hM.lo
 have h0 : z.d.Lim k := h.le (by omega)
 refine vw (P := fun r => r.1.d.Lim k) h0 h0 h0 (fun pg ps' hr hps => ?_) (fun ps hps => ?_)
 ·rw [hM.dn] at hr hps
  have hps : ps'.length <= jn n := hps
  exact Mz (ahi hr (h.le (by omega)))
 ·rw [hM.dn] at hps
  have hps : ps.length <= jn n := hps
  exact Mz (h.le (by omega))
theorem xu : Cg F 12 [] fun w => w = vb true := by
 obtain ⟨g, n1, _⟩ := Uf []
 exact ⟨_, g, n1, _, rfl, rfl⟩
structure RunU (n : Nat) (z : S) (m : Nat) : Prop where
 mem : Mem n z
 run : Run n z
 nf : z.d.fused = false
 e : z.e + m <= 900000
 lim : z.d.Lim (1000 * m + 200000)
 e1 : 1 <= z.e
 n1 : n <= 1000
theorem RunU.fr {n m : Nat} {z : S} (h : RunU n z m) : z.fr <= 2000 /\ z.used <= 2000 := by
 have h1 := h.mem.fr
 have h2 := h.mem.used
 have h3 : jn n <= 1024 := (ij h.mem.hi).1
 omega
theorem RunU.room {n m : Nat} {z : S} (h : RunU n z m) : z.rows.length <= 5000 /\ Xv z.rows := by
 obtain ⟨p, hp⟩ := h.mem.room
 exact ⟨RowsE.vals hp, Tj hp⟩
theorem Xu {z : S} {c : List Ch} : z.e <= (bt z c).1.e :=
 vw (P := fun r => z.e <= r.1.e) (Nat.le_refl _) (Nat.le_refl _) (Nat.le_refl _) (fun _ _ _ _ => Nat.le_succ _) (fun _ _ => Nat.le_refl _)
theorem RunU.commit {n m : Nat} {z : S} (h : RunU n z (m + 1)) {c : List Ch} (hc : c.length ≤ 5000) (hg : ∀ p ∈ c, p.2.2 = true → p.2.1 = []) : RunU n (bt z c).1 m := by
  have he := h.e
  have hC := sw h.mem (c := c) (by omega) hc hg
  have he2 := hC.e
  have he3 := Xu (z := z) (c := c)
  refine ⟨hC.mem, ?_, ?_, by omega, Rx h.mem h.n1 (h.lim.le (by omega)), by have := h.e1; omega, h.n1⟩
  · by_cases h0 : (bt z c).2 = 0 ∧ c ≠ []
    · obtain ⟨_, _, r3, r4⟩ := hC.run h.run h0.1 h0.2
      exact r3 (se (r4 h.nf))
    · have : (bt z c).1 = z := hC.not (by
        by_cases h1 : (bt z c).2 = 0
        · by_cases h2 : c = []
          · exact .inr h2
          · exact absurd ⟨h1, h2⟩ h0
        · exact .inl h1)
      rw [this]; exact h.run
  · by_cases h0 : (bt z c).2 = 0 ∧ c ≠ []
    · obtain ⟨_, _, r3, r4⟩ := hC.run h.run h0.1 h0.2
      exact r4 h.nf
    · have : (bt z c).1 = z := hC.not (by
        by_cases h1 : (bt z c).2 = 0
        · by_cases h2 : c = []
          · exact .inr h2
          · exact absurd ⟨h1, h2⟩ h0
        · exact .inl h1)
      rw [this]; exact h.nf
theorem Ae {h : ah} {q p : Nat} {f l : Option Nat} {z : S} {n m : Nat} (hS : StoreAt h q p f l z) (hU : RunU n z (m + 1)) {ec : List (List CV)} {c : List Ch} {uc : VV} (hu : SlV 3 ec uc) (hC : ChsE ec c) (hcl : c.length <= 5000) (hcb : (gy c).length <= 1000000) (hcv : ∀ x ∈ c, x.2.1.length <= 1000000000) (hg : ∀ p ∈ c, p.2.2 = true -> p.2.1 = []) :
  ∃ g l', call F 14 [.ptr q 0, uc] h = some (.ret (vi .u16 (bt z c).2), g) /\ MovedS h g q p f l l' (bt z c).1 /\ RunU n (bt z c).1 m := by
 obtain ⟨pg0, hr0⟩ := hU.mem.room
 have hr1 := hU.room
 have hfr := hU.fr
 have he := hU.e
 have hdn := hU.mem.dn
 obtain ⟨v, g, n1, rfl, l', M⟩ := Db hS hu hC ⟨hU.lim.ok, by omega, hcl, hcb, hcv⟩ (by rw [hdn]; exact hr0) hU.mem.a1 (by omega) (by omega) hfr.2 (hU.lim.le (by omega))
 exact ⟨g, l', n1, M, hU.commit hcl hg⟩
theorem aok (c : List UInt8) : (chL 6 c).length <= 6 /\ (gy (chL 6 c)).length <= 1000000 /\ (∀ x ∈ chL 6 c, x.2.1.length <= 1000000000) /\ (∀ p ∈ chL 6 c, p.2.2 = true -> p.2.1 = []) := by
 have h1 := aft 6 c
 have h2 := aax 6 c
 have h3 := Zg (chL 6 c) h2
 exact ⟨h1, by omega, fun x hx => by have := (h2 x hx).2.1; omega, fun p hp => (h2 p hp).2.2⟩
open Go Go.Vm
theorem OpenP.runU {n e k m : Nat} {rows : List KV} {d : D} {z : S} (h : OpenP n e rows d k z) (hf : d.fused = false) (hn : n <= 1000) (he : e + 1 + m <= 900000) (hk : 1000 * m + 200000 <= k) : RunU n z m :=
 ⟨h.mem, h.run (se (h.nf hf)), h.nf hf, by rw [h.ep]; exact he, h.lim.le hk, by rw [h.ep]; omega, hn⟩
theorem Xv.v {l : List KV} (h : Xv l) : ∀ r ∈ l, r.2.length <= 1000000000 := fun r hr => by have := (h r hr).2; omega
open Go Go.Vm
open Go Go.Vm
open Go Go.Vm
open Go.Proofs.Ytbhoknaipfnlnaa
theorem Yx {H : Type} (d : DataW H) : 1 <= Rows.uptoBulk d := by
 cases d with
 | lit l => cases l <;> simp [Rows.uptoBulk]
 | nil => simp [Rows.uptoBulk]
 | ptr d => simp [Rows.uptoBulk]
 | slice elems spare => simp [Rows.uptoBulk]
 | agg parts => simp [Rows.uptoBulk]
 | iface t d => simp [Rows.uptoBulk]
 | map entries => simp [Rows.uptoBulk]
 | held h => simp [Rows.uptoBulk]
theorem Ge {H : Type} (l : List (DataW H)) : l.length <= Rows.uptoBulkAll l := by
 induction l with
 | nil => grind
 | cons x r ih => have := Yx x; simp only [Rows.uptoBulkAll, List.length_cons]; omega
theorem Jb {H : Type} {d : DataW H} {l : List (DataW H)} (h : d ∈ l) : Rows.uptoBulk d <= Rows.uptoBulkAll l := by
 induction l with
 | nil => cases h
 | cons x r ih =>
  simp only [Rows.uptoBulkAll]
  grind
theorem Ut {H : Type} {P : Program} {t e n : Nat} {d : DataW H} {cs : List CV} (hu : P.underlying t = some (.slice e)) (he : P.underlying e = some (.int .u8)) (hc : P.cellsOf e = 1) (h : DR P (n + 2) t d cs) :
  ∃ (l : List UInt8) (c : CV), cs = [c] /\ SlV 1 (eB l) (.cv c) /\ l.length + 1 <= Rows.uptoBulk d := by
 obtain ⟨l, c, h1, h2, _, ⟨rfl, rfl⟩ | ⟨ds, rest, rfl, hl⟩⟩ := aal hu he hc h
 ·exact ⟨[], c, h1, h2, by simp [Rows.uptoBulk]⟩
 ·refine ⟨l, c, h1, h2, ?_⟩
  have := Ge ds
  simp only [Rows.uptoBulk]; omega
theorem Vr {H : Type} {P : Program} {t e n : Nat} {d : DataW H} {cs : List CV} (hu : P.underlying t = some (.slice e)) (he : P.underlying e = some .bool) (hc : P.cellsOf e = 1) (h : DR P (n + 2) t d cs) : ∃ (l : List Bool) (c : CV), cs = [c] ∧ SlV 1 (Th l) (.cv c) ∧ l.length ≤ maxLen ∧ l.length ≤ Rows.uptoBulk d := by
  rcases Hb hu h with ⟨rfl, rfl⟩ | ⟨ds, rest, els, rfl, rfl, h1, h2, h3⟩
  · exact ⟨[], _, rfl, .inl ⟨rfl, rfl⟩, by simp, by simp⟩
  · have key : ∀ el ∈ els, ∃ b : Bool, el = [.sc (.bool b)] := by
      intro el hel
      obtain ⟨i, hi⟩ := List.getElem?_of_mem hel
      have hlt : i < ds.length := by grind
      obtain ⟨h4, h5⟩ := h3 i el _ hi (List.getElem?_eq_getElem hlt)
      obtain ⟨x, _, rfl⟩ := afk he h5
      grind
    have all : ∀ els : List (List CV), (∀ el ∈ els, ∃ b : Bool, el = [.sc (.bool b)]) → ∃ l : List Bool, els = Th l := by
      intro els
      induction els with
      | nil => exact fun _ => ⟨[], rfl⟩
      | cons x r ih =>
        intro hk
        obtain ⟨b, rfl⟩ := hk x (by simp)
        obtain ⟨l, rfl⟩ := ih fun el hel => hk el (by simp [hel])
        exact ⟨b :: l, rfl⟩
    obtain ⟨l, rfl⟩ := all els key
    rw [Hp] at h1 h2
    rw [hc]
    have hl := Ge ds
    exact ⟨l, _, rfl, .inr ⟨_, rfl⟩, h2, by simp only [Rows.uptoBulk]; omega⟩
set_option maxRecDepth 100000 in
theorem afw {H : Type} {d : DataW H} {el : List CV} (h : DR Proofs.Try.prog 7 59 d el) (hlen : el.length = 4) (hb : Rows.uptoBulk d <= 2000000) : ∃ x, akc el x := by
 obtain ⟨ds, rfl, hd, hc, hf⟩ := Vp Proofs.Try.underlying59 h
 match ds, hd with
 | [d1, d2, d3, d4], _ =>
  match el, hlen with
  | [c1, c2, c3, c4], _ =>
   have f1 : DR Proofs.Try.prog 6 5 d1 (([c1, c2, c3, c4].drop 0).take (Proofs.Try.prog.cellsOf 5)) := hf 0 _ d1 rfl rfl
   have f2 : DR Proofs.Try.prog 6 22 d2 (([c1, c2, c3, c4].drop 1).take (Proofs.Try.prog.cellsOf 22)) := hf 1 _ d2 rfl rfl
   have f3 : DR Proofs.Try.prog 6 57 d3 (([c1, c2, c3, c4].drop 2).take (Proofs.Try.prog.cellsOf 57)) := hf 2 _ d3 rfl rfl
   have f4 : DR Proofs.Try.prog 6 5 d4 (([c1, c2, c3, c4].drop 3).take (Proofs.Try.prog.cellsOf 5)) := hf 3 _ d4 rfl rfl
   have k1 : Proofs.Try.prog.cellsOf 5 = 1 := by kernel_rfl
   have k2 : Proofs.Try.prog.cellsOf 22 = 1 := by kernel_rfl
   have k3 : Proofs.Try.prog.cellsOf 57 = 1 := by kernel_rfl
   rw [k1] at f1 f4
   rw [k2] at f2
   rw [k3] at f3
   obtain ⟨x1, _, e1, w1⟩ := Pk Proofs.Try.underlying5 f1
   obtain ⟨b, cB, e2, hB, hbl⟩ := Ut Proofs.Try.underlying22 Proofs.Try.underlying5 (by kernel_rfl) f2
   obtain ⟨k, cK, e3, hk, hkl, hkb⟩ := Vr Proofs.Try.underlying57 Proofs.Try.underlying4 (by kernel_rfl) f3
   obtain ⟨x4, _, e4, w4⟩ := Pk Proofs.Try.underlying5 f4
   obtain ⟨y1, rfl⟩ := aai w1
   obtain ⟨y4, rfl⟩ := aai w4
   simp only [Rows.uptoBulk, Rows.uptoBulkAll] at hb
   simp at e1 e2 e3 e4
   subst e1 e2 e3 e4
   exact ⟨⟨y1, b, k, y4⟩, _, _, rfl, hB, hk, by grind, by grind⟩
set_option maxRecDepth 100000 in
theorem Zp {H : Type} {d : DataW H} {u : VV} (h : DV Proofs.Try.prog 54 d u) (hb : Rows.uptoBulk d <= 2000000) : ∃ els l, SlV 4 els u /\ Dh els l /\ l.length <= 10000000 := by
 obtain ⟨c, h1, rfl⟩ := Gp (by simp only [Rb, Proofs.Try.underlying54]) h
 have k2 : Proofs.Try.prog.cellsOf 59 = 4 := by kernel_rfl
 rcases Hb Proofs.Try.underlying54 h1 with ⟨rfl, e⟩ | ⟨ds, rest, els, rfl, e, h2, h3, h4⟩
 ·cases e
  exact ⟨[], [], .inl ⟨rfl, rfl⟩, ⟨rfl, fun i x h => by cases h⟩, by simp⟩
 ·cases e
  rw [k2] at h4 |-
  simp only [Rows.uptoBulk] at hb
  have key : ∀ (els : List (List CV)) (ds : List (DataW H)), els.length = ds.length -> (∀ (i : Nat) (el : List CV) (y : DataW H), els[i]? = some el -> ds[i]? = some y -> el.length = 4 /\ DR Proofs.Try.prog 7 59 y el) -> (∀ y ∈ ds, Rows.uptoBulk y <= 2000000) -> ∃ l, Dh els l := by
   intro els
   induction els with
   | nil => intro ds _ _ _; exact ⟨[], rfl, fun i x h => by cases h⟩
   | cons el r ih =>
    intro ds hl hh hbb
    match ds, hl with
    | y :: ys, hl =>
     obtain ⟨a1, a2⟩ := hh 0 el y rfl rfl
     obtain ⟨x, b1⟩ := afw a2 a1 (hbb y List.mem_cons_self)
     obtain ⟨l, c1, c2⟩ := ih ys (by grind) (fun i el y h1 h2 => hh (i + 1) el y (by grind) (by grind)) (fun z hz => hbb z (List.mem_cons_of_mem _ hz))
     refine ⟨x :: l, by simp [c1], fun i z hz => ?_⟩
     grind
  obtain ⟨l, c1⟩ := key els ds h2 h4 (fun y hy => by have := Jb hy; omega)
  have hbl := Ge ds
  exact ⟨els, l, .inr ⟨false, rfl⟩, c1, by rw [<- c1.1, h2]; omega⟩
section
variable {H : Type} {d0 d1 d2 d3 : DataW H} {u0 u1 u2 u3 : VV}
end
open Go Go.Vm
theorem anl {k v : List UInt8} {t : Bool} {c : CV} (hc : SlV 1 (eB v) (.cv c)) : ChsE [[.sc (.string ⟨k.toArray⟩), c, .sc (.bool t)]] [(k, v, t)] := .cons ⟨_, rfl, hc⟩ .nil
def kb (x : UInt8) : UInt8 := UInt8.ofNat (97 + x.toNat % 16)
theorem mk3 {a b c d e f : CV} (g : ah) : mkO g 3 1 [.cv a, .cv b, .cv c] [(0, 3, .agg [.cv d, .cv e, .cv f])] = some (.cv (.sl 3 [[d, e, f]] true), g) := rfl
theorem bdc {k : List UInt8} {v : CV} : bdO [VV.cv (.sc (.string ⟨#[]⟩)), .cv (.sc (.slice none 0 0)), .cv (.sc (.bool false))] [(0, 1, txt k), (1, 1, .cv v)] = some (.agg [.cv (.sc (.string ⟨k.toArray⟩)), .cv v, .cv (.sc (.bool false))]) := rfl
open Go Go.Vm
def ai3 (p : Nat) (key : List UInt8) (h : ah) : Prop := h[p]? = some (.box [txt key] false)
theorem Sj {p : Nat} {key : List UInt8} : Tells (ai3 p key) 51 [.ptr p 0] (fun r => decide (r.1 = key)) := by
 refine ⟨by decide, fun h g e b => e.get b, fun h id z els g fr o ho b => by
  unfold ai3 at b |-
  rw [List.getElem?_set_ne (by rintro rfl; rw [ho] at b; cases b)]; exact b, fun h' k l c hx hc => ?_⟩
 show Ret F 51 [.agg [txt k, .cv c], .ptr p 0] h' _
 refine eE2 (fn := f51) (n := 8) rfl rfl fun s hs h0 h1 => ?_
 simp only [f51]
 have x1 := HExt.push h' (.box [txt k, .cv c] false)
 have e1 : (h' ++ [VO.box [txt k, .cv c] false])[h'.length]? = some (.box [txt k, .cv c] false) := bk
 have l1 : ldO (h' ++ [VO.box [txt k, .cv c] false]) false 1 (.ptr h'.length 0) = some (txt k, h' ++ [VO.box [txt k, .cv c] false]) := bc e1 rfl
 have l2 : ldO (h' ++ [VO.box [txt k, .cv c] false]) false 1 (.ptr p 0) = some (txt key, h' ++ [VO.box [txt k, .cv c] false]) := bc (x1.get hx) rfl
 simp only [go_sem, seval, hs, h0, h1]
 rw [vj (show [txt k, .cv c].length = 2 from rfl)]
 simp only [go_sem, seval, hs, l1, l2, acv, h1]
 exact ⟨trivial, x1⟩
def anz (rows : List KV) (key : List UInt8) (w : VV) (is : Bool) : Prop :=
 (is = false /\ w = br /\ ∀ r ∈ rows, r.1 ≠ key) \/ (is = true /\ ∃ val, (key, val) ∈ rows /\ SlV 1 (eB val) w)
theorem Vz {h : ah} {q p : Nat} {f l : Option Nat} {z : S} (hS : StoreAt h q p f l z) (hl : z.rows.length <= 1000000) (hv : ∀ r ∈ z.rows, r.2.length <= 1000000000) (key : List UInt8) :
  Ret F 25 [.ptr q 0, txt key] h fun v g => ∃ w is, v = .tup [w, vb is] /\ anz z.rows key w is /\ Ext h g := by
 obtain ⟨u, els, hb, hU, hR⟩ := hS.box
 refine eE2 (fn := f25) (n := 26) rfl rfl fun s hs h0 h1 => ?_
 simp only [f25]
 have x1 := HExt.push h (.box [txt key] false)
 have e1 : (h ++ [VO.box [txt key] false])[h.length]? = some (.box [txt key] false) := bk
 have hb1 := x1.get hb
 have bx : bxO h 1 (txt key) = some (.ptr h.length 0, h ++ [VO.box [txt key] false]) := rfl
 have l1 : ldO (h ++ [VO.box [txt key] false]) false 1 (.ptr q 1) = some (u, _) := bc hb1 rfl
 obtain ⟨v5, g5, n5, rfl, x5⟩ := Aj (hU.vf (h := h ++ [VO.box [txt key] false])) hR (by omega) (Sj (p := h.length) (key := key)) e1
 have hb5 := x5.get hb1
 have l5 : ldO g5 false 1 (.ptr q 1) = some (u, _) := bc hb5 rfl
 have xx : Ext h g5 := HExt.ext (x1.trans x5)
 simp only [go_sem, seval, hs, h0, h1, bx]
 rw [bf f25_0.eq_1]
 simp only [go_sem, seval, hs, h0, l1]
 refine ap (by simp only [List.map, go_sem, seval, hs]; exact n5) ?_
 simp only [go_sem, seval, hs]
 rw [bf f25_1.eq_1]
 rcases vk (fun r : KV => decide (r.1 = key)) z.rows 0 with ⟨e, hno⟩ | ⟨k, r, e, hk, hr, _⟩
 ·simp only [go_sem, seval, hs, e]
  exact ⟨_, false, rfl, .inl ⟨rfl, rfl, fun r hr => by have := hno r hr; simpa using this⟩, xx⟩
 ·rw [Nat.zero_add] at e
  have c : ¬ ((k : Int) < 0) := by omega
  obtain ⟨e', r', a1, a2, cc, rfl, a3⟩ := hR.get (i := k) (List.getElem?_eq_some_iff.1 hk).1
  rw [hk] at a2
  obtain rfl := Option.some.inj a2
  have ia : iaO g5 2 u (vi .i64 (k : Int)) = some (.rptr [.sc (.string ⟨r.1.toArray⟩), cc], g5) := hU.ia (by omega) (by rw [Int.toNat_natCast]; exact a1)
  have fd : fdO 1 (.rptr [.sc (.string ⟨r.1.toArray⟩), cc]) = some (.rptr [cc]) := rfl
  have la : ldO g5 false 1 (.rptr [cc]) = some (.cv cc, g5) := gi
  obtain ⟨v6, g6, n6, w6, r6, S6⟩ := yc a3 (hv r (List.mem_of_getElem? hk))
  have hm : (key, r.2) ∈ z.rows := by
   have : r.1 = key := by simpa using hr
   rw [<- this]; exact List.mem_of_getElem? hk
  simp only [go_sem, seval, hs, e, c, h0, l5, ia, fd, la]
  refine ao (h1 := g5) (by simp only [List.map, go_sem, seval, hs]; rfl) n6 r6 ?_
  simp only [go_sem, seval, hs]
  exact ⟨_, true, rfl, .inr ⟨rfl, r.2, hm, S6⟩, xx⟩
open Go Go.Vm
theorem Pt {l : List KV} {x : Ch} (hx : x.2.2 = true) : ∀ r ∈ nh l x, r.1 ≠ x.1 := by
 intro r hr
 unfold nh at hr
 rw [if_pos hx] at hr
 have := (List.mem_filter.1 hr).2
 simpa using this
theorem Uc {l : List KV} {x : Ch} (hx : x.2.2 = false) : (x.1, x.2.1) ∈ nh l x /\ ∀ r ∈ nh l x, r.1 = x.1 -> r.2 = x.2.1 := by
 unfold nh
 rw [if_neg (by rw [hx]; decide)]
 refine ⟨by simp, fun r hr hk => ?_⟩
 have no : r ∉ gu l x.1 := fun h => by
  have := (List.mem_filter.1 h).2
  simp [hk] at this
 rcases List.mem_append.1 hr with h | h
 ·exact absurd (List.mem_of_mem_take h) no
 ·rcases List.mem_cons.1 h with h | h
  ·rw [h]
  ·exact absurd (List.mem_of_mem_drop h) no
theorem zb {l : List KV} {x : Ch} {w : VV} {is : Bool} (h : anz (nh l x) x.1 w is) : is = !x.2.2 /\ (is = true -> SlV 1 (eB x.2.1) w) := by
 cases hx : x.2.2 with
 | true =>
  rcases h with ⟨h1, _, _⟩ | ⟨_, v, h2, _⟩
  ·exact ⟨h1, fun e => by rw [h1] at e; cases e⟩
  ·exact absurd rfl (Pt hx _ h2)
 | false =>
  obtain ⟨k1, k2⟩ := Uc (l := l) hx
  rcases h with ⟨_, _, h3⟩ | ⟨h1, v, h2, h3⟩
  ·exact absurd rfl (h3 _ k1)
  ·have : v = x.2.1 := k2 _ h2 rfl
   rw [<- this]
   exact ⟨h1, fun _ => h3⟩
theorem f7_get {c0 : List Ch} {x : Ch} {ec : List (List CV)} {uc : VV} (SC : SlV 3 ec uc) (EC : ChsE ec (c0 ++ [x])) (hlen : c0.length <= 6) {h : ah} {q p : Nat} {f l : Option Nat} {z : S} {l0 : List KV} (hS : StoreAt h q p f l z) (hrw : z.rows = nh l0 x) (hl : z.rows.length <= 1000000) (hv : ∀ r ∈ z.rows, r.2.length <= 1000000000) {s : List VV} {Q : Pst} {u0 u1 u2 u11 : VV}
  (hs : s.length = 141) (e0 : s.getD 0 .undef = u0) (e1 : s.getD 1 .undef = u1) (e2 : s.getD 2 .undef = u2) (e9 : s.getD 9 .undef = .ptr q 0) (e11 : s.getD 11 .undef = u11) (e12 : s.getD 12 .undef = uc) (e13 : s.getD 13 .undef = vi .i64 c0.length)
  (hQ : ∀ s' h', s'.length = 141 -> s'.getD 0 .undef = u0 -> s'.getD 1 .undef = u1 -> s'.getD 2 .undef = u2 -> s'.getD 9 .undef = .ptr q 0 -> s'.getD 11 .undef = u11 -> StoreAt h' q p f l z -> Q (.exit 2) ⟨s', h'⟩) : X F (.loop f7_4) ⟨s, h⟩ Q := by
 have hel : ec.length = c0.length + 1 := by rw [EC.len]; simp
 obtain ⟨e, p', a1, a2, cc, rfl, a3⟩ := EC.get (i := c0.length) (by simp)
 have a2 : some x = some p' := by rw [<- a2]; simp
 obtain rfl := Option.some.inj a2
 have ia : ∀ g : ah, iaO g 3 uc (vi .i64 (c0.length : Int)) = some (.rptr [.sc (.string ⟨x.1.toArray⟩), cc, .sc (.bool x.2.2)], g) := fun g => SC.ia (by omega) (by rw [Int.toNat_natCast]; exact a1)
 have fd0 : fdO 0 (.rptr [CV.sc (.string ⟨x.1.toArray⟩), cc, .sc (.bool x.2.2)]) = some (.rptr [CV.sc (.string ⟨x.1.toArray⟩), cc, .sc (.bool x.2.2)]) := rfl
 have fd1 : fdO 1 (.rptr [CV.sc (.string ⟨x.1.toArray⟩), cc, .sc (.bool x.2.2)]) = some (.rptr [cc, .sc (.bool x.2.2)]) := rfl
 have fd2 : fdO 2 (.rptr [CV.sc (.string ⟨x.1.toArray⟩), cc, .sc (.bool x.2.2)]) = some (.rptr [.sc (.bool x.2.2)]) := rfl
 have ld0 : ∀ g : ah, ldO g false 1 (.rptr [CV.sc (.string ⟨x.1.toArray⟩), cc, .sc (.bool x.2.2)]) = some (txt x.1, g) := fun g => gi
 have ld1 : ∀ g : ah, ldO g false 1 (.rptr [cc, .sc (.bool x.2.2)]) = some (.cv cc, g) := fun g => gi
 have ld2 : ∀ g : ah, ldO g false 1 (.rptr [.sc (.bool x.2.2)]) = some (vb x.2.2, g) := fun g => gi
 obtain ⟨v25, g25, n25, w, is, rfl, hG, x25⟩ := Vz hS hl hv x.1
 rw [hrw] at hG
 obtain ⟨rfl, hw⟩ := zb hG
 have hS' := hS.ext x25
 have ws : IntKind.i64.wrap (((c0.length + 1 : Nat) : Int) - 1) = ((c0.length : Nat) : Int) := by rw [IntWalk.i64_in _ (by omega)]; omega
 have wm : IntKind.i64.wrap ((c0.length : Int) - 1) = (c0.length : Int) - 1 := IntWalk.i64_in _ (by omega)
 have g1 : (c0.length : Int) >= 0 := by omega
 have g2 : (c0.length : Int) >= (c0.length : Int) := by omega
 have g3 : ¬ ((c0.length : Int) - 1 >= (c0.length : Int)) := by omega
 rw [aw, bf f7_4.eq_1]
 simp only [go_sem, seval, hs, e12, e13, SC.ln, hel, ws, g1, g2]
 simp only [go_sem, seval, hs, e9, e12, e13, ia, fd0, ld0]
 refine ap (by simp only [List.map, go_sem, seval, hs]; exact n25) ?_
 simp only [go_sem, seval, hs]
 refine jz rfl ?_
 have nb : ((!x.2.2) == x.2.2) = false := by cases x.2.2 <;> rfl
 have fin : ∀ s1 : List VV, s1.length = 141 -> s1.getD 0 .undef = u0 -> s1.getD 1 .undef = u1 -> s1.getD 2 .undef = u2 -> s1.getD 9 .undef = .ptr q 0 -> s1.getD 11 .undef = u11 -> s1.getD 12 .undef = uc -> s1.getD 13 .undef = vi .i64 ((c0.length : Int) - 1) -> X F (.loop f7_4) ⟨s1, g25⟩ Q := by
  intro s1 k k0 k1 k2 k9 k11 k12 k13
  rw [aw, bf f7_4.eq_1]
  by_cases hz : (c0.length : Int) - 1 >= 0
  ·simp only [go_sem, seval, k, k12, k13, SC.ln, hel, ws, hz, g3]
   exact hQ _ _ (by simp only [ae, k]) (by simp only [go_sem, seval, k, k0]) (by simp only [go_sem, seval, k, k1]) (by simp only [go_sem, seval, k, k2]) (by simp only [go_sem, seval, k, k9]) (by simp only [go_sem, seval, k, k11]) hS'
  ·simp only [go_sem, seval, k, k12, k13, hz]
   exact hQ _ _ (by simp only [ae, k]) (by simp only [go_sem, seval, k, k0]) (by simp only [go_sem, seval, k, k1]) (by simp only [go_sem, seval, k, k2]) (by simp only [go_sem, seval, k, k9]) (by simp only [go_sem, seval, k, k11]) hS'
 simp only [go_sem, seval, hs, e12, e13, ia, fd2, ld2, nb]
 cases hx : x.2.2 with
 | true =>
  simp only [go_sem, seval, hs, e13, Bool.not_true, wm]
  exact fin _ (by simp only [ae, hs]) (by simp only [go_sem, seval, hs, e0]) (by simp only [go_sem, seval, hs, e1]) (by simp only [go_sem, seval, hs, e2]) (by simp only [go_sem, seval, hs, e9]) (by simp only [go_sem, seval, hs, e11]) (by simp only [go_sem, seval, hs, e12]) (by simp only [go_sem, seval, hs])
 | false =>
  have hw := (hw (by rw [hx]; rfl)).bs (h := g25)
  have hcb := a3.bs (h := g25)
  have nn : kx .neq (txt x.2.1) (txt x.2.1) = some (vb false) := by rw [Nq]; simp
  simp only [go_sem, seval, hs, e12, e13, ia, fd1, ld1, Bool.not_false, hx, hw, hcb, nn, wm]
  exact fin _ (by simp only [ae, hs]) (by simp only [go_sem, seval, hs, e0]) (by simp only [go_sem, seval, hs, e1]) (by simp only [go_sem, seval, hs, e2]) (by simp only [go_sem, seval, hs, e9]) (by simp only [go_sem, seval, hs, e11]) (by simp only [go_sem, seval, hs, e12]) (by simp only [go_sem, seval, hs])
theorem f7_tail {ch : List Ch} {ec : List (List CV)} {uc : VV} (SC : SlV 3 ec uc) (EC : ChsE ec ch) (hlen : ch.length <= 6) {h : ah} {q p : Nat} {f l : Option Nat} {z : S} {l0 : List KV} (hS : StoreAt h q p f l z) (hrw : z.rows = dg l0 ch) (hl : z.rows.length <= 1000000) (hv : ∀ r ∈ z.rows, r.2.length <= 1000000000) {s : List VV} {Q : Pst} {u0 u1 u2 u11 : VV}
  (hs : s.length = 141) (e0 : s.getD 0 .undef = u0) (e1 : s.getD 1 .undef = u1) (e2 : s.getD 2 .undef = u2) (e9 : s.getD 9 .undef = .ptr q 0) (e11 : s.getD 11 .undef = u11) (e12 : s.getD 12 .undef = uc) (e13 : s.getD 13 .undef = vi .i64 (IntKind.i64.wrap ((ch.length : Int) - 1)))
  (hQ : ∀ s' h', s'.length = 141 -> s'.getD 0 .undef = u0 -> s'.getD 1 .undef = u1 -> s'.getD 2 .undef = u2 -> s'.getD 9 .undef = .ptr q 0 -> s'.getD 11 .undef = u11 -> StoreAt h' q p f l z -> Q (.exit 2) ⟨s', h'⟩) : X F (.loop f7_4) ⟨s, h⟩ Q := by
 rcases List.eq_nil_or_concat ch with rfl | ⟨c0, x, rfl⟩
 ·have wn : IntKind.i64.wrap (((0 : Nat) : Int) - 1) = -1 := IntWalk.i64_in _ (by omega)
  have n1 : ¬ ((-1 : Int) >= 0) := by omega
  rw [List.length_nil, wn] at e13
  rw [aw, bf f7_4.eq_1]
  simp only [go_sem, seval, hs, e13, n1]
  exact hQ _ h (by simp only [ae, hs]) (by simp only [go_sem, seval, hs, e0]) (by simp only [go_sem, seval, hs, e1]) (by simp only [go_sem, seval, hs, e2]) (by simp only [go_sem, seval, hs, e9]) (by simp only [go_sem, seval, hs, e11]) hS
 ·rw [List.concat_eq_append] at EC hrw hlen e13
  have hl1 : (c0 ++ [x]).length = c0.length + 1 := by simp
  have wn : IntKind.i64.wrap (((c0.length + 1 : Nat) : Int) - 1) = ((c0.length : Nat) : Int) := by rw [IntWalk.i64_in _ (by omega)]; omega
  have hst : dg l0 (c0 ++ [x]) = nh (dg l0 c0) x := List.foldl_append
  rw [hst] at hrw
  rw [hl1, wn] at e13
  exact f7_get SC EC (by omega) hS hrw hl hv hs e0 e1 e2 e9 e11 e12 e13 hQ
theorem f7_loop {els : List (List CV)} {l : List Deed} {u : VV} (hS4 : SlV 4 els u) (hE : Dh els l) (hn : l.length <= 200) {q p f n : Nat} {u0 u2 : VV} : ∀ (r i : Nat) (z : S) (l' : Option Nat) (s : List VV) (h : ah) (Q : Pst), i + r = l.length -> StoreAt h q p (some f) l' z -> RunU n z (r + 1) -> s.length = 141 -> s.getD 0 .undef = u0 -> s.getD 1 .undef = u -> s.getD 2 .undef = u2 -> s.getD 9 .undef = .ptr q 0 -> s.getD 11 .undef = vi .i64 i ->
  (∀ s' h' l'' z', s'.length = 141 -> s'.getD 0 .undef = u0 -> s'.getD 2 .undef = u2 -> s'.getD 9 .undef = .ptr q 0 -> StoreAt h' q p (some f) l'' z' -> RunU n z' 1 -> Q (.exit 0) ⟨s', h'⟩) -> (∀ s' h', s'.length = 141 -> s'.getD 6 .undef = vb true -> Q .ret ⟨s', h'⟩) -> X F (.loop f7_5) ⟨s, h⟩ Q := by
 obtain ⟨v12, g12, n12, w12, y12, rfl⟩ := xu
 intro r
 induction r with
 | zero =>
  intro i z l' s h Q hi hSt hU hs e0 e1 e2 e9 e11 hQ hR
  have c : ¬ (i : Int) < (els.length : Int) := by rw [hE.1]; omega
  rw [aw, bf f7_5.eq_1]
  simp only [go_sem, seval, hs, e11, e1, hS4.ln, c]
  exact hQ _ h l' z (by simp only [ae, hs]) (by simp only [go_sem, seval, hs, e0]) (by simp only [go_sem, seval, hs, e2]) (by simp only [go_sem, seval, hs, e9]) hSt hU
 | succ r ih =>
  intro i z l' s h Q hi hSt hU hs e0 e1 e2 e9 e11 hQ hR
  have c : (i : Int) < (els.length : Int) := by rw [hE.1]; omega
  obtain ⟨e, he, cB, cK, rfl, hB, hK, b1, b2⟩ := hE.2 i l[i] (List.getElem?_eq_getElem (by omega))
  have hia := hS4.ia (h := h) (k := .i64) (j := (i : Int)) (by omega) he
  have hw : IntKind.i64.wrap ((i : Int) + 1) = ((i + 1 : Nat) : Int) := by rw [IntWalk.i64_in _ (by omega)]; omega
  have fd : fdO 1 (.rptr [.sc (.int .u8 l[i].kind.toNat), cB, cK, .sc (.int .u8 l[i].fuse.toNat)]) = some (.rptr [cB, cK, .sc (.int .u8 l[i].fuse.toNat)]) := rfl
  have ld1 : ldO h false 1 (.rptr [cB, cK, .sc (.int .u8 l[i].fuse.toNat)]) = some (.cv cB, h) := gi
  obtain ⟨v24, g24, n24, w24, y24, ec, SC, EC⟩ := aiu (n := 6) (by omega) l[i].c (.cv cB) hB
  obtain ⟨k1, k2, k3, k4⟩ := aok l[i].c
  generalize chL 6 l[i].c = ch at EC k1 k2 k3 k4
  obtain ⟨g, l2, n14, M, hU'⟩ := Ae (m := r + 1) hSt hU SC EC (by omega) k2 k3 k4
  have he := hU.e
  have hC := sw hU.mem (c := ch) (by omega) (by omega) k4
  rw [aw, bf f7_5.eq_1]
  simp only [go_sem, seval, hs, e11, e1, hS4.ln, c]
  simp only [go_sem, seval, hs, e11, e1, hia, fd, ld1]
  refine ao (h1 := h) (by simp only [List.map, go_sem, seval, hs]; rfl) n24 y24 ?_
  simp only [go_sem, seval, hs]
  rw [bf f7_3.eq_1]
  simp only [go_sem, seval, hs, e9]
  refine ap (by simp only [List.map, go_sem, seval, hs]; exact n14) ?_
  by_cases hz : (bt z ch).2 = 0
  ·have hc0 : ¬ (((bt z ch).2 : Int) ≠ 0) := by omega
   have hrows := hC.yes hz
   have St := M.st
   generalize (bt z ch).1 = z1 at St hU' hrows
   obtain ⟨hr1, hr2⟩ := hU'.room
   simp only [go_sem, seval, hs, hc0, SC.ln, EC.len]
   refine f7_tail (u0 := u0) (u1 := u) (u2 := u2) (u11 := vi .i64 i) SC EC k1 St hrows (by omega) hr2.v (by simp only [ae, hs]) (by simp only [go_sem, seval, hs, e0]) (by simp only [go_sem, seval, hs, e1]) (by simp only [go_sem, seval, hs, e2]) (by simp only [go_sem, seval, hs, e9]) (by simp only [go_sem, seval, hs, e11]) (by simp only [go_sem, seval, hs]) (by simp only [go_sem, seval, hs]) (fun s1 h1 k m0 m1 m2 m9 m11 S1 => ?_)
   simp only [go_sem, seval, k, m11, hw]
   exact ih (i + 1) z1 l2 _ _ Q (by omega) S1 hU' (by simp only [ae, k]) (by simp only [go_sem, seval, k, m0]) (by simp only [go_sem, seval, k, m1]) (by simp only [go_sem, seval, k, m2]) (by simp only [go_sem, seval, k, m9]) (by simp only [go_sem, seval, k]) hQ hR
  ·have hc0 : (((bt z ch).2 : Int) ≠ 0) := by omega
   simp only [go_sem, seval, hs, hc0]
   refine ao (h1 := g) (by simp only [List.map]; rfl) n12 y12 ?_
   simp only [go_sem, seval, hs]
   exact hR _ _ (by simp only [ae, hs]) (by simp only [go_sem, seval, hs])
theorem anm {k v : List UInt8} {t : Bool} (hk : k.length <= 60) (hv : v.length <= 150) : (gy [(k, v, t)]).length <= 1000000 := by
 have h0 := acp (k, v, t)
 have a0 := nd 1
 have a1 := nd k.length
 have a2 := nd v.length
 have e : gy [(k, v, t)] = num (kh 1) ++ (chB (k, v, t) ++ []) := rfl
 unfold jk at h0
 simp only [List.length_append] at h0
 rw [e, List.append_nil, List.length_append]
 split at h0 <;> omega
theorem Zk {z : S} {c : List Ch} (hn : c ≠ []) : (bt z c).2 = 3 ↔ c.any lng = true := by
 by_cases hl : c.any lng = true
 ·unfold bt
  rw [if_neg hn, if_pos hl]
  simp [hl]
 ·rw [Hn hn hl]
  refine ⟨fun h => ?_, fun h => absurd h hl⟩
  have : (Bp z c (bp z.d.firm.length).1 (gc z.d.firm.length (dg z.rows c)) (dx z.e z.fr c) (gc z.d.firm.length z.rows) (dx ((z.e + 1 : Nat) : Int) 0 c)).2 ≠ 3 := vu (P := fun r => r.2 ≠ 3) (by show (21 : Nat) ≠ 3; decide) (fun _ _ _ _ _ _ _ => by show (0 : Nat) ≠ 3; decide) (fun _ _ => by show (0 : Nat) ≠ 3; decide)
  exact absurd h this
theorem sz5 : sz 5 = 200 := rfl
def f7_t : IR :=
 (.seq (.reg [
 ⟨none, (some 107), (.mv (.t 9))⟩,
 ⟨none, (some 108), (.mv (.t 2))⟩,
 ⟨none, (some 109), (.mv (.t 0))⟩,
 ⟨none, (some 110), (.mksl 1 1 [(.cv (.sc (.int .u8 0)))] [(0, (1, (.t 109)))] false)⟩,
 ⟨none, (some 111), (.build [(.cv (.sc (.string ⟨#[]⟩))), (.cv (.sc (.slice none 0 0))), (.cv (.sc (.bool false)))] [(0, (1, (.t 108))), (1, (1, (.t 110)))])⟩,
 ⟨none, (some 112), (.mksl 3 1 [(.cv (.sc (.string ⟨#[]⟩))), (.cv (.sc (.slice none 0 0))), (.cv (.sc (.bool false)))] [(0, (3, (.t 111)))] false)⟩,
 ⟨none, (some 113), (.call 14 false [(.t 107), (.t 112)])⟩,
 ⟨none, (some 16), (.mv (.t 113))⟩])
 (.seq (.reg [
 ⟨none, (some 115), (.mv (.t 9))⟩,
 ⟨none, (some 116), (.mv (.t 2))⟩,
 ⟨none, (some 117), (.call 25 false [(.t 115), (.t 116)])⟩,
 ⟨none, (some 114), (.mv (.t 117))⟩,
 ⟨none, (some 118), (.ext (.t 114) 0)⟩,
 ⟨none, (some 119), (.ext (.t 114) 1)⟩,
 ⟨none, (some 17), (.mv (.t 118))⟩,
 ⟨none, (some 18), (.mv (.t 119))⟩])
 (.seq (.reg [
 ⟨none, (some 120), (.call 12 true [])⟩,
 ⟨none, (some 121), (.mv (.t 120))⟩,
 ⟨(some (121, true)), (some 122), (.mv (.t 16))⟩,
 ⟨(some (121, true)), (some 123), (.bin .eql (.t 122) (.c (.cv (.sc (.int .u16 3)))))⟩,
 ⟨(some (121, true)), (some 124), (.mv (.t 2))⟩,
 ⟨(some (121, true)), (some 125), (.len true (.t 124))⟩,
 ⟨(some (121, true)), (some 126), (.bin .gtr (.t 125) (.c (.cv (.sc (.int .i64 30)))))⟩,
 ⟨(some (121, true)), (some 127), (.eqb false (.t 123) (.t 126))⟩,
 ⟨none, (some 128), (.pick (.t 121) (.t 127) (.c (.cv (.sc (.bool false)))))⟩,
 ⟨none, (some 129), (.mv (.t 128))⟩,
 ⟨(some (129, true)), (some 130), (.mv (.t 16))⟩,
 ⟨(some (129, true)), (some 131), (.bin .neq (.t 130) (.c (.cv (.sc (.int .u16 0)))))⟩,
 ⟨(some (129, true)), (some 132), (.mv (.t 131))⟩,
 ⟨(some (132, false)), (some 133), (.mv (.t 18))⟩,
 ⟨(some (132, false)), (some 134), (.mv (.t 133))⟩,
 ⟨(some (134, true)), (some 135), (.mv (.t 17))⟩,
 ⟨(some (134, true)), (some 136), (.len false (.t 135))⟩,
 ⟨(some (134, true)), (some 137), (.bin .eql (.t 136) (.c (.cv (.sc (.int .i64 1)))))⟩,
 ⟨(some (132, false)), (some 138), (.pick (.t 134) (.t 137) (.c (.cv (.sc (.bool false)))))⟩,
 ⟨(some (129, true)), (some 139), (.pick (.t 132) (.c (.cv (.sc (.bool true)))) (.t 138))⟩,
 ⟨none, (some 140), (.pick (.t 129) (.t 139) (.c (.cv (.sc (.bool false)))))⟩,
 ⟨none, (some 6), (.mv (.t 140))⟩])
 .ret)))
theorem abs {h : ah} {q p f n : Nat} {l : Option Nat} {z : S} {k : UInt8} {key : List UInt8} (hS : StoreAt h q p (some f) l z) (hU : RunU n z 1) {s : List VV} (hs : s.length = 141) (h0 : s.getD 0 .undef = vi .u8 k.toNat) (h2 : s.getD 2 .undef = txt key) (h9 : s.getD 9 .undef = .ptr q 0) (hk : key.length <= 60) :
  X F f7_t ⟨s, h⟩ (RQ [.t 6] fun v _ => v = vb true) := by
 obtain ⟨v12, g12, n12, w12, y12, rfl⟩ := xu
 have hg : ∀ p ∈ [(key, [k], false)], p.2.2 = true -> p.2.1 = [] := fun p hp => by rw [List.mem_singleton.1 hp]; intro h; cases h
 obtain ⟨g, l2, n14, M, hU'⟩ := Ae (m := 0) hS hU (uc := .cv (.sl 3 [[.sc (.string ⟨key.toArray⟩), .sl 1 [[.sc (.int .u8 k.toNat)]] true, .sc (.bool false)]] true)) (.inr ⟨true, rfl⟩) (anl (k := key) (v := [k]) (t := false) (.inr ⟨true, rfl⟩)) (by simp) (anm hk (by simp)) (fun x hx => by rw [List.mem_singleton.1 hx]; simp) hg
 have he := hU.e
 have hC := sw hU.mem (c := [(key, [k], false)]) (by omega) (by simp) hg
 have h3 := Zk (z := z) (c := [(key, [k], false)]) (by simp)
 have ha : [(key, [k], false)].any lng = decide (30 < key.length) := by simp [lng]
 rw [ha, decide_eq_true_iff] at h3
 obtain ⟨hr1, hr2⟩ := hU'.room
 obtain ⟨v25, g25, n25, w, is, rfl, hG, x25⟩ := Vz M.st (by omega) hr2.v key
 have hyes := hC.yes
 generalize (bt z [(key, [k], false)]).1 = z1 at hyes hG
 generalize (bt z [(key, [k], false)]).2 = e at n14 h3 hyes
 have r1 : ((key.length : Int) > 30) = (30 < key.length) := by apply propext; omega
 have r3 : ((e : Int) = 3) = (30 < key.length) := by apply propext; omega
 rw [bf f7_t.eq_1]
 simp only [go_sem, seval, hs, h0, h2, h9, bdc, mk3]
 refine ap (by simp only [List.map, go_sem, seval, hs]; exact n14) ?_
 simp only [go_sem, seval, hs, h2, h9]
 refine ap (by simp only [List.map, go_sem, seval, hs]; exact n25) ?_
 simp only [go_sem, seval, hs]
 refine ao (h1 := g25) (by simp only [List.map]; rfl) n12 y12 ?_
 have bb : ∀ b : Bool, (b == b) = true := fun b => by cases b <;> rfl
 by_cases hz : e = 0
 ·subst hz
  have hrw : z1.rows = nh z.rows (key, [k], false) := hyes rfl
  rw [hrw] at hG
  obtain ⟨rfl, hw⟩ := zb hG
  have hw := (hw rfl).ln
  have hw : lnO false w = some (vi .i64 1) := hw
  have hn : ¬ 30 < key.length := fun h => by have := h3.2 h; omega
  have hc0 : ¬ (((0 : Nat) : Int) ≠ 0) := by omega
  simp only [go_sem, seval, hs, h2, r1, r3, hn, hc0, hw, Bool.not_false, bb]
  all_goals trivial
 ·have hc0 : ((e : Int) ≠ 0) := by omega
  simp only [go_sem, seval, hs, h2, r1, r3, hc0, bb]
  all_goals trivial
theorem abl {k : UInt8} {els : List (List CV)} {l : List Deed} {u : VV} (hS : SlV 4 els u) (hE : Dh els l) (hn : l.length <= 10000000) (key : List UInt8) (hkl : key.length <= maxLen) : ∃ h', call F 7 [vi .u8 k.toNat, u, txt key] [] = some (.ret (vb true), h') := by
 suffices hx : Ret F 7 [vi .u8 k.toNat, u, txt key] [] fun v _ => v = vb true by
  obtain ⟨v, g, n1, rfl⟩ := hx
  exact ⟨g, n1⟩
 obtain ⟨v23, g23, n23, w23, y23, m, rfl, hm⟩ := abq hS hE hn
 obtain ⟨v12, g12, n12, w12, y12, rfl⟩ := xu
 have clu : ∀ g : ah, cg g [u] = some ([u], g) := fun g => by rcases hS with ⟨rfl, _⟩ | ⟨ex, rfl⟩ <;> rfl
 have hml : maxLen = 9223372036854775807 := rfl
 refine eE3 (fn := f7) (n := 141) rfl rfl fun s hs h0 h1 h2 => ?_
 simp only [f7]
 simp only [go_sem, seval, hs]
 rw [bf f7_0.eq_1]
 simp only [go_sem, seval, hs, h1]
 refine ao (h1 := []) (by simp only [List.map, go_sem, seval, hs]; exact clu _) n23 y23 ?_
 have r1 : ((key.length : Int) > 60) = (60 < key.length) := by apply propext; omega
 by_cases hmm : m = true
 ·subst hmm
  simp only [go_sem, seval, hs]
  refine ao (h1 := []) (by simp only [List.map]; rfl) n12 y12 ?_
  simp only [go_sem, seval, hs]
  all_goals trivial
 by_cases hk : 60 < key.length
 ·simp only [go_sem, seval, hs, hmm, h2, r1, hk]
  refine ao (h1 := []) (by simp only [List.map]; rfl) n12 y12 ?_
  simp only [go_sem, seval, hs]
  all_goals trivial
 simp only [go_sem, seval, hs, hmm, h2, r1, hk]
 have hl200 := hm (by simpa using hmm)
 clear hm
 obtain ⟨v17, g1, n17, p, f, cells, rfl, hcl, x1, hp1, hf1, D1⟩ := abu 5 []
 have n17 : call F 17 [vi .u8 5] [] = some (.ret (.tup [.ptr p 0, .agg cells]), g1) := n17
 rw [sz5] at D1
 refine ap (by simp only [List.map, go_sem, seval, hs]; exact n17) ?_
 have qz : (g1 ++ [VO.box [br, br, vi .i64 0, vi .i64 0, vb false, vi .i64 0] false])[g1.length]? = some (.box [br, br, vi .i64 0, vi .i64 0, vb false, vi .i64 0] false) := bk
 have st6 := jw (n := 6) (cs := cells) hcl qz rfl
 have xz : Ext g1 ((g1 ++ [VO.box [br, br, vi .i64 0, vi .i64 0, vb false, vi .i64 0] false]).set g1.length (.box cells false)) := HExt.ext ((HExt.push g1 _).set (Nat.le_refl _) _)
 simp only [go_sem, seval, hs, st6]
 have D2 := D1.ext xz
 generalize (g1 ++ [VO.box [br, br, vi .i64 0, vi .i64 0, vb false, vi .i64 0] false]).set g1.length (.box cells false) = g2 at D2
 obtain ⟨v11, g3, n11, rfl, l3, d3, M3, f3, L3, V3, B3⟩ := De D2 rfl rfl (by rw [Od]; omega) (k := 690000) ((Pr 200 (by omega)).le (by omega))
 rw [Od] at V3
 obtain ⟨v13, g4, n13, q, l4, z4, rfl, hq4, M4, S4, O4⟩ := Pa M3.dev L3.loose V3.rc (by omega) (k := 680000) (B3.le (by omega))
 have U4 : RunU 200 z4 (l.length + 1) := O4.runU f3 (by omega) (by omega) (by omega)
 rw [bf f7_1.eq_1]
 simp only [go_sem, seval, hs]
 refine ap (by simp only [List.map, go_sem, seval, hs]; exact n11) ?_
 simp only [go_sem, seval, hs]
 refine ap (by simp only [List.map, go_sem, seval, hs]; exact n13) ?_
 simp only [go_sem, seval, hs]
 rw [bf f7_2.eq_1]
 simp only [go_sem, seval, hs]
 refine f7_loop hS hE hl200 (u0 := vi .u8 k.toNat) (u2 := txt key) l.length 0 z4 l4 _ _ _ (by omega) S4 U4 (by simp only [ae, hs]) (by simp only [go_sem, seval, hs, h0]) (by simp only [go_sem, seval, hs, h1]) (by simp only [go_sem, seval, hs, h2]) (by simp only [go_sem, seval, hs]) (by simp only [go_sem, seval, hs]) (fun s5 g5 l5 z5 hs5 k0 k2 k9 S5 U5 => ?_) (fun s5 g5 hs5 k6 => ?_)
 ·exact abs S5 U5 hs5 k0 k2 k9 (by omega)
 ·simp only [go_sem, seval, hs5, k6]
  all_goals trivial
open Go Go.Vm
open Go Go.Vm
open Go Go.Vm
open Go.Proofs.Ytbhoknaipfnlnaa
section
variable {H : Type} {d0 d1 d2 : DataW H} {u0 u1 u2 : VV}
theorem gets_in (hb : Rows.uptoBulkAll [d0, d1, d2] <= 1048576) (h0 : DV Proofs.Try.prog 5 d0 u0) (h1 : DV Proofs.Try.prog 54 d1 u1) (h2 : DV Proofs.Try.prog 9 d2 u2) : ∃ h', call F 7 [u0, u1, u2] [] = some (.ret (vb true), h') := by
 obtain ⟨k, rfl⟩ := amt (by kernel_rfl) h0
 have hb1 : Rows.uptoBulk d1 <= Rows.uptoBulkAll [d0, d1, d2] := Jb (by simp)
 obtain ⟨els, l, hS, hE, hl⟩ := Zp h1 (by omega)
 obtain ⟨key, rfl, hkl⟩ := aku (by kernel_rfl) h2
 exact abl hS hE hl key hkl
end
end Go.V08
