/- Part of a proof: of what it says, and when, each theorem tells itself. -/
import Derived.Test.YtbhoknaipfnlnaaC08All6
import Derived.Test.YtbhoknaipfnlnaaRows
set_option linter.unusedSimpArgs false
set_option linter.unusedVariables false
namespace Go.V08
open Go Go.Vm
theorem Ey {α : Type} {l' l : List α} {k : Nat} (h : l'.Sublist (l.take k)) : l'.Sublist l := h.trans (List.take_sublist k l)
theorem adi {o : Nat × List UInt8} {l' : List (Nat × List UInt8)} (h : l'.Sublist [o]) : l' = [] \/ l' = [o] := by
 grind
theorem Wp {n : Nat} {d : D} (hl : Live d) (hn : d.firm.length = n) {e a : Nat} {rows : List KV} (hR : Rc n d.firm e a rows) (he : e < 1073741824) {pgs : Sec} (hr : ej n rows = some pgs) :
  (∀ F, Out (yv d pgs (1 - a) (e + 1)) F -> ∃ e' a', e' <= e + 1 /\ Rc n F e' a' rows) /\
  ((yv d pgs (1 - a) (e + 1)).dark = false -> Live (yv d pgs (1 - a) (e + 1)) /\ Vd n (yv d pgs (1 - a) (e + 1)).firm (e + 1) (1 - a) rows [] 0) /\
  d.w < (yv d pgs (1 - a) (e + 1)).w /\ (d.fused = false -> (yv d pgs (1 - a) (e + 1)).fused = false) := by
 obtain ⟨b0, b1⟩ := xw n
 obtain ⟨p1, p2⟩ := pw hR.dn.lo
 have hlo := hR.dn.lo
 have ha := hR.a1
 have hp : pgs.length <= an n := (gm hr).2
 have hsl := ou hr
 have h256 := ml (gm hr).1
 have hfl := tf (k := 256) pgs h256
 obtain ⟨_, h64, _⟩ := xd (k := 64) (by omega) (4 * pgs.length) pgs.flatten (by omega)
 rw [Mq, hn]
 generalize hLs : pcs 64 pgs.flatten = Ls at hsl h64
 have h64' : ∀ b ∈ Ls, b.length <= 64 := fun b hb => by grind
 have hin : lq n (1 - a) + Ls.length <= d.firm.length := by
  grind
 have hne : Ls ≠ [] := by
  intro e0
  have hb := If (gm hr).1
  have : pgs.length = 0 := by grind
  have : pgs = [] := List.eq_nil_of_length_eq_zero this
  rw [this] at hb
  rw [show ([] : Sec).dropLast = [] from rfl] at hb
  have h2 := yd (gm hr).1
  grind
 obtain ⟨hP, hw, hfu⟩ := ak2 hl hin h64'
 have hw := hw hne
 have hRa : ∀ l', l'.Sublist (wl (lq n (1 - a)) Ls) -> Rc n (pl d.firm l') e a rows := fun l' hs => hR.area (by omega) h64' hs
 have hn1 : (ph d (lq n (1 - a)) Ls).firm.length = n := by rw [ag7, hn]
 generalize hd1 : ph d (lq n (1 - a)) Ls = d1 at hw hfu hn1
 have dk : d1.dark = true -> ph d1 ((e + 1) % 2) [ge (e + 1) (1 - a) pgs.length] = d1 := fun h => Gl h _ _
 have hO1 : ∀ F, Out d1 F -> Rc n F e a rows := by
  rintro F ⟨l', s1, rfl⟩
  cases hP with
  | done h1 h2 =>
   rw [hd1] at h1 h2
   rw [h1] at s1
   rw [List.sublist_nil.1 s1]
   show Rc n d1.firm e a rows
   grind
  | cut h1 h2 k h3 =>
   rw [hd1] at h1 h2 h3
   rw [h3] at s1
   rw [h2]
   exact hRa _ (Ey s1)
 cases hdk : d1.dark with
 | true =>
  grind
 | false =>
  cases hP with
  | cut h1 _ _ _ => grind
  | done h1 h2 =>
   rw [hd1] at h1 h2
   have hl1 : Live d1 := ⟨h1, hdk⟩
   have hR1 : Rc n d1.firm e a rows := by grind
   have hA : ar n d1.firm (1 - a) (4 * pgs.length) = Ls := by
    have hx := acj (a := 1 - a) (F := d.firm) (Ls := Ls) (by omega) hR.dn (by omega) h64
    grind
   have hV := hR1.head he hr (by rw [hA, hLs])
   have hpd : pad (ge (e + 1) (1 - a) pgs.length) = ge (e + 1) (1 - a) pgs.length := Pc qu
   obtain ⟨hP2, hw2, hfu2⟩ := ak2 hl1 (a := (e + 1) % 2) (L := [ge (e + 1) (1 - a) pgs.length]) (by grind) (fun b hb => by rw [List.mem_singleton.1 hb, qu]; omega)
   have hw2 := hw2 (by simp)
   have hset : pl d1.firm (wl ((e + 1) % 2) [ge (e + 1) (1 - a) pgs.length]) = d1.firm.set ((e + 1) % 2) (ge (e + 1) (1 - a) pgs.length) := by
    show d1.firm.set ((e + 1) % 2) (pad _) = _
    rw [hpd]
   rw [<- hset] at hV
   have hw3 := Nat.lt_trans hw hw2
   have hRV := hV.rc
   have hRV : Rc n (pl d1.firm (wl ((e + 1) % 2) [ge (e + 1) (1 - a) pgs.length])) (e + 1) (1 - a) rows := hRV
   refine ⟨fun F hF => ?_, fun hd2 => ?_, hw3, fun h => hfu2 (hfu h)⟩
   ·obtain ⟨l', s1, rfl⟩ := hF
    cases hP2 with
    | done g1 g2 =>
     rw [g1] at s1
     rw [List.sublist_nil.1 s1]
     refine ⟨e + 1, 1 - a, Nat.le_refl _, ?_⟩
     show Rc n (ph d1 ((e + 1) % 2) [ge (e + 1) (1 - a) pgs.length]).firm (e + 1) (1 - a) rows
     grind
    | cut g1 g2 k g3 =>
     rw [g3] at s1
     rw [g2]
     rcases adi (Ey s1) with rfl | rfl
     ·exact ⟨e, a, by omega, hR1⟩
     ·exact ⟨e + 1, 1 - a, Nat.le_refl _, hRV⟩
   ·cases hP2 with
    | cut g1 _ _ _ => grind
    | done g1 g2 => exact ⟨⟨g1, hd2⟩, by grind⟩
structure Mem (n : Nat) (z : S) : Prop where
 dn : z.d.firm.length = n
 lo : 64 <= n
 hi : n <= 4096
 a1 : z.a <= 1
 room : ∃ p, ej n z.rows = some p
 used : z.used <= jn n
 fr : z.fr <= z.used
structure Run (n : Nat) (z : S) : Prop where
 live : Live z.d
 v : ∃ base L, Vd n z.d.firm z.e z.a base L z.used /\ z.rows = om base L /\ z.fr = L.length
theorem act {n : Nat} {z : S} (hM : Mem n z) (hR : Run n z) (he : z.e < 1073741824) {pg : Sec} (hr : ej n z.rows = some pg) :
  Mem n (ckF z pg) /\ (∀ F, Out (ckF z pg).d F -> ∃ e' a', e' <= (ckF z pg).e /\ Rc n F e' a' z.rows) /\ ((ckF z pg).d.dark = false -> Run n (ckF z pg)) /\ z.d.w < (ckF z pg).d.w /\ (z.d.fused = false -> (ckF z pg).d.fused = false) := by
 obtain ⟨base, L, hV, hrw, _⟩ := hR.v
 have hRc := hV.rc
 rw [<- hrw] at hRc
 obtain ⟨h1, h2, h3, h4⟩ := Wp hR.live hM.dn hRc he hr
 refine ⟨⟨by show (yv z.d pg (1 - z.a) (z.e + 1)).firm.length = n; rw [Xa, hM.dn], hM.lo, hM.hi, by show 1 - z.a <= 1; omega, ⟨pg, hr⟩, Nat.zero_le _, Nat.le_refl _⟩, h1, fun hd => ?_, h3, h4⟩
 obtain ⟨g1, g2⟩ := h2 hd
 exact ⟨g1, z.rows, [], g2, rfl, rfl⟩
theorem Wk {n : Nat} {z : S} (hM : Mem n z) (hR : Run n z) {c : List Ch} (hc : FrOK c) (hu : z.used + (aq z.e z.fr c).length <= jn n) (hroom : ∃ p, ej n (cj z.rows c) = some p) :
  Mem n (uh z c (aq z.e z.fr c)) /\ (∀ F, Out (uh z c (aq z.e z.fr c)).d F -> ∃ e' a', e' <= z.e /\ (Rc n F e' a' z.rows \/ Rc n F e' a' (cj z.rows c))) /\
  ((uh z c (aq z.e z.fr c)).d.dark = false -> Run n (uh z c (aq z.e z.fr c))) /\ z.d.w < (uh z c (aq z.e z.fr c)).d.w /\ (z.d.fused = false -> (uh z c (aq z.e z.fr c)).d.fused = false) := by
 obtain ⟨base, L, hV, hrw, hfr⟩ := hR.v
 have hfs := ji z.e z.fr c
 have hfr1 := hM.fr
 have hlo := hM.lo
 obtain ⟨p1, p2⟩ := pw hlo
 have he : z.e < 4294967296 := by have := hV.e2; omega
 have h64 : ∀ b ∈ aq z.e z.fr c, b.length <= 64 := fun b hb => by rw [(yp he b hb).2]; omega
 have hd : (uh z c (aq z.e z.fr c)).d = ph z.d (2 + z.used) (aq z.e z.fr c) := rfl
 obtain ⟨hP, hw, hfu⟩ := ak2 hR.live (a := 2 + z.used) (L := aq z.e z.fr c) (by rw [hM.dn]; omega) h64
 have hw := hw (by grind)
 have hpart := fun l' hs => hV.part hc (by grind) (by grind) (l' := l') hs
 rw [<- hfr, <- hrw] at hpart
 have hVn : Vd n (pl z.d.firm (wl (2 + z.used) (aq z.e z.fr c))) z.e z.a base (L ++ [c]) (z.used + (aq z.e z.fr c).length) := (hpart _ (.refl _)).1 rfl
 have hfold : om base (L ++ [c]) = cj z.rows c := by rw [hrw]; unfold om; grind
 have hRn := hVn.rc
 rw [hfold] at hRn
 refine ⟨⟨by rw [hd, ag7, hM.dn], hM.lo, hM.hi, hM.a1, hroom, hu, by show z.fr + 1 <= z.used + (aq z.e z.fr c).length; omega⟩, fun F hF => ?_, fun hdk => ?_, by grind, fun h => by grind⟩
 ·rw [hd] at hF
  obtain ⟨l', s1, rfl⟩ := hF
  cases hP with
  | done g1 g2 =>
   rw [g1] at s1
   rw [List.sublist_nil.1 s1]
   refine ⟨z.e, z.a, Nat.le_refl _, .inr ?_⟩
   show Rc n (ph z.d (2 + z.used) (aq z.e z.fr c)).firm _ _ _
   grind
  | cut g1 g2 k g3 =>
   rw [g3] at s1
   rw [g2]
   rcases (hpart l' (Ey s1)).2 with h | h
   ·exact ⟨z.e, z.a, Nat.le_refl _, .inl h⟩
   ·rw [h]; exact ⟨z.e, z.a, Nat.le_refl _, .inr hRn⟩
 ·rw [hd] at hdk
  cases hP with
  | cut g1 _ _ _ => grind
  | done g1 g2 =>
   refine ⟨⟨g1, hdk⟩, base, L ++ [c], ?_, hfold.symm, by show z.fr + 1 = _; grind⟩
   show Vd n (ph z.d (2 + z.used) (aq z.e z.fr c)).firm z.e z.a base (L ++ [c]) (z.used + (aq z.e z.fr c).length)
   grind
open Go Go.Vm
theorem Ju {d : D} (h : d.dark = true) (pg : Sec) (a e : Nat) : yv d pg a e = d := by rw [Mq, Gl h, Gl h]
theorem Cg {z : S} (h : z.d.dark = true) (c : List Ch) (ps : Sec) : (uh z c ps).d = z.d := Gl h _ _
theorem Ov {z : S} (h : z.d.dark = true) (pg : Sec) : (ckF z pg).d = z.d := Ju h _ _ _
theorem afn {c : List Ch} (hl : c.any lng = false) (hg : ∀ p ∈ c, p.2.2 = true -> p.2.1 = []) (hn : c.length <= 5000) (hp : (pcs 49 (gu c)).length <= 200) : FrOK c := by
 refine ⟨fun p hp => ?_, hn, hp⟩
 have := List.any_eq_false.1 hl p hp
 unfold lng at this
 grind
structure ComP (n : Nat) (z : S) (c : List Ch) (r : S × Nat) : Prop where
 k : r.2 = 0 \/ r.2 = 3 \/ r.2 = 21
 mem : Mem n r.1
 e : r.1.e <= z.e + 1
 not : r.2 ≠ 0 \/ c = [] -> r.1 = z
 yes : r.2 = 0 -> r.1.rows = cj z.rows c
 dark : z.d.dark = true -> r.1.d = z.d
 run : Run n z -> r.2 = 0 -> c ≠ [] -> z.d.w < r.1.d.w /\ (∀ F, Out r.1.d F -> ∃ e' a', e' <= r.1.e /\ (Rc n F e' a' z.rows \/ Rc n F e' a' r.1.rows)) /\ (r.1.d.dark = false -> Run n r.1) /\ (z.d.fused = false -> r.1.d.fused = false)
theorem Gp {n : Nat} {z : S} {c : List Ch} (hM : Mem n z) {k : Nat} (hk : k = 3 \/ k = 21) : ComP n z c (z, k) :=
 have h0 : k ≠ 0 := by omega
 ⟨.inr hk, hM, Nat.le_succ _, fun _ => rfl, fun h => absurd h h0, fun _ => rfl, fun _ h => absurd h h0⟩
theorem sm {n : Nat} {z : S} {c : List Ch} (hM : Mem n z) (he : z.e < 1073741823) (hc : c.length <= 5000) (hg : ∀ p ∈ c, p.2.2 = true -> p.2.1 = []) : ComP n z c (bw z c) := by
 by_cases hn : c = []
 ·subst hn
  have : bw z [] = (z, 0) := by unfold bw; rw [if_pos rfl]
  rw [this]
  exact ⟨.inl rfl, hM, Nat.le_succ _, fun _ => rfl, fun _ => rfl, fun _ => rfl, fun _ _ h => absurd rfl h⟩
 cases hl : c.any lng with
 | true =>
  have : bw z c = (z, 3) := by unfold bw; rw [if_neg hn, if_pos hl]
  rw [this]
  exact Gp hM (.inl rfl)
 | false =>
  unfold bw
  rw [if_neg hn, if_neg (by rw [hl]; decide)]
  have hdn := hM.dn
  obtain ⟨pg0, hr0⟩ := hM.room
  rw [hdn]
  cases hrm : ej n (cj z.rows c) with
  | none => exact Gp hM (.inr rfl)
  | some pgA =>
   cases hpf : er z.e z.fr c with
   | none => exact Gp hM (.inr rfl)
   | some ps =>
    obtain ⟨hps, h200⟩ := pt hpf
    have hF := afn hl hg hc h200
    dsimp only
    by_cases c2 : (bk n).1 < ps.length
    ·rw [if_pos c2]; exact Gp hM (.inr rfl)
    ·rw [if_neg c2]
     by_cases c3 : (bk n).1 < z.used + ps.length
     ·rw [if_pos c3, hr0]
      obtain ⟨ps', hp2, hpl⟩ := xg hpf (e' := z.e + 1) (by omega)
      obtain ⟨hps', _⟩ := pt (n := 0) hp2
      rw [hp2]
      have hu' : (ckF z pg0).used + (aq (ckF z pg0).e (ckF z pg0).fr c).length <= jn n := by
       show 0 + (aq (z.e + 1) 0 c).length <= jn n
       rw [<- hps', hpl]
       have : ¬ jn n < ps.length := c2
       omega
      have hMk : Mem n (ckF z pg0) := ⟨by show (yv z.d pg0 (1 - z.a) (z.e + 1)).firm.length = n; rw [Xa, hM.dn], hM.lo, hM.hi, by show 1 - z.a <= 1; omega, ⟨pg0, hr0⟩, Nat.zero_le _, Nat.le_refl _⟩
      rw [hps']
      have hfs := ji (z.e + 1) 0 c
      have hMa : Mem n (uh (ckF z pg0) c (aq (z.e + 1) 0 c)) := ⟨by show (ph (ckF z pg0).d _ _).firm.length = n; rw [ag7, hMk.dn], hM.lo, hM.hi, hMk.a1, ⟨pgA, hrm⟩, hu', by show 0 + 1 <= 0 + (aq (z.e + 1) 0 c).length; omega⟩
      refine ⟨.inl rfl, hMa, Nat.le_refl _, fun h => ?_, fun _ => rfl, fun h => ?_, fun hR _ _ => ?_⟩
      ·rcases h with h | h
       ·exact absurd rfl h
       ·exact absurd h hn
      ·show (uh (ckF z pg0) c (aq (z.e + 1) 0 c)).d = z.d
       rw [Cg (by rw [Ov h]; exact h), Ov h]
      ·obtain ⟨k1, k2, k3, k4, k5⟩ := act hM hR (by omega) hr0
       cases hdk : (ckF z pg0).d.dark with
       | true =>
        have hsame : (uh (ckF z pg0) c (aq (z.e + 1) 0 c)).d = (ckF z pg0).d := Cg hdk _ _
        dsimp only
        rw [hsame]
        refine ⟨k4, fun F hF => ?_, fun h => ?_, k5⟩
        ·obtain ⟨e', a', q1, q2⟩ := k2 F hF
         exact ⟨e', a', q1, .inl q2⟩
        ·cases hdk.symm.trans h
       | false =>
        obtain ⟨m1, m2, m3, m4, m5⟩ := Wk k1 (k3 hdk) hF hu' ⟨pgA, hrm⟩
        exact ⟨Nat.lt_trans k4 m4, m2, m3, fun h => m5 (k5 h)⟩
     ·rw [if_neg c3, hps]
      have hu' : z.used + (aq z.e z.fr c).length <= jn n := by
       rw [<- hps]
       have : ¬ jn n < z.used + ps.length := c3
       omega
      have hfs := ji z.e z.fr c
      have hfr := hM.fr
      have hMa : Mem n (uh z c (aq z.e z.fr c)) := ⟨by show (ph z.d _ _).firm.length = n; rw [ag7, hM.dn], hM.lo, hM.hi, hM.a1, ⟨pgA, hrm⟩, hu', by show z.fr + 1 <= z.used + (aq z.e z.fr c).length; omega⟩
      refine ⟨.inl rfl, hMa, Nat.le_succ _, fun h => ?_, fun _ => rfl, fun h => Cg h _ _, fun hR _ _ => ?_⟩
      ·rcases h with h | h
       ·exact absurd rfl h
       ·exact absurd h hn
      ·obtain ⟨m1, m2, m3, m4, m5⟩ := Wk hM hR hF hu' ⟨pgA, hrm⟩
       exact ⟨m4, m2, m3, m5⟩
open Go Go.Vm
theorem qv {d : D} (h : d.loose = []) (i : Nat) : d.cell i = d.firm.getD i [] := by unfold D.cell; rw [h]; rfl
theorem Ph {d : D} (h : d.loose = []) {a m : Nat} (hm : a + m <= d.firm.length) : Cn d a m = (d.firm.drop a).take m := by
 apply List.ext_getElem?
 intro i
 unfold Cn
 by_cases hi : i < m
 ·rw [List.getElem?_map, List.getElem?_range hi, Option.map_some, qv h, List.getElem?_take_of_lt hi, List.getElem?_drop, List.getD_eq_getElem?_getD]
  grind
 grind
theorem aby {d : D} (h : d.loose = []) {e a pg : Nat} (hd : Hd d.firm.length d.firm e a pg) : re d = some (e, a, pg) := by
 obtain ⟨h1, h2⟩ := hd
 rcases (show e % 2 = 0 \/ e % 2 = 1 by omega) with he | he
 ·rw [he] at h1 h2
  have h2 : ∀ x, jy d.firm.length (d.firm.getD 1 []) = some x -> x.1 < e := h2
  refine sv (x := some (e, a, pg)) (y := jy d.firm.length (d.firm.getD 1 [])) (by rw [qv h]; exact h1) (by rw [qv h]) ?_
  cases hy : jy d.firm.length (d.firm.getD 1 []) with
  | none => rfl
  | some y =>
   have := h2 y hy
   show (if e < y.1 then some y else some (e, a, pg)) = _
   grind
 ·rw [he] at h1 h2
  have h2 : ∀ x, jy d.firm.length (d.firm.getD 0 []) = some x -> x.1 < e := h2
  refine sv (x := jy d.firm.length (d.firm.getD 0 [])) (y := some (e, a, pg)) (by rw [qv h]) (by rw [qv h]; exact h1) ?_
  cases hx : jy d.firm.length (d.firm.getD 0 []) with
  | none => rfl
  | some x =>
   have := h2 x hx
   show (if x.1 < e then some (e, a, pg) else some x) = _
   grind
structure OpenP (n : Nat) (e : Nat) (rows : List KV) (d : D) (k : Nat) (z : S) : Prop where
 rw_ : z.rows = rows
 ep : z.e = e + 1
 us : z.used = 0
 fr : z.fr = 0
 mem : Mem n z
 out : ∀ F, Out z.d F -> ∃ e' a', e' <= e + 1 /\ Rc n F e' a' rows
 run : z.d.dark = false -> Run n z
 nf : d.fused = false -> z.d.fused = false
 lim : z.d.Lim k
theorem Gt {h : ae} {p : Nat} {f l : Option Nat} {d : D} (hD : dq h p f l d) (hl : d.loose = []) {n e a : Nat} {rows : List KV} (hR : Rc n d.firm e a rows) (he : e < 1073741824) {k : Nat} (hL : d.Lim (k + 3000)) :
  Ret F 13 [.ptr p 0] h fun v g => ∃ q l' z, v = .tup [.ptr q 0, vi .u16 0] /\ h.length <= q /\ Moved h g p f l l' z.d /\ StoreAt g q p f l' z /\ OpenP n e rows d k z := by
 have hn : d.firm.length = n := hR.dn.len
 obtain ⟨base, pgs, L, h1, h2, h3, h4, h5, h6, h7⟩ := hR.ex
 obtain ⟨pgR, hr⟩ := hR.room
 obtain ⟨p1, p2⟩ := pw hR.dn.lo
 have hp : pgs.length <= an n := (gm h2).2
 have hpR : pgR.length <= an n := (gm hr).2
 have hlo := hR.dn.lo
 have hhi := hR.dn.hi
 have hbld := (gm h2).1
 have h256 := ml hbld
 have hfl := tf (k := 256) pgs h256
 obtain ⟨hs1, _, hs3⟩ := xd (k := 64) (by omega) (4 * pgs.length) pgs.flatten (by omega)
 obtain ⟨hin, hin2⟩ := Lh hlo hR.a1 hp
 have hf : re d = some (e, a, pgs.length) := aby hl (by grind)
 have hlaid : Wn d a pgs.length = (base, 0) := by
  unfold Wn
  rw [hn, Ph hl (by omega)]
  have : (d.firm.drop (lq n a)).take (pgs.length * 4) = pcs 64 pgs.flatten := by rw [Nat.mul_comm]; exact h3
  rw [this, hs3, afo (by omega) pgs h256]
  exact yd hbld
 have hjr : Cn d 2 (bk d.firm.length).1 = jr n d.firm := by
  rw [hn, Ph hl (by omega)]; rfl
 have hFr : FrL (tg e (Cn d 2 (bk d.firm.length).1)).1 L := by
  rw [hjr, h4]; exact aj8 h5
 have hb5 : base.length <= 5000 := by
  unfold dl at hbld
  grind
 have hr' : ej d.firm.length (om base L) = some pgR := by grind
 obtain ⟨v, g, n1, q, l', rfl, hq, M, St⟩ := afy hD (by omega) hf hlaid hFr (by omega) hr' he (hL.le (by omega))
 have hlay : (∀ F, Out (yv d pgR (1 - a) (e + 1)) F -> ∃ e' a', e' <= e + 1 /\ Rc n F e' a' rows) /\
  ((yv d pgR (1 - a) (e + 1)).dark = false -> Live (yv d pgR (1 - a) (e + 1)) /\ Vd n (yv d pgR (1 - a) (e + 1)).firm (e + 1) (1 - a) rows [] 0) /\ (d.fused = false -> (yv d pgR (1 - a) (e + 1)).fused = false) := by
  cases hdk : d.dark with
  | false =>
   obtain ⟨o1, o2, o3, o4⟩ := Wp ⟨hl, hdk⟩ hn hR he hr
   grind
  | true =>
   rw [Ju hdk]
   refine ⟨fun F hF => ⟨e, a, Nat.le_succ e, ?_⟩, fun h => ?_, fun h => h⟩
   ·rw [Yt hl hF]; exact hR
   grind
 obtain ⟨o1, o2, o4⟩ := hlay
 have hz : (ckF ⟨d, om base L, e, a, pgs.length, 0, 0⟩ pgR).d = yv d pgR (1 - a) (e + 1) := rfl
 refine ⟨_, g, n1, q, l', _, rfl, hq, M, St, h7.symm, rfl, rfl, rfl, ⟨?_, hlo, hhi, ?_, ⟨pgR, by show ej n (om base L) = _; grind⟩, Nat.zero_le _, Nat.le_refl _⟩, ?_, fun hd => ?_, ?_, ?_⟩
 ·rw [hz, Xa, hn]
 ·show 1 - a <= 1; omega
 ·grind
 ·rw [hz] at hd
  obtain ⟨g1, g2⟩ := o2 hd
  exact ⟨g1, rows, [], g2, h7.symm, rfl⟩
 ·grind
 ·rw [hz]
  exact zl (by rw [ou hr]; exact hL.le (by omega))
open Go Go.Vm
theorem ni {d : D} (h : d.fused = false) : d.dark = false := by unfold D.dark; rw [h]; rfl
theorem Wc {d : D} (h : d.fused = false) (hl : d.loose = []) {a : Nat} {L : List (List UInt8)} (hn : a + L.length <= d.firm.length) (hb : ∀ b ∈ L, b.length <= 64) :
  (ph d a L).loose = [] /\ (ph d a L).firm = pl d.firm (wl a L) /\ (ph d a L).fused = false := by
 obtain ⟨hP, _, hf⟩ := ak2 ⟨hl, ni h⟩ hn hb
 have hf := hf h
 cases hP with
 | done h1 h2 => grind
 | cut h1 _ _ _ => rw [ni hf] at h1; cases h1
theorem Tc {d : D} (hO : d.OK) (hf : d.fused = false) (hl : d.loose = []) (hlo : 64 <= d.firm.length) : (ql d).fused = false /\ Live (ql d) /\ Vd d.firm.length (ql d).firm 1 0 [] [] 0 := by
 obtain ⟨n, hn⟩ : ∃ n, d.firm.length = n := ⟨_, rfl⟩
 have hhi : n <= 4096 := by rw [<- hn]; exact hO.n
 rw [hn] at hlo |-
 obtain ⟨p1, p2⟩ := pw hlo
 obtain ⟨b0, b1⟩ := xw n
 have hD0 : Dn n d.firm := ⟨hlo, hhi, hn, hO.f64⟩
 have hrep : ∀ b ∈ List.replicate (2 + jn n) ([] : List UInt8), b.length <= 64 := fun b hb => by grind
 obtain ⟨f1, f2, f3⟩ := Wc hf hl (a := 0) (L := List.replicate (2 + jn n) []) (by grind) hrep
 have hpb : dl [] = some [ga 0 []] := zm
 have h256 := ml hpb
 have hfl := tf (k := 256) [ga 0 []] h256
 obtain ⟨hs1, hs2, _⟩ := xd (k := 64) (by omega) 4 ([ga 0 []] : Sec).flatten (by rw [hfl]; rfl)
 have hs2' : ∀ b ∈ pcs 64 ([ga 0 []] : Sec).flatten, b.length <= 64 := fun b hb => by grind
 have hd : ql d = yv (ph d 0 (List.replicate (2 + jn n) [])) [ga 0 []] 0 1 := by unfold ql; rw [hn]; rfl
 have hn1 : (ph d 0 (List.replicate (2 + jn n) [])).firm.length = n := by rw [ag7, hn]
 rw [hd, Mq, hn1]
 have hD1 : Dn n (ph d 0 (List.replicate (2 + jn n) [])).firm := by rw [f2]; exact hD0.sub hrep (.refl _)
 have hz : ∀ i, i < 2 + jn n -> (ph d 0 (List.replicate (2 + jn n) [])).firm[i]? = some z64 := fun i hi => by
  have := Nx (List.replicate (2 + jn n) []) d.firm 0 i (by grind) (by grind)
  rw [Nat.zero_add] at this
  rw [f2, this, List.getElem?_replicate, if_pos hi]
  rfl
 generalize ph d 0 (List.replicate (2 + jn n) []) = d1 at f1 f3 hn1 hD1 hz
 have han : 4 * 1 <= 4 * an n := by omega
 obtain ⟨g1, g2, g3⟩ := Wc f3 f1 (a := lq n 0) (L := pcs 64 ([ga 0 []] : Sec).flatten) (by omega) hs2'
 have hA := acj (a := 0) (F := d1.firm) (by omega) hD1 (by omega) hs2
 rw [hs1] at hA
 have hn2 : (ph d1 (lq n 0) (pcs 64 ([ga 0 []] : Sec).flatten)).firm.length = n := by rw [ag7, hn1]
 have hz2 : ∀ i, i < 2 + jn n -> (ph d1 (lq n 0) (pcs 64 ([ga 0 []] : Sec).flatten)).firm[i]? = some z64 := fun i hi => by
  rw [g2, Lv (.refl _) (.inl (by omega)), hz i hi]
 have hD2 : Dn n (ph d1 (lq n 0) (pcs 64 ([ga 0 []] : Sec).flatten)).firm := by rw [g2]; exact hD1.sub hs2' (.refl _)
 rw [<- g2] at hA
 generalize ph d1 (lq n 0) (pcs 64 ([ga 0 []] : Sec).flatten) = d2 at g1 g3 hn2 hz2 hD2 hA
 have hpl : ([ga 0 []] : Sec).length = 1 := rfl
 rw [hpl]
 have hh64 : ∀ b ∈ [ge 1 0 1], b.length <= 64 := fun b hb => by rw [List.mem_singleton.1 hb, qu]; omega
 obtain ⟨k1, k2, k3⟩ := Wc g3 g1 (a := 1 % 2) (L := [ge 1 0 1]) (by grind) hh64
 have hset : pl d2.firm (wl (1 % 2) [ge 1 0 1]) = d2.firm.set 1 (ge 1 0 1) := by
  show d2.firm.set (1 % 2) (pad _) = _
  rw [Pc qu]
 have hD3 : Dn n (d2.firm.set 1 (ge 1 0 1)) := by rw [<- hset]; exact hD2.sub hh64 (.refl _)
 rw [hset] at k2
 refine ⟨k3, ⟨k1, ni k3⟩, ?_⟩
 rw [k2]
 have ne : ∀ i, 2 <= i -> (d2.firm.set 1 (ge 1 0 1))[i]? = d2.firm[i]? := fun i hi => List.getElem?_set_ne (by omega)
 refine ⟨hD3, by omega, by omega, by omega, ⟨[ga 0 []], ⟨?_, fun x hx => ?_⟩, zi hlo, ?_⟩, by simp [cq], rfl, Nat.zero_le _, fun i b _ hi hb => ?_, fun c hc => (by cases hc), ⟨_, zi hlo⟩, fun i b hi hb => ?_⟩
 ·show jy n ((d2.firm.set 1 (ge 1 0 1)).getD 1 []) = _
  rw [List.getD_eq_getElem?_getD, List.getElem?_set_self (by omega)]
  exact Aq (by omega) (by omega) (by omega) (Nat.le_refl 1) (by grind) hhi
 ·have hx : jy n ((d2.firm.set 1 (ge 1 0 1)).getD 0 []) = some x := hx
  rw [List.getD_eq_getElem?_getD, List.getElem?_set_ne (by omega), hz2 0 (by omega)] at hx
  have hx : jy n z64 = some x := hx
  rw [Qq] at hx; cases hx
 ·rw [hpl, <- hA]
  exact pj fun i hi => ne _ (by omega)
 ·rw [ne _ (by omega), hz2 _ (by omega)] at hb
  cases hb
  exact (Oh 1).1
 ·rw [ne _ (by omega), hz2 _ (by omega)] at hb
  cases hb
  exact (Oh 1).2
theorem Mb {d : D} {k : Nat} (h : d.Lim (k + 2000)) (hn : d.firm.length <= 4096) : (ql d).Lim k := by
 have hj := (iz hn).1
 have h256 := ml zm
 have hps : (pcs 64 ([ga 0 []] : Sec).flatten).length = 4 := by
  have hfl := tf (k := 256) [ga 0 []] h256
  exact (xd (k := 64) (by omega) 4 ([ga 0 []] : Sec).flatten (by rw [hfl]; rfl)).1
 unfold ql
 refine zl (ow (nj _ _ _ _ (h.le ?_)))
 grind
theorem xi {h : ae} {p : Nat} {f l : Option Nat} {d : D} (hD : dq h p f l d) (hf : d.fused = false) (hl : d.loose = []) (hlo : 64 <= d.firm.length) {k : Nat} (hL : d.Lim (k + 2000)) :
  Ret F 11 [.ptr p 0] h fun v g => v = vi .u16 0 /\ ∃ l' d', Moved h g p f l l' d' /\ d'.fused = false /\ Live d' /\ Vd d.firm.length d'.firm 1 0 [] [] 0 /\ d'.Lim k := by
 obtain ⟨v, g, n1, rfl, l', M⟩ := Qp hD hlo (hL.le (by have := (iz hL.ok.n).1; omega))
 obtain ⟨a1, a2, a3⟩ := Tc hL.ok hf hl hlo
 exact ⟨_, g, n1, rfl, l', _, M, a1, a2, a3, Mb hL hL.ok.n⟩
open Go Go.Vm
theorem RowsE.setV {els : List (List CV)} {rows : List KV} (h : RowsE els rows) {i : Nat} {k v : List UInt8} (hi : rows[i]? = some (k, v)) {c : CV} (hc : SlV 1 (eB v) (.cv c)) : RowsE (els.set i [.sc (.string ⟨k.toArray⟩), c]) rows := by
 induction h generalizing i with
 | nil => simp at hi
 | cons h t ih =>
  cases i with
  | zero => cases hi; exact .cons ⟨c, rfl, hc⟩ t
  | succ i => exact .cons h (ih (by grind))
theorem f42_loop {rows : List KV} (hl : rows.length <= 1000000) (hv : ∀ r ∈ rows, r.2.length <= 1000000000) {uo : VV} {id g : Nat} (huo : uo = .own id g 0 rows.length false) : ∀ (r i : Nat) (els : List (List CV)) (s : List VV) (h : ae) (Q : Pst), i + r = rows.length -> h[id]? = some (.arr 2 els g false) -> rows.length <= els.length -> RowsE (els.take rows.length) rows ->
  s.length = 24 -> s.getD 3 .undef = uo -> s.getD 8 .undef = uo -> s.getD 9 .undef = vi .i64 rows.length -> s.getD 10 .undef = vi .i64 i ->
  (∀ s' h' els', s'.length = 24 -> s'.getD 3 .undef = uo -> h'[id]? = some (.arr 2 els' g false) -> rows.length <= els'.length -> RowsE (els'.take rows.length) rows -> Q (.exit 0) ⟨s', h'⟩) -> X F (.loop f42_1) ⟨s, h⟩ Q := by
 intro r
 induction r with
 | zero =>
  intro i els s h Q hi hb hfl hR hs e3 e8 e9 e10 hQ
  have c : ¬ ((i : Nat) : Int) < (rows.length : Int) := by omega
  rw [ba, bi f42_1.eq_1]
  simp only [go_sem, seval, hs, e9, e10, c]
  rw [bi f42_0.eq_1]
  simp only [go_sem, seval, hs]
  grind
 | succ r ih =>
  intro i els s h Q hi hb hfl hR hs e3 e8 e9 e10 hQ
  have c : ((i : Nat) : Int) < (rows.length : Int) := by omega
  obtain ⟨e, kv, a1, a2, cc, rfl, a3⟩ := hR.get (i := i) (by omega)
  rw [List.getElem?_take_of_lt (by omega)] at a1
  subst huo
  have ia : ∀ {g' : ae}, g'[id]? = some (.arr 2 els g false) -> iaO g' 2 (.own id g 0 rows.length false) (vi .i64 (i : Int)) = some (.eptr id g i 0, g') := fun {g'} hg => by
   rw [zq (by omega) hg (by omega)]; simp
  have ld2 : ldO h true 2 (.eptr id g i 0) = some (.agg [txt kv.1, .cv cc], h) := by
   simp [ldO, ai, mi, hb, a1, dm]
  have hb2 : (h ++ [VO.box [txt kv.1, .cv cc] false])[id]? = some (.arr 2 els g false) := (HExt.push h _).get hb
  have q5 : (h ++ [VO.box [txt kv.1, .cv cc] false])[h.length]? = some (.box [txt kv.1, .cv cc] false) := bp
  have ld5 : ldO (h ++ [VO.box [txt kv.1, .cv cc] false]) false 1 (.ptr h.length 1) = some (.cv cc, _) := bg q5 rfl
  obtain ⟨v5, g5, n5, w5, r5, S5⟩ := Eh a3 (hv kv (List.mem_of_getElem? a2))
  obtain ⟨c5, rfl⟩ : ∃ c5, w5 = .cv c5 := by rcases S5 with ⟨rfl, _⟩ | ⟨ex, rfl⟩ <;> exact ⟨_, rfl⟩
  have clc : ∀ g' : ae, cf g' [.cv cc] = some ([.cv cc], g') := fun g' => rfl
  have st5 := amf (off := 1) (c := c5) hb2 a1 (by grind)
  have hwr : IntKind.i64.wrap ((i : Int) + 1) = ((i + 1 : Nat) : Int) := by rw [IntWalk.i64_in _ (by omega)]; omega
  have fd : fdO 1 (.eptr id g i 0) = some (.eptr id g i 1) := rfl
  rw [ba, bi f42_1.eq_1]
  simp only [go_sem, seval, hs, e9, e10, c]
  rw [bi f42_0.eq_1]
  simp only [go_sem, seval, hs, e8, e10, ia hb, ld2]
  simp only [go_sem, seval, hs, e3, e8, e10, ld5]
  refine ap (by simp only [List.map, go_sem, seval, hs]; exact clc _) n5 r5 ?_
  simp only [go_sem, seval, hs, ia hb2, fd, st5, e10, hwr]
  refine ih (i + 1) _ _ _ Q (by omega) (List.getElem?_set_self (ev hb2)) (by grind) (by rw [List.take_set]; exact hR.setV (k := kv.1) (v := kv.2) a2 S5) (by simp only [ah, hs]) (by simp only [go_sem, seval, hs, e3]) (by simp only [go_sem, seval, hs, e8]) (by simp only [go_sem, seval, hs, e9]) (by simp only [go_sem, seval, hs]) hQ
theorem Rm {rows : List KV} {els : List (List CV)} {u : VV} (hu : SlV 2 els u) (hR : RowsE els rows) (hl : rows.length ≤ 1000000) (hv : ∀ r ∈ rows, r.2.length ≤ 1000000000) : Er F 42 [u] fun w => ∃ els', SlV 2 els' w ∧ RowsE els' rows := by
  have hel := hR.len
  obtain ⟨v6, g6, n6, B6⟩ := Dd (h := []) hu.vf (by omega)
  rcases B6.v with ⟨e6, rfl⟩ | ⟨e6, rfl⟩ | ⟨id, gg, full, _, rfl, a2, a3, a4⟩
  · have hr : rows.length = 0 := by grind
    have : Ret F 42 [u] [] fun v g => v = ct := by
      refine bc (fn := f42) rfl ?_
      simp only [f42]
      generalize hs0 : ([u] ++ List.replicate _ VV.undef : List VV) = s
      have hs : s.length = 24 := by grind
      have h0 : s.getD 0 .undef = u := by grind
      clear hs0
      have c : ¬ ((0 : Int) < 0) := by decide
      simp only [go_sem, seval, hs, h0]
      refine ao (by simp only [List.map, go_sem, seval, hs, h0]; exact n6) ?_
      simp only [go_sem, seval, hs]
      rw [ba, bi f42_1.eq_1]
      simp only [go_sem, seval, hs]
      rw [bi f42_0.eq_1]
      simp only [go_sem, seval, hs]
      all_goals trivial
    obtain ⟨v, g, n1, rfl⟩ := this
    exact ⟨_, g, n1, _, rfl, els, .inl ⟨rfl, e6⟩, hR⟩
  · have hr : rows.length = 0 := by grind
    have : Ret F 42 [u] [] fun v g => v = .cv (.sl 2 [] true) := by
      refine bc (fn := f42) rfl ?_
      simp only [f42]
      generalize hs0 : ([u] ++ List.replicate _ VV.undef : List VV) = s
      have hs : s.length = 24 := by grind
      have h0 : s.getD 0 .undef = u := by grind
      clear hs0
      simp only [go_sem, seval, hs, h0]
      refine ao (by simp only [List.map, go_sem, seval, hs, h0]; exact n6) ?_
      have hln : lnO false (.cv (.sl 2 [] true)) = some (vi .i64 0) := rfl
      simp only [go_sem, seval, hs, hln]
      rw [ba, bi f42_1.eq_1]
      simp only [go_sem, seval, hs]
      rw [bi f42_0.eq_1]
      simp only [go_sem, seval, hs]
      all_goals trivial
    obtain ⟨v, g, n1, rfl⟩ := this
    exact ⟨_, g, n1, _, rfl, els, .inr ⟨true, by rw [e6]⟩, hR⟩
  · have : Ret F 42 [u] [] fun v g => v = .own id gg 0 rows.length false ∧ ∃ els', g[id]? = some (.arr 2 els' gg false) ∧ rows.length ≤ els'.length ∧ RowsE (els'.take rows.length) rows := by
      rw [hel] at a3 a4 n6
      have hln : lnO false (.own id gg 0 rows.length false) = some (vi .i64 rows.length) := rfl
      refine bc (fn := f42) rfl ?_
      simp only [f42]
      generalize hs0 : ([u] ++ List.replicate _ VV.undef : List VV) = s
      have hs : s.length = 24 := by grind
      have h0 : s.getD 0 .undef = u := by grind
      clear hs0
      simp only [go_sem, seval, hs, h0]
      refine ao (by simp only [List.map, go_sem, seval, hs, h0]; exact n6) ?_
      simp only [go_sem, Nat.reduceLT, Nat.reduceEqDiff, reduceCtorEq, Int.reduceLT, Int.reduceEq, hs, hln]
      refine f42_loop hl hv rfl rows.length 0 full _ _ _ (by omega) a2 a3 (by grind) (by grind) (by grind) (by grind) (by grind) (by grind) (fun s' h' els' hs' k3 k4 k5 k6 => ?_)
      simp only [go_sem, seval, hs', k3]
      grind
    obtain ⟨v, g, n1, rfl, els', k4, k5, k6⟩ := this
    refine ⟨_, g, n1, .cv (.sl 2 (els'.take rows.length) false), ?_, _, .inr ⟨false, rfl⟩, k6⟩
    have : gc g (.own id gg 0 rows.length false) = some (.cv (.sl 2 (els'.take rows.length) false), g.set id (.arr 2 els' gg true)) := by
      simp only [gc, Go.Vm.clos, k4, Nat.zero_add, k5, and_self, if_true, List.drop_zero]
    simp only [au, this, Option.map]
theorem vd {h : ae} {q p : Nat} {f l : Option Nat} {z : S} (hS : StoreAt h q p f l z) (hl : z.rows.length <= 1000000) (hv : ∀ r ∈ z.rows, r.2.length <= 1000000000) : ∃ w els, call F 16 [.ptr q 0] h = some (.ret w, h) /\ SlV 2 els w /\ RowsE els z.rows := by
 obtain ⟨u, els, hb, hU, hR⟩ := hS.box
 obtain ⟨v4, g4, n4, w4, y4, els4, S4, R4⟩ := Rm hU hR hl hv
 have clu : cf h [u] = some ([u], h) := by rcases hU with ⟨rfl, _⟩ | ⟨ex, rfl⟩ <;> rfl
 have l1 : ldO h false 1 (.ptr q 1) = some (u, h) := bg hb rfl
 have : Ret F 16 [.ptr q 0] h fun v g => v = w4 /\ g = h := by
  refine bc (fn := f16) rfl ?_
  simp only [f16]
  generalize hs0 : ([.ptr q 0] ++ List.replicate _ VV.undef : List VV) = s
  have hs : s.length = 10 := by grind
  have h0 : s.getD 0 .undef = .ptr q 0 := by grind
  clear hs0
  simp only [go_sem, seval, hs, h0]
  rw [bi f16_0.eq_1]
  simp only [go_sem, seval, hs, h0, l1]
  refine ap (h1 := h) (by simp only [List.map, go_sem, seval, hs]; exact clu) n4 y4 ?_
  simp only [go_sem, seval, hs]
  grind
 obtain ⟨v, g, e, rfl, rfl⟩ := this
 grind
theorem Xy {h : ae} {q p : Nat} {f l : Option Nat} {z : S} (hS : StoreAt h q p f l z) : call F 20 [.ptr q 0] h = some (.ret (vi .i64 z.e), h) := by
 obtain ⟨u, els, hb, hU, hR⟩ := hS.box
 have l2 : ldO h false 1 (.ptr q 2) = some (vi .i64 z.e, h) := bg hb rfl
 have : Ret F 20 [.ptr q 0] h fun v g => v = vi .i64 z.e /\ g = h := by
  refine bc (fn := f20) rfl ?_
  simp only [f20]
  generalize hs0 : ([.ptr q 0] ++ List.replicate _ VV.undef : List VV) = s
  have hs : s.length = 10 := by grind
  have h0 : s.getD 0 .undef = .ptr q 0 := by grind
  clear hs0
  simp only [go_sem, seval, hs, h0]
  rw [bi f20_0.eq_1]
  simp only [go_sem, seval, hs, h0, l2]
  grind
 obtain ⟨v, g, e, rfl, rfl⟩ := this
 exact e
open Go Go.Vm
theorem acn {n : Nat} {z : S} {c : List Ch} (hM : Mem n z) (hn : c ≠ []) (hl : c.any lng = false) (he : z.e < 1073741823) (hfr : z.fr <= 1073741824) (hroom : ∃ p, ej n (cj z.rows c) = some p) (hp : (pcs 49 (gu c)).length <= 200) (hj : (pcs 49 (gu c)).length <= jn n) : (bw z c).2 = 0 := by
 obtain ⟨pA, hrm⟩ := hroom
 obtain ⟨pg0, hr0⟩ := hM.room
 have hps : ∃ ps, er z.e z.fr c = some ps /\ ps.length = (pcs 49 (gu c)).length := by
  have h1 := ve.2 (show z.e <= 1073741824 by omega)
  have h2 := ve.2 hfr
  unfold er
  generalize ks (z.e : Int) = x1 at h1
  generalize ks (z.fr : Int) = x2 at h2
  subst h1 h2
  exact ⟨_, if_pos ⟨rfl, rfl, hp⟩, kq _ _⟩
 obtain ⟨ps, hpf, hpl⟩ := hps
 obtain ⟨ps', hp2, _⟩ := xg hpf (e' := z.e + 1) (by omega)
 unfold bw
 rw [if_neg hn, if_neg (by rw [hl]; decide), hM.dn, hrm, hpf]
 dsimp only
 rw [if_neg (by show ¬ jn n < ps.length; omega)]
 by_cases c3 : (bk n).1 < z.used + ps.length
 ·rw [if_pos c3, hr0, hp2]
 ·rw [if_neg c3]
theorem afk : ∃ p, ej 64 (cj [] [([97], [], false)]) = some p := by
 have h1 : cj [] [([97], [], false)] = [([97], [])] := by rfl
 have h2 : ∃ p, dl [([97], [])] = some [p] := ⟨_, by rfl⟩
 obtain ⟨p, h2⟩ := h2
 refine ⟨[p], ?_⟩
 rw [h1]
 unfold ej
 rw [h2]
 rfl
abbrev kc : List Ch := [([97], [], false)]
theorem anf : ChsE [[.sc (.string ⟨#[97]⟩), .sc (.slice none 0 0), .sc (.bool false)]] kc := .cons ⟨_, rfl, .inl ⟨rfl, rfl⟩⟩ .nil
theorem Uv : (pcs 49 (gu kc)).length <= 16 := by
 have h := Lg (k := 49) (by omega) (gu kc).length (gu kc) (Nat.le_refl _)
 have : (gu kc).length <= 10 := by
  have : gu kc = num (ka (kc.length : Nat)) ++ (kc.map chB).flatten := rfl
  rw [this, List.length_append]
  have h1 : (num (ka (kc.length : Nat))).length <= 4 := by decide
  have h2 : ((kc.map chB).flatten).length <= 6 := by decide
  omega
 omega
theorem aet (n : Nat) (hn : n <= 4096) : (Sy n).OK := by
 refine ⟨fun b hb => ?_, fun o ho => (by cases ho), ?_, by simp [Sy], by show 0 < 1000000; omega, by show 0 < 1000000; omega⟩
 ·rw [List.eq_of_mem_replicate hb]; simp [z64]
 ·show (List.replicate n z64).length <= 4096; grind
theorem Hk (n : Nat) (hn : n <= 4096) : (Sy n).Lim 700000 := ⟨aet n hn, by show 0 + 700000 < 800000; omega, by show 0 + 700000 < 800000; omega, by show 0 + 700000 < 800000; omega⟩
theorem Da (n : Nat) : (Sy n).firm.length = n := by show (List.replicate n z64).length = n; grind
theorem Vk {h h1 h2 : ae} {p : Nat} {l' : Option Nat} {d : D} (e : Ext h h1) (hp : h.length <= p) {fi : Nat} (hf : h.length <= fi) (m : Moved h1 h2 p (some fi) none l' d) : Ext h h2 :=
 ⟨Nat.le_trans e.len m.kept.len, fun j hj => by rw [m.kept.same j (Nat.lt_of_lt_of_le hj e.len) (by omega) (by grind) (by grind), e.same j hj]⟩
theorem RowsE.vals {n : Nat} {rows : List KV} {p : Sec} (h : ej n rows = some p) : rows.length <= 5000 := by
 have := (gm h).1
 unfold dl at this
 grind
theorem Ow : ∀ (l : List KV) (n : Nat), md n l = l.length -> xm l
 | [], n, _ => fun p hp => by cases hp
 | p :: l, n, h => by
  simp only [md, List.length_cons] at h
  split at h
  ·omega
  ·rename_i c1
   split at h
   ·omega
   ·intro q hq
    rcases List.mem_cons.1 hq with rfl | hq
    ·omega
    ·exact Ow l (n + (1 + (ii p).length)) (by omega) q hq
theorem Vu {n : Nat} {rows : List KV} {p : Sec} (h : ej n rows = some p) : xm rows := by
 obtain ⟨up, _, _, _, e4⟩ := nm (gm h).1
 intro r hr
 rw [<- e4] at hr
 obtain ⟨g, hg, hr⟩ := List.mem_flatten.1 hr
 exact Ow g 0 (Ng rows g hg) r hr
structure New (h : ae) (n k : Nat) (g : ae) (q p : Nat) (f : Nat) (l' : Option Nat) (z : S) : Prop where
 ext : Ext h g
 hq : h.length <= q
 hp : h.length <= p
 hf : h.length <= f
 hl : ∀ i, l' = some i -> h.length <= i
 st : StoreAt g q p (some f) l' z
 rw_ : z.rows = []
 e2 : z.e = 2
 us : z.used = 0
 fr : z.fr = 0
 mem : Mem n z
 run : Run n z
 nf : z.d.fused = false
 lim : z.d.Lim k
theorem Wl (h : ae) : ∃ g, call F 12 [] h = some (.ret (vb true), g) /\ Ext h g := by
 obtain ⟨h1, n1, D1, l1, k1⟩ := Ge 64 (by omega) h
 have e1 : Ext h h1 := ⟨l1, k1⟩
 obtain ⟨v2, h2, n2, rfl, lA, dA, MA, f2, L2, V2, B2⟩ := xi D1 rfl rfl (by rw [Da]; omega) (k := 690000) ((Hk 64 (by omega)).le (by omega))
 rw [Da] at V2
 obtain ⟨v3, h3, n3, q, lB, z, rfl, hq, MB, SB, OB⟩ := Gt MA.dev L2.loose V2.rc (by omega) (k := 680000) (B2.le (by omega))
 have hR := OB.run (ni (OB.nf f2))
 have hrw : z.rows = [] := OB.rw_
 have hE : z.e = 2 := OB.ep
 have hU := OB.us
 have hF := OB.fr
 have MAB := MA.trans MB
 obtain ⟨w4, els4, n4, S4, R4⟩ := vd SB (by grind) (by grind)
 rw [hrw] at R4
 have el4 : els4.length = 0 := R4.len
 have hP : PreC z kc := ⟨OB.lim.ok, by grind, by simp, by have := Uv; have := Ax (k := 49) (by omega) _ (gu kc) (Nat.le_refl _); have e : (ma 49 (gu kc).length (gu kc)).length = (pcs 49 (gu kc)).length := rfl; omega, fun x hx => by grind⟩
 obtain ⟨pg0, hr0⟩ := OB.mem.room
 have hdn := OB.mem.dn
 obtain ⟨v5, h5, n5, rfl, lC, MC⟩ := Dh SB (uc := .cv (.sl 3 [[.sc (.string ⟨#[97]⟩), .sc (.slice none 0 0), .sc (.bool false)]] true)) (.inr ⟨true, rfl⟩) anf hP (by rw [hdn]; exact hr0) OB.mem.a1 (by omega) (by omega) (by omega) (OB.lim.le (by omega))
 have ha := acn (c := kc) OB.mem (by simp) rfl (by omega) (by omega) (by rw [hrw]; exact afk) (by have := Uv; omega) (by have := Uv; show _ <= 16; omega)
 have hy := (sm (c := kc) OB.mem (by omega) (by simp) (fun x hx _ => by grind)).yes ha
 rw [ha] at n5
 have n5 : call F 14 [.ptr q 0, .cv (.sl 3 [[.sc (.string ⟨#[97]⟩), .sc (.slice none 0 0), .sc (.bool false)]] true)] h3 = some (.ret (vi .u16 0), h5) := n5
 have hk1 : cj [] kc = [([97], [])] := by rfl
 rw [hrw, hk1] at hy
 obtain ⟨w6, els6, n6, S6, R6⟩ := vd MC.st (by rw [hy]; simp) (by grind)
 rw [hy] at R6
 have el6 : els6.length = 1 := R6.len
 have nU := Xy SB
 rw [hE] at nU
 obtain ⟨v30, g30, m30, w30, y30, rfl⟩ := ub (n := 64) (by omega) (by omega)
 have p64 : bk (64 : Int).toNat = (16, 5) := by rfl
 rw [p64] at y30
 have y30 : au g30 v30 = some (.tup [vi .i64 16, vi .i64 5]) := y30
 have nU : call F 20 [.ptr q 0] h3 = some (.ret (vi .i64 2), h3) := nU
 have s4 := S4.ln
 rw [el4] at s4
 have s4 : lnO false w4 = some (vi .i64 0) := s4
 have s6 := S6.ln
 rw [el6] at s6
 have s6 : lnO false w6 = some (vi .i64 1) := s6
 suffices hx : Ret F 12 [] h fun v g => v = vb true /\ Ext h g by
  obtain ⟨v, g, a1, rfl, a2⟩ := hx
  grind
 have ext : Ext h h5 := by
  have k2 := MC.kept
  have x3 : Ext h h3 := Vk e1 (by omega) (by omega) MAB
  refine ⟨Nat.le_trans x3.len k2.len, fun j hj => ?_⟩
  have hq' : h.length <= q := Nat.le_trans e1.len (Nat.le_trans MA.kept.len hq)
  rw [k2.same j (Nat.lt_of_lt_of_le hj x3.len) (by omega) (by omega) (by grind) (fun e => ?_), x3.same j hj]
  rcases MAB.new j e with e' | e'
  ·cases e'
  omega
 refine bc (fn := f12) rfl ?_
 simp only [f12]
 generalize hs0 : ([] ++ List.replicate _ VV.undef : List VV) = s
 have hs : s.length = 57 := by grind
 clear hs0
 simp only [go_sem, seval, hs]
 refine ap (h1 := h) (by simp only [List.map, go_sem, seval, hs]; rfl) m30 y30 ?_
 simp only [go_sem, seval, hs]
 refine ao (by simp only [List.map, go_sem, seval, hs]; exact n1) ?_
 simp only [go_sem, seval, hs]
 rw [bi f12_0.eq_1]
 simp only [go_sem, seval, hs]
 refine ao (by simp only [List.map, go_sem, seval, hs]; exact n2) ?_
 simp only [go_sem, seval, hs]
 refine ao (by simp only [List.map, go_sem, seval, hs]; exact n3) ?_
 simp only [go_sem, seval, hs]
 refine ao (by simp only [List.map, go_sem, seval, hs]; exact nU) ?_
 simp only [go_sem, seval, hs]
 refine ao (by simp only [List.map, go_sem, seval, hs]; exact n4) ?_
 have bdk : bdO [VV.cv (CV.sc (Value.string ⟨#[]⟩)), VV.cv (CV.sc (Value.slice none 0 0)), VV.cv (CV.sc (Value.bool false))] [(0, 1, VV.cv (CV.sc (Value.string ⟨#[97]⟩)))] = some (.agg [.cv (.sc (.string ⟨#[97]⟩)), ct, vb false]) := rfl
 have mkk : ∀ g : ae, mkO g 3 1 [.cv (.sc (.string ⟨#[]⟩)), .cv (.sc (.slice none 0 0)), .cv (.sc (.bool false))] [(0, 3, .agg [.cv (.sc (.string ⟨#[97]⟩)), ct, vb false])] = some (.cv (.sl 3 [[.sc (.string ⟨#[97]⟩), .sc (.slice none 0 0), .sc (.bool false)]] true), g) := fun g => rfl
 simp only [go_sem, seval, hs, s4, bdk, mkk]
 refine ao (by simp only [List.map, go_sem, seval, hs]; exact n5) ?_
 simp only [go_sem, seval, hs]
 refine ao (by simp only [List.map, go_sem, seval, hs]; exact n6) ?_
 simp only [go_sem, seval, hs, s6]
 grind
open Go Go.Vm
def sz (k : UInt8) : Nat := match k.toNat % 6 with
 | 0 => 64 | 1 => 65 | 2 => 80 | 3 => 100 | 4 => 128 | _ => 200
open Go Go.Vm
theorem Wo {n : Nat} {z : S} {pg : Sec} (hr : ej n z.rows = some pg) {k : Nat} (h : z.d.Lim (k + 4 * an n + 3)) : (ckF z pg).d.Lim k := by
 show (yv z.d pg (1 - z.a) (z.e + 1)).Lim k
 have h2 : pg.length <= an n := (gm hr).2
 exact zl (by rw [ou hr]; exact h.le (by omega))
theorem Pp {z : S} {c : List Ch} {ps : Sec} {k : Nat} (h : z.d.Lim (k + ps.length + 1)) : (uh z c ps).d.Lim k := by
 show (po z.d (2 + z.used) ps).flush.Lim k
 exact ow (nj _ _ _ _ (h.le (by omega)))
def Gn (z : S) (c : List Ch) (j : Nat) (o1 o2 o3 o4 : Option Sec) : S × Nat := match o1, o2 with
  | some _, some ps => if j < ps.length then (z, 21) else
      if j < z.used + ps.length then
        match o3 with
        | some pg => match o4 with
          | some ps' => (uh (ckF z pg) c ps', 0)
          | none => (z, 21)
        | none => (z, 21)
      else (uh z c ps, 0)
  | _, _ => (z, 21)
theorem Hj {P : S × Nat -> Prop} {z : S} {c : List Ch} {j : Nat} {o1 o2 o3 o4 : Option Sec} (h21 : P (z, 21)) (hck : ∀ pg ps ps', o3 = some pg -> o2 = some ps -> o4 = some ps' -> ps.length <= j -> P (uh (ckF z pg) c ps', 0)) (hadd : ∀ ps, ps.length <= j -> P (uh z c ps, 0)) : P (Gn z c j o1 o2 o3 o4) := by
 unfold Gn
 grind
theorem Tw {z : S} {c : List Ch} (hn : c ≠ []) (hl : ¬ c.any lng = true) : bw z c = Gn z c (bk z.d.firm.length).1 (ej z.d.firm.length (cj z.rows c)) (er z.e z.fr c) (ej z.d.firm.length z.rows) (er ((z.e + 1 : Nat) : Int) 0 c) := by
 unfold bw Gn
 rw [if_neg hn, if_neg hl]
 generalize er ((z.e + 1 : Nat) : Int) 0 c = o4
 generalize er z.e z.fr c = o2
 generalize ej z.d.firm.length (cj z.rows c) = o1
 generalize ej z.d.firm.length z.rows = o3
 cases o1 <;> cases o2 <;> cases o3 <;> cases o4 <;> rfl
theorem Qh {e n e' : Nat} {c : List Ch} {ps ps' : Sec} (h : er e n c = some ps) (h' : er (e' : Int) 0 c = some ps') : ps'.length = ps.length := by
 rw [(pt h).1, (pt (n := 0) h').1, mg, mg]
theorem vv {P : S × Nat -> Prop} {z : S} {c : List Ch} (h0 : P (z, 0)) (h3 : P (z, 3)) (h21 : P (z, 21)) (hck : ∀ pg ps', ej z.d.firm.length z.rows = some pg -> ps'.length <= (bk z.d.firm.length).1 -> P (uh (ckF z pg) c ps', 0)) (hadd : ∀ ps, ps.length <= (bk z.d.firm.length).1 -> P (uh z c ps, 0)) : P (bw z c) := by
 by_cases hn : c = []
 ·unfold bw; rw [if_pos hn]; exact h0
 by_cases hl : c.any lng = true
 ·unfold bw; rw [if_neg hn, if_pos hl]; exact h3
 rw [Tw hn hl]
 exact Hj h21 (fun pg ps ps' e1 e2 e3 e4 => hck pg ps' e1 (by rw [Qh e2 e3]; exact e4)) hadd
theorem Ry {n : Nat} {z : S} {c : List Ch} (hM : Mem n z) (hn : n <= 1000) {k : Nat} (h : z.d.Lim (k + 1000)) : (bw z c).1.d.Lim k := by
 obtain ⟨p1, p2⟩ := pw hM.lo
 have h0 : z.d.Lim k := h.le (by omega)
 refine vv (P := fun r => r.1.d.Lim k) h0 h0 h0 (fun pg ps' hr hps => ?_) (fun ps hps => ?_)
 ·rw [hM.dn] at hr hps
  have hps : ps'.length <= jn n := hps
  exact Pp (Wo hr (h.le (by omega)))
 ·rw [hM.dn] at hps
  have hps : ps.length <= jn n := hps
  exact Pp (h.le (by omega))
theorem Dl : Er F 12 [] fun w => w = vb true := by
 obtain ⟨g, n1, _⟩ := Wl []
 exact ⟨_, g, n1, _, rfl, rfl⟩
structure RunU (n : Nat) (z : S) (m : Nat) : Prop where
 mem : Mem n z
 run : Run n z
 nf : z.d.fused = false
 e : z.e + m <= 900000
 lim : z.d.Lim (1000 * m + 200000)
 e1 : 1 <= z.e
 n1 : n <= 1000
theorem RunU.fr {n m : Nat} {z : S} (h : RunU n z m) : z.fr <= 2000 /\ z.used <= 2000 := by
 have h1 := h.mem.fr
 have h2 := h.mem.used
 have h3 : jn n <= 1024 := (iz h.mem.hi).1
 omega
theorem RunU.room {n m : Nat} {z : S} (h : RunU n z m) : z.rows.length <= 5000 /\ xm z.rows := by
 obtain ⟨p, hp⟩ := h.mem.room
 exact ⟨RowsE.vals hp, Vu hp⟩
theorem Sx {z : S} {c : List Ch} : z.e <= (bw z c).1.e :=
 vv (P := fun r => z.e <= r.1.e) (Nat.le_refl _) (Nat.le_refl _) (Nat.le_refl _) (fun _ _ _ _ => Nat.le_succ _) (fun _ _ => Nat.le_refl _)
theorem RunU.commit {n m : Nat} {z : S} (h : RunU n z (m + 1)) {c : List Ch} (hc : c.length ≤ 5000) (hg : ∀ p ∈ c, p.2.2 = true → p.2.1 = []) : RunU n (bw z c).1 m := by
  have he := h.e
  have hC := sm h.mem (c := c) (by omega) hc hg
  have he2 := hC.e
  have he3 := Sx (z := z) (c := c)
  refine ⟨hC.mem, ?_, ?_, by omega, Ry h.mem h.n1 (h.lim.le (by omega)), by have := h.e1; omega, h.n1⟩
  · by_cases h0 : (bw z c).2 = 0 ∧ c ≠ []
    · obtain ⟨_, _, r3, r4⟩ := hC.run h.run h0.1 h0.2
      exact r3 (ni (r4 h.nf))
    · have : (bw z c).1 = z := hC.not (by
        grind)
      rw [this]; exact h.run
  · by_cases h0 : (bw z c).2 = 0 ∧ c ≠ []
    · obtain ⟨_, _, r3, r4⟩ := hC.run h.run h0.1 h0.2
      exact r4 h.nf
    · have : (bw z c).1 = z := hC.not (by
        grind)
      rw [this]; exact h.nf
theorem Ml {h : ae} {q p : Nat} {f l : Option Nat} {z : S} {n m : Nat} (hS : StoreAt h q p f l z) (hU : RunU n z (m + 1)) {ec : List (List CV)} {c : List Ch} {uc : VV} (hu : SlV 3 ec uc) (hC : ChsE ec c) (hcl : c.length <= 5000) (hcb : (gu c).length <= 1000000) (hcv : ∀ x ∈ c, x.2.1.length <= 1000000000) (hg : ∀ p ∈ c, p.2.2 = true -> p.2.1 = []) :
  ∃ g l', call F 14 [.ptr q 0, uc] h = some (.ret (vi .u16 (bw z c).2), g) /\ MovedS h g q p f l l' (bw z c).1 /\ RunU n (bw z c).1 m := by
 obtain ⟨pg0, hr0⟩ := hU.mem.room
 have hr1 := hU.room
 have hfr := hU.fr
 have he := hU.e
 have hdn := hU.mem.dn
 obtain ⟨v, g, n1, rfl, l', M⟩ := Dh hS hu hC ⟨hU.lim.ok, by omega, hcl, hcb, hcv⟩ (by rw [hdn]; exact hr0) hU.mem.a1 (by omega) (by omega) hfr.2 (hU.lim.le (by omega))
 exact ⟨g, l', n1, M, hU.commit hcl hg⟩
open Go Go.Vm
theorem OpenP.runU {n e k m : Nat} {rows : List KV} {d : D} {z : S} (h : OpenP n e rows d k z) (hf : d.fused = false) (hn : n <= 1000) (he : e + 1 + m <= 900000) (hk : 1000 * m + 200000 <= k) : RunU n z m :=
 ⟨h.mem, h.run (ni (h.nf hf)), h.nf hf, by rw [h.ep]; exact he, h.lim.le hk, by rw [h.ep]; omega, hn⟩
theorem xm.v {l : List KV} (h : xm l) : ∀ r ∈ l, r.2.length <= 1000000000 := fun r hr => by have := (h r hr).2; omega
open Go Go.Vm
open Go Go.Vm
open Go Go.Vm
open Go.Proofs.Ytbhoknaipfnlnaa
section
variable {H : Type} {d0 d1 d2 d3 : DataW H} {u0 u1 u2 u3 : VV}
end
open Go Go.Vm
theorem OpenP.live {n e k : Nat} {rows : List KV} {d : D} {z : S} (h : OpenP n e rows d k z) (hf : d.fused = false) : z.d.loose = [] := (h.run (ni (h.nf hf))).live.loose
def kb (x : UInt8) : UInt8 := UInt8.ofNat (97 + x.toNat % 16)
theorem am4 (x : UInt8) : IntKind.u8.wrap (97 + (x.toNat : Int).tmod 16) = ((kb x).toNat : Int) := by
 have h1 : (x.toNat : Int).tmod 16 = ((x.toNat % 16 : Nat) : Int) := rfl
 rw [h1, IntWalk.u8_in _ (by omega)]
 unfold kb
 rw [je (by omega)]; omega
theorem mk3 {a b c d e f : CV} (g : ae) : mkO g 3 1 [.cv a, .cv b, .cv c] [(0, 3, .agg [.cv d, .cv e, .cv f])] = some (.cv (.sl 3 [[d, e, f]] true), g) := rfl
theorem bdc {k : List UInt8} {v : CV} : bdO [VV.cv (.sc (.string ⟨#[]⟩)), .cv (.sc (.slice none 0 0)), .cv (.sc (.bool false))] [(0, 1, txt k), (1, 1, .cv v)] = some (.agg [.cv (.sc (.string ⟨k.toArray⟩)), .cv v, .cv (.sc (.bool false))]) := rfl
theorem q16 : (16 : Int) ≠ 0 := by decide
open Go Go.Vm
def anq (rows : List KV) (key : List UInt8) (w : VV) (is : Bool) : Prop :=
 (is = false /\ w = ct /\ ∀ r ∈ rows, r.1 ≠ key) \/ (is = true /\ ∃ val, (key, val) ∈ rows /\ SlV 1 (eB val) w)
open Go Go.Vm
theorem Qy {l : List KV} {x : Ch} (hx : x.2.2 = true) : ∀ r ∈ lm l x, r.1 ≠ x.1 := by
 intro r hr
 unfold lm at hr
 rw [if_pos hx] at hr
 have := (List.mem_filter.1 hr).2
 grind
theorem Sq {l : List KV} {x : Ch} (hx : x.2.2 = false) : (x.1, x.2.1) ∈ lm l x /\ ∀ r ∈ lm l x, r.1 = x.1 -> r.2 = x.2.1 := by
 unfold lm
 rw [if_neg (by grind)]
 refine ⟨by simp, fun r hr hk => ?_⟩
 have no : r ∉ gd l x.1 := fun h => by
  have := (List.mem_filter.1 h).2
  grind
 grind
theorem Pg {l : List KV} {x : Ch} {w : VV} {is : Bool} (h : anq (lm l x) x.1 w is) : is = !x.2.2 /\ (is = true -> SlV 1 (eB x.2.1) w) := by
 cases hx : x.2.2 with
 | true =>
  rcases h with ⟨h1, _, _⟩ | ⟨_, v, h2, _⟩
  ·grind
  ·exact absurd rfl (Qy hx _ h2)
 | false =>
  obtain ⟨k1, k2⟩ := Sq (l := l) hx
  rcases h with ⟨_, _, h3⟩ | ⟨h1, v, h2, h3⟩
  ·grind
  grind
open Go Go.Vm
theorem Ud : ∀ (f n : Nat) (pg : List (List UInt8)) (l : List KV) (res : List (List UInt8)), l ≠ [] -> yk l -> Jf f n pg l = some res -> res.length <= pg.length + l.length
 | 0, _, _, _, _, _, _, h => by cases h
 | f + 1, n, pg, l, res, hl, hs, h => by
  have hpos := List.length_pos_iff.2 hl
  have hg : 5 * (grp l).length <= l.length + 4 := ru _ _ hl hs
  rw [Jf] at h
  split at h
  ·split at h
   ·grind
   ·rename_i h2
    have hp := Ly l
    have := Ud f (n + 1) _ _ res (fun e => by have := congrArg List.length e; rw [gf, List.length_nil] at this; omega) (vy hs.fits) h
    rw [List.length_append, List.length_map, gf] at this
    omega
  ·cases h
theorem Us {l : List KV} {res : List (List UInt8)} (hf : xm l) (h : dl l = some res) : res.length <= 2 * l.length + 2 := by
 unfold dl at h
 split at h
 ·have hg := Et l
  rw [Jf] at h
  split at h
  ·split at h
   ·grind
   ·have hp := Ly l
    have := Ud 4 1 _ _ res (fun e => by have := congrArg List.length e; rw [gf, List.length_nil] at this; omega) (vy hf) h
    rw [List.length_append, List.length_map, gf, List.length_nil] at this
    omega
  ·cases h
 ·cases h
theorem Zr {n : Nat} {l : List KV} (hs : Srt l) (hf : xm l) (hl : l.length <= 16) (hn : 34 <= an n) : ∃ p, ej n l = some p := by
 obtain ⟨p, hp⟩ := Se hs (by omega) hf
 have := Us hf hp
 refine ⟨p, ?_⟩
 unfold ej
 grind
structure K16 (l : List KV) : Prop where
 s : Srt l
 f : xm l
 k : ∀ r ∈ l, ∃ x, r.1 = [kb x]
theorem ail (x : UInt8) : 97 <= (kb x).toNat /\ (kb x).toNat < 113 := by unfold kb; rw [je (by omega)]; omega
theorem agc {x y : UInt8} (h : Op.bytesLess [kb x] [kb y] = true) : (kb x).toNat < (kb y).toNat := by
 generalize kb x = a at h |-
 generalize kb y = b at h |-
 simp [Op.bytesLess] at h
 exact UInt8.lt_iff_toNat_lt.1 h
theorem K16.len {l : List KV} (h : K16 l) : l.length <= 16 := by
 have key : ∀ (l : List KV) (m : Nat), K16 l -> (∀ r ∈ l, ∀ x, r.1 = [kb x] -> m <= (kb x).toNat) -> m <= 113 -> l.length + m <= 113 := by
  intro l
  induction l with
  | nil => grind
  | cons r l ih =>
   intro m hK hm _
   obtain ⟨x, hx⟩ := hK.k r List.mem_cons_self
   have h1 := hm r List.mem_cons_self x hx
   obtain ⟨h2, h3⟩ := ail x
   obtain ⟨s1, s2⟩ := List.pairwise_cons.1 hK.s
   have := ih ((kb x).toNat + 1) ⟨s2, fun q hq => hK.f q (List.mem_cons_of_mem _ hq), fun q hq => hK.k q (List.mem_cons_of_mem _ hq)⟩ (fun q hq y hy => by
    have := s1 q hq
    rw [hx, hy] at this
    exact agc this) (by omega)
   grind
 have := key l 97 h (fun r _ x _ => (ail x).1) (by omega)
 omega
theorem K16.step {l : List KV} (h : K16 l) {b : UInt8} {v : List UInt8} {t : Bool} (hv : v.length <= 150) : K16 (lm l ([kb b], v, t)) := by
 have mem : ∀ r ∈ lm l ([kb b], v, t), r ∈ l \/ r = ([kb b], v) := by
  intro r hr
  unfold lm at hr
  split at hr
  ·exact .inl (List.mem_filter.1 hr).1
  ·rcases List.mem_append.1 hr with h | h
   ·exact .inl (List.mem_filter.1 (List.mem_of_mem_take h)).1
   ·rcases List.mem_cons.1 h with h | h
    ·exact .inr h
    ·exact .inl (List.mem_filter.1 (List.mem_of_mem_drop h)).1
 refine ⟨Tp h.s _, fun r hr => ?_, fun r hr => ?_⟩
 ·rcases mem r hr with h1 | rfl
  ·exact h.f r h1
  grind
 ·rcases mem r hr with h1 | rfl
  ·exact h.k r h1
  grind
theorem K16.nil : K16 [] := ⟨List.Pairwise.nil, fun r hr => (by cases hr), fun r hr => (by cases hr)⟩
theorem K16.steps : ∀ {c : List Ch} {l : List KV}, K16 l -> (∀ x ∈ c, x.2.1.length <= 150 /\ ∃ b, x.1 = [kb b]) -> K16 (cj l c)
 | [], _, h, _ => h
 | x :: c, l, h, hc => by
  obtain ⟨h1, b, h2⟩ := hc x List.mem_cons_self
  obtain ⟨k, v, t⟩ := x
  have h2 : k = [kb b] := h2
  subst h2
  exact K16.steps (l := lm l ([kb b], v, t)) (c := c) (h.step h1) fun y hy => hc y (List.mem_cons_of_mem _ hy)
theorem K16.room {n : Nat} {l : List KV} (h : K16 l) (hn : 34 <= an n) : ∃ p, ej n l = some p := Zr h.s h.f h.len hn
theorem acd {n : Nat} {z : S} {c : List Ch} (hM : Mem n z) (hK : K16 z.rows) (hn : c ≠ []) (hc : ∀ x ∈ c, x.2.1.length <= 150 /\ ∃ b, x.1 = [kb b]) (he : z.e < 1073741823) (hfr : z.fr <= 1073741824) (ha : 34 <= an n) (hp : (pcs 49 (gu c)).length <= 200) (hj : (pcs 49 (gu c)).length <= jn n) : (bw z c).2 = 0 := by
 refine acn hM hn ?_ he hfr ((hK.steps hc).room ha) hp hj
 cases hl : c.any lng with
 | false => rfl
 | true =>
  obtain ⟨x, hx, h⟩ := List.any_eq_true.1 hl
  obtain ⟨h1, b, h2⟩ := hc x hx
  unfold lng at h
  grind
theorem Uh {c : List Ch} (hf : qd c) : 49 * (pcs 49 (gu c)).length <= 8 + 200 * c.length + 48 := by
 have h := Lg (k := 49) (by omega) (gu c).length (gu c) (Nat.le_refl _)
 have h2 := Ev c hf
 rw [h]; omega
open Go Go.Vm
open Go Go.Vm
def cnt (c : Nat) (L : Nat) : Nat := if L <= c then 1 else (L + c - 1) / c
abbrev zs (m : Nat) : List UInt8 := List.replicate m 0
theorem bdg {k : List UInt8} : bdO [VV.cv (.sc (.string ⟨#[]⟩)), .cv (.sc (.slice none 0 0)), .cv (.sc (.bool false))] [(0, 1, txt k), (2, 1, vb true)] = some (.agg [.cv (.sc (.string ⟨k.toArray⟩)), .cv (.sc (.slice none 0 0)), .cv (.sc (.bool true))]) := rfl
open Go Go.Vm
theorem Cc {F : Nat -> Option FnIR} : ∀ (ops : List (Op1 × Cl)) (hs : List ae) (ck : Cks) (st : St) (Q : Pst), XD F (ops.map fun x => (x.1, Cl.p)) st Q -> (∀ h ∈ hs, h = st.h) -> (∀ x ∈ ck, x.2.2 st.h) ->
  ∃ st1 hs1 ck1, bz (call F) ops hs ck st = some (st1, hs1, ck1) /\ (∀ h ∈ hs1, h = st.h) /\ (∀ x ∈ ck1, x.2.2 st.h) /\ Q .norm st1
 | [], hs, ck, st, Q, hx, hh, hc => ⟨st, hs, ck, rfl, hh, hc, hx⟩
 | (o, c) :: r, hs, ck, st, Q, hx, hh, hc => by
  simp only [List.map_cons, XD] at hx
  simp only [bz]
  cases hw : bm st.s o.g with
  | none => grind
  | some b =>
   rw [hw] at hx
   cases b with
   | false =>
    cases c with
    | p => exact Cc r hs ck ⟨df st.s o.d skp, st.h⟩ Q hx hh hc
    | r lo hi => exact Cc r hs ck ⟨df st.s o.d skp, st.h⟩ Q hx hh hc
    | k =>
     refine Cc r (hs ++ [st.h]) ck ⟨df st.s o.d skp, st.h⟩ Q hx (fun h hm => ?_) hc
     grind
   | true =>
    obtain ⟨⟨s1, h1⟩, hst, h2, h3⟩ := hx
    have e1 : h1 = st.h := h2 rfl
    subst e1
    simp only [hst]
    cases c with
    | p => exact Cc r hs ck ⟨s1, st.h⟩ Q h3 hh hc
    | k =>
     refine Cc r (hs ++ [st.h]) ck ⟨s1, st.h⟩ Q h3 (fun h hm => ?_) hc
     grind
    | r lo hi =>
     refine Cc r hs _ ⟨s1, st.h⟩ Q h3 hh (fun x hx => ?_)
     split at hx
     ·grind
     ·rcases List.mem_cons.mp hx with rfl | hx
      ·exact hst
      grind
theorem aeo {F : Nat -> Option FnIR} {ops : List (Op1 × Cl)} {st : St} {Q : Pst} (hx : XD F (ops.map fun x => (x.1, Cl.p)) st Q) : X F (.draw ops) st Q := by
 obtain ⟨st1, hs1, ck1, h1, h2, h3, h4⟩ := Cc ops [st.h] [] st Q hx (fun h hm => List.mem_singleton.1 hm) (fun x hx => by cases hx)
 refine ⟨.norm, st1, ?_, h4⟩
 simp only [dt, ix, h1]
 rw [if_pos]
 intro x hx b _ _ h hb
 rw [h2 h (List.mem_of_getElem? hb)]
 exact h3 x hx
theorem StoreAt.noLoose {h : ae} {q p : Nat} {f l : Option Nat} {z : S} (hS : StoreAt h q p f l z) (hl : z.d.loose = []) : l = none := by
 obtain ⟨vf, vl, _, _, h3⟩ := hS.dev
 rcases h3 with ⟨_, _, _, e, _⟩ | ⟨e, _⟩
 ·rw [hl] at e; exact absurd rfl e
 ·exact e
theorem StoreAt.other {h g : ae} {q1 p1 q2 p2 f1 f2 : Nat} {z1 z2 : S} (hA : StoreAt h q1 p1 (some f1) none z1) (hB : StoreAt h q2 p2 (some f2) none z2) (K : KeptS h g q1 p1 (some f1) none) (nq : q1 ≠ q2) (np : p1 ≠ p2) (nf : f1 ≠ f2) : StoreAt g q2 p2 (some f2) none z2 := by
 obtain ⟨u1, e1, a1, _, _⟩ := hA.box
 obtain ⟨vf1, vl1, a2, a3, _⟩ := hA.dev
 obtain ⟨u2, e2, b1, b4, b5⟩ := hB.box
 obtain ⟨vf2, vl2, b2, b3, b6⟩ := hB.dev
 rcases a3 with ⟨id1, g1, ex1, c1, _, a3⟩ | ⟨c1, _⟩
 ·cases c1
  rcases b3 with ⟨id2, g2, ex2, d1, d2, d3⟩ | ⟨d1, _⟩
  ·cases d1
   have k1 : g[q2]? = h[q2]? := K.same q2 (az b1) (Ne.symm nq) (by grind) (by grind) (by grind)
   have k2 : g[p2]? = h[p2]? := K.same p2 (az b2) (by grind) (Ne.symm np) (by grind) (by grind)
   have k3 : g[f2]? = h[f2]? := K.same f2 (az d3) (by grind) (by grind) (by grind) (by grind)
   refine ⟨⟨u2, e2, by grind, b4, b5⟩, ⟨vf2, vl2, by grind, .inl ⟨f2, g2, ex2, rfl, d2, by grind⟩, ?_⟩, hB.qp⟩
   rcases b6 with ⟨_, _, e, _⟩ | e
   ·cases e
   ·exact .inr e
  ·cases d1
 ·cases c1
theorem StoreAt.kg {h g : ae} {q p : Nat} {f l : Option Nat} {z : S} (hA : StoreAt h q p f l z) (k : KG 3 h g) : StoreAt g q p f l z := by
 obtain ⟨u2, e2, b1, b4, b5⟩ := hA.box
 obtain ⟨vf2, vl2, b2, b3, b6⟩ := hA.dev
 refine ⟨⟨u2, e2, k.box b1, b4, b5⟩, ⟨vf2, vl2, k.box b2, ?_, ?_⟩, hA.qp⟩
 ·rcases b3 with ⟨id2, g2, ex2, d1, d2, d3⟩ | e
  ·exact .inl ⟨id2, g2, ex2, d1, d2, k.2 _ _ d3 (fun e g' hh => by cases hh)⟩
  ·exact .inr e
 ·rcases b6 with ⟨id2, g2, d1, d2, d4, d3⟩ | e
  ·exact .inl ⟨id2, g2, d1, d2, d4, k.2 _ _ d3 (fun e g' hh => by cases hh)⟩
  ·exact .inr e
theorem Qd {h g : ae} {els : List (List CV)} {v : VV} (b : eu h 3 els v) {q p f : Nat} {z : S} (hA : StoreAt h q p (some f) none z) (K : KeptS h g q p (some f) none) : eu g 3 els v := by
 obtain ⟨u1, e1, a1, _, _⟩ := hA.box
 obtain ⟨vf1, vl1, a2, a3, _⟩ := hA.dev
 rcases b with b | ⟨id, gg, h1, h2, h3⟩
 ·exact .inl b
 ·refine .inr ⟨id, gg, h1, h2, ?_⟩
  rw [K.same id (az h3) (by grind) (by grind) ?_ (by grind)]
  ·exact h3
  ·intro e
   cases e
   rcases a3 with ⟨_, _, _, c1, _, a3⟩ | ⟨c1, _⟩
   ·grind
   ·cases c1
theorem RunU.ck {n m : Nat} {z : S} (hU : RunU n z (m + 1)) {pg : Sec} (hr : ej n z.rows = some pg) : RunU n (ckF z pg) m := by
 have he := hU.e
 have hn := hU.n1
 obtain ⟨c1, _, c3, _, c5⟩ := act hU.mem hU.run (by omega) hr
 have hnf := c5 hU.nf
 obtain ⟨p1, p2⟩ := pw hU.mem.lo
 exact ⟨c1, c3 (ni hnf), hnf, by show z.e + 1 + m <= _; omega, Wo hr (hU.lim.le (by omega)), by show 1 <= z.e + 1; omega, hn⟩
def chN (k x : UInt8) : Ch := if 200 < x.toNat then ([kb x], [], true) else ([kb x], [x, k], false)
theorem acm (k x : UInt8) : (chN k x).2.1.length <= 150 /\ ∃ b, (chN k x).1 = [kb b] := by
 unfold chN; grind
theorem Pf (k : UInt8) (b : List UInt8) : qd (b.map (chN k)) := fun p hp => by
 obtain ⟨x, _, rfl⟩ := List.mem_map.1 hp
 unfold chN; grind
def lx (k x : UInt8) : List CV := if 200 < x.toNat then [.sc (.string ⟨[kb x].toArray⟩), .sc (.slice none 0 0), .sc (.bool true)] else [.sc (.string ⟨[kb x].toArray⟩), .sl 1 [[.sc (.int .u8 x.toNat)], [.sc (.int .u8 k.toNat)]] true, .sc (.bool false)]
theorem Nc (k : UInt8) : ∀ b : List UInt8, ChsE (b.map (lx k)) (b.map (chN k))
 | [] => .nil
 | x :: b => by
  refine .cons ?_ (Nc k b)
  unfold lx chN; split
  ·exact ⟨_, rfl, .inl ⟨rfl, rfl⟩⟩
  ·exact ⟨_, rfl, .inr ⟨true, rfl⟩⟩
theorem Uf (k x : UInt8) : ∃ a b c, lx k x = [a, b, c] := by unfold lx; split <;> exact ⟨_, _, _, rfl⟩
theorem f3_cmp {q p : Nat} {f l : Option Nat} {z : S} {wt : VV} {elsT : List (List CV)} (ST : SlV 2 elsT wt) (RT : RowsE elsT z.rows) (hl : z.rows.length <= 5000) (hv : ∀ r ∈ z.rows, r.2.length <= 1000000000) : ∀ (r i : Nat) (s : List VV) (h : ae) (Q : Pst), i + r = z.rows.length -> StoreAt h q p f l z -> s.length = 150 -> s.getD 7 .undef = .ptr q 0 -> s.getD 119 .undef = wt -> s.getD 120 .undef = vi .i64 z.rows.length -> s.getD 121 .undef = vi .i64 i ->
  (∀ s' h', s'.length = 150 -> Q (.exit 2) ⟨s', h'⟩) -> X F (.loop f3_7) ⟨s, h⟩ Q := by
 intro r
 induction r with
 | zero =>
  intro i s h Q hi hS hs e7 e119 e120 e121 hQ
  have c : ¬ (i : Int) < (z.rows.length : Int) := by omega
  rw [ba, bi f3_7.eq_1]
  simp only [go_sem, seval, hs, e120, e121, c]
  rw [bi f3_6.eq_1]
  simp only [go_sem, seval, hs]
  grind
 | succ r ih =>
  intro i s h Q hi hS hs e7 e119 e120 e121 hQ
  have c : (i : Int) < (z.rows.length : Int) := by omega
  obtain ⟨e, rw_, a1, a2, cc, rfl, a3⟩ := RT.get (i := i) (by omega)
  have ia : iaO h 2 wt (vi .i64 (i : Int)) = some (.rptr [.sc (.string ⟨rw_.1.toArray⟩), cc], h) := ST.ia (by omega) (by grind)
  have hw : IntKind.i64.wrap ((i : Int) + 1) = ((i + 1 : Nat) : Int) := by rw [IntWalk.i64_in _ (by omega)]; omega
  have qz : (h ++ [VO.box [.cv (.sc (.string ⟨#[]⟩)), .cv (.sc (.slice none 0 0))] false])[h.length]? = some (.box [.cv (.sc (.string ⟨#[]⟩)), .cv (.sc (.slice none 0 0))] false) := bp
  have st2 := ly (n := 2) (cs := [txt rw_.1, .cv cc]) rfl qz rfl
  have xz : Ext h ((h ++ [VO.box [.cv (.sc (.string ⟨#[]⟩)), .cv (.sc (.slice none 0 0))] false]).set h.length (.box [txt rw_.1, .cv cc] false)) := HExt.ext ((HExt.push h _).set (Nat.le_refl _) _)
  have qb := List.getElem?_set_self (a := VO.box [txt rw_.1, .cv cc] false) (az qz)
  rw [ba, bi f3_7.eq_1]
  simp only [go_sem, seval, hs, e120, e121, c]
  rw [bi f3_6.eq_1]
  simp only [go_sem, seval, hs, e119, e121, ia, abl (n := 2) (show [CV.sc (.string ⟨rw_.1.toArray⟩), cc].length = 2 from rfl), List.map, st2]
  have hS2 := hS.ext xz
  generalize (h ++ [VO.box [.cv (.sc (.string ⟨#[]⟩)), .cv (.sc (.slice none 0 0))] false]).set h.length (.box [txt rw_.1, .cv cc] false) = g at qb hS2
  obtain ⟨w16, els16, n16, S16, R16⟩ := vd hS2 (by omega) hv
  obtain ⟨e', rw2, b1, b2, c2, rfl, b3⟩ := R16.get (i := i) (by omega)
  rw [a2] at b2
  obtain rfl := Option.some.inj b2
  have ia2 : iaO g 2 w16 (vi .i64 (i : Int)) = some (.rptr [.sc (.string ⟨rw_.1.toArray⟩), c2], g) := S16.ia (by omega) (by grind)
  have fd0 : fdO 0 (.rptr [CV.sc (.string ⟨rw_.1.toArray⟩), c2]) = some (.rptr [CV.sc (.string ⟨rw_.1.toArray⟩), c2]) := rfl
  have fd1 : fdO 1 (.rptr [CV.sc (.string ⟨rw_.1.toArray⟩), c2]) = some (.rptr [c2]) := rfl
  have ld0 : ldO g false 1 (.rptr [CV.sc (.string ⟨rw_.1.toArray⟩), c2]) = some (txt rw_.1, g) := ij
  have ld1 : ldO g false 1 (.rptr [c2]) = some (.cv c2, g) := ij
  have lb0 : ldO g false 1 (.ptr h.length 0) = some (txt rw_.1, g) := bg qb rfl
  have lb1 : ldO g false 1 (.ptr h.length 1) = some (.cv cc, g) := bg qb rfl
  have bs1 := a3.bs (h := g)
  have bs2 := b3.bs (h := g)
  have nn : ∀ t : List UInt8, kt .neq (txt t) (txt t) = some (vb false) := fun t => by rw [Pz]; simp
  refine aeo ?_
  simp only [List.map_cons, List.map_nil, go_sem, seval, hs, e7]
  refine Od (by simp only [List.map, go_sem, seval, hs]; exact n16) ?_
  simp only [go_sem, seval, hs, e7, ia2, fd0, ld0, lb0, nn]
  refine Od (by simp only [List.map, go_sem, seval, hs]; exact n16) ?_
  simp only [go_sem, seval, hs, ia2, fd1, ld1, lb1, bs1, bs2, nn, e121, hw]
  exact ih (i + 1) _ _ Q (by omega) hS2 (by simp_all) (by simp_all) (by simp_all) (by simp_all) (by simp_all) hQ
def am1 (k x : UInt8) (u v : VV) (q1 q2 i N : Nat) (g : ae) (s : List VV) (g' : ae) : Prop := s.length = 150 /\ s.getD 0 .undef = vi .u8 k.toNat /\ s.getD 1 .undef = u /\ s.getD 7 .undef = .ptr q1 0 /\ s.getD 9 .undef = .ptr q2 0 /\ s.getD 11 .undef = v /\ s.getD 12 .undef = vi .i64 i /\ s.getD 13 .undef = .ptr N 0 /\ g'[N]? = some (.box ((lx k x).map VV.cv) false) /\ ∃ o, g' = g.set N o
theorem f3_chg {k x : UInt8} {b : List UInt8} {u : VV} (hb : SlV 1 (eB b) u) {i : Nat} (hx : b[i]? = some x) {g : ae} {N : Nat} (hN : g[N]? = some (.box [txt [kb x], .cv (.sl 1 [[.sc (.int .u8 x.toNat)], [.sc (.int .u8 k.toNat)]] true), vb false] false)) {s : List VV} (hs : s.length = 150) {q1 q2 : Nat} {v : VV} (e0 : s.getD 0 .undef = vi .u8 k.toNat) (e1 : s.getD 1 .undef = u) (e7 : s.getD 7 .undef = .ptr q1 0) (e9 : s.getD 9 .undef = .ptr q2 0) (e11 : s.getD 11 .undef = v) (e12 : s.getD 12 .undef = vi .i64 i) (e13 : s.getD 13 .undef = .ptr N 0) :
  X F f3_2 ⟨s, g⟩ fun o st' => o = .norm /\ am1 k x u v q1 q2 i N g st'.s st'.h := by
 have hlt : i < b.length := (List.getElem?_eq_some_iff.1 hx).1
 have heb : (eB b)[i]? = some [.sc (.int .u8 x.toNat)] := by simp [eB, br, hx]
 have hia := hb.ia (h := g) (k := .i64) (j := (i : Int)) (by omega) heb
 have ldx : ldO g false 1 (.rptr [.sc (.int .u8 x.toNat)]) = some (vi .u8 x.toNat, g) := ij
 have r1 : ((x.toNat : Int) > 200) = (200 < x.toNat) := by grind
 have ld0 : ldO g false 1 (.ptr N 0) = some (txt [kb x], g) := bg hN rfl
 have st3 := ly (n := 3) (cs := [txt [kb x], ct, vb true]) rfl hN rfl
 rw [bi f3_2.eq_1]
 by_cases c : 200 < x.toNat
 ·simp only [go_sem, seval, hs, e1, e12, hia, ldx, r1, c, e13, ld0, bdg, st3]
  refine ⟨trivial, by grind, by simp_all, by simp_all, by simp_all, by simp_all, by simp_all, by simp_all, by simp_all, ?_, _, rfl⟩
  rw [List.getElem?_set_self (az hN)]
  unfold lx; grind
 ·simp only [go_sem, seval, hs, e1, e12, hia, ldx, r1, c]
  refine ⟨trivial, by grind, by grind, by grind, by grind, by grind, by grind, by grind, by grind, ?_, VO.box [txt [kb x], .cv (.sl 1 [[.sc (.int .u8 x.toNat)], [.sc (.int .u8 k.toNat)]] true), vb false] false, (mz hN).symm⟩
  rw [hN]
  unfold lx; grind
theorem StoreAt.setBox {h : ae} {q p : Nat} {f l : Option Nat} {z : S} (hA : StoreAt h q p f l z) {N : Nat} {a b c : VV} (hN : h[N]? = some (.box [a, b, c] false)) (o : VO) : StoreAt (h.set N o) q p f l z := by
 obtain ⟨u2, e2, b1, b4, b5⟩ := hA.box
 obtain ⟨vf2, vl2, b2, b3, b6⟩ := hA.dev
 refine ⟨⟨u2, e2, by grind, b4, b5⟩, ⟨vf2, vl2, by grind, ?_, ?_⟩, hA.qp⟩
 ·rcases b3 with ⟨id2, g2, ex2, d1, d2, d3⟩ | e
  ·exact .inl ⟨id2, g2, ex2, d1, d2, by grind⟩
  ·exact .inr e
 ·rcases b6 with ⟨id2, g2, d1, d2, d4, d3⟩ | e
  ·exact .inl ⟨id2, g2, d1, d2, d4, by grind⟩
  ·exact .inr e
theorem Ur {h : ae} {els : List (List CV)} {v : VV} (b : eu h 3 els v) {N : Nat} {c : List VV} (hN : h[N]? = some (.box c false)) (o : VO) : eu (h.set N o) 3 els v := by
 rcases b with b | ⟨id, gg, h1, h2, h3⟩
 ·exact .inl b
 ·exact .inr ⟨id, gg, h1, h2, by grind⟩
def f3_r : IR :=
 (.seq (.reg [
 ⟨none, (some 85), (.mv (.t 11))⟩,
 ⟨none, (some 86), (.ld true 3 (.t 13))⟩,
 ⟨none, (some 87), (.mksl 3 1 [(.cv (.sc (.string ⟨#[]⟩))), (.cv (.sc (.slice none 0 0))), (.cv (.sc (.bool false)))] [(0, (3, (.t 86)))] false)⟩,
 ⟨none, (some 88), (.app 3 48 [(.sc (.string ⟨#[]⟩)), (.sc (.slice none 0 0)), (.sc (.bool false))] (.t 85) (.t 87))⟩,
 ⟨none, (some 11), (.mv (.t 88))⟩])
 (.seq f3_3
 (.seq (.reg [
 ⟨none, (some 94), (.mv (.t 1))⟩,
 ⟨none, (some 95), (.mv (.t 12))⟩,
 ⟨none, (some 96), (.iadL 1 (.t 94) (.t 95))⟩,
 ⟨none, (some 97), (.ld false 1 (.t 96))⟩,
 ⟨none, (some 98), (.bin .rem (.t 97) (.c (.cv (.sc (.int .u8 8)))))⟩,
 ⟨none, (some 99), (.bin .eql (.t 98) (.c (.cv (.sc (.int .u8 0)))))⟩,
 ⟨none, (some 100), (.mv (.t 99))⟩,
 ⟨(some (100, true)), (some 101), (.mv (.t 7))⟩,
 ⟨(some (100, true)), (some 102), (.call 15 false [(.t 101)])⟩,
 ⟨(some (100, true)), (some 103), (.bin .neq (.t 102) (.c (.cv (.sc (.int .u16 0)))))⟩,
 ⟨none, (some 104), (.pick (.t 100) (.t 103) (.c (.cv (.sc (.bool false)))))⟩])
 (.cond (.t 104)
 (.seq (.reg [
 ⟨none, (some 4), (.mv (.c (.cv (.sc (.bool false)))))⟩])
 .ret) .skip))))
theorem f3_rest {k x : UInt8} {b : List UInt8} {u : VV} (hb : SlV 1 (eB b) u) (hbl : b.length <= 40) {q1 p1 f1 q2 p2 f2 : Nat} (nq : q1 ≠ q2) (np : p1 ≠ p2) (nf : f1 ≠ f2) {z z2 : S} {r i N : Nat} (hi : i < b.length) (hx : b[i]? = some x) {h : ae} {v : VV} (S1 : StoreAt h q1 p1 (some f1) none z) (S2 : StoreAt h q2 p2 (some f2) none z2) (hB : eu h 3 ((b.take i).map (lx k)) v) (hU : RunU 1000 z (r + 2)) (hK : K16 z.rows) (hrw : z.rows = cj [] ((b.take i).map (chN k))) (hN : h[N]? = some (.box ((lx k x).map VV.cv) false)) {s : List VV} {Q : Pst}
  (hs : s.length = 150) (e0 : s.getD 0 .undef = vi .u8 k.toNat) (e1 : s.getD 1 .undef = u) (e7 : s.getD 7 .undef = .ptr q1 0) (e9 : s.getD 9 .undef = .ptr q2 0) (e11 : s.getD 11 .undef = v) (e12 : s.getD 12 .undef = vi .i64 i) (e13 : s.getD 13 .undef = .ptr N 0)
  (hQ : ∀ s' g' z' v', s'.length = 150 -> s'.getD 0 .undef = vi .u8 k.toNat -> s'.getD 1 .undef = u -> s'.getD 7 .undef = .ptr q1 0 -> s'.getD 9 .undef = .ptr q2 0 -> s'.getD 11 .undef = v' -> s'.getD 12 .undef = vi .i64 i -> StoreAt g' q1 p1 (some f1) none z' -> StoreAt g' q2 p2 (some f2) none z2 -> RunU 1000 z' r -> K16 z'.rows -> z'.rows = cj [] ((b.take (i + 1)).map (chN k)) -> eu g' 3 ((b.take (i + 1)).map (lx k)) v' -> Q .norm ⟨s', g'⟩) :
  X F f3_r ⟨s, h⟩ Q := by
 have htk : b.take (i + 1) = b.take i ++ [x] := by rw [List.take_add_one, hx]; rfl
 rw [htk, List.map_append, List.map_append] at hQ
 simp only [List.map_cons, List.map_nil] at hQ
 obtain ⟨ca, cb, cc, hc3⟩ := Uf k x
 have hN2 := hN
 rw [hc3] at hN2 hQ
 have L3 : ldO h true 3 (.ptr N 0) = some (.agg [.cv ca, .cv cb, .cv cc], h) := oa hN2 rfl
 have hE1 : ChsE [[ca, cb, cc]] [chN k x] := by rw [<- hc3]; exact Nc k [x]
 have hfit : qd [chN k x] := Pf k [x]
 have hpf := Uh hfit
 simp only [List.length_singleton] at hpf
 have hlb : ((b.take i).map (lx k)).length <= 40 := by rw [List.length_map, List.length_take]; omega
 rw [bi f3_r.eq_1]
 simp only [go_sem, seval, hs, e11, e13, L3, mk3]
 refine Gw (new := [[ca, cb, cc]]) hB (by simp only [go_sem, seval, hs]) (by simp only [go_sem, seval, hs]) (by simp only [List.length_singleton]; omega) (by simp only [List.length_singleton]; omega) (fun v' h1 B1 G1 => ?_)
 have T1 := S1.kg G1
 have T2 := S2.kg G1
 have L4 : ldO h1 true 3 (.ptr N 0) = some (.agg [.cv ca, .cv cb, .cv cc], h1) := oa (G1.box hN2) rfl
 have he := hU.e
 have hfr := hU.fr
 have hj : jn 1000 = 250 /\ an 1000 = 93 := ⟨rfl, rfl⟩
 have hok := acm k x
 have hc0 := acd (c := [chN k x]) hU.mem hK (by simp) (fun y hy => by rw [List.mem_singleton.1 hy]; exact hok) (by omega) (by omega) (by omega) (by omega) (by omega)
 have k4 : ∀ p ∈ [chN k x], p.2.2 = true -> p.2.1 = [] := fun p hp => (hfit p hp).2.2
 have hcb := Ev [chN k x] hfit
 simp only [List.length_singleton] at hcb
 obtain ⟨g, l2, n14, M, hU'⟩ := Ml (m := r + 1) T1 hU (uc := .cv (.sl 3 [[ca, cb, cc]] true)) (.inr ⟨true, rfl⟩) hE1 (by simp) (by omega) (fun y hy => by rw [List.mem_singleton.1 hy]; have := hok.1; omega) k4
 have hyes := (sm hU.mem (c := [chN k x]) (by omega) (by simp) k4).yes hc0
 have hr2 : cj z.rows [chN k x] = cj [] ((b.take i).map (chN k) ++ [chN k x]) := by
  rw [hrw]; exact (List.foldl_append).symm
 have hK' : K16 (bw z [chN k x]).1.rows := by
  rw [hyes]
  exact hK.steps fun y hy => by rw [List.mem_singleton.1 hy]; exact hok
 rw [hc0] at n14
 have n14 : call F 14 [.ptr q1 0, _] h1 = some (.ret (vi .u16 0), g) := n14
 obtain rfl : l2 = none := M.st.noLoose hU'.run.live.loose
 have U2 := T1.other T2 M.kept nq np nf
 have B2 := Qd B1 T1 M.kept
 have U1 := M.st
 rw [hr2] at hyes
 generalize (bw z [chN k x]).1 = z1 at hU' hyes hK' U1
 have heb : (eB b)[i]? = some [.sc (.int .u8 x.toNat)] := by simp [eB, br, hx]
 have hia := hb.ia (h := g) (k := .i64) (j := (i : Int)) (by omega) heb
 have ldx : ldO g false 1 (.rptr [.sc (.int .u8 x.toNat)]) = some (vi .u8 x.toNat, g) := ij
 have q8 : (8 : Int) ≠ 0 := by decide
 have em : (x.toNat : Int).tmod 8 = ((x.toNat % 8 : Nat) : Int) := rfl
 have r8 : (((x.toNat % 8 : Nat) : Int) = 0) = (x.toNat % 8 = 0) := by apply propext; omega
 simp only [go_sem, seval, hs]
 rw [bi f3_3.eq_1]
 simp only [go_sem, seval, hs, e7, e13, L4, mk3]
 refine ao (by simp only [List.map, go_sem, seval, hs]; exact n14) ?_
 simp only [go_sem, seval, hs, ne_eq, not_true_eq_false, e1, e12, hia, ldx, Gb q8, em, r8]
 by_cases c8 : x.toNat % 8 = 0
 ·obtain ⟨pg, hr⟩ := hU'.mem.room
  have hp := (gm hr).2
  have hp : pg.length <= an 1000 := hp
  have he' := hU'.e
  obtain ⟨hr1, _⟩ := hU'.room
  obtain ⟨v15, g15, n15, rfl, l', M5⟩ := Tm U1 (by rw [hU'.mem.dn]; exact hr) (hU'.lim.le (by omega)) hU'.mem.a1 (by omega) (by omega)
  have hU5 := hU'.ck hr
  obtain rfl : l' = none := M5.st.noLoose hU5.run.live.loose
  have W2 := U1.other U2 M5.kept nq np nf
  have B5 := Qd B2 U1 M5.kept
  simp only [go_sem, seval, hs, c8, e7]
  refine ao (by simp only [List.map, go_sem, seval, hs]; exact n15) ?_
  simp only [go_sem, seval, hs, ne_eq, not_true_eq_false]
  exact hQ _ _ (ckF z1 pg) v' (by simp only [ah, hs]) (by simp only [go_sem, seval, hs, e0]) (by simp only [go_sem, seval, hs, e1]) (by simp only [go_sem, seval, hs, e7]) (by simp only [go_sem, seval, hs, e9]) (by simp only [go_sem, seval, hs]) (by simp only [go_sem, seval, hs, e12]) M5.st W2 hU5 hK' hyes B5
 ·simp only [go_sem, seval, hs, c8]
  exact hQ _ _ z1 v' (by simp only [ah, hs]) (by simp only [go_sem, seval, hs, e0]) (by simp only [go_sem, seval, hs, e1]) (by simp only [go_sem, seval, hs, e7]) (by simp only [go_sem, seval, hs, e9]) (by simp only [go_sem, seval, hs]) (by simp only [go_sem, seval, hs, e12]) U1 U2 ⟨hU'.mem, hU'.run, hU'.nf, by have := hU'.e; omega, hU'.lim.le (by omega), hU'.e1, hU'.n1⟩ hK' hyes B2
theorem f3_loop {k : UInt8} {b : List UInt8} {u : VV} (hb : SlV 1 (eB b) u) (hbl : b.length <= 40) {q1 p1 f1 q2 p2 f2 : Nat} (nq : q1 ≠ q2) (np : p1 ≠ p2) (nf : f1 ≠ f2) {z2 : S} : ∀ (r i : Nat) (z : S) (v : VV) (s : List VV) (h : ae) (Q : Pst), i + r = b.length -> StoreAt h q1 p1 (some f1) none z -> StoreAt h q2 p2 (some f2) none z2 -> RunU 1000 z (2 * r) -> K16 z.rows -> z.rows = cj [] ((b.take i).map (chN k)) -> eu h 3 ((b.take i).map (lx k)) v ->
  s.length = 150 -> s.getD 0 .undef = vi .u8 k.toNat -> s.getD 1 .undef = u -> s.getD 7 .undef = .ptr q1 0 -> s.getD 9 .undef = .ptr q2 0 -> s.getD 11 .undef = v -> s.getD 12 .undef = vi .i64 i ->
  (∀ s' h' z' v', s'.length = 150 -> s'.getD 7 .undef = .ptr q1 0 -> s'.getD 9 .undef = .ptr q2 0 -> s'.getD 11 .undef = v' -> StoreAt h' q1 p1 (some f1) none z' -> StoreAt h' q2 p2 (some f2) none z2 -> RunU 1000 z' 0 -> z'.rows = cj [] (b.map (chN k)) -> eu h' 3 (b.map (lx k)) v' -> Q (.exit 0) ⟨s', h'⟩) -> X F (.loop f3_4) ⟨s, h⟩ Q := by
 intro r
 induction r with
 | zero =>
  intro i z v s h Q hi S1 S2 hU hK hrw hB hs e0 e1 e7 e9 e11 e12 hQ
  have c : ¬ (i : Int) < (b.length : Int) := by omega
  rw [List.take_of_length_le (by omega)] at hrw hB
  rw [ba, bi f3_4.eq_1]
  simp only [go_sem, seval, hs, e12, e1, hb.ln, ax, c]
  exact hQ _ _ z v (by simp only [ah, hs]) (by simp only [go_sem, seval, hs, e7]) (by simp only [go_sem, seval, hs, e9]) (by simp only [go_sem, seval, hs, e11]) S1 S2 hU hrw hB
 | succ r ih =>
  intro i z v s h Q hi S1 S2 hU hK hrw hB hs e0 e1 e7 e9 e11 e12 hQ
  have c : (i : Int) < (b.length : Int) := by omega
  obtain ⟨x, hx⟩ : ∃ x, b[i]? = some x := ⟨_, List.getElem?_eq_getElem (by omega)⟩
  have heb : (eB b)[i]? = some [.sc (.int .u8 x.toNat)] := by simp [eB, br, hx]
  have hia := fun g : ae => hb.ia (h := g) (k := .i64) (j := (i : Int)) (by omega) heb
  have ldx : ∀ g : ae, ldO g false 1 (.rptr [.sc (.int .u8 x.toNat)]) = some (vi .u8 x.toNat, g) := fun g => ij
  have hw : IntKind.i64.wrap ((i : Int) + 1) = ((i + 1 : Nat) : Int) := by rw [IntWalk.i64_in _ (by omega)]; omega
  have bx : ∀ g : ae, bsO g (.cv (.sl 1 [[.sc (.int .u8 (kb x).toNat)]] true)) = some (txt [kb x]) := fun g => (show SlV 1 (eB [kb x]) (.cv (.sl 1 [[.sc (.int .u8 (kb x).toNat)]] true)) from .inr ⟨true, rfl⟩).bs
  rw [ba, bi f3_4.eq_1]
  simp only [go_sem, seval, hs, e12, e1, hb.ln, ax, c]
  refine qy 17 (fun _ => True) trivial rfl rfl ?_
  simp only [List.take_succ_cons, List.take_zero]
  simp only [go_sem, seval, hs, e1, e12]
  refine ox (v := .rptr [.sc (.int .u8 x.toNat)]) rfl trivial (fun g _ => by rw [Xj]; simp only [go_sem, seval, hs]; exact hia g) ?_
  refine ox (v := vi .u8 x.toNat) rfl trivial (fun g _ => by rw [ki]; simp only [go_sem, seval, hs, ldx]) ?_
  simp only [go_sem, seval, hs, Gb q16, am4]
  refine ox (v := .cv (.sl 1 [[.sc (.int .u8 (kb x).toNat)]] true)) rfl trivial (fun g _ => by rw [xj]; simp only [go_sem, seval, hs]) ?_
  refine ox (v := txt [kb x]) rfl trivial (fun g _ => by rw [Hb]; simp only [go_sem, seval, hs, bx]) ?_
  simp only [go_sem, seval, hs, e1, e12]
  refine ox (v := .rptr [.sc (.int .u8 x.toNat)]) rfl trivial (fun g _ => by rw [Xj]; simp only [go_sem, seval, hs]; exact hia g) ?_
  refine ox (v := vi .u8 x.toNat) rfl trivial (fun g _ => by rw [ki]; simp only [go_sem, seval, hs, ldx]) ?_
  simp only [go_sem, seval, hs, e0]
  refine ox (v := .cv (.sl 1 [[.sc (.int .u8 x.toNat)], [.sc (.int .u8 k.toNat)]] true)) rfl trivial (fun g _ => by rw [xj]; simp only [go_sem, seval, hs]) ?_
  simp only [go_sem, seval, hs, bdc]
  have xz : Ext h (h ++ [VO.box [txt [kb x], .cv (.sl 1 [[.sc (.int .u8 x.toNat)], [.sc (.int .u8 k.toNat)]] true), vb false] false]) := Ext.push h _
  have xh : HExt h (h ++ [VO.box [txt [kb x], .cv (.sl 1 [[.sc (.int .u8 x.toNat)], [.sc (.int .u8 k.toNat)]] true), vb false] false]) := HExt.push h _
  have qb : (h ++ [VO.box [txt [kb x], .cv (.sl 1 [[.sc (.int .u8 x.toNat)], [.sc (.int .u8 k.toNat)]] true), vb false] false])[h.length]? = some (.box [txt [kb x], .cv (.sl 1 [[.sc (.int .u8 x.toNat)], [.sc (.int .u8 k.toNat)]] true), vb false] false) := bp
  refine Ay (v := .ptr h.length 0) (h' := h ++ [VO.box [.cv (.sc (.string ⟨#[]⟩)), .cv (.sc (.slice none 0 0)), .cv (.sc (.bool false))] false]) rfl rfl trivial ?_
  refine Ay (v := .undef) (h' := h ++ [VO.box [txt [kb x], .cv (.sl 1 [[.sc (.int .u8 x.toNat)], [.sc (.int .u8 k.toNat)]] true), vb false] false]) rfl (by rw [Kk]; simp only [go_sem, seval, hs]) trivial ?_
  simp only [XDA, List.drop_succ_cons, List.drop_zero]
  simp only [go_sem, seval, hs]
  have T1 := S1.ext xz
  have T2 := S2.ext xz
  have TB := hB.hext xh
  generalize h ++ [VO.box [txt [kb x], .cv (.sl 1 [[.sc (.int .u8 x.toNat)], [.sc (.int .u8 k.toNat)]] true), vb false] false] = g at qb T1 T2 TB
  generalize h.length = N at qb
  refine Ho fun s1 es1 => ?_
  have hs1 : s1.length = 150 := by rw [es1]; simp only [ah, hs]
  have k0 : s1.getD 0 .undef = vi .u8 k.toNat := by rw [es1]; simp only [go_sem, seval, hs, e0]
  have k1 : s1.getD 1 .undef = u := by rw [es1]; simp only [go_sem, seval, hs, e1]
  have k7 : s1.getD 7 .undef = .ptr q1 0 := by rw [es1]; simp only [go_sem, seval, hs, e7]
  have k9 : s1.getD 9 .undef = .ptr q2 0 := by rw [es1]; simp only [go_sem, seval, hs, e9]
  have k11 : s1.getD 11 .undef = v := by rw [es1]; simp only [go_sem, seval, hs, e11]
  have k12 : s1.getD 12 .undef = vi .i64 i := by rw [es1]; simp only [go_sem, seval, hs, e12]
  have k13 : s1.getD 13 .undef = .ptr N 0 := by rw [es1]; simp only [go_sem, seval, hs]
  clear es1
  refine alv (am1 k x u v q1 q2 i N g) (f3_chg (k := k) (q1 := q1) (q2 := q2) (v := v) hb hx qb hs1 k0 k1 k7 k9 k11 k12 k13) ?_
  rintro s2 g2 ⟨hs2, j0, j1, j7, j9, j11, j12, j13, qc, o, rfl⟩
  have T3 := T1.setBox qb o
  have T4 := T2.setBox qb o
  have TB2 := Ur TB qb o
  exact f3_rest (r := 2 * r) hb hbl nq np nf (by omega) hx T3 T4 TB2 (by rw [show 2 * r + 2 = 2 * (r + 1) by omega]; exact hU) hK hrw qc hs2 j0 j1 j7 j9 j11 j12 j13 (fun s3 g3 z3 v3 hs3 m0 m1 m7 m9 m11 m12 S3 S4 U3 K3 R3 B3 => by
   simp only [go_sem, seval, hs3, m12, hw]
   exact ih (i + 1) z3 v3 _ _ Q (by omega) S3 S4 U3 K3 R3 B3 (by simp only [ah, hs3]) (by simp only [go_sem, seval, hs3, m0]) (by simp only [go_sem, seval, hs3, m1]) (by simp only [go_sem, seval, hs3, m7]) (by simp only [go_sem, seval, hs3, m9]) (by simp only [go_sem, seval, hs3, m11]) (by simp only [go_sem, seval, hs3]) hQ)
theorem dq.noLoose {h : ae} {p : Nat} {f l : Option Nat} {d : D} (hD : dq h p f l d) (hl : d.loose = []) : l = none := by
 obtain ⟨vf, vl, _, _, h3⟩ := hD
 rcases h3 with ⟨_, _, _, e, _⟩ | ⟨e, _⟩
 ·rw [hl] at e; exact absurd rfl e
 ·exact e
theorem dq.other {h g : ae} {p1 p2 f1 f2 : Nat} {d1 d2 : D} (hA : dq h p1 (some f1) none d1) (hB : dq h p2 (some f2) none d2) (K : Kept h g p1 (some f1) none) (np : p1 ≠ p2) (nf : f1 ≠ f2) : dq g p2 (some f2) none d2 := by
 obtain ⟨vf1, vl1, a2, a3, _⟩ := hA
 obtain ⟨vf2, vl2, b2, b3, b6⟩ := hB
 rcases a3 with ⟨id1, g1, ex1, c1, _, a3⟩ | ⟨c1, _⟩
 ·cases c1
  rcases b3 with ⟨id2, g2, ex2, d1, d2, d3⟩ | ⟨d1, _⟩
  ·cases d1
   have k2 : g[p2]? = h[p2]? := K.same p2 (az b2) (Ne.symm np) (by grind) (by grind)
   have k3 : g[f2]? = h[f2]? := K.same f2 (az d3) (by grind) (by grind) (by grind)
   refine ⟨vf2, vl2, by grind, .inl ⟨f2, g2, ex2, rfl, d2, by grind⟩, ?_⟩
   rcases b6 with ⟨_, _, e, _⟩ | e
   ·cases e
   ·exact .inr e
  ·cases d1
 ·cases c1
theorem StoreAt.otherD {h g : ae} {p1 q2 p2 f1 f2 : Nat} {d1 : D} {z2 : S} (hA : dq h p1 (some f1) none d1) (hB : StoreAt h q2 p2 (some f2) none z2) (K : Kept h g p1 (some f1) none) (np : p1 ≠ p2) (nf : f1 ≠ f2) : StoreAt g q2 p2 (some f2) none z2 := by
 obtain ⟨u2, e2, b1, b4, b5⟩ := hB.box
 obtain ⟨vf1, vl1, a2, a3, _⟩ := id hA
 refine ⟨⟨u2, e2, ?_, b4, b5⟩, hA.other hB.dev K np nf, hB.qp⟩
 rw [K.same q2 (az b1) (by grind) ?_ (by grind)]
 ·exact b1
 ·intro e
  cases e
  rcases a3 with ⟨_, _, _, c1, _, a3⟩ | ⟨c1, _⟩
  ·grind
  ·cases c1
theorem StoreAt.setArr {h : ae} {q p : Nat} {f l : Option Nat} {z : S} (hA : StoreAt h q p f l z) {N gg : Nat} {els : List (List CV)} {fr : Bool} (hN : h[N]? = some (.arr 3 els gg fr)) (o : VO) : StoreAt (h.set N o) q p f l z := by
 obtain ⟨u2, e2, b1, b4, b5⟩ := hA.box
 obtain ⟨vf2, vl2, b2, b3, b6⟩ := hA.dev
 refine ⟨⟨u2, e2, by grind, b4, b5⟩, ⟨vf2, vl2, by grind, ?_, ?_⟩, hA.qp⟩
 ·rcases b3 with ⟨id2, g2, ex2, d1, d2, d3⟩ | e
  ·exact .inl ⟨id2, g2, ex2, d1, d2, by grind⟩
  ·exact .inr e
 ·rcases b6 with ⟨id2, g2, d1, d2, d4, d3⟩ | e
  ·exact .inl ⟨id2, g2, d1, d2, d4, by grind⟩
  ·exact .inr e
theorem Qt {k : UInt8} {b : List UInt8} (hbl : b.length ≤ 40) {q1 p1 f1 q2 p2 f2 : Nat} (nq : q1 ≠ q2) (np : p1 ≠ p2) (nf : f1 ≠ f2) {h : ae} {v : VV} {z1 z2 : S} (S1 : StoreAt h q1 p1 (some f1) none z1) (S2 : StoreAt h q2 p2 (some f2) none z2) (hr1 : z1.rows = cj [] (b.map (chN k))) (hr2 : z2.rows = []) (hU : RunU 1000 z2 1) (hB : eu h 3 (b.map (lx k)) v) :
    ∃ g z', call F 14 [.ptr q2 0, v] h = some (.ret (vi .u16 0), g) ∧ StoreAt g q1 p1 (some f1) none z1 ∧ StoreAt g q2 p2 (some f2) none z' ∧ z'.rows = z1.rows := by
  rcases hB with ⟨e, rfl⟩ | ⟨id, gg, hne, rfl, hid⟩
  · have hb0 : b = [] := List.map_eq_nil_iff.1 e
    subst hb0
    refine ⟨h, z2, Do (p := p2) (f := some f2) (l := none) (z := z2) (.inl ⟨rfl, rfl⟩), S1, S2, ?_⟩
    rw [hr1, hr2]; rfl
  · have hbn : b.map (chN k) ≠ [] := by
      simp_all
    have hE := Nc k b
    have hfit := Pf k b
    have hpf := Uh hfit
    have hcb := Ev _ hfit
    rw [List.length_map] at hpf hcb
    have hid' := List.getElem?_set_self (a := VO.arr 3 (b.map (lx k)) gg true) (az hid)
    have cl : gc h (.own id gg 0 (b.map (lx k)).length false) = some (.cv (.sl 3 (b.map (lx k)) false), h.set id (.arr 3 (b.map (lx k)) gg true)) := by
      simp only [gc, Go.Vm.clos, hid, Nat.zero_add, Nat.le_refl, and_self, if_true, List.drop_zero, List.take_length]
    have T1 := S1.setArr hid (.arr 3 (b.map (lx k)) gg true)
    have T2 := S2.setArr hid (.arr 3 (b.map (lx k)) gg true)
    obtain ⟨u2, e2, b1, _, _⟩ := T2.box
    obtain ⟨vf2, vl2, b2, b3, _⟩ := T2.dev
    have hV : UV (h.set id (.arr 3 (b.map (lx k)) gg true)) q2 p2 (some f2) none (.own id gg 0 (b.map (lx k)).length false) (.cv (.sl 3 (b.map (lx k)) false)) := by
      intro g K
      have hg : g[id]? = some (.arr 3 (b.map (lx k)) gg true) := by
        rw [K.same id (az hid') (by grind) (by grind) ?_ (by grind)]
        · exact hid'
        · intro e
          cases e
          rcases b3 with ⟨_, _, _, c1, _, c3⟩ | ⟨c1, _⟩
          · grind
          · cases c1
      have hss := mz hg
      simp only [gc, Go.Vm.clos, hg, Nat.zero_add, Nat.le_refl, and_self, if_true, List.drop_zero, List.take_length, hss]
    have he := hU.e
    have hfr := hU.fr
    have hj : jn 1000 = 250 ∧ an 1000 = 93 := ⟨rfl, rfl⟩
    obtain ⟨pg0, hr0⟩ := hU.mem.room
    have hdn := hU.mem.dn
    have hrl : z2.rows.length ≤ 0 := by grind
    have hg : ∀ p ∈ b.map (chN k), p.2.2 = true → p.2.1 = [] := fun p hp => (hfit p hp).2.2
    have hcl : (b.map (chN k)).length ≤ 5000 := by grind
    have hc0 := acd (c := b.map (chN k)) hU.mem (by rw [hr2]; exact K16.nil) hbn (fun y hy => by
      obtain ⟨x, _, rfl⟩ := List.mem_map.1 hy
      exact acm k x) (by omega) (by omega) (by omega) (by omega) (by omega)
    obtain ⟨v14, g, n14, rfl, l', M⟩ := Eg (h0' := h) T2 (.inr ⟨false, rfl⟩) rfl (bf cl rfl) hV hE ⟨hU.lim.ok, by omega, hcl, by omega, fun x hx => by have := (hfit x hx).2.1; omega⟩ (by rw [hdn]; exact hr0) hU.mem.a1 (by omega) (by omega) hfr.2 (hU.lim.le (by omega)) hbn
    have hyes := (sm hU.mem (c := b.map (chN k)) (by omega) hcl hg).yes hc0
    rw [hc0] at n14
    have hU' := hU.commit hcl hg
    obtain rfl : l' = none := M.st.noLoose hU'.run.live.loose
    exact ⟨g, _, n14, T2.other T1 M.kept (Ne.symm nq) (Ne.symm np) (Ne.symm nf), M.st, by grind⟩
def f3_e : IR :=
 (.seq f3_5
 (.seq
 (.seq (.reg [
 ⟨none, (some 118), (.mv (.t 9))⟩,
 ⟨none, (some 119), (.call 16 false [(.t 118)])⟩,
 ⟨none, (some 120), (.len false (.t 119))⟩,
 ⟨none, (some 121), (.mv (.c (.cv (.sc (.int .i64 0)))))⟩])
 (.block 2 (.loop f3_7)))
 (.seq (.reg [
 ⟨none, (some 149), (.call 12 true [])⟩,
 ⟨none, (some 4), (.mv (.t 149))⟩])
 .ret)))
theorem aft {k : UInt8} {b : List UInt8} (hbl : b.length <= 40) {q1 p1 f1 q2 p2 f2 : Nat} (nq : q1 ≠ q2) (np : p1 ≠ p2) (nf : f1 ≠ f2) {h : ae} {v : VV} {z1 z2 : S} (S1 : StoreAt h q1 p1 (some f1) none z1) (S2 : StoreAt h q2 p2 (some f2) none z2) (hr1 : z1.rows = cj [] (b.map (chN k))) (hr2 : z2.rows = []) (hU1 : RunU 1000 z1 0) (hU : RunU 1000 z2 1) (hB : eu h 3 (b.map (lx k)) v) {s : List VV} (hs : s.length = 150) (e7 : s.getD 7 .undef = .ptr q1 0) (e9 : s.getD 9 .undef = .ptr q2 0) (e11 : s.getD 11 .undef = v) :
  X F f3_e ⟨s, h⟩ (RQ [.t 4] fun v _ => v = vb true) := by
 obtain ⟨v12, g12, n12, w12, y12, rfl⟩ := Dl
 obtain ⟨g, z', n14, T1, T2, hrr⟩ := Qt hbl nq np nf S1 S2 hr1 hr2 hU hB
 obtain ⟨ha, hb⟩ := hU1.room
 obtain ⟨w1, els1, n1, A1, R1⟩ := vd T1 (by omega) hb.v
 obtain ⟨w2, els2, n2, A2, R2⟩ := vd T2 (by grind) (by rw [hrr]; exact hb.v)
 rw [hrr] at R2
 have s1 := A1.ln
 have s2 := A2.ln
 rw [R1.len] at s1
 rw [R2.len] at s2
 rw [bi f3_e.eq_1]
 simp only [go_sem, seval, hs]
 rw [bi f3_5.eq_1]
 simp only [go_sem, seval, hs, e9, e11]
 refine ao (by simp only [List.map, go_sem, seval, hs]; exact n14) ?_
 simp only [go_sem, seval, hs, ne_eq, not_true_eq_false, e7]
 refine ao (by simp only [List.map, go_sem, seval, hs]; exact n1) ?_
 simp only [go_sem, seval, hs, s1, e9]
 refine ao (by simp only [List.map, go_sem, seval, hs]; exact n2) ?_
 simp only [go_sem, seval, hs, s2, ne_eq, not_true_eq_false, e9]
 refine ao (by simp only [List.map, go_sem, seval, hs]; exact n2) ?_
 simp only [go_sem, seval, hs, s2]
 refine f3_cmp A2 R2 (by omega) hb.v z1.rows.length 0 _ _ _ (by omega) T1 (by simp_all) (by simp only [go_sem, seval, hs, e7]) (by simp_all) (by simp_all) (by simp_all) (fun s5 g5 hs5 => ?_)
 simp only [go_sem, seval, hs5]
 refine ap (h1 := g5) (by simp only [List.map]; rfl) n12 y12 ?_
 simp only [go_sem, seval, hs5]
 all_goals trivial
theorem dq.ltp {h : ae} {p : Nat} {f l : Option Nat} {d : D} (hD : dq h p f l d) : p < h.length := by
 obtain ⟨_, _, x, _⟩ := hD
 grind
theorem StoreAt.ltq {h : ae} {q p : Nat} {f l : Option Nat} {z : S} (hS : StoreAt h q p f l z) : q < h.length := by
 obtain ⟨_, _, x, _⟩ := hS.box
 grind
theorem ade {k : UInt8} {b : List UInt8} {u : VV} (hb : SlV 1 (eB b) u) (hbl : b.length <= maxLen) : ∃ h', call F 3 [vi .u8 k.toNat, u] [] = some (.ret (vb true), h') := by
 suffices hx : Ret F 3 [vi .u8 k.toNat, u] [] fun v _ => v = vb true by
  obtain ⟨v, g, n1, rfl⟩ := hx
  grind
 obtain ⟨v12, g12, n12, w12, y12, rfl⟩ := Dl
 have hml : maxLen = 9223372036854775807 := rfl
 have r1 : ((b.length : Int) > 40) = (40 < b.length) := by grind
 obtain ⟨g1, m1, D1, l1, k1⟩ := Ge 1000 (by omega) []
 obtain ⟨g2, m2, D2, l2, k2⟩ := Ge 1000 (by omega) g1
 have D1 := D1.ext ⟨l2, k2⟩
 have hlt1 := D1.ltp
 generalize hP1 : ([] : ae).length + 1 = p1 at m1 D1 hlt1
 generalize hF1 : ([] : ae).length = f1 at D1
 have hg1 : f1 < g1.length /\ p1 < g1.length := by
  obtain ⟨g1', m1', D1', _⟩ := Ge 1000 (by omega) []
  rw [hP1] at m1'
  rw [m1] at m1'
  cases m1'
  rw [hP1] at D1'
  have := D1'.ltp
  omega
 have np : p1 ≠ g1.length + 1 := by omega
 have nf : f1 ≠ g1.length := by omega
 generalize g1.length + 1 = p2 at m2 D2 np
 generalize g1.length = f2 at D2 nf
 obtain ⟨v11, g3, n11, rfl, l3, d3, M3, e3, L3, V3, B3⟩ := xi D1 rfl rfl (by rw [Da]; omega) (k := 690000) ((Hk 1000 (by omega)).le (by omega))
 rw [Da] at V3
 obtain rfl : l3 = none := M3.dev.noLoose L3.loose
 have D3 := D1.other D2 M3.kept np nf
 obtain ⟨v21, g4, n21, rfl, l4, d4, M4, e4, L4, V4, B4⟩ := xi D3 rfl rfl (by rw [Da]; omega) (k := 690000) ((Hk 1000 (by omega)).le (by omega))
 rw [Da] at V4
 obtain rfl : l4 = none := M4.dev.noLoose L4.loose
 have D4 := D3.other M3.dev M4.kept (Ne.symm np) (Ne.symm nf)
 obtain ⟨v13, g5, n13, q1, l5, z1, rfl, hq1, M5, S5, O5⟩ := Gt D4 L3.loose V3.rc (by omega) (k := 680000) (B3.le (by omega))
 obtain rfl : l5 = none := S5.noLoose (O5.live e3)
 have D5 := D4.other M4.dev M5.kept np nf
 obtain ⟨v23, g6, n23, q2, l6, z2, rfl, hq2, M6, S6, O6⟩ := Gt D5 L4.loose V4.rc (by omega) (k := 680000) (B4.le (by omega))
 obtain rfl : l6 = none := S6.noLoose (O6.live e4)
 have hq := S5.ltq
 have nq : q1 ≠ q2 := by omega
 have S7 := StoreAt.otherD D5 S5 M6.kept (Ne.symm np) (Ne.symm nf)
 have hr1 : z1.rows = [] := O5.rw_
 have hr2 : z2.rows = [] := O6.rw_
 refine bc (fn := f3) rfl ?_
 simp only [f3]
 generalize hs0 : ([vi .u8 k.toNat, u] ++ List.replicate _ VV.undef : List VV) = s
 have hs : s.length = 150 := by grind
 have h0 : s.getD 0 .undef = vi .u8 k.toNat := by grind
 have h1 : s.getD 1 .undef = u := by grind
 clear hs0
 simp only [go_sem, seval, hs]
 refine ao (by simp only [List.map, go_sem, seval, hs]; exact m1) ?_
 simp only [go_sem, seval, hs]
 refine ao (by simp only [List.map, go_sem, seval, hs]; exact m2) ?_
 simp only [go_sem, seval, hs]
 rw [bi f3_0.eq_1]
 by_cases c1 : 40 < b.length
 ·simp only [go_sem, seval, hs, h1, hb.ln, ax, r1, c1]
  refine ap (h1 := g2) (by simp only [List.map]; rfl) n12 y12 ?_
  simp only [go_sem, seval, hs]
  all_goals trivial
 have U1 : RunU 1000 z1 (2 * b.length) := O5.runU e3 (by omega) (by omega) (by omega)
 have U2 : RunU 1000 z2 1 := O6.runU e4 (by omega) (by omega) (by omega)
 simp only [go_sem, seval, hs, h1, hb.ln, ax, r1, c1]
 refine ao (by simp only [List.map, go_sem, seval, hs]; exact n11) ?_
 simp only [go_sem, seval, hs]
 refine ao (by simp only [List.map, go_sem, seval, hs]; exact n21) ?_
 simp only [go_sem, seval, hs]
 refine ao (by simp only [List.map, go_sem, seval, hs]; exact n13) ?_
 simp only [go_sem, seval, hs]
 refine ao (by simp only [List.map, go_sem, seval, hs]; exact n23) ?_
 simp only [go_sem, seval, hs]
 rw [bi f3_1.eq_1]
 simp only [go_sem, seval, hs]
 refine f3_loop (k := k) hb (by omega) nq np nf b.length 0 z1 ct _ _ _ (by omega) S7 S6 U1 (by rw [hr1]; exact K16.nil) hr1 (.inl ⟨rfl, rfl⟩) (by simp_all) (by simp only [go_sem, seval, hs, h0]) (by simp_all) (by simp_all) (by simp_all) (by simp_all) (by simp only [go_sem, seval, hs]) (fun s5 g7 z' v' hs5 k7 k9 k11 T1 T2 U' R' B' => ?_)
 exact aft (by omega) nq np nf T1 T2 R' hr2 U' U2 B' hs5 k7 k9 k11
open Go Go.Vm
open Go.Proofs.Ytbhoknaipfnlnaa
section
variable {H : Type} {d0 d1 d2 : DataW H} {u0 u1 u2 : VV}
theorem new_in (h0 : DV Proofs.Try.prog 5 d0 u0) (h1 : DV Proofs.Try.prog 22 d1 u1) : ∃ h', call F 3 [u0, u1] [] = some (.ret (vb true), h') := by
 obtain ⟨k, rfl⟩ := amp (by kernel_rfl) h0
 obtain ⟨b, hB, hl⟩ := Za (e := 5) (by kernel_rfl) (by kernel_rfl) (by kernel_rfl) h1
 exact ade hB hl
end
end Go.V08
