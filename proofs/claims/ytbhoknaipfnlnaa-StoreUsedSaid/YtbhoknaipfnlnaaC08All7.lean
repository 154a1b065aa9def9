/- Part of a proof: of what it says, and when, each theorem tells itself. -/
import Derived.Test.YtbhoknaipfnlnaaC08All6
import Derived.Test.YtbhoknaipfnlnaaRows
set_option linter.unusedSimpArgs false
set_option linter.unusedVariables false
namespace Go.V08
open Go Go.Vm
theorem Gs {α : Type} {l' l : List α} {k : Nat} (h : l'.Sublist (l.take k)) : l'.Sublist l := h.trans (List.take_sublist k l)
theorem aez {o : Nat × List UInt8} {l' : List (Nat × List UInt8)} (h : l'.Sublist [o]) : l' = [] \/ l' = [o] := by
 grind
theorem Xg {n : Nat} {d : D} (hl : Live d) (hn : d.firm.length = n) {e a : Nat} {rows : List KV} (hR : Rc n d.firm e a rows) (he : e < 1073741824) {pgs : Sec} (hr : en n rows = some pgs) :
  (∀ F, Out (yg d pgs (1 - a) (e + 1)) F -> ∃ e' a', e' <= e + 1 /\ Rc n F e' a' rows) /\
  ((yg d pgs (1 - a) (e + 1)).dark = false -> Live (yg d pgs (1 - a) (e + 1)) /\ Vd n (yg d pgs (1 - a) (e + 1)).firm (e + 1) (1 - a) rows [] 0) /\
  d.w < (yg d pgs (1 - a) (e + 1)).w /\ (d.fused = false -> (yg d pgs (1 - a) (e + 1)).fused = false) := by
 obtain ⟨b0, b1⟩ := wh n
 obtain ⟨p1, p2⟩ := rj hR.dn.lo
 have hlo := hR.dn.lo
 have ha := hR.a1
 have hp : pgs.length <= an n := (gr hr).2
 have hsl := om hr
 have h256 := na (gr hr).1
 have hfl := sm (k := 256) pgs h256
 obtain ⟨_, h64, _⟩ := xg (k := 64) (by omega) (4 * pgs.length) pgs.flatten (by omega)
 rw [Ky, hn]
 generalize hLs : pcs 64 pgs.flatten = Ls at hsl h64
 have h64' : ∀ b ∈ Ls, b.length <= 64 := fun b hb => by grind
 have hin : ls n (1 - a) + Ls.length <= d.firm.length := by
  grind
 have hne : Ls ≠ [] := by
  intro e0
  have hb := Jy (gr hr).1
  have : pgs.length = 0 := by grind
  have : pgs = [] := List.eq_nil_of_length_eq_zero this
  rw [this] at hb
  rw [show ([] : Sec).dropLast = [] from rfl] at hb
  have h2 := xm (gr hr).1
  grind
 obtain ⟨hP, hw, hfu⟩ := akw hl hin h64'
 have hw := hw hne
 have hRa : ∀ l', l'.Sublist (wl (ls n (1 - a)) Ls) -> Rc n (pa d.firm l') e a rows := fun l' hs => hR.area (by omega) h64' hs
 have hn1 : (ph d (ls n (1 - a)) Ls).firm.length = n := by rw [agr, hn]
 generalize hd1 : ph d (ls n (1 - a)) Ls = d1 at hw hfu hn1
 have dk : d1.dark = true -> ph d1 ((e + 1) % 2) [gh (e + 1) (1 - a) pgs.length] = d1 := fun h => Gy h _ _
 have hO1 : ∀ F, Out d1 F -> Rc n F e a rows := by
  rintro F ⟨l', s1, rfl⟩
  cases hP with
  | done h1 h2 =>
   rw [hd1] at h1 h2
   rw [h1] at s1
   rw [List.sublist_nil.1 s1]
   show Rc n d1.firm e a rows
   grind
  | cut h1 h2 k h3 =>
   rw [hd1] at h1 h2 h3
   rw [h3] at s1
   rw [h2]
   exact hRa _ (Gs s1)
 cases hdk : d1.dark with
 | true =>
  grind
 | false =>
  cases hP with
  | cut h1 _ _ _ => grind
  | done h1 h2 =>
   rw [hd1] at h1 h2
   have hl1 : Live d1 := ⟨h1, hdk⟩
   have hR1 : Rc n d1.firm e a rows := by grind
   have hA : ar n d1.firm (1 - a) (4 * pgs.length) = Ls := by
    have hx := ab7 (a := 1 - a) (F := d.firm) (Ls := Ls) (by omega) hR.dn (by omega) h64
    grind
   have hV := hR1.head he hr (by rw [hA, hLs])
   have hpd : pad (gh (e + 1) (1 - a) pgs.length) = gh (e + 1) (1 - a) pgs.length := On qy
   obtain ⟨hP2, hw2, hfu2⟩ := akw hl1 (a := (e + 1) % 2) (L := [gh (e + 1) (1 - a) pgs.length]) (by grind) (fun b hb => by rw [List.mem_singleton.1 hb, qy]; omega)
   have hw2 := hw2 (by simp)
   have hset : pa d1.firm (wl ((e + 1) % 2) [gh (e + 1) (1 - a) pgs.length]) = d1.firm.set ((e + 1) % 2) (gh (e + 1) (1 - a) pgs.length) := by
    show d1.firm.set ((e + 1) % 2) (pad _) = _
    rw [hpd]
   rw [<- hset] at hV
   have hw3 := Nat.lt_trans hw hw2
   have hRV := hV.rc
   have hRV : Rc n (pa d1.firm (wl ((e + 1) % 2) [gh (e + 1) (1 - a) pgs.length])) (e + 1) (1 - a) rows := hRV
   refine ⟨fun F hF => ?_, fun hd2 => ?_, hw3, fun h => hfu2 (hfu h)⟩
   ·obtain ⟨l', s1, rfl⟩ := hF
    cases hP2 with
    | done g1 g2 =>
     rw [g1] at s1
     rw [List.sublist_nil.1 s1]
     refine ⟨e + 1, 1 - a, Nat.le_refl _, ?_⟩
     show Rc n (ph d1 ((e + 1) % 2) [gh (e + 1) (1 - a) pgs.length]).firm (e + 1) (1 - a) rows
     grind
    | cut g1 g2 k g3 =>
     rw [g3] at s1
     rw [g2]
     rcases aez (Gs s1) with rfl | rfl
     ·exact ⟨e, a, by omega, hR1⟩
     ·exact ⟨e + 1, 1 - a, Nat.le_refl _, hRV⟩
   ·cases hP2 with
    | cut g1 _ _ _ => grind
    | done g1 g2 => exact ⟨⟨g1, hd2⟩, by grind⟩
structure Mem (n : Nat) (z : S) : Prop where
 dn : z.d.firm.length = n
 lo : 64 <= n
 hi : n <= 4096
 a1 : z.a <= 1
 room : ∃ p, en n z.rows = some p
 used : z.used <= jn n
 fr : z.fr <= z.used
structure Run (n : Nat) (z : S) : Prop where
 live : Live z.d
 v : ∃ base L, Vd n z.d.firm z.e z.a base L z.used /\ z.rows = oz base L /\ z.fr = L.length
theorem agv {n : Nat} {z : S} (hM : Mem n z) (hR : Run n z) (he : z.e < 1073741824) {pg : Sec} (hr : en n z.rows = some pg) :
  Mem n (ckF z pg) /\ (∀ F, Out (ckF z pg).d F -> ∃ e' a', e' <= (ckF z pg).e /\ Rc n F e' a' z.rows) /\ ((ckF z pg).d.dark = false -> Run n (ckF z pg)) /\ z.d.w < (ckF z pg).d.w /\ (z.d.fused = false -> (ckF z pg).d.fused = false) := by
 obtain ⟨base, L, hV, hrw, _⟩ := hR.v
 have hRc := hV.rc
 rw [<- hrw] at hRc
 obtain ⟨h1, h2, h3, h4⟩ := Xg hR.live hM.dn hRc he hr
 refine ⟨⟨by show (yg z.d pg (1 - z.a) (z.e + 1)).firm.length = n; rw [Uz, hM.dn], hM.lo, hM.hi, by show 1 - z.a <= 1; omega, ⟨pg, hr⟩, Nat.zero_le _, Nat.le_refl _⟩, h1, fun hd => ?_, h3, h4⟩
 obtain ⟨g1, g2⟩ := h2 hd
 exact ⟨g1, z.rows, [], g2, rfl, rfl⟩
theorem Wu {n : Nat} {z : S} (hM : Mem n z) (hR : Run n z) {c : List Ch} (hc : FrOK c) (hu : z.used + (aq z.e z.fr c).length <= jn n) (hroom : ∃ p, en n (de z.rows c) = some p) :
  Mem n (tw z c (aq z.e z.fr c)) /\ (∀ F, Out (tw z c (aq z.e z.fr c)).d F -> ∃ e' a', e' <= z.e /\ (Rc n F e' a' z.rows \/ Rc n F e' a' (de z.rows c))) /\
  ((tw z c (aq z.e z.fr c)).d.dark = false -> Run n (tw z c (aq z.e z.fr c))) /\ z.d.w < (tw z c (aq z.e z.fr c)).d.w /\ (z.d.fused = false -> (tw z c (aq z.e z.fr c)).d.fused = false) := by
 obtain ⟨base, L, hV, hrw, hfr⟩ := hR.v
 have hfs := jj z.e z.fr c
 have hfr1 := hM.fr
 have hlo := hM.lo
 obtain ⟨p1, p2⟩ := rj hlo
 have he : z.e < 4294967296 := by have := hV.e2; omega
 have h64 : ∀ b ∈ aq z.e z.fr c, b.length <= 64 := fun b hb => by rw [(yb he b hb).2]; omega
 have hd : (tw z c (aq z.e z.fr c)).d = ph z.d (2 + z.used) (aq z.e z.fr c) := rfl
 obtain ⟨hP, hw, hfu⟩ := akw hR.live (a := 2 + z.used) (L := aq z.e z.fr c) (by rw [hM.dn]; omega) h64
 have hw := hw (by grind)
 have hpart := fun l' hs => hV.part hc (by grind) (by grind) (l' := l') hs
 rw [<- hfr, <- hrw] at hpart
 have hVn : Vd n (pa z.d.firm (wl (2 + z.used) (aq z.e z.fr c))) z.e z.a base (L ++ [c]) (z.used + (aq z.e z.fr c).length) := (hpart _ (.refl _)).1 rfl
 have hfold : oz base (L ++ [c]) = de z.rows c := by rw [hrw]; unfold oz; grind
 have hRn := hVn.rc
 rw [hfold] at hRn
 refine ⟨⟨by rw [hd, agr, hM.dn], hM.lo, hM.hi, hM.a1, hroom, hu, by show z.fr + 1 <= z.used + (aq z.e z.fr c).length; omega⟩, fun F hF => ?_, fun hdk => ?_, by grind, fun h => by grind⟩
 ·rw [hd] at hF
  obtain ⟨l', s1, rfl⟩ := hF
  cases hP with
  | done g1 g2 =>
   rw [g1] at s1
   rw [List.sublist_nil.1 s1]
   refine ⟨z.e, z.a, Nat.le_refl _, .inr ?_⟩
   show Rc n (ph z.d (2 + z.used) (aq z.e z.fr c)).firm _ _ _
   grind
  | cut g1 g2 k g3 =>
   rw [g3] at s1
   rw [g2]
   rcases (hpart l' (Gs s1)).2 with h | h
   ·exact ⟨z.e, z.a, Nat.le_refl _, .inl h⟩
   ·rw [h]; exact ⟨z.e, z.a, Nat.le_refl _, .inr hRn⟩
 ·rw [hd] at hdk
  cases hP with
  | cut g1 _ _ _ => grind
  | done g1 g2 =>
   refine ⟨⟨g1, hdk⟩, base, L ++ [c], ?_, hfold.symm, by show z.fr + 1 = _; grind⟩
   show Vd n (ph z.d (2 + z.used) (aq z.e z.fr c)).firm z.e z.a base (L ++ [c]) (z.used + (aq z.e z.fr c).length)
   grind
open Go Go.Vm
theorem Ie {d : D} (h : d.dark = true) (pg : Sec) (a e : Nat) : yg d pg a e = d := by rw [Ky, Gy h, Gy h]
theorem Bn {z : S} (h : z.d.dark = true) (c : List Ch) (ps : Sec) : (tw z c ps).d = z.d := Gy h _ _
theorem Oh {z : S} (h : z.d.dark = true) (pg : Sec) : (ckF z pg).d = z.d := Ie h _ _ _
theorem ad9 {c : List Ch} (hl : c.any lng = false) (hg : ∀ p ∈ c, p.2.2 = true -> p.2.1 = []) (hn : c.length <= 5000) (hp : (pcs 49 (gb c)).length <= 200) : FrOK c := by
 refine ⟨fun p hp => ?_, hn, hp⟩
 have := List.any_eq_false.1 hl p hp
 unfold lng at this
 grind
structure ComP (n : Nat) (z : S) (c : List Ch) (r : S × Nat) : Prop where
 k : r.2 = 0 \/ r.2 = 3 \/ r.2 = 21
 mem : Mem n r.1
 e : r.1.e <= z.e + 1
 not : r.2 ≠ 0 \/ c = [] -> r.1 = z
 yes : r.2 = 0 -> r.1.rows = de z.rows c
 dark : z.d.dark = true -> r.1.d = z.d
 run : Run n z -> r.2 = 0 -> c ≠ [] -> z.d.w < r.1.d.w /\ (∀ F, Out r.1.d F -> ∃ e' a', e' <= r.1.e /\ (Rc n F e' a' z.rows \/ Rc n F e' a' r.1.rows)) /\ (r.1.d.dark = false -> Run n r.1) /\ (z.d.fused = false -> r.1.d.fused = false)
theorem Gu {n : Nat} {z : S} {c : List Ch} (hM : Mem n z) {k : Nat} (hk : k = 3 \/ k = 21) : ComP n z c (z, k) :=
 have h0 : k ≠ 0 := by omega
 ⟨.inr hk, hM, Nat.le_succ _, fun _ => rfl, fun h => absurd h h0, fun _ => rfl, fun _ h => absurd h h0⟩
theorem wv {n : Nat} {z : S} {c : List Ch} (hM : Mem n z) (he : z.e < 1073741823) (hc : c.length <= 5000) (hg : ∀ p ∈ c, p.2.2 = true -> p.2.1 = []) : ComP n z c (bo z c) := by
 by_cases hn : c = []
 ·subst hn
  have : bo z [] = (z, 0) := by unfold bo; rw [if_pos rfl]
  rw [this]
  exact ⟨.inl rfl, hM, Nat.le_succ _, fun _ => rfl, fun _ => rfl, fun _ => rfl, fun _ _ h => absurd rfl h⟩
 cases hl : c.any lng with
 | true =>
  have : bo z c = (z, 3) := by unfold bo; rw [if_neg hn, if_pos hl]
  rw [this]
  exact Gu hM (.inl rfl)
 | false =>
  unfold bo
  rw [if_neg hn, if_neg (by rw [hl]; decide)]
  have hdn := hM.dn
  obtain ⟨pg0, hr0⟩ := hM.room
  rw [hdn]
  cases hrm : en n (de z.rows c) with
  | none => exact Gu hM (.inr rfl)
  | some pgA =>
   cases hpf : dl z.e z.fr c with
   | none => exact Gu hM (.inr rfl)
   | some ps =>
    obtain ⟨hps, h200⟩ := pi hpf
    have hF := ad9 hl hg hc h200
    dsimp only
    by_cases c2 : (bi n).1 < ps.length
    ·rw [if_pos c2]; exact Gu hM (.inr rfl)
    ·rw [if_neg c2]
     by_cases c3 : (bi n).1 < z.used + ps.length
     ·rw [if_pos c3, hr0]
      obtain ⟨ps', hp2, hpl⟩ := wx hpf (e' := z.e + 1) (by omega)
      obtain ⟨hps', _⟩ := pi (n := 0) hp2
      rw [hp2]
      have hu' : (ckF z pg0).used + (aq (ckF z pg0).e (ckF z pg0).fr c).length <= jn n := by
       show 0 + (aq (z.e + 1) 0 c).length <= jn n
       rw [<- hps', hpl]
       have : ¬ jn n < ps.length := c2
       omega
      have hMk : Mem n (ckF z pg0) := ⟨by show (yg z.d pg0 (1 - z.a) (z.e + 1)).firm.length = n; rw [Uz, hM.dn], hM.lo, hM.hi, by show 1 - z.a <= 1; omega, ⟨pg0, hr0⟩, Nat.zero_le _, Nat.le_refl _⟩
      rw [hps']
      have hfs := jj (z.e + 1) 0 c
      have hMa : Mem n (tw (ckF z pg0) c (aq (z.e + 1) 0 c)) := ⟨by show (ph (ckF z pg0).d _ _).firm.length = n; rw [agr, hMk.dn], hM.lo, hM.hi, hMk.a1, ⟨pgA, hrm⟩, hu', by show 0 + 1 <= 0 + (aq (z.e + 1) 0 c).length; omega⟩
      refine ⟨.inl rfl, hMa, Nat.le_refl _, fun h => ?_, fun _ => rfl, fun h => ?_, fun hR _ _ => ?_⟩
      ·rcases h with h | h
       ·exact absurd rfl h
       ·exact absurd h hn
      ·show (tw (ckF z pg0) c (aq (z.e + 1) 0 c)).d = z.d
       rw [Bn (by rw [Oh h]; exact h), Oh h]
      ·obtain ⟨k1, k2, k3, k4, k5⟩ := agv hM hR (by omega) hr0
       cases hdk : (ckF z pg0).d.dark with
       | true =>
        have hsame : (tw (ckF z pg0) c (aq (z.e + 1) 0 c)).d = (ckF z pg0).d := Bn hdk _ _
        dsimp only
        rw [hsame]
        refine ⟨k4, fun F hF => ?_, fun h => ?_, k5⟩
        ·obtain ⟨e', a', q1, q2⟩ := k2 F hF
         exact ⟨e', a', q1, .inl q2⟩
        ·cases hdk.symm.trans h
       | false =>
        obtain ⟨m1, m2, m3, m4, m5⟩ := Wu k1 (k3 hdk) hF hu' ⟨pgA, hrm⟩
        exact ⟨Nat.lt_trans k4 m4, m2, m3, fun h => m5 (k5 h)⟩
     ·rw [if_neg c3, hps]
      have hu' : z.used + (aq z.e z.fr c).length <= jn n := by
       rw [<- hps]
       have : ¬ jn n < z.used + ps.length := c3
       omega
      have hfs := jj z.e z.fr c
      have hfr := hM.fr
      have hMa : Mem n (tw z c (aq z.e z.fr c)) := ⟨by show (ph z.d _ _).firm.length = n; rw [agr, hM.dn], hM.lo, hM.hi, hM.a1, ⟨pgA, hrm⟩, hu', by show z.fr + 1 <= z.used + (aq z.e z.fr c).length; omega⟩
      refine ⟨.inl rfl, hMa, Nat.le_succ _, fun h => ?_, fun _ => rfl, fun h => Bn h _ _, fun hR _ _ => ?_⟩
      ·rcases h with h | h
       ·exact absurd rfl h
       ·exact absurd h hn
      ·obtain ⟨m1, m2, m3, m4, m5⟩ := Wu hM hR hF hu' ⟨pgA, hrm⟩
       exact ⟨m4, m2, m3, m5⟩
open Go Go.Vm
theorem qc {d : D} (h : d.loose = []) (i : Nat) : d.cell i = d.firm.getD i [] := by unfold D.cell; rw [h]; rfl
theorem Oq {d : D} (h : d.loose = []) {a m : Nat} (hm : a + m <= d.firm.length) : Cb d a m = (d.firm.drop a).take m := by
 apply List.ext_getElem?
 intro i
 unfold Cb
 by_cases hi : i < m
 ·rw [List.getElem?_map, List.getElem?_range hi, Option.map_some, qc h, List.getElem?_take_of_lt hi, List.getElem?_drop, List.getD_eq_getElem?_getD]
  grind
 grind
theorem Zp {d : D} (h : d.loose = []) {e a pg : Nat} (hd : Hd d.firm.length d.firm e a pg) : ql d = some (e, a, pg) := by
 obtain ⟨h1, h2⟩ := hd
 rcases (show e % 2 = 0 \/ e % 2 = 1 by omega) with he | he
 ·rw [he] at h1 h2
  have h2 : ∀ x, jy d.firm.length (d.firm.getD 1 []) = some x -> x.1 < e := h2
  refine rt (x := some (e, a, pg)) (y := jy d.firm.length (d.firm.getD 1 [])) (by rw [qc h]; exact h1) (by rw [qc h]) ?_
  cases hy : jy d.firm.length (d.firm.getD 1 []) with
  | none => rfl
  | some y =>
   have := h2 y hy
   show (if e < y.1 then some y else some (e, a, pg)) = _
   grind
 ·rw [he] at h1 h2
  have h2 : ∀ x, jy d.firm.length (d.firm.getD 0 []) = some x -> x.1 < e := h2
  refine rt (x := jy d.firm.length (d.firm.getD 0 [])) (y := some (e, a, pg)) (by rw [qc h]) (by rw [qc h]; exact h1) ?_
  cases hx : jy d.firm.length (d.firm.getD 0 []) with
  | none => rfl
  | some x =>
   have := h2 x hx
   show (if x.1 < e then some (e, a, pg) else some x) = _
   grind
structure OpenP (n : Nat) (e : Nat) (rows : List KV) (d : D) (k : Nat) (z : S) : Prop where
 rw_ : z.rows = rows
 ep : z.e = e + 1
 us : z.used = 0
 fr : z.fr = 0
 mem : Mem n z
 out : ∀ F, Out z.d F -> ∃ e' a', e' <= e + 1 /\ Rc n F e' a' rows
 run : z.d.dark = false -> Run n z
 nf : d.fused = false -> z.d.fused = false
 lim : z.d.Lim k
theorem Ol {h : ae} {p : Nat} {f l : Option Nat} {d : D} (hD : er h p f l d) (hl : d.loose = []) {n e a : Nat} {rows : List KV} (hR : Rc n d.firm e a rows) (he : e < 1073741824) {k : Nat} (hL : d.Lim (k + 3000)) :
  Ret F 13 [.ptr p 0] h fun v g => ∃ q l' z, v = .tup [.ptr q 0, vi .u16 0] /\ h.length <= q /\ Moved h g p f l l' z.d /\ StoreAt g q p f l' z /\ OpenP n e rows d k z := by
 have hn : d.firm.length = n := hR.dn.len
 obtain ⟨base, pgs, L, h1, h2, h3, h4, h5, h6, h7⟩ := hR.ex
 obtain ⟨pgR, hr⟩ := hR.room
 obtain ⟨p1, p2⟩ := rj hR.dn.lo
 have hp : pgs.length <= an n := (gr h2).2
 have hpR : pgR.length <= an n := (gr hr).2
 have hlo := hR.dn.lo
 have hhi := hR.dn.hi
 have hbld := (gr h2).1
 have h256 := na hbld
 have hfl := sm (k := 256) pgs h256
 obtain ⟨hs1, _, hs3⟩ := xg (k := 64) (by omega) (4 * pgs.length) pgs.flatten (by omega)
 obtain ⟨hin, hin2⟩ := Kb hlo hR.a1 hp
 have hf : ql d = some (e, a, pgs.length) := Zp hl (by grind)
 have hlaid : Vp d a pgs.length = (base, 0) := by
  unfold Vp
  rw [hn, Oq hl (by omega)]
  have : (d.firm.drop (ls n a)).take (pgs.length * 4) = pcs 64 pgs.flatten := by rw [Nat.mul_comm]; exact h3
  rw [this, hs3, afd (by omega) pgs h256]
  exact xm hbld
 have hjr : Cb d 2 (bi d.firm.length).1 = jr n d.firm := by
  rw [hn, Oq hl (by omega)]; rfl
 have hFr : FrL (su e (Cb d 2 (bi d.firm.length).1)).1 L := by
  rw [hjr, h4]; exact ail h5
 have hb5 : base.length <= 5000 := by
  unfold dm at hbld
  grind
 have hr' : en d.firm.length (oz base L) = some pgR := by grind
 obtain ⟨v, g, n1, q, l', rfl, hq, M, St⟩ := ae6 hD (by omega) hf hlaid hFr (by omega) hr' he (hL.le (by omega))
 have hlay : (∀ F, Out (yg d pgR (1 - a) (e + 1)) F -> ∃ e' a', e' <= e + 1 /\ Rc n F e' a' rows) /\
  ((yg d pgR (1 - a) (e + 1)).dark = false -> Live (yg d pgR (1 - a) (e + 1)) /\ Vd n (yg d pgR (1 - a) (e + 1)).firm (e + 1) (1 - a) rows [] 0) /\ (d.fused = false -> (yg d pgR (1 - a) (e + 1)).fused = false) := by
  cases hdk : d.dark with
  | false =>
   obtain ⟨o1, o2, o3, o4⟩ := Xg ⟨hl, hdk⟩ hn hR he hr
   grind
  | true =>
   rw [Ie hdk]
   refine ⟨fun F hF => ⟨e, a, Nat.le_succ e, ?_⟩, fun h => ?_, fun h => h⟩
   ·rw [aam hl hF]; exact hR
   grind
 obtain ⟨o1, o2, o4⟩ := hlay
 have hz : (ckF ⟨d, oz base L, e, a, pgs.length, 0, 0⟩ pgR).d = yg d pgR (1 - a) (e + 1) := rfl
 refine ⟨_, g, n1, q, l', _, rfl, hq, M, St, h7.symm, rfl, rfl, rfl, ⟨?_, hlo, hhi, ?_, ⟨pgR, by show en n (oz base L) = _; grind⟩, Nat.zero_le _, Nat.le_refl _⟩, ?_, fun hd => ?_, ?_, ?_⟩
 ·rw [hz, Uz, hn]
 ·show 1 - a <= 1; omega
 ·grind
 ·rw [hz] at hd
  obtain ⟨g1, g2⟩ := o2 hd
  exact ⟨g1, rows, [], g2, h7.symm, rfl⟩
 ·grind
 ·rw [hz]
  exact zd (by rw [om hr]; exact hL.le (by omega))
open Go Go.Vm
theorem sb {d : D} (h : d.fused = false) : d.dark = false := by unfold D.dark; rw [h]; rfl
theorem Tu {d : D} (h : d.fused = false) (hl : d.loose = []) {a : Nat} {L : List (List UInt8)} (hn : a + L.length <= d.firm.length) (hb : ∀ b ∈ L, b.length <= 64) :
  (ph d a L).loose = [] /\ (ph d a L).firm = pa d.firm (wl a L) /\ (ph d a L).fused = false := by
 obtain ⟨hP, _, hf⟩ := akw ⟨hl, sb h⟩ hn hb
 have hf := hf h
 cases hP with
 | done h1 h2 => grind
 | cut h1 _ _ _ => rw [sb hf] at h1; cases h1
theorem Ue {d : D} (hO : d.OK) (hf : d.fused = false) (hl : d.loose = []) (hlo : 64 <= d.firm.length) : (qi d).fused = false /\ Live (qi d) /\ Vd d.firm.length (qi d).firm 1 0 [] [] 0 := by
 obtain ⟨n, hn⟩ : ∃ n, d.firm.length = n := ⟨_, rfl⟩
 have hhi : n <= 4096 := by rw [<- hn]; exact hO.n
 rw [hn] at hlo |-
 obtain ⟨p1, p2⟩ := rj hlo
 obtain ⟨b0, b1⟩ := wh n
 have hD0 : Dn n d.firm := ⟨hlo, hhi, hn, hO.f64⟩
 have hrep : ∀ b ∈ List.replicate (2 + jn n) ([] : List UInt8), b.length <= 64 := fun b hb => by grind
 obtain ⟨f1, f2, f3⟩ := Tu hf hl (a := 0) (L := List.replicate (2 + jn n) []) (by grind) hrep
 have hpb : dm [] = some [ey 0 []] := yk
 have h256 := na hpb
 have hfl := sm (k := 256) [ey 0 []] h256
 obtain ⟨hs1, hs2, _⟩ := xg (k := 64) (by omega) 4 ([ey 0 []] : Sec).flatten (by rw [hfl]; rfl)
 have hs2' : ∀ b ∈ pcs 64 ([ey 0 []] : Sec).flatten, b.length <= 64 := fun b hb => by grind
 have hd : qi d = yg (ph d 0 (List.replicate (2 + jn n) [])) [ey 0 []] 0 1 := by unfold qi; rw [hn]; rfl
 have hn1 : (ph d 0 (List.replicate (2 + jn n) [])).firm.length = n := by rw [agr, hn]
 rw [hd, Ky, hn1]
 have hD1 : Dn n (ph d 0 (List.replicate (2 + jn n) [])).firm := by rw [f2]; exact hD0.sub hrep (.refl _)
 have hz : ∀ i, i < 2 + jn n -> (ph d 0 (List.replicate (2 + jn n) [])).firm[i]? = some z64 := fun i hi => by
  have := Pq (List.replicate (2 + jn n) []) d.firm 0 i (by grind) (by grind)
  rw [Nat.zero_add] at this
  rw [f2, this, List.getElem?_replicate, if_pos hi]
  rfl
 generalize ph d 0 (List.replicate (2 + jn n) []) = d1 at f1 f3 hn1 hD1 hz
 have han : 4 * 1 <= 4 * an n := by omega
 obtain ⟨g1, g2, g3⟩ := Tu f3 f1 (a := ls n 0) (L := pcs 64 ([ey 0 []] : Sec).flatten) (by omega) hs2'
 have hA := ab7 (a := 0) (F := d1.firm) (by omega) hD1 (by omega) hs2
 rw [hs1] at hA
 have hn2 : (ph d1 (ls n 0) (pcs 64 ([ey 0 []] : Sec).flatten)).firm.length = n := by rw [agr, hn1]
 have hz2 : ∀ i, i < 2 + jn n -> (ph d1 (ls n 0) (pcs 64 ([ey 0 []] : Sec).flatten)).firm[i]? = some z64 := fun i hi => by
  rw [g2, Ku (.refl _) (.inl (by omega)), hz i hi]
 have hD2 : Dn n (ph d1 (ls n 0) (pcs 64 ([ey 0 []] : Sec).flatten)).firm := by rw [g2]; exact hD1.sub hs2' (.refl _)
 rw [<- g2] at hA
 generalize ph d1 (ls n 0) (pcs 64 ([ey 0 []] : Sec).flatten) = d2 at g1 g3 hn2 hz2 hD2 hA
 have hpl : ([ey 0 []] : Sec).length = 1 := rfl
 rw [hpl]
 have hh64 : ∀ b ∈ [gh 1 0 1], b.length <= 64 := fun b hb => by rw [List.mem_singleton.1 hb, qy]; omega
 obtain ⟨k1, k2, k3⟩ := Tu g3 g1 (a := 1 % 2) (L := [gh 1 0 1]) (by grind) hh64
 have hset : pa d2.firm (wl (1 % 2) [gh 1 0 1]) = d2.firm.set 1 (gh 1 0 1) := by
  show d2.firm.set (1 % 2) (pad _) = _
  rw [On qy]
 have hD3 : Dn n (d2.firm.set 1 (gh 1 0 1)) := by rw [<- hset]; exact hD2.sub hh64 (.refl _)
 rw [hset] at k2
 refine ⟨k3, ⟨k1, sb k3⟩, ?_⟩
 rw [k2]
 have ne : ∀ i, 2 <= i -> (d2.firm.set 1 (gh 1 0 1))[i]? = d2.firm[i]? := fun i hi => List.getElem?_set_ne (by omega)
 refine ⟨hD3, by omega, by omega, by omega, ⟨[ey 0 []], ⟨?_, fun x hx => ?_⟩, yu hlo, ?_⟩, by simp [cj], rfl, Nat.zero_le _, fun i b _ hi hb => ?_, fun c hc => (by cases hc), ⟨_, yu hlo⟩, fun i b hi hb => ?_⟩
 ·show jy n ((d2.firm.set 1 (gh 1 0 1)).getD 1 []) = _
  rw [List.getD_eq_getElem?_getD, List.getElem?_set_self (by omega)]
  exact Bd (by omega) (by omega) (by omega) (Nat.le_refl 1) (by grind) hhi
 ·have hx : jy n ((d2.firm.set 1 (gh 1 0 1)).getD 0 []) = some x := hx
  rw [List.getD_eq_getElem?_getD, List.getElem?_set_ne (by omega), hz2 0 (by omega)] at hx
  have hx : jy n z64 = some x := hx
  rw [Rk] at hx; cases hx
 ·rw [hpl, <- hA]
  exact ou fun i hi => ne _ (by omega)
 ·rw [ne _ (by omega), hz2 _ (by omega)] at hb
  cases hb
  exact (Oc 1).1
 ·rw [ne _ (by omega), hz2 _ (by omega)] at hb
  cases hb
  exact (Oc 1).2
theorem Ld {d : D} {k : Nat} (h : d.Lim (k + 2000)) (hn : d.firm.length <= 4096) : (qi d).Lim k := by
 have hj := (iv hn).1
 have h256 := na yk
 have hps : (pcs 64 ([ey 0 []] : Sec).flatten).length = 4 := by
  have hfl := sm (k := 256) [ey 0 []] h256
  exact (xg (k := 64) (by omega) 4 ([ey 0 []] : Sec).flatten (by rw [hfl]; rfl)).1
 unfold qi
 refine zd (og (nj _ _ _ _ (h.le ?_)))
 grind
theorem Dh {h : ae} {p : Nat} {f l : Option Nat} {d : D} (hD : er h p f l d) (hf : d.fused = false) (hl : d.loose = []) (hlo : 64 <= d.firm.length) {k : Nat} (hL : d.Lim (k + 2000)) :
  Ret F 11 [.ptr p 0] h fun v g => v = vi .u16 0 /\ ∃ l' d', Moved h g p f l l' d' /\ d'.fused = false /\ Live d' /\ Vd d.firm.length d'.firm 1 0 [] [] 0 /\ d'.Lim k := by
 obtain ⟨v, g, n1, rfl, l', M⟩ := Rw hD hlo (hL.le (by have := (iv hL.ok.n).1; omega))
 obtain ⟨a1, a2, a3⟩ := Ue hL.ok hf hl hlo
 exact ⟨_, g, n1, rfl, l', _, M, a1, a2, a3, Ld hL hL.ok.n⟩
open Go Go.Vm
theorem RowsE.setV {els : List (List CV)} {rows : List KV} (h : RowsE els rows) {i : Nat} {k v : List UInt8} (hi : rows[i]? = some (k, v)) {c : CV} (hc : SlV 1 (eB v) (.cv c)) : RowsE (els.set i [.sc (.string ⟨k.toArray⟩), c]) rows := by
 induction h generalizing i with
 | nil => simp at hi
 | cons h t ih =>
  cases i with
  | zero => cases hi; exact .cons ⟨c, rfl, hc⟩ t
  | succ i => exact .cons h (ih (by grind))
theorem f42_loop {rows : List KV} (hl : rows.length <= 1000000) (hv : ∀ r ∈ rows, r.2.length <= 1000000000) {uo : VV} {id g : Nat} (huo : uo = .own id g 0 rows.length false) : ∀ (r i : Nat) (els : List (List CV)) (s : List VV) (h : ae) (Q : Pst), i + r = rows.length -> h[id]? = some (.arr 2 els g false) -> rows.length <= els.length -> RowsE (els.take rows.length) rows ->
  s.length = 24 -> s.getD 3 .undef = uo -> s.getD 8 .undef = uo -> s.getD 9 .undef = vi .i64 rows.length -> s.getD 10 .undef = vi .i64 i ->
  (∀ s' h' els', s'.length = 24 -> s'.getD 3 .undef = uo -> h'[id]? = some (.arr 2 els' g false) -> rows.length <= els'.length -> RowsE (els'.take rows.length) rows -> Q (.exit 0) ⟨s', h'⟩) -> X F (.loop f42_1) ⟨s, h⟩ Q := by
 intro r
 induction r with
 | zero =>
  intro i els s h Q hi hb hfl hR hs e3 e8 e9 e10 hQ
  have c : ¬ ((i : Nat) : Int) < (rows.length : Int) := by omega
  rw [az, bg f42_1.eq_1]
  simp only [go_sem, seval, hs, e9, e10, c]
  rw [bg f42_0.eq_1]
  simp only [go_sem, seval, hs]
  grind
 | succ r ih =>
  intro i els s h Q hi hb hfl hR hs e3 e8 e9 e10 hQ
  have c : ((i : Nat) : Int) < (rows.length : Int) := by omega
  obtain ⟨e, kv, a1, a2, cc, rfl, a3⟩ := hR.get (i := i) (by omega)
  rw [List.getElem?_take_of_lt (by omega)] at a1
  subst huo
  have ia : ∀ {g' : ae}, g'[id]? = some (.arr 2 els g false) -> iaO g' 2 (.own id g 0 rows.length false) (vi .i64 (i : Int)) = some (.eptr id g i 0, g') := fun {g'} hg => by
   rw [zi (by omega) hg (by omega)]; simp
  have ld2 : ldO h true 2 (.eptr id g i 0) = some (.agg [txt kv.1, .cv cc], h) := by
   simp [ldO, ah, mf, hb, a1, dq]
  have hb2 : (h ++ [VO.box [txt kv.1, .cv cc] false])[id]? = some (.arr 2 els g false) := (HExt.push h _).get hb
  have q5 : (h ++ [VO.box [txt kv.1, .cv cc] false])[h.length]? = some (.box [txt kv.1, .cv cc] false) := bu
  have ld5 : ldO (h ++ [VO.box [txt kv.1, .cv cc] false]) false 1 (.ptr h.length 1) = some (.cv cc, _) := bc q5 rfl
  obtain ⟨v5, g5, n5, w5, r5, S5⟩ := Cq a3 (hv kv (List.mem_of_getElem? a2))
  obtain ⟨c5, rfl⟩ : ∃ c5, w5 = .cv c5 := by rcases S5 with ⟨rfl, _⟩ | ⟨ex, rfl⟩ <;> exact ⟨_, rfl⟩
  have clc : ∀ g' : ae, cf g' [.cv cc] = some ([.cv cc], g') := fun g' => rfl
  have st5 := al8 (off := 1) (c := c5) hb2 a1 (by grind)
  have hwr : IntKind.i64.wrap ((i : Int) + 1) = ((i + 1 : Nat) : Int) := by rw [IntWalk.i64_in _ (by omega)]; omega
  have fd : fdO 1 (.eptr id g i 0) = some (.eptr id g i 1) := rfl
  rw [az, bg f42_1.eq_1]
  simp only [go_sem, seval, hs, e9, e10, c]
  rw [bg f42_0.eq_1]
  simp only [go_sem, seval, hs, e8, e10, ia hb, ld2]
  simp only [go_sem, seval, hs, e3, e8, e10, ld5]
  refine ap (by simp only [List.map, go_sem, seval, hs]; exact clc _) n5 r5 ?_
  simp only [go_sem, seval, hs, ia hb2, fd, st5, e10, hwr]
  refine ih (i + 1) _ _ _ Q (by omega) (List.getElem?_set_self (eu hb2)) (by grind) (by rw [List.take_set]; exact hR.setV (k := kv.1) (v := kv.2) a2 S5) (by simp only [ai, hs]) (by simp only [go_sem, seval, hs, e3]) (by simp only [go_sem, seval, hs, e8]) (by simp only [go_sem, seval, hs, e9]) (by simp only [go_sem, seval, hs]) hQ
theorem Py {rows : List KV} {els : List (List CV)} {u : VV} (hu : SlV 2 els u) (hR : RowsE els rows) (hl : rows.length ≤ 1000000) (hv : ∀ r ∈ rows, r.2.length ≤ 1000000000) : Gi F 42 [u] fun w => ∃ els', SlV 2 els' w ∧ RowsE els' rows := by
  have hel := hR.len
  obtain ⟨v6, g6, n6, B6⟩ := Eb (h := []) hu.vf (by omega)
  rcases B6.v with ⟨e6, rfl⟩ | ⟨e6, rfl⟩ | ⟨id, gg, full, _, rfl, a2, a3, a4⟩
  · have hr : rows.length = 0 := by grind
    have : Ret F 42 [u] [] fun v g => v = cq := by
      refine ba (fn := f42) rfl ?_
      simp only [f42]
      generalize hs0 : ([u] ++ List.replicate _ VV.undef : List VV) = s
      have hs : s.length = 24 := by grind
      have h0 : s.getD 0 .undef = u := by grind
      clear hs0
      have c : ¬ ((0 : Int) < 0) := by decide
      simp only [go_sem, seval, hs, h0]
      refine ao (by simp only [List.map, go_sem, seval, hs, h0]; exact n6) ?_
      simp only [go_sem, seval, hs]
      rw [az, bg f42_1.eq_1]
      simp only [go_sem, seval, hs]
      rw [bg f42_0.eq_1]
      simp only [go_sem, seval, hs]
      all_goals trivial
    obtain ⟨v, g, n1, rfl⟩ := this
    exact ⟨_, g, n1, _, rfl, els, .inl ⟨rfl, e6⟩, hR⟩
  · have hr : rows.length = 0 := by grind
    have : Ret F 42 [u] [] fun v g => v = .cv (.sl 2 [] true) := by
      refine ba (fn := f42) rfl ?_
      simp only [f42]
      generalize hs0 : ([u] ++ List.replicate _ VV.undef : List VV) = s
      have hs : s.length = 24 := by grind
      have h0 : s.getD 0 .undef = u := by grind
      clear hs0
      simp only [go_sem, seval, hs, h0]
      refine ao (by simp only [List.map, go_sem, seval, hs, h0]; exact n6) ?_
      have hln : lnO false (.cv (.sl 2 [] true)) = some (vi .i64 0) := rfl
      simp only [go_sem, seval, hs, hln]
      rw [az, bg f42_1.eq_1]
      simp only [go_sem, seval, hs]
      rw [bg f42_0.eq_1]
      simp only [go_sem, seval, hs]
      all_goals trivial
    obtain ⟨v, g, n1, rfl⟩ := this
    exact ⟨_, g, n1, _, rfl, els, .inr ⟨true, by rw [e6]⟩, hR⟩
  · have : Ret F 42 [u] [] fun v g => v = .own id gg 0 rows.length false ∧ ∃ els', g[id]? = some (.arr 2 els' gg false) ∧ rows.length ≤ els'.length ∧ RowsE (els'.take rows.length) rows := by
      rw [hel] at a3 a4 n6
      have hln : lnO false (.own id gg 0 rows.length false) = some (vi .i64 rows.length) := rfl
      refine ba (fn := f42) rfl ?_
      simp only [f42]
      generalize hs0 : ([u] ++ List.replicate _ VV.undef : List VV) = s
      have hs : s.length = 24 := by grind
      have h0 : s.getD 0 .undef = u := by grind
      clear hs0
      simp only [go_sem, seval, hs, h0]
      refine ao (by simp only [List.map, go_sem, seval, hs, h0]; exact n6) ?_
      simp only [go_sem, Nat.reduceLT, Nat.reduceEqDiff, reduceCtorEq, Int.reduceLT, Int.reduceEq, hs, hln]
      refine f42_loop hl hv rfl rows.length 0 full _ _ _ (by omega) a2 a3 (by grind) (by grind) (by grind) (by grind) (by grind) (by grind) (fun s' h' els' hs' k3 k4 k5 k6 => ?_)
      simp only [go_sem, seval, hs', k3]
      grind
    obtain ⟨v, g, n1, rfl, els', k4, k5, k6⟩ := this
    refine ⟨_, g, n1, .cv (.sl 2 (els'.take rows.length) false), ?_, _, .inr ⟨false, rfl⟩, k6⟩
    have : ie g (.own id gg 0 rows.length false) = some (.cv (.sl 2 (els'.take rows.length) false), g.set id (.arr 2 els' gg true)) := by
      simp only [ie, Go.Vm.clos, k4, Nat.zero_add, k5, and_self, if_true, List.drop_zero]
    simp only [au, this, Option.map]
theorem za {h : ae} {q p : Nat} {f l : Option Nat} {z : S} (hS : StoreAt h q p f l z) (hl : z.rows.length <= 1000000) (hv : ∀ r ∈ z.rows, r.2.length <= 1000000000) : ∃ w els, call F 16 [.ptr q 0] h = some (.ret w, h) /\ SlV 2 els w /\ RowsE els z.rows := by
 obtain ⟨u, els, hb, hU, hR⟩ := hS.box
 obtain ⟨v4, g4, n4, w4, y4, els4, S4, R4⟩ := Py hU hR hl hv
 have clu : cf h [u] = some ([u], h) := by rcases hU with ⟨rfl, _⟩ | ⟨ex, rfl⟩ <;> rfl
 have l1 : ldO h false 1 (.ptr q 1) = some (u, h) := bc hb rfl
 have : Ret F 16 [.ptr q 0] h fun v g => v = w4 /\ g = h := by
  refine ba (fn := f16) rfl ?_
  simp only [f16]
  generalize hs0 : ([.ptr q 0] ++ List.replicate _ VV.undef : List VV) = s
  have hs : s.length = 10 := by grind
  have h0 : s.getD 0 .undef = .ptr q 0 := by grind
  clear hs0
  simp only [go_sem, seval, hs, h0]
  rw [bg f16_0.eq_1]
  simp only [go_sem, seval, hs, h0, l1]
  refine ap (h1 := h) (by simp only [List.map, go_sem, seval, hs]; exact clu) n4 y4 ?_
  simp only [go_sem, seval, hs]
  grind
 obtain ⟨v, g, e, rfl, rfl⟩ := this
 grind
theorem Ns {h : ae} {q p : Nat} {f l : Option Nat} {z : S} (hS : StoreAt h q p f l z) : call F 21 [.ptr q 0] h = some (.ret (vi .i64 z.used), h) := by
 obtain ⟨u, els, hb, hU, hR⟩ := hS.box
 have l5 : ldO h false 1 (.ptr q 5) = some (vi .i64 z.used, h) := bc hb rfl
 have : Ret F 21 [.ptr q 0] h fun v g => v = vi .i64 z.used /\ g = h := by
  refine ba (fn := f21) rfl ?_
  simp only [f21]
  generalize hs0 : ([.ptr q 0] ++ List.replicate _ VV.undef : List VV) = s
  have hs : s.length = 9 := by grind
  have h0 : s.getD 0 .undef = .ptr q 0 := by grind
  clear hs0
  simp only [go_sem, seval, hs, h0]
  rw [bg f21_0.eq_1]
  simp only [go_sem, seval, hs, h0, l5]
  grind
 obtain ⟨v, g, e, rfl, rfl⟩ := this
 exact e
theorem vu {h : ae} {q p : Nat} {f l : Option Nat} {z : S} (hS : StoreAt h q p f l z) : call F 20 [.ptr q 0] h = some (.ret (vi .i64 z.e), h) := by
 obtain ⟨u, els, hb, hU, hR⟩ := hS.box
 have l2 : ldO h false 1 (.ptr q 2) = some (vi .i64 z.e, h) := bc hb rfl
 have : Ret F 20 [.ptr q 0] h fun v g => v = vi .i64 z.e /\ g = h := by
  refine ba (fn := f20) rfl ?_
  simp only [f20]
  generalize hs0 : ([.ptr q 0] ++ List.replicate _ VV.undef : List VV) = s
  have hs : s.length = 10 := by grind
  have h0 : s.getD 0 .undef = .ptr q 0 := by grind
  clear hs0
  simp only [go_sem, seval, hs, h0]
  rw [bg f20_0.eq_1]
  simp only [go_sem, seval, hs, h0, l2]
  grind
 obtain ⟨v, g, e, rfl, rfl⟩ := this
 exact e
open Go Go.Vm
theorem ab3 {n : Nat} {z : S} {c : List Ch} (hM : Mem n z) (hn : c ≠ []) (hl : c.any lng = false) (he : z.e < 1073741823) (hfr : z.fr <= 1073741824) (hroom : ∃ p, en n (de z.rows c) = some p) (hp : (pcs 49 (gb c)).length <= 200) (hj : (pcs 49 (gb c)).length <= jn n) : (bo z c).2 = 0 := by
 obtain ⟨pA, hrm⟩ := hroom
 obtain ⟨pg0, hr0⟩ := hM.room
 have hps : ∃ ps, dl z.e z.fr c = some ps /\ ps.length = (pcs 49 (gb c)).length := by
  have h1 := oi.2 (show z.e <= 1073741824 by omega)
  have h2 := oi.2 hfr
  unfold dl
  generalize jg (z.e : Int) = x1 at h1
  generalize jg (z.fr : Int) = x2 at h2
  subst h1 h2
  exact ⟨_, if_pos ⟨rfl, rfl, hp⟩, jm _ _⟩
 obtain ⟨ps, hpf, hpl⟩ := hps
 obtain ⟨ps', hp2, _⟩ := wx hpf (e' := z.e + 1) (by omega)
 unfold bo
 rw [if_neg hn, if_neg (by rw [hl]; decide), hM.dn, hrm, hpf]
 dsimp only
 rw [if_neg (by show ¬ jn n < ps.length; omega)]
 by_cases c3 : (bi n).1 < z.used + ps.length
 ·rw [if_pos c3, hr0, hp2]
 ·rw [if_neg c3]
theorem adf : ∃ p, en 64 (de [] [([97], [], false)]) = some p := by
 have h1 : de [] [([97], [], false)] = [([97], [])] := by rfl
 have h2 : ∃ p, dm [([97], [])] = some [p] := ⟨_, by rfl⟩
 obtain ⟨p, h2⟩ := h2
 refine ⟨[p], ?_⟩
 rw [h1]
 unfold en
 rw [h2]
 rfl
abbrev kc : List Ch := [([97], [], false)]
theorem amt : ChsE [[.sc (.string ⟨#[97]⟩), .sc (.slice none 0 0), .sc (.bool false)]] kc := .cons ⟨_, rfl, .inl ⟨rfl, rfl⟩⟩ .nil
theorem Sy : (pcs 49 (gb kc)).length <= 16 := by
 have h := Mq (k := 49) (by omega) (gb kc).length (gb kc) (Nat.le_refl _)
 have : (gb kc).length <= 10 := by
  have : gb kc = num (kd (kc.length : Nat)) ++ (kc.map chB).flatten := rfl
  rw [this, List.length_append]
  have h1 : (num (kd (kc.length : Nat))).length <= 4 := by decide
  have h2 : ((kc.map chB).flatten).length <= 6 := by decide
  omega
 omega
theorem afl (n : Nat) (hn : n <= 4096) : (Vu n).OK := by
 refine ⟨fun b hb => ?_, fun o ho => (by cases ho), ?_, by simp [Vu], by show 0 < 1000000; omega, by show 0 < 1000000; omega⟩
 ·rw [List.eq_of_mem_replicate hb]; simp [z64]
 ·show (List.replicate n z64).length <= 4096; grind
theorem Nu (n : Nat) (hn : n <= 4096) : (Vu n).Lim 700000 := ⟨afl n hn, by show 0 + 700000 < 800000; omega, by show 0 + 700000 < 800000; omega, by show 0 + 700000 < 800000; omega⟩
theorem Mu (n : Nat) : (Vu n).firm.length = n := by show (List.replicate n z64).length = n; grind
theorem Wm {h h1 h2 : ae} {p : Nat} {l' : Option Nat} {d : D} (e : Ext h h1) (hp : h.length <= p) {fi : Nat} (hf : h.length <= fi) (m : Moved h1 h2 p (some fi) none l' d) : Ext h h2 :=
 ⟨Nat.le_trans e.len m.kept.len, fun j hj => by rw [m.kept.same j (Nat.lt_of_lt_of_le hj e.len) (by omega) (by grind) (by grind), e.same j hj]⟩
theorem RowsE.vals {n : Nat} {rows : List KV} {p : Sec} (h : en n rows = some p) : rows.length <= 5000 := by
 have := (gr h).1
 unfold dm at this
 grind
theorem Mz : ∀ (l : List KV) (n : Nat), mb n l = l.length -> wc l
 | [], n, _ => fun p hp => by cases hp
 | p :: l, n, h => by
  simp only [mb, List.length_cons] at h
  split at h
  ·omega
  ·rename_i c1
   split at h
   ·omega
   ·intro q hq
    rcases List.mem_cons.1 hq with rfl | hq
    ·omega
    ·exact Mz l (n + (1 + (ig p).length)) (by omega) q hq
theorem Te {n : Nat} {rows : List KV} {p : Sec} (h : en n rows = some p) : wc rows := by
 obtain ⟨up, _, _, _, e4⟩ := nd (gr h).1
 intro r hr
 rw [<- e4] at hr
 obtain ⟨g, hg, hr⟩ := List.mem_flatten.1 hr
 exact Mz g 0 (Mh rows g hg) r hr
structure New (h : ae) (n k : Nat) (g : ae) (q p : Nat) (f : Nat) (l' : Option Nat) (z : S) : Prop where
 ext : Ext h g
 hq : h.length <= q
 hp : h.length <= p
 hf : h.length <= f
 hl : ∀ i, l' = some i -> h.length <= i
 st : StoreAt g q p (some f) l' z
 rw_ : z.rows = []
 e2 : z.e = 2
 us : z.used = 0
 fr : z.fr = 0
 mem : Mem n z
 run : Run n z
 nf : z.d.fused = false
 lim : z.d.Lim k
theorem Ur (h : ae) : ∃ g, call F 12 [] h = some (.ret (vb true), g) /\ Ext h g := by
 obtain ⟨h1, n1, D1, l1, k1⟩ := Uq 64 (by omega) h
 have e1 : Ext h h1 := ⟨l1, k1⟩
 obtain ⟨v2, h2, n2, rfl, lA, dA, MA, f2, L2, V2, B2⟩ := Dh D1 rfl rfl (by rw [Mu]; omega) (k := 690000) ((Nu 64 (by omega)).le (by omega))
 rw [Mu] at V2
 obtain ⟨v3, h3, n3, q, lB, z, rfl, hq, MB, SB, OB⟩ := Ol MA.dev L2.loose V2.rc (by omega) (k := 680000) (B2.le (by omega))
 have hR := OB.run (sb (OB.nf f2))
 have hrw : z.rows = [] := OB.rw_
 have hE : z.e = 2 := OB.ep
 have hU := OB.us
 have hF := OB.fr
 have MAB := MA.trans MB
 obtain ⟨w4, els4, n4, S4, R4⟩ := za SB (by grind) (by grind)
 rw [hrw] at R4
 have el4 : els4.length = 0 := R4.len
 have hP : PreC z kc := ⟨OB.lim.ok, by grind, by simp, by have := Sy; have := Ab (k := 49) (by omega) _ (gb kc) (Nat.le_refl _); have e : (ma 49 (gb kc).length (gb kc)).length = (pcs 49 (gb kc)).length := rfl; omega, fun x hx => by grind⟩
 obtain ⟨pg0, hr0⟩ := OB.mem.room
 have hdn := OB.mem.dn
 obtain ⟨v5, h5, n5, rfl, lC, MC⟩ := Df SB (uc := .cv (.sl 3 [[.sc (.string ⟨#[97]⟩), .sc (.slice none 0 0), .sc (.bool false)]] true)) (.inr ⟨true, rfl⟩) amt hP (by rw [hdn]; exact hr0) OB.mem.a1 (by omega) (by omega) (by omega) (OB.lim.le (by omega))
 have ha := ab3 (c := kc) OB.mem (by simp) rfl (by omega) (by omega) (by rw [hrw]; exact adf) (by have := Sy; omega) (by have := Sy; show _ <= 16; omega)
 have hy := (wv (c := kc) OB.mem (by omega) (by simp) (fun x hx _ => by grind)).yes ha
 rw [ha] at n5
 have n5 : call F 14 [.ptr q 0, .cv (.sl 3 [[.sc (.string ⟨#[97]⟩), .sc (.slice none 0 0), .sc (.bool false)]] true)] h3 = some (.ret (vi .u16 0), h5) := n5
 have hk1 : de [] kc = [([97], [])] := by rfl
 rw [hrw, hk1] at hy
 obtain ⟨w6, els6, n6, S6, R6⟩ := za MC.st (by rw [hy]; simp) (by grind)
 rw [hy] at R6
 have el6 : els6.length = 1 := R6.len
 have nU := vu SB
 rw [hE] at nU
 obtain ⟨v30, g30, m30, w30, y30, rfl⟩ := ue (n := 64) (by omega) (by omega)
 have p64 : bi (64 : Int).toNat = (16, 5) := by rfl
 rw [p64] at y30
 have y30 : au g30 v30 = some (.tup [vi .i64 16, vi .i64 5]) := y30
 have nU : call F 20 [.ptr q 0] h3 = some (.ret (vi .i64 2), h3) := nU
 have s4 := S4.ln
 rw [el4] at s4
 have s4 : lnO false w4 = some (vi .i64 0) := s4
 have s6 := S6.ln
 rw [el6] at s6
 have s6 : lnO false w6 = some (vi .i64 1) := s6
 suffices hx : Ret F 12 [] h fun v g => v = vb true /\ Ext h g by
  obtain ⟨v, g, a1, rfl, a2⟩ := hx
  grind
 have ext : Ext h h5 := by
  have k2 := MC.kept
  have x3 : Ext h h3 := Wm e1 (by omega) (by omega) MAB
  refine ⟨Nat.le_trans x3.len k2.len, fun j hj => ?_⟩
  have hq' : h.length <= q := Nat.le_trans e1.len (Nat.le_trans MA.kept.len hq)
  rw [k2.same j (Nat.lt_of_lt_of_le hj x3.len) (by omega) (by omega) (by grind) (fun e => ?_), x3.same j hj]
  rcases MAB.new j e with e' | e'
  ·cases e'
  omega
 refine ba (fn := f12) rfl ?_
 simp only [f12]
 generalize hs0 : ([] ++ List.replicate _ VV.undef : List VV) = s
 have hs : s.length = 57 := by grind
 clear hs0
 simp only [go_sem, seval, hs]
 refine ap (h1 := h) (by simp only [List.map, go_sem, seval, hs]; rfl) m30 y30 ?_
 simp only [go_sem, seval, hs]
 refine ao (by simp only [List.map, go_sem, seval, hs]; exact n1) ?_
 simp only [go_sem, seval, hs]
 rw [bg f12_0.eq_1]
 simp only [go_sem, seval, hs]
 refine ao (by simp only [List.map, go_sem, seval, hs]; exact n2) ?_
 simp only [go_sem, seval, hs]
 refine ao (by simp only [List.map, go_sem, seval, hs]; exact n3) ?_
 simp only [go_sem, seval, hs]
 refine ao (by simp only [List.map, go_sem, seval, hs]; exact nU) ?_
 simp only [go_sem, seval, hs]
 refine ao (by simp only [List.map, go_sem, seval, hs]; exact n4) ?_
 have bdk : bdO [VV.cv (CV.sc (Value.string ⟨#[]⟩)), VV.cv (CV.sc (Value.slice none 0 0)), VV.cv (CV.sc (Value.bool false))] [(0, 1, VV.cv (CV.sc (Value.string ⟨#[97]⟩)))] = some (.agg [.cv (.sc (.string ⟨#[97]⟩)), cq, vb false]) := rfl
 have mkk : ∀ g : ae, mkO g 3 1 [.cv (.sc (.string ⟨#[]⟩)), .cv (.sc (.slice none 0 0)), .cv (.sc (.bool false))] [(0, 3, .agg [.cv (.sc (.string ⟨#[97]⟩)), cq, vb false])] = some (.cv (.sl 3 [[.sc (.string ⟨#[97]⟩), .sc (.slice none 0 0), .sc (.bool false)]] true), g) := fun g => rfl
 simp only [go_sem, seval, hs, s4, bdk, mkk]
 refine ao (by simp only [List.map, go_sem, seval, hs]; exact n5) ?_
 simp only [go_sem, seval, hs]
 refine ao (by simp only [List.map, go_sem, seval, hs]; exact n6) ?_
 simp only [go_sem, seval, hs, s6]
 grind
open Go Go.Vm
def sz (k : UInt8) : Nat := match k.toNat % 6 with
 | 0 => 64 | 1 => 65 | 2 => 80 | 3 => 100 | 4 => 128 | _ => 200
open Go Go.Vm
theorem agb {n : Nat} {z : S} {pg : Sec} (hr : en n z.rows = some pg) {k : Nat} (h : z.d.Lim (k + 4 * an n + 3)) : (ckF z pg).d.Lim k := by
 show (yg z.d pg (1 - z.a) (z.e + 1)).Lim k
 have h2 : pg.length <= an n := (gr hr).2
 exact zd (by rw [om hr]; exact h.le (by omega))
theorem Nq {z : S} {c : List Ch} {ps : Sec} {k : Nat} (h : z.d.Lim (k + ps.length + 1)) : (tw z c ps).d.Lim k := by
 show (pt z.d (2 + z.used) ps).flush.Lim k
 exact og (nj _ _ _ _ (h.le (by omega)))
def Bx (z : S) (c : List Ch) (j : Nat) (o1 o2 o3 o4 : Option Sec) : S × Nat := match o1, o2 with
  | some _, some ps => if j < ps.length then (z, 21) else
      if j < z.used + ps.length then
        match o3 with
        | some pg => match o4 with
          | some ps' => (tw (ckF z pg) c ps', 0)
          | none => (z, 21)
        | none => (z, 21)
      else (tw z c ps, 0)
  | _, _ => (z, 21)
theorem Gv {P : S × Nat -> Prop} {z : S} {c : List Ch} {j : Nat} {o1 o2 o3 o4 : Option Sec} (h21 : P (z, 21)) (hck : ∀ pg ps ps', o3 = some pg -> o2 = some ps -> o4 = some ps' -> ps.length <= j -> P (tw (ckF z pg) c ps', 0)) (hadd : ∀ ps, ps.length <= j -> P (tw z c ps, 0)) : P (Bx z c j o1 o2 o3 o4) := by
 unfold Bx
 grind
theorem Jb {z : S} {c : List Ch} (hn : c ≠ []) (hl : ¬ c.any lng = true) : bo z c = Bx z c (bi z.d.firm.length).1 (en z.d.firm.length (de z.rows c)) (dl z.e z.fr c) (en z.d.firm.length z.rows) (dl ((z.e + 1 : Nat) : Int) 0 c) := by
 unfold bo Bx
 rw [if_neg hn, if_neg hl]
 generalize dl ((z.e + 1 : Nat) : Int) 0 c = o4
 generalize dl z.e z.fr c = o2
 generalize en z.d.firm.length (de z.rows c) = o1
 generalize en z.d.firm.length z.rows = o3
 cases o1 <;> cases o2 <;> cases o3 <;> cases o4 <;> rfl
theorem Qb {e n e' : Nat} {c : List Ch} {ps ps' : Sec} (h : dl e n c = some ps) (h' : dl (e' : Int) 0 c = some ps') : ps'.length = ps.length := by
 rw [(pi h).1, (pi (n := 0) h').1, mi, mi]
theorem ve {P : S × Nat -> Prop} {z : S} {c : List Ch} (h0 : P (z, 0)) (h3 : P (z, 3)) (h21 : P (z, 21)) (hck : ∀ pg ps', en z.d.firm.length z.rows = some pg -> ps'.length <= (bi z.d.firm.length).1 -> P (tw (ckF z pg) c ps', 0)) (hadd : ∀ ps, ps.length <= (bi z.d.firm.length).1 -> P (tw z c ps, 0)) : P (bo z c) := by
 by_cases hn : c = []
 ·unfold bo; rw [if_pos hn]; exact h0
 by_cases hl : c.any lng = true
 ·unfold bo; rw [if_neg hn, if_pos hl]; exact h3
 rw [Jb hn hl]
 exact Gv h21 (fun pg ps ps' e1 e2 e3 e4 => hck pg ps' e1 (by rw [Qb e2 e3]; exact e4)) hadd
theorem Qg {n : Nat} {z : S} {c : List Ch} (hM : Mem n z) (hn : n <= 1000) {k : Nat} (h : z.d.Lim (k + 1000)) : (bo z c).1.d.Lim k := by
 obtain ⟨p1, p2⟩ := rj hM.lo
 have h0 : z.d.Lim k := h.le (by omega)
 refine ve (P := fun r => r.1.d.Lim k) h0 h0 h0 (fun pg ps' hr hps => ?_) (fun ps hps => ?_)
 ·rw [hM.dn] at hr hps
  have hps : ps'.length <= jn n := hps
  exact Nq (agb hr (h.le (by omega)))
 ·rw [hM.dn] at hps
  have hps : ps.length <= jn n := hps
  exact Nq (h.le (by omega))
theorem wt : Gi F 12 [] fun w => w = vb true := by
 obtain ⟨g, n1, _⟩ := Ur []
 exact ⟨_, g, n1, _, rfl, rfl⟩
structure RunU (n : Nat) (z : S) (m : Nat) : Prop where
 mem : Mem n z
 run : Run n z
 nf : z.d.fused = false
 e : z.e + m <= 900000
 lim : z.d.Lim (1000 * m + 200000)
 e1 : 1 <= z.e
 n1 : n <= 1000
theorem RunU.fr {n m : Nat} {z : S} (h : RunU n z m) : z.fr <= 2000 /\ z.used <= 2000 := by
 have h1 := h.mem.fr
 have h2 := h.mem.used
 have h3 : jn n <= 1024 := (iv h.mem.hi).1
 omega
theorem RunU.room {n m : Nat} {z : S} (h : RunU n z m) : z.rows.length <= 5000 /\ wc z.rows := by
 obtain ⟨p, hp⟩ := h.mem.room
 exact ⟨RowsE.vals hp, Te hp⟩
theorem Wb {z : S} {c : List Ch} : z.e <= (bo z c).1.e :=
 ve (P := fun r => z.e <= r.1.e) (Nat.le_refl _) (Nat.le_refl _) (Nat.le_refl _) (fun _ _ _ _ => Nat.le_succ _) (fun _ _ => Nat.le_refl _)
theorem RunU.commit {n m : Nat} {z : S} (h : RunU n z (m + 1)) {c : List Ch} (hc : c.length ≤ 5000) (hg : ∀ p ∈ c, p.2.2 = true → p.2.1 = []) : RunU n (bo z c).1 m := by
  have he := h.e
  have hC := wv h.mem (c := c) (by omega) hc hg
  have he2 := hC.e
  have he3 := Wb (z := z) (c := c)
  refine ⟨hC.mem, ?_, ?_, by omega, Qg h.mem h.n1 (h.lim.le (by omega)), by have := h.e1; omega, h.n1⟩
  · by_cases h0 : (bo z c).2 = 0 ∧ c ≠ []
    · obtain ⟨_, _, r3, r4⟩ := hC.run h.run h0.1 h0.2
      exact r3 (sb (r4 h.nf))
    · have : (bo z c).1 = z := hC.not (by
        grind)
      rw [this]; exact h.run
  · by_cases h0 : (bo z c).2 = 0 ∧ c ≠ []
    · obtain ⟨_, _, r3, r4⟩ := hC.run h.run h0.1 h0.2
      exact r4 h.nf
    · have : (bo z c).1 = z := hC.not (by
        grind)
      rw [this]; exact h.nf
theorem Ll {h : ae} {q p : Nat} {f l : Option Nat} {z : S} {n m : Nat} (hS : StoreAt h q p f l z) (hU : RunU n z (m + 1)) {ec : List (List CV)} {c : List Ch} {uc : VV} (hu : SlV 3 ec uc) (hC : ChsE ec c) (hcl : c.length <= 5000) (hcb : (gb c).length <= 1000000) (hcv : ∀ x ∈ c, x.2.1.length <= 1000000000) (hg : ∀ p ∈ c, p.2.2 = true -> p.2.1 = []) :
  ∃ g l', call F 14 [.ptr q 0, uc] h = some (.ret (vi .u16 (bo z c).2), g) /\ MovedS h g q p f l l' (bo z c).1 /\ RunU n (bo z c).1 m := by
 obtain ⟨pg0, hr0⟩ := hU.mem.room
 have hr1 := hU.room
 have hfr := hU.fr
 have he := hU.e
 have hdn := hU.mem.dn
 obtain ⟨v, g, n1, rfl, l', M⟩ := Df hS hu hC ⟨hU.lim.ok, by omega, hcl, hcb, hcv⟩ (by rw [hdn]; exact hr0) hU.mem.a1 (by omega) (by omega) hfr.2 (hU.lim.le (by omega))
 exact ⟨g, l', n1, M, hU.commit hcl hg⟩
open Go Go.Vm
theorem OpenP.runU {n e k m : Nat} {rows : List KV} {d : D} {z : S} (h : OpenP n e rows d k z) (hf : d.fused = false) (hn : n <= 1000) (he : e + 1 + m <= 900000) (hk : 1000 * m + 200000 <= k) : RunU n z m :=
 ⟨h.mem, h.run (sb (h.nf hf)), h.nf hf, by rw [h.ep]; exact he, h.lim.le hk, by rw [h.ep]; omega, hn⟩
theorem wc.v {l : List KV} (h : wc l) : ∀ r ∈ l, r.2.length <= 1000000000 := fun r hr => by have := (h r hr).2; omega
open Go Go.Vm
open Go Go.Vm
open Go Go.Vm
open Go.Proofs.Ytbhoknaipfnlnaa
section
variable {H : Type} {d0 d1 d2 d3 : DataW H} {u0 u1 u2 u3 : VV}
end
open Go Go.Vm
theorem ajz {k v : List UInt8} {t : Bool} (hk : k.length <= 30) (hv : v.length <= 150) (ht : t = true -> v = []) : [(k, v, t)].length <= 5000 /\ (gb [(k, v, t)]).length <= 1000000 /\ (∀ x ∈ [(k, v, t)], x.2.1.length <= 1000000000) /\ ∀ p ∈ [(k, v, t)], p.2.2 = true -> p.2.1 = [] := by
 have hf : px [(k, v, t)] := fun p hp => by rw [List.mem_singleton.1 hp]; exact ⟨hk, hv, ht⟩
 have h3 := Ov _ hf
 simp only [List.length_singleton] at h3
 exact ⟨by simp, by omega, fun x hx => by have := (hf x hx).2.1; omega, fun p hp => (hf p hp).2.2⟩
theorem amg {k v : List UInt8} {t : Bool} {c : CV} (hc : SlV 1 (eB v) (.cv c)) : ChsE [[.sc (.string ⟨k.toArray⟩), c, .sc (.bool t)]] [(k, v, t)] := .cons ⟨_, rfl, hc⟩ .nil
def kb (x : UInt8) : UInt8 := UInt8.ofNat (97 + x.toNat % 16)
theorem amw (x : UInt8) : IntKind.u8.wrap (97 + (x.toNat : Int).tmod 16) = ((kb x).toNat : Int) := by
 have h1 : (x.toNat : Int).tmod 16 = ((x.toNat % 16 : Nat) : Int) := rfl
 rw [h1, IntWalk.u8_in _ (by omega)]
 unfold kb
 rw [jc (by omega)]; omega
theorem mk3 {a b c d e f : CV} (g : ae) : mkO g 3 1 [.cv a, .cv b, .cv c] [(0, 3, .agg [.cv d, .cv e, .cv f])] = some (.cv (.sl 3 [[d, e, f]] true), g) := rfl
theorem bdc {k : List UInt8} {v : CV} : bdO [VV.cv (.sc (.string ⟨#[]⟩)), .cv (.sc (.slice none 0 0)), .cv (.sc (.bool false))] [(0, 1, txt k), (1, 1, .cv v)] = some (.agg [.cv (.sc (.string ⟨k.toArray⟩)), .cv v, .cv (.sc (.bool false))]) := rfl
theorem q16 : (16 : Int) ≠ 0 := by decide
open Go Go.Vm
def amv (rows : List KV) (key : List UInt8) (w : VV) (is : Bool) : Prop :=
 (is = false /\ w = cq /\ ∀ r ∈ rows, r.1 ≠ key) \/ (is = true /\ ∃ val, (key, val) ∈ rows /\ SlV 1 (eB val) w)
open Go Go.Vm
theorem Rq {l : List KV} {x : Ch} (hx : x.2.2 = true) : ∀ r ∈ lc l x, r.1 ≠ x.1 := by
 intro r hr
 unfold lc at hr
 rw [if_pos hx] at hr
 have := (List.mem_filter.1 hr).2
 simpa using this
theorem Us {l : List KV} {x : Ch} (hx : x.2.2 = false) : (x.1, x.2.1) ∈ lc l x /\ ∀ r ∈ lc l x, r.1 = x.1 -> r.2 = x.2.1 := by
 unfold lc
 rw [if_neg (by rw [hx]; decide)]
 refine ⟨by simp, fun r hr hk => ?_⟩
 have no : r ∉ gc l x.1 := fun h => by
  have := (List.mem_filter.1 h).2
  simp [hk] at this
 rcases List.mem_append.1 hr with h | h
 ·exact absurd (List.mem_of_mem_take h) no
 ·rcases List.mem_cons.1 h with h | h
  ·rw [h]
  ·exact absurd (List.mem_of_mem_drop h) no
theorem Nv {l : List KV} {x : Ch} {w : VV} {is : Bool} (h : amv (lc l x) x.1 w is) : is = !x.2.2 /\ (is = true -> SlV 1 (eB x.2.1) w) := by
 cases hx : x.2.2 with
 | true =>
  rcases h with ⟨h1, _, _⟩ | ⟨_, v, h2, _⟩
  ·exact ⟨h1, fun e => by rw [h1] at e; cases e⟩
  ·exact absurd rfl (Rq hx _ h2)
 | false =>
  obtain ⟨k1, k2⟩ := Us (l := l) hx
  rcases h with ⟨_, _, h3⟩ | ⟨h1, v, h2, h3⟩
  ·exact absurd rfl (h3 _ k1)
  ·have : v = x.2.1 := k2 _ h2 rfl
   rw [<- this]
   exact ⟨h1, fun _ => h3⟩
open Go Go.Vm
theorem Sr : ∀ (f n : Nat) (pg : List (List UInt8)) (l : List KV) (res : List (List UInt8)), l ≠ [] -> yc l -> In f n pg l = some res -> res.length <= pg.length + l.length
 | 0, _, _, _, _, _, _, h => by cases h
 | f + 1, n, pg, l, res, hl, hs, h => by
  have hpos := List.length_pos_iff.2 hl
  have hg : 5 * (grp l).length <= l.length + 4 := qt _ _ hl hs
  rw [In] at h
  split at h
  ·split at h
   ·rename_i h2
    cases h
    rw [List.length_append, List.length_map, h2]; omega
   ·rename_i h2
    have hp := Mj l
    have := Sr f (n + 1) _ _ res (fun e => by have := congrArg List.length e; rw [gf, List.length_nil] at this; omega) (ur hs.fits) h
    rw [List.length_append, List.length_map, gf] at this
    omega
  ·cases h
theorem Vn {l : List KV} {res : List (List UInt8)} (hf : wc l) (h : dm l = some res) : res.length <= 2 * l.length + 2 := by
 unfold dm at h
 split at h
 ·have hg := Ew l
  rw [In] at h
  split at h
  ·split at h
   ·rename_i h2
    cases h
    rw [List.length_append, List.length_map, h2, List.length_nil]; omega
   ·have hp := Mj l
    have := Sr 4 1 _ _ res (fun e => by have := congrArg List.length e; rw [gf, List.length_nil] at this; omega) (ur hf) h
    rw [List.length_append, List.length_map, gf, List.length_nil] at this
    omega
  ·cases h
 ·cases h
theorem abc {n : Nat} {l : List KV} (hs : Srt l) (hf : wc l) (hl : l.length <= 16) (hn : 34 <= an n) : ∃ p, en n l = some p := by
 obtain ⟨p, hp⟩ := Pt hs (by omega) hf
 have := Vn hf hp
 refine ⟨p, ?_⟩
 unfold en
 rw [hp]
 exact if_pos (by show p.length <= an n; omega)
structure K16 (l : List KV) : Prop where
 s : Srt l
 f : wc l
 k : ∀ r ∈ l, ∃ x, r.1 = [kb x]
theorem ahr (x : UInt8) : 97 <= (kb x).toNat /\ (kb x).toNat < 113 := by unfold kb; rw [jc (by omega)]; omega
theorem aev {x y : UInt8} (h : Op.bytesLess [kb x] [kb y] = true) : (kb x).toNat < (kb y).toNat := by
 generalize kb x = a at h |-
 generalize kb y = b at h |-
 simp [Op.bytesLess] at h
 exact UInt8.lt_iff_toNat_lt.1 h
theorem K16.len {l : List KV} (h : K16 l) : l.length <= 16 := by
 have key : ∀ (l : List KV) (m : Nat), K16 l -> (∀ r ∈ l, ∀ x, r.1 = [kb x] -> m <= (kb x).toNat) -> m <= 113 -> l.length + m <= 113 := by
  intro l
  induction l with
  | nil => intro m _ _ hm; simp; exact hm
  | cons r l ih =>
   intro m hK hm _
   obtain ⟨x, hx⟩ := hK.k r List.mem_cons_self
   have h1 := hm r List.mem_cons_self x hx
   obtain ⟨h2, h3⟩ := ahr x
   obtain ⟨s1, s2⟩ := List.pairwise_cons.1 hK.s
   have := ih ((kb x).toNat + 1) ⟨s2, fun q hq => hK.f q (List.mem_cons_of_mem _ hq), fun q hq => hK.k q (List.mem_cons_of_mem _ hq)⟩ (fun q hq y hy => by
    have := s1 q hq
    rw [hx, hy] at this
    exact aev this) (by omega)
   simp only [List.length_cons]; omega
 have := key l 97 h (fun r _ x _ => (ahr x).1) (by omega)
 omega
theorem K16.step {l : List KV} (h : K16 l) {b : UInt8} {v : List UInt8} {t : Bool} (hv : v.length <= 150) : K16 (lc l ([kb b], v, t)) := by
 have mem : ∀ r ∈ lc l ([kb b], v, t), r ∈ l \/ r = ([kb b], v) := by
  intro r hr
  unfold lc at hr
  split at hr
  ·exact .inl (List.mem_filter.1 hr).1
  ·rcases List.mem_append.1 hr with h | h
   ·exact .inl (List.mem_filter.1 (List.mem_of_mem_take h)).1
   ·rcases List.mem_cons.1 h with h | h
    ·exact .inr h
    ·exact .inl (List.mem_filter.1 (List.mem_of_mem_drop h)).1
 refine ⟨Sf h.s _, fun r hr => ?_, fun r hr => ?_⟩
 ·rcases mem r hr with h1 | rfl
  ·exact h.f r h1
  ·exact ⟨by simp, hv⟩
 ·rcases mem r hr with h1 | rfl
  ·exact h.k r h1
  ·exact ⟨b, rfl⟩
theorem K16.nil : K16 [] := ⟨List.Pairwise.nil, fun r hr => (by cases hr), fun r hr => (by cases hr)⟩
theorem K16.steps : ∀ {c : List Ch} {l : List KV}, K16 l -> (∀ x ∈ c, x.2.1.length <= 150 /\ ∃ b, x.1 = [kb b]) -> K16 (de l c)
 | [], _, h, _ => h
 | x :: c, l, h, hc => by
  obtain ⟨h1, b, h2⟩ := hc x List.mem_cons_self
  obtain ⟨k, v, t⟩ := x
  have h2 : k = [kb b] := h2
  subst h2
  exact K16.steps (l := lc l ([kb b], v, t)) (c := c) (h.step h1) fun y hy => hc y (List.mem_cons_of_mem _ hy)
theorem K16.room {n : Nat} {l : List KV} (h : K16 l) (hn : 34 <= an n) : ∃ p, en n l = some p := abc h.s h.f h.len hn
theorem ajc {n : Nat} {z : S} {c : List Ch} (hM : Mem n z) (hK : K16 z.rows) (hn : c ≠ []) (hc : ∀ x ∈ c, x.2.1.length <= 150 /\ ∃ b, x.1 = [kb b]) (he : z.e < 1073741823) (hfr : z.fr <= 1073741824) (ha : 34 <= an n) (hp : (pcs 49 (gb c)).length <= 200) (hj : (pcs 49 (gb c)).length <= jn n) : (bo z c).2 = 0 := by
 refine ab3 hM hn ?_ he hfr ((hK.steps hc).room ha) hp hj
 cases hl : c.any lng with
 | false => rfl
 | true =>
  obtain ⟨x, hx, h⟩ := List.any_eq_true.1 hl
  obtain ⟨h1, b, h2⟩ := hc x hx
  unfold lng at h
  rw [h2] at h
  simp at h
  omega
theorem adw {c : List Ch} (hf : px c) : 49 * (pcs 49 (gb c)).length <= 8 + 200 * c.length + 48 := by
 have h := Mq (k := 49) (by omega) (gb c).length (gb c) (Nat.le_refl _)
 have h2 := Ov c hf
 rw [h]; omega
open Go Go.Vm
theorem Cx {e n : Int} {c : List Ch} {ps : Sec} (h : dl e n c = some ps) : ps.length = (pcs 49 (gb c)).length := by
 unfold dl at h
 generalize jg e = x1 at h
 generalize jg n = x2 at h
 by_cases hx : x1 = true /\ x2 = true /\ (pcs 49 (gb c)).length <= 200
 ·rw [if_pos hx] at h
  rw [<- Option.some.inj h, jm]
 ·rw [if_neg hx] at h; cases h
theorem Vq {e n : Nat} {c : List Ch} (he : e <= 1073741824) (hn : n <= 1073741824) (hp : (pcs 49 (gb c)).length <= 200) : ∃ ps, dl e n c = some ps := by
 have h1 := oi.2 he
 have h2 := oi.2 hn
 unfold dl
 generalize jg (e : Int) = x1 at h1
 generalize jg (n : Int) = x2 at h2
 subst h1 h2
 exact ⟨_, if_pos ⟨rfl, rfl, hp⟩⟩
theorem Rs {z : S} {c : List Ch} (hn : c ≠ []) (h : (bo z c).2 = 0) (hl : ¬ c.any lng = true) (hu : z.used + (pcs 49 (gb c)).length <= (bi z.d.firm.length).1) : (bo z c).1.used = z.used + (pcs 49 (gb c)).length /\ (bo z c).1.e = z.e := by
 rw [Jb hn hl] at h |-
 have hp := @Cx z.e z.fr c
 generalize dl ((z.e + 1 : Nat) : Int) 0 c = o4 at h |-
 generalize dl z.e z.fr c = o2 at h hp |-
 generalize en z.d.firm.length (de z.rows c) = o1 at h |-
 generalize en z.d.firm.length z.rows = o3 at h |-
 unfold Bx at h |-
 cases o1 with
 | none => cases h
 | some _ =>
  cases o2 with
  | none => cases h
  | some ps =>
   have hp := hp rfl
   dsimp only at h |-
   by_cases c2 : (bi z.d.firm.length).1 < ps.length
   ·rw [if_pos c2] at h; cases h
   ·rw [if_neg c2, if_neg (by omega)]
    exact ⟨by show z.used + ps.length = _; omega, rfl⟩
theorem aeg {F : Nat -> Option FnIR} {d : Option Nat} {q : List (Op1 × Cl)} {s : List VV} {h : ae} {Q : Pst} {c : Cl} {x y : Opd} {k k' : IntKind} {a : Nat} (hx : ad s x = vi k a) (hy : ad s y = vi k' a) (h1 : a <= 35184372088832)
  (hk : XD F q ⟨dg s d (.cv (.sl 1 (eB (List.replicate a 0)) true)), h⟩ Q) : XD F ((⟨none, d, .mks 1 1 [.sc (.int .u8 0)] x y false⟩, c) :: q) ⟨s, h⟩ Q := by
 rw [nk rfl]
 have : ah h (ad s) (.mks 1 1 [.sc (.int .u8 0)] x y false) = some (.cv (.sl 1 (eB (List.replicate a 0)) true), h) := by
  have hm : co = 35184372088832 := rfl
  have h3 : (a : Int) <= 35184372088832 := by omega
  rw [<- If]
  simp [ah, hx, hy, pm, hm, h3]
 rw [this, Ey]
 exact hk
abbrev ch1 (x : UInt8) : List Ch := [([kb x], List.replicate (x.toNat % 150) 0, false)]
theorem Yg (x : UInt8) : px (ch1 x) := fun p hp => by rw [List.mem_singleton.1 hp]; exact ⟨by simp, by simp; omega, fun h => by cases h⟩
theorem ahf : jn 400 = 100 /\ an 400 = 37 := ⟨rfl, rfl⟩
theorem f5_loop {b : List UInt8} {u : VV} (hb : SlV 1 (eB b) u) (hbl : b.length <= 30) {q p f : Nat} : ∀ (r i : Nat) (z : S) (l' : Option Nat) (s : List VV) (h : ae) (Q : Pst), i + r = b.length -> StoreAt h q p (some f) l' z -> RunU 400 z (r + 1) -> K16 z.rows -> z.e = 2 -> z.used <= 100 -> s.length = 116 -> s.getD 1 .undef = u -> s.getD 6 .undef = .ptr q 0 -> s.getD 8 .undef = vi .i64 z.used -> s.getD 9 .undef = vi .i64 i ->
  (∀ s' h' l'' z', s'.length = 116 -> s'.getD 6 .undef = .ptr q 0 -> StoreAt h' q p (some f) l'' z' -> RunU 400 z' 1 -> z'.e = 2 -> Q (.exit 0) ⟨s', h'⟩) -> (∀ s' h', s'.length = 116 -> s'.getD 4 .undef = vb true -> Q .ret ⟨s', h'⟩) -> X F (.loop f5_3) ⟨s, h⟩ Q := by
 obtain ⟨v12, g12, n12, w12, y12, rfl⟩ := wt
 intro r
 induction r with
 | zero =>
  intro i z l' s h Q hi hSt hU hK hz2 hus hs e1 e6 e8 e9 hQ hR
  have c : ¬ (i : Int) < (b.length : Int) := by omega
  rw [az, bg f5_3.eq_1]
  simp only [go_sem, seval, hs, e9, e1, hb.ln, ax, c]
  exact hQ _ h l' z (by simp only [ai, hs]) (by simp only [go_sem, seval, hs, e6]) hSt hU hz2
 | succ r ih =>
  intro i z l' s h Q hi hSt hU hK hz2 hus hs e1 e6 e8 e9 hQ hR
  have c : (i : Int) < (b.length : Int) := by omega
  obtain ⟨x, hx⟩ : ∃ x, b[i]? = some x := ⟨_, List.getElem?_eq_getElem (by omega)⟩
  have heb : (eB b)[i]? = some [.sc (.int .u8 x.toNat)] := by simp [eB, br, hx]
  have hia := hb.ia (h := h) (k := .i64) (j := (i : Int)) (by omega) heb
  have ldx : ldO h false 1 (.rptr [.sc (.int .u8 x.toNat)]) = some (vi .u8 x.toNat, h) := kk
  have hw : IntKind.i64.wrap ((i : Int) + 1) = ((i + 1 : Nat) : Int) := by rw [IntWalk.i64_in _ (by omega)]; omega
  have bx : bsO h (.cv (.sl 1 [[.sc (.int .u8 (kb x).toNat)]] true)) = some (txt [kb x]) := (show SlV 1 (eB [kb x]) (.cv (.sl 1 [[.sc (.int .u8 (kb x).toNat)]] true)) from .inr ⟨true, rfl⟩).bs
  have q150 : (150 : Int) ≠ 0 := by decide
  have em : (x.toNat : Int).tmod 150 = ((x.toNat % 150 : Nat) : Int) := rfl
  have wm : IntKind.i64.wrap ((x.toNat % 150 : Nat) : Int) = ((x.toNat % 150 : Nat) : Int) := IntWalk.i64_in _ (by omega)
  have hfit := Yg x
  have hpf := adw hfit
  simp only [List.length_singleton] at hpf
  have hE : ChsE [[.sc (.string ⟨[kb x].toArray⟩), .sl 1 (eB (List.replicate (x.toNat % 150) 0)) true, .sc (.bool false)]] (ch1 x) := amg (.inr ⟨true, rfl⟩)
  have hS3 : SlV 3 [[.sc (.string ⟨[kb x].toArray⟩), .sl 1 (eB (List.replicate (x.toNat % 150) 0)) true, .sc (.bool false)]] (.cv (.sl 3 [[.sc (.string ⟨[kb x].toArray⟩), .sl 1 (eB (List.replicate (x.toNat % 150) 0)) true, .sc (.bool false)]] true)) := .inr ⟨true, rfl⟩
  obtain ⟨k1, k2, k3, k4⟩ := ajz (k := [kb x]) (v := List.replicate (x.toNat % 150) 0) (t := false) (by simp) (by simp; omega) (by simp)
  obtain ⟨j1, j2⟩ := ahf
  have he := hU.e
  have hfr := hU.fr
  have hc0 := ajc (c := ch1 x) hU.mem hK (by simp) (fun y hy => by rw [List.mem_singleton.1 hy]; exact ⟨by simp; omega, x, rfl⟩) (by omega) (by omega) (by omega) (by omega) (by omega)
  obtain ⟨g, l2, n14, M2, hU'⟩ := Ll (m := r + 1) hSt hU hS3 hE k1 k2 k3 k4
  have hyes := (wv hU.mem (c := ch1 x) (by omega) k1 k4).yes hc0
  have hK' : K16 (bo z (ch1 x)).1.rows := by
   rw [hyes]
   exact hK.steps fun y hy => by rw [List.mem_singleton.1 hy]; exact ⟨by simp; omega, x, rfl⟩
  have hadd := fun hu => Rs (z := z) (c := ch1 x) (by simp) hc0 (by simp [lng]; omega) hu
  rw [hU.mem.dn] at hadd
  have hadd : z.used + (pcs 49 (gb (ch1 x))).length <= 100 -> _ := hadd
  rw [hc0] at n14
  have n14 : call F 14 [.ptr q 0, _] h = some (.ret (vi .u16 0), g) := n14
  have n20 := vu hSt
  rw [hz2] at n20
  have n20 : call F 20 [.ptr q 0] h = some (.ret (vi .i64 2), h) := n20
  obtain ⟨ps, hps⟩ := Vq (e := 2) (n := i) (c := ch1 x) (by omega) (by omega) (by omega)
  have hpl := Cx hps
  obtain ⟨v19, g19, n19, w19, y19, P19⟩ := Ba (epoch := ((2 : Nat) : Int)) (n := (i : Int)) hS3 hE k2 (by show 1 <= 1000000; omega)
  obtain ⟨xp, elsP, rfl, SP, EP⟩ := Av P19 hps
  have hel := EP.len
  have n19 : call F 19 [vi .i64 2, vi .i64 i, _] [] = some (.ret v19, g19) := n19
  generalize hL : (pcs 49 (gb (ch1 x))).length = L at *
  have n21 := Ns M2.st
  have n20' := vu M2.st
  have St := M2.st
  generalize (bo z (ch1 x)).1 = z1 at hU' hK' hadd n21 n20' St
  have wu : IntKind.i64.wrap ((z.used : Int) + (ps.length : Int)) = ((z.used + L : Nat) : Int) := by rw [IntWalk.i64_in _ (by omega)]; omega
  rw [az, bg f5_3.eq_1]
  simp only [go_sem, seval, hs, e9, e1, hb.ln, ax, c]
  refine mq rfl ?_
  simp only [go_sem, seval, hs, e1, e9, hia, ldx, Gq q16, amw, bx, Gq q150, em, wm]
  refine aeg (k := .i64) (k' := .i64) (a := x.toNat % 150) (by simp only [go_sem, seval, hs]) (by simp only [go_sem, seval, hs]) (by omega) ?_
  simp only [go_sem, seval, hs, bdc, mk3, e6]
  refine ao (by simp only [List.map, go_sem, seval, hs]; exact n20) ?_
  simp only [go_sem, seval, hs, e9]
  refine ap (h1 := h) (by simp only [List.map, go_sem, seval, hs]; rfl) n19 y19 ?_
  simp only [go_sem, seval, hs]
  rw [bg f5_2.eq_1]
  simp only [go_sem, seval, hs, e6, Bool.not_true]
  refine ao (by simp only [List.map, go_sem, seval, hs]; exact n14) ?_
  have r100 : (((z.used + L : Nat) : Int) > 100) = (100 < z.used + L) := by apply propext; omega
  by_cases hgt : 100 < z.used + L
  ·simp only [go_sem, seval, hs, e8, SP.ln, hel, wu, r100, hgt]
   refine ap (h1 := g) (by simp only [List.map]; rfl) n12 y12 ?_
   simp only [go_sem, seval, hs]
   exact hR _ _ (by simp only [ai, hs]) (by simp only [go_sem, seval, hs])
  ·obtain ⟨a1, a2⟩ := hadd (by omega)
   rw [hz2] at a2
   rw [a1] at n21
   rw [a2] at n20'
   have n20' : call F 20 [.ptr q 0] g = some (.ret (vi .i64 2), g) := n20'
   simp only [go_sem, seval, hs, e8, SP.ln, hel, wu, r100, hgt]
   simp only [go_sem, seval, hs, e6]
   refine ao (by simp only [List.map, go_sem, seval, hs]; exact n21) ?_
   simp only [go_sem, seval, hs, ne_eq, not_true_eq_false, e6]
   refine ao (by simp only [List.map, go_sem, seval, hs]; exact n20') ?_
   simp only [go_sem, seval, hs, e9, hw]
   exact ih (i + 1) z1 l2 _ _ Q (by omega) St hU' hK' a2 (by omega) (by simp only [ai, hs]) (by simp only [go_sem, seval, hs, e1]) (by simp only [go_sem, seval, hs, e6]) (by simp only [go_sem, seval, hs, a1]) (by simp only [go_sem, seval, hs]) hQ hR
def f5_t : IR :=
 (.seq (.reg [
 ⟨none, (some 90), (.mv (.t 6))⟩,
 ⟨none, (some 91), (.call 16 false [(.t 90)])⟩,
 ⟨none, (some 92), (.len false (.t 91))⟩,
 ⟨none, (some 13), (.mv (.t 92))⟩])
 (.seq (.reg [
 ⟨none, (some 93), (.mv (.t 6))⟩,
 ⟨none, (some 94), (.call 15 false [(.t 93)])⟩,
 ⟨none, (some 95), (.bin .eql (.t 94) (.c (.cv (.sc (.int .u16 0)))))⟩,
 ⟨none, (some 96), (.mv (.t 95))⟩,
 ⟨(some (96, true)), (some 97), (.mv (.t 6))⟩,
 ⟨(some (96, true)), (some 98), (.call 21 false [(.t 97)])⟩,
 ⟨(some (96, true)), (some 99), (.bin .eql (.t 98) (.c (.cv (.sc (.int .i64 0)))))⟩,
 ⟨none, (some 100), (.pick (.t 96) (.t 99) (.c (.cv (.sc (.bool false)))))⟩,
 ⟨none, (some 101), (.mv (.t 100))⟩,
 ⟨(some (101, true)), (some 102), (.mv (.t 6))⟩,
 ⟨(some (101, true)), (some 103), (.call 20 false [(.t 102)])⟩,
 ⟨(some (101, true)), (some 104), (.bin .eql (.t 103) (.c (.cv (.sc (.int .i64 3)))))⟩,
 ⟨none, (some 105), (.pick (.t 101) (.t 104) (.c (.cv (.sc (.bool false)))))⟩,
 ⟨none, (some 106), (.mv (.t 105))⟩,
 ⟨(some (106, true)), (some 107), (.mv (.t 6))⟩,
 ⟨(some (106, true)), (some 108), (.call 16 false [(.t 107)])⟩,
 ⟨(some (106, true)), (some 109), (.len false (.t 108))⟩,
 ⟨(some (106, true)), (some 110), (.mv (.t 13))⟩,
 ⟨(some (106, true)), (some 111), (.bin .eql (.t 109) (.t 110))⟩,
 ⟨none, (some 112), (.pick (.t 106) (.t 111) (.c (.cv (.sc (.bool false)))))⟩,
 ⟨none, (some 113), (.mv (.t 112))⟩,
 ⟨(some (113, true)), (some 114), (.call 12 true [])⟩,
 ⟨none, (some 115), (.pick (.t 113) (.t 114) (.c (.cv (.sc (.bool false)))))⟩,
 ⟨none, (some 4), (.mv (.t 115))⟩])
 .ret))
theorem aak {h : ae} {q p f : Nat} {l : Option Nat} {z : S} (hS : StoreAt h q p (some f) l z) (hU : RunU 400 z 1) (hz2 : z.e = 2) {s : List VV} (hs : s.length = 116) (h6 : s.getD 6 .undef = .ptr q 0) : X F f5_t ⟨s, h⟩ (RQ [.t 4] fun v _ => v = vb true) := by
 obtain ⟨v12, g12, n12, w12, y12, rfl⟩ := wt
 obtain ⟨hr1, hr2⟩ := hU.room
 obtain ⟨pg, hr⟩ := hU.mem.room
 have hp := (gr hr).2
 obtain ⟨j1, j2⟩ := ahf
 have hp : pg.length <= an 400 := hp
 obtain ⟨w16, els16, n16, S16, R16⟩ := za hS (by omega) hr2.v
 obtain ⟨v15, g15, n15, rfl, l', M⟩ := Th hS (by rw [hU.mem.dn]; exact hr) (hU.lim.le (by omega)) hU.mem.a1 (by omega) (by omega)
 have hrw : (ckF z pg).rows = z.rows := rfl
 obtain ⟨w7, els7, n7, S7, R7⟩ := za M.st (by rw [hrw]; omega) (by rw [hrw]; exact hr2.v)
 rw [hrw] at R7
 have n21 := Ns M.st
 have n20 := vu M.st
 have e3 : (ckF z pg).e = 3 := by show z.e + 1 = 3; omega
 rw [e3] at n20
 have n21 : call F 21 [.ptr q 0] g15 = some (.ret (vi .i64 0), g15) := n21
 have n20 : call F 20 [.ptr q 0] g15 = some (.ret (vi .i64 3), g15) := n20
 have s16 := S16.ln
 have s7 := S7.ln
 rw [R16.len] at s16
 rw [R7.len] at s7
 rw [bg f5_t.eq_1]
 simp only [go_sem, seval, hs, h6]
 refine ao (by simp only [List.map, go_sem, seval, hs]; exact n16) ?_
 simp only [go_sem, seval, hs, s16, h6]
 refine ao (by simp only [List.map, go_sem, seval, hs]; exact n15) ?_
 simp only [go_sem, seval, hs, h6]
 refine ao (by simp only [List.map, go_sem, seval, hs]; exact n21) ?_
 simp only [go_sem, seval, hs, h6]
 refine ao (by simp only [List.map, go_sem, seval, hs]; exact n20) ?_
 simp only [go_sem, seval, hs, h6]
 refine ao (by simp only [List.map, go_sem, seval, hs]; exact n7) ?_
 simp only [go_sem, seval, hs, s7]
 refine ap (h1 := g15) (by simp only [List.map]; rfl) n12 y12 ?_
 simp only [go_sem, seval, hs]
 all_goals trivial
theorem Yx {k : UInt8} {b : List UInt8} {u : VV} (hb : SlV 1 (eB b) u) (hbl : b.length <= maxLen) : ∃ h', call F 5 [vi .u8 k.toNat, u] [] = some (.ret (vb true), h') := by
 suffices hx : Ret F 5 [vi .u8 k.toNat, u] [] fun v _ => v = vb true by
  obtain ⟨v, g, n1, rfl⟩ := hx
  exact ⟨g, n1⟩
 obtain ⟨v12, g12, n12, w12, y12, rfl⟩ := wt
 have hml : maxLen = 9223372036854775807 := rfl
 obtain ⟨g1, n1, D1, _⟩ := Uq 400 (by omega) []
 obtain ⟨v11, g3, n11, rfl, l3, d3, M3, f3, L3, V3, B3⟩ := Dh D1 rfl rfl (by rw [Mu]; omega) (k := 690000) ((Nu 400 (by omega)).le (by omega))
 rw [Mu] at V3
 obtain ⟨v13, g4, n13, q, l4, z4, rfl, hq4, M4, S4, O4⟩ := Ol M3.dev L3.loose V3.rc (by omega) (k := 680000) (B3.le (by omega))
 have r1 : ((b.length : Int) > 30) = (30 < b.length) := by apply propext; omega
 refine eE2 (fn := f5) (n := 116) rfl rfl fun s hs h0 h1 => ?_
 simp only [f5]
 simp only [go_sem, seval, hs]
 refine ao (by simp only [List.map, go_sem, seval, hs]; exact n1) ?_
 simp only [go_sem, seval, hs]
 rw [bg f5_0.eq_1]
 by_cases c1 : 30 < b.length
 ·simp only [go_sem, seval, hs, h1, hb.ln, ax, r1, c1]
  refine ap (h1 := g1) (by simp only [List.map]; rfl) n12 y12 ?_
  simp only [go_sem, seval, hs]
  all_goals trivial
 have U4 : RunU 400 z4 (b.length + 1) := O4.runU f3 (by omega) (by omega) (by omega)
 have hrw : z4.rows = [] := O4.rw_
 simp only [go_sem, seval, hs, h1, hb.ln, ax, r1, c1]
 refine ao (by simp only [List.map, go_sem, seval, hs]; exact n11) ?_
 simp only [go_sem, seval, hs]
 refine ao (by simp only [List.map, go_sem, seval, hs]; exact n13) ?_
 simp only [go_sem, seval, hs]
 rw [bg f5_1.eq_1]
 simp only [go_sem, seval, hs]
 refine f5_loop hb (by omega) b.length 0 z4 l4 _ _ _ (by omega) S4 U4 (by rw [hrw]; exact K16.nil) O4.ep (by rw [O4.us]; omega) (by simp only [ai, hs]) (by simp only [go_sem, seval, hs, h1]) (by simp only [go_sem, seval, hs]) (by simp only [go_sem, seval, hs, O4.us]) (by simp only [go_sem, seval, hs]) (fun s5 g5 l5 z5 hs5 k6 S5 U5 e5 => ?_) (fun s5 g5 hs5 k4 => ?_)
 ·exact aak S5 U5 e5 hs5 k6
 ·simp only [go_sem, seval, hs5, k4]
  all_goals trivial
open Go Go.Vm
open Go.Proofs.Ytbhoknaipfnlnaa
section
variable {H : Type} {d0 d1 d2 : DataW H} {u0 u1 u2 : VV}
theorem used_in (h0 : DV Proofs.Try.prog 5 d0 u0) (h1 : DV Proofs.Try.prog 22 d1 u1) : ∃ h', call F 5 [u0, u1] [] = some (.ret (vb true), h') := by
 obtain ⟨k, rfl⟩ := alj (by kernel_rfl) h0
 obtain ⟨b, hB, hl⟩ := aa8 (e := 5) (by kernel_rfl) (by kernel_rfl) (by kernel_rfl) h1
 exact Yx hB hl
end
end Go.V08
