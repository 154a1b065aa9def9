/- Part of a proof: of what it says, and when, each theorem tells itself. -/
import Derived.Test.YtbhoknaipfnlnaaC08All6
import Derived.Test.YtbhoknaipfnlnaaRows
set_option linter.unusedSimpArgs false
set_option linter.unusedVariables false
namespace Go.V08
open Go Go.Vm
abbrev jn (n : Nat) : Nat := (bg n).1
abbrev an (n : Nat) : Nat := (bg n).2
def jr (n : Nat) (F : Sec) : Sec := (F.drop 2).take (jn n)
def ar (n : Nat) (F : Sec) (a m : Nat) : Sec := (F.drop (lm n a)).take m
def Hd (n : Nat) (F : Sec) (e a pg : Nat) : Prop := jq n (F.getD (e % 2) []) = some (e, a, pg) /\ ∀ x, jq n (F.getD (1 - e % 2) []) = some x -> x.1 < e
structure Dn (n : Nat) (F : Sec) : Prop where
 lo : 64 <= n
 hi : n <= 4096
 len : F.length = n
 f64 : ∀ b ∈ F, b.length = 64
structure Rc (n : Nat) (F : Sec) (e a : Nat) (rows : List KV) : Prop where
 dn : Dn n F
 a1 : a <= 1
 e1 : 1 <= e
 e2 : e <= 1073741824
 ex : ∃ base pgs L, Hd n F e a pgs.length /\ ey n base = some pgs /\ ar n F a (4 * pgs.length) = pcs 64 pgs.flatten /\ (sm e (jr n F)).1 = L.map tn /\ (∀ c ∈ L, FrOK c) /\ Qx L <= 60000 /\ rows = oi base L
 room : ∃ p, ey n rows = some p
 old : ∀ i b, i < jn n -> F[2 + i]? = some b -> afy e b
structure Vd (n : Nat) (F : Sec) (e a : Nat) (base : List KV) (L : List (List Ch)) (used : Nat) : Prop where
 dn : Dn n F
 a1 : a <= 1
 e1 : 1 <= e
 e2 : e <= 1073741824
 pgs : ∃ pgs, Hd n F e a pgs.length /\ ey n base = some pgs /\ ar n F a (4 * pgs.length) = pcs 64 pgs.flatten
 jl : (F.drop 2).take used = cg e 0 L
 ul : used = (cg e 0 L).length
 uj : used <= jn n
 bad : ∀ i b, used <= i -> i < jn n -> F[2 + i]? = some b -> Bad e b
 fr : ∀ c ∈ L, FrOK c
 room : ∃ p, ey n (oi base L) = some p
 old : ∀ i b, i < jn n -> F[2 + i]? = some b -> afy e b
theorem qx {n : Nat} (h : 64 <= n) : jn n = n / 4 /\ an n = (n - 2 - n / 4) / 8 := by
 unfold jn an bg; grind
theorem vy (n : Nat) : lm n 0 = 2 + jn n /\ lm n 1 = 2 + jn n + an n * 4 := by
 unfold lm; grind
theorem ou {F F' : Sec} {a m : Nat} (h : ∀ i, i < m -> F'[a + i]? = F[a + i]?) : (F'.drop a).take m = (F.drop a).take m := by
 apply List.ext_getElem?
 grind
theorem Ug : ∀ (l : List (Nat × List UInt8)) (f : Sec), (∀ b ∈ f, b.length = 64) -> (∀ o ∈ l, o.2.length = 64) -> ∀ b ∈ oz f l, b.length = 64
 | [], _, h, _ => h
 | o :: l, f, h, hl => by
  show ∀ b ∈ oz (f.set o.1 o.2) l, b.length = 64
  refine Ug l _ (fun b hb => ?_) (fun x hx => hl x (List.mem_cons_of_mem _ hx))
  grind
theorem alg {L : List (List UInt8)} (hL : ∀ b ∈ L, b.length <= 64) {a : Nat} : ∀ o ∈ wl a L, o.2.length = 64 := by
 intro o ho
 obtain ⟨j, j1, _, j3⟩ := zt _ _ _ ho
 obtain ⟨b, hb, e⟩ := Option.map_eq_some_iff.1 j3
 rw [<- e]
 exact Kx (hL b (List.mem_of_getElem? hb))
theorem Dn.sub {n : Nat} {F : Sec} (h : Dn n F) {L : List (List UInt8)} {a : Nat} (hL : ∀ b ∈ L, b.length <= 64) {l' : List (Nat × List UInt8)} (hs : l'.Sublist (wl a L)) : Dn n (oz F l') :=
 ⟨h.lo, h.hi, by rw [Nf]; exact h.len, Ug _ _ h.f64 fun o ho => alg hL o (hs.subset ho)⟩
theorem Hz {F F' : Sec} {i : Nat} (h : F'[i]? = F[i]?) : F'.getD i [] = F.getD i [] := by
 grind
theorem Rc.same {n : Nat} {F F' : Sec} {e a : Nat} {rows : List KV} (h : Rc n F e a rows) (hd : Dn n F') (hs : ∀ i, i < 2 + jn n \/ (lm n a <= i /\ i < lm n a + 4 * an n) -> F'[i]? = F[i]?) : Rc n F' e a rows := by
 obtain ⟨base, pgs, L, ⟨h1, h1'⟩, h2, h3, h4, h5, h6, h7⟩ := h.ex
 have hj : jr n F' = jr n F := ou fun i hi => hs _ (.inl (by omega))
 have hp : pgs.length <= an n := (gw h2).2
 refine ⟨hd, h.a1, h.e1, h.e2, ⟨base, pgs, L, ⟨?_, ?_⟩, h2, ?_, by grind, h5, h6, h7⟩, h.room, fun i b hi hb => h.old i b hi (by grind)⟩
 ·grind
 ·grind
 ·rw [<- h3]
  exact ou fun i hi => hs _ (.inr ⟨by omega, by omega⟩)
theorem Vd.rc {n : Nat} {F : Sec} {e a : Nat} {base : List KV} {L : List (List Ch)} {used : Nat} (h : Vd n F e a base L used) : Rc n F e a (oi base L) := by
  obtain ⟨pgs, h1, h2, h3⟩ := h.pgs
  refine ⟨h.dn, h.a1, h.e1, h.e2, ⟨base, pgs, L, h1, h2, h3, ?_, h.fr, ?_, rfl⟩, h.room, h.old⟩
  · have e1 : jr n F = cg e 0 L ++ (F.drop (2 + used)).take (jn n - used) := by
      have hu := h.uj
      have : jn n = used + (jn n - used) := by omega
      unfold jr
      rw [this, List.take_add, h.jl, List.drop_drop, Nat.add_sub_cancel_left]
    rw [e1, Uj h.e2 h.fr (Li fun b hb => ?_)]
    obtain ⟨i, hi⟩ := List.getElem?_of_mem hb
    have hlt : i < jn n - used := by
      grind
    rw [List.getElem?_take_of_lt hlt, List.getElem?_drop] at hi
    exact h.bad (used + i) b (by omega) (by omega) (by grind)
  · have h4 := ta e L 0
    have h5 := h.uj
    have h6 := h.ul
    have := gy h.dn.hi
    grind
theorem Rc.area {n : Nat} {F : Sec} {e a : Nat} {rows : List KV} (h : Rc n F e a rows) {Ls : Sec} (hl : Ls.length <= 4 * an n) (h64 : ∀ b ∈ Ls, b.length <= 64) {l' : List (Nat × List UInt8)} (hs : l'.Sublist (wl (lm n (1 - a)) Ls)) : Rc n (oz F l') e a rows := by
 obtain ⟨b0, b1⟩ := vy n
 have ha := h.a1
 refine h.same (h.dn.sub h64 hs) fun i hi => Js hs ?_
 grind
theorem abc {n : Nat} {F : Sec} {a : Nat} {Ls : Sec} (ha : a <= 1) (hn : Dn n F) (hl : Ls.length <= 4 * an n) (h64 : ∀ b ∈ Ls, b.length = 64) : ar n (oz F (wl (lm n a) Ls)) a Ls.length = Ls := by
 obtain ⟨b0, b1⟩ := vy n
 obtain ⟨p1, p2⟩ := qx hn.lo
 have hlo := hn.lo
 have hb : lm n a + Ls.length <= n := by
  grind
 apply List.ext_getElem?
 intro i
 unfold ar
 by_cases hi : i < Ls.length
 ·rw [List.getElem?_take_of_lt hi, List.getElem?_drop, Mp Ls F _ i (by rw [hn.len]; exact hb) hi]
  obtain ⟨b, hb⟩ : ∃ b, Ls[i]? = some b := ⟨Ls[i], List.getElem?_eq_getElem hi⟩
  rw [hb, Option.map_some, Mv (h64 b (List.mem_of_getElem? hb))]
 grind
theorem Rc.head {n : Nat} {F : Sec} {e a : Nat} {rows : List KV} (h : Rc n F e a rows) (he : e < 1073741824) {pgs : Sec} (hr : ey n rows = some pgs) (hA : ar n F (1 - a) (4 * pgs.length) = pcs 64 pgs.flatten) :
  Vd n (F.set ((e + 1) % 2) (gb (e + 1) (1 - a) pgs.length)) (e + 1) (1 - a) rows [] 0 := by
 obtain ⟨b0, b1⟩ := vy n
 obtain ⟨p1, p2⟩ := qx h.dn.lo
 have ha := h.a1
 have hlo := h.dn.lo
 have hp : pgs.length <= an n := (gw hr).2
 have hpos : 1 <= pgs.length := by
  have := Ij (gw hr).1
  cases pgs with
  | nil =>
   have hb := wr (gw hr).1
   grind
  | cons _ _ => simp
 have bge : lm n (1 - a) >= 2 + jn n := by
  grind
 have ne : ∀ i, 2 <= i -> (F.set ((e + 1) % 2) (gb (e + 1) (1 - a) pgs.length))[i]? = F[i]? := fun i hi => List.getElem?_set_ne (by omega)
 have hlen := h.dn.len
 refine ⟨⟨h.dn.lo, h.dn.hi, by grind, fun b hb => ?_⟩, by omega, by omega, by omega, ⟨pgs, ⟨?_, fun x hx => ?_⟩, hr, ?_⟩, by simp [cg], rfl, Nat.zero_le _, fun i b _ hi hb => ?_, fun c hc => (by cases hc), ⟨pgs, hr⟩, fun i b hi hb => ?_⟩
 ·rcases List.mem_or_eq_of_mem_set hb with e' | e'
  ·exact h.dn.f64 b e'
  ·rw [e']; exact qz
 ·rw [List.getD_eq_getElem?_getD, List.getElem?_set_self (by omega)]
  exact Ak (by omega) (by omega) (by omega) hpos hp h.dn.hi
 ·obtain ⟨base, pgs0, L, ⟨h1, _⟩, _⟩ := h.ex
  grind
 ·rw [<- hA]
  exact ou fun i hi => ne _ (by omega)
 ·rw [ne _ (by omega)] at hb
  exact h.old i b hi hb (e + 1) (by omega) (by omega)
 ·rw [ne _ (by omega)] at hb
  exact fun e' h1 h2 => h.old i b hi hb e' (by omega) h2
theorem Vd.part {n : Nat} {F : Sec} {e a : Nat} {base : List KV} {L : List (List Ch)} {used : Nat} (h : Vd n F e a base L used) {c : List Ch} (hc : FrOK c) (hu : used + (aq e L.length c).length ≤ jn n) (hroom : ∃ p, ey n (df (oi base L) c) = some p) {l' : List (Nat × List UInt8)} (hs : l'.Sublist (wl (2 + used) (aq e L.length c))) :
    (l' = wl (2 + used) (aq e L.length c) → Vd n (oz F l') e a base (L ++ [c]) (used + (aq e L.length c).length)) ∧ (Rc n (oz F l') e a (oi base L) ∨ l' = wl (2 + used) (aq e L.length c)) := by
  obtain ⟨b0, b1⟩ := vy n
  obtain ⟨p1, p2⟩ := qx h.dn.lo
  have ha := h.a1
  have hlo := h.dn.lo
  have hlen := h.dn.len
  have he : e < 4294967296 := by have := h.e2; omega
  have hold := fun b hb => xt (e := e) (j := L.length) (c := c) he b hb
  have h64 : ∀ b ∈ aq e L.length c, b.length ≤ 64 := fun b hb => by rw [(hold b hb).2]; exact Nat.le_refl _
  have hn2 : 2 + used + (aq e L.length c).length ≤ F.length := by omega
  have hout : ∀ i, i < 2 + used ∨ 2 + used + (aq e L.length c).length ≤ i → (oz F l')[i]? = F[i]? := fun i hi => Js hs hi
  have hbeg : 2 + jn n ≤ lm n a := by rcases (show a = 0 ∨ a = 1 by omega) with rfl | rfl <;> omega
  obtain ⟨pgs, ⟨h1, h1'⟩, h2, h3⟩ := h.pgs
  have hhd : Hd n (oz F l') e a pgs.length := ⟨by rw [Hz (hout _ (.inl (by omega)))]; exact h1, by rw [Hz (hout _ (.inl (by omega)))]; exact h1'⟩
  have har : ar n (oz F l') a (4 * pgs.length) = pcs 64 pgs.flatten := by rw [← h3]; exact ou fun i hi => hout _ (.inr (by omega))
  have hjl : ((oz F l').drop 2).take used = cg e 0 L := by rw [← h.jl]; exact ou fun i hi => hout _ (.inl (by omega))
  have hget : ∀ i, i < (aq e L.length c).length → ∃ x, (aq e L.length c)[i]? = some x ∧ pad x = x ∧ x ∈ aq e L.length c := fun i hi => by
    obtain ⟨x, hx⟩ : ∃ x, (aq e L.length c)[i]? = some x := ⟨_, List.getElem?_eq_getElem hi⟩
    have hm := List.mem_of_getElem? hx
    exact ⟨x, hx, Mv (hold x hm).2, hm⟩
  have hold2 : ∀ i b, i < jn n → (oz F l')[2 + i]? = some b → afy e b := by
    intro i b hi hb
    by_cases hr : i < used ∨ used + (aq e L.length c).length ≤ i
    · rw [hout _ (by omega)] at hb
      exact h.old i b hi hb
    · obtain ⟨x, hx, hp, hm⟩ := hget (i - used) (by omega)
      have := Ef _ F (2 + used) (i - used) l' hs hn2 (by omega)
      rw [show 2 + used + (i - used) = 2 + i from by omega, hx, Option.map_some, hp, hb] at this
      rcases this with e1 | e1
      · exact h.old i b hi e1.symm
      · cases e1; exact (hold _ hm).1
  refine ⟨?_, ?_⟩
  · rintro rfl
    refine ⟨h.dn.sub h64 hs, h.a1, h.e1, h.e2, ⟨pgs, hhd, h2, har⟩, ?_, ?_, hu, ?_, ?_, ?_, hold2⟩
    · rw [tv, List.take_add, hjl, List.drop_drop, Nat.zero_add]
      congr 1
      apply List.ext_getElem?
      intro i
      by_cases hi : i < (aq e L.length c).length
      · rw [List.getElem?_take_of_lt hi, List.getElem?_drop]
        rw [Mp _ F (2 + used) i hn2 hi]
        obtain ⟨x, hx, hp, _⟩ := hget i hi
        rw [hx, Option.map_some, hp]
      · rw [List.getElem?_eq_none (by rw [List.length_take]; omega), List.getElem?_eq_none (by omega)]
    · rw [tv, List.length_append, ← h.ul, Nat.zero_add]
    · intro i b hi1 hi2 hb
      rw [hout _ (by omega)] at hb
      exact h.bad i b (by omega) hi2 hb
    · intro x hx
      rcases List.mem_append.1 hx with hx | hx
      · exact h.fr x hx
      · rw [List.mem_singleton.1 hx]; exact hc
    · unfold oi at hroom ⊢
      rw [List.foldl_append]
      exact hroom
  · rcases Qy _ F (2 + used) l' hs hn2 with e0 | ⟨k, k1, k2⟩
    · exact .inr e0
    refine .inl ⟨h.dn.sub h64 hs, h.a1, h.e1, h.e2, ⟨base, pgs, L, hhd, h2, har, ?_, h.fr, ?_, rfl⟩, h.room, hold2⟩
    · have e1 : jr n (oz F l') = cg e 0 L ++ ((oz F l').drop (2 + used)).take (jn n - used) := by
        have : jn n = used + (jn n - used) := by omega
        unfold jr
        rw [this, List.take_add, hjl, List.drop_drop, Nat.add_sub_cancel_left]
      have hrest : ∀ i, i < jn n - used → (((oz F l').drop (2 + used)).take (jn n - used))[i]? = (oz F l')[2 + used + i]? := fun i hi => by rw [List.getElem?_take_of_lt hi, List.getElem?_drop]
      have hbadF : ∀ i, i < jn n - used → ∃ b, F[2 + used + i]? = some b ∧ Bad e b := fun i hi => by
        obtain ⟨b, hb⟩ : ∃ b, F[2 + used + i]? = some b := ⟨_, List.getElem?_eq_getElem (by omega)⟩
        exact ⟨b, hb, h.bad (used + i) b (by omega) (by omega) (by rw [← hb]; congr 1; omega)⟩
      rw [e1, Uj h.e2 h.fr (Qc (of_ := (pcs 49 (gu c)).length) (j := k) ?_ (by rw [← ma e L.length c]; exact k1) hc.p200 ?_)]
      · intro b hb
        have hpos := jh e L.length c
        rw [hrest 0 (by omega)] at hb
        rcases Ef _ F (2 + used) 0 l' hs hn2 (by omega) with e2 | e2
        · obtain ⟨b', hb', hB⟩ := hbadF 0 (by omega)
          rw [e2, hb'] at hb; cases hb
          exact .inl hB
        · obtain ⟨x, hx, hp, _⟩ := hget 0 (by omega)
          rw [e2, hx, Option.map_some, hp] at hb; cases hb
          exact .inr (Kg hc.p200 _ hx)
      · obtain ⟨b', hb', hB⟩ := hbadF k (by omega)
        exact ⟨b', by rw [hrest k (by omega), k2, hb'], hB⟩
    · have h4 := ta e L 0
      have h5 := h.uj
      have h6 := h.ul
      have : jn n ≤ 1024 := (gy h.dn.hi).1
      omega
open Go Go.Vm
theorem Ei {α : Type} {l' l : List α} {k : Nat} (h : l'.Sublist (l.take k)) : l'.Sublist l := h.trans (List.take_sublist k l)
theorem ad9 {o : Nat × List UInt8} {l' : List (Nat × List UInt8)} (h : l'.Sublist [o]) : l' = [] \/ l' = [o] := by
 cases h with
 | cons _ h => exact .inl (List.sublist_nil.1 h)
 | cons_cons _ h => rw [List.sublist_nil.1 h]; exact .inr rfl
theorem Wd {n : Nat} {d : D} (hl : Live d) (hn : d.firm.length = n) {e a : Nat} {rows : List KV} (hR : Rc n d.firm e a rows) (he : e < 1073741824) {pgs : Sec} (hr : ey n rows = some pgs) :
  (∀ F, Out (xv d pgs (1 - a) (e + 1)) F -> ∃ e' a', e' <= e + 1 /\ Rc n F e' a' rows) /\
  ((xv d pgs (1 - a) (e + 1)).dark = false -> Live (xv d pgs (1 - a) (e + 1)) /\ Vd n (xv d pgs (1 - a) (e + 1)).firm (e + 1) (1 - a) rows [] 0) /\
  d.w < (xv d pgs (1 - a) (e + 1)).w /\ (d.fused = false -> (xv d pgs (1 - a) (e + 1)).fused = false) := by
 obtain ⟨b0, b1⟩ := vy n
 obtain ⟨p1, p2⟩ := qx hR.dn.lo
 have hlo := hR.dn.lo
 have ha := hR.a1
 have hp : pgs.length <= an n := (gw hr).2
 have hsl := oy hr
 have h256 := mi (gw hr).1
 have hfl := rn (k := 256) pgs h256
 obtain ⟨_, h64, _⟩ := wj (k := 64) (by omega) (4 * pgs.length) pgs.flatten (by rw [hfl]; omega)
 rw [Kc, hn]
 generalize hLs : pcs 64 pgs.flatten = Ls at hsl h64
 have h64' : ∀ b ∈ Ls, b.length <= 64 := fun b hb => by rw [h64 b hb]; exact Nat.le_refl _
 have hin : lm n (1 - a) + Ls.length <= d.firm.length := by
  rcases (show a = 0 \/ a = 1 by omega) with rfl | rfl
  ·simp only [Nat.sub_zero]; omega
  ·simp only [Nat.sub_self]; omega
 have hne : Ls ≠ [] := by
  intro e0
  have hb := Ij (gw hr).1
  have : pgs.length = 0 := by rw [e0] at hsl; simp at hsl; omega
  have : pgs = [] := List.eq_nil_of_length_eq_zero this
  rw [this] at hb
  rw [show ([] : Sec).dropLast = [] from rfl] at hb
  have h2 := wr (gw hr).1
  rw [this] at h2
  rw [h2] at hb; exact absurd rfl hb
 obtain ⟨hP, hw, hfu⟩ := ajt hl hin h64'
 have hw := hw hne
 have hRa : ∀ l', l'.Sublist (wl (lm n (1 - a)) Ls) -> Rc n (oz d.firm l') e a rows := fun l' hs => hR.area (by omega) h64' hs
 have hn1 : (ph d (lm n (1 - a)) Ls).firm.length = n := by rw [afw, hn]
 generalize hd1 : ph d (lm n (1 - a)) Ls = d1 at hw hfu hn1
 have dk : d1.dark = true -> ph d1 ((e + 1) % 2) [gb (e + 1) (1 - a) pgs.length] = d1 := fun h => Eq h _ _
 have hO1 : ∀ F, Out d1 F -> Rc n F e a rows := by
  rintro F ⟨l', s1, rfl⟩
  cases hP with
  | done h1 h2 =>
   rw [hd1] at h1 h2
   rw [h1] at s1
   rw [List.sublist_nil.1 s1]
   show Rc n d1.firm e a rows
   rw [h2]
   exact hRa _ (.refl _)
  | cut h1 h2 k h3 =>
   rw [hd1] at h1 h2 h3
   rw [h3] at s1
   rw [h2]
   exact hRa _ (Ei s1)
 cases hdk : d1.dark with
 | true =>
  rw [dk hdk]
  refine ⟨fun F hF => ⟨e, a, Nat.le_succ e, hO1 F hF⟩, ?_, hw, hfu⟩
  intro h
  cases hdk.symm.trans h
 | false =>
  cases hP with
  | cut h1 _ _ _ => rw [hd1, hdk] at h1; cases h1
  | done h1 h2 =>
   rw [hd1] at h1 h2
   have hl1 : Live d1 := ⟨h1, hdk⟩
   have hR1 : Rc n d1.firm e a rows := by rw [h2]; exact hRa _ (.refl _)
   have hA : ar n d1.firm (1 - a) (4 * pgs.length) = Ls := by
    have hx := abc (a := 1 - a) (F := d.firm) (Ls := Ls) (by omega) hR.dn (by omega) h64
    rw [hsl] at hx
    rw [h2]
    exact hx
   have hV := hR1.head he hr (by rw [hA, hLs])
   have hpd : pad (gb (e + 1) (1 - a) pgs.length) = gb (e + 1) (1 - a) pgs.length := Mv qz
   obtain ⟨hP2, hw2, hfu2⟩ := ajt hl1 (a := (e + 1) % 2) (L := [gb (e + 1) (1 - a) pgs.length]) (by rw [hn1]; simp only [List.length_singleton]; omega) (fun b hb => by rw [List.mem_singleton.1 hb, qz]; exact Nat.le_refl _)
   have hw2 := hw2 (by simp)
   have hset : oz d1.firm (wl ((e + 1) % 2) [gb (e + 1) (1 - a) pgs.length]) = d1.firm.set ((e + 1) % 2) (gb (e + 1) (1 - a) pgs.length) := by
    show d1.firm.set ((e + 1) % 2) (pad _) = _
    rw [hpd]
   rw [<- hset] at hV
   have hw3 := Nat.lt_trans hw hw2
   have hRV := hV.rc
   have hRV : Rc n (oz d1.firm (wl ((e + 1) % 2) [gb (e + 1) (1 - a) pgs.length])) (e + 1) (1 - a) rows := hRV
   refine ⟨fun F hF => ?_, fun hd2 => ?_, hw3, fun h => hfu2 (hfu h)⟩
   ·obtain ⟨l', s1, rfl⟩ := hF
    cases hP2 with
    | done g1 g2 =>
     rw [g1] at s1
     rw [List.sublist_nil.1 s1]
     refine ⟨e + 1, 1 - a, Nat.le_refl _, ?_⟩
     show Rc n (ph d1 ((e + 1) % 2) [gb (e + 1) (1 - a) pgs.length]).firm (e + 1) (1 - a) rows
     rw [g2]; exact hRV
    | cut g1 g2 k g3 =>
     rw [g3] at s1
     rw [g2]
     rcases ad9 (Ei s1) with rfl | rfl
     ·exact ⟨e, a, by omega, hR1⟩
     ·exact ⟨e + 1, 1 - a, Nat.le_refl _, hRV⟩
   ·cases hP2 with
    | cut g1 _ _ _ => rw [hd2] at g1; cases g1
    | done g1 g2 => exact ⟨⟨g1, hd2⟩, by rw [g2]; exact hV⟩
structure Mem (n : Nat) (z : S) : Prop where
 dn : z.d.firm.length = n
 lo : 64 <= n
 hi : n <= 4096
 a1 : z.a <= 1
 room : ∃ p, ey n z.rows = some p
 used : z.used <= jn n
 fr : z.fr <= z.used
structure Run (n : Nat) (z : S) : Prop where
 live : Live z.d
 v : ∃ base L, Vd n z.d.firm z.e z.a base L z.used /\ z.rows = oi base L /\ z.fr = L.length
theorem agr {n : Nat} {z : S} (hM : Mem n z) (hR : Run n z) (he : z.e < 1073741824) {pg : Sec} (hr : ey n z.rows = some pg) :
  Mem n (ckF z pg) /\ (∀ F, Out (ckF z pg).d F -> ∃ e' a', e' <= (ckF z pg).e /\ Rc n F e' a' z.rows) /\ ((ckF z pg).d.dark = false -> Run n (ckF z pg)) /\ z.d.w < (ckF z pg).d.w /\ (z.d.fused = false -> (ckF z pg).d.fused = false) := by
 obtain ⟨base, L, hV, hrw, _⟩ := hR.v
 have hRc := hV.rc
 rw [<- hrw] at hRc
 obtain ⟨h1, h2, h3, h4⟩ := Wd hR.live hM.dn hRc he hr
 refine ⟨⟨by show (xv z.d pg (1 - z.a) (z.e + 1)).firm.length = n; rw [Ue, hM.dn], hM.lo, hM.hi, by show 1 - z.a <= 1; omega, ⟨pg, hr⟩, Nat.zero_le _, Nat.le_refl _⟩, h1, fun hd => ?_, h3, h4⟩
 obtain ⟨g1, g2⟩ := h2 hd
 exact ⟨g1, z.rows, [], g2, rfl, rfl⟩
theorem Td {n : Nat} {z : S} (hM : Mem n z) (hR : Run n z) {c : List Ch} (hc : FrOK c) (hu : z.used + (aq z.e z.fr c).length <= jn n) (hroom : ∃ p, ey n (df z.rows c) = some p) :
  Mem n (tr z c (aq z.e z.fr c)) /\ (∀ F, Out (tr z c (aq z.e z.fr c)).d F -> ∃ e' a', e' <= z.e /\ (Rc n F e' a' z.rows \/ Rc n F e' a' (df z.rows c))) /\
  ((tr z c (aq z.e z.fr c)).d.dark = false -> Run n (tr z c (aq z.e z.fr c))) /\ z.d.w < (tr z c (aq z.e z.fr c)).d.w /\ (z.d.fused = false -> (tr z c (aq z.e z.fr c)).d.fused = false) := by
 obtain ⟨base, L, hV, hrw, hfr⟩ := hR.v
 have hfs := jh z.e z.fr c
 have hfr1 := hM.fr
 have hlo := hM.lo
 obtain ⟨p1, p2⟩ := qx hlo
 have he : z.e < 4294967296 := by have := hV.e2; omega
 have h64 : ∀ b ∈ aq z.e z.fr c, b.length <= 64 := fun b hb => by rw [(xt he b hb).2]; exact Nat.le_refl _
 have hd : (tr z c (aq z.e z.fr c)).d = ph z.d (2 + z.used) (aq z.e z.fr c) := rfl
 obtain ⟨hP, hw, hfu⟩ := ajt hR.live (a := 2 + z.used) (L := aq z.e z.fr c) (by rw [hM.dn]; omega) h64
 have hw := hw (by intro e0; rw [e0] at hfs; simp at hfs)
 have hpart := fun l' hs => hV.part hc (by rw [<- hfr]; exact hu) (by rw [<- hrw]; exact hroom) (l' := l') hs
 rw [<- hfr, <- hrw] at hpart
 have hVn : Vd n (oz z.d.firm (wl (2 + z.used) (aq z.e z.fr c))) z.e z.a base (L ++ [c]) (z.used + (aq z.e z.fr c).length) := (hpart _ (.refl _)).1 rfl
 have hfold : oi base (L ++ [c]) = df z.rows c := by rw [hrw]; unfold oi; rw [List.foldl_append]; rfl
 have hRn := hVn.rc
 rw [hfold] at hRn
 refine ⟨⟨by rw [hd, afw, hM.dn], hM.lo, hM.hi, hM.a1, hroom, hu, by show z.fr + 1 <= z.used + (aq z.e z.fr c).length; omega⟩, fun F hF => ?_, fun hdk => ?_, by rw [hd]; exact hw, fun h => by rw [hd]; exact hfu h⟩
 ·rw [hd] at hF
  obtain ⟨l', s1, rfl⟩ := hF
  cases hP with
  | done g1 g2 =>
   rw [g1] at s1
   rw [List.sublist_nil.1 s1]
   refine ⟨z.e, z.a, Nat.le_refl _, .inr ?_⟩
   show Rc n (ph z.d (2 + z.used) (aq z.e z.fr c)).firm _ _ _
   rw [g2]; exact hRn
  | cut g1 g2 k g3 =>
   rw [g3] at s1
   rw [g2]
   rcases (hpart l' (Ei s1)).2 with h | h
   ·exact ⟨z.e, z.a, Nat.le_refl _, .inl h⟩
   ·rw [h]; exact ⟨z.e, z.a, Nat.le_refl _, .inr hRn⟩
 ·rw [hd] at hdk
  cases hP with
  | cut g1 _ _ _ => rw [hdk] at g1; cases g1
  | done g1 g2 =>
   refine ⟨⟨g1, hdk⟩, base, L ++ [c], ?_, hfold.symm, by show z.fr + 1 = _; rw [hfr]; simp⟩
   show Vd n (ph z.d (2 + z.used) (aq z.e z.fr c)).firm z.e z.a base (L ++ [c]) (z.used + (aq z.e z.fr c).length)
   rw [g2]; exact hVn
open Go Go.Vm
theorem Gy {d : D} (h : d.dark = true) (pg : Sec) (a e : Nat) : xv d pg a e = d := by rw [Kc, Eq h, Eq h]
theorem zz {z : S} (h : z.d.dark = true) (c : List Ch) (ps : Sec) : (tr z c ps).d = z.d := Eq h _ _
theorem Mq {z : S} (h : z.d.dark = true) (pg : Sec) : (ckF z pg).d = z.d := Gy h _ _ _
theorem afr {c : List Ch} (hl : c.any lng = false) (hg : ∀ p ∈ c, p.2.2 = true -> p.2.1 = []) (hn : c.length <= 5000) (hp : (pcs 49 (gu c)).length <= 200) : FrOK c := by
 refine ⟨fun p hp => ?_, hn, hp⟩
 have := List.any_eq_false.1 hl p hp
 unfold lng at this
 simp only [Bool.or_eq_true, decide_eq_true_eq, not_or] at this
 exact ⟨by omega, by omega, hg p hp⟩
structure ComP (n : Nat) (z : S) (c : List Ch) (r : S × Nat) : Prop where
 k : r.2 = 0 \/ r.2 = 3 \/ r.2 = 21
 mem : Mem n r.1
 e : r.1.e <= z.e + 1
 not : r.2 ≠ 0 \/ c = [] -> r.1 = z
 yes : r.2 = 0 -> r.1.rows = df z.rows c
 dark : z.d.dark = true -> r.1.d = z.d
 run : Run n z -> r.2 = 0 -> c ≠ [] -> z.d.w < r.1.d.w /\ (∀ F, Out r.1.d F -> ∃ e' a', e' <= r.1.e /\ (Rc n F e' a' z.rows \/ Rc n F e' a' r.1.rows)) /\ (r.1.d.dark = false -> Run n r.1) /\ (z.d.fused = false -> r.1.d.fused = false)
theorem Ey {n : Nat} {z : S} {c : List Ch} (hM : Mem n z) {k : Nat} (hk : k = 3 \/ k = 21) : ComP n z c (z, k) :=
 have h0 : k ≠ 0 := by omega
 ⟨.inr hk, hM, Nat.le_succ _, fun _ => rfl, fun h => absurd h h0, fun _ => rfl, fun _ h => absurd h h0⟩
theorem Da {n : Nat} {z : S} {c : List Ch} (hM : Mem n z) (he : z.e < 1073741823) (hc : c.length <= 5000) (hg : ∀ p ∈ c, p.2.2 = true -> p.2.1 = []) : ComP n z c (bw z c) := by
 by_cases hn : c = []
 ·subst hn
  have : bw z [] = (z, 0) := by unfold bw; rw [if_pos rfl]
  rw [this]
  exact ⟨.inl rfl, hM, Nat.le_succ _, fun _ => rfl, fun _ => rfl, fun _ => rfl, fun _ _ h => absurd rfl h⟩
 cases hl : c.any lng with
 | true =>
  have : bw z c = (z, 3) := by unfold bw; rw [if_neg hn, if_pos hl]
  rw [this]
  exact Ey hM (.inl rfl)
 | false =>
  unfold bw
  rw [if_neg hn, if_neg (by rw [hl]; decide)]
  have hdn := hM.dn
  obtain ⟨pg0, hr0⟩ := hM.room
  rw [hdn]
  cases hrm : ey n (df z.rows c) with
  | none => exact Ey hM (.inr rfl)
  | some pgA =>
   cases hpf : ek z.e z.fr c with
   | none => exact Ey hM (.inr rfl)
   | some ps =>
    obtain ⟨hps, h200⟩ := pe hpf
    have hF := afr hl hg hc h200
    dsimp only
    by_cases c2 : (bg n).1 < ps.length
    ·rw [if_pos c2]; exact Ey hM (.inr rfl)
    ·rw [if_neg c2]
     by_cases c3 : (bg n).1 < z.used + ps.length
     ·rw [if_pos c3, hr0]
      obtain ⟨ps', hp2, hpl⟩ := wy hpf (e' := z.e + 1) (by omega)
      obtain ⟨hps', _⟩ := pe (n := 0) hp2
      rw [hp2]
      have hu' : (ckF z pg0).used + (aq (ckF z pg0).e (ckF z pg0).fr c).length <= jn n := by
       show 0 + (aq (z.e + 1) 0 c).length <= jn n
       rw [<- hps', hpl]
       have : ¬ jn n < ps.length := c2
       omega
      have hMk : Mem n (ckF z pg0) := ⟨by show (xv z.d pg0 (1 - z.a) (z.e + 1)).firm.length = n; rw [Ue, hM.dn], hM.lo, hM.hi, by show 1 - z.a <= 1; omega, ⟨pg0, hr0⟩, Nat.zero_le _, Nat.le_refl _⟩
      rw [hps']
      have hfs := jh (z.e + 1) 0 c
      have hMa : Mem n (tr (ckF z pg0) c (aq (z.e + 1) 0 c)) := ⟨by show (ph (ckF z pg0).d _ _).firm.length = n; rw [afw, hMk.dn], hM.lo, hM.hi, hMk.a1, ⟨pgA, hrm⟩, hu', by show 0 + 1 <= 0 + (aq (z.e + 1) 0 c).length; omega⟩
      refine ⟨.inl rfl, hMa, Nat.le_refl _, fun h => ?_, fun _ => rfl, fun h => ?_, fun hR _ _ => ?_⟩
      ·rcases h with h | h
       ·exact absurd rfl h
       ·exact absurd h hn
      ·show (tr (ckF z pg0) c (aq (z.e + 1) 0 c)).d = z.d
       rw [zz (by rw [Mq h]; exact h), Mq h]
      ·obtain ⟨k1, k2, k3, k4, k5⟩ := agr hM hR (by omega) hr0
       cases hdk : (ckF z pg0).d.dark with
       | true =>
        have hsame : (tr (ckF z pg0) c (aq (z.e + 1) 0 c)).d = (ckF z pg0).d := zz hdk _ _
        dsimp only
        rw [hsame]
        refine ⟨k4, fun F hF => ?_, fun h => ?_, k5⟩
        ·obtain ⟨e', a', q1, q2⟩ := k2 F hF
         exact ⟨e', a', q1, .inl q2⟩
        ·cases hdk.symm.trans h
       | false =>
        obtain ⟨m1, m2, m3, m4, m5⟩ := Td k1 (k3 hdk) hF hu' ⟨pgA, hrm⟩
        exact ⟨Nat.lt_trans k4 m4, m2, m3, fun h => m5 (k5 h)⟩
     ·rw [if_neg c3, hps]
      have hu' : z.used + (aq z.e z.fr c).length <= jn n := by
       rw [<- hps]
       have : ¬ jn n < z.used + ps.length := c3
       omega
      have hfs := jh z.e z.fr c
      have hfr := hM.fr
      have hMa : Mem n (tr z c (aq z.e z.fr c)) := ⟨by show (ph z.d _ _).firm.length = n; rw [afw, hM.dn], hM.lo, hM.hi, hM.a1, ⟨pgA, hrm⟩, hu', by show z.fr + 1 <= z.used + (aq z.e z.fr c).length; omega⟩
      refine ⟨.inl rfl, hMa, Nat.le_succ _, fun h => ?_, fun _ => rfl, fun h => zz h _ _, fun hR _ _ => ?_⟩
      ·rcases h with h | h
       ·exact absurd rfl h
       ·exact absurd h hn
      ·obtain ⟨m1, m2, m3, m4, m5⟩ := Td hM hR hF hu' ⟨pgA, hrm⟩
       exact ⟨m4, m2, m3, m5⟩
open Go Go.Vm
theorem qu {d : D} (h : d.loose = []) (i : Nat) : d.cell i = d.firm.getD i [] := by unfold D.cell; rw [h]; rfl
theorem Mn {d : D} (h : d.loose = []) {a m : Nat} (hm : a + m <= d.firm.length) : Bk d a m = (d.firm.drop a).take m := by
 apply List.ext_getElem?
 intro i
 unfold Bk
 by_cases hi : i < m
 ·rw [List.getElem?_map, List.getElem?_range hi, Option.map_some, qu h, List.getElem?_take_of_lt hi, List.getElem?_drop, List.getD_eq_getElem?_getD]
  obtain ⟨b, hb⟩ : ∃ b, d.firm[a + i]? = some b := ⟨_, List.getElem?_eq_getElem (by omega)⟩
  rw [hb]; rfl
 ·rw [List.getElem?_eq_none (by simp; omega), List.getElem?_eq_none (by rw [List.length_take]; omega)]
theorem Yn {d : D} (h : d.loose = []) {e a pg : Nat} (hd : Hd d.firm.length d.firm e a pg) : qk d = some (e, a, pg) := by
 obtain ⟨h1, h2⟩ := hd
 rcases (show e % 2 = 0 \/ e % 2 = 1 by omega) with he | he
 ·rw [he] at h1 h2
  have h2 : ∀ x, jq d.firm.length (d.firm.getD 1 []) = some x -> x.1 < e := h2
  refine ru (x := some (e, a, pg)) (y := jq d.firm.length (d.firm.getD 1 [])) (by rw [qu h]; exact h1) (by rw [qu h]) ?_
  cases hy : jq d.firm.length (d.firm.getD 1 []) with
  | none => rfl
  | some y =>
   have := h2 y hy
   show (if e < y.1 then some y else some (e, a, pg)) = _
   rw [if_neg (by omega)]
 ·rw [he] at h1 h2
  have h2 : ∀ x, jq d.firm.length (d.firm.getD 0 []) = some x -> x.1 < e := h2
  refine ru (x := jq d.firm.length (d.firm.getD 0 [])) (y := some (e, a, pg)) (by rw [qu h]) (by rw [qu h]; exact h1) ?_
  cases hx : jq d.firm.length (d.firm.getD 0 []) with
  | none => rfl
  | some x =>
   have := h2 x hx
   show (if x.1 < e then some (e, a, pg) else some x) = _
   rw [if_pos this]
structure OpenP (n : Nat) (e : Nat) (rows : List KV) (d : D) (k : Nat) (z : S) : Prop where
 rw_ : z.rows = rows
 ep : z.e = e + 1
 us : z.used = 0
 fr : z.fr = 0
 mem : Mem n z
 out : ∀ F, Out z.d F -> ∃ e' a', e' <= e + 1 /\ Rc n F e' a' rows
 run : z.d.dark = false -> Run n z
 nf : d.fused = false -> z.d.fused = false
 lim : z.d.Lim k
theorem Me {h : ah} {p : Nat} {f l : Option Nat} {d : D} (hD : ed h p f l d) (hl : d.loose = []) {n e a : Nat} {rows : List KV} (hR : Rc n d.firm e a rows) (he : e < 1073741824) {k : Nat} (hL : d.Lim (k + 3000)) :
  Ret F 13 [.ptr p 0] h fun v g => ∃ q l' z, v = .tup [.ptr q 0, vi .u16 0] /\ h.length <= q /\ Moved h g p f l l' z.d /\ StoreAt g q p f l' z /\ OpenP n e rows d k z := by
 have hn : d.firm.length = n := hR.dn.len
 obtain ⟨base, pgs, L, h1, h2, h3, h4, h5, h6, h7⟩ := hR.ex
 obtain ⟨pgR, hr⟩ := hR.room
 obtain ⟨p1, p2⟩ := qx hR.dn.lo
 have hp : pgs.length <= an n := (gw h2).2
 have hpR : pgR.length <= an n := (gw hr).2
 have hlo := hR.dn.lo
 have hhi := hR.dn.hi
 have hbld := (gw h2).1
 have h256 := mi hbld
 have hfl := rn (k := 256) pgs h256
 obtain ⟨hs1, _, hs3⟩ := wj (k := 64) (by omega) (4 * pgs.length) pgs.flatten (by rw [hfl]; omega)
 obtain ⟨hin, hin2⟩ := Lo hlo hR.a1 hp
 have hf : qk d = some (e, a, pgs.length) := Yn hl (by rw [hn]; exact h1)
 have hlaid : Tv d a pgs.length = (base, 0) := by
  unfold Tv
  rw [hn, Mn hl (by rw [hn]; exact hin)]
  have : (d.firm.drop (lm n a)).take (pgs.length * 4) = pcs 64 pgs.flatten := by rw [Nat.mul_comm]; exact h3
  rw [this, hs3, ab8 (by omega) pgs h256]
  exact wr hbld
 have hjr : Bk d 2 (bg d.firm.length).1 = jr n d.firm := by
  rw [hn, Mn hl (by rw [hn]; show 2 + jn n <= n; omega)]; rfl
 have hFr : FrL (sm e (Bk d 2 (bg d.firm.length).1)).1 L := by
  rw [hjr, h4]; exact ahy h5
 have hb5 : base.length <= 5000 := by
  unfold dt at hbld
  split at hbld
  ·rename_i c; exact c.2
  ·cases hbld
 have hr' : ey d.firm.length (oi base L) = some pgR := by rw [hn, <- h7]; exact hr
 obtain ⟨v, g, n1, q, l', rfl, hq, M, St⟩ := ac9 hD (by omega) hf hlaid hFr (by omega) hr' he (hL.le (by omega))
 have hlay : (∀ F, Out (xv d pgR (1 - a) (e + 1)) F -> ∃ e' a', e' <= e + 1 /\ Rc n F e' a' rows) /\
  ((xv d pgR (1 - a) (e + 1)).dark = false -> Live (xv d pgR (1 - a) (e + 1)) /\ Vd n (xv d pgR (1 - a) (e + 1)).firm (e + 1) (1 - a) rows [] 0) /\ (d.fused = false -> (xv d pgR (1 - a) (e + 1)).fused = false) := by
  cases hdk : d.dark with
  | false =>
   obtain ⟨o1, o2, o3, o4⟩ := Wd ⟨hl, hdk⟩ hn hR he hr
   exact ⟨o1, o2, o4⟩
  | true =>
   rw [Gy hdk]
   refine ⟨fun F hF => ⟨e, a, Nat.le_succ e, ?_⟩, fun h => ?_, fun h => h⟩
   ·rw [Zz hl hF]; exact hR
   ·cases hdk.symm.trans h
 obtain ⟨o1, o2, o4⟩ := hlay
 have hz : (ckF ⟨d, oi base L, e, a, pgs.length, 0, 0⟩ pgR).d = xv d pgR (1 - a) (e + 1) := rfl
 refine ⟨_, g, n1, q, l', _, rfl, hq, M, St, h7.symm, rfl, rfl, rfl, ⟨?_, hlo, hhi, ?_, ⟨pgR, by show ey n (oi base L) = _; rw [<- h7]; exact hr⟩, Nat.zero_le _, Nat.le_refl _⟩, ?_, fun hd => ?_, ?_, ?_⟩
 ·rw [hz, Ue, hn]
 ·show 1 - a <= 1; omega
 ·rw [hz]; exact o1
 ·rw [hz] at hd
  obtain ⟨g1, g2⟩ := o2 hd
  exact ⟨g1, rows, [], g2, h7.symm, rfl⟩
 ·rw [hz]; exact o4
 ·rw [hz]
  exact ya (by rw [oy hr]; exact hL.le (by have := (gy hhi).2; have : an n <= 512 := this; omega))
open Go Go.Vm
theorem rt {d : D} (h : d.fused = false) : d.dark = false := by unfold D.dark; rw [h]; rfl
theorem Sb {d : D} (h : d.fused = false) (hl : d.loose = []) {a : Nat} {L : List (List UInt8)} (hn : a + L.length <= d.firm.length) (hb : ∀ b ∈ L, b.length <= 64) :
  (ph d a L).loose = [] /\ (ph d a L).firm = oz d.firm (wl a L) /\ (ph d a L).fused = false := by
 obtain ⟨hP, _, hf⟩ := ajt ⟨hl, rt h⟩ hn hb
 have hf := hf h
 cases hP with
 | done h1 h2 => exact ⟨h1, h2, hf⟩
 | cut h1 _ _ _ => rw [rt hf] at h1; cases h1
theorem Tt {d : D} (hO : d.OK) (hf : d.fused = false) (hl : d.loose = []) (hlo : 64 <= d.firm.length) : (rh d).fused = false /\ Live (rh d) /\ Vd d.firm.length (rh d).firm 1 0 [] [] 0 := by
 obtain ⟨n, hn⟩ : ∃ n, d.firm.length = n := ⟨_, rfl⟩
 have hhi : n <= 4096 := by rw [<- hn]; exact hO.n
 rw [hn] at hlo |-
 obtain ⟨p1, p2⟩ := qx hlo
 obtain ⟨b0, b1⟩ := vy n
 have hD0 : Dn n d.firm := ⟨hlo, hhi, hn, hO.f64⟩
 have hrep : ∀ b ∈ List.replicate (2 + jn n) ([] : List UInt8), b.length <= 64 := fun b hb => by rw [List.eq_of_mem_replicate hb]; simp
 obtain ⟨f1, f2, f3⟩ := Sb hf hl (a := 0) (L := List.replicate (2 + jn n) []) (by rw [List.length_replicate]; omega) hrep
 have hpb : dt [] = some [eu 0 []] := yh
 have h256 := mi hpb
 have hfl := rn (k := 256) [eu 0 []] h256
 obtain ⟨hs1, hs2, _⟩ := wj (k := 64) (by omega) 4 ([eu 0 []] : Sec).flatten (by rw [hfl]; rfl)
 have hs2' : ∀ b ∈ pcs 64 ([eu 0 []] : Sec).flatten, b.length <= 64 := fun b hb => by rw [hs2 b hb]; exact Nat.le_refl _
 have hd : rh d = xv (ph d 0 (List.replicate (2 + jn n) [])) [eu 0 []] 0 1 := by unfold rh; rw [hn]; rfl
 have hn1 : (ph d 0 (List.replicate (2 + jn n) [])).firm.length = n := by rw [afw, hn]
 rw [hd, Kc, hn1]
 have hD1 : Dn n (ph d 0 (List.replicate (2 + jn n) [])).firm := by rw [f2]; exact hD0.sub hrep (.refl _)
 have hz : ∀ i, i < 2 + jn n -> (ph d 0 (List.replicate (2 + jn n) [])).firm[i]? = some z64 := fun i hi => by
  have := Mp (List.replicate (2 + jn n) []) d.firm 0 i (by rw [List.length_replicate]; omega) (by rw [List.length_replicate]; exact hi)
  rw [Nat.zero_add] at this
  rw [f2, this, List.getElem?_replicate, if_pos hi]
  rfl
 generalize ph d 0 (List.replicate (2 + jn n) []) = d1 at f1 f3 hn1 hD1 hz
 have han : 4 * 1 <= 4 * an n := by omega
 obtain ⟨g1, g2, g3⟩ := Sb f3 f1 (a := lm n 0) (L := pcs 64 ([eu 0 []] : Sec).flatten) (by rw [hs1, hn1]; omega) hs2'
 have hA := abc (a := 0) (F := d1.firm) (by omega) hD1 (by rw [hs1]; omega) hs2
 rw [hs1] at hA
 have hn2 : (ph d1 (lm n 0) (pcs 64 ([eu 0 []] : Sec).flatten)).firm.length = n := by rw [afw, hn1]
 have hz2 : ∀ i, i < 2 + jn n -> (ph d1 (lm n 0) (pcs 64 ([eu 0 []] : Sec).flatten)).firm[i]? = some z64 := fun i hi => by
  rw [g2, Js (.refl _) (.inl (by omega)), hz i hi]
 have hD2 : Dn n (ph d1 (lm n 0) (pcs 64 ([eu 0 []] : Sec).flatten)).firm := by rw [g2]; exact hD1.sub hs2' (.refl _)
 rw [<- g2] at hA
 generalize ph d1 (lm n 0) (pcs 64 ([eu 0 []] : Sec).flatten) = d2 at g1 g3 hn2 hz2 hD2 hA
 have hpl : ([eu 0 []] : Sec).length = 1 := rfl
 rw [hpl]
 have hh64 : ∀ b ∈ [gb 1 0 1], b.length <= 64 := fun b hb => by rw [List.mem_singleton.1 hb, qz]; exact Nat.le_refl _
 obtain ⟨k1, k2, k3⟩ := Sb g3 g1 (a := 1 % 2) (L := [gb 1 0 1]) (by rw [hn2]; simp only [List.length_singleton]; omega) hh64
 have hset : oz d2.firm (wl (1 % 2) [gb 1 0 1]) = d2.firm.set 1 (gb 1 0 1) := by
  show d2.firm.set (1 % 2) (pad _) = _
  rw [Mv qz]
 have hD3 : Dn n (d2.firm.set 1 (gb 1 0 1)) := by rw [<- hset]; exact hD2.sub hh64 (.refl _)
 rw [hset] at k2
 refine ⟨k3, ⟨k1, rt k3⟩, ?_⟩
 rw [k2]
 have ne : ∀ i, 2 <= i -> (d2.firm.set 1 (gb 1 0 1))[i]? = d2.firm[i]? := fun i hi => List.getElem?_set_ne (by omega)
 refine ⟨hD3, by omega, by omega, by omega, ⟨[eu 0 []], ⟨?_, fun x hx => ?_⟩, yg hlo, ?_⟩, by simp [cg], rfl, Nat.zero_le _, fun i b _ hi hb => ?_, fun c hc => (by cases hc), ⟨_, yg hlo⟩, fun i b hi hb => ?_⟩
 ·show jq n ((d2.firm.set 1 (gb 1 0 1)).getD 1 []) = _
  rw [List.getD_eq_getElem?_getD, List.getElem?_set_self (by omega)]
  exact Ak (by omega) (by omega) (by omega) (Nat.le_refl 1) (by show 1 <= an n; omega) hhi
 ·have hx : jq n ((d2.firm.set 1 (gb 1 0 1)).getD 0 []) = some x := hx
  rw [List.getD_eq_getElem?_getD, List.getElem?_set_ne (by omega), hz2 0 (by omega)] at hx
  have hx : jq n z64 = some x := hx
  rw [Qo] at hx; cases hx
 ·rw [hpl, <- hA]
  exact ou fun i hi => ne _ (by omega)
 ·rw [ne _ (by omega), hz2 _ (by omega)] at hb
  cases hb
  exact (Mu 1).1
 ·rw [ne _ (by omega), hz2 _ (by omega)] at hb
  cases hb
  exact (Mu 1).2
theorem Jf {d : D} {k : Nat} (h : d.Lim (k + 2000)) (hn : d.firm.length <= 4096) : (rh d).Lim k := by
 have hj := (gy hn).1
 have h256 := mi yh
 have hps : (pcs 64 ([eu 0 []] : Sec).flatten).length = 4 := by
  have hfl := rn (k := 256) [eu 0 []] h256
  exact (wj (k := 64) (by omega) 4 ([eu 0 []] : Sec).flatten (by rw [hfl]; rfl)).1
 unfold rh
 refine ya (ow (nh _ _ _ _ (h.le ?_)))
 rw [List.length_replicate, hps]; omega
theorem Cs {h : ah} {p : Nat} {f l : Option Nat} {d : D} (hD : ed h p f l d) (hf : d.fused = false) (hl : d.loose = []) (hlo : 64 <= d.firm.length) {k : Nat} (hL : d.Lim (k + 2000)) :
  Ret F 11 [.ptr p 0] h fun v g => v = vi .u16 0 /\ ∃ l' d', Moved h g p f l l' d' /\ d'.fused = false /\ Live d' /\ Vd d.firm.length d'.firm 1 0 [] [] 0 /\ d'.Lim k := by
 obtain ⟨v, g, n1, rfl, l', M⟩ := Pc hD hlo (hL.le (by have := (gy hL.ok.n).1; omega))
 obtain ⟨a1, a2, a3⟩ := Tt hL.ok hf hl hlo
 exact ⟨_, g, n1, rfl, l', _, M, a1, a2, a3, Jf hL hL.ok.n⟩
open Go Go.Vm
theorem RowsE.setV {els : List (List CV)} {rows : List KV} (h : RowsE els rows) {i : Nat} {k v : List UInt8} (hi : rows[i]? = some (k, v)) {c : CV} (hc : SlV 1 (eB v) (.cv c)) : RowsE (els.set i [.sc (.string ⟨k.toArray⟩), c]) rows := by
 induction h generalizing i with
 | nil => simp at hi
 | cons h t ih =>
  cases i with
  | zero => cases hi; exact .cons ⟨c, rfl, hc⟩ t
  | succ i => exact .cons h (ih (by simpa using hi))
theorem f42_loop {rows : List KV} (hl : rows.length <= 1000000) (hv : ∀ r ∈ rows, r.2.length <= 1000000000) {uo : VV} {id g : Nat} (huo : uo = .own id g 0 rows.length false) : ∀ (r i : Nat) (els : List (List CV)) (s : List VV) (h : ah) (Q : Pst), i + r = rows.length -> h[id]? = some (.arr 2 els g false) -> rows.length <= els.length -> RowsE (els.take rows.length) rows ->
  s.length = 24 -> s.getD 3 .undef = uo -> s.getD 8 .undef = uo -> s.getD 9 .undef = vi .i64 rows.length -> s.getD 10 .undef = vi .i64 i ->
  (∀ s' h' els', s'.length = 24 -> s'.getD 3 .undef = uo -> h'[id]? = some (.arr 2 els' g false) -> rows.length <= els'.length -> RowsE (els'.take rows.length) rows -> Q (.exit 0) ⟨s', h'⟩) -> X F (.loop f42_1) ⟨s, h⟩ Q := by
 intro r
 induction r with
 | zero =>
  intro i els s h Q hi hb hfl hR hs e3 e8 e9 e10 hQ
  have c : ¬ ((i : Nat) : Int) < (rows.length : Int) := by omega
  rw [az, bf f42_1.eq_1]
  simp only [go_sem, seval, hs, e9, e10, c]
  rw [bf f42_0.eq_1]
  simp only [go_sem, seval, hs]
  exact hQ _ _ els (by simp only [ad, hs]) (by simp only [go_sem, seval, hs, e3]) hb hfl hR
 | succ r ih =>
  intro i els s h Q hi hb hfl hR hs e3 e8 e9 e10 hQ
  have c : ((i : Nat) : Int) < (rows.length : Int) := by omega
  obtain ⟨e, kv, a1, a2, cc, rfl, a3⟩ := hR.get (i := i) (by omega)
  rw [List.getElem?_take_of_lt (by omega)] at a1
  subst huo
  have ia : ∀ {g' : ah}, g'[id]? = some (.arr 2 els g false) -> iaO g' 2 (.own id g 0 rows.length false) (vi .i64 (i : Int)) = some (.eptr id g i 0, g') := fun {g'} hg => by
   rw [Ab (by omega) hg (by omega)]; simp
  have ld2 : ldO h true 2 (.eptr id g i 0) = some (.agg [txt kv.1, .cv cc], h) := by
   simp [ldO, ai, me, hb, a1, dj]
  have hb2 : (h ++ [VO.box [txt kv.1, .cv cc] false])[id]? = some (.arr 2 els g false) := (HExt.push h _).get hb
  have q5 : (h ++ [VO.box [txt kv.1, .cv cc] false])[h.length]? = some (.box [txt kv.1, .cv cc] false) := bm
  have ld5 : ldO (h ++ [VO.box [txt kv.1, .cv cc] false]) false 1 (.ptr h.length 1) = some (.cv cc, _) := ba q5 rfl
  obtain ⟨v5, g5, n5, w5, r5, S5⟩ := Cp a3 (hv kv (List.mem_of_getElem? a2))
  obtain ⟨c5, rfl⟩ : ∃ c5, w5 = .cv c5 := by rcases S5 with ⟨rfl, _⟩ | ⟨ex, rfl⟩ <;> exact ⟨_, rfl⟩
  have clc : ∀ g' : ah, ce g' [.cv cc] = some ([.cv cc], g') := fun g' => rfl
  have st5 := alj (off := 1) (c := c5) hb2 a1 (by show 1 < 2; decide)
  have hwr : IntKind.i64.wrap ((i : Int) + 1) = ((i + 1 : Nat) : Int) := by rw [IntWalk.i64_in _ (by omega)]; omega
  have fd : fdO 1 (.eptr id g i 0) = some (.eptr id g i 1) := rfl
  rw [az, bf f42_1.eq_1]
  simp only [go_sem, seval, hs, e9, e10, c]
  rw [bf f42_0.eq_1]
  simp only [go_sem, seval, hs, e8, e10, ia hb, ld2]
  simp only [go_sem, seval, hs, e3, e8, e10, ld5]
  refine ap (by simp only [List.map, go_sem, seval, hs]; exact clc _) n5 r5 ?_
  simp only [go_sem, seval, hs, ia hb2, fd, st5, e10, hwr]
  refine ih (i + 1) _ _ _ Q (by omega) (List.getElem?_set_self (dp hb2)) (by rw [List.length_set]; exact hfl) (by rw [List.take_set]; exact hR.setV (k := kv.1) (v := kv.2) a2 S5) (by simp only [ad, hs]) (by simp only [go_sem, seval, hs, e3]) (by simp only [go_sem, seval, hs, e8]) (by simp only [go_sem, seval, hs, e9]) (by simp only [go_sem, seval, hs]) hQ
theorem Pf {rows : List KV} {els : List (List CV)} {u : VV} (hu : SlV 2 els u) (hR : RowsE els rows) (hl : rows.length ≤ 1000000) (hv : ∀ r ∈ rows, r.2.length ≤ 1000000000) : Cc F 42 [u] fun w => ∃ els', SlV 2 els' w ∧ RowsE els' rows := by
  have hel := hR.len
  obtain ⟨v6, g6, n6, B6⟩ := Cu (h := []) hu.vf (by omega)
  rcases B6.v with ⟨e6, rfl⟩ | ⟨e6, rfl⟩ | ⟨id, gg, full, _, rfl, a2, a3, a4⟩
  · have hr : rows.length = 0 := by rw [← hel, e6]; rfl
    have : Ret F 42 [u] [] fun v g => v = cj := by
      refine eE1 (fn := f42) (n := 24) rfl rfl fun s hs h0 => ?_
      simp only [f42]
      have c : ¬ ((0 : Int) < 0) := by decide
      simp only [go_sem, seval, hs, h0]
      refine ao (by simp only [List.map, go_sem, seval, hs, h0]; exact n6) ?_
      simp only [go_sem, seval, hs]
      rw [az, bf f42_1.eq_1]
      simp only [go_sem, seval, hs]
      rw [bf f42_0.eq_1]
      simp only [go_sem, seval, hs]
      all_goals trivial
    obtain ⟨v, g, n1, rfl⟩ := this
    exact ⟨_, g, n1, _, rfl, els, .inl ⟨rfl, e6⟩, hR⟩
  · have hr : rows.length = 0 := by rw [← hel, e6]; rfl
    have : Ret F 42 [u] [] fun v g => v = .cv (.sl 2 [] true) := by
      refine eE1 (fn := f42) (n := 24) rfl rfl fun s hs h0 => ?_
      simp only [f42]
      simp only [go_sem, seval, hs, h0]
      refine ao (by simp only [List.map, go_sem, seval, hs, h0]; exact n6) ?_
      have hln : lnO false (.cv (.sl 2 [] true)) = some (vi .i64 0) := rfl
      simp only [go_sem, seval, hs, hln]
      rw [az, bf f42_1.eq_1]
      simp only [go_sem, seval, hs]
      rw [bf f42_0.eq_1]
      simp only [go_sem, seval, hs]
      all_goals trivial
    obtain ⟨v, g, n1, rfl⟩ := this
    exact ⟨_, g, n1, _, rfl, els, .inr ⟨true, by rw [e6]⟩, hR⟩
  · have : Ret F 42 [u] [] fun v g => v = .own id gg 0 rows.length false ∧ ∃ els', g[id]? = some (.arr 2 els' gg false) ∧ rows.length ≤ els'.length ∧ RowsE (els'.take rows.length) rows := by
      rw [hel] at a3 a4 n6
      have hln : lnO false (.own id gg 0 rows.length false) = some (vi .i64 rows.length) := rfl
      refine eE1 (fn := f42) (n := 24) rfl rfl fun s hs h0 => ?_
      simp only [f42]
      simp only [go_sem, seval, hs, h0]
      refine ao (by simp only [List.map, go_sem, seval, hs, h0]; exact n6) ?_
      simp only [go_sem, Nat.reduceLT, Nat.reduceEqDiff, reduceCtorEq, Int.reduceLT, Int.reduceEq, hs, hln]
      refine f42_loop hl hv rfl rows.length 0 full _ _ _ (by omega) a2 a3 (by rw [← a4]; exact hR) (by simp only [ad, hs]) (by simp only [go_sem, Nat.reduceLT, Nat.reduceEqDiff, reduceCtorEq, Int.reduceLT, Int.reduceEq, hs]) (by simp only [go_sem, Nat.reduceLT, Nat.reduceEqDiff, reduceCtorEq, Int.reduceLT, Int.reduceEq, hs]) (by simp only [go_sem, Nat.reduceLT, Nat.reduceEqDiff, reduceCtorEq, Int.reduceLT, Int.reduceEq, hs]) (by simp only [go_sem, Nat.reduceLT, Nat.reduceEqDiff, reduceCtorEq, Int.reduceLT, Int.reduceEq, hs]; rfl) (fun s' h' els' hs' k3 k4 k5 k6 => ?_)
      simp only [go_sem, seval, hs', k3]
      exact ⟨trivial, els', k4, k5, k6⟩
    obtain ⟨v, g, n1, rfl, els', k4, k5, k6⟩ := this
    refine ⟨_, g, n1, .cv (.sl 2 (els'.take rows.length) false), ?_, _, .inr ⟨false, rfl⟩, k6⟩
    have : ic g (.own id gg 0 rows.length false) = some (.cv (.sl 2 (els'.take rows.length) false), g.set id (.arr 2 els' gg true)) := by
      simp only [ic, Go.Vm.clos, k4, Nat.zero_add, k5, and_self, if_true, List.drop_zero]
    simp only [au, this, Option.map]
theorem Eu {h : ah} {q p : Nat} {f l : Option Nat} {z : S} (hS : StoreAt h q p f l z) (hl : z.rows.length <= 1000000) (hv : ∀ r ∈ z.rows, r.2.length <= 1000000000) : ∃ w els, call F 16 [.ptr q 0] h = some (.ret w, h) /\ SlV 2 els w /\ RowsE els z.rows := by
 obtain ⟨u, els, hb, hU, hR⟩ := hS.box
 obtain ⟨v4, g4, n4, w4, y4, els4, S4, R4⟩ := Pf hU hR hl hv
 have clu : ce h [u] = some ([u], h) := by rcases hU with ⟨rfl, _⟩ | ⟨ex, rfl⟩ <;> rfl
 have l1 : ldO h false 1 (.ptr q 1) = some (u, h) := ba hb rfl
 have : Ret F 16 [.ptr q 0] h fun v g => v = w4 /\ g = h := by
  refine eE1 (fn := f16) (n := 10) rfl rfl fun s hs h0 => ?_
  simp only [f16]
  simp only [go_sem, seval, hs, h0]
  rw [bf f16_0.eq_1]
  simp only [go_sem, seval, hs, h0, l1]
  refine ap (h1 := h) (by simp only [List.map, go_sem, seval, hs]; exact clu) n4 y4 ?_
  simp only [go_sem, seval, hs]
  all_goals trivial
 obtain ⟨v, g, e, rfl, rfl⟩ := this
 exact ⟨_, els4, e, S4, R4⟩
theorem Zt {h : ah} {q p : Nat} {f l : Option Nat} {z : S} (hS : StoreAt h q p f l z) : call F 21 [.ptr q 0] h = some (.ret (vi .i64 z.used), h) := by
 obtain ⟨u, els, hb, hU, hR⟩ := hS.box
 have l5 : ldO h false 1 (.ptr q 5) = some (vi .i64 z.used, h) := ba hb rfl
 have : Ret F 21 [.ptr q 0] h fun v g => v = vi .i64 z.used /\ g = h := by
  refine eE1 (fn := f21) (n := 9) rfl rfl fun s hs h0 => ?_
  simp only [f21]
  simp only [go_sem, seval, hs, h0]
  rw [bf f21_0.eq_1]
  simp only [go_sem, seval, hs, h0, l5]
  all_goals trivial
 obtain ⟨v, g, e, rfl, rfl⟩ := this
 exact e
theorem Hf {h : ah} {q p : Nat} {f l : Option Nat} {z : S} (hS : StoreAt h q p f l z) : call F 20 [.ptr q 0] h = some (.ret (vi .i64 z.e), h) := by
 obtain ⟨u, els, hb, hU, hR⟩ := hS.box
 have l2 : ldO h false 1 (.ptr q 2) = some (vi .i64 z.e, h) := ba hb rfl
 have : Ret F 20 [.ptr q 0] h fun v g => v = vi .i64 z.e /\ g = h := by
  refine eE1 (fn := f20) (n := 10) rfl rfl fun s hs h0 => ?_
  simp only [f20]
  simp only [go_sem, seval, hs, h0]
  rw [bf f20_0.eq_1]
  simp only [go_sem, seval, hs, h0, l2]
  all_goals trivial
 obtain ⟨v, g, e, rfl, rfl⟩ := this
 exact e
open Go Go.Vm
theorem ahv {n : Nat} {z : S} {c : List Ch} (hM : Mem n z) (hn : c ≠ []) (hl : c.any lng = false) (he : z.e < 1073741823) (hfr : z.fr <= 1073741824) (hroom : ∃ p, ey n (df z.rows c) = some p) (hp : (pcs 49 (gu c)).length <= 200) (hj : (pcs 49 (gu c)).length <= jn n) : (bw z c).2 = 0 := by
 obtain ⟨pA, hrm⟩ := hroom
 obtain ⟨pg0, hr0⟩ := hM.room
 have hps : ∃ ps, ek z.e z.fr c = some ps /\ ps.length = (pcs 49 (gu c)).length := by
  have h1 := uw.2 (show z.e <= 1073741824 by omega)
  have h2 := uw.2 hfr
  unfold ek
  generalize ka (z.e : Int) = x1 at h1
  generalize ka (z.fr : Int) = x2 at h2
  subst h1 h2
  exact ⟨_, if_pos ⟨rfl, rfl, hp⟩, ko _ _⟩
 obtain ⟨ps, hpf, hpl⟩ := hps
 obtain ⟨ps', hp2, _⟩ := wy hpf (e' := z.e + 1) (by omega)
 unfold bw
 rw [if_neg hn, if_neg (by rw [hl]; decide), hM.dn, hrm, hpf]
 dsimp only
 rw [if_neg (by show ¬ jn n < ps.length; omega)]
 by_cases c3 : (bg n).1 < z.used + ps.length
 ·rw [if_pos c3, hr0, hp2]
 ·rw [if_neg c3]
theorem aek : ∃ p, ey 64 (df [] [([97], [], false)]) = some p := by
 have h1 : df [] [([97], [], false)] = [([97], [])] := by rfl
 have h2 : ∃ p, dt [([97], [])] = some [p] := ⟨_, by rfl⟩
 obtain ⟨p, h2⟩ := h2
 refine ⟨[p], ?_⟩
 rw [h1]
 unfold ey
 rw [h2]
 rfl
abbrev kc : List Ch := [([97], [], false)]
theorem amk : ChsE [[.sc (.string ⟨#[97]⟩), .sc (.slice none 0 0), .sc (.bool false)]] kc := .cons ⟨_, rfl, .inl ⟨rfl, rfl⟩⟩ .nil
theorem Sz : (pcs 49 (gu kc)).length <= 16 := by
 have h := Vc (k := 49) (by omega) (gu kc).length (gu kc) (Nat.le_refl _)
 have : (gu kc).length <= 10 := by
  have : gu kc = num (ju (kc.length : Nat)) ++ (kc.map chB).flatten := rfl
  rw [this, List.length_append]
  have h1 : (num (ju (kc.length : Nat))).length <= 4 := by decide
  have h2 : ((kc.map chB).flatten).length <= 6 := by decide
  omega
 omega
theorem aeb (n : Nat) (hn : n <= 4096) : (Qd n).OK := by
 refine ⟨fun b hb => ?_, fun o ho => (by cases ho), ?_, by simp [Qd], by show 0 < 1000000; omega, by show 0 < 1000000; omega⟩
 ·rw [List.eq_of_mem_replicate hb]; simp [z64]
 ·show (List.replicate n z64).length <= 4096; rw [List.length_replicate]; exact hn
theorem Nu (n : Nat) (hn : n <= 4096) : (Qd n).Lim 700000 := ⟨aeb n hn, by show 0 + 700000 < 800000; omega, by show 0 + 700000 < 800000; omega, by show 0 + 700000 < 800000; omega⟩
theorem Oq (n : Nat) : (Qd n).firm.length = n := by show (List.replicate n z64).length = n; rw [List.length_replicate]
theorem Se {h h1 h2 : ah} {p : Nat} {l' : Option Nat} {d : D} (e : Ext h h1) (hp : h.length <= p) {fi : Nat} (hf : h.length <= fi) (m : Moved h1 h2 p (some fi) none l' d) : Ext h h2 :=
 ⟨Nat.le_trans e.len m.kept.len, fun j hj => by rw [m.kept.same j (Nat.lt_of_lt_of_le hj e.len) (by omega) (by intro h; cases h; omega) (by intro h; cases h), e.same j hj]⟩
theorem RowsE.vals {n : Nat} {rows : List KV} {p : Sec} (h : ey n rows = some p) : rows.length <= 5000 := by
 have := (gw h).1
 unfold dt at this
 split at this
 ·rename_i c; exact c.2
 ·cases this
theorem Ny : ∀ (l : List KV) (n : Nat), nr n l = l.length -> ab6 l
 | [], n, _ => fun p hp => by cases hp
 | p :: l, n, h => by
  simp only [nr, List.length_cons] at h
  split at h
  ·omega
  ·rename_i c1
   split at h
   ·omega
   ·intro q hq
    rcases List.mem_cons.1 hq with rfl | hq
    ·omega
    ·exact Ny l (n + (1 + (iw p).length)) (by omega) q hq
theorem Tx {n : Nat} {rows : List KV} {p : Sec} (h : ey n rows = some p) : ab6 rows := by
 obtain ⟨up, _, _, _, e4⟩ := nc (gw h).1
 intro r hr
 rw [<- e4] at hr
 obtain ⟨g, hg, hr⟩ := List.mem_flatten.1 hr
 exact Ny g 0 (Ku rows g hg) r hr
structure New (h : ah) (n k : Nat) (g : ah) (q p : Nat) (f : Nat) (l' : Option Nat) (z : S) : Prop where
 ext : Ext h g
 hq : h.length <= q
 hp : h.length <= p
 hf : h.length <= f
 hl : ∀ i, l' = some i -> h.length <= i
 st : StoreAt g q p (some f) l' z
 rw_ : z.rows = []
 e2 : z.e = 2
 us : z.used = 0
 fr : z.fr = 0
 mem : Mem n z
 run : Run n z
 nf : z.d.fused = false
 lim : z.d.Lim k
theorem Uy (h : ah) : ∃ g, call F 12 [] h = some (.ret (vb true), g) /\ Ext h g := by
 obtain ⟨h1, n1, D1, l1, k1⟩ := Jv 64 (by omega) h
 have e1 : Ext h h1 := ⟨l1, k1⟩
 obtain ⟨v2, h2, n2, rfl, lA, dA, MA, f2, L2, V2, B2⟩ := Cs D1 rfl rfl (by rw [Oq]; omega) (k := 690000) ((Nu 64 (by omega)).le (by omega))
 rw [Oq] at V2
 obtain ⟨v3, h3, n3, q, lB, z, rfl, hq, MB, SB, OB⟩ := Me MA.dev L2.loose V2.rc (by omega) (k := 680000) (B2.le (by omega))
 have hR := OB.run (rt (OB.nf f2))
 have hrw : z.rows = [] := OB.rw_
 have hE : z.e = 2 := OB.ep
 have hU := OB.us
 have hF := OB.fr
 have MAB := MA.trans MB
 obtain ⟨w4, els4, n4, S4, R4⟩ := Eu SB (by rw [hrw]; simp) (by rw [hrw]; intro r hr; cases hr)
 rw [hrw] at R4
 have el4 : els4.length = 0 := R4.len
 have hP : PreC z kc := ⟨OB.lim.ok, by rw [hrw]; simp, by simp, by have := Sz; have := zh (k := 49) (by omega) _ (gu kc) (Nat.le_refl _); have e : (ll 49 (gu kc).length (gu kc)).length = (pcs 49 (gu kc)).length := rfl; omega, fun x hx => by rw [List.mem_singleton.1 hx]; simp⟩
 obtain ⟨pg0, hr0⟩ := OB.mem.room
 have hdn := OB.mem.dn
 obtain ⟨v5, h5, n5, rfl, lC, MC⟩ := By SB (uc := .cv (.sl 3 [[.sc (.string ⟨#[97]⟩), .sc (.slice none 0 0), .sc (.bool false)]] true)) (.inr ⟨true, rfl⟩) amk hP (by rw [hdn]; exact hr0) OB.mem.a1 (by omega) (by omega) (by omega) (OB.lim.le (by omega))
 have ha := ahv (c := kc) OB.mem (by simp) rfl (by omega) (by omega) (by rw [hrw]; exact aek) (by have := Sz; omega) (by have := Sz; show _ <= 16; omega)
 have hy := (Da (c := kc) OB.mem (by omega) (by simp) (fun x hx _ => by rw [List.mem_singleton.1 hx])).yes ha
 rw [ha] at n5
 have n5 : call F 14 [.ptr q 0, .cv (.sl 3 [[.sc (.string ⟨#[97]⟩), .sc (.slice none 0 0), .sc (.bool false)]] true)] h3 = some (.ret (vi .u16 0), h5) := n5
 have hk1 : df [] kc = [([97], [])] := by rfl
 rw [hrw, hk1] at hy
 obtain ⟨w6, els6, n6, S6, R6⟩ := Eu MC.st (by rw [hy]; simp) (by rw [hy]; intro r hr; rw [List.mem_singleton.1 hr]; simp)
 rw [hy] at R6
 have el6 : els6.length = 1 := R6.len
 have nU := Hf SB
 rw [hE] at nU
 obtain ⟨v30, g30, m30, w30, y30, rfl⟩ := tx (n := 64) (by omega) (by omega)
 have p64 : bg (64 : Int).toNat = (16, 5) := by rfl
 rw [p64] at y30
 have y30 : au g30 v30 = some (.tup [vi .i64 16, vi .i64 5]) := y30
 have nU : call F 20 [.ptr q 0] h3 = some (.ret (vi .i64 2), h3) := nU
 have s4 := S4.ln
 rw [el4] at s4
 have s4 : lnO false w4 = some (vi .i64 0) := s4
 have s6 := S6.ln
 rw [el6] at s6
 have s6 : lnO false w6 = some (vi .i64 1) := s6
 suffices hx : Ret F 12 [] h fun v g => v = vb true /\ Ext h g by
  obtain ⟨v, g, a1, rfl, a2⟩ := hx
  exact ⟨g, a1, a2⟩
 have ext : Ext h h5 := by
  have k2 := MC.kept
  have x3 : Ext h h3 := Se e1 (by omega) (by omega) MAB
  refine ⟨Nat.le_trans x3.len k2.len, fun j hj => ?_⟩
  have hq' : h.length <= q := Nat.le_trans e1.len (Nat.le_trans MA.kept.len hq)
  rw [k2.same j (Nat.lt_of_lt_of_le hj x3.len) (by omega) (by omega) (by intro h; cases h; omega) (fun e => ?_), x3.same j hj]
  rcases MAB.new j e with e' | e'
  ·cases e'
  ·have := e1.len; omega
 refine eE0 (fn := f12) (n := 57) rfl rfl fun s hs => ?_
 simp only [f12]
 simp only [go_sem, seval, hs]
 refine ap (h1 := h) (by simp only [List.map, go_sem, seval, hs]; rfl) m30 y30 ?_
 simp only [go_sem, seval, hs]
 refine ao (by simp only [List.map, go_sem, seval, hs]; exact n1) ?_
 simp only [go_sem, seval, hs]
 rw [bf f12_0.eq_1]
 simp only [go_sem, seval, hs]
 refine ao (by simp only [List.map, go_sem, seval, hs]; exact n2) ?_
 simp only [go_sem, seval, hs]
 refine ao (by simp only [List.map, go_sem, seval, hs]; exact n3) ?_
 simp only [go_sem, seval, hs]
 refine ao (by simp only [List.map, go_sem, seval, hs]; exact nU) ?_
 simp only [go_sem, seval, hs]
 refine ao (by simp only [List.map, go_sem, seval, hs]; exact n4) ?_
 have bdk : bdO [VV.cv (CV.sc (Value.string ⟨#[]⟩)), VV.cv (CV.sc (Value.slice none 0 0)), VV.cv (CV.sc (Value.bool false))] [(0, 1, VV.cv (CV.sc (Value.string ⟨#[97]⟩)))] = some (.agg [.cv (.sc (.string ⟨#[97]⟩)), cj, vb false]) := rfl
 have mkk : ∀ g : ah, mkO g 3 1 [.cv (.sc (.string ⟨#[]⟩)), .cv (.sc (.slice none 0 0)), .cv (.sc (.bool false))] [(0, 3, .agg [.cv (.sc (.string ⟨#[97]⟩)), cj, vb false])] = some (.cv (.sl 3 [[.sc (.string ⟨#[97]⟩), .sc (.slice none 0 0), .sc (.bool false)]] true), g) := fun g => rfl
 simp only [go_sem, seval, hs, s4, bdk, mkk]
 refine ao (by simp only [List.map, go_sem, seval, hs]; exact n5) ?_
 simp only [go_sem, seval, hs]
 refine ao (by simp only [List.map, go_sem, seval, hs]; exact n6) ?_
 simp only [go_sem, seval, hs, s6]
 exact ⟨trivial, ext⟩
open Go Go.Vm
def sz (k : UInt8) : Nat := match k.toNat % 6 with
 | 0 => 64 | 1 => 65 | 2 => 80 | 3 => 100 | 4 => 128 | _ => 200
theorem akp (k : UInt8) : 64 <= sz k /\ sz k <= 200 := by unfold sz; split <;> omega
theorem Yu (k : UInt8) : Cc F 22 [vi .u8 k.toNat] fun w => w = vi .i64 (sz k : Nat) := by
  have : Ret F 22 [vi .u8 k.toNat] [] fun v _ => v = vi .i64 (sz k : Nat) := by
    have q6 : (6 : Int) ≠ 0 := by decide
    have em : (k.toNat : Int).tmod 6 = ((k.toNat % 6 : Nat) : Int) := rfl
    have hm : k.toNat % 6 < 6 := Nat.mod_lt _ (by decide)
    have mk6 : ∀ g : ah, mkO g 1 6 [.cv (.sc (.int .i64 0)), .cv (.sc (.int .i64 0)), .cv (.sc (.int .i64 0)), .cv (.sc (.int .i64 0)), .cv (.sc (.int .i64 0)), .cv (.sc (.int .i64 0))]
        [(0, 1, .cv (.sc (.int .i64 64))), (1, 1, .cv (.sc (.int .i64 65))), (2, 1, .cv (.sc (.int .i64 80))), (3, 1, .cv (.sc (.int .i64 100))), (4, 1, .cv (.sc (.int .i64 128))), (5, 1, .cv (.sc (.int .i64 200)))] = some (.cv (.sl 1 [[.sc (.int .i64 64)], [.sc (.int .i64 65)], [.sc (.int .i64 80)], [.sc (.int .i64 100)], [.sc (.int .i64 128)], [.sc (.int .i64 200)]] true), g) := fun g => rfl
    have ia : ∀ (g : ah) (m : Nat) (c : CV), m < 6 → [CV.sc (.int .i64 64), .sc (.int .i64 65), .sc (.int .i64 80), .sc (.int .i64 100), .sc (.int .i64 128), .sc (.int .i64 200)][m]? = some c →
        iaO g 1 (.cv (.sl 1 [[.sc (.int .i64 64)], [.sc (.int .i64 65)], [.sc (.int .i64 80)], [.sc (.int .i64 100)], [.sc (.int .i64 128)], [.sc (.int .i64 200)]] true)) (vi .u8 (m : Int)) = some (.rptr [c], g) := by
      intro g m c hm hc
      match m, hm with
      | 0, _ => cases hc; rfl
      | 1, _ => cases hc; rfl
      | 2, _ => cases hc; rfl
      | 3, _ => cases hc; rfl
      | 4, _ => cases hc; rfl
      | 5, _ => cases hc; rfl
    have hsz : [CV.sc (.int .i64 64), .sc (.int .i64 65), .sc (.int .i64 80), .sc (.int .i64 100), .sc (.int .i64 128), .sc (.int .i64 200)][k.toNat % 6]? = some (.sc (.int .i64 (sz k : Nat))) := by
      unfold sz
      generalize k.toNat % 6 = m at hm
      match m, hm with
      | 0, _ => rfl
      | 1, _ => rfl
      | 2, _ => rfl
      | 3, _ => rfl
      | 4, _ => rfl
      | 5, _ => rfl
    have la : ∀ g : ah, ldO g false 1 (.rptr [.sc (.int .i64 (sz k : Nat))]) = some (vi .i64 (sz k : Nat), g) := fun g => jw
    refine eE1 (fn := f22) (n := 8) rfl rfl fun s hs h0 => ?_
    simp only [f22]
    simp only [go_sem, seval, hs, h0, mk6, zy q6, em, ia _ _ _ hm hsz, la]
    all_goals trivial
  obtain ⟨v, g, n1, rfl⟩ := this
  exact ⟨_, g, n1, _, rfl, rfl⟩
open Go Go.Vm
theorem ab3 {n : Nat} {z : S} {pg : Sec} (hr : ey n z.rows = some pg) {k : Nat} (h : z.d.Lim (k + 4 * an n + 3)) : (ckF z pg).d.Lim k := by
 show (xv z.d pg (1 - z.a) (z.e + 1)).Lim k
 have h2 : pg.length <= an n := (gw hr).2
 exact ya (by rw [oy hr]; exact h.le (by omega))
theorem Ma {z : S} {c : List Ch} {ps : Sec} {k : Nat} (h : z.d.Lim (k + ps.length + 1)) : (tr z c ps).d.Lim k := by
 show (po z.d (2 + z.used) ps).flush.Lim k
 exact ow (nh _ _ _ _ (h.le (by omega)))
def Eb (z : S) (c : List Ch) (j : Nat) (o1 o2 o3 o4 : Option Sec) : S × Nat := match o1, o2 with
  | some _, some ps => if j < ps.length then (z, 21) else
      if j < z.used + ps.length then
        match o3 with
        | some pg => match o4 with
          | some ps' => (tr (ckF z pg) c ps', 0)
          | none => (z, 21)
        | none => (z, 21)
      else (tr z c ps, 0)
  | _, _ => (z, 21)
theorem Dz {P : S × Nat -> Prop} {z : S} {c : List Ch} {j : Nat} {o1 o2 o3 o4 : Option Sec} (h21 : P (z, 21)) (hck : ∀ pg ps ps', o3 = some pg -> o2 = some ps -> o4 = some ps' -> ps.length <= j -> P (tr (ckF z pg) c ps', 0)) (hadd : ∀ ps, ps.length <= j -> P (tr z c ps, 0)) : P (Eb z c j o1 o2 o3 o4) := by
 unfold Eb
 cases o1 with
 | none => exact h21
 | some _ =>
  cases o2 with
  | none => exact h21
  | some ps =>
   dsimp only
   by_cases c2 : j < ps.length
   ·rw [if_pos c2]; exact h21
   ·rw [if_neg c2]
    by_cases c3 : j < z.used + ps.length
    ·rw [if_pos c3]
     cases o3 with
     | none => exact h21
     | some pg =>
      cases o4 with
      | none => exact h21
      | some ps' => exact hck pg ps ps' rfl rfl rfl (by omega)
    ·rw [if_neg c3]
     exact hadd ps (by omega)
theorem Rf {z : S} {c : List Ch} (hn : c ≠ []) (hl : ¬ c.any lng = true) : bw z c = Eb z c (bg z.d.firm.length).1 (ey z.d.firm.length (df z.rows c)) (ek z.e z.fr c) (ey z.d.firm.length z.rows) (ek ((z.e + 1 : Nat) : Int) 0 c) := by
 unfold bw Eb
 rw [if_neg hn, if_neg hl]
 generalize ek ((z.e + 1 : Nat) : Int) 0 c = o4
 generalize ek z.e z.fr c = o2
 generalize ey z.d.firm.length (df z.rows c) = o1
 generalize ey z.d.firm.length z.rows = o3
 cases o1 <;> cases o2 <;> cases o3 <;> cases o4 <;> rfl
theorem Qb {e n e' : Nat} {c : List Ch} {ps ps' : Sec} (h : ek e n c = some ps) (h' : ek (e' : Int) 0 c = some ps') : ps'.length = ps.length := by
 rw [(pe h).1, (pe (n := 0) h').1, ma, ma]
theorem vg {P : S × Nat -> Prop} {z : S} {c : List Ch} (h0 : P (z, 0)) (h3 : P (z, 3)) (h21 : P (z, 21)) (hck : ∀ pg ps', ey z.d.firm.length z.rows = some pg -> ps'.length <= (bg z.d.firm.length).1 -> P (tr (ckF z pg) c ps', 0)) (hadd : ∀ ps, ps.length <= (bg z.d.firm.length).1 -> P (tr z c ps, 0)) : P (bw z c) := by
 by_cases hn : c = []
 ·unfold bw; rw [if_pos hn]; exact h0
 by_cases hl : c.any lng = true
 ·unfold bw; rw [if_neg hn, if_pos hl]; exact h3
 rw [Rf hn hl]
 exact Dz h21 (fun pg ps ps' e1 e2 e3 e4 => hck pg ps' e1 (by rw [Qb e2 e3]; exact e4)) hadd
theorem Pl {n : Nat} {z : S} {c : List Ch} (hM : Mem n z) (hn : n <= 1000) {k : Nat} (h : z.d.Lim (k + 1000)) : (bw z c).1.d.Lim k := by
 obtain ⟨p1, p2⟩ := qx hM.lo
 have h0 : z.d.Lim k := h.le (by omega)
 refine vg (P := fun r => r.1.d.Lim k) h0 h0 h0 (fun pg ps' hr hps => ?_) (fun ps hps => ?_)
 ·rw [hM.dn] at hr hps
  have hps : ps'.length <= jn n := hps
  exact Ma (ab3 hr (h.le (by omega)))
 ·rw [hM.dn] at hps
  have hps : ps.length <= jn n := hps
  exact Ma (h.le (by omega))
theorem Oz : Cc F 12 [] fun w => w = vb true := by
 obtain ⟨g, n1, _⟩ := Uy []
 exact ⟨_, g, n1, _, rfl, rfl⟩
structure RunU (n : Nat) (z : S) (m : Nat) : Prop where
 mem : Mem n z
 run : Run n z
 nf : z.d.fused = false
 e : z.e + m <= 900000
 lim : z.d.Lim (1000 * m + 200000)
 e1 : 1 <= z.e
 n1 : n <= 1000
theorem RunU.fr {n m : Nat} {z : S} (h : RunU n z m) : z.fr <= 2000 /\ z.used <= 2000 := by
 have h1 := h.mem.fr
 have h2 := h.mem.used
 have h3 : jn n <= 1024 := (gy h.mem.hi).1
 omega
theorem RunU.room {n m : Nat} {z : S} (h : RunU n z m) : z.rows.length <= 5000 /\ ab6 z.rows := by
 obtain ⟨p, hp⟩ := h.mem.room
 exact ⟨RowsE.vals hp, Tx hp⟩
theorem Ub {z : S} {c : List Ch} : z.e <= (bw z c).1.e :=
 vg (P := fun r => z.e <= r.1.e) (Nat.le_refl _) (Nat.le_refl _) (Nat.le_refl _) (fun _ _ _ _ => Nat.le_succ _) (fun _ _ => Nat.le_refl _)
theorem RunU.commit {n m : Nat} {z : S} (h : RunU n z (m + 1)) {c : List Ch} (hc : c.length ≤ 5000) (hg : ∀ p ∈ c, p.2.2 = true → p.2.1 = []) : RunU n (bw z c).1 m := by
  have he := h.e
  have hC := Da h.mem (c := c) (by omega) hc hg
  have he2 := hC.e
  have he3 := Ub (z := z) (c := c)
  refine ⟨hC.mem, ?_, ?_, by omega, Pl h.mem h.n1 (h.lim.le (by omega)), by have := h.e1; omega, h.n1⟩
  · by_cases h0 : (bw z c).2 = 0 ∧ c ≠ []
    · obtain ⟨_, _, r3, r4⟩ := hC.run h.run h0.1 h0.2
      exact r3 (rt (r4 h.nf))
    · have : (bw z c).1 = z := hC.not (by
        by_cases h1 : (bw z c).2 = 0
        · by_cases h2 : c = []
          · exact .inr h2
          · exact absurd ⟨h1, h2⟩ h0
        · exact .inl h1)
      rw [this]; exact h.run
  · by_cases h0 : (bw z c).2 = 0 ∧ c ≠ []
    · obtain ⟨_, _, r3, r4⟩ := hC.run h.run h0.1 h0.2
      exact r4 h.nf
    · have : (bw z c).1 = z := hC.not (by
        by_cases h1 : (bw z c).2 = 0
        · by_cases h2 : c = []
          · exact .inr h2
          · exact absurd ⟨h1, h2⟩ h0
        · exact .inl h1)
      rw [this]; exact h.nf
theorem Je {h : ah} {q p : Nat} {f l : Option Nat} {z : S} {n m : Nat} (hS : StoreAt h q p f l z) (hU : RunU n z (m + 1)) {ec : List (List CV)} {c : List Ch} {uc : VV} (hu : SlV 3 ec uc) (hC : ChsE ec c) (hcl : c.length <= 5000) (hcb : (gu c).length <= 1000000) (hcv : ∀ x ∈ c, x.2.1.length <= 1000000000) (hg : ∀ p ∈ c, p.2.2 = true -> p.2.1 = []) :
  ∃ g l', call F 14 [.ptr q 0, uc] h = some (.ret (vi .u16 (bw z c).2), g) /\ MovedS h g q p f l l' (bw z c).1 /\ RunU n (bw z c).1 m := by
 obtain ⟨pg0, hr0⟩ := hU.mem.room
 have hr1 := hU.room
 have hfr := hU.fr
 have he := hU.e
 have hdn := hU.mem.dn
 obtain ⟨v, g, n1, rfl, l', M⟩ := By hS hu hC ⟨hU.lim.ok, by omega, hcl, hcb, hcv⟩ (by rw [hdn]; exact hr0) hU.mem.a1 (by omega) (by omega) hfr.2 (hU.lim.le (by omega))
 exact ⟨g, l', n1, M, hU.commit hcl hg⟩
open Go Go.Vm
theorem OpenP.runU {n e k m : Nat} {rows : List KV} {d : D} {z : S} (h : OpenP n e rows d k z) (hf : d.fused = false) (hn : n <= 1000) (he : e + 1 + m <= 900000) (hk : 1000 * m + 200000 <= k) : RunU n z m :=
 ⟨h.mem, h.run (rt (h.nf hf)), h.nf hf, by rw [h.ep]; exact he, h.lim.le hk, by rw [h.ep]; omega, hn⟩
open Go Go.Vm
open Go Go.Vm
open Go Go.Vm
open Go.Proofs.Ytbhoknaipfnlnaa
section
variable {H : Type} {d0 d1 d2 d3 : DataW H} {u0 u1 u2 u3 : VV}
end
open Go Go.Vm
theorem ag7 {k v : List UInt8} {t : Bool} (hk : k.length <= 30) (hv : v.length <= 150) (ht : t = true -> v = []) : [(k, v, t)].length <= 5000 /\ (gu [(k, v, t)]).length <= 1000000 /\ (∀ x ∈ [(k, v, t)], x.2.1.length <= 1000000000) /\ ∀ p ∈ [(k, v, t)], p.2.2 = true -> p.2.1 = [] := by
 have hf : sr [(k, v, t)] := fun p hp => by rw [List.mem_singleton.1 hp]; exact ⟨hk, hv, ht⟩
 have h3 := Xn _ hf
 simp only [List.length_singleton] at h3
 exact ⟨by simp, by omega, fun x hx => by have := (hf x hx).2.1; omega, fun p hp => (hf p hp).2.2⟩
theorem ak8 {k v : List UInt8} {t : Bool} {c : CV} (hc : SlV 1 (eB v) (.cv c)) : ChsE [[.sc (.string ⟨k.toArray⟩), c, .sc (.bool t)]] [(k, v, t)] := .cons ⟨_, rfl, hc⟩ .nil
def kb (x : UInt8) : UInt8 := UInt8.ofNat (97 + x.toNat % 16)
theorem amd (x : UInt8) : IntKind.u8.wrap (97 + (x.toNat : Int).tmod 16) = ((kb x).toNat : Int) := by
 have h1 : (x.toNat : Int).tmod 16 = ((x.toNat % 16 : Nat) : Int) := rfl
 rw [h1, IntWalk.u8_in _ (by omega)]
 unfold kb
 rw [jk (by omega)]; omega
theorem mk3 {a b c d e f : CV} (g : ah) : mkO g 3 1 [.cv a, .cv b, .cv c] [(0, 3, .agg [.cv d, .cv e, .cv f])] = some (.cv (.sl 3 [[d, e, f]] true), g) := rfl
theorem bdc {k : List UInt8} {v : CV} : bdO [VV.cv (.sc (.string ⟨#[]⟩)), .cv (.sc (.slice none 0 0)), .cv (.sc (.bool false))] [(0, 1, txt k), (1, 1, .cv v)] = some (.agg [.cv (.sc (.string ⟨k.toArray⟩)), .cv v, .cv (.sc (.bool false))]) := rfl
theorem q16 : (16 : Int) ≠ 0 := by decide
theorem f6_loop1 {b : List UInt8} {u : VV} (hb : SlV 1 (eB b) u) (hbl : b.length <= 60) {q p f n M : Nat} {ud un : VV} {vi8 : VV} : ∀ (r j : Nat) (z : S) (l' : Option Nat) (s : List VV) (h : ah) (Q : Pst), j + r = b.length -> StoreAt h q p (some f) l' z -> RunU n z (r + M) -> s.length = 98 -> s.getD 1 .undef = u -> s.getD 2 .undef = un -> s.getD 7 .undef = ud -> s.getD 8 .undef = vi8 -> s.getD 9 .undef = .ptr q 0 -> s.getD 11 .undef = vi .i64 j ->
  (∀ s' h' l'' z', s'.length = 98 -> s'.getD 1 .undef = u -> s'.getD 2 .undef = un -> s'.getD 7 .undef = ud -> s'.getD 8 .undef = vi8 -> StoreAt h' q p (some f) l'' z' -> RunU n z' M -> Q (.exit 2) ⟨s', h'⟩) -> X F (.loop f6_3) ⟨s, h⟩ Q := by
 intro r
 induction r with
 | zero =>
  intro j z l' s h Q hj hSt hU hs e1 e2 e7 e8 e9 e11 hQ
  have c : ¬ (j : Int) < (b.length : Int) := by omega
  rw [az, bf f6_3.eq_1]
  simp only [go_sem, seval, hs, e11, e1, hb.ln, ax, c]
  rw [Nat.zero_add] at hU
  exact hQ _ h l' z (by simp only [ad, hs]) (by simp only [go_sem, seval, hs, e1]) (by simp only [go_sem, seval, hs, e2]) (by simp only [go_sem, seval, hs, e7]) (by simp only [go_sem, seval, hs, e8]) hSt hU
 | succ r ih =>
  intro j z l' s h Q hj hSt hU hs e1 e2 e7 e8 e9 e11 hQ
  have c : (j : Int) < (b.length : Int) := by omega
  obtain ⟨x, hx⟩ : ∃ x, b[j]? = some x := ⟨_, List.getElem?_eq_getElem (by omega)⟩
  have heb : (eB b)[j]? = some [.sc (.int .u8 x.toNat)] := by simp [eB, bt, hx]
  have hia := hb.ia (h := h) (k := .i64) (j := (j : Int)) (by omega) heb
  have ldx : ldO h false 1 (.rptr [.sc (.int .u8 x.toNat)]) = some (vi .u8 x.toNat, h) := jw
  have hw : IntKind.i64.wrap ((j : Int) + 1) = ((j + 1 : Nat) : Int) := by rw [IntWalk.i64_in _ (by omega)]; omega
  have bx : bsO h (.cv (.sl 1 [[.sc (.int .u8 (kb x).toNat)]] true)) = some (txt [kb x]) := (show SlV 1 (eB [kb x]) (.cv (.sl 1 [[.sc (.int .u8 (kb x).toNat)]] true)) from .inr ⟨true, rfl⟩).bs
  obtain ⟨k1, k2, k3, k4⟩ := ag7 (k := [kb x]) (v := [x]) (t := false) (by simp) (by simp) (by simp)
  obtain ⟨g, l2, n14, M2, hU'⟩ := Je (m := r + M) hSt (by rw [show r + M + 1 = r + 1 + M by omega]; exact hU) (uc := .cv (.sl 3 [[.sc (.string ⟨[kb x].toArray⟩), .sl 1 [[.sc (.int .u8 x.toNat)]] true, .sc (.bool false)]] true)) (.inr ⟨true, rfl⟩) (ak8 (k := [kb x]) (v := [x]) (t := false) (.inr ⟨true, rfl⟩)) k1 k2 k3 k4
  rw [az, bf f6_3.eq_1]
  simp only [go_sem, seval, hs, e11, e1, hb.ln, ax, c]
  refine mu rfl ?_
  simp only [go_sem, seval, hs, e1, e9, e11, hia, ldx, zy q16, amd, bx, bdc, mk3]
  refine qe (by simp only [List.map, go_sem, seval, hs]; exact n14) ?_
  simp only [go_sem, seval, hs, e11, hw]
  exact ih (j + 1) _ l2 _ _ Q (by omega) M2.st hU' (by simp only [ad, hs]) (by simp only [go_sem, seval, hs, e1]) (by simp only [go_sem, seval, hs, e2]) (by simp only [go_sem, seval, hs, e7]) (by simp only [go_sem, seval, hs, e8]) (by simp only [go_sem, seval, hs, e9]) (by simp only [go_sem, seval, hs]) hQ
theorem f6_loop2 {b : List UInt8} {u : VV} (hb : SlV 1 (eB b) u) (hbl : b.length <= 60) {p f n : Nat} (hlo : 64 <= n) (hhi : n <= 1000) {un : VV} : ∀ (r i : Nat) (d : D) (l' : Option Nat) (s : List VV) (h : ah) (Q : Pst), i + r = 2 -> ed h p (some f) l' d -> d.firm.length = n -> d.loose = [] -> d.fused = false -> d.Lim (300000 * r) ->
  s.length = 98 -> s.getD 1 .undef = u -> s.getD 2 .undef = un -> s.getD 7 .undef = .ptr p 0 -> s.getD 8 .undef = vi .i64 i -> (∀ s' h', s'.length = 98 -> s'.getD 2 .undef = un -> Q (.exit 0) ⟨s', h'⟩) -> X F (.loop f6_4) ⟨s, h⟩ Q := by
 intro r
 induction r with
 | zero =>
  intro i d l' s h Q hi hD hdn hl hf hL hs e1 e2 e7 e8 hQ
  have c : ¬ (i : Int) < 2 := by omega
  rw [az, bf f6_4.eq_1]
  simp only [go_sem, seval, hs, e8, c]
  exact hQ _ h (by simp only [ad, hs]) (by simp only [go_sem, seval, hs, e2])
 | succ r ih =>
  intro i d l' s h Q hi hD hdn hl hf hL hs e1 e2 e7 e8 hQ
  have c : (i : Int) < 2 := by omega
  obtain ⟨v11, g3, n11, rfl, l3, d3, M3, f3, L3, V3, B3⟩ := Cs hD hf hl (by omega) (k := 300000 * r + 298000) (hL.le (by omega))
  rw [hdn] at V3
  obtain ⟨v13, g4, n13, q, l4, z4, rfl, hq4, M4, S4, O4⟩ := Me M3.dev L3.loose V3.rc (by omega) (k := 300000 * r + 290000) (B3.le (by omega))
  have U4 : RunU n z4 (b.length + 100 * r) := O4.runU f3 hhi (by omega) (by omega)
  have hrw : z4.rows = [] := O4.rw_
  obtain ⟨w16, els16, n16, S16, R16⟩ := Eu S4 (by rw [hrw]; simp) (by rw [hrw]; intro r hr; cases hr)
  rw [hrw] at R16
  have s16 := S16.ln
  rw [R16.len] at s16
  have s16 : lnO false w16 = some (vi .i64 0) := s16
  have n20 := Hf S4
  rw [O4.ep] at n20
  have n20 : call F 20 [.ptr q 0] g4 = some (.ret (vi .i64 2), g4) := n20
  have n21 := Zt S4
  rw [O4.us] at n21
  have n21 : call F 21 [.ptr q 0] g4 = some (.ret (vi .i64 0), g4) := n21
  have hw : IntKind.i64.wrap ((i : Int) + 1) = ((i + 1 : Nat) : Int) := by rw [IntWalk.i64_in _ (by omega)]; omega
  rw [az, bf f6_4.eq_1]
  simp only [go_sem, seval, hs, e8, c]
  rw [bf f6_1.eq_1]
  simp only [go_sem, seval, hs, e7]
  refine ao (by simp only [List.map, go_sem, seval, hs]; exact n11) ?_
  simp only [go_sem, seval, hs, e7]
  refine ao (by simp only [List.map, go_sem, seval, hs]; exact n13) ?_
  simp only [go_sem, seval, hs]
  rw [bf f6_2.eq_1]
  simp only [go_sem, seval, hs]
  refine ao (by simp only [List.map, go_sem, seval, hs]; exact n16) ?_
  simp only [go_sem, seval, hs, s16]
  refine ao (by simp only [List.map, go_sem, seval, hs]; exact n20) ?_
  simp only [go_sem, seval, hs]
  refine ao (by simp only [List.map, go_sem, seval, hs]; exact n21) ?_
  simp only [go_sem, seval, hs]
  refine f6_loop1 hb hbl (n := n) (M := 100 * r) (un := un) (ud := .ptr p 0) (vi8 := vi .i64 i) b.length 0 z4 l4 _ _ _ (by omega) S4 U4 (by simp only [ad, hs]) (by simp only [go_sem, seval, hs, e1]) (by simp only [go_sem, seval, hs, e2]) (by simp only [go_sem, seval, hs, e7]) (by simp only [go_sem, seval, hs, e8]) (by simp only [go_sem, seval, hs]) (by simp only [go_sem, seval, hs]) (fun s5 g5 l5 z5 hs5 k1 k2 k7 k8 S5 U5 => ?_)
  simp only [go_sem, seval, hs5, k8, hw]
  exact ih (i + 1) z5.d l5 _ _ Q (by omega) S5.dev U5.mem.dn U5.run.live.loose U5.nf (U5.lim.le (by omega)) (by simp only [ad, hs5]) (by simp only [go_sem, seval, hs5, k1]) (by simp only [go_sem, seval, hs5, k2]) (by simp only [go_sem, seval, hs5, k7]) (by simp only [go_sem, seval, hs5]) hQ
theorem Vf {k : UInt8} {b : List UInt8} {u : VV} (hb : SlV 1 (eB b) u) (hbl : b.length <= maxLen) (n : UInt8) : ∃ h', call F 6 [vi .u8 k.toNat, u, vi .u8 n.toNat] [] = some (.ret (vb true), h') := by
 suffices hx : Ret F 6 [vi .u8 k.toNat, u, vi .u8 n.toNat] [] fun v _ => v = vb true by
  obtain ⟨v, g, n1, rfl⟩ := hx
  exact ⟨g, n1⟩
 obtain ⟨v12, g12, n12, w12, y12, rfl⟩ := Oz
 obtain ⟨v22, g22, n22, w22, y22, rfl⟩ := Yu k
 obtain ⟨hsz1, hsz2⟩ := akp k
 obtain ⟨g1, n1, D1, _⟩ := Jv (sz k) (by omega) []
 have hml : maxLen = 9223372036854775807 := rfl
 have r1 : ((b.length : Int) > 60) = (60 < b.length) := by apply propext; omega
 refine eE3 (fn := f6) (n := 98) rfl rfl fun s hs h0 h1 h2 => ?_
 simp only [f6]
 simp only [go_sem, seval, hs, h0]
 refine ap (h1 := []) (by simp only [List.map, go_sem, seval, hs]; rfl) n22 y22 ?_
 simp only [go_sem, seval, hs]
 refine ao (by simp only [List.map, go_sem, seval, hs]; exact n1) ?_
 simp only [go_sem, seval, hs]
 rw [bf f6_0.eq_1]
 by_cases c1 : 60 < b.length
 ·simp only [go_sem, seval, hs, h1, hb.ln, ax, r1, c1]
  refine ap (h1 := g1) (by simp only [List.map]; rfl) n12 y12 ?_
  simp only [go_sem, seval, hs]
  all_goals trivial
 simp only [go_sem, seval, hs, h1, hb.ln, ax, r1, c1]
 refine f6_loop2 hb (by omega) hsz1 (by omega) (un := vi .u8 n.toNat) 2 0 (Qd (sz k)) none _ _ _ (by omega) D1 (Oq _) rfl rfl ((Nu (sz k) (by omega)).le (by omega)) (by simp only [ad, hs]) (by simp only [go_sem, seval, hs, h1]) (by simp only [go_sem, seval, hs, h2]) (by simp only [go_sem, seval, hs]) (by simp only [go_sem, seval, hs]) (fun s5 g5 hs5 k2 => ?_)
 have q64 : (64 : Int) ≠ 0 := by decide
 have em : (n.toNat : Int).tmod 64 = ((n.toNat % 64 : Nat) : Int) := rfl
 have wm : IntKind.i64.wrap ((n.toNat % 64 : Nat) : Int) = ((n.toNat % 64 : Nat) : Int) := IntWalk.i64_in _ (by omega)
 obtain ⟨g6, n6, D6, _⟩ := Jv (n.toNat % 64) (by omega) g5
 have hlt : (Qd (n.toNat % 64)).firm.length < 64 := by rw [Oq]; omega
 have n13 := Pa D6 hlt
 have n11 := Hy D6 hlt
 simp only [go_sem, seval, hs5, k2, zy q64, em, wm]
 refine ao (by simp only [List.map, go_sem, seval, hs5]; exact n6) ?_
 simp only [go_sem, seval, hs5]
 refine ao (by simp only [List.map, go_sem, seval, hs5]; exact n13) ?_
 simp only [go_sem, seval, hs5]
 refine ap (h1 := g6) (by simp only [List.map]; rfl) n12 y12 ?_
 simp only [go_sem, seval, hs5]
 refine ao (by simp only [List.map, go_sem, seval, hs5]; exact n11) ?_
 simp only [go_sem, seval, hs5]
 all_goals trivial
open Go Go.Vm
def ame (rows : List KV) (key : List UInt8) (w : VV) (is : Bool) : Prop :=
 (is = false /\ w = cj /\ ∀ r ∈ rows, r.1 ≠ key) \/ (is = true /\ ∃ val, (key, val) ∈ rows /\ SlV 1 (eB val) w)
open Go Go.Vm
theorem Qt {l : List KV} {x : Ch} (hx : x.2.2 = true) : ∀ r ∈ ov l x, r.1 ≠ x.1 := by
 intro r hr
 unfold ov at hr
 rw [if_pos hx] at hr
 have := (List.mem_filter.1 hr).2
 simpa using this
theorem Vg {l : List KV} {x : Ch} (hx : x.2.2 = false) : (x.1, x.2.1) ∈ ov l x /\ ∀ r ∈ ov l x, r.1 = x.1 -> r.2 = x.2.1 := by
 unfold ov
 rw [if_neg (by rw [hx]; decide)]
 refine ⟨by simp, fun r hr hk => ?_⟩
 have no : r ∉ gn l x.1 := fun h => by
  have := (List.mem_filter.1 h).2
  simp [hk] at this
 rcases List.mem_append.1 hr with h | h
 ·exact absurd (List.mem_of_mem_take h) no
 ·rcases List.mem_cons.1 h with h | h
  ·rw [h]
  ·exact absurd (List.mem_of_mem_drop h) no
theorem Mh {l : List KV} {x : Ch} {w : VV} {is : Bool} (h : ame (ov l x) x.1 w is) : is = !x.2.2 /\ (is = true -> SlV 1 (eB x.2.1) w) := by
 cases hx : x.2.2 with
 | true =>
  rcases h with ⟨h1, _, _⟩ | ⟨_, v, h2, _⟩
  ·exact ⟨h1, fun e => by rw [h1] at e; cases e⟩
  ·exact absurd rfl (Qt hx _ h2)
 | false =>
  obtain ⟨k1, k2⟩ := Vg (l := l) hx
  rcases h with ⟨_, _, h3⟩ | ⟨h1, v, h2, h3⟩
  ·exact absurd rfl (h3 _ k1)
  ·have : v = x.2.1 := k2 _ h2 rfl
   rw [<- this]
   exact ⟨h1, fun _ => h3⟩
open Go Go.Vm
open Go.Proofs.Ytbhoknaipfnlnaa
section
variable {H : Type} {d0 d1 d2 : DataW H} {u0 u1 u2 : VV}
theorem forms_in (h0 : DV Proofs.Try.prog 5 d0 u0) (h1 : DV Proofs.Try.prog 22 d1 u1) (h2 : DV Proofs.Try.prog 5 d2 u2) : ∃ h', call F 6 [u0, u1, u2] [] = some (.ret (vb true), h') := by
 obtain ⟨k, rfl⟩ := ag1 (by kernel_rfl) h0
 obtain ⟨b, hB, hl⟩ := aas (e := 5) (by kernel_rfl) (by kernel_rfl) (by kernel_rfl) h1
 obtain ⟨n, rfl⟩ := ag1 (by kernel_rfl) h2
 exact Vf hB hl n
end
end Go.V08
