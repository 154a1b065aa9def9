/- Part of a proof: of what it says, and when, each theorem tells itself. -/
import Derived.Test.YtbhoknaipfnlnaaC08All6
import Derived.Test.YtbhoknaipfnlnaaRows
set_option linter.unusedSimpArgs false
set_option linter.unusedVariables false
namespace Go.V08
open Go Go.Vm
abbrev jn (n : Nat) : Nat := (bo n).1
abbrev an (n : Nat) : Nat := (bo n).2
def jr (n : Nat) (F : Sec) : Sec := (F.drop 2).take (jn n)
def ar (n : Nat) (F : Sec) (a m : Nat) : Sec := (F.drop (mf n a)).take m
def Hd (n : Nat) (F : Sec) (e a pg : Nat) : Prop := ka n (F.getD (e % 2) []) = some (e, a, pg) /\ ∀ x, ka n (F.getD (1 - e % 2) []) = some x -> x.1 < e
structure Dn (n : Nat) (F : Sec) : Prop where
 lo : 64 <= n
 hi : n <= 4096
 len : F.length = n
 f64 : ∀ b ∈ F, b.length = 64
structure Rc (n : Nat) (F : Sec) (e a : Nat) (rows : List KV) : Prop where
 dn : Dn n F
 a1 : a <= 1
 e1 : 1 <= e
 e2 : e <= 1073741824
 ex : ∃ base pgs L, Hd n F e a pgs.length /\ ej n base = some pgs /\ ar n F a (4 * pgs.length) = pcs 64 pgs.flatten /\ (th e (jr n F)).1 = L.map uu /\ (∀ c ∈ L, FrOK c) /\ Ss L <= 60000 /\ rows = pc base L
 room : ∃ p, ej n rows = some p
 old : ∀ i b, i < jn n -> F[2 + i]? = some b -> ahf e b
structure Vd (n : Nat) (F : Sec) (e a : Nat) (base : List KV) (L : List (List Ch)) (used : Nat) : Prop where
 dn : Dn n F
 a1 : a <= 1
 e1 : 1 <= e
 e2 : e <= 1073741824
 pgs : ∃ pgs, Hd n F e a pgs.length /\ ej n base = some pgs /\ ar n F a (4 * pgs.length) = pcs 64 pgs.flatten
 jl : (F.drop 2).take used = ct e 0 L
 ul : used = (ct e 0 L).length
 uj : used <= jn n
 bad : ∀ i b, used <= i -> i < jn n -> F[2 + i]? = some b -> Bad e b
 fr : ∀ c ∈ L, FrOK c
 room : ∃ p, ej n (pc base L) = some p
 old : ∀ i b, i < jn n -> F[2 + i]? = some b -> ahf e b
theorem pq {n : Nat} (h : 64 <= n) : jn n = n / 4 /\ an n = (n - 2 - n / 4) / 8 := by
 unfold jn an bo; grind
theorem ww (n : Nat) : mf n 0 = 2 + jn n /\ mf n 1 = 2 + jn n + an n * 4 := by
 unfold mf; grind
theorem ou {F F' : Sec} {a m : Nat} (h : ∀ i, i < m -> F'[a + i]? = F[a + i]?) : (F'.drop a).take m = (F.drop a).take m := by
 apply List.ext_getElem?
 grind
theorem Ut : ∀ (l : List (Nat × List UInt8)) (f : Sec), (∀ b ∈ f, b.length = 64) -> (∀ o ∈ l, o.2.length = 64) -> ∀ b ∈ pl f l, b.length = 64
 | [], _, h, _ => h
 | o :: l, f, h, hl => by
  show ∀ b ∈ pl (f.set o.1 o.2) l, b.length = 64
  refine Ut l _ (fun b hb => ?_) (fun x hx => hl x (List.mem_cons_of_mem _ hx))
  grind
theorem am1 {L : List (List UInt8)} (hL : ∀ b ∈ L, b.length <= 64) {a : Nat} : ∀ o ∈ wl a L, o.2.length = 64 := by
 intro o ho
 obtain ⟨j, j1, _, j3⟩ := Ai _ _ _ ho
 obtain ⟨b, hb, e⟩ := Option.map_eq_some_iff.1 j3
 rw [<- e]
 exact Mg (hL b (List.mem_of_getElem? hb))
theorem Dn.sub {n : Nat} {F : Sec} (h : Dn n F) {L : List (List UInt8)} {a : Nat} (hL : ∀ b ∈ L, b.length <= 64) {l' : List (Nat × List UInt8)} (hs : l'.Sublist (wl a L)) : Dn n (pl F l') :=
 ⟨h.lo, h.hi, by rw [Po]; exact h.len, Ut _ _ h.f64 fun o ho => am1 hL o (hs.subset ho)⟩
theorem Ka {F F' : Sec} {i : Nat} (h : F'[i]? = F[i]?) : F'.getD i [] = F.getD i [] := by
 grind
theorem Rc.same {n : Nat} {F F' : Sec} {e a : Nat} {rows : List KV} (h : Rc n F e a rows) (hd : Dn n F') (hs : ∀ i, i < 2 + jn n \/ (mf n a <= i /\ i < mf n a + 4 * an n) -> F'[i]? = F[i]?) : Rc n F' e a rows := by
 obtain ⟨base, pgs, L, ⟨h1, h1'⟩, h2, h3, h4, h5, h6, h7⟩ := h.ex
 have hj : jr n F' = jr n F := ou fun i hi => hs _ (.inl (by omega))
 have hp : pgs.length <= an n := (gu h2).2
 refine ⟨hd, h.a1, h.e1, h.e2, ⟨base, pgs, L, ⟨?_, ?_⟩, h2, ?_, by grind, h5, h6, h7⟩, h.room, fun i b hi hb => h.old i b hi (by grind)⟩
 ·grind
 ·grind
 ·rw [<- h3]
  exact ou fun i hi => hs _ (.inr ⟨by omega, by omega⟩)
theorem Vd.rc {n : Nat} {F : Sec} {e a : Nat} {base : List KV} {L : List (List Ch)} {used : Nat} (h : Vd n F e a base L used) : Rc n F e a (pc base L) := by
  obtain ⟨pgs, h1, h2, h3⟩ := h.pgs
  refine ⟨h.dn, h.a1, h.e1, h.e2, ⟨base, pgs, L, h1, h2, h3, ?_, h.fr, ?_, rfl⟩, h.room, h.old⟩
  · have e1 : jr n F = ct e 0 L ++ (F.drop (2 + used)).take (jn n - used) := by
      have hu := h.uj
      have : jn n = used + (jn n - used) := by omega
      unfold jr
      rw [this, List.take_add, h.jl, List.drop_drop, Nat.add_sub_cancel_left]
    rw [e1, Xw h.e2 h.fr (Lw fun b hb => ?_)]
    obtain ⟨i, hi⟩ := List.getElem?_of_mem hb
    have hlt : i < jn n - used := by
      grind
    rw [List.getElem?_take_of_lt hlt, List.getElem?_drop] at hi
    exact h.bad (used + i) b (by omega) (by omega) (by grind)
  · have h4 := ve e L 0
    have h5 := h.uj
    have h6 := h.ul
    have := ix h.dn.hi
    grind
theorem Rc.area {n : Nat} {F : Sec} {e a : Nat} {rows : List KV} (h : Rc n F e a rows) {Ls : Sec} (hl : Ls.length <= 4 * an n) (h64 : ∀ b ∈ Ls, b.length <= 64) {l' : List (Nat × List UInt8)} (hs : l'.Sublist (wl (mf n (1 - a)) Ls)) : Rc n (pl F l') e a rows := by
 obtain ⟨b0, b1⟩ := ww n
 have ha := h.a1
 refine h.same (h.dn.sub h64 hs) fun i hi => Me hs ?_
 grind
theorem ac7 {n : Nat} {F : Sec} {a : Nat} {Ls : Sec} (ha : a <= 1) (hn : Dn n F) (hl : Ls.length <= 4 * an n) (h64 : ∀ b ∈ Ls, b.length = 64) : ar n (pl F (wl (mf n a) Ls)) a Ls.length = Ls := by
 obtain ⟨b0, b1⟩ := ww n
 obtain ⟨p1, p2⟩ := pq hn.lo
 have hlo := hn.lo
 have hb : mf n a + Ls.length <= n := by
  grind
 apply List.ext_getElem?
 intro i
 unfold ar
 by_cases hi : i < Ls.length
 ·rw [List.getElem?_take_of_lt hi, List.getElem?_drop, Og Ls F _ i (by rw [hn.len]; exact hb) hi]
  obtain ⟨b, hb⟩ : ∃ b, Ls[i]? = some b := ⟨Ls[i], List.getElem?_eq_getElem hi⟩
  rw [hb, Option.map_some, Oo (h64 b (List.mem_of_getElem? hb))]
 grind
theorem Rc.head {n : Nat} {F : Sec} {e a : Nat} {rows : List KV} (h : Rc n F e a rows) (he : e < 1073741824) {pgs : Sec} (hr : ej n rows = some pgs) (hA : ar n F (1 - a) (4 * pgs.length) = pcs 64 pgs.flatten) :
  Vd n (F.set ((e + 1) % 2) (gn (e + 1) (1 - a) pgs.length)) (e + 1) (1 - a) rows [] 0 := by
 obtain ⟨b0, b1⟩ := ww n
 obtain ⟨p1, p2⟩ := pq h.dn.lo
 have ha := h.a1
 have hlo := h.dn.lo
 have hp : pgs.length <= an n := (gu hr).2
 have hpos : 1 <= pgs.length := by
  have := Kg (gu hr).1
  cases pgs with
  | nil =>
   have hb := xt (gu hr).1
   grind
  | cons _ _ => simp
 have bge : mf n (1 - a) >= 2 + jn n := by
  grind
 have ne : ∀ i, 2 <= i -> (F.set ((e + 1) % 2) (gn (e + 1) (1 - a) pgs.length))[i]? = F[i]? := fun i hi => List.getElem?_set_ne (by omega)
 have hlen := h.dn.len
 refine ⟨⟨h.dn.lo, h.dn.hi, by grind, fun b hb => ?_⟩, by omega, by omega, by omega, ⟨pgs, ⟨?_, fun x hx => ?_⟩, hr, ?_⟩, by simp [ct], rfl, Nat.zero_le _, fun i b _ hi hb => ?_, fun c hc => (by cases hc), ⟨pgs, hr⟩, fun i b hi hb => ?_⟩
 ·rcases List.mem_or_eq_of_mem_set hb with e' | e'
  ·exact h.dn.f64 b e'
  ·rw [e']; exact rq
 ·rw [List.getD_eq_getElem?_getD, List.getElem?_set_self (by omega)]
  exact Br (by omega) (by omega) (by omega) hpos hp h.dn.hi
 ·obtain ⟨base, pgs0, L, ⟨h1, _⟩, _⟩ := h.ex
  grind
 ·rw [<- hA]
  exact ou fun i hi => ne _ (by omega)
 ·rw [ne _ (by omega)] at hb
  exact h.old i b hi hb (e + 1) (by omega) (by omega)
 ·rw [ne _ (by omega)] at hb
  exact fun e' h1 h2 => h.old i b hi hb e' (by omega) h2
theorem Vd.part {n : Nat} {F : Sec} {e a : Nat} {base : List KV} {L : List (List Ch)} {used : Nat} (h : Vd n F e a base L used) {c : List Ch} (hc : FrOK c) (hu : used + (aq e L.length c).length ≤ jn n) (hroom : ∃ p, ej n (de (pc base L) c) = some p) {l' : List (Nat × List UInt8)} (hs : l'.Sublist (wl (2 + used) (aq e L.length c))) :
    (l' = wl (2 + used) (aq e L.length c) → Vd n (pl F l') e a base (L ++ [c]) (used + (aq e L.length c).length)) ∧ (Rc n (pl F l') e a (pc base L) ∨ l' = wl (2 + used) (aq e L.length c)) := by
  obtain ⟨b0, b1⟩ := ww n
  obtain ⟨p1, p2⟩ := pq h.dn.lo
  have ha := h.a1
  have hlo := h.dn.lo
  have hlen := h.dn.len
  have he : e < 4294967296 := by have := h.e2; omega
  have hold := fun b hb => yk (e := e) (j := L.length) (c := c) he b hb
  have h64 : ∀ b ∈ aq e L.length c, b.length ≤ 64 := fun b hb => by rw [(hold b hb).2]; exact Nat.le_refl _
  have hn2 : 2 + used + (aq e L.length c).length ≤ F.length := by omega
  have hout : ∀ i, i < 2 + used ∨ 2 + used + (aq e L.length c).length ≤ i → (pl F l')[i]? = F[i]? := fun i hi => Me hs hi
  have hbeg : 2 + jn n ≤ mf n a := by rcases (show a = 0 ∨ a = 1 by omega) with rfl | rfl <;> omega
  obtain ⟨pgs, ⟨h1, h1'⟩, h2, h3⟩ := h.pgs
  have hhd : Hd n (pl F l') e a pgs.length := ⟨by rw [Ka (hout _ (.inl (by omega)))]; exact h1, by rw [Ka (hout _ (.inl (by omega)))]; exact h1'⟩
  have har : ar n (pl F l') a (4 * pgs.length) = pcs 64 pgs.flatten := by rw [← h3]; exact ou fun i hi => hout _ (.inr (by omega))
  have hjl : ((pl F l').drop 2).take used = ct e 0 L := by rw [← h.jl]; exact ou fun i hi => hout _ (.inl (by omega))
  have hget : ∀ i, i < (aq e L.length c).length → ∃ x, (aq e L.length c)[i]? = some x ∧ pad x = x ∧ x ∈ aq e L.length c := fun i hi => by
    obtain ⟨x, hx⟩ : ∃ x, (aq e L.length c)[i]? = some x := ⟨_, List.getElem?_eq_getElem hi⟩
    have hm := List.mem_of_getElem? hx
    exact ⟨x, hx, Oo (hold x hm).2, hm⟩
  have hold2 : ∀ i b, i < jn n → (pl F l')[2 + i]? = some b → ahf e b := by
    intro i b hi hb
    by_cases hr : i < used ∨ used + (aq e L.length c).length ≤ i
    · rw [hout _ (by omega)] at hb
      exact h.old i b hi hb
    · obtain ⟨x, hx, hp, hm⟩ := hget (i - used) (by omega)
      have := He _ F (2 + used) (i - used) l' hs hn2 (by omega)
      rw [show 2 + used + (i - used) = 2 + i from by omega, hx, Option.map_some, hp, hb] at this
      rcases this with e1 | e1
      · exact h.old i b hi e1.symm
      · cases e1; exact (hold _ hm).1
  refine ⟨?_, ?_⟩
  · rintro rfl
    refine ⟨h.dn.sub h64 hs, h.a1, h.e1, h.e2, ⟨pgs, hhd, h2, har⟩, ?_, ?_, hu, ?_, ?_, ?_, hold2⟩
    · rw [ui, List.take_add, hjl, List.drop_drop, Nat.zero_add]
      congr 1
      apply List.ext_getElem?
      intro i
      by_cases hi : i < (aq e L.length c).length
      · rw [List.getElem?_take_of_lt hi, List.getElem?_drop]
        rw [Og _ F (2 + used) i hn2 hi]
        obtain ⟨x, hx, hp, _⟩ := hget i hi
        rw [hx, Option.map_some, hp]
      · rw [List.getElem?_eq_none (by rw [List.length_take]; omega), List.getElem?_eq_none (by omega)]
    · rw [ui, List.length_append, ← h.ul, Nat.zero_add]
    · intro i b hi1 hi2 hb
      rw [hout _ (by omega)] at hb
      exact h.bad i b (by omega) hi2 hb
    · intro x hx
      rcases List.mem_append.1 hx with hx | hx
      · exact h.fr x hx
      · rw [List.mem_singleton.1 hx]; exact hc
    · unfold pc at hroom ⊢
      rw [List.foldl_append]
      exact hroom
  · rcases Wb _ F (2 + used) l' hs hn2 with e0 | ⟨k, k1, k2⟩
    · exact .inr e0
    refine .inl ⟨h.dn.sub h64 hs, h.a1, h.e1, h.e2, ⟨base, pgs, L, hhd, h2, har, ?_, h.fr, ?_, rfl⟩, h.room, hold2⟩
    · have e1 : jr n (pl F l') = ct e 0 L ++ ((pl F l').drop (2 + used)).take (jn n - used) := by
        have : jn n = used + (jn n - used) := by omega
        unfold jr
        rw [this, List.take_add, hjl, List.drop_drop, Nat.add_sub_cancel_left]
      have hrest : ∀ i, i < jn n - used → (((pl F l').drop (2 + used)).take (jn n - used))[i]? = (pl F l')[2 + used + i]? := fun i hi => by rw [List.getElem?_take_of_lt hi, List.getElem?_drop]
      have hbadF : ∀ i, i < jn n - used → ∃ b, F[2 + used + i]? = some b ∧ Bad e b := fun i hi => by
        obtain ⟨b, hb⟩ : ∃ b, F[2 + used + i]? = some b := ⟨_, List.getElem?_eq_getElem (by omega)⟩
        exact ⟨b, hb, h.bad (used + i) b (by omega) (by omega) (by rw [← hb]; congr 1; omega)⟩
      rw [e1, Xw h.e2 h.fr (Rk (of_ := (pcs 49 (ig c)).length) (j := k) ?_ (by rw [← mo e L.length c]; exact k1) hc.p200 ?_)]
      · intro b hb
        have hpos := jo e L.length c
        rw [hrest 0 (by omega)] at hb
        rcases He _ F (2 + used) 0 l' hs hn2 (by omega) with e2 | e2
        · obtain ⟨b', hb', hB⟩ := hbadF 0 (by omega)
          rw [e2, hb'] at hb; cases hb
          exact .inl hB
        · obtain ⟨x, hx, hp, _⟩ := hget 0 (by omega)
          rw [e2, hx, Option.map_some, hp] at hb; cases hb
          exact .inr (Kp hc.p200 _ hx)
      · obtain ⟨b', hb', hB⟩ := hbadF k (by omega)
        exact ⟨b', by rw [hrest k (by omega), k2, hb'], hB⟩
    · have h4 := ve e L 0
      have h5 := h.uj
      have h6 := h.ul
      have : jn n ≤ 1024 := (ix h.dn.hi).1
      omega
open Go Go.Vm
theorem Gl {α : Type} {l' l : List α} {k : Nat} (h : l'.Sublist (l.take k)) : l'.Sublist l := h.trans (List.take_sublist k l)
theorem afw {o : Nat × List UInt8} {l' : List (Nat × List UInt8)} (h : l'.Sublist [o]) : l' = [] \/ l' = [o] := by
 grind
theorem Wo {n : Nat} {d : D} (hl : Live d) (hn : d.firm.length = n) {e a : Nat} {rows : List KV} (hR : Rc n d.firm e a rows) (he : e < 1073741824) {pgs : Sec} (hr : ej n rows = some pgs) :
  (∀ F, Out (yq d pgs (1 - a) (e + 1)) F -> ∃ e' a', e' <= e + 1 /\ Rc n F e' a' rows) /\
  ((yq d pgs (1 - a) (e + 1)).dark = false -> Live (yq d pgs (1 - a) (e + 1)) /\ Vd n (yq d pgs (1 - a) (e + 1)).firm (e + 1) (1 - a) rows [] 0) /\
  d.w < (yq d pgs (1 - a) (e + 1)).w /\ (d.fused = false -> (yq d pgs (1 - a) (e + 1)).fused = false) := by
 obtain ⟨b0, b1⟩ := ww n
 obtain ⟨p1, p2⟩ := pq hR.dn.lo
 have hlo := hR.dn.lo
 have ha := hR.a1
 have hp : pgs.length <= an n := (gu hr).2
 have hsl := ox hr
 have h256 := nc (gu hr).1
 have hfl := sr (k := 256) pgs h256
 obtain ⟨_, h64, _⟩ := xc (k := 64) (by omega) (4 * pgs.length) pgs.flatten (by omega)
 rw [Na, hn]
 generalize hLs : pcs 64 pgs.flatten = Ls at hsl h64
 have h64' : ∀ b ∈ Ls, b.length <= 64 := fun b hb => by grind
 have hin : mf n (1 - a) + Ls.length <= d.firm.length := by
  grind
 have hne : Ls ≠ [] := by
  intro e0
  have hb := Kg (gu hr).1
  have : pgs.length = 0 := by grind
  have : pgs = [] := List.eq_nil_of_length_eq_zero this
  rw [this] at hb
  rw [show ([] : Sec).dropLast = [] from rfl] at hb
  have h2 := xt (gu hr).1
  grind
 obtain ⟨hP, hw, hfu⟩ := aln hl hin h64'
 have hw := hw hne
 have hRa : ∀ l', l'.Sublist (wl (mf n (1 - a)) Ls) -> Rc n (pl d.firm l') e a rows := fun l' hs => hR.area (by omega) h64' hs
 have hn1 : (ph d (mf n (1 - a)) Ls).firm.length = n := by rw [ahe, hn]
 generalize hd1 : ph d (mf n (1 - a)) Ls = d1 at hw hfu hn1
 have dk : d1.dark = true -> ph d1 ((e + 1) % 2) [gn (e + 1) (1 - a) pgs.length] = d1 := fun h => Ey h _ _
 have hO1 : ∀ F, Out d1 F -> Rc n F e a rows := by
  rintro F ⟨l', s1, rfl⟩
  cases hP with
  | done h1 h2 =>
   rw [hd1] at h1 h2
   rw [h1] at s1
   rw [List.sublist_nil.1 s1]
   show Rc n d1.firm e a rows
   grind
  | cut h1 h2 k h3 =>
   rw [hd1] at h1 h2 h3
   rw [h3] at s1
   rw [h2]
   exact hRa _ (Gl s1)
 cases hdk : d1.dark with
 | true =>
  grind
 | false =>
  cases hP with
  | cut h1 _ _ _ => grind
  | done h1 h2 =>
   rw [hd1] at h1 h2
   have hl1 : Live d1 := ⟨h1, hdk⟩
   have hR1 : Rc n d1.firm e a rows := by grind
   have hA : ar n d1.firm (1 - a) (4 * pgs.length) = Ls := by
    have hx := ac7 (a := 1 - a) (F := d.firm) (Ls := Ls) (by omega) hR.dn (by omega) h64
    grind
   have hV := hR1.head he hr (by rw [hA, hLs])
   have hpd : pad (gn (e + 1) (1 - a) pgs.length) = gn (e + 1) (1 - a) pgs.length := Oo rq
   obtain ⟨hP2, hw2, hfu2⟩ := aln hl1 (a := (e + 1) % 2) (L := [gn (e + 1) (1 - a) pgs.length]) (by grind) (fun b hb => by rw [List.mem_singleton.1 hb, rq]; omega)
   have hw2 := hw2 (by simp)
   have hset : pl d1.firm (wl ((e + 1) % 2) [gn (e + 1) (1 - a) pgs.length]) = d1.firm.set ((e + 1) % 2) (gn (e + 1) (1 - a) pgs.length) := by
    show d1.firm.set ((e + 1) % 2) (pad _) = _
    rw [hpd]
   rw [<- hset] at hV
   have hw3 := Nat.lt_trans hw hw2
   have hRV := hV.rc
   have hRV : Rc n (pl d1.firm (wl ((e + 1) % 2) [gn (e + 1) (1 - a) pgs.length])) (e + 1) (1 - a) rows := hRV
   refine ⟨fun F hF => ?_, fun hd2 => ?_, hw3, fun h => hfu2 (hfu h)⟩
   ·obtain ⟨l', s1, rfl⟩ := hF
    cases hP2 with
    | done g1 g2 =>
     rw [g1] at s1
     rw [List.sublist_nil.1 s1]
     refine ⟨e + 1, 1 - a, Nat.le_refl _, ?_⟩
     show Rc n (ph d1 ((e + 1) % 2) [gn (e + 1) (1 - a) pgs.length]).firm (e + 1) (1 - a) rows
     grind
    | cut g1 g2 k g3 =>
     rw [g3] at s1
     rw [g2]
     rcases afw (Gl s1) with rfl | rfl
     ·exact ⟨e, a, by omega, hR1⟩
     ·exact ⟨e + 1, 1 - a, Nat.le_refl _, hRV⟩
   ·cases hP2 with
    | cut g1 _ _ _ => grind
    | done g1 g2 => exact ⟨⟨g1, hd2⟩, by grind⟩
structure Mem (n : Nat) (z : S) : Prop where
 dn : z.d.firm.length = n
 lo : 64 <= n
 hi : n <= 4096
 a1 : z.a <= 1
 room : ∃ p, ej n z.rows = some p
 used : z.used <= jn n
 fr : z.fr <= z.used
structure Run (n : Nat) (z : S) : Prop where
 live : Live z.d
 v : ∃ base L, Vd n z.d.firm z.e z.a base L z.used /\ z.rows = pc base L /\ z.fr = L.length
theorem ain {n : Nat} {z : S} (hM : Mem n z) (hR : Run n z) (he : z.e < 1073741824) {pg : Sec} (hr : ej n z.rows = some pg) :
  Mem n (ckF z pg) /\ (∀ F, Out (ckF z pg).d F -> ∃ e' a', e' <= (ckF z pg).e /\ Rc n F e' a' z.rows) /\ ((ckF z pg).d.dark = false -> Run n (ckF z pg)) /\ z.d.w < (ckF z pg).d.w /\ (z.d.fused = false -> (ckF z pg).d.fused = false) := by
 obtain ⟨base, L, hV, hrw, _⟩ := hR.v
 have hRc := hV.rc
 rw [<- hrw] at hRc
 obtain ⟨h1, h2, h3, h4⟩ := Wo hR.live hM.dn hRc he hr
 refine ⟨⟨by show (yq z.d pg (1 - z.a) (z.e + 1)).firm.length = n; rw [Up, hM.dn], hM.lo, hM.hi, by show 1 - z.a <= 1; omega, ⟨pg, hr⟩, Nat.zero_le _, Nat.le_refl _⟩, h1, fun hd => ?_, h3, h4⟩
 obtain ⟨g1, g2⟩ := h2 hd
 exact ⟨g1, z.rows, [], g2, rfl, rfl⟩
theorem Ui {n : Nat} {z : S} (hM : Mem n z) (hR : Run n z) {c : List Ch} (hc : FrOK c) (hu : z.used + (aq z.e z.fr c).length <= jn n) (hroom : ∃ p, ej n (de z.rows c) = some p) :
  Mem n (tv z c (aq z.e z.fr c)) /\ (∀ F, Out (tv z c (aq z.e z.fr c)).d F -> ∃ e' a', e' <= z.e /\ (Rc n F e' a' z.rows \/ Rc n F e' a' (de z.rows c))) /\
  ((tv z c (aq z.e z.fr c)).d.dark = false -> Run n (tv z c (aq z.e z.fr c))) /\ z.d.w < (tv z c (aq z.e z.fr c)).d.w /\ (z.d.fused = false -> (tv z c (aq z.e z.fr c)).d.fused = false) := by
 obtain ⟨base, L, hV, hrw, hfr⟩ := hR.v
 have hfs := jo z.e z.fr c
 have hfr1 := hM.fr
 have hlo := hM.lo
 obtain ⟨p1, p2⟩ := pq hlo
 have he : z.e < 4294967296 := by have := hV.e2; omega
 have h64 : ∀ b ∈ aq z.e z.fr c, b.length <= 64 := fun b hb => by rw [(yk he b hb).2]; omega
 have hd : (tv z c (aq z.e z.fr c)).d = ph z.d (2 + z.used) (aq z.e z.fr c) := rfl
 obtain ⟨hP, hw, hfu⟩ := aln hR.live (a := 2 + z.used) (L := aq z.e z.fr c) (by rw [hM.dn]; omega) h64
 have hw := hw (by grind)
 have hpart := fun l' hs => hV.part hc (by grind) (by grind) (l' := l') hs
 rw [<- hfr, <- hrw] at hpart
 have hVn : Vd n (pl z.d.firm (wl (2 + z.used) (aq z.e z.fr c))) z.e z.a base (L ++ [c]) (z.used + (aq z.e z.fr c).length) := (hpart _ (.refl _)).1 rfl
 have hfold : pc base (L ++ [c]) = de z.rows c := by rw [hrw]; unfold pc; grind
 have hRn := hVn.rc
 rw [hfold] at hRn
 refine ⟨⟨by rw [hd, ahe, hM.dn], hM.lo, hM.hi, hM.a1, hroom, hu, by show z.fr + 1 <= z.used + (aq z.e z.fr c).length; omega⟩, fun F hF => ?_, fun hdk => ?_, by grind, fun h => by grind⟩
 ·rw [hd] at hF
  obtain ⟨l', s1, rfl⟩ := hF
  cases hP with
  | done g1 g2 =>
   rw [g1] at s1
   rw [List.sublist_nil.1 s1]
   refine ⟨z.e, z.a, Nat.le_refl _, .inr ?_⟩
   show Rc n (ph z.d (2 + z.used) (aq z.e z.fr c)).firm _ _ _
   grind
  | cut g1 g2 k g3 =>
   rw [g3] at s1
   rw [g2]
   rcases (hpart l' (Gl s1)).2 with h | h
   ·exact ⟨z.e, z.a, Nat.le_refl _, .inl h⟩
   ·rw [h]; exact ⟨z.e, z.a, Nat.le_refl _, .inr hRn⟩
 ·rw [hd] at hdk
  cases hP with
  | cut g1 _ _ _ => grind
  | done g1 g2 =>
   refine ⟨⟨g1, hdk⟩, base, L ++ [c], ?_, hfold.symm, by show z.fr + 1 = _; grind⟩
   show Vd n (ph z.d (2 + z.used) (aq z.e z.fr c)).firm z.e z.a base (L ++ [c]) (z.used + (aq z.e z.fr c).length)
   grind
open Go Go.Vm
theorem Kj {d : D} (h : d.dark = true) (pg : Sec) (a e : Nat) : yq d pg a e = d := by rw [Na, Ey h, Ey h]
theorem Bk {z : S} (h : z.d.dark = true) (c : List Ch) (ps : Sec) : (tv z c ps).d = z.d := Ey h _ _
theorem Nn {z : S} (h : z.d.dark = true) (pg : Sec) : (ckF z pg).d = z.d := Kj h _ _ _
theorem ag2 {c : List Ch} (hl : c.any lng = false) (hg : ∀ p ∈ c, p.2.2 = true -> p.2.1 = []) (hn : c.length <= 5000) (hp : (pcs 49 (ig c)).length <= 200) : FrOK c := by
 refine ⟨fun p hp => ?_, hn, hp⟩
 have := List.any_eq_false.1 hl p hp
 unfold lng at this
 grind
structure ComP (n : Nat) (z : S) (c : List Ch) (r : S × Nat) : Prop where
 k : r.2 = 0 \/ r.2 = 3 \/ r.2 = 21
 mem : Mem n r.1
 e : r.1.e <= z.e + 1
 not : r.2 ≠ 0 \/ c = [] -> r.1 = z
 yes : r.2 = 0 -> r.1.rows = de z.rows c
 dark : z.d.dark = true -> r.1.d = z.d
 run : Run n z -> r.2 = 0 -> c ≠ [] -> z.d.w < r.1.d.w /\ (∀ F, Out r.1.d F -> ∃ e' a', e' <= r.1.e /\ (Rc n F e' a' z.rows \/ Rc n F e' a' r.1.rows)) /\ (r.1.d.dark = false -> Run n r.1) /\ (z.d.fused = false -> r.1.d.fused = false)
theorem Gp {n : Nat} {z : S} {c : List Ch} (hM : Mem n z) {k : Nat} (hk : k = 3 \/ k = 21) : ComP n z c (z, k) :=
 have h0 : k ≠ 0 := by omega
 ⟨.inr hk, hM, Nat.le_succ _, fun _ => rfl, fun h => absurd h h0, fun _ => rfl, fun _ h => absurd h h0⟩
theorem sq {n : Nat} {z : S} {c : List Ch} (hM : Mem n z) (he : z.e < 1073741823) (hc : c.length <= 5000) (hg : ∀ p ∈ c, p.2.2 = true -> p.2.1 = []) : ComP n z c (bq z c) := by
 by_cases hn : c = []
 ·subst hn
  have : bq z [] = (z, 0) := by unfold bq; rw [if_pos rfl]
  rw [this]
  exact ⟨.inl rfl, hM, Nat.le_succ _, fun _ => rfl, fun _ => rfl, fun _ => rfl, fun _ _ h => absurd rfl h⟩
 cases hl : c.any lng with
 | true =>
  have : bq z c = (z, 3) := by unfold bq; rw [if_neg hn, if_pos hl]
  rw [this]
  exact Gp hM (.inl rfl)
 | false =>
  unfold bq
  rw [if_neg hn, if_neg (by rw [hl]; decide)]
  have hdn := hM.dn
  obtain ⟨pg0, hr0⟩ := hM.room
  rw [hdn]
  cases hrm : ej n (de z.rows c) with
  | none => exact Gp hM (.inr rfl)
  | some pgA =>
   cases hpf : eh z.e z.fr c with
   | none => exact Gp hM (.inr rfl)
   | some ps =>
    obtain ⟨hps, h200⟩ := pm hpf
    have hF := ag2 hl hg hc h200
    dsimp only
    by_cases c2 : (bo n).1 < ps.length
    ·rw [if_pos c2]; exact Gp hM (.inr rfl)
    ·rw [if_neg c2]
     by_cases c3 : (bo n).1 < z.used + ps.length
     ·rw [if_pos c3, hr0]
      obtain ⟨ps', hp2, hpl⟩ := wy hpf (e' := z.e + 1) (by omega)
      obtain ⟨hps', _⟩ := pm (n := 0) hp2
      rw [hp2]
      have hu' : (ckF z pg0).used + (aq (ckF z pg0).e (ckF z pg0).fr c).length <= jn n := by
       show 0 + (aq (z.e + 1) 0 c).length <= jn n
       rw [<- hps', hpl]
       have : ¬ jn n < ps.length := c2
       omega
      have hMk : Mem n (ckF z pg0) := ⟨by show (yq z.d pg0 (1 - z.a) (z.e + 1)).firm.length = n; rw [Up, hM.dn], hM.lo, hM.hi, by show 1 - z.a <= 1; omega, ⟨pg0, hr0⟩, Nat.zero_le _, Nat.le_refl _⟩
      rw [hps']
      have hfs := jo (z.e + 1) 0 c
      have hMa : Mem n (tv (ckF z pg0) c (aq (z.e + 1) 0 c)) := ⟨by show (ph (ckF z pg0).d _ _).firm.length = n; rw [ahe, hMk.dn], hM.lo, hM.hi, hMk.a1, ⟨pgA, hrm⟩, hu', by show 0 + 1 <= 0 + (aq (z.e + 1) 0 c).length; omega⟩
      refine ⟨.inl rfl, hMa, Nat.le_refl _, fun h => ?_, fun _ => rfl, fun h => ?_, fun hR _ _ => ?_⟩
      ·rcases h with h | h
       ·exact absurd rfl h
       ·exact absurd h hn
      ·show (tv (ckF z pg0) c (aq (z.e + 1) 0 c)).d = z.d
       rw [Bk (by rw [Nn h]; exact h), Nn h]
      ·obtain ⟨k1, k2, k3, k4, k5⟩ := ain hM hR (by omega) hr0
       cases hdk : (ckF z pg0).d.dark with
       | true =>
        have hsame : (tv (ckF z pg0) c (aq (z.e + 1) 0 c)).d = (ckF z pg0).d := Bk hdk _ _
        dsimp only
        rw [hsame]
        refine ⟨k4, fun F hF => ?_, fun h => ?_, k5⟩
        ·obtain ⟨e', a', q1, q2⟩ := k2 F hF
         exact ⟨e', a', q1, .inl q2⟩
        ·cases hdk.symm.trans h
       | false =>
        obtain ⟨m1, m2, m3, m4, m5⟩ := Ui k1 (k3 hdk) hF hu' ⟨pgA, hrm⟩
        exact ⟨Nat.lt_trans k4 m4, m2, m3, fun h => m5 (k5 h)⟩
     ·rw [if_neg c3, hps]
      have hu' : z.used + (aq z.e z.fr c).length <= jn n := by
       rw [<- hps]
       have : ¬ jn n < z.used + ps.length := c3
       omega
      have hfs := jo z.e z.fr c
      have hfr := hM.fr
      have hMa : Mem n (tv z c (aq z.e z.fr c)) := ⟨by show (ph z.d _ _).firm.length = n; rw [ahe, hM.dn], hM.lo, hM.hi, hM.a1, ⟨pgA, hrm⟩, hu', by show z.fr + 1 <= z.used + (aq z.e z.fr c).length; omega⟩
      refine ⟨.inl rfl, hMa, Nat.le_succ _, fun h => ?_, fun _ => rfl, fun h => Bk h _ _, fun hR _ _ => ?_⟩
      ·rcases h with h | h
       ·exact absurd rfl h
       ·exact absurd h hn
      ·obtain ⟨m1, m2, m3, m4, m5⟩ := Ui hM hR hF hu' ⟨pgA, hrm⟩
       exact ⟨m4, m2, m3, m5⟩
open Go Go.Vm
theorem qv {d : D} (h : d.loose = []) (i : Nat) : d.cell i = d.firm.getD i [] := by unfold D.cell; rw [h]; rfl
theorem Pn {d : D} (h : d.loose = []) {a m : Nat} (hm : a + m <= d.firm.length) : Cq d a m = (d.firm.drop a).take m := by
 apply List.ext_getElem?
 intro i
 unfold Cq
 by_cases hi : i < m
 ·rw [List.getElem?_map, List.getElem?_range hi, Option.map_some, qv h, List.getElem?_take_of_lt hi, List.getElem?_drop, List.getD_eq_getElem?_getD]
  grind
 grind
theorem abo {d : D} (h : d.loose = []) {e a pg : Nat} (hd : Hd d.firm.length d.firm e a pg) : rt d = some (e, a, pg) := by
 obtain ⟨h1, h2⟩ := hd
 rcases (show e % 2 = 0 \/ e % 2 = 1 by omega) with he | he
 ·rw [he] at h1 h2
  have h2 : ∀ x, ka d.firm.length (d.firm.getD 1 []) = some x -> x.1 < e := h2
  refine tf (x := some (e, a, pg)) (y := ka d.firm.length (d.firm.getD 1 [])) (by rw [qv h]; exact h1) (by rw [qv h]) ?_
  cases hy : ka d.firm.length (d.firm.getD 1 []) with
  | none => rfl
  | some y =>
   have := h2 y hy
   show (if e < y.1 then some y else some (e, a, pg)) = _
   grind
 ·rw [he] at h1 h2
  have h2 : ∀ x, ka d.firm.length (d.firm.getD 0 []) = some x -> x.1 < e := h2
  refine tf (x := ka d.firm.length (d.firm.getD 0 [])) (y := some (e, a, pg)) (by rw [qv h]) (by rw [qv h]; exact h1) ?_
  cases hx : ka d.firm.length (d.firm.getD 0 []) with
  | none => rfl
  | some x =>
   have := h2 x hx
   show (if x.1 < e then some (e, a, pg) else some x) = _
   grind
structure OpenP (n : Nat) (e : Nat) (rows : List KV) (d : D) (k : Nat) (z : S) : Prop where
 rw_ : z.rows = rows
 ep : z.e = e + 1
 us : z.used = 0
 fr : z.fr = 0
 mem : Mem n z
 out : ∀ F, Out z.d F -> ∃ e' a', e' <= e + 1 /\ Rc n F e' a' rows
 run : z.d.dark = false -> Run n z
 nf : d.fused = false -> z.d.fused = false
 lim : z.d.Lim k
theorem Gv {h : ae} {p : Nat} {f l : Option Nat} {d : D} (hD : eu h p f l d) (hl : d.loose = []) {n e a : Nat} {rows : List KV} (hR : Rc n d.firm e a rows) (he : e < 1073741824) {k : Nat} (hL : d.Lim (k + 3000)) :
  Ret F 13 [.ptr p 0] h fun v g => ∃ q l' z, v = .tup [.ptr q 0, vi .u16 0] /\ h.length <= q /\ Moved h g p f l l' z.d /\ StoreAt g q p f l' z /\ OpenP n e rows d k z := by
 have hn : d.firm.length = n := hR.dn.len
 obtain ⟨base, pgs, L, h1, h2, h3, h4, h5, h6, h7⟩ := hR.ex
 obtain ⟨pgR, hr⟩ := hR.room
 obtain ⟨p1, p2⟩ := pq hR.dn.lo
 have hp : pgs.length <= an n := (gu h2).2
 have hpR : pgR.length <= an n := (gu hr).2
 have hlo := hR.dn.lo
 have hhi := hR.dn.hi
 have hbld := (gu h2).1
 have h256 := nc hbld
 have hfl := sr (k := 256) pgs h256
 obtain ⟨hs1, _, hs3⟩ := xc (k := 64) (by omega) (4 * pgs.length) pgs.flatten (by omega)
 obtain ⟨hin, hin2⟩ := Mq hlo hR.a1 hp
 have hf : rt d = some (e, a, pgs.length) := abo hl (by grind)
 have hlaid : Wh d a pgs.length = (base, 0) := by
  unfold Wh
  rw [hn, Pn hl (by omega)]
  have : (d.firm.drop (mf n a)).take (pgs.length * 4) = pcs 64 pgs.flatten := by rw [Nat.mul_comm]; exact h3
  rw [this, hs3, afy (by omega) pgs h256]
  exact xt hbld
 have hjr : Cq d 2 (bo d.firm.length).1 = jr n d.firm := by
  rw [hn, Pn hl (by omega)]; rfl
 have hFr : FrL (th e (Cq d 2 (bo d.firm.length).1)).1 L := by
  rw [hjr, h4]; exact ajk h5
 have hb5 : base.length <= 5000 := by
  unfold dr at hbld
  grind
 have hr' : ej d.firm.length (pc base L) = some pgR := by grind
 obtain ⟨v, g, n1, q, l', rfl, hq, M, St⟩ := ae0 hD (by omega) hf hlaid hFr (by omega) hr' he (hL.le (by omega))
 have hlay : (∀ F, Out (yq d pgR (1 - a) (e + 1)) F -> ∃ e' a', e' <= e + 1 /\ Rc n F e' a' rows) /\
  ((yq d pgR (1 - a) (e + 1)).dark = false -> Live (yq d pgR (1 - a) (e + 1)) /\ Vd n (yq d pgR (1 - a) (e + 1)).firm (e + 1) (1 - a) rows [] 0) /\ (d.fused = false -> (yq d pgR (1 - a) (e + 1)).fused = false) := by
  cases hdk : d.dark with
  | false =>
   obtain ⟨o1, o2, o3, o4⟩ := Wo ⟨hl, hdk⟩ hn hR he hr
   grind
  | true =>
   rw [Kj hdk]
   refine ⟨fun F hF => ⟨e, a, Nat.le_succ e, ?_⟩, fun h => ?_, fun h => h⟩
   ·rw [abl hl hF]; exact hR
   grind
 obtain ⟨o1, o2, o4⟩ := hlay
 have hz : (ckF ⟨d, pc base L, e, a, pgs.length, 0, 0⟩ pgR).d = yq d pgR (1 - a) (e + 1) := rfl
 refine ⟨_, g, n1, q, l', _, rfl, hq, M, St, h7.symm, rfl, rfl, rfl, ⟨?_, hlo, hhi, ?_, ⟨pgR, by show ej n (pc base L) = _; grind⟩, Nat.zero_le _, Nat.le_refl _⟩, ?_, fun hd => ?_, ?_, ?_⟩
 ·rw [hz, Up, hn]
 ·show 1 - a <= 1; omega
 ·grind
 ·rw [hz] at hd
  obtain ⟨g1, g2⟩ := o2 hd
  exact ⟨g1, rows, [], g2, h7.symm, rfl⟩
 ·grind
 ·rw [hz]
  exact yz (by rw [ox hr]; exact hL.le (by omega))
open Go Go.Vm
theorem sk {d : D} (h : d.fused = false) : d.dark = false := by unfold D.dark; rw [h]; rfl
theorem Un {d : D} (h : d.fused = false) (hl : d.loose = []) {a : Nat} {L : List (List UInt8)} (hn : a + L.length <= d.firm.length) (hb : ∀ b ∈ L, b.length <= 64) :
  (ph d a L).loose = [] /\ (ph d a L).firm = pl d.firm (wl a L) /\ (ph d a L).fused = false := by
 obtain ⟨hP, _, hf⟩ := aln ⟨hl, sk h⟩ hn hb
 have hf := hf h
 cases hP with
 | done h1 h2 => grind
 | cut h1 _ _ _ => rw [sk hf] at h1; cases h1
theorem Xl {d : D} (hO : d.OK) (hf : d.fused = false) (hl : d.loose = []) (hlo : 64 <= d.firm.length) : (qt d).fused = false /\ Live (qt d) /\ Vd d.firm.length (qt d).firm 1 0 [] [] 0 := by
 obtain ⟨n, hn⟩ : ∃ n, d.firm.length = n := ⟨_, rfl⟩
 have hhi : n <= 4096 := by rw [<- hn]; exact hO.n
 rw [hn] at hlo |-
 obtain ⟨p1, p2⟩ := pq hlo
 obtain ⟨b0, b1⟩ := ww n
 have hD0 : Dn n d.firm := ⟨hlo, hhi, hn, hO.f64⟩
 have hrep : ∀ b ∈ List.replicate (2 + jn n) ([] : List UInt8), b.length <= 64 := fun b hb => by grind
 obtain ⟨f1, f2, f3⟩ := Un hf hl (a := 0) (L := List.replicate (2 + jn n) []) (by grind) hrep
 have hpb : dr [] = some [gc 0 []] := zf
 have h256 := nc hpb
 have hfl := sr (k := 256) [gc 0 []] h256
 obtain ⟨hs1, hs2, _⟩ := xc (k := 64) (by omega) 4 ([gc 0 []] : Sec).flatten (by rw [hfl]; rfl)
 have hs2' : ∀ b ∈ pcs 64 ([gc 0 []] : Sec).flatten, b.length <= 64 := fun b hb => by grind
 have hd : qt d = yq (ph d 0 (List.replicate (2 + jn n) [])) [gc 0 []] 0 1 := by unfold qt; rw [hn]; rfl
 have hn1 : (ph d 0 (List.replicate (2 + jn n) [])).firm.length = n := by rw [ahe, hn]
 rw [hd, Na, hn1]
 have hD1 : Dn n (ph d 0 (List.replicate (2 + jn n) [])).firm := by rw [f2]; exact hD0.sub hrep (.refl _)
 have hz : ∀ i, i < 2 + jn n -> (ph d 0 (List.replicate (2 + jn n) [])).firm[i]? = some z64 := fun i hi => by
  have := Og (List.replicate (2 + jn n) []) d.firm 0 i (by grind) (by grind)
  rw [Nat.zero_add] at this
  rw [f2, this, List.getElem?_replicate, if_pos hi]
  rfl
 generalize ph d 0 (List.replicate (2 + jn n) []) = d1 at f1 f3 hn1 hD1 hz
 have han : 4 * 1 <= 4 * an n := by omega
 obtain ⟨g1, g2, g3⟩ := Un f3 f1 (a := mf n 0) (L := pcs 64 ([gc 0 []] : Sec).flatten) (by omega) hs2'
 have hA := ac7 (a := 0) (F := d1.firm) (by omega) hD1 (by omega) hs2
 rw [hs1] at hA
 have hn2 : (ph d1 (mf n 0) (pcs 64 ([gc 0 []] : Sec).flatten)).firm.length = n := by rw [ahe, hn1]
 have hz2 : ∀ i, i < 2 + jn n -> (ph d1 (mf n 0) (pcs 64 ([gc 0 []] : Sec).flatten)).firm[i]? = some z64 := fun i hi => by
  rw [g2, Me (.refl _) (.inl (by omega)), hz i hi]
 have hD2 : Dn n (ph d1 (mf n 0) (pcs 64 ([gc 0 []] : Sec).flatten)).firm := by rw [g2]; exact hD1.sub hs2' (.refl _)
 rw [<- g2] at hA
 generalize ph d1 (mf n 0) (pcs 64 ([gc 0 []] : Sec).flatten) = d2 at g1 g3 hn2 hz2 hD2 hA
 have hpl : ([gc 0 []] : Sec).length = 1 := rfl
 rw [hpl]
 have hh64 : ∀ b ∈ [gn 1 0 1], b.length <= 64 := fun b hb => by rw [List.mem_singleton.1 hb, rq]; omega
 obtain ⟨k1, k2, k3⟩ := Un g3 g1 (a := 1 % 2) (L := [gn 1 0 1]) (by grind) hh64
 have hset : pl d2.firm (wl (1 % 2) [gn 1 0 1]) = d2.firm.set 1 (gn 1 0 1) := by
  show d2.firm.set (1 % 2) (pad _) = _
  rw [Oo rq]
 have hD3 : Dn n (d2.firm.set 1 (gn 1 0 1)) := by rw [<- hset]; exact hD2.sub hh64 (.refl _)
 rw [hset] at k2
 refine ⟨k3, ⟨k1, sk k3⟩, ?_⟩
 rw [k2]
 have ne : ∀ i, 2 <= i -> (d2.firm.set 1 (gn 1 0 1))[i]? = d2.firm[i]? := fun i hi => List.getElem?_set_ne (by omega)
 refine ⟨hD3, by omega, by omega, by omega, ⟨[gc 0 []], ⟨?_, fun x hx => ?_⟩, zm hlo, ?_⟩, by simp [ct], rfl, Nat.zero_le _, fun i b _ hi hb => ?_, fun c hc => (by cases hc), ⟨_, zm hlo⟩, fun i b hi hb => ?_⟩
 ·show ka n ((d2.firm.set 1 (gn 1 0 1)).getD 1 []) = _
  rw [List.getD_eq_getElem?_getD, List.getElem?_set_self (by omega)]
  exact Br (by omega) (by omega) (by omega) (Nat.le_refl 1) (by grind) hhi
 ·have hx : ka n ((d2.firm.set 1 (gn 1 0 1)).getD 0 []) = some x := hx
  rw [List.getD_eq_getElem?_getD, List.getElem?_set_ne (by omega), hz2 0 (by omega)] at hx
  have hx : ka n z64 = some x := hx
  rw [Ql] at hx; cases hx
 ·rw [hpl, <- hA]
  exact ou fun i hi => ne _ (by omega)
 ·rw [ne _ (by omega), hz2 _ (by omega)] at hb
  cases hb
  exact (Qc 1).1
 ·rw [ne _ (by omega), hz2 _ (by omega)] at hb
  cases hb
  exact (Qc 1).2
theorem Kr {d : D} {k : Nat} (h : d.Lim (k + 2000)) (hn : d.firm.length <= 4096) : (qt d).Lim k := by
 have hj := (ix hn).1
 have h256 := nc zf
 have hps : (pcs 64 ([gc 0 []] : Sec).flatten).length = 4 := by
  have hfl := sr (k := 256) [gc 0 []] h256
  exact (xc (k := 64) (by omega) 4 ([gc 0 []] : Sec).flatten (by rw [hfl]; rfl)).1
 unfold qt
 refine yz (pd (nm _ _ _ _ (h.le ?_)))
 grind
theorem Eg {h : ae} {p : Nat} {f l : Option Nat} {d : D} (hD : eu h p f l d) (hf : d.fused = false) (hl : d.loose = []) (hlo : 64 <= d.firm.length) {k : Nat} (hL : d.Lim (k + 2000)) :
  Ret F 11 [.ptr p 0] h fun v g => v = vi .u16 0 /\ ∃ l' d', Moved h g p f l l' d' /\ d'.fused = false /\ Live d' /\ Vd d.firm.length d'.firm 1 0 [] [] 0 /\ d'.Lim k := by
 obtain ⟨v, g, n1, rfl, l', M⟩ := Rt hD hlo (hL.le (by have := (ix hL.ok.n).1; omega))
 obtain ⟨a1, a2, a3⟩ := Xl hL.ok hf hl hlo
 exact ⟨_, g, n1, rfl, l', _, M, a1, a2, a3, Kr hL hL.ok.n⟩
open Go Go.Vm
theorem RowsE.setV {els : List (List CV)} {rows : List KV} (h : RowsE els rows) {i : Nat} {k v : List UInt8} (hi : rows[i]? = some (k, v)) {c : CV} (hc : SlV 1 (eB v) (.cv c)) : RowsE (els.set i [.sc (.string ⟨k.toArray⟩), c]) rows := by
 induction h generalizing i with
 | nil => simp at hi
 | cons h t ih =>
  cases i with
  | zero => cases hi; exact .cons ⟨c, rfl, hc⟩ t
  | succ i => exact .cons h (ih (by grind))
theorem f42_loop {rows : List KV} (hl : rows.length <= 1000000) (hv : ∀ r ∈ rows, r.2.length <= 1000000000) {uo : VV} {id g : Nat} (huo : uo = .own id g 0 rows.length false) : ∀ (r i : Nat) (els : List (List CV)) (s : List VV) (h : ae) (Q : Pst), i + r = rows.length -> h[id]? = some (.arr 2 els g false) -> rows.length <= els.length -> RowsE (els.take rows.length) rows ->
  s.length = 24 -> s.getD 3 .undef = uo -> s.getD 8 .undef = uo -> s.getD 9 .undef = vi .i64 rows.length -> s.getD 10 .undef = vi .i64 i ->
  (∀ s' h' els', s'.length = 24 -> s'.getD 3 .undef = uo -> h'[id]? = some (.arr 2 els' g false) -> rows.length <= els'.length -> RowsE (els'.take rows.length) rows -> Q (.exit 0) ⟨s', h'⟩) -> X F (.loop f42_1) ⟨s, h⟩ Q := by
 intro r
 induction r with
 | zero =>
  intro i els s h Q hi hb hfl hR hs e3 e8 e9 e10 hQ
  have c : ¬ ((i : Nat) : Int) < (rows.length : Int) := by omega
  rw [ax, bh f42_1.eq_1]
  simp only [go_sem, seval, hs, e9, e10, c]
  rw [bh f42_0.eq_1]
  simp only [go_sem, seval, hs]
  grind
 | succ r ih =>
  intro i els s h Q hi hb hfl hR hs e3 e8 e9 e10 hQ
  have c : ((i : Nat) : Int) < (rows.length : Int) := by omega
  obtain ⟨e, kv, a1, a2, cc, rfl, a3⟩ := hR.get (i := i) (by omega)
  rw [List.getElem?_take_of_lt (by omega)] at a1
  subst huo
  have ia : ∀ {g' : ae}, g'[id]? = some (.arr 2 els g false) -> iaO g' 2 (.own id g 0 rows.length false) (vi .i64 (i : Int)) = some (.eptr id g i 0, g') := fun {g'} hg => by
   rw [Cm (by omega) hg (by omega)]; simp
  have ld2 : ldO h true 2 (.eptr id g i 0) = some (.agg [txt kv.1, .cv cc], h) := by
   simp [ldO, ah, mu, hb, a1, dl]
  have hb2 : (h ++ [VO.box [txt kv.1, .cv cc] false])[id]? = some (.arr 2 els g false) := (HExt.push h _).get hb
  have q5 : (h ++ [VO.box [txt kv.1, .cv cc] false])[h.length]? = some (.box [txt kv.1, .cv cc] false) := bm
  have ld5 : ldO (h ++ [VO.box [txt kv.1, .cv cc] false]) false 1 (.ptr h.length 1) = some (.cv cc, _) := bc q5 rfl
  obtain ⟨v5, g5, n5, w5, r5, S5⟩ := Dm a3 (hv kv (List.mem_of_getElem? a2))
  obtain ⟨c5, rfl⟩ : ∃ c5, w5 = .cv c5 := by rcases S5 with ⟨rfl, _⟩ | ⟨ex, rfl⟩ <;> exact ⟨_, rfl⟩
  have clc : ∀ g' : ae, cd g' [.cv cc] = some ([.cv cc], g') := fun g' => rfl
  have st5 := alw (off := 1) (c := c5) hb2 a1 (by grind)
  have hwr : IntKind.i64.wrap ((i : Int) + 1) = ((i + 1 : Nat) : Int) := by rw [IntWalk.i64_in _ (by omega)]; omega
  have fd : fdO 1 (.eptr id g i 0) = some (.eptr id g i 1) := rfl
  rw [ax, bh f42_1.eq_1]
  simp only [go_sem, seval, hs, e9, e10, c]
  rw [bh f42_0.eq_1]
  simp only [go_sem, seval, hs, e8, e10, ia hb, ld2]
  simp only [go_sem, seval, hs, e3, e8, e10, ld5]
  refine ap (by simp only [List.map, go_sem, seval, hs]; exact clc _) n5 r5 ?_
  simp only [go_sem, seval, hs, ia hb2, fd, st5, e10, hwr]
  refine ih (i + 1) _ _ _ Q (by omega) (List.getElem?_set_self (ey hb2)) (by grind) (by rw [List.take_set]; exact hR.setV (k := kv.1) (v := kv.2) a2 S5) (by simp only [ak, hs]) (by simp only [go_sem, seval, hs, e3]) (by simp only [go_sem, seval, hs, e8]) (by simp only [go_sem, seval, hs, e9]) (by simp only [go_sem, seval, hs]) hQ
theorem Sn {rows : List KV} {els : List (List CV)} {u : VV} (hu : SlV 2 els u) (hR : RowsE els rows) (hl : rows.length ≤ 1000000) (hv : ∀ r ∈ rows, r.2.length ≤ 1000000000) : Db F 42 [u] fun w => ∃ els', SlV 2 els' w ∧ RowsE els' rows := by
  have hel := hR.len
  obtain ⟨v6, g6, n6, B6⟩ := Ea (h := []) hu.vf (by omega)
  rcases B6.v with ⟨e6, rfl⟩ | ⟨e6, rfl⟩ | ⟨id, gg, full, _, rfl, a2, a3, a4⟩
  · have hr : rows.length = 0 := by grind
    have : Ret F 42 [u] [] fun v g => v = bp := by
      refine ba (fn := f42) rfl ?_
      simp only [f42]
      generalize hs0 : ([u] ++ List.replicate _ VV.undef : List VV) = s
      have hs : s.length = 24 := by grind
      have h0 : s.getD 0 .undef = u := by grind
      clear hs0
      have c : ¬ ((0 : Int) < 0) := by decide
      simp only [go_sem, seval, hs, h0]
      refine ao (by simp only [List.map, go_sem, seval, hs, h0]; exact n6) ?_
      simp only [go_sem, seval, hs]
      rw [ax, bh f42_1.eq_1]
      simp only [go_sem, seval, hs]
      rw [bh f42_0.eq_1]
      simp only [go_sem, seval, hs]
      all_goals trivial
    obtain ⟨v, g, n1, rfl⟩ := this
    exact ⟨_, g, n1, _, rfl, els, .inl ⟨rfl, e6⟩, hR⟩
  · have hr : rows.length = 0 := by grind
    have : Ret F 42 [u] [] fun v g => v = .cv (.sl 2 [] true) := by
      refine ba (fn := f42) rfl ?_
      simp only [f42]
      generalize hs0 : ([u] ++ List.replicate _ VV.undef : List VV) = s
      have hs : s.length = 24 := by grind
      have h0 : s.getD 0 .undef = u := by grind
      clear hs0
      simp only [go_sem, seval, hs, h0]
      refine ao (by simp only [List.map, go_sem, seval, hs, h0]; exact n6) ?_
      have hln : lnO false (.cv (.sl 2 [] true)) = some (vi .i64 0) := rfl
      simp only [go_sem, seval, hs, hln]
      rw [ax, bh f42_1.eq_1]
      simp only [go_sem, seval, hs]
      rw [bh f42_0.eq_1]
      simp only [go_sem, seval, hs]
      all_goals trivial
    obtain ⟨v, g, n1, rfl⟩ := this
    exact ⟨_, g, n1, _, rfl, els, .inr ⟨true, by rw [e6]⟩, hR⟩
  · have : Ret F 42 [u] [] fun v g => v = .own id gg 0 rows.length false ∧ ∃ els', g[id]? = some (.arr 2 els' gg false) ∧ rows.length ≤ els'.length ∧ RowsE (els'.take rows.length) rows := by
      rw [hel] at a3 a4 n6
      have hln : lnO false (.own id gg 0 rows.length false) = some (vi .i64 rows.length) := rfl
      refine ba (fn := f42) rfl ?_
      simp only [f42]
      generalize hs0 : ([u] ++ List.replicate _ VV.undef : List VV) = s
      have hs : s.length = 24 := by grind
      have h0 : s.getD 0 .undef = u := by grind
      clear hs0
      simp only [go_sem, seval, hs, h0]
      refine ao (by simp only [List.map, go_sem, seval, hs, h0]; exact n6) ?_
      simp only [go_sem, Nat.reduceLT, Nat.reduceEqDiff, reduceCtorEq, Int.reduceLT, Int.reduceEq, hs, hln]
      refine f42_loop hl hv rfl rows.length 0 full _ _ _ (by omega) a2 a3 (by grind) (by grind) (by grind) (by grind) (by grind) (by grind) (fun s' h' els' hs' k3 k4 k5 k6 => ?_)
      simp only [go_sem, seval, hs', k3]
      grind
    obtain ⟨v, g, n1, rfl, els', k4, k5, k6⟩ := this
    refine ⟨_, g, n1, .cv (.sl 2 (els'.take rows.length) false), ?_, _, .inr ⟨false, rfl⟩, k6⟩
    have : gt g (.own id gg 0 rows.length false) = some (.cv (.sl 2 (els'.take rows.length) false), g.set id (.arr 2 els' gg true)) := by
      simp only [gt, Go.Vm.clos, k4, Nat.zero_add, k5, and_self, if_true, List.drop_zero]
    simp only [au, this, Option.map]
theorem pt {h : ae} {q p : Nat} {f l : Option Nat} {z : S} (hS : StoreAt h q p f l z) (hl : z.rows.length <= 1000000) (hv : ∀ r ∈ z.rows, r.2.length <= 1000000000) : ∃ w els, call F 16 [.ptr q 0] h = some (.ret w, h) /\ SlV 2 els w /\ RowsE els z.rows := by
 obtain ⟨u, els, hb, hU, hR⟩ := hS.box
 obtain ⟨v4, g4, n4, w4, y4, els4, S4, R4⟩ := Sn hU hR hl hv
 have clu : cd h [u] = some ([u], h) := by rcases hU with ⟨rfl, _⟩ | ⟨ex, rfl⟩ <;> rfl
 have l1 : ldO h false 1 (.ptr q 1) = some (u, h) := bc hb rfl
 have : Ret F 16 [.ptr q 0] h fun v g => v = w4 /\ g = h := by
  refine ba (fn := f16) rfl ?_
  simp only [f16]
  generalize hs0 : ([.ptr q 0] ++ List.replicate _ VV.undef : List VV) = s
  have hs : s.length = 10 := by grind
  have h0 : s.getD 0 .undef = .ptr q 0 := by grind
  clear hs0
  simp only [go_sem, seval, hs, h0]
  rw [bh f16_0.eq_1]
  simp only [go_sem, seval, hs, h0, l1]
  refine ap (h1 := h) (by simp only [List.map, go_sem, seval, hs]; exact clu) n4 y4 ?_
  simp only [go_sem, seval, hs]
  grind
 obtain ⟨v, g, e, rfl, rfl⟩ := this
 grind
theorem Vr {h : ae} {q p : Nat} {f l : Option Nat} {z : S} (hS : StoreAt h q p f l z) : call F 20 [.ptr q 0] h = some (.ret (vi .i64 z.e), h) := by
 obtain ⟨u, els, hb, hU, hR⟩ := hS.box
 have l2 : ldO h false 1 (.ptr q 2) = some (vi .i64 z.e, h) := bc hb rfl
 have : Ret F 20 [.ptr q 0] h fun v g => v = vi .i64 z.e /\ g = h := by
  refine ba (fn := f20) rfl ?_
  simp only [f20]
  generalize hs0 : ([.ptr q 0] ++ List.replicate _ VV.undef : List VV) = s
  have hs : s.length = 10 := by grind
  have h0 : s.getD 0 .undef = .ptr q 0 := by grind
  clear hs0
  simp only [go_sem, seval, hs, h0]
  rw [bh f20_0.eq_1]
  simp only [go_sem, seval, hs, h0, l2]
  grind
 obtain ⟨v, g, e, rfl, rfl⟩ := this
 exact e
open Go Go.Vm
theorem ac6 {n : Nat} {z : S} {c : List Ch} (hM : Mem n z) (hn : c ≠ []) (hl : c.any lng = false) (he : z.e < 1073741823) (hfr : z.fr <= 1073741824) (hroom : ∃ p, ej n (de z.rows c) = some p) (hp : (pcs 49 (ig c)).length <= 200) (hj : (pcs 49 (ig c)).length <= jn n) : (bq z c).2 = 0 := by
 obtain ⟨pA, hrm⟩ := hroom
 obtain ⟨pg0, hr0⟩ := hM.room
 have hps : ∃ ps, eh z.e z.fr c = some ps /\ ps.length = (pcs 49 (ig c)).length := by
  have h1 := vx.2 (show z.e <= 1073741824 by omega)
  have h2 := vx.2 hfr
  unfold eh
  generalize ku (z.e : Int) = x1 at h1
  generalize ku (z.fr : Int) = x2 at h2
  subst h1 h2
  exact ⟨_, if_pos ⟨rfl, rfl, hp⟩, lf _ _⟩
 obtain ⟨ps, hpf, hpl⟩ := hps
 obtain ⟨ps', hp2, _⟩ := wy hpf (e' := z.e + 1) (by omega)
 unfold bq
 rw [if_neg hn, if_neg (by rw [hl]; decide), hM.dn, hrm, hpf]
 dsimp only
 rw [if_neg (by show ¬ jn n < ps.length; omega)]
 by_cases c3 : (bo n).1 < z.used + ps.length
 ·rw [if_pos c3, hr0, hp2]
 ·rw [if_neg c3]
theorem afl : ∃ p, ej 64 (de [] [([97], [], false)]) = some p := by
 have h1 : de [] [([97], [], false)] = [([97], [])] := by rfl
 have h2 : ∃ p, dr [([97], [])] = some [p] := ⟨_, by rfl⟩
 obtain ⟨p, h2⟩ := h2
 refine ⟨[p], ?_⟩
 rw [h1]
 unfold ej
 rw [h2]
 rfl
abbrev kc : List Ch := [([97], [], false)]
theorem an3 : ChsE [[.sc (.string ⟨#[97]⟩), .sc (.slice none 0 0), .sc (.bool false)]] kc := .cons ⟨_, rfl, .inl ⟨rfl, rfl⟩⟩ .nil
theorem Uj : (pcs 49 (ig kc)).length <= 16 := by
 have h := Nf (k := 49) (by omega) (ig kc).length (ig kc) (Nat.le_refl _)
 have : (ig kc).length <= 10 := by
  have : ig kc = num (kq (kc.length : Nat)) ++ (kc.map chB).flatten := rfl
  rw [this, List.length_append]
  have h1 : (num (kq (kc.length : Nat))).length <= 4 := by decide
  have h2 : ((kc.map chB).flatten).length <= 6 := by decide
  omega
 omega
theorem af2 (n : Nat) (hn : n <= 4096) : (Sr n).OK := by
 refine ⟨fun b hb => ?_, fun o ho => (by cases ho), ?_, by simp [Sr], by show 0 < 1000000; omega, by show 0 < 1000000; omega⟩
 ·rw [List.eq_of_mem_replicate hb]; simp [z64]
 ·show (List.replicate n z64).length <= 4096; grind
theorem Nq (n : Nat) (hn : n <= 4096) : (Sr n).Lim 700000 := ⟨af2 n hn, by show 0 + 700000 < 800000; omega, by show 0 + 700000 < 800000; omega, by show 0 + 700000 < 800000; omega⟩
theorem Od (n : Nat) : (Sr n).firm.length = n := by show (List.replicate n z64).length = n; grind
theorem Wv {h h1 h2 : ae} {p : Nat} {l' : Option Nat} {d : D} (e : Ext h h1) (hp : h.length <= p) {fi : Nat} (hf : h.length <= fi) (m : Moved h1 h2 p (some fi) none l' d) : Ext h h2 :=
 ⟨Nat.le_trans e.len m.kept.len, fun j hj => by rw [m.kept.same j (Nat.lt_of_lt_of_le hj e.len) (by omega) (by grind) (by grind), e.same j hj]⟩
theorem RowsE.vals {n : Nat} {rows : List KV} {p : Sec} (h : ej n rows = some p) : rows.length <= 5000 := by
 have := (gu h).1
 unfold dr at this
 grind
theorem Pt : ∀ (l : List KV) (n : Nat), lz n l = l.length -> Ba l
 | [], n, _ => fun p hp => by cases hp
 | p :: l, n, h => by
  simp only [lz, List.length_cons] at h
  split at h
  ·omega
  ·rename_i c1
   split at h
   ·omega
   ·intro q hq
    rcases List.mem_cons.1 hq with rfl | hq
    ·omega
    ·exact Pt l (n + (1 + (ie p).length)) (by omega) q hq
theorem Xh {n : Nat} {rows : List KV} {p : Sec} (h : ej n rows = some p) : Ba rows := by
 obtain ⟨up, _, _, _, e4⟩ := ls (gu h).1
 intro r hr
 rw [<- e4] at hr
 obtain ⟨g, hg, hr⟩ := List.mem_flatten.1 hr
 exact Pt g 0 (Lz rows g hg) r hr
structure New (h : ae) (n k : Nat) (g : ae) (q p : Nat) (f : Nat) (l' : Option Nat) (z : S) : Prop where
 ext : Ext h g
 hq : h.length <= q
 hp : h.length <= p
 hf : h.length <= f
 hl : ∀ i, l' = some i -> h.length <= i
 st : StoreAt g q p (some f) l' z
 rw_ : z.rows = []
 e2 : z.e = 2
 us : z.used = 0
 fr : z.fr = 0
 mem : Mem n z
 run : Run n z
 nf : z.d.fused = false
 lim : z.d.Lim k
theorem Xk (h : ae) : ∃ g, call F 12 [] h = some (.ret (vb true), g) /\ Ext h g := by
 obtain ⟨h1, n1, D1, l1, k1⟩ := Tv 64 (by omega) h
 have e1 : Ext h h1 := ⟨l1, k1⟩
 obtain ⟨v2, h2, n2, rfl, lA, dA, MA, f2, L2, V2, B2⟩ := Eg D1 rfl rfl (by rw [Od]; omega) (k := 690000) ((Nq 64 (by omega)).le (by omega))
 rw [Od] at V2
 obtain ⟨v3, h3, n3, q, lB, z, rfl, hq, MB, SB, OB⟩ := Gv MA.dev L2.loose V2.rc (by omega) (k := 680000) (B2.le (by omega))
 have hR := OB.run (sk (OB.nf f2))
 have hrw : z.rows = [] := OB.rw_
 have hE : z.e = 2 := OB.ep
 have hU := OB.us
 have hF := OB.fr
 have MAB := MA.trans MB
 obtain ⟨w4, els4, n4, S4, R4⟩ := pt SB (by grind) (by grind)
 rw [hrw] at R4
 have el4 : els4.length = 0 := R4.len
 have hP : PreC z kc := ⟨OB.lim.ok, by grind, by simp, by have := Uj; have := As (k := 49) (by omega) _ (ig kc) (Nat.le_refl _); have e : (ml 49 (ig kc).length (ig kc)).length = (pcs 49 (ig kc)).length := rfl; omega, fun x hx => by grind⟩
 obtain ⟨pg0, hr0⟩ := OB.mem.room
 have hdn := OB.mem.dn
 obtain ⟨v5, h5, n5, rfl, lC, MC⟩ := Dt SB (uc := .cv (.sl 3 [[.sc (.string ⟨#[97]⟩), .sc (.slice none 0 0), .sc (.bool false)]] true)) (.inr ⟨true, rfl⟩) an3 hP (by rw [hdn]; exact hr0) OB.mem.a1 (by omega) (by omega) (by omega) (OB.lim.le (by omega))
 have ha := ac6 (c := kc) OB.mem (by simp) rfl (by omega) (by omega) (by rw [hrw]; exact afl) (by have := Uj; omega) (by have := Uj; show _ <= 16; omega)
 have hy := (sq (c := kc) OB.mem (by omega) (by simp) (fun x hx _ => by grind)).yes ha
 rw [ha] at n5
 have n5 : call F 14 [.ptr q 0, .cv (.sl 3 [[.sc (.string ⟨#[97]⟩), .sc (.slice none 0 0), .sc (.bool false)]] true)] h3 = some (.ret (vi .u16 0), h5) := n5
 have hk1 : de [] kc = [([97], [])] := by rfl
 rw [hrw, hk1] at hy
 obtain ⟨w6, els6, n6, S6, R6⟩ := pt MC.st (by rw [hy]; simp) (by grind)
 rw [hy] at R6
 have el6 : els6.length = 1 := R6.len
 have nU := Vr SB
 rw [hE] at nU
 obtain ⟨v30, g30, m30, w30, y30, rfl⟩ := ux (n := 64) (by omega) (by omega)
 have p64 : bo (64 : Int).toNat = (16, 5) := by rfl
 rw [p64] at y30
 have y30 : au g30 v30 = some (.tup [vi .i64 16, vi .i64 5]) := y30
 have nU : call F 20 [.ptr q 0] h3 = some (.ret (vi .i64 2), h3) := nU
 have s4 := S4.ln
 rw [el4] at s4
 have s4 : lnO false w4 = some (vi .i64 0) := s4
 have s6 := S6.ln
 rw [el6] at s6
 have s6 : lnO false w6 = some (vi .i64 1) := s6
 suffices hx : Ret F 12 [] h fun v g => v = vb true /\ Ext h g by
  obtain ⟨v, g, a1, rfl, a2⟩ := hx
  grind
 have ext : Ext h h5 := by
  have k2 := MC.kept
  have x3 : Ext h h3 := Wv e1 (by omega) (by omega) MAB
  refine ⟨Nat.le_trans x3.len k2.len, fun j hj => ?_⟩
  have hq' : h.length <= q := Nat.le_trans e1.len (Nat.le_trans MA.kept.len hq)
  rw [k2.same j (Nat.lt_of_lt_of_le hj x3.len) (by omega) (by omega) (by grind) (fun e => ?_), x3.same j hj]
  rcases MAB.new j e with e' | e'
  ·cases e'
  omega
 refine ba (fn := f12) rfl ?_
 simp only [f12]
 generalize hs0 : ([] ++ List.replicate _ VV.undef : List VV) = s
 have hs : s.length = 57 := by grind
 clear hs0
 simp only [go_sem, seval, hs]
 refine ap (h1 := h) (by simp only [List.map, go_sem, seval, hs]; rfl) m30 y30 ?_
 simp only [go_sem, seval, hs]
 refine ao (by simp only [List.map, go_sem, seval, hs]; exact n1) ?_
 simp only [go_sem, seval, hs]
 rw [bh f12_0.eq_1]
 simp only [go_sem, seval, hs]
 refine ao (by simp only [List.map, go_sem, seval, hs]; exact n2) ?_
 simp only [go_sem, seval, hs]
 refine ao (by simp only [List.map, go_sem, seval, hs]; exact n3) ?_
 simp only [go_sem, seval, hs]
 refine ao (by simp only [List.map, go_sem, seval, hs]; exact nU) ?_
 simp only [go_sem, seval, hs]
 refine ao (by simp only [List.map, go_sem, seval, hs]; exact n4) ?_
 have bdk : bdO [VV.cv (CV.sc (Value.string ⟨#[]⟩)), VV.cv (CV.sc (Value.slice none 0 0)), VV.cv (CV.sc (Value.bool false))] [(0, 1, VV.cv (CV.sc (Value.string ⟨#[97]⟩)))] = some (.agg [.cv (.sc (.string ⟨#[97]⟩)), bp, vb false]) := rfl
 have mkk : ∀ g : ae, mkO g 3 1 [.cv (.sc (.string ⟨#[]⟩)), .cv (.sc (.slice none 0 0)), .cv (.sc (.bool false))] [(0, 3, .agg [.cv (.sc (.string ⟨#[97]⟩)), bp, vb false])] = some (.cv (.sl 3 [[.sc (.string ⟨#[97]⟩), .sc (.slice none 0 0), .sc (.bool false)]] true), g) := fun g => rfl
 simp only [go_sem, seval, hs, s4, bdk, mkk]
 refine ao (by simp only [List.map, go_sem, seval, hs]; exact n5) ?_
 simp only [go_sem, seval, hs]
 refine ao (by simp only [List.map, go_sem, seval, hs]; exact n6) ?_
 simp only [go_sem, seval, hs, s6]
 grind
open Go Go.Vm
def sz (k : UInt8) : Nat := match k.toNat % 6 with
 | 0 => 64 | 1 => 65 | 2 => 80 | 3 => 100 | 4 => 128 | _ => 200
theorem aim (k : UInt8) : 64 <= sz k /\ sz k <= 200 := by unfold sz; grind
theorem Yr (k : UInt8) : Db F 22 [vi .u8 k.toNat] fun w => w = vi .i64 (sz k : Nat) := by
  have : Ret F 22 [vi .u8 k.toNat] [] fun v _ => v = vi .i64 (sz k : Nat) := by
    have q6 : (6 : Int) ≠ 0 := by decide
    have em : (k.toNat : Int).tmod 6 = ((k.toNat % 6 : Nat) : Int) := rfl
    have hm : k.toNat % 6 < 6 := Nat.mod_lt _ (by decide)
    have mk6 : ∀ g : ae, mkO g 1 6 [.cv (.sc (.int .i64 0)), .cv (.sc (.int .i64 0)), .cv (.sc (.int .i64 0)), .cv (.sc (.int .i64 0)), .cv (.sc (.int .i64 0)), .cv (.sc (.int .i64 0))]
        [(0, 1, .cv (.sc (.int .i64 64))), (1, 1, .cv (.sc (.int .i64 65))), (2, 1, .cv (.sc (.int .i64 80))), (3, 1, .cv (.sc (.int .i64 100))), (4, 1, .cv (.sc (.int .i64 128))), (5, 1, .cv (.sc (.int .i64 200)))] = some (.cv (.sl 1 [[.sc (.int .i64 64)], [.sc (.int .i64 65)], [.sc (.int .i64 80)], [.sc (.int .i64 100)], [.sc (.int .i64 128)], [.sc (.int .i64 200)]] true), g) := fun g => rfl
    have ia : ∀ (g : ae) (m : Nat) (c : CV), m < 6 → [CV.sc (.int .i64 64), .sc (.int .i64 65), .sc (.int .i64 80), .sc (.int .i64 100), .sc (.int .i64 128), .sc (.int .i64 200)][m]? = some c →
        iaO g 1 (.cv (.sl 1 [[.sc (.int .i64 64)], [.sc (.int .i64 65)], [.sc (.int .i64 80)], [.sc (.int .i64 100)], [.sc (.int .i64 128)], [.sc (.int .i64 200)]] true)) (vi .u8 (m : Int)) = some (.rptr [c], g) := by
      intro g m c hm hc
      match m, hm with
      | 0, _ => cases hc; rfl
      | 1, _ => cases hc; rfl
      | 2, _ => cases hc; rfl
      | 3, _ => cases hc; rfl
      | 4, _ => cases hc; rfl
      | 5, _ => cases hc; rfl
    have hsz : [CV.sc (.int .i64 64), .sc (.int .i64 65), .sc (.int .i64 80), .sc (.int .i64 100), .sc (.int .i64 128), .sc (.int .i64 200)][k.toNat % 6]? = some (.sc (.int .i64 (sz k : Nat))) := by
      unfold sz
      generalize k.toNat % 6 = m at hm
      match m, hm with
      | 0, _ => rfl
      | 1, _ => rfl
      | 2, _ => rfl
      | 3, _ => rfl
      | 4, _ => rfl
      | 5, _ => rfl
    have la : ∀ g : ae, ldO g false 1 (.rptr [.sc (.int .i64 (sz k : Nat))]) = some (vi .i64 (sz k : Nat), g) := fun g => ke
    refine ba (fn := f22) rfl ?_
    simp only [f22]
    generalize hs0 : ([vi .u8 k.toNat] ++ List.replicate _ VV.undef : List VV) = s
    have hs : s.length = 8 := by grind
    have h0 : s.getD 0 .undef = vi .u8 k.toNat := by grind
    clear hs0
    simp only [go_sem, seval, hs, h0, mk6, rh q6, em, ia _ _ _ hm hsz, la]
    all_goals trivial
  obtain ⟨v, g, n1, rfl⟩ := this
  exact ⟨_, g, n1, _, rfl, rfl⟩
theorem ama {P : VV -> ae -> Prop} {s : List VV} {h : ae} {a m n id : Nat} {cells : List VV} {fr : Bool} (ha : s.getD a .undef = .ptr id 0) (ho : h[id]? = some (.box cells fr)) (hn : cells.length = n) (hm : m < s.length)
  (hP : P (.tup [s.getD m .undef, .agg cells]) h) : RQ [.t m, .cell a true n] P .ret ⟨s, h⟩ := by
 subst hn
 refine ⟨trivial, [s.getD m .undef, .agg cells], ?_, hP⟩
 simp only [jx, xy, jv hm, ha, ho, List.drop_zero, List.take_length, dl, if_true]
theorem Za (k : UInt8) (h : ae) : Ret F 17 [vi .u8 k.toNat] h fun v g => ∃ p f cells, v = .tup [.ptr p 0, .agg cells] /\ cells.length = 6 /\ Ext h g /\ h.length <= p /\ h.length <= f /\ eu g p (some f) none (Sr (sz k)) := by
 obtain ⟨hs1, hs2⟩ := aim k
 obtain ⟨v2, g2, n2, w2, y2, rfl⟩ := Yr k
 obtain ⟨v4, g4, n4, y4⟩ := Rf (sz k) (by omega)
 refine ba (fn := f17) rfl ?_
 simp only [f17]
 generalize hs0 : ([vi .u8 k.toNat] ++ List.replicate _ VV.undef : List VV) = s
 have hs : s.length = 18 := by grind
 have h0 : s.getD 0 .undef = vi .u8 k.toNat := by grind
 clear hs0
 simp only [go_sem, seval, hs, h0]
 have x1 := Ext.push h (.box [bp, bp, vi .i64 0, vi .i64 0, vb false, vi .i64 0] false)
 have q3 : (h ++ [VO.box [bp, bp, vi .i64 0, vi .i64 0, vb false, vi .i64 0] false])[h.length]? = some (.box [bp, bp, vi .i64 0, vi .i64 0, vb false, vi .i64 0] false) := bm
 have gl : (h ++ [VO.box [bp, bp, vi .i64 0, vi .i64 0, vb false, vi .i64 0] false]).length = h.length + 1 := by simp
 generalize h ++ [VO.box [bp, bp, vi .i64 0, vi .i64 0, vb false, vi .i64 0] false] = g1 at x1 q3 gl
 obtain ⟨g3, n3, D3, l3, k3⟩ := Tv (sz k) (by omega) g1
 have x3 : Ext g1 g3 := ⟨l3, k3⟩
 refine ap (h1 := g1) (by simp only [List.map, go_sem, seval, hs]; rfl) n2 y2 ?_
 simp only [go_sem, seval, hs]
 refine ao (by simp only [List.map, go_sem, seval, hs]; exact n3) ?_
 simp only [go_sem, seval, hs, h0]
 refine ap (h1 := g3) (by simp only [List.map, go_sem, seval, hs]; rfl) n2 y2 ?_
 simp only [go_sem, seval, hs]
 refine ap (h1 := g3) (by simp only [List.map, go_sem, seval, hs]; rfl) n4 y4 ?_
 simp only [go_sem, seval, hs]
 have q3' := x3.get q3
 have qz : (g3 ++ [VO.box [bp, bp, vi .i64 0, vi .i64 0, vb false, vi .i64 0] false])[g3.length]? = some (.box [bp, bp, vi .i64 0, vi .i64 0, vb false, vi .i64 0] false) := bm
 have xl := Ext.push g3 (.box [bp, bp, vi .i64 0, vi .i64 0, vb false, vi .i64 0] false)
 generalize g3 ++ [VO.box [bp, bp, vi .i64 0, vi .i64 0, vb false, vi .i64 0] false] = g5 at qz xl
 have st6 : stO g5 6 (.ptr g3.length 0) (tV (slV 1 (sE (sz k))) bp 0 0 false 0) = some (.undef, g5.set g3.length (.box [slV 1 (sE (sz k)), bp, vi .i64 0, vi .i64 0, vb false, vi .i64 0] false)) := ki (n := 6) (cs := [slV 1 (sE (sz k)), bp, vi .i64 0, vi .i64 0, vb false, vi .i64 0]) rfl qz rfl
 have q5 := List.getElem?_set_self (a := VO.box [slV 1 (sE (sz k)), bp, vi .i64 0, vi .i64 0, vb false, vi .i64 0] false) (bi qz)
 have x6 : Ext g3 (g5.set g3.length (.box [slV 1 (sE (sz k)), bp, vi .i64 0, vi .i64 0, vb false, vi .i64 0] false)) := HExt.ext (xl.hext.set (Nat.le_refl _) _)
 generalize g5.set g3.length (.box [slV 1 (sE (sz k)), bp, vi .i64 0, vi .i64 0, vb false, vi .i64 0] false) = g6 at st6 q5 x6
 have L6 : ldO g6 true 6 (.ptr g3.length 0) = some (.agg [slV 1 (sE (sz k)), bp, vi .i64 0, vi .i64 0, vb false, vi .i64 0], g6) := nq q5 rfl
 have q36 := x6.get q3'
 have st7 := ki (n := 6) (cs := [slV 1 (sE (sz k)), bp, vi .i64 0, vi .i64 0, vb false, vi .i64 0]) rfl q36 rfl
 have D6 := D3.ext x6
 obtain ⟨vf, vl, b1, b2, b3⟩ := D6
 have hp3 : h.length + 1 = g1.length := gl.symm
 simp only [go_sem, seval, hs, st6]
 refine kr rfl ?_
 simp only [go_sem, seval, hs, L6, st7]
 refine ama (id := h.length) (by simp only [go_sem, seval, hs]) (List.getElem?_set_self (bi q36)) rfl (by simp only [ak, hs]; decide) ?_
 simp only [go_sem, seval, hs]
 have X6 : Ext h g6 := x1.trans (x3.trans x6)
 refine ⟨_, _, _, rfl, rfl, HExt.ext (X6.hext.set (Nat.le_refl _) _), by omega, by omega, Lv ⟨vf, vl, b1, b2, b3⟩ q36 (by omega) su _⟩
open Go Go.Vm
theorem aef {n : Nat} {z : S} {pg : Sec} (hr : ej n z.rows = some pg) {k : Nat} (h : z.d.Lim (k + 4 * an n + 3)) : (ckF z pg).d.Lim k := by
 show (yq z.d pg (1 - z.a) (z.e + 1)).Lim k
 have h2 : pg.length <= an n := (gu hr).2
 exact yz (by rw [ox hr]; exact h.le (by omega))
theorem Pg {z : S} {c : List Ch} {ps : Sec} {k : Nat} (h : z.d.Lim (k + ps.length + 1)) : (tv z c ps).d.Lim k := by
 show (qa z.d (2 + z.used) ps).flush.Lim k
 exact pd (nm _ _ _ _ (h.le (by omega)))
def Bu (z : S) (c : List Ch) (j : Nat) (o1 o2 o3 o4 : Option Sec) : S × Nat := match o1, o2 with
  | some _, some ps => if j < ps.length then (z, 21) else
      if j < z.used + ps.length then
        match o3 with
        | some pg => match o4 with
          | some ps' => (tv (ckF z pg) c ps', 0)
          | none => (z, 21)
        | none => (z, 21)
      else (tv z c ps, 0)
  | _, _ => (z, 21)
theorem vn {P : S × Nat -> Prop} {z : S} {c : List Ch} {j : Nat} {o1 o2 o3 o4 : Option Sec} (h21 : P (z, 21)) (hck : ∀ pg ps ps', o3 = some pg -> o2 = some ps -> o4 = some ps' -> ps.length <= j -> P (tv (ckF z pg) c ps', 0)) (hadd : ∀ ps, ps.length <= j -> P (tv z c ps, 0)) : P (Bu z c j o1 o2 o3 o4) := by
 unfold Bu
 grind
theorem If {z : S} {c : List Ch} (hn : c ≠ []) (hl : ¬ c.any lng = true) : bq z c = Bu z c (bo z.d.firm.length).1 (ej z.d.firm.length (de z.rows c)) (eh z.e z.fr c) (ej z.d.firm.length z.rows) (eh ((z.e + 1 : Nat) : Int) 0 c) := by
 unfold bq Bu
 rw [if_neg hn, if_neg hl]
 generalize eh ((z.e + 1 : Nat) : Int) 0 c = o4
 generalize eh z.e z.fr c = o2
 generalize ej z.d.firm.length (de z.rows c) = o1
 generalize ej z.d.firm.length z.rows = o3
 cases o1 <;> cases o2 <;> cases o3 <;> cases o4 <;> rfl
theorem Re {e n e' : Nat} {c : List Ch} {ps ps' : Sec} (h : eh e n c = some ps) (h' : eh (e' : Int) 0 c = some ps') : ps'.length = ps.length := by
 rw [(pm h).1, (pm (n := 0) h').1, mo, mo]
theorem vo {P : S × Nat -> Prop} {z : S} {c : List Ch} (h0 : P (z, 0)) (h3 : P (z, 3)) (h21 : P (z, 21)) (hck : ∀ pg ps', ej z.d.firm.length z.rows = some pg -> ps'.length <= (bo z.d.firm.length).1 -> P (tv (ckF z pg) c ps', 0)) (hadd : ∀ ps, ps.length <= (bo z.d.firm.length).1 -> P (tv z c ps, 0)) : P (bq z c) := by
 by_cases hn : c = []
 ·unfold bq; rw [if_pos hn]; exact h0
 by_cases hl : c.any lng = true
 ·unfold bq; rw [if_neg hn, if_pos hl]; exact h3
 rw [If hn hl]
 exact vn h21 (fun pg ps ps' e1 e2 e3 e4 => hck pg ps' e1 (by rw [Re e2 e3]; exact e4)) hadd
theorem Ru {n : Nat} {z : S} {c : List Ch} (hM : Mem n z) (hn : n <= 1000) {k : Nat} (h : z.d.Lim (k + 1000)) : (bq z c).1.d.Lim k := by
 obtain ⟨p1, p2⟩ := pq hM.lo
 have h0 : z.d.Lim k := h.le (by omega)
 refine vo (P := fun r => r.1.d.Lim k) h0 h0 h0 (fun pg ps' hr hps => ?_) (fun ps hps => ?_)
 ·rw [hM.dn] at hr hps
  have hps : ps'.length <= jn n := hps
  exact Pg (aef hr (h.le (by omega)))
 ·rw [hM.dn] at hps
  have hps : ps.length <= jn n := hps
  exact Pg (h.le (by omega))
theorem Dx : Db F 12 [] fun w => w = vb true := by
 obtain ⟨g, n1, _⟩ := Xk []
 exact ⟨_, g, n1, _, rfl, rfl⟩
structure RunU (n : Nat) (z : S) (m : Nat) : Prop where
 mem : Mem n z
 run : Run n z
 nf : z.d.fused = false
 e : z.e + m <= 900000
 lim : z.d.Lim (1000 * m + 200000)
 e1 : 1 <= z.e
 n1 : n <= 1000
theorem RunU.fr {n m : Nat} {z : S} (h : RunU n z m) : z.fr <= 2000 /\ z.used <= 2000 := by
 have h1 := h.mem.fr
 have h2 := h.mem.used
 have h3 : jn n <= 1024 := (ix h.mem.hi).1
 omega
theorem RunU.room {n m : Nat} {z : S} (h : RunU n z m) : z.rows.length <= 5000 /\ Ba z.rows := by
 obtain ⟨p, hp⟩ := h.mem.room
 exact ⟨RowsE.vals hp, Xh hp⟩
theorem Vy {z : S} {c : List Ch} : z.e <= (bq z c).1.e :=
 vo (P := fun r => z.e <= r.1.e) (Nat.le_refl _) (Nat.le_refl _) (Nat.le_refl _) (fun _ _ _ _ => Nat.le_succ _) (fun _ _ => Nat.le_refl _)
theorem RunU.commit {n m : Nat} {z : S} (h : RunU n z (m + 1)) {c : List Ch} (hc : c.length ≤ 5000) (hg : ∀ p ∈ c, p.2.2 = true → p.2.1 = []) : RunU n (bq z c).1 m := by
  have he := h.e
  have hC := sq h.mem (c := c) (by omega) hc hg
  have he2 := hC.e
  have he3 := Vy (z := z) (c := c)
  refine ⟨hC.mem, ?_, ?_, by omega, Ru h.mem h.n1 (h.lim.le (by omega)), by have := h.e1; omega, h.n1⟩
  · by_cases h0 : (bq z c).2 = 0 ∧ c ≠ []
    · obtain ⟨_, _, r3, r4⟩ := hC.run h.run h0.1 h0.2
      exact r3 (sk (r4 h.nf))
    · have : (bq z c).1 = z := hC.not (by
        grind)
      rw [this]; exact h.run
  · by_cases h0 : (bq z c).2 = 0 ∧ c ≠ []
    · obtain ⟨_, _, r3, r4⟩ := hC.run h.run h0.1 h0.2
      exact r4 h.nf
    · have : (bq z c).1 = z := hC.not (by
        grind)
      rw [this]; exact h.nf
theorem Bw {h : ae} {q p : Nat} {f l : Option Nat} {z : S} {n m : Nat} (hS : StoreAt h q p f l z) (hU : RunU n z (m + 1)) {ec : List (List CV)} {c : List Ch} {uc : VV} (hu : SlV 3 ec uc) (hC : ChsE ec c) (hcl : c.length <= 5000) (hcb : (ig c).length <= 1000000) (hcv : ∀ x ∈ c, x.2.1.length <= 1000000000) (hg : ∀ p ∈ c, p.2.2 = true -> p.2.1 = []) :
  ∃ g l', call F 14 [.ptr q 0, uc] h = some (.ret (vi .u16 (bq z c).2), g) /\ MovedS h g q p f l l' (bq z c).1 /\ RunU n (bq z c).1 m := by
 obtain ⟨pg0, hr0⟩ := hU.mem.room
 have hr1 := hU.room
 have hfr := hU.fr
 have he := hU.e
 have hdn := hU.mem.dn
 obtain ⟨v, g, n1, rfl, l', M⟩ := Dt hS hu hC ⟨hU.lim.ok, by omega, hcl, hcb, hcv⟩ (by rw [hdn]; exact hr0) hU.mem.a1 (by omega) (by omega) hfr.2 (hU.lim.le (by omega))
 exact ⟨g, l', n1, M, hU.commit hcl hg⟩
open Go Go.Vm
theorem OpenP.runU {n e k m : Nat} {rows : List KV} {d : D} {z : S} (h : OpenP n e rows d k z) (hf : d.fused = false) (hn : n <= 1000) (he : e + 1 + m <= 900000) (hk : 1000 * m + 200000 <= k) : RunU n z m :=
 ⟨h.mem, h.run (sk (h.nf hf)), h.nf hf, by rw [h.ep]; exact he, h.lim.le hk, by rw [h.ep]; omega, hn⟩
theorem Ic {l m : List (List CV)} {k j : List KV} {vl vm : VV} (hl : SlV 2 l vl) (hm : SlV 2 m vm) (hR : RowsE l k) (hS : RowsE m j) (hk : k.length <= 1000000000) (hj : j.length <= 1000000000) : Db F 18 [vl, vm] fun w => w = vb (decide (k = j)) := by
 obtain ⟨v, g, n1, hI⟩ := Uy hl hm hR hS hk hj []
 exact ⟨v, g, n1, _, by obtain ⟨rfl, rfl⟩ := hI; rfl, rfl⟩
theorem Ba.v {l : List KV} (h : Ba l) : ∀ r ∈ l, r.2.length <= 1000000000 := fun r hr => by have := (h r hr).2; omega
open Go Go.Vm
open Go Go.Vm
open Go Go.Vm
open Go.Proofs.Ytbhoknaipfnlnaa
section
variable {H : Type} {d0 d1 d2 d3 : DataW H} {u0 u1 u2 u3 : VV}
end
open Go Go.Vm
theorem ab7 {k v : List UInt8} {t : Bool} (hk : k.length <= 30) (hv : v.length <= 150) (ht : t = true -> v = []) : [(k, v, t)].length <= 5000 /\ (ig [(k, v, t)]).length <= 1000000 /\ (∀ x ∈ [(k, v, t)], x.2.1.length <= 1000000000) /\ ∀ p ∈ [(k, v, t)], p.2.2 = true -> p.2.1 = [] := by
 have hf : qd [(k, v, t)] := fun p hp => by grind
 have h3 := Of _ hf
 grind
theorem akc {k v : List UInt8} {t : Bool} {c : CV} (hc : SlV 1 (eB v) (.cv c)) : ChsE [[.sc (.string ⟨k.toArray⟩), c, .sc (.bool t)]] [(k, v, t)] := .cons ⟨_, rfl, hc⟩ .nil
def kb (x : UInt8) : UInt8 := UInt8.ofNat (97 + x.toNat % 16)
theorem mk3 {a b c d e f : CV} (g : ae) : mkO g 3 1 [.cv a, .cv b, .cv c] [(0, 3, .agg [.cv d, .cv e, .cv f])] = some (.cv (.sl 3 [[d, e, f]] true), g) := rfl
theorem bdc {k : List UInt8} {v : CV} : bdO [VV.cv (.sc (.string ⟨#[]⟩)), .cv (.sc (.slice none 0 0)), .cv (.sc (.bool false))] [(0, 1, txt k), (1, 1, .cv v)] = some (.agg [.cv (.sc (.string ⟨k.toArray⟩)), .cv v, .cv (.sc (.bool false))]) := rfl
open Go Go.Vm
def an4 (rows : List KV) (key : List UInt8) (w : VV) (is : Bool) : Prop :=
 (is = false /\ w = bp /\ ∀ r ∈ rows, r.1 ≠ key) \/ (is = true /\ ∃ val, (key, val) ∈ rows /\ SlV 1 (eB val) w)
open Go Go.Vm
theorem Sf {l : List KV} {x : Ch} (hx : x.2.2 = true) : ∀ r ∈ jq l x, r.1 ≠ x.1 := by
 intro r hr
 unfold jq at hr
 rw [if_pos hx] at hr
 have := (List.mem_filter.1 hr).2
 grind
theorem Wp {l : List KV} {x : Ch} (hx : x.2.2 = false) : (x.1, x.2.1) ∈ jq l x /\ ∀ r ∈ jq l x, r.1 = x.1 -> r.2 = x.2.1 := by
 unfold jq
 rw [if_neg (by grind)]
 refine ⟨by simp, fun r hr hk => ?_⟩
 have no : r ∉ ev l x.1 := fun h => by
  have := (List.mem_filter.1 h).2
  grind
 grind
theorem Ox {l : List KV} {x : Ch} {w : VV} {is : Bool} (h : an4 (jq l x) x.1 w is) : is = !x.2.2 /\ (is = true -> SlV 1 (eB x.2.1) w) := by
 cases hx : x.2.2 with
 | true =>
  rcases h with ⟨h1, _, _⟩ | ⟨_, v, h2, _⟩
  ·grind
  ·exact absurd rfl (Sf hx _ h2)
 | false =>
  obtain ⟨k1, k2⟩ := Wp (l := l) hx
  rcases h with ⟨_, _, h3⟩ | ⟨h1, v, h2, h3⟩
  ·grind
  grind
theorem abj {z : S} {c : List Ch} (hn : c ≠ []) : (bq z c).2 = 3 ↔ c.any lng = true := by
 by_cases hl : c.any lng = true
 ·unfold bq
  rw [if_neg hn, if_pos hl]
  simp [hl]
 ·rw [If hn hl]
  refine ⟨fun h => ?_, fun h => absurd h hl⟩
  have : (Bu z c (bo z.d.firm.length).1 (ej z.d.firm.length (de z.rows c)) (eh z.e z.fr c) (ej z.d.firm.length z.rows) (eh ((z.e + 1 : Nat) : Int) 0 c)).2 ≠ 3 := vn (P := fun r => r.2 ≠ 3) (by show (21 : Nat) ≠ 3; decide) (fun _ _ _ _ _ _ _ => by show (0 : Nat) ≠ 3; decide) (fun _ _ => by show (0 : Nat) ≠ 3; decide)
  exact absurd h this
open Go Go.Vm
theorem afu {c : List Ch} (hf : qd c) : 49 * (pcs 49 (ig c)).length <= 8 + 200 * c.length + 48 := by
 have h := Nf (k := 49) (by omega) (ig c).length (ig c) (Nat.le_refl _)
 have h2 := Of c hf
 rw [h]; omega
open Go Go.Vm
theorem agx {F : Nat -> Option FnIR} {d : Option Nat} {q : List (Op1 × Cl)} {s : List VV} {h : ae} {Q : Pst} {c : Cl} {x y : Opd} {k k' : IntKind} {a : Nat} (hx : ad s x = vi k a) (hy : ad s y = vi k' a) (h1 : a <= 35184372088832)
  (hk : XD F q ⟨dg s d (.cv (.sl 1 (eB (List.replicate a 0)) true)), h⟩ Q) : XD F ((⟨none, d, .mks 1 1 [.sc (.int .u8 0)] x y false⟩, c) :: q) ⟨s, h⟩ Q := by
 rw [mj rfl]
 have : ah h (ad s) (.mks 1 1 [.sc (.int .u8 0)] x y false) = some (.cv (.sl 1 (eB (List.replicate a 0)) true), h) := by
  have hm : cj = 35184372088832 := rfl
  have h3 : (a : Int) <= 35184372088832 := by omega
  rw [<- yp]
  simp [ah, hx, hy, pk, hm, h3]
 rw [this, zi]
 exact hk
open Go Go.Vm
def afq (w : Nat) (l : List KV) : Prop := ∀ p ∈ l, p.1.length <= 30 /\ p.2.length <= 150 /\ 1 + (ie p).length = w
theorem afq.fits {w : Nat} {l : List KV} (h : afq w l) : Ba l := fun p hp => ⟨(h p hp).1, (h p hp).2.1⟩
theorem Ta {w : Nat} (hw : 0 < w) : ∀ (l : List KV) (n : Nat), afq w l -> n <= 250 -> lz n l = min l.length ((250 - n) / w)
 | [], _, _, _ => by simp [lz]
 | p :: l, n, h, hn => by
  obtain ⟨h1, h2, h3⟩ := h p List.mem_cons_self
  simp only [lz]
  rw [if_neg (by omega), h3]
  by_cases c : 250 < n + w
  ·rw [if_pos c, Nat.div_eq_of_lt (by omega)]; simp
  ·rw [if_neg c, Ta hw l (n + w) (fun q hq => h q (List.mem_cons_of_mem _ hq)) (by omega)]
   have : (250 - n) / w = (250 - (n + w)) / w + 1 := by
    rw [<- Nat.add_div_right _ hw]
    grind
   grind
def cnt (c : Nat) (L : Nat) : Nat := if L <= c then 1 else (L + c - 1) / c
theorem Zx {c : Nat} (hc : 0 < c) {L M : Nat} (h : L <= M) : cnt c L <= cnt c M := by
 unfold cnt
 by_cases c1 : L <= c
 ·rw [if_pos c1]
  split
  ·omega
  ·exact (Nat.le_div_iff_mul_le hc).2 (by omega)
 ·rw [if_neg c1, if_neg (by omega)]
  exact Nat.div_le_div_right (by omega)
theorem xi {w : Nat} (hw : 0 < w) (hw2 : w <= 250) : ∀ (m : Nat) (l : List KV), l.length < m -> afq w l -> (dp m l).length = cnt (250 / w) l.length
 | 0, _, h, _ => by omega
 | m + 1, l, h, hu => by
  have hc : 0 < 250 / w := Nat.div_pos hw2 hw
  have hf := Ta hw l 0 hu (by omega)
  rw [Nat.sub_zero] at hf
  have ih := xi hw hw2 m
  generalize 250 / w = c at hc hf ih |-
  rw [dp, hf]
  by_cases h1 : l.length <= c
  ·rw [Nat.min_eq_left h1, if_pos (.inr rfl)]
   unfold cnt; grind
  ·rw [Nat.min_eq_right (by omega), if_neg (by omega)]
   have := ih (l.drop c) (by grind) (fun p hp => hu p (List.mem_of_mem_drop hp))
   rw [List.length_cons, List.length_drop] at *
   rw [this]
   generalize l.length = L at h1 |-
   unfold cnt
   rw [if_neg h1]
   have e1 : (L + c - 1) / c = (L - 1) / c + 1 := by
    rw [<- Nat.add_div_right _ hc]
    grind
   rw [e1]
   by_cases h2 : L - c <= c
   ·rw [if_pos h2]
    have h3 : 1 <= (L - 1) / c := (Nat.le_div_iff_mul_le hc).2 (by omega)
    have h4 : (L - 1) / c < 2 := (Nat.div_lt_iff_lt_mul hc).2 (by omega)
    omega
   grind
theorem aat {w n : Nat} (hw : 0 < w) (hw2 : w <= 250) {l m : List KV} {p : Sec} (hr : ej n l = some p) (hul : afq w l) (hum : afq w m) (hlen : m.length <= l.length) (hsm : Srt m) (han : an n <= 7) (hml : m.length <= 600) : ∃ p', ej n m = some p' := by
 obtain ⟨hb, hp⟩ := gu hr
 have hp : p.length <= an n := hp
 obtain ⟨p', hb'⟩ := Rv hsm hml hum.fits
 have hc : 0 < 250 / w := Nat.div_pos hw2 hw
 have g1 : (grp l).length = cnt (250 / w) l.length := xi hw hw2 _ l (Nat.lt_succ_self _) hul
 have g2 : (grp m).length = cnt (250 / w) m.length := xi hw hw2 _ m (Nat.lt_succ_self _) hum
 have gm := Zx hc hlen
 rw [<- g1, <- g2] at gm
 have hlb : p'.length <= p.length := by
  obtain ⟨up, e1, e2, e3, e4⟩ := ls hb
  have hpl : p.length = (grp l).length + up.length := by grind
  have hup : (grp l).length = 1 \/ 1 <= up.length := by
   grind
  unfold dr at hb'
  split at hb'
  ·have hs : qj (grp m) = m.length := ow _ m (Nat.lt_succ_self _) hum.fits
   rw [Ko, if_pos hs] at hb'
   have hpos := Md m
   have hpos2 := Md l
   by_cases h1 : (grp m).length = 1
   ·grind
   ·rw [if_neg h1, Ko] at hb'
    have hsm2 := zw (n := ([] : Sec).length) hum.fits
    have hal : (mb ([] : Sec).length (grp m)).length = (grp m).length := jm ..
    generalize mb ([] : Sec).length (grp m) = a at hb' hsm2 hal
    have hs2 : qj (grp a) = a.length := ow _ a (Nat.lt_succ_self _) hsm2.fits
    have hfa : lz 0 a = a.length := by
     have := Om a.length a 0 (Nat.le_refl _) hsm2 (by omega)
     have := pz a 0
     omega
    have ga : (grp a).length = 1 := by
     unfold grp
     rw [dp, hfa, if_pos (.inr rfl)]; rfl
    grind
  ·cases hb'
 refine ⟨p', ?_⟩
 unfold ej
 grind
theorem Ua {k k' v v' : List UInt8} (h1 : k.length = k'.length) (h2 : v.length = v'.length) : (ie (k, v)).length = (ie (k', v')).length := by
 unfold ie je
 grind
theorem Rg {r : KV} {l : List KV} (h : Srt (r :: l)) : ev (r :: l) r.1 = l := by
 obtain ⟨s1, s2⟩ := List.pairwise_cons.1 h
 unfold ev
 rw [List.filter_cons, if_neg (by simp)]
 refine List.filter_eq_self.2 fun q hq => ?_
 have := s1 q hq
 simp only [Bool.not_eq_true', decide_eq_false_iff_not]
 rintro e
 rw [e, vv] at this; cases this
theorem Uq {l : List KV} {x : Ch} (hx : x.2.2 = false) (hn : ∀ r ∈ l, r.1 ≠ x.1) : (jq l x).length = l.length + 1 := by
 have e : ev l x.1 = l := by
  unfold ev
  exact List.filter_eq_self.2 fun q hq => by grind
 have hp := Hk l x.1
 unfold jq
 grind
def ky (i : Nat) : List UInt8 := [UInt8.ofNat (97 + i % 26), UInt8.ofNat (97 + i / 26)]
theorem aiu {i j : Nat} (hi : i < 100) (hj : j < 100) (h : ky i = ky j) : i = j := by
 unfold ky at h
 simp only [List.cons.injEq, and_true] at h
 have h1 := congrArg UInt8.toNat h.1
 have h2 := congrArg UInt8.toNat h.2
 rw [gh (by omega), gh (by omega)] at h1 h2
 omega
structure FullI (m i : Nat) (l : List KV) : Prop where
 s : Srt l
 v : ∀ r ∈ l, r.2 = List.replicate m 0
 k : ∀ r ∈ l, ∃ t, t < i /\ r.1 = ky t
 len : l.length <= i
abbrev wOf (m : Nat) : Nat := 1 + (ie ([0, 0], List.replicate m 0)).length
theorem FullI.uni {m i : Nat} {l : List KV} (h : FullI m i l) (hm : m <= 150) : afq (wOf m) l := fun r hr => by
 obtain ⟨t, _, ht⟩ := h.k r hr
 have hv := h.v r hr
 obtain ⟨a, b⟩ := r
 simp only at ht hv
 subst ht hv
 exact ⟨by simp [ky], by grind, by unfold wOf; rw [Ua (k := ky t) (k' := [0, 0]) rfl rfl]⟩
theorem ahy {m : Nat} (hm : m <= 150) : 0 < wOf m /\ wOf m <= 250 := by
 have := Qb ([0, 0], List.replicate m 0) (by simp) (by grind)
 grind
theorem FullI.step {m i : Nat} {l : List KV} (h : FullI m i l) : FullI m (i + 1) (jq l (ky i, List.replicate m 0, false)) := by
 have mem : ∀ r ∈ jq l (ky i, List.replicate m 0, false), r ∈ l \/ r = (ky i, List.replicate m 0) := by
  intro r hr
  unfold jq at hr
  rw [if_neg (by simp)] at hr
  rcases List.mem_append.1 hr with h | h
  ·exact .inl (List.mem_filter.1 (List.mem_of_mem_take h)).1
  ·rcases List.mem_cons.1 h with h | h
   ·exact .inr h
   ·exact .inl (List.mem_filter.1 (List.mem_of_mem_drop h)).1
 refine ⟨Sx h.s _, fun r hr => ?_, fun r hr => ?_, Nat.le_trans (Jh _ _) (Nat.succ_le_succ h.len)⟩
 ·rcases mem r hr with h1 | rfl
  ·exact h.v r h1
  ·rfl
 ·rcases mem r hr with h1 | rfl
  ·obtain ⟨t, ht, e⟩ := h.k r h1
   grind
  grind
theorem FullI.le {m i j : Nat} {l : List KV} (h : FullI m i l) (hj : i <= j) : FullI m j l := ⟨h.s, h.v, fun r hr => by
 obtain ⟨t, ht, e⟩ := h.k r hr
 grind, Nat.le_trans h.len hj⟩
def f4_t : IR :=
 (.seq (.reg [
 ⟨none, (some 116), (.mv (.t 7))⟩,
 ⟨none, (some 117), (.call 13 false [(.t 116)])⟩,
 ⟨none, (some 115), (.mv (.t 117))⟩,
 ⟨none, (some 118), (.ext (.t 115) 0)⟩,
 ⟨none, (some 119), (.ext (.t 115) 1)⟩,
 ⟨none, (some 16), (.mv (.t 118))⟩,
 ⟨none, (some 17), (.mv (.t 119))⟩])
 (.seq (.reg [
 ⟨none, (some 120), (.call 12 true [])⟩,
 ⟨none, (some 121), (.mv (.t 120))⟩,
 ⟨(some (121, true)), (some 122), (.mv (.t 17))⟩,
 ⟨(some (121, true)), (some 123), (.bin .eql (.t 122) (.c (.cv (.sc (.int .u16 0)))))⟩,
 ⟨none, (some 124), (.pick (.t 121) (.t 123) (.c (.cv (.sc (.bool false)))))⟩,
 ⟨none, (some 125), (.mv (.t 124))⟩,
 ⟨(some (125, true)), (some 126), (.mv (.t 16))⟩,
 ⟨(some (125, true)), (some 127), (.call 16 false [(.t 126)])⟩,
 ⟨(some (125, true)), (some 128), (.mv (.t 9))⟩,
 ⟨(some (125, true)), (some 129), (.call 16 false [(.t 128)])⟩,
 ⟨(some (125, true)), (some 130), (.call 18 true [(.t 127), (.t 129)])⟩,
 ⟨none, (some 131), (.pick (.t 125) (.t 130) (.c (.cv (.sc (.bool false)))))⟩,
 ⟨none, (some 132), (.mv (.t 131))⟩,
 ⟨(some (132, true)), (some 133), (.mv (.t 16))⟩,
 ⟨(some (132, true)), (some 134), (.call 16 false [(.t 133)])⟩,
 ⟨(some (132, true)), (some 135), (.len false (.t 134))⟩,
 ⟨(some (132, true)), (some 136), (.mv (.t 15))⟩,
 ⟨(some (132, true)), (some 137), (.len false (.t 136))⟩,
 ⟨(some (132, true)), (some 138), (.bin .sub (.t 137) (.c (.cv (.sc (.int .i64 1)))))⟩,
 ⟨(some (132, true)), (some 139), (.mnmx false [(.t 138), (.c (.cv (.sc (.int .i64 0))))])⟩,
 ⟨(some (132, true)), (some 140), (.bin .eql (.t 135) (.t 139))⟩,
 ⟨none, (some 141), (.pick (.t 132) (.t 140) (.c (.cv (.sc (.bool false)))))⟩,
 ⟨none, (some 6), (.mv (.t 141))⟩])
 .ret))
theorem In {h : ae} {q p f n L : Nat} {l : Option Nat} {z : S} (hS : StoreAt h q p (some f) l z) (hU : RunU n z 1) {w15 : VV} (hln : lnO false w15 = some (vi .i64 L)) (hL : z.rows.length = L - 1) (hLb : L <= 100) {s : List VV} (hs : s.length = 142) (h7 : s.getD 7 .undef = .ptr p 0) (h9 : s.getD 9 .undef = .ptr q 0) (h15 : s.getD 15 .undef = w15) :
  X F f4_t ⟨s, h⟩ (RQ [.t 6] fun v _ => v = vb true) := by
 obtain ⟨v12, g12, n12, w12, y12, rfl⟩ := Dx
 obtain ⟨hr1, hr2⟩ := hU.room
 obtain ⟨base, Ls, hV, hrw, _⟩ := hU.run.v
 have hRc := hV.rc
 rw [<- hrw] at hRc
 have he := hU.e
 obtain ⟨v7, g7, n7, q7, l7, z7, rfl, hq7, M7, S7, O7⟩ := Gv hS.dev hU.run.live.loose hRc (by omega) (k := 30000) (hU.lim.le (by omega))
 have hrw7 : z7.rows = z.rows := O7.rw_
 obtain ⟨w8, els8, n8, S8, R8⟩ := pt S7 (by grind) (by rw [hrw7]; exact hr2.v)
 rw [hrw7] at R8
 have M := hS.moved M7
 have hrwo : ({ z with d := z7.d } : S).rows = z.rows := rfl
 obtain ⟨w9, els9, n9, S9, R9⟩ := pt M.st (by grind) (by rw [hrwo]; exact hr2.v)
 rw [hrwo] at R9
 obtain ⟨v18, g18, n18, w18, y18, rfl⟩ := Ic S8 S9 R8 R9 (by omega) (by omega)
 have hdt : decide (z.rows = z.rows) = true := decide_eq_true rfl
 rw [hdt] at y18
 have cl18 : cd g7 [w8, w9] = some ([w8, w9], g7) := by rcases S8 with ⟨rfl, _⟩ | ⟨ex, rfl⟩ <;> (rcases S9 with ⟨rfl, _⟩ | ⟨ex, rfl⟩ <;> rfl)
 have s8 := S8.ln
 rw [R8.len, hL] at s8
 have ws : IntKind.i64.wrap ((L : Int) - 1) = (L : Int) - 1 := IntWalk.i64_in _ (by omega)
 rw [bh f4_t.eq_1]
 simp only [go_sem, seval, hs, h7]
 refine ao (by simp only [List.map, go_sem, seval, hs]; exact n7) ?_
 simp only [go_sem, seval, hs]
 refine ap (h1 := g7) (by simp only [List.map]; rfl) n12 y12 ?_
 simp only [go_sem, seval, hs]
 refine ao (by simp only [List.map, go_sem, seval, hs]; exact n8) ?_
 simp only [go_sem, seval, hs, h9]
 refine ao (by simp only [List.map, go_sem, seval, hs]; exact n9) ?_
 simp only [go_sem, seval, hs]
 refine ap (h1 := g7) (by simp only [List.map, go_sem, seval, hs]; exact cl18) n18 y18 ?_
 simp only [go_sem, seval, hs]
 refine ao (by simp only [List.map, go_sem, seval, hs]; exact n8) ?_
 simp only [go_sem, seval, hs, s8, h15, hln, ws]
 grind
abbrev zs (m : Nat) : List UInt8 := List.replicate m 0
theorem f4_loop {k : UInt8} {nn : UInt8} {q p f n m : Nat} (hm : m = 100 + k.toNat % 50) (han : an n <= 7) : ∀ (r i : Nat) (z : S) (l' : Option Nat) (s : List VV) (h : ae) (Q : Pst), i + r = nn.toNat % 40 -> StoreAt h q p (some f) l' z -> RunU n z (r + 2) -> FullI m i z.rows -> s.length = 142 -> s.getD 0 .undef = vi .u8 k.toNat -> s.getD 2 .undef = vi .u8 nn.toNat -> s.getD 7 .undef = .ptr p 0 -> s.getD 9 .undef = .ptr q 0 -> s.getD 11 .undef = vi .i64 i ->
  (∀ s' h' l'' z', s'.length = 142 -> s'.getD 7 .undef = .ptr p 0 -> s'.getD 9 .undef = .ptr q 0 -> StoreAt h' q p (some f) l'' z' -> RunU n z' 2 -> FullI m 40 z'.rows -> Q (.exit 0) ⟨s', h'⟩) -> X F (.loop f4_2) ⟨s, h⟩ Q := by
 have q40 : (40 : Int) ≠ 0 := by decide
 have em40 : (nn.toNat : Int).tmod 40 = ((nn.toNat % 40 : Nat) : Int) := rfl
 have w40 : IntKind.i64.wrap ((nn.toNat % 40 : Nat) : Int) = ((nn.toNat % 40 : Nat) : Int) := IntWalk.i64_in _ (by omega)
 intro r
 induction r with
 | zero =>
  intro i z l' s h Q hi hSt hU hF hs e0 e2 e7 e9 e11 hQ
  have c : ¬ (i : Int) < ((nn.toNat % 40 : Nat) : Int) := by omega
  rw [ax, bh f4_2.eq_1]
  simp only [go_sem, seval, hs, e11, e2, rh q40, em40, w40, c]
  exact hQ _ h l' z (by simp only [ak, hs]) (by simp only [go_sem, seval, hs, e7]) (by simp only [go_sem, seval, hs, e9]) hSt hU (hF.le (by omega))
 | succ r ih =>
  intro i z l' s h Q hi hSt hU hF hs e0 e2 e7 e9 e11 hQ
  have c : (i : Int) < ((nn.toNat % 40 : Nat) : Int) := by omega
  have hw : IntKind.i64.wrap ((i : Int) + 1) = ((i + 1 : Nat) : Int) := by rw [IntWalk.i64_in _ (by omega)]; omega
  have q26 : (26 : Int) ≠ 0 := by decide
  have q50 : (50 : Int) ≠ 0 := by decide
  have m1 : (i : Int).tmod 26 = ((i % 26 : Nat) : Int) := rfl
  have m2 : (i : Int).tdiv 26 = ((i / 26 : Nat) : Int) := rfl
  have m3 : (k.toNat : Int).tmod 50 = ((k.toNat % 50 : Nat) : Int) := rfl
  have w1 : IntKind.u8.wrap ((i % 26 : Nat) : Int) = ((i % 26 : Nat) : Int) := IntWalk.u8_in _ (by omega)
  have w2 : IntKind.u8.wrap (97 + ((i % 26 : Nat) : Int)) = ((UInt8.ofNat (97 + i % 26)).toNat : Int) := by rw [IntWalk.u8_in _ (by omega), gh (by omega)]; omega
  have w3 : IntKind.i64.wrap ((i / 26 : Nat) : Int) = ((i / 26 : Nat) : Int) := IntWalk.i64_in _ (by omega)
  have w4 : IntKind.u8.wrap ((i / 26 : Nat) : Int) = ((i / 26 : Nat) : Int) := IntWalk.u8_in _ (by omega)
  have w5 : IntKind.u8.wrap (97 + ((i / 26 : Nat) : Int)) = ((UInt8.ofNat (97 + i / 26)).toNat : Int) := by rw [IntWalk.u8_in _ (by omega), gh (by omega)]; omega
  have w6 : IntKind.i64.wrap ((k.toNat % 50 : Nat) : Int) = ((k.toNat % 50 : Nat) : Int) := IntWalk.i64_in _ (by omega)
  have w7 : IntKind.i64.wrap (100 + ((k.toNat % 50 : Nat) : Int)) = (m : Int) := by rw [IntWalk.i64_in _ (by omega)]; omega
  have bx : bsO h (.cv (.sl 1 [[.sc (.int .u8 (UInt8.ofNat (97 + i % 26)).toNat)], [.sc (.int .u8 (UInt8.ofNat (97 + i / 26)).toNat)]] true)) = some (txt (ky i)) := (show SlV 1 (eB (ky i)) (.cv (.sl 1 [[.sc (.int .u8 (UInt8.ofNat (97 + i % 26)).toNat)], [.sc (.int .u8 (UInt8.ofNat (97 + i / 26)).toNat)]] true)) from .inr ⟨true, rfl⟩).bs
  have hE : ChsE [[.sc (.string ⟨(ky i).toArray⟩), .sl 1 (eB (zs m)) true, .sc (.bool false)]] [(ky i, zs m, false)] := akc (.inr ⟨true, rfl⟩)
  have hS3 : SlV 3 [[.sc (.string ⟨(ky i).toArray⟩), .sl 1 (eB (zs m)) true, .sc (.bool false)]] (.cv (.sl 3 [[.sc (.string ⟨(ky i).toArray⟩), .sl 1 (eB (zs m)) true, .sc (.bool false)]] true)) := .inr ⟨true, rfl⟩
  obtain ⟨k1, k2, k3, k4⟩ := ab7 (k := ky i) (v := zs m) (t := false) (by simp [ky]) (by simp; omega) (by simp)
  have he := hU.e
  obtain ⟨hr1, hr2⟩ := hU.room
  obtain ⟨w16, els16, n16, S16, R16⟩ := pt hSt (by omega) hr2.v
  obtain ⟨g, l2, n14, M2, hU'⟩ := Bw (m := r + 2) hSt hU hS3 hE k1 k2 k3 k4
  have hC := sq hU.mem (c := [(ky i, zs m, false)]) (by omega) k1 k4
  have h3 := abj (z := z) (c := [(ky i, zs m, false)]) (by simp)
  have hlg : [(ky i, zs m, false)].any lng = false := by simp [lng, ky]; omega
  rw [hlg] at h3
  have h3 : (bq z [(ky i, zs m, false)]).2 ≠ 3 := fun h => by have := h3.1 h; cases this
  have hkk := hC.k
  have hyes := hC.yes
  have hnot := hC.not
  have St := M2.st
  generalize (bq z [(ky i, zs m, false)]).1 = z1 at hU' hyes hnot St
  generalize (bq z [(ky i, zs m, false)]).2 = e at n14 h3 hkk hyes hnot
  obtain ⟨hr3, hr4⟩ := hU'.room
  obtain ⟨w17, els17, n17, S17, R17⟩ := pt St (by omega) hr4.v
  rw [ax, bh f4_2.eq_1]
  simp only [go_sem, seval, hs, e11, e2, rh q40, em40, w40, c]
  simp only [go_sem, seval, hs, e9]
  refine ao (by simp only [List.map, go_sem, seval, hs]; exact n16) ?_
  simp only [go_sem, seval, hs]
  refine kr rfl ?_
  simp only [go_sem, seval, hs, e0, e11, rh q26, Hl q26, rh q50, m1, m2, m3, w1, w2, w3, w4, w5, w6, w7, bx]
  refine agx (k := .i64) (k' := .i64) (a := m) (by simp only [go_sem, seval, hs]) (by simp only [go_sem, seval, hs]) (by omega) ?_
  simp only [go_sem, seval, hs, bdc, mk3, e9]
  refine ao (by simp only [List.map, go_sem, seval, hs]; exact n14) ?_
  rcases hkk with rfl | rfl | rfl
  ·have hrw : z1.rows = jq z.rows (ky i, zs m, false) := hyes rfl
   have hF' : FullI m (i + 1) z1.rows := by rw [hrw]; exact hF.step
   have hlen : z1.rows.length = z.rows.length + 1 := by
    rw [hrw]
    refine Uq rfl fun r hr e => ?_
    obtain ⟨t, ht, e'⟩ := hF.k r hr
    have := aiu (i := t) (j := i) (by omega) (by omega) (by rw [<- e', e])
    omega
   have s17 := S17.ln
   have s16 := S16.ln
   rw [R17.len, hlen] at s17
   rw [R16.len] at s16
   have wl : IntKind.i64.wrap ((z.rows.length : Int) + 1) = ((z.rows.length + 1 : Nat) : Int) := by rw [IntWalk.i64_in _ (by omega)]; omega
   have c0 : ¬ (((0 : Nat) : Int) ≠ 0) := by omega
   have c1 : ((0 : Nat) : Int) = 0 := rfl
   simp only [go_sem, seval, hs, c0, c1, e9]
   refine ao (by simp only [List.map, go_sem, seval, hs]; exact n17) ?_
   simp only [go_sem, seval, hs, s16, s17, wl, ne_eq, not_true_eq_false, e11, hw]
   exact ih (i + 1) z1 l2 _ _ Q (by omega) St hU' hF' (by simp only [ak, hs]) (by simp only [go_sem, seval, hs, e0]) (by simp only [go_sem, seval, hs, e2]) (by simp only [go_sem, seval, hs, e7]) (by simp only [go_sem, seval, hs, e9]) (by simp only [go_sem, seval, hs]) hQ
  ·exact absurd rfl h3
  ·obtain rfl : z1 = z := hnot (.inl (by decide))
   obtain ⟨v18, g18, n18, w18, y18, rfl⟩ := Ic S16 S17 R16 R17 (by omega) (by omega)
   have hdt : decide (z1.rows = z1.rows) = true := decide_eq_true rfl
   rw [hdt] at y18
   have cl18 : cd g [w16, w17] = some ([w16, w17], g) := by rcases S16 with ⟨rfl, _⟩ | ⟨ex, rfl⟩ <;> (rcases S17 with ⟨rfl, _⟩ | ⟨ex, rfl⟩ <;> rfl)
   have c0 : (((21 : Nat) : Int) ≠ 0) := by omega
   have c1 : ¬ (((21 : Nat) : Int) = 0) := by omega
   have c2 : ¬ (((21 : Nat) : Int) ≠ 21) := by omega
   simp only [go_sem, seval, hs, c0, c1, c2, e9]
   refine ao (by simp only [List.map, go_sem, seval, hs]; exact n17) ?_
   simp only [go_sem, seval, hs]
   refine ap (h1 := g) (by simp only [List.map, go_sem, seval, hs]; exact cl18) n18 y18 ?_
   simp only [go_sem, seval, hs, Bool.not_true, c1, e11, hw]
   exact ih (i + 1) z1 l2 _ _ Q (by omega) St hU' (hF.le (by omega)) (by simp only [ak, hs]) (by simp only [go_sem, seval, hs, e0]) (by simp only [go_sem, seval, hs, e2]) (by simp only [go_sem, seval, hs, e7]) (by simp only [go_sem, seval, hs, e9]) (by simp only [go_sem, seval, hs]) hQ
def f4_e : IR :=
 (.seq (.reg [
 ⟨none, (some 99), (.mv (.t 9))⟩,
 ⟨none, (some 100), (.call 16 false [(.t 99)])⟩,
 ⟨none, (some 15), (.mv (.t 100))⟩])
 (.seq f4_3
 f4_t))
theorem bdg {k : List UInt8} : bdO [VV.cv (.sc (.string ⟨#[]⟩)), .cv (.sc (.slice none 0 0)), .cv (.sc (.bool false))] [(0, 1, txt k), (2, 1, vb true)] = some (.agg [.cv (.sc (.string ⟨k.toArray⟩)), .cv (.sc (.slice none 0 0)), .cv (.sc (.bool true))]) := rfl
theorem abq {h : ae} {q p f n m : Nat} {l : Option Nat} {z : S} (hS : StoreAt h q p (some f) l z) (hU : RunU n z 2) (hF : FullI m 40 z.rows) (hm : m ≤ 150) (han : an n ≤ 7) (hjn : 5 ≤ jn n) {s : List VV} (hs : s.length = 142) (h7 : s.getD 7 .undef = .ptr p 0) (h9 : s.getD 9 .undef = .ptr q 0) :
    X F f4_e ⟨s, h⟩ (RQ [.t 6] fun v _ => v = vb true) := by
  obtain ⟨hr1, hr2⟩ := hU.room
  have hfl := hF.len
  obtain ⟨w16, els16, n16, S16, R16⟩ := pt hS (by omega) hr2.v
  have s16 := S16.ln
  rw [R16.len] at s16
  have g0 : ((z.rows.length : Int) > 0) = (0 < z.rows.length) := by grind
  rw [bh f4_e.eq_1]
  simp only [go_sem, seval, hs, h9]
  refine ao (by simp only [List.map, go_sem, seval, hs]; exact n16) ?_
  simp only [go_sem, seval, hs]
  rw [bh f4_3.eq_1]
  by_cases hz : 0 < z.rows.length
  · obtain ⟨r, tl, hrt⟩ : ∃ r tl, z.rows = r :: tl := by
      cases hr : z.rows with
      | nil => grind
      | cons r tl => grind
    obtain ⟨e', r', a1, a2, cc, rfl, a3⟩ := R16.get (i := 0) hz
    rw [hrt] at a2
    obtain rfl : r = r' := Option.some.inj a2
    have ia : iaO h 2 w16 (vi .i64 0) = some (.rptr [.sc (.string ⟨r.1.toArray⟩), cc], h) := S16.ia (by omega) a1
    have fd0 : fdO 0 (.rptr [CV.sc (.string ⟨r.1.toArray⟩), cc]) = some (.rptr [CV.sc (.string ⟨r.1.toArray⟩), cc]) := rfl
    have ld0 : ldO h false 1 (.rptr [CV.sc (.string ⟨r.1.toArray⟩), cc]) = some (txt r.1, h) := ke
    have hrk := (hr2 r (by grind)).1
    have hsrt := hF.s
    rw [hrt] at hsrt
    have happ : de z.rows [(r.1, [], true)] = tl := by
      show jq z.rows (r.1, [], true) = tl
      unfold jq
      rw [if_pos rfl, hrt, Rg hsrt]
    have hfit : qd [(r.1, ([] : List UInt8), true)] := fun p hp => by grind
    have hpf := afu hfit
    simp only [List.length_singleton] at hpf
    obtain ⟨k1, k2, k3, k4⟩ := ab7 (k := r.1) (v := []) (t := true) hrk (by simp) (fun _ => rfl)
    have he := hU.e
    have hfr := hU.fr
    obtain ⟨pg, hrm⟩ := hU.mem.room
    obtain ⟨wp, wl⟩ := ahy hm
    have hU2 := hF.uni hm
    have hroom : ∃ p, ej n (de z.rows [(r.1, [], true)]) = some p := by
      rw [happ]
      have hlt : tl.length ≤ z.rows.length := by grind
      exact aat wp wl hrm hU2 (fun q hq => hU2 q (by grind)) hlt (List.pairwise_cons.1 hsrt).2 han (by omega)
    have hc0 := ac6 (c := [(r.1, [], true)]) hU.mem (by simp) (by simp [lng]; omega) (by omega) (by omega) hroom (by omega) (by omega)
    obtain ⟨g, l2, n14, M2, hU'⟩ := Bw (m := 1) hS hU (uc := .cv (.sl 3 [[.sc (.string ⟨r.1.toArray⟩), .sc (.slice none 0 0), .sc (.bool true)]] true)) (.inr ⟨true, rfl⟩) (akc (k := r.1) (v := []) (t := true) (.inl ⟨rfl, rfl⟩)) k1 k2 k3 k4
    have hyes := (sq hU.mem (c := [(r.1, [], true)]) (by omega) k1 k4).yes hc0
    rw [happ] at hyes
    rw [hc0] at n14
    have n14 : call F 14 [.ptr q 0, _] h = some (.ret (vi .u16 0), g) := n14
    have St := M2.st
    generalize (bq z [(r.1, [], true)]).1 = z1 at hU' hyes St
    simp only [go_sem, seval, hs, s16, g0, hz, h9, ia, fd0, ld0, bdg, mk3]
    refine ao (by simp only [List.map, go_sem, seval, hs]; exact n14) ?_
    simp only [go_sem, seval, hs, ne_eq, not_true_eq_false]
    exact In (L := z.rows.length) St hU' s16 (by grind) (by omega) (by simp_all) (by simp_all) (by simp_all) (by simp_all)
  · simp only [go_sem, seval, hs, s16, g0, hz]
    exact In (L := z.rows.length) hS ⟨hU.mem, hU.run, hU.nf, by have := hU.e; omega, hU.lim.le (by omega), hU.e1, hU.n1⟩ s16 (by omega) (by omega) (by simp_all) (by simp_all) (by simp_all) (by simp_all)
theorem sz3 (x : UInt8) : sz (UInt8.ofNat (x.toNat % 3)) <= 80 := by
 unfold sz
 rw [gh (by omega), Nat.mod_eq_of_lt (by omega)]
 grind
theorem aag {k : UInt8} {b : List UInt8} {u : VV} (hb : SlV 1 (eB b) u) (hbl : b.length <= maxLen) (n : UInt8) : ∃ h', call F 4 [vi .u8 k.toNat, u, vi .u8 n.toNat] [] = some (.ret (vb true), h') := by
 suffices hx : Ret F 4 [vi .u8 k.toNat, u, vi .u8 n.toNat] [] fun v _ => v = vb true by
  obtain ⟨v, g, n1, rfl⟩ := hx
  grind
 obtain ⟨v12, g12, n12, w12, y12, rfl⟩ := Dx
 have hml : maxLen = 9223372036854775807 := rfl
 have r1 : ((b.length : Int) > 100) = (100 < b.length) := by grind
 have q3 : (3 : Int) ≠ 0 := by decide
 have em : (k.toNat : Int).tmod 3 = ((UInt8.ofNat (k.toNat % 3)).toNat : Int) := by
  have : (k.toNat : Int).tmod 3 = ((k.toNat % 3 : Nat) : Int) := rfl
  rw [this, gh (by omega)]
 have hz80 := sz3 k
 obtain ⟨hsz1, hsz2⟩ := aim (UInt8.ofNat (k.toNat % 3))
 obtain ⟨v17, g1, n17, p, f, cells, rfl, hcl, x1, hp1, hf1, D1⟩ := Za (UInt8.ofNat (k.toNat % 3)) []
 generalize sz (UInt8.ofNat (k.toNat % 3)) = N at hz80 hsz1 hsz2 D1
 refine ba (fn := f4) rfl ?_
 simp only [f4]
 generalize hs0 : ([vi .u8 k.toNat, u, vi .u8 n.toNat] ++ List.replicate _ VV.undef : List VV) = s
 have hs : s.length = 142 := by grind
 have h0 : s.getD 0 .undef = vi .u8 k.toNat := by grind
 have h1 : s.getD 1 .undef = u := by grind
 have h2 : s.getD 2 .undef = vi .u8 n.toNat := by grind
 clear hs0
 simp only [go_sem, seval, hs, h0, rh q3, em]
 refine ao (by simp only [List.map, go_sem, seval, hs]; exact n17) ?_
 have qz : (g1 ++ [VO.box [bp, bp, vi .i64 0, vi .i64 0, vb false, vi .i64 0] false])[g1.length]? = some (.box [bp, bp, vi .i64 0, vi .i64 0, vb false, vi .i64 0] false) := bm
 have st6 := ki (n := 6) (cs := cells) hcl qz rfl
 have xz : Ext g1 ((g1 ++ [VO.box [bp, bp, vi .i64 0, vi .i64 0, vb false, vi .i64 0] false]).set g1.length (.box cells false)) := HExt.ext ((HExt.push g1 _).set (Nat.le_refl _) _)
 simp only [go_sem, seval, hs, st6]
 have D2 := D1.ext xz
 generalize (g1 ++ [VO.box [bp, bp, vi .i64 0, vi .i64 0, vb false, vi .i64 0] false]).set g1.length (.box cells false) = g2 at D2
 obtain ⟨v11, g3, n11, rfl, l3, d3, M3, f3, L3, V3, B3⟩ := Eg D2 rfl rfl (by rw [Od]; omega) (k := 690000) ((Nq N (by omega)).le (by omega))
 rw [Od] at V3
 obtain ⟨v13, g4, n13, q, l4, z4, rfl, hq4, M4, S4, O4⟩ := Gv M3.dev L3.loose V3.rc (by omega) (k := 680000) (B3.le (by omega))
 have U4 : RunU N z4 (n.toNat % 40 + 2) := O4.runU f3 (by omega) (by omega) (by omega)
 have hrw : z4.rows = [] := O4.rw_
 obtain ⟨p1, p2⟩ := pq hsz1
 rw [bh f4_0.eq_1]
 simp only [go_sem, seval, hs]
 refine ao (by simp only [List.map, go_sem, seval, hs]; exact n11) ?_
 by_cases c1 : 100 < b.length
 ·simp only [go_sem, seval, hs, h1, hb.ln, ay, r1, c1]
  refine ap (h1 := g3) (by simp only [List.map]; rfl) n12 y12 ?_
  simp only [go_sem, seval, hs]
  all_goals trivial
 simp only [go_sem, seval, hs, h1, hb.ln, ay, r1, c1]
 refine ao (by simp only [List.map, go_sem, seval, hs]; exact n13) ?_
 simp only [go_sem, seval, hs]
 rw [bh f4_1.eq_1]
 simp only [go_sem, seval, hs]
 refine f4_loop (k := k) (nn := n) (n := N) (m := 100 + k.toNat % 50) rfl (by omega) (n.toNat % 40) 0 z4 l4 _ _ _ (by omega) S4 U4 (by rw [hrw]; exact ⟨List.Pairwise.nil, fun r hr => (by cases hr), fun r hr => (by cases hr), Nat.le_refl _⟩) (by simp_all) (by simp_all) (by simp_all) (by simp_all) (by simp_all) (by simp_all) (fun s5 g5 l5 z5 hs5 k7 k9 S5 U5 F5 => ?_)
 exact abq S5 U5 F5 (by omega) (by omega) (by omega) hs5 k7 k9
open Go Go.Vm
open Go Go.Vm
open Go.Proofs.Ytbhoknaipfnlnaa
section
variable {H : Type} {d0 d1 d2 : DataW H} {u0 u1 u2 : VV}
theorem full_in (h0 : DV Proofs.Try.prog 5 d0 u0) (h1 : DV Proofs.Try.prog 22 d1 u1) (h2 : DV Proofs.Try.prog 5 d2 u2) : ∃ h', call F 4 [u0, u1, u2] [] = some (.ret (vb true), h') := by
 obtain ⟨k, rfl⟩ := ajz (by kernel_rfl) h0
 obtain ⟨b, hB, hl⟩ := Yn (e := 5) (by kernel_rfl) (by kernel_rfl) (by kernel_rfl) h1
 obtain ⟨n, rfl⟩ := ajz (by kernel_rfl) h2
 exact aag hB hl n
end
end Go.V08
