/- Part of a proof: of what it says, and when, each theorem tells itself. -/
import Derived.Test.YtbhoknaipfnlnaaC08All6
import Derived.Test.YtbhoknaipfnlnaaRows
set_option linter.unusedSimpArgs false
set_option linter.unusedVariables false
namespace Go.V08
open Go Go.Vm
abbrev jn (n : Nat) : Nat := (bm n).1
abbrev an (n : Nat) : Nat := (bm n).2
def jr (n : Nat) (F : Sec) : Sec := (F.drop 2).take (jn n)
def ar (n : Nat) (F : Sec) (a m : Nat) : Sec := (F.drop (me n a)).take m
def Hd (n : Nat) (F : Sec) (e a pg : Nat) : Prop := jy n (F.getD (e % 2) []) = some (e, a, pg) /\ ∀ x, jy n (F.getD (1 - e % 2) []) = some x -> x.1 < e
structure Dn (n : Nat) (F : Sec) : Prop where
 lo : 64 <= n
 hi : n <= 4096
 len : F.length = n
 f64 : ∀ b ∈ F, b.length = 64
structure Rc (n : Nat) (F : Sec) (e a : Nat) (rows : List KV) : Prop where
 dn : Dn n F
 a1 : a <= 1
 e1 : 1 <= e
 e2 : e <= 1073741824
 ex : ∃ base pgs L, Hd n F e a pgs.length /\ gf n base = some pgs /\ ar n F a (4 * pgs.length) = pcs 64 pgs.flatten /\ (td e (jr n F)).1 = L.map ut /\ (∀ c ∈ L, FrOK c) /\ Sl L <= 60000 /\ rows = oj base L
 room : ∃ p, gf n rows = some p
 old : ∀ i b, i < jn n -> F[2 + i]? = some b -> ahw e b
structure Vd (n : Nat) (F : Sec) (e a : Nat) (base : List KV) (L : List (List Ch)) (used : Nat) : Prop where
 dn : Dn n F
 a1 : a <= 1
 e1 : 1 <= e
 e2 : e <= 1073741824
 pgs : ∃ pgs, Hd n F e a pgs.length /\ gf n base = some pgs /\ ar n F a (4 * pgs.length) = pcs 64 pgs.flatten
 jl : (F.drop 2).take used = ct e 0 L
 ul : used = (ct e 0 L).length
 uj : used <= jn n
 bad : ∀ i b, used <= i -> i < jn n -> F[2 + i]? = some b -> Bad e b
 fr : ∀ c ∈ L, FrOK c
 room : ∃ p, gf n (oj base L) = some p
 old : ∀ i b, i < jn n -> F[2 + i]? = some b -> ahw e b
theorem rj {n : Nat} (h : 64 <= n) : jn n = n / 4 /\ an n = (n - 2 - n / 4) / 8 := by
 unfold jn an bm; grind
theorem xv (n : Nat) : me n 0 = 2 + jn n /\ me n 1 = 2 + jn n + an n * 4 := by
 unfold me; grind
theorem oy {F F' : Sec} {a m : Nat} (h : ∀ i, i < m -> F'[a + i]? = F[a + i]?) : (F'.drop a).take m = (F.drop a).take m := by
 apply List.ext_getElem?
 grind
theorem Xs : ∀ (l : List (Nat × List UInt8)) (f : Sec), (∀ b ∈ f, b.length = 64) -> (∀ o ∈ l, o.2.length = 64) -> ∀ b ∈ oq f l, b.length = 64
 | [], _, h, _ => h
 | o :: l, f, h, hl => by
  show ∀ b ∈ oq (f.set o.1 o.2) l, b.length = 64
  refine Xs l _ (fun b hb => ?_) (fun x hx => hl x (List.mem_cons_of_mem _ hx))
  grind
theorem amz {L : List (List UInt8)} (hL : ∀ b ∈ L, b.length <= 64) {a : Nat} : ∀ o ∈ wl a L, o.2.length = 64 := by
 intro o ho
 obtain ⟨j, j1, _, j3⟩ := Am _ _ _ ho
 obtain ⟨b, hb, e⟩ := Option.map_eq_some_iff.1 j3
 rw [<- e]
 exact Lw (hL b (List.mem_of_getElem? hb))
theorem Dn.sub {n : Nat} {F : Sec} (h : Dn n F) {L : List (List UInt8)} {a : Nat} (hL : ∀ b ∈ L, b.length <= 64) {l' : List (Nat × List UInt8)} (hs : l'.Sublist (wl a L)) : Dn n (oq F l') :=
 ⟨h.lo, h.hi, by rw [Pl]; exact h.len, Xs _ _ h.f64 fun o ho => amz hL o (hs.subset ho)⟩
theorem Ij {F F' : Sec} {i : Nat} (h : F'[i]? = F[i]?) : F'.getD i [] = F.getD i [] := by
 grind
theorem Rc.same {n : Nat} {F F' : Sec} {e a : Nat} {rows : List KV} (h : Rc n F e a rows) (hd : Dn n F') (hs : ∀ i, i < 2 + jn n \/ (me n a <= i /\ i < me n a + 4 * an n) -> F'[i]? = F[i]?) : Rc n F' e a rows := by
 obtain ⟨base, pgs, L, ⟨h1, h1'⟩, h2, h3, h4, h5, h6, h7⟩ := h.ex
 have hj : jr n F' = jr n F := oy fun i hi => hs _ (.inl (by omega))
 have hp : pgs.length <= an n := (gx h2).2
 refine ⟨hd, h.a1, h.e1, h.e2, ⟨base, pgs, L, ⟨?_, ?_⟩, h2, ?_, by grind, h5, h6, h7⟩, h.room, fun i b hi hb => h.old i b hi (by grind)⟩
 ·grind
 ·grind
 ·rw [<- h3]
  exact oy fun i hi => hs _ (.inr ⟨by omega, by omega⟩)
theorem Vd.rc {n : Nat} {F : Sec} {e a : Nat} {base : List KV} {L : List (List Ch)} {used : Nat} (h : Vd n F e a base L used) : Rc n F e a (oj base L) := by
  obtain ⟨pgs, h1, h2, h3⟩ := h.pgs
  refine ⟨h.dn, h.a1, h.e1, h.e2, ⟨base, pgs, L, h1, h2, h3, ?_, h.fr, ?_, rfl⟩, h.room, h.old⟩
  · have e1 : jr n F = ct e 0 L ++ (F.drop (2 + used)).take (jn n - used) := by
      have hu := h.uj
      have : jn n = used + (jn n - used) := by omega
      unfold jr
      rw [this, List.take_add, h.jl, List.drop_drop, Nat.add_sub_cancel_left]
    rw [e1, Xl h.e2 h.fr (Lc fun b hb => ?_)]
    obtain ⟨i, hi⟩ := List.getElem?_of_mem hb
    have hlt : i < jn n - used := by
      grind
    rw [List.getElem?_take_of_lt hlt, List.getElem?_drop] at hi
    exact h.bad (used + i) b (by omega) (by omega) (by grind)
  · have h4 := uk e L 0
    have h5 := h.uj
    have h6 := h.ul
    have := ig h.dn.hi
    grind
theorem Rc.area {n : Nat} {F : Sec} {e a : Nat} {rows : List KV} (h : Rc n F e a rows) {Ls : Sec} (hl : Ls.length <= 4 * an n) (h64 : ∀ b ∈ Ls, b.length <= 64) {l' : List (Nat × List UInt8)} (hs : l'.Sublist (wl (me n (1 - a)) Ls)) : Rc n (oq F l') e a rows := by
 obtain ⟨b0, b1⟩ := xv n
 have ha := h.a1
 refine h.same (h.dn.sub h64 hs) fun i hi => Lv hs ?_
 grind
theorem acq {n : Nat} {F : Sec} {a : Nat} {Ls : Sec} (ha : a <= 1) (hn : Dn n F) (hl : Ls.length <= 4 * an n) (h64 : ∀ b ∈ Ls, b.length = 64) : ar n (oq F (wl (me n a) Ls)) a Ls.length = Ls := by
 obtain ⟨b0, b1⟩ := xv n
 obtain ⟨p1, p2⟩ := rj hn.lo
 have hlo := hn.lo
 have hb : me n a + Ls.length <= n := by
  grind
 apply List.ext_getElem?
 intro i
 unfold ar
 by_cases hi : i < Ls.length
 ·rw [List.getElem?_take_of_lt hi, List.getElem?_drop, Nl Ls F _ i (by rw [hn.len]; exact hb) hi]
  obtain ⟨b, hb⟩ : ∃ b, Ls[i]? = some b := ⟨Ls[i], List.getElem?_eq_getElem hi⟩
  rw [hb, Option.map_some, Ou (h64 b (List.mem_of_getElem? hb))]
 grind
theorem Rc.head {n : Nat} {F : Sec} {e a : Nat} {rows : List KV} (h : Rc n F e a rows) (he : e < 1073741824) {pgs : Sec} (hr : gf n rows = some pgs) (hA : ar n F (1 - a) (4 * pgs.length) = pcs 64 pgs.flatten) :
  Vd n (F.set ((e + 1) % 2) (gi (e + 1) (1 - a) pgs.length)) (e + 1) (1 - a) rows [] 0 := by
 obtain ⟨b0, b1⟩ := xv n
 obtain ⟨p1, p2⟩ := rj h.dn.lo
 have ha := h.a1
 have hlo := h.dn.lo
 have hp : pgs.length <= an n := (gx hr).2
 have hpos : 1 <= pgs.length := by
  have := Hy (gx hr).1
  cases pgs with
  | nil =>
   have hb := ww (gx hr).1
   grind
  | cons _ _ => simp
 have bge : me n (1 - a) >= 2 + jn n := by
  grind
 have ne : ∀ i, 2 <= i -> (F.set ((e + 1) % 2) (gi (e + 1) (1 - a) pgs.length))[i]? = F[i]? := fun i hi => List.getElem?_set_ne (by omega)
 have hlen := h.dn.len
 refine ⟨⟨h.dn.lo, h.dn.hi, by grind, fun b hb => ?_⟩, by omega, by omega, by omega, ⟨pgs, ⟨?_, fun x hx => ?_⟩, hr, ?_⟩, by simp [ct], rfl, Nat.zero_le _, fun i b _ hi hb => ?_, fun c hc => (by cases hc), ⟨pgs, hr⟩, fun i b hi hb => ?_⟩
 ·rcases List.mem_or_eq_of_mem_set hb with e' | e'
  ·exact h.dn.f64 b e'
  ·rw [e']; exact qy
 ·rw [List.getD_eq_getElem?_getD, List.getElem?_set_self (by omega)]
  exact Au (by omega) (by omega) (by omega) hpos hp h.dn.hi
 ·obtain ⟨base, pgs0, L, ⟨h1, _⟩, _⟩ := h.ex
  grind
 ·rw [<- hA]
  exact oy fun i hi => ne _ (by omega)
 ·rw [ne _ (by omega)] at hb
  exact h.old i b hi hb (e + 1) (by omega) (by omega)
 ·rw [ne _ (by omega)] at hb
  exact fun e' h1 h2 => h.old i b hi hb e' (by omega) h2
theorem Vd.part {n : Nat} {F : Sec} {e a : Nat} {base : List KV} {L : List (List Ch)} {used : Nat} (h : Vd n F e a base L used) {c : List Ch} (hc : FrOK c) (hu : used + (aq e L.length c).length ≤ jn n) (hroom : ∃ p, gf n (dl (oj base L) c) = some p) {l' : List (Nat × List UInt8)} (hs : l'.Sublist (wl (2 + used) (aq e L.length c))) :
    (l' = wl (2 + used) (aq e L.length c) → Vd n (oq F l') e a base (L ++ [c]) (used + (aq e L.length c).length)) ∧ (Rc n (oq F l') e a (oj base L) ∨ l' = wl (2 + used) (aq e L.length c)) := by
  obtain ⟨b0, b1⟩ := xv n
  obtain ⟨p1, p2⟩ := rj h.dn.lo
  have ha := h.a1
  have hlo := h.dn.lo
  have hlen := h.dn.len
  have he : e < 4294967296 := by have := h.e2; omega
  have hold := fun b hb => yg (e := e) (j := L.length) (c := c) he b hb
  have h64 : ∀ b ∈ aq e L.length c, b.length ≤ 64 := fun b hb => by rw [(hold b hb).2]; exact Nat.le_refl _
  have hn2 : 2 + used + (aq e L.length c).length ≤ F.length := by omega
  have hout : ∀ i, i < 2 + used ∨ 2 + used + (aq e L.length c).length ≤ i → (oq F l')[i]? = F[i]? := fun i hi => Lv hs hi
  have hbeg : 2 + jn n ≤ me n a := by rcases (show a = 0 ∨ a = 1 by omega) with rfl | rfl <;> omega
  obtain ⟨pgs, ⟨h1, h1'⟩, h2, h3⟩ := h.pgs
  have hhd : Hd n (oq F l') e a pgs.length := ⟨by rw [Ij (hout _ (.inl (by omega)))]; exact h1, by rw [Ij (hout _ (.inl (by omega)))]; exact h1'⟩
  have har : ar n (oq F l') a (4 * pgs.length) = pcs 64 pgs.flatten := by rw [← h3]; exact oy fun i hi => hout _ (.inr (by omega))
  have hjl : ((oq F l').drop 2).take used = ct e 0 L := by rw [← h.jl]; exact oy fun i hi => hout _ (.inl (by omega))
  have hget : ∀ i, i < (aq e L.length c).length → ∃ x, (aq e L.length c)[i]? = some x ∧ pad x = x ∧ x ∈ aq e L.length c := fun i hi => by
    obtain ⟨x, hx⟩ : ∃ x, (aq e L.length c)[i]? = some x := ⟨_, List.getElem?_eq_getElem hi⟩
    have hm := List.mem_of_getElem? hx
    exact ⟨x, hx, Ou (hold x hm).2, hm⟩
  have hold2 : ∀ i b, i < jn n → (oq F l')[2 + i]? = some b → ahw e b := by
    intro i b hi hb
    by_cases hr : i < used ∨ used + (aq e L.length c).length ≤ i
    · rw [hout _ (by omega)] at hb
      exact h.old i b hi hb
    · obtain ⟨x, hx, hp, hm⟩ := hget (i - used) (by omega)
      have := Gz _ F (2 + used) (i - used) l' hs hn2 (by omega)
      rw [show 2 + used + (i - used) = 2 + i from by omega, hx, Option.map_some, hp, hb] at this
      rcases this with e1 | e1
      · exact h.old i b hi e1.symm
      · cases e1; exact (hold _ hm).1
  refine ⟨?_, ?_⟩
  · rintro rfl
    refine ⟨h.dn.sub h64 hs, h.a1, h.e1, h.e2, ⟨pgs, hhd, h2, har⟩, ?_, ?_, hu, ?_, ?_, ?_, hold2⟩
    · rw [um, List.take_add, hjl, List.drop_drop, Nat.zero_add]
      congr 1
      apply List.ext_getElem?
      intro i
      by_cases hi : i < (aq e L.length c).length
      · rw [List.getElem?_take_of_lt hi, List.getElem?_drop]
        rw [Nl _ F (2 + used) i hn2 hi]
        obtain ⟨x, hx, hp, _⟩ := hget i hi
        rw [hx, Option.map_some, hp]
      · rw [List.getElem?_eq_none (by rw [List.length_take]; omega), List.getElem?_eq_none (by omega)]
    · rw [um, List.length_append, ← h.ul, Nat.zero_add]
    · intro i b hi1 hi2 hb
      rw [hout _ (by omega)] at hb
      exact h.bad i b (by omega) hi2 hb
    · intro x hx
      rcases List.mem_append.1 hx with hx | hx
      · exact h.fr x hx
      · rw [List.mem_singleton.1 hx]; exact hc
    · unfold oj at hroom ⊢
      rw [List.foldl_append]
      exact hroom
  · rcases Tu _ F (2 + used) l' hs hn2 with e0 | ⟨k, k1, k2⟩
    · exact .inr e0
    refine .inl ⟨h.dn.sub h64 hs, h.a1, h.e1, h.e2, ⟨base, pgs, L, hhd, h2, har, ?_, h.fr, ?_, rfl⟩, h.room, hold2⟩
    · have e1 : jr n (oq F l') = ct e 0 L ++ ((oq F l').drop (2 + used)).take (jn n - used) := by
        have : jn n = used + (jn n - used) := by omega
        unfold jr
        rw [this, List.take_add, hjl, List.drop_drop, Nat.add_sub_cancel_left]
      have hrest : ∀ i, i < jn n - used → (((oq F l').drop (2 + used)).take (jn n - used))[i]? = (oq F l')[2 + used + i]? := fun i hi => by rw [List.getElem?_take_of_lt hi, List.getElem?_drop]
      have hbadF : ∀ i, i < jn n - used → ∃ b, F[2 + used + i]? = some b ∧ Bad e b := fun i hi => by
        obtain ⟨b, hb⟩ : ∃ b, F[2 + used + i]? = some b := ⟨_, List.getElem?_eq_getElem (by omega)⟩
        exact ⟨b, hb, h.bad (used + i) b (by omega) (by omega) (by rw [← hb]; congr 1; omega)⟩
      rw [e1, Xl h.e2 h.fr (Rg (of_ := (pcs 49 (gz c)).length) (j := k) ?_ (by rw [← ml e L.length c]; exact k1) hc.p200 ?_)]
      · intro b hb
        have hpos := jp e L.length c
        rw [hrest 0 (by omega)] at hb
        rcases Gz _ F (2 + used) 0 l' hs hn2 (by omega) with e2 | e2
        · obtain ⟨b', hb', hB⟩ := hbadF 0 (by omega)
          rw [e2, hb'] at hb; cases hb
          exact .inl hB
        · obtain ⟨x, hx, hp, _⟩ := hget 0 (by omega)
          rw [e2, hx, Option.map_some, hp] at hb; cases hb
          exact .inr (Mn hc.p200 _ hx)
      · obtain ⟨b', hb', hB⟩ := hbadF k (by omega)
        exact ⟨b', by rw [hrest k (by omega), k2, hb'], hB⟩
    · have h4 := uk e L 0
      have h5 := h.uj
      have h6 := h.ul
      have : jn n ≤ 1024 := (ig h.dn.hi).1
      omega
open Go Go.Vm
theorem Hh {α : Type} {l' l : List α} {k : Nat} (h : l'.Sublist (l.take k)) : l'.Sublist l := h.trans (List.take_sublist k l)
theorem adp {o : Nat × List UInt8} {l' : List (Nat × List UInt8)} (h : l'.Sublist [o]) : l' = [] \/ l' = [o] := by
 cases h with
 | cons _ h => exact .inl (List.sublist_nil.1 h)
 | cons_cons _ h => rw [List.sublist_nil.1 h]; exact .inr rfl
theorem Vu {n : Nat} {d : D} (hl : Live d) (hn : d.firm.length = n) {e a : Nat} {rows : List KV} (hR : Rc n d.firm e a rows) (he : e < 1073741824) {pgs : Sec} (hr : gf n rows = some pgs) :
  (∀ F, Out (yq d pgs (1 - a) (e + 1)) F -> ∃ e' a', e' <= e + 1 /\ Rc n F e' a' rows) /\
  ((yq d pgs (1 - a) (e + 1)).dark = false -> Live (yq d pgs (1 - a) (e + 1)) /\ Vd n (yq d pgs (1 - a) (e + 1)).firm (e + 1) (1 - a) rows [] 0) /\
  d.w < (yq d pgs (1 - a) (e + 1)).w /\ (d.fused = false -> (yq d pgs (1 - a) (e + 1)).fused = false) := by
 obtain ⟨b0, b1⟩ := xv n
 obtain ⟨p1, p2⟩ := rj hR.dn.lo
 have hlo := hR.dn.lo
 have ha := hR.a1
 have hp : pgs.length <= an n := (gx hr).2
 have hsl := oh hr
 have h256 := mr (gx hr).1
 have hfl := tc (k := 256) pgs h256
 obtain ⟨_, h64, _⟩ := xi (k := 64) (by omega) (4 * pgs.length) pgs.flatten (by rw [hfl]; omega)
 rw [Kw, hn]
 generalize hLs : pcs 64 pgs.flatten = Ls at hsl h64
 have h64' : ∀ b ∈ Ls, b.length <= 64 := fun b hb => by rw [h64 b hb]; exact Nat.le_refl _
 have hin : me n (1 - a) + Ls.length <= d.firm.length := by
  rcases (show a = 0 \/ a = 1 by omega) with rfl | rfl
  ·simp only [Nat.sub_zero]; omega
  ·simp only [Nat.sub_self]; omega
 have hne : Ls ≠ [] := by
  intro e0
  have hb := Hy (gx hr).1
  have : pgs.length = 0 := by rw [e0] at hsl; simp at hsl; omega
  have : pgs = [] := List.eq_nil_of_length_eq_zero this
  rw [this] at hb
  rw [show ([] : Sec).dropLast = [] from rfl] at hb
  have h2 := ww (gx hr).1
  rw [this] at h2
  rw [h2] at hb; exact absurd rfl hb
 obtain ⟨hP, hw, hfu⟩ := ama hl hin h64'
 have hw := hw hne
 have hRa : ∀ l', l'.Sublist (wl (me n (1 - a)) Ls) -> Rc n (oq d.firm l') e a rows := fun l' hs => hR.area (by omega) h64' hs
 have hn1 : (ph d (me n (1 - a)) Ls).firm.length = n := by rw [ahv, hn]
 generalize hd1 : ph d (me n (1 - a)) Ls = d1 at hw hfu hn1
 have dk : d1.dark = true -> ph d1 ((e + 1) % 2) [gi (e + 1) (1 - a) pgs.length] = d1 := fun h => Gu h _ _
 have hO1 : ∀ F, Out d1 F -> Rc n F e a rows := by
  rintro F ⟨l', s1, rfl⟩
  cases hP with
  | done h1 h2 =>
   rw [hd1] at h1 h2
   rw [h1] at s1
   rw [List.sublist_nil.1 s1]
   show Rc n d1.firm e a rows
   rw [h2]
   exact hRa _ (.refl _)
  | cut h1 h2 k h3 =>
   rw [hd1] at h1 h2 h3
   rw [h3] at s1
   rw [h2]
   exact hRa _ (Hh s1)
 cases hdk : d1.dark with
 | true =>
  rw [dk hdk]
  refine ⟨fun F hF => ⟨e, a, Nat.le_succ e, hO1 F hF⟩, ?_, hw, hfu⟩
  intro h
  cases hdk.symm.trans h
 | false =>
  cases hP with
  | cut h1 _ _ _ => rw [hd1, hdk] at h1; cases h1
  | done h1 h2 =>
   rw [hd1] at h1 h2
   have hl1 : Live d1 := ⟨h1, hdk⟩
   have hR1 : Rc n d1.firm e a rows := by rw [h2]; exact hRa _ (.refl _)
   have hA : ar n d1.firm (1 - a) (4 * pgs.length) = Ls := by
    have hx := acq (a := 1 - a) (F := d.firm) (Ls := Ls) (by omega) hR.dn (by omega) h64
    rw [hsl] at hx
    rw [h2]
    exact hx
   have hV := hR1.head he hr (by rw [hA, hLs])
   have hpd : pad (gi (e + 1) (1 - a) pgs.length) = gi (e + 1) (1 - a) pgs.length := Ou qy
   obtain ⟨hP2, hw2, hfu2⟩ := ama hl1 (a := (e + 1) % 2) (L := [gi (e + 1) (1 - a) pgs.length]) (by rw [hn1]; simp only [List.length_singleton]; omega) (fun b hb => by rw [List.mem_singleton.1 hb, qy]; exact Nat.le_refl _)
   have hw2 := hw2 (by simp)
   have hset : oq d1.firm (wl ((e + 1) % 2) [gi (e + 1) (1 - a) pgs.length]) = d1.firm.set ((e + 1) % 2) (gi (e + 1) (1 - a) pgs.length) := by
    show d1.firm.set ((e + 1) % 2) (pad _) = _
    rw [hpd]
   rw [<- hset] at hV
   have hw3 := Nat.lt_trans hw hw2
   have hRV := hV.rc
   have hRV : Rc n (oq d1.firm (wl ((e + 1) % 2) [gi (e + 1) (1 - a) pgs.length])) (e + 1) (1 - a) rows := hRV
   refine ⟨fun F hF => ?_, fun hd2 => ?_, hw3, fun h => hfu2 (hfu h)⟩
   ·obtain ⟨l', s1, rfl⟩ := hF
    cases hP2 with
    | done g1 g2 =>
     rw [g1] at s1
     rw [List.sublist_nil.1 s1]
     refine ⟨e + 1, 1 - a, Nat.le_refl _, ?_⟩
     show Rc n (ph d1 ((e + 1) % 2) [gi (e + 1) (1 - a) pgs.length]).firm (e + 1) (1 - a) rows
     rw [g2]; exact hRV
    | cut g1 g2 k g3 =>
     rw [g3] at s1
     rw [g2]
     rcases adp (Hh s1) with rfl | rfl
     ·exact ⟨e, a, by omega, hR1⟩
     ·exact ⟨e + 1, 1 - a, Nat.le_refl _, hRV⟩
   ·cases hP2 with
    | cut g1 _ _ _ => rw [hd2] at g1; cases g1
    | done g1 g2 => exact ⟨⟨g1, hd2⟩, by rw [g2]; exact hV⟩
structure Mem (n : Nat) (z : S) : Prop where
 dn : z.d.firm.length = n
 lo : 64 <= n
 hi : n <= 4096
 a1 : z.a <= 1
 room : ∃ p, gf n z.rows = some p
 used : z.used <= jn n
 fr : z.fr <= z.used
structure Run (n : Nat) (z : S) : Prop where
 live : Live z.d
 v : ∃ base L, Vd n z.d.firm z.e z.a base L z.used /\ z.rows = oj base L /\ z.fr = L.length
theorem ail {n : Nat} {z : S} (hM : Mem n z) (hR : Run n z) (he : z.e < 1073741824) {pg : Sec} (hr : gf n z.rows = some pg) :
  Mem n (ckF z pg) /\ (∀ F, Out (ckF z pg).d F -> ∃ e' a', e' <= (ckF z pg).e /\ Rc n F e' a' z.rows) /\ ((ckF z pg).d.dark = false -> Run n (ckF z pg)) /\ z.d.w < (ckF z pg).d.w /\ (z.d.fused = false -> (ckF z pg).d.fused = false) := by
 obtain ⟨base, L, hV, hrw, _⟩ := hR.v
 have hRc := hV.rc
 rw [<- hrw] at hRc
 obtain ⟨h1, h2, h3, h4⟩ := Vu hR.live hM.dn hRc he hr
 refine ⟨⟨by show (yq z.d pg (1 - z.a) (z.e + 1)).firm.length = n; rw [Vv, hM.dn], hM.lo, hM.hi, by show 1 - z.a <= 1; omega, ⟨pg, hr⟩, Nat.zero_le _, Nat.le_refl _⟩, h1, fun hd => ?_, h3, h4⟩
 obtain ⟨g1, g2⟩ := h2 hd
 exact ⟨g1, z.rows, [], g2, rfl, rfl⟩
theorem Ug {n : Nat} {z : S} (hM : Mem n z) (hR : Run n z) {c : List Ch} (hc : FrOK c) (hu : z.used + (aq z.e z.fr c).length <= jn n) (hroom : ∃ p, gf n (dl z.rows c) = some p) :
  Mem n (tz z c (aq z.e z.fr c)) /\ (∀ F, Out (tz z c (aq z.e z.fr c)).d F -> ∃ e' a', e' <= z.e /\ (Rc n F e' a' z.rows \/ Rc n F e' a' (dl z.rows c))) /\
  ((tz z c (aq z.e z.fr c)).d.dark = false -> Run n (tz z c (aq z.e z.fr c))) /\ z.d.w < (tz z c (aq z.e z.fr c)).d.w /\ (z.d.fused = false -> (tz z c (aq z.e z.fr c)).d.fused = false) := by
 obtain ⟨base, L, hV, hrw, hfr⟩ := hR.v
 have hfs := jp z.e z.fr c
 have hfr1 := hM.fr
 have hlo := hM.lo
 obtain ⟨p1, p2⟩ := rj hlo
 have he : z.e < 4294967296 := by have := hV.e2; omega
 have h64 : ∀ b ∈ aq z.e z.fr c, b.length <= 64 := fun b hb => by rw [(yg he b hb).2]; exact Nat.le_refl _
 have hd : (tz z c (aq z.e z.fr c)).d = ph z.d (2 + z.used) (aq z.e z.fr c) := rfl
 obtain ⟨hP, hw, hfu⟩ := ama hR.live (a := 2 + z.used) (L := aq z.e z.fr c) (by rw [hM.dn]; omega) h64
 have hw := hw (by intro e0; rw [e0] at hfs; simp at hfs)
 have hpart := fun l' hs => hV.part hc (by rw [<- hfr]; exact hu) (by rw [<- hrw]; exact hroom) (l' := l') hs
 rw [<- hfr, <- hrw] at hpart
 have hVn : Vd n (oq z.d.firm (wl (2 + z.used) (aq z.e z.fr c))) z.e z.a base (L ++ [c]) (z.used + (aq z.e z.fr c).length) := (hpart _ (.refl _)).1 rfl
 have hfold : oj base (L ++ [c]) = dl z.rows c := by rw [hrw]; unfold oj; rw [List.foldl_append]; rfl
 have hRn := hVn.rc
 rw [hfold] at hRn
 refine ⟨⟨by rw [hd, ahv, hM.dn], hM.lo, hM.hi, hM.a1, hroom, hu, by show z.fr + 1 <= z.used + (aq z.e z.fr c).length; omega⟩, fun F hF => ?_, fun hdk => ?_, by rw [hd]; exact hw, fun h => by rw [hd]; exact hfu h⟩
 ·rw [hd] at hF
  obtain ⟨l', s1, rfl⟩ := hF
  cases hP with
  | done g1 g2 =>
   rw [g1] at s1
   rw [List.sublist_nil.1 s1]
   refine ⟨z.e, z.a, Nat.le_refl _, .inr ?_⟩
   show Rc n (ph z.d (2 + z.used) (aq z.e z.fr c)).firm _ _ _
   rw [g2]; exact hRn
  | cut g1 g2 k g3 =>
   rw [g3] at s1
   rw [g2]
   rcases (hpart l' (Hh s1)).2 with h | h
   ·exact ⟨z.e, z.a, Nat.le_refl _, .inl h⟩
   ·rw [h]; exact ⟨z.e, z.a, Nat.le_refl _, .inr hRn⟩
 ·rw [hd] at hdk
  cases hP with
  | cut g1 _ _ _ => rw [hdk] at g1; cases g1
  | done g1 g2 =>
   refine ⟨⟨g1, hdk⟩, base, L ++ [c], ?_, hfold.symm, by show z.fr + 1 = _; rw [hfr]; simp⟩
   show Vd n (ph z.d (2 + z.used) (aq z.e z.fr c)).firm z.e z.a base (L ++ [c]) (z.used + (aq z.e z.fr c).length)
   rw [g2]; exact hVn
open Go Go.Vm
theorem Kj {d : D} (h : d.dark = true) (pg : Sec) (a e : Nat) : yq d pg a e = d := by rw [Kw, Gu h, Gu h]
theorem Bi {z : S} (h : z.d.dark = true) (c : List Ch) (ps : Sec) : (tz z c ps).d = z.d := Gu h _ _
theorem Nz {z : S} (h : z.d.dark = true) (pg : Sec) : (ckF z pg).d = z.d := Kj h _ _ _
theorem afo {c : List Ch} (hl : c.any lng = false) (hg : ∀ p ∈ c, p.2.2 = true -> p.2.1 = []) (hn : c.length <= 5000) (hp : (pcs 49 (gz c)).length <= 200) : FrOK c := by
 refine ⟨fun p hp => ?_, hn, hp⟩
 have := List.any_eq_false.1 hl p hp
 unfold lng at this
 simp only [Bool.or_eq_true, decide_eq_true_eq, not_or] at this
 exact ⟨by omega, by omega, hg p hp⟩
structure ComP (n : Nat) (z : S) (c : List Ch) (r : S × Nat) : Prop where
 k : r.2 = 0 \/ r.2 = 3 \/ r.2 = 21
 mem : Mem n r.1
 e : r.1.e <= z.e + 1
 not : r.2 ≠ 0 \/ c = [] -> r.1 = z
 yes : r.2 = 0 -> r.1.rows = dl z.rows c
 dark : z.d.dark = true -> r.1.d = z.d
 run : Run n z -> r.2 = 0 -> c ≠ [] -> z.d.w < r.1.d.w /\ (∀ F, Out r.1.d F -> ∃ e' a', e' <= r.1.e /\ (Rc n F e' a' z.rows \/ Rc n F e' a' r.1.rows)) /\ (r.1.d.dark = false -> Run n r.1) /\ (z.d.fused = false -> r.1.d.fused = false)
theorem Gw {n : Nat} {z : S} {c : List Ch} (hM : Mem n z) {k : Nat} (hk : k = 3 \/ k = 21) : ComP n z c (z, k) :=
 have h0 : k ≠ 0 := by omega
 ⟨.inr hk, hM, Nat.le_succ _, fun _ => rfl, fun h => absurd h h0, fun _ => rfl, fun _ h => absurd h h0⟩
theorem Eh {n : Nat} {z : S} {c : List Ch} (hM : Mem n z) (he : z.e < 1073741823) (hc : c.length <= 5000) (hg : ∀ p ∈ c, p.2.2 = true -> p.2.1 = []) : ComP n z c (cf z c) := by
 by_cases hn : c = []
 ·subst hn
  have : cf z [] = (z, 0) := by unfold cf; rw [if_pos rfl]
  rw [this]
  exact ⟨.inl rfl, hM, Nat.le_succ _, fun _ => rfl, fun _ => rfl, fun _ => rfl, fun _ _ h => absurd rfl h⟩
 cases hl : c.any lng with
 | true =>
  have : cf z c = (z, 3) := by unfold cf; rw [if_neg hn, if_pos hl]
  rw [this]
  exact Gw hM (.inl rfl)
 | false =>
  unfold cf
  rw [if_neg hn, if_neg (by rw [hl]; decide)]
  have hdn := hM.dn
  obtain ⟨pg0, hr0⟩ := hM.room
  rw [hdn]
  cases hrm : gf n (dl z.rows c) with
  | none => exact Gw hM (.inr rfl)
  | some pgA =>
   cases hpf : ey z.e z.fr c with
   | none => exact Gw hM (.inr rfl)
   | some ps =>
    obtain ⟨hps, h200⟩ := pv hpf
    have hF := afo hl hg hc h200
    dsimp only
    by_cases c2 : (bm n).1 < ps.length
    ·rw [if_pos c2]; exact Gw hM (.inr rfl)
    ·rw [if_neg c2]
     by_cases c3 : (bm n).1 < z.used + ps.length
     ·rw [if_pos c3, hr0]
      obtain ⟨ps', hp2, hpl⟩ := xg hpf (e' := z.e + 1) (by omega)
      obtain ⟨hps', _⟩ := pv (n := 0) hp2
      rw [hp2]
      have hu' : (ckF z pg0).used + (aq (ckF z pg0).e (ckF z pg0).fr c).length <= jn n := by
       show 0 + (aq (z.e + 1) 0 c).length <= jn n
       rw [<- hps', hpl]
       have : ¬ jn n < ps.length := c2
       omega
      have hMk : Mem n (ckF z pg0) := ⟨by show (yq z.d pg0 (1 - z.a) (z.e + 1)).firm.length = n; rw [Vv, hM.dn], hM.lo, hM.hi, by show 1 - z.a <= 1; omega, ⟨pg0, hr0⟩, Nat.zero_le _, Nat.le_refl _⟩
      rw [hps']
      have hfs := jp (z.e + 1) 0 c
      have hMa : Mem n (tz (ckF z pg0) c (aq (z.e + 1) 0 c)) := ⟨by show (ph (ckF z pg0).d _ _).firm.length = n; rw [ahv, hMk.dn], hM.lo, hM.hi, hMk.a1, ⟨pgA, hrm⟩, hu', by show 0 + 1 <= 0 + (aq (z.e + 1) 0 c).length; omega⟩
      refine ⟨.inl rfl, hMa, Nat.le_refl _, fun h => ?_, fun _ => rfl, fun h => ?_, fun hR _ _ => ?_⟩
      ·rcases h with h | h
       ·exact absurd rfl h
       ·exact absurd h hn
      ·show (tz (ckF z pg0) c (aq (z.e + 1) 0 c)).d = z.d
       rw [Bi (by rw [Nz h]; exact h), Nz h]
      ·obtain ⟨k1, k2, k3, k4, k5⟩ := ail hM hR (by omega) hr0
       cases hdk : (ckF z pg0).d.dark with
       | true =>
        have hsame : (tz (ckF z pg0) c (aq (z.e + 1) 0 c)).d = (ckF z pg0).d := Bi hdk _ _
        dsimp only
        rw [hsame]
        refine ⟨k4, fun F hF => ?_, fun h => ?_, k5⟩
        ·obtain ⟨e', a', q1, q2⟩ := k2 F hF
         exact ⟨e', a', q1, .inl q2⟩
        ·cases hdk.symm.trans h
       | false =>
        obtain ⟨m1, m2, m3, m4, m5⟩ := Ug k1 (k3 hdk) hF hu' ⟨pgA, hrm⟩
        exact ⟨Nat.lt_trans k4 m4, m2, m3, fun h => m5 (k5 h)⟩
     ·rw [if_neg c3, hps]
      have hu' : z.used + (aq z.e z.fr c).length <= jn n := by
       rw [<- hps]
       have : ¬ jn n < z.used + ps.length := c3
       omega
      have hfs := jp z.e z.fr c
      have hfr := hM.fr
      have hMa : Mem n (tz z c (aq z.e z.fr c)) := ⟨by show (ph z.d _ _).firm.length = n; rw [ahv, hM.dn], hM.lo, hM.hi, hM.a1, ⟨pgA, hrm⟩, hu', by show z.fr + 1 <= z.used + (aq z.e z.fr c).length; omega⟩
      refine ⟨.inl rfl, hMa, Nat.le_succ _, fun h => ?_, fun _ => rfl, fun h => Bi h _ _, fun hR _ _ => ?_⟩
      ·rcases h with h | h
       ·exact absurd rfl h
       ·exact absurd h hn
      ·obtain ⟨m1, m2, m3, m4, m5⟩ := Ug hM hR hF hu' ⟨pgA, hrm⟩
       exact ⟨m4, m2, m3, m5⟩
open Go Go.Vm
theorem se {d : D} (h : d.loose = []) (i : Nat) : d.cell i = d.firm.getD i [] := by unfold D.cell; rw [h]; rfl
theorem Ns {d : D} (h : d.loose = []) {a m : Nat} (hm : a + m <= d.firm.length) : Cj d a m = (d.firm.drop a).take m := by
 apply List.ext_getElem?
 intro i
 unfold Cj
 by_cases hi : i < m
 ·rw [List.getElem?_map, List.getElem?_range hi, Option.map_some, se h, List.getElem?_take_of_lt hi, List.getElem?_drop, List.getD_eq_getElem?_getD]
  obtain ⟨b, hb⟩ : ∃ b, d.firm[a + i]? = some b := ⟨_, List.getElem?_eq_getElem (by omega)⟩
  rw [hb]; rfl
 ·rw [List.getElem?_eq_none (by simp; omega), List.getElem?_eq_none (by rw [List.length_take]; omega)]
theorem aao {d : D} (h : d.loose = []) {e a pg : Nat} (hd : Hd d.firm.length d.firm e a pg) : qg d = some (e, a, pg) := by
 obtain ⟨h1, h2⟩ := hd
 rcases (show e % 2 = 0 \/ e % 2 = 1 by omega) with he | he
 ·rw [he] at h1 h2
  have h2 : ∀ x, jy d.firm.length (d.firm.getD 1 []) = some x -> x.1 < e := h2
  refine sy (x := some (e, a, pg)) (y := jy d.firm.length (d.firm.getD 1 [])) (by rw [se h]; exact h1) (by rw [se h]) ?_
  cases hy : jy d.firm.length (d.firm.getD 1 []) with
  | none => rfl
  | some y =>
   have := h2 y hy
   show (if e < y.1 then some y else some (e, a, pg)) = _
   rw [if_neg (by omega)]
 ·rw [he] at h1 h2
  have h2 : ∀ x, jy d.firm.length (d.firm.getD 0 []) = some x -> x.1 < e := h2
  refine sy (x := jy d.firm.length (d.firm.getD 0 [])) (y := some (e, a, pg)) (by rw [se h]) (by rw [se h]; exact h1) ?_
  cases hx : jy d.firm.length (d.firm.getD 0 []) with
  | none => rfl
  | some x =>
   have := h2 x hx
   show (if x.1 < e then some (e, a, pg) else some x) = _
   rw [if_pos this]
theorem Wu {d : D} {k : Nat} (h : d.Lim k) (b : List Bool) : (d.crash b).Lim k := by
 have h3 := h.l
 exact ⟨aa1 h.ok b, h.w, h.f, by show 0 + k < _; omega⟩
theorem Yy {d : D} {k : Nat} (h : d.Lim k) (m : Int) : (d.fuse m).Lim k := by
 have : (d.fuse m).w = d.w /\ (d.fuse m).f = d.f /\ (d.fuse m).loose = d.loose := by unfold D.fuse; split <;> exact ⟨rfl, rfl, rfl⟩
 exact ⟨adm h.ok m, by rw [this.1]; exact h.w, by rw [this.2.1]; exact h.f, by rw [this.2.2]; exact h.l⟩
theorem Ws (d : D) (m : Int) : (d.fuse m).firm = d.firm /\ (d.fuse m).loose = d.loose := by unfold D.fuse; split <;> exact ⟨rfl, rfl⟩
structure OpenP (n : Nat) (e : Nat) (rows : List KV) (d : D) (k : Nat) (z : S) : Prop where
 rw_ : z.rows = rows
 ep : z.e = e + 1
 us : z.used = 0
 fr : z.fr = 0
 mem : Mem n z
 out : ∀ F, Out z.d F -> ∃ e' a', e' <= e + 1 /\ Rc n F e' a' rows
 run : z.d.dark = false -> Run n z
 nf : d.fused = false -> z.d.fused = false
 lim : z.d.Lim k
theorem yx {h : ah} {p : Nat} {f l : Option Nat} {d : D} (hD : dw h p f l d) (hl : d.loose = []) {n e a : Nat} {rows : List KV} (hR : Rc n d.firm e a rows) (he : e < 1073741824) {k : Nat} (hL : d.Lim (k + 3000)) :
  Ret F 13 [.ptr p 0] h fun v g => ∃ q l' z, v = .tup [.ptr q 0, vi .u16 0] /\ h.length <= q /\ Moved h g p f l l' z.d /\ StoreAt g q p f l' z /\ OpenP n e rows d k z := by
 have hn : d.firm.length = n := hR.dn.len
 obtain ⟨base, pgs, L, h1, h2, h3, h4, h5, h6, h7⟩ := hR.ex
 obtain ⟨pgR, hr⟩ := hR.room
 obtain ⟨p1, p2⟩ := rj hR.dn.lo
 have hp : pgs.length <= an n := (gx h2).2
 have hpR : pgR.length <= an n := (gx hr).2
 have hlo := hR.dn.lo
 have hhi := hR.dn.hi
 have hbld := (gx h2).1
 have h256 := mr hbld
 have hfl := tc (k := 256) pgs h256
 obtain ⟨hs1, _, hs3⟩ := xi (k := 64) (by omega) (4 * pgs.length) pgs.flatten (by rw [hfl]; omega)
 obtain ⟨hin, hin2⟩ := Ku hlo hR.a1 hp
 have hf : qg d = some (e, a, pgs.length) := aao hl (by rw [hn]; exact h1)
 have hlaid : Yj d a pgs.length = (base, 0) := by
  unfold Yj
  rw [hn, Ns hl (by rw [hn]; exact hin)]
  have : (d.firm.drop (me n a)).take (pgs.length * 4) = pcs 64 pgs.flatten := by rw [Nat.mul_comm]; exact h3
  rw [this, hs3, ad6 (by omega) pgs h256]
  exact ww hbld
 have hjr : Cj d 2 (bm d.firm.length).1 = jr n d.firm := by
  rw [hn, Ns hl (by rw [hn]; show 2 + jn n <= n; omega)]; rfl
 have hFr : FrL (td e (Cj d 2 (bm d.firm.length).1)).1 L := by
  rw [hjr, h4]; exact aiw h5
 have hb5 : base.length <= 5000 := by
  unfold dy at hbld
  split at hbld
  ·rename_i c; exact c.2
  ·cases hbld
 have hr' : gf d.firm.length (oj base L) = some pgR := by rw [hn, <- h7]; exact hr
 obtain ⟨v, g, n1, q, l', rfl, hq, M, St⟩ := ae8 hD (by omega) hf hlaid hFr (by omega) hr' he (hL.le (by omega))
 have hlay : (∀ F, Out (yq d pgR (1 - a) (e + 1)) F -> ∃ e' a', e' <= e + 1 /\ Rc n F e' a' rows) /\
  ((yq d pgR (1 - a) (e + 1)).dark = false -> Live (yq d pgR (1 - a) (e + 1)) /\ Vd n (yq d pgR (1 - a) (e + 1)).firm (e + 1) (1 - a) rows [] 0) /\ (d.fused = false -> (yq d pgR (1 - a) (e + 1)).fused = false) := by
  cases hdk : d.dark with
  | false =>
   obtain ⟨o1, o2, o3, o4⟩ := Vu ⟨hl, hdk⟩ hn hR he hr
   exact ⟨o1, o2, o4⟩
  | true =>
   rw [Kj hdk]
   refine ⟨fun F hF => ⟨e, a, Nat.le_succ e, ?_⟩, fun h => ?_, fun h => h⟩
   ·rw [abe hl hF]; exact hR
   ·cases hdk.symm.trans h
 obtain ⟨o1, o2, o4⟩ := hlay
 have hz : (ckF ⟨d, oj base L, e, a, pgs.length, 0, 0⟩ pgR).d = yq d pgR (1 - a) (e + 1) := rfl
 refine ⟨_, g, n1, q, l', _, rfl, hq, M, St, h7.symm, rfl, rfl, rfl, ⟨?_, hlo, hhi, ?_, ⟨pgR, by show gf n (oj base L) = _; rw [<- h7]; exact hr⟩, Nat.zero_le _, Nat.le_refl _⟩, ?_, fun hd => ?_, ?_, ?_⟩
 ·rw [hz, Vv, hn]
 ·show 1 - a <= 1; omega
 ·rw [hz]; exact o1
 ·rw [hz] at hd
  obtain ⟨g1, g2⟩ := o2 hd
  exact ⟨g1, rows, [], g2, h7.symm, rfl⟩
 ·rw [hz]; exact o4
 ·rw [hz]
  exact ze (by rw [oh hr]; exact hL.le (by have := (ig hhi).2; have : an n <= 512 := this; omega))
open Go Go.Vm
theorem ta {d : D} (h : d.fused = false) : d.dark = false := by unfold D.dark; rw [h]; rfl
theorem Vj {d : D} (h : d.fused = false) (hl : d.loose = []) {a : Nat} {L : List (List UInt8)} (hn : a + L.length <= d.firm.length) (hb : ∀ b ∈ L, b.length <= 64) :
  (ph d a L).loose = [] /\ (ph d a L).firm = oq d.firm (wl a L) /\ (ph d a L).fused = false := by
 obtain ⟨hP, _, hf⟩ := ama ⟨hl, ta h⟩ hn hb
 have hf := hf h
 cases hP with
 | done h1 h2 => exact ⟨h1, h2, hf⟩
 | cut h1 _ _ _ => rw [ta hf] at h1; cases h1
theorem Xk {d : D} (hO : d.OK) (hf : d.fused = false) (hl : d.loose = []) (hlo : 64 <= d.firm.length) : (ra d).fused = false /\ Live (ra d) /\ Vd d.firm.length (ra d).firm 1 0 [] [] 0 := by
 obtain ⟨n, hn⟩ : ∃ n, d.firm.length = n := ⟨_, rfl⟩
 have hhi : n <= 4096 := by rw [<- hn]; exact hO.n
 rw [hn] at hlo |-
 obtain ⟨p1, p2⟩ := rj hlo
 obtain ⟨b0, b1⟩ := xv n
 have hD0 : Dn n d.firm := ⟨hlo, hhi, hn, hO.f64⟩
 have hrep : ∀ b ∈ List.replicate (2 + jn n) ([] : List UInt8), b.length <= 64 := fun b hb => by rw [List.eq_of_mem_replicate hb]; simp
 obtain ⟨f1, f2, f3⟩ := Vj hf hl (a := 0) (L := List.replicate (2 + jn n) []) (by rw [List.length_replicate]; omega) hrep
 have hpb : dy [] = some [gc 0 []] := zj
 have h256 := mr hpb
 have hfl := tc (k := 256) [gc 0 []] h256
 obtain ⟨hs1, hs2, _⟩ := xi (k := 64) (by omega) 4 ([gc 0 []] : Sec).flatten (by rw [hfl]; rfl)
 have hs2' : ∀ b ∈ pcs 64 ([gc 0 []] : Sec).flatten, b.length <= 64 := fun b hb => by rw [hs2 b hb]; exact Nat.le_refl _
 have hd : ra d = yq (ph d 0 (List.replicate (2 + jn n) [])) [gc 0 []] 0 1 := by unfold ra; rw [hn]; rfl
 have hn1 : (ph d 0 (List.replicate (2 + jn n) [])).firm.length = n := by rw [ahv, hn]
 rw [hd, Kw, hn1]
 have hD1 : Dn n (ph d 0 (List.replicate (2 + jn n) [])).firm := by rw [f2]; exact hD0.sub hrep (.refl _)
 have hz : ∀ i, i < 2 + jn n -> (ph d 0 (List.replicate (2 + jn n) [])).firm[i]? = some z64 := fun i hi => by
  have := Nl (List.replicate (2 + jn n) []) d.firm 0 i (by rw [List.length_replicate]; omega) (by rw [List.length_replicate]; exact hi)
  rw [Nat.zero_add] at this
  rw [f2, this, List.getElem?_replicate, if_pos hi]
  rfl
 generalize ph d 0 (List.replicate (2 + jn n) []) = d1 at f1 f3 hn1 hD1 hz
 have han : 4 * 1 <= 4 * an n := by omega
 obtain ⟨g1, g2, g3⟩ := Vj f3 f1 (a := me n 0) (L := pcs 64 ([gc 0 []] : Sec).flatten) (by rw [hs1, hn1]; omega) hs2'
 have hA := acq (a := 0) (F := d1.firm) (by omega) hD1 (by rw [hs1]; omega) hs2
 rw [hs1] at hA
 have hn2 : (ph d1 (me n 0) (pcs 64 ([gc 0 []] : Sec).flatten)).firm.length = n := by rw [ahv, hn1]
 have hz2 : ∀ i, i < 2 + jn n -> (ph d1 (me n 0) (pcs 64 ([gc 0 []] : Sec).flatten)).firm[i]? = some z64 := fun i hi => by
  rw [g2, Lv (.refl _) (.inl (by omega)), hz i hi]
 have hD2 : Dn n (ph d1 (me n 0) (pcs 64 ([gc 0 []] : Sec).flatten)).firm := by rw [g2]; exact hD1.sub hs2' (.refl _)
 rw [<- g2] at hA
 generalize ph d1 (me n 0) (pcs 64 ([gc 0 []] : Sec).flatten) = d2 at g1 g3 hn2 hz2 hD2 hA
 have hpl : ([gc 0 []] : Sec).length = 1 := rfl
 rw [hpl]
 have hh64 : ∀ b ∈ [gi 1 0 1], b.length <= 64 := fun b hb => by rw [List.mem_singleton.1 hb, qy]; exact Nat.le_refl _
 obtain ⟨k1, k2, k3⟩ := Vj g3 g1 (a := 1 % 2) (L := [gi 1 0 1]) (by rw [hn2]; simp only [List.length_singleton]; omega) hh64
 have hset : oq d2.firm (wl (1 % 2) [gi 1 0 1]) = d2.firm.set 1 (gi 1 0 1) := by
  show d2.firm.set (1 % 2) (pad _) = _
  rw [Ou qy]
 have hD3 : Dn n (d2.firm.set 1 (gi 1 0 1)) := by rw [<- hset]; exact hD2.sub hh64 (.refl _)
 rw [hset] at k2
 refine ⟨k3, ⟨k1, ta k3⟩, ?_⟩
 rw [k2]
 have ne : ∀ i, 2 <= i -> (d2.firm.set 1 (gi 1 0 1))[i]? = d2.firm[i]? := fun i hi => List.getElem?_set_ne (by omega)
 refine ⟨hD3, by omega, by omega, by omega, ⟨[gc 0 []], ⟨?_, fun x hx => ?_⟩, zg hlo, ?_⟩, by simp [ct], rfl, Nat.zero_le _, fun i b _ hi hb => ?_, fun c hc => (by cases hc), ⟨_, zg hlo⟩, fun i b hi hb => ?_⟩
 ·show jy n ((d2.firm.set 1 (gi 1 0 1)).getD 1 []) = _
  rw [List.getD_eq_getElem?_getD, List.getElem?_set_self (by omega)]
  exact Au (by omega) (by omega) (by omega) (Nat.le_refl 1) (by show 1 <= an n; omega) hhi
 ·have hx : jy n ((d2.firm.set 1 (gi 1 0 1)).getD 0 []) = some x := hx
  rw [List.getD_eq_getElem?_getD, List.getElem?_set_ne (by omega), hz2 0 (by omega)] at hx
  have hx : jy n z64 = some x := hx
  rw [Sc] at hx; cases hx
 ·rw [hpl, <- hA]
  exact oy fun i hi => ne _ (by omega)
 ·rw [ne _ (by omega), hz2 _ (by omega)] at hb
  cases hb
  exact (Pm 1).1
 ·rw [ne _ (by omega), hz2 _ (by omega)] at hb
  cases hb
  exact (Pm 1).2
theorem Lm {d : D} {k : Nat} (h : d.Lim (k + 2000)) (hn : d.firm.length <= 4096) : (ra d).Lim k := by
 have hj := (ig hn).1
 have h256 := mr zj
 have hps : (pcs 64 ([gc 0 []] : Sec).flatten).length = 4 := by
  have hfl := tc (k := 256) [gc 0 []] h256
  exact (xi (k := 64) (by omega) 4 ([gc 0 []] : Sec).flatten (by rw [hfl]; rfl)).1
 unfold ra
 refine ze (pa (nj _ _ _ _ (h.le ?_)))
 rw [List.length_replicate, hps]; omega
theorem Dw {h : ah} {p : Nat} {f l : Option Nat} {d : D} (hD : dw h p f l d) (hf : d.fused = false) (hl : d.loose = []) (hlo : 64 <= d.firm.length) {k : Nat} (hL : d.Lim (k + 2000)) :
  Ret F 11 [.ptr p 0] h fun v g => v = vi .u16 0 /\ ∃ l' d', Moved h g p f l l' d' /\ d'.fused = false /\ Live d' /\ Vd d.firm.length d'.firm 1 0 [] [] 0 /\ d'.Lim k := by
 obtain ⟨v, g, n1, rfl, l', M⟩ := Sh hD hlo (hL.le (by have := (ig hL.ok.n).1; omega))
 obtain ⟨a1, a2, a3⟩ := Xk hL.ok hf hl hlo
 exact ⟨_, g, n1, rfl, l', _, M, a1, a2, a3, Lm hL hL.ok.n⟩
open Go Go.Vm
theorem RowsE.setV {els : List (List CV)} {rows : List KV} (h : RowsE els rows) {i : Nat} {k v : List UInt8} (hi : rows[i]? = some (k, v)) {c : CV} (hc : SlV 1 (eB v) (.cv c)) : RowsE (els.set i [.sc (.string ⟨k.toArray⟩), c]) rows := by
 induction h generalizing i with
 | nil => simp at hi
 | cons h t ih =>
  cases i with
  | zero => cases hi; exact .cons ⟨c, rfl, hc⟩ t
  | succ i => exact .cons h (ih (by simpa using hi))
theorem f42_loop {rows : List KV} (hl : rows.length <= 1000000) (hv : ∀ r ∈ rows, r.2.length <= 1000000000) {uo : VV} {id g : Nat} (huo : uo = .own id g 0 rows.length false) : ∀ (r i : Nat) (els : List (List CV)) (s : List VV) (h : ah) (Q : Pst), i + r = rows.length -> h[id]? = some (.arr 2 els g false) -> rows.length <= els.length -> RowsE (els.take rows.length) rows ->
  s.length = 24 -> s.getD 3 .undef = uo -> s.getD 8 .undef = uo -> s.getD 9 .undef = vi .i64 rows.length -> s.getD 10 .undef = vi .i64 i ->
  (∀ s' h' els', s'.length = 24 -> s'.getD 3 .undef = uo -> h'[id]? = some (.arr 2 els' g false) -> rows.length <= els'.length -> RowsE (els'.take rows.length) rows -> Q (.exit 0) ⟨s', h'⟩) -> X F (.loop f42_1) ⟨s, h⟩ Q := by
 intro r
 induction r with
 | zero =>
  intro i els s h Q hi hb hfl hR hs e3 e8 e9 e10 hQ
  have c : ¬ ((i : Nat) : Int) < (rows.length : Int) := by omega
  rw [au, bg f42_1.eq_1]
  simp only [go_sem, seval, hs, e9, e10, c]
  rw [bg f42_0.eq_1]
  simp only [go_sem, seval, hs]
  exact hQ _ _ els (by simp only [ac, hs]) (by simp only [go_sem, seval, hs, e3]) hb hfl hR
 | succ r ih =>
  intro i els s h Q hi hb hfl hR hs e3 e8 e9 e10 hQ
  have c : ((i : Nat) : Int) < (rows.length : Int) := by omega
  obtain ⟨e, kv, a1, a2, cc, rfl, a3⟩ := hR.get (i := i) (by omega)
  rw [List.getElem?_take_of_lt (by omega)] at a1
  subst huo
  have ia : ∀ {g' : ah}, g'[id]? = some (.arr 2 els g false) -> iaO g' 2 (.own id g 0 rows.length false) (vi .i64 (i : Int)) = some (.eptr id g i 0, g') := fun {g'} hg => by
   rw [yh (by omega) hg (by omega)]; simp
  have ld2 : ldO h true 2 (.eptr id g i 0) = some (.agg [txt kv.1, .cv cc], h) := by
   simp [ldO, ak, mj, hb, a1, dm]
  have hb2 : (h ++ [VO.box [txt kv.1, .cv cc] false])[id]? = some (.arr 2 els g false) := (HExt.push h _).get hb
  have q5 : (h ++ [VO.box [txt kv.1, .cv cc] false])[h.length]? = some (.box [txt kv.1, .cv cc] false) := bh
  have ld5 : ldO (h ++ [VO.box [txt kv.1, .cv cc] false]) false 1 (.ptr h.length 1) = some (.cv cc, _) := bf q5 rfl
  obtain ⟨v5, g5, n5, w5, r5, S5⟩ := Dg a3 (hv kv (List.mem_of_getElem? a2))
  obtain ⟨c5, rfl⟩ : ∃ c5, w5 = .cv c5 := by rcases S5 with ⟨rfl, _⟩ | ⟨ex, rfl⟩ <;> exact ⟨_, rfl⟩
  have clc : ∀ g' : ah, ce g' [.cv cc] = some ([.cv cc], g') := fun g' => rfl
  have st5 := anu (off := 1) (c := c5) hb2 a1 (by show 1 < 2; decide)
  have hwr : IntKind.i64.wrap ((i : Int) + 1) = ((i + 1 : Nat) : Int) := by rw [IntWalk.i64_in _ (by omega)]; omega
  have fd : fdO 1 (.eptr id g i 0) = some (.eptr id g i 1) := rfl
  rw [au, bg f42_1.eq_1]
  simp only [go_sem, seval, hs, e9, e10, c]
  rw [bg f42_0.eq_1]
  simp only [go_sem, seval, hs, e8, e10, ia hb, ld2]
  simp only [go_sem, seval, hs, e3, e8, e10, ld5]
  refine ao (by simp only [List.map, go_sem, seval, hs]; exact clc _) n5 r5 ?_
  simp only [go_sem, seval, hs, ia hb2, fd, st5, e10, hwr]
  refine ih (i + 1) _ _ _ Q (by omega) (List.getElem?_set_self (df hb2)) (by rw [List.length_set]; exact hfl) (by rw [List.take_set]; exact hR.setV (k := kv.1) (v := kv.2) a2 S5) (by simp only [ac, hs]) (by simp only [go_sem, seval, hs, e3]) (by simp only [go_sem, seval, hs, e8]) (by simp only [go_sem, seval, hs, e9]) (by simp only [go_sem, seval, hs]) hQ
theorem Qs {rows : List KV} {els : List (List CV)} {u : VV} (hu : SlV 2 els u) (hR : RowsE els rows) (hl : rows.length ≤ 1000000) (hv : ∀ r ∈ rows, r.2.length ≤ 1000000000) : Cc F 42 [u] fun w => ∃ els', SlV 2 els' w ∧ RowsE els' rows := by
  have hel := hR.len
  obtain ⟨v6, g6, n6, B6⟩ := Ct (h := []) hu.vf (by omega)
  rcases B6.v with ⟨e6, rfl⟩ | ⟨e6, rfl⟩ | ⟨id, gg, full, _, rfl, a2, a3, a4⟩
  · have hr : rows.length = 0 := by rw [← hel, e6]; rfl
    have : Ret F 42 [u] [] fun v g => v = bq := by
      refine eE1 (fn := f42) (n := 24) rfl rfl fun s hs h0 => ?_
      simp only [f42]
      have c : ¬ ((0 : Int) < 0) := by decide
      simp only [go_sem, seval, hs, h0]
      refine ap (by simp only [List.map, go_sem, seval, hs, h0]; exact n6) ?_
      simp only [go_sem, seval, hs]
      rw [au, bg f42_1.eq_1]
      simp only [go_sem, seval, hs]
      rw [bg f42_0.eq_1]
      simp only [go_sem, seval, hs]
      all_goals trivial
    obtain ⟨v, g, n1, rfl⟩ := this
    exact ⟨_, g, n1, _, rfl, els, .inl ⟨rfl, e6⟩, hR⟩
  · have hr : rows.length = 0 := by rw [← hel, e6]; rfl
    have : Ret F 42 [u] [] fun v g => v = .cv (.sl 2 [] true) := by
      refine eE1 (fn := f42) (n := 24) rfl rfl fun s hs h0 => ?_
      simp only [f42]
      simp only [go_sem, seval, hs, h0]
      refine ap (by simp only [List.map, go_sem, seval, hs, h0]; exact n6) ?_
      have hln : lnO false (.cv (.sl 2 [] true)) = some (vi .i64 0) := rfl
      simp only [go_sem, seval, hs, hln]
      rw [au, bg f42_1.eq_1]
      simp only [go_sem, seval, hs]
      rw [bg f42_0.eq_1]
      simp only [go_sem, seval, hs]
      all_goals trivial
    obtain ⟨v, g, n1, rfl⟩ := this
    exact ⟨_, g, n1, _, rfl, els, .inr ⟨true, by rw [e6]⟩, hR⟩
  · have : Ret F 42 [u] [] fun v g => v = .own id gg 0 rows.length false ∧ ∃ els', g[id]? = some (.arr 2 els' gg false) ∧ rows.length ≤ els'.length ∧ RowsE (els'.take rows.length) rows := by
      rw [hel] at a3 a4 n6
      have hln : lnO false (.own id gg 0 rows.length false) = some (vi .i64 rows.length) := rfl
      refine eE1 (fn := f42) (n := 24) rfl rfl fun s hs h0 => ?_
      simp only [f42]
      simp only [go_sem, seval, hs, h0]
      refine ap (by simp only [List.map, go_sem, seval, hs, h0]; exact n6) ?_
      simp only [go_sem, Nat.reduceLT, Nat.reduceEqDiff, reduceCtorEq, Int.reduceLT, Int.reduceEq, hs, hln]
      refine f42_loop hl hv rfl rows.length 0 full _ _ _ (by omega) a2 a3 (by rw [← a4]; exact hR) (by simp only [ac, hs]) (by simp only [go_sem, Nat.reduceLT, Nat.reduceEqDiff, reduceCtorEq, Int.reduceLT, Int.reduceEq, hs]) (by simp only [go_sem, Nat.reduceLT, Nat.reduceEqDiff, reduceCtorEq, Int.reduceLT, Int.reduceEq, hs]) (by simp only [go_sem, Nat.reduceLT, Nat.reduceEqDiff, reduceCtorEq, Int.reduceLT, Int.reduceEq, hs]) (by simp only [go_sem, Nat.reduceLT, Nat.reduceEqDiff, reduceCtorEq, Int.reduceLT, Int.reduceEq, hs]; rfl) (fun s' h' els' hs' k3 k4 k5 k6 => ?_)
      simp only [go_sem, seval, hs', k3]
      exact ⟨trivial, els', k4, k5, k6⟩
    obtain ⟨v, g, n1, rfl, els', k4, k5, k6⟩ := this
    refine ⟨_, g, n1, .cv (.sl 2 (els'.take rows.length) false), ?_, _, .inr ⟨false, rfl⟩, k6⟩
    have : gy g (.own id gg 0 rows.length false) = some (.cv (.sl 2 (els'.take rows.length) false), g.set id (.arr 2 els' gg true)) := by
      simp only [gy, Go.Vm.clos, k4, Nat.zero_add, k5, and_self, if_true, List.drop_zero]
    simp only [av, this, Option.map]
theorem yz {h : ah} {q p : Nat} {f l : Option Nat} {z : S} (hS : StoreAt h q p f l z) (hl : z.rows.length <= 1000000) (hv : ∀ r ∈ z.rows, r.2.length <= 1000000000) : ∃ w els, call F 16 [.ptr q 0] h = some (.ret w, h) /\ SlV 2 els w /\ RowsE els z.rows := by
 obtain ⟨u, els, hb, hU, hR⟩ := hS.box
 obtain ⟨v4, g4, n4, w4, y4, els4, S4, R4⟩ := Qs hU hR hl hv
 have clu : ce h [u] = some ([u], h) := by rcases hU with ⟨rfl, _⟩ | ⟨ex, rfl⟩ <;> rfl
 have l1 : ldO h false 1 (.ptr q 1) = some (u, h) := bf hb rfl
 have : Ret F 16 [.ptr q 0] h fun v g => v = w4 /\ g = h := by
  refine eE1 (fn := f16) (n := 10) rfl rfl fun s hs h0 => ?_
  simp only [f16]
  simp only [go_sem, seval, hs, h0]
  rw [bg f16_0.eq_1]
  simp only [go_sem, seval, hs, h0, l1]
  refine ao (h1 := h) (by simp only [List.map, go_sem, seval, hs]; exact clu) n4 y4 ?_
  simp only [go_sem, seval, hs]
  all_goals trivial
 obtain ⟨v, g, e, rfl, rfl⟩ := this
 exact ⟨_, els4, e, S4, R4⟩
theorem Xa {h : ah} {q p : Nat} {f l : Option Nat} {z : S} (hS : StoreAt h q p f l z) : call F 20 [.ptr q 0] h = some (.ret (vi .i64 z.e), h) := by
 obtain ⟨u, els, hb, hU, hR⟩ := hS.box
 have l2 : ldO h false 1 (.ptr q 2) = some (vi .i64 z.e, h) := bf hb rfl
 have : Ret F 20 [.ptr q 0] h fun v g => v = vi .i64 z.e /\ g = h := by
  refine eE1 (fn := f20) (n := 10) rfl rfl fun s hs h0 => ?_
  simp only [f20]
  simp only [go_sem, seval, hs, h0]
  rw [bg f20_0.eq_1]
  simp only [go_sem, seval, hs, h0, l2]
  all_goals trivial
 obtain ⟨v, g, e, rfl, rfl⟩ := this
 exact e
open Go Go.Vm
theorem aln {n : Nat} {z : S} {c : List Ch} (hM : Mem n z) (hn : c ≠ []) (hl : c.any lng = false) (he : z.e < 1073741823) (hfr : z.fr <= 1073741824) (hroom : ∃ p, gf n (dl z.rows c) = some p) (hp : (pcs 49 (gz c)).length <= 200) (hj : (pcs 49 (gz c)).length <= jn n) : (cf z c).2 = 0 := by
 obtain ⟨pA, hrm⟩ := hroom
 obtain ⟨pg0, hr0⟩ := hM.room
 have hps : ∃ ps, ey z.e z.fr c = some ps /\ ps.length = (pcs 49 (gz c)).length := by
  have h1 := wc.2 (show z.e <= 1073741824 by omega)
  have h2 := wc.2 hfr
  unfold ey
  generalize kq (z.e : Int) = x1 at h1
  generalize kq (z.fr : Int) = x2 at h2
  subst h1 h2
  exact ⟨_, if_pos ⟨rfl, rfl, hp⟩, kw _ _⟩
 obtain ⟨ps, hpf, hpl⟩ := hps
 obtain ⟨ps', hp2, _⟩ := xg hpf (e' := z.e + 1) (by omega)
 unfold cf
 rw [if_neg hn, if_neg (by rw [hl]; decide), hM.dn, hrm, hpf]
 dsimp only
 rw [if_neg (by show ¬ jn n < ps.length; omega)]
 by_cases c3 : (bm n).1 < z.used + ps.length
 ·rw [if_pos c3, hr0, hp2]
 ·rw [if_neg c3]
theorem af5 : ∃ p, gf 64 (dl [] [([97], [], false)]) = some p := by
 have h1 : dl [] [([97], [], false)] = [([97], [])] := by rfl
 have h2 : ∃ p, dy [([97], [])] = some [p] := ⟨_, by rfl⟩
 obtain ⟨p, h2⟩ := h2
 refine ⟨[p], ?_⟩
 rw [h1]
 unfold gf
 rw [h2]
 rfl
abbrev kc : List Ch := [([97], [], false)]
theorem aom : ChsE [[.sc (.string ⟨#[97]⟩), .sc (.slice none 0 0), .sc (.bool false)]] kc := .cons ⟨_, rfl, .inl ⟨rfl, rfl⟩⟩ .nil
theorem Xh : (pcs 49 (gz kc)).length <= 16 := by
 have h := Xi (k := 49) (by omega) (gz kc).length (gz kc) (Nat.le_refl _)
 have : (gz kc).length <= 10 := by
  have : gz kc = num (jv (kc.length : Nat)) ++ (kc.map chB).flatten := rfl
  rw [this, List.length_append]
  have h1 : (num (jv (kc.length : Nat))).length <= 4 := by decide
  have h2 : ((kc.map chB).flatten).length <= 6 := by decide
  omega
 omega
theorem ads (n : Nat) (hn : n <= 4096) : (Sm n).OK := by
 refine ⟨fun b hb => ?_, fun o ho => (by cases ho), ?_, by simp [Sm], by show 0 < 1000000; omega, by show 0 < 1000000; omega⟩
 ·rw [List.eq_of_mem_replicate hb]; simp [z64]
 ·show (List.replicate n z64).length <= 4096; rw [List.length_replicate]; exact hn
theorem Nt (n : Nat) (hn : n <= 4096) : (Sm n).Lim 700000 := ⟨ads n hn, by show 0 + 700000 < 800000; omega, by show 0 + 700000 < 800000; omega, by show 0 + 700000 < 800000; omega⟩
theorem Ny (n : Nat) : (Sm n).firm.length = n := by show (List.replicate n z64).length = n; rw [List.length_replicate]
theorem Ut {h h1 h2 : ah} {p : Nat} {l' : Option Nat} {d : D} (e : Ext h h1) (hp : h.length <= p) {fi : Nat} (hf : h.length <= fi) (m : Moved h1 h2 p (some fi) none l' d) : Ext h h2 :=
 ⟨Nat.le_trans e.len m.kept.len, fun j hj => by rw [m.kept.same j (Nat.lt_of_lt_of_le hj e.len) (by omega) (by intro h; cases h; omega) (by intro h; cases h), e.same j hj]⟩
theorem RowsE.vals {n : Nat} {rows : List KV} {p : Sec} (h : gf n rows = some p) : rows.length <= 5000 := by
 have := (gx h).1
 unfold dy at this
 split at this
 ·rename_i c; exact c.2
 ·cases this
theorem Pd : ∀ (l : List KV) (n : Nat), od n l = l.length -> Uu l
 | [], n, _ => fun p hp => by cases hp
 | p :: l, n, h => by
  simp only [od, List.length_cons] at h
  split at h
  ·omega
  ·rename_i c1
   split at h
   ·omega
   ·intro q hq
    rcases List.mem_cons.1 hq with rfl | hq
    ·omega
    ·exact Pd l (n + (1 + (jj p).length)) (by omega) q hq
theorem Tg {n : Nat} {rows : List KV} {p : Sec} (h : gf n rows = some p) : Uu rows := by
 obtain ⟨up, _, _, _, e4⟩ := nu (gx h).1
 intro r hr
 rw [<- e4] at hr
 obtain ⟨g, hg, hr⟩ := List.mem_flatten.1 hr
 exact Pd g 0 (Ky rows g hg) r hr
structure New (h : ah) (n k : Nat) (g : ah) (q p : Nat) (f : Nat) (l' : Option Nat) (z : S) : Prop where
 ext : Ext h g
 hq : h.length <= q
 hp : h.length <= p
 hf : h.length <= f
 hl : ∀ i, l' = some i -> h.length <= i
 st : StoreAt g q p (some f) l' z
 rw_ : z.rows = []
 e2 : z.e = 2
 us : z.used = 0
 fr : z.fr = 0
 mem : Mem n z
 run : Run n z
 nf : z.d.fused = false
 lim : z.d.Lim k
theorem Uw (h : ah) : ∃ g, call F 12 [] h = some (.ret (vb true), g) /\ Ext h g := by
 obtain ⟨h1, n1, D1, l1, k1⟩ := Xb 64 (by omega) h
 have e1 : Ext h h1 := ⟨l1, k1⟩
 obtain ⟨v2, h2, n2, rfl, lA, dA, MA, f2, L2, V2, B2⟩ := Dw D1 rfl rfl (by rw [Ny]; omega) (k := 690000) ((Nt 64 (by omega)).le (by omega))
 rw [Ny] at V2
 obtain ⟨v3, h3, n3, q, lB, z, rfl, hq, MB, SB, OB⟩ := yx MA.dev L2.loose V2.rc (by omega) (k := 680000) (B2.le (by omega))
 have hR := OB.run (ta (OB.nf f2))
 have hrw : z.rows = [] := OB.rw_
 have hE : z.e = 2 := OB.ep
 have hU := OB.us
 have hF := OB.fr
 have MAB := MA.trans MB
 obtain ⟨w4, els4, n4, S4, R4⟩ := yz SB (by rw [hrw]; simp) (by rw [hrw]; intro r hr; cases hr)
 rw [hrw] at R4
 have el4 : els4.length = 0 := R4.len
 have hP : PreC z kc := ⟨OB.lim.ok, by rw [hrw]; simp, by simp, by have := Xh; have := Bd (k := 49) (by omega) _ (gz kc) (Nat.le_refl _); have e : (md 49 (gz kc).length (gz kc)).length = (pcs 49 (gz kc)).length := rfl; omega, fun x hx => by rw [List.mem_singleton.1 hx]; simp⟩
 obtain ⟨pg0, hr0⟩ := OB.mem.room
 have hdn := OB.mem.dn
 obtain ⟨v5, h5, n5, rfl, lC, MC⟩ := Ec SB (uc := .cv (.sl 3 [[.sc (.string ⟨#[97]⟩), .sc (.slice none 0 0), .sc (.bool false)]] true)) (.inr ⟨true, rfl⟩) aom hP (by rw [hdn]; exact hr0) OB.mem.a1 (by omega) (by omega) (by omega) (OB.lim.le (by omega))
 have ha := aln (c := kc) OB.mem (by simp) rfl (by omega) (by omega) (by rw [hrw]; exact af5) (by have := Xh; omega) (by have := Xh; show _ <= 16; omega)
 have hy := (Eh (c := kc) OB.mem (by omega) (by simp) (fun x hx _ => by rw [List.mem_singleton.1 hx])).yes ha
 rw [ha] at n5
 have n5 : call F 14 [.ptr q 0, .cv (.sl 3 [[.sc (.string ⟨#[97]⟩), .sc (.slice none 0 0), .sc (.bool false)]] true)] h3 = some (.ret (vi .u16 0), h5) := n5
 have hk1 : dl [] kc = [([97], [])] := by rfl
 rw [hrw, hk1] at hy
 obtain ⟨w6, els6, n6, S6, R6⟩ := yz MC.st (by rw [hy]; simp) (by rw [hy]; intro r hr; rw [List.mem_singleton.1 hr]; simp)
 rw [hy] at R6
 have el6 : els6.length = 1 := R6.len
 have nU := Xa SB
 rw [hE] at nU
 obtain ⟨v30, g30, m30, w30, y30, rfl⟩ := uv (n := 64) (by omega) (by omega)
 have p64 : bm (64 : Int).toNat = (16, 5) := by rfl
 rw [p64] at y30
 have y30 : av g30 v30 = some (.tup [vi .i64 16, vi .i64 5]) := y30
 have nU : call F 20 [.ptr q 0] h3 = some (.ret (vi .i64 2), h3) := nU
 have s4 := S4.ln
 rw [el4] at s4
 have s4 : lnO false w4 = some (vi .i64 0) := s4
 have s6 := S6.ln
 rw [el6] at s6
 have s6 : lnO false w6 = some (vi .i64 1) := s6
 suffices hx : Ret F 12 [] h fun v g => v = vb true /\ Ext h g by
  obtain ⟨v, g, a1, rfl, a2⟩ := hx
  exact ⟨g, a1, a2⟩
 have ext : Ext h h5 := by
  have k2 := MC.kept
  have x3 : Ext h h3 := Ut e1 (by omega) (by omega) MAB
  refine ⟨Nat.le_trans x3.len k2.len, fun j hj => ?_⟩
  have hq' : h.length <= q := Nat.le_trans e1.len (Nat.le_trans MA.kept.len hq)
  rw [k2.same j (Nat.lt_of_lt_of_le hj x3.len) (by omega) (by omega) (by intro h; cases h; omega) (fun e => ?_), x3.same j hj]
  rcases MAB.new j e with e' | e'
  ·cases e'
  ·have := e1.len; omega
 refine eE0 (fn := f12) (n := 57) rfl rfl fun s hs => ?_
 simp only [f12]
 simp only [go_sem, seval, hs]
 refine ao (h1 := h) (by simp only [List.map, go_sem, seval, hs]; rfl) m30 y30 ?_
 simp only [go_sem, seval, hs]
 refine ap (by simp only [List.map, go_sem, seval, hs]; exact n1) ?_
 simp only [go_sem, seval, hs]
 rw [bg f12_0.eq_1]
 simp only [go_sem, seval, hs]
 refine ap (by simp only [List.map, go_sem, seval, hs]; exact n2) ?_
 simp only [go_sem, seval, hs]
 refine ap (by simp only [List.map, go_sem, seval, hs]; exact n3) ?_
 simp only [go_sem, seval, hs]
 refine ap (by simp only [List.map, go_sem, seval, hs]; exact nU) ?_
 simp only [go_sem, seval, hs]
 refine ap (by simp only [List.map, go_sem, seval, hs]; exact n4) ?_
 have bdk : bdO [VV.cv (CV.sc (Value.string ⟨#[]⟩)), VV.cv (CV.sc (Value.slice none 0 0)), VV.cv (CV.sc (Value.bool false))] [(0, 1, VV.cv (CV.sc (Value.string ⟨#[97]⟩)))] = some (.agg [.cv (.sc (.string ⟨#[97]⟩)), bq, vb false]) := rfl
 have mkk : ∀ g : ah, mkO g 3 1 [.cv (.sc (.string ⟨#[]⟩)), .cv (.sc (.slice none 0 0)), .cv (.sc (.bool false))] [(0, 3, .agg [.cv (.sc (.string ⟨#[97]⟩)), bq, vb false])] = some (.cv (.sl 3 [[.sc (.string ⟨#[97]⟩), .sc (.slice none 0 0), .sc (.bool false)]] true), g) := fun g => rfl
 simp only [go_sem, seval, hs, s4, bdk, mkk]
 refine ap (by simp only [List.map, go_sem, seval, hs]; exact n5) ?_
 simp only [go_sem, seval, hs]
 refine ap (by simp only [List.map, go_sem, seval, hs]; exact n6) ?_
 simp only [go_sem, seval, hs, s6]
 exact ⟨trivial, ext⟩
open Go Go.Vm
structure Deed where
 kind : UInt8
 c : List UInt8
 keep : List Bool
 fuse : UInt8
def alq (e : List CV) (x : Deed) : Prop := ∃ cB cK : CV, e = [.sc (.int .u8 x.kind.toNat), cB, cK, .sc (.int .u8 x.fuse.toNat)] /\ SlV 1 (eB x.c) (.cv cB) /\ SlV 1 (xd x.keep) (.cv cK) /\ x.c.length <= 10000000 /\ x.keep.length <= 10000000
def Dr (els : List (List CV)) (l : List Deed) : Prop := els.length = l.length /\ ∀ (i : Nat) (x : Deed), l[i]? = some x -> ∃ e, els[i]? = some e /\ alq e x
theorem f23_loop {els : List (List CV)} {l : List Deed} {u : VV} (hS : SlV 4 els u) (hE : Dr els l) (hn : l.length <= 10000000) (h : ah) :
  ∀ (r k N : Nat) (s : List VV) (Q : Pst), k + r = l.length -> k <= N -> N <= k * 20000002 -> s.length = 30 -> s.getD 0 .undef = u -> s.getD 3 .undef = vi .i64 N -> s.getD 4 .undef = vi .i64 k ->
   (∀ s' N', s'.length = 30 -> s'.getD 3 .undef = vi .i64 (N' : Nat) -> l.length <= N' -> Q (.exit 0) ⟨s', h⟩) -> X F (.loop f23_0) ⟨s, h⟩ Q := by
 intro r
 induction r with
 | zero =>
  intro k N s Q hk h1 h2 hs h0 h3 h4 hQ
  rw [au, bg f23_0.eq_1]
  have c : ¬ (k : Int) < (els.length : Int) := by rw [hE.1]; omega
  simp only [go_sem, seval, hs, h0, h4, hS.ln, c]
  exact hQ _ N (by simp only [ac, hs]) (by simp only [go_sem, seval, h3]) (by omega)
 | succ r ih =>
  intro k N s Q hk h1 h2 hs h0 h3 h4 hQ
  rw [au, bg f23_0.eq_1]
  have c : (k : Int) < (els.length : Int) := by rw [hE.1]; omega
  have hkl : k < l.length := by omega
  obtain ⟨e, he, cB, cK, rfl, hB, hK, b1, b2⟩ := hE.2 k l[k] (List.getElem?_eq_getElem hkl)
  have hia := hS.ia (h := h) (k := .i64) (j := (k : Int)) (by omega) he
  have hw : IntKind.i64.wrap ((k : Int) + 1) = ((k + 1 : Nat) : Int) := by rw [IntWalk.i64_in _ (by omega)]; omega
  have q8 : (8 : Int) ≠ 0 := by decide
  have w1 : IntKind.i64.wrap (1 + ((l[k].c.length : Nat) : Int)) = ((1 + l[k].c.length : Nat) : Int) := by rw [IntWalk.i64_in _ (by omega)]; omega
  have w2 : IntKind.i64.wrap (((l[k].keep.length : Nat) : Int).tdiv 8) = ((l[k].keep.length / 8 : Nat) : Int) := by
   have : ((l[k].keep.length : Nat) : Int).tdiv 8 = ((l[k].keep.length / 8 : Nat) : Int) := rfl
   rw [this, IntWalk.i64_in _ (by omega)]
  have w3 : IntKind.i64.wrap (((1 + l[k].c.length : Nat) : Int) + ((l[k].keep.length / 8 : Nat) : Int)) = ((1 + l[k].c.length + l[k].keep.length / 8 : Nat) : Int) := by rw [IntWalk.i64_in _ (by omega)]; omega
  have w4 : IntKind.i64.wrap ((N : Int) + ((1 + l[k].c.length + l[k].keep.length / 8 : Nat) : Int)) = ((N + (1 + l[k].c.length + l[k].keep.length / 8) : Nat) : Int) := by rw [IntWalk.i64_in _ (by omega)]; omega
  simp only [go_sem, seval, hs, h0, h4, hS.ln, c]
  refine kh rfl ?_
  simp only [go_sem, seval, hs, h0, h3, h4, hia, hB.ln, hK.ln, aw, mz, w1, Gj q8, w2, w3, w4, hw]
  exact ih (k + 1) (N + (1 + l[k].c.length + l[k].keep.length / 8)) _ Q (by omega) (by omega) (by omega) (by simp only [ac, hs]) (by simp only [go_sem, seval, h0]) (by simp only [go_sem, seval, hs]) (by simp only [go_sem, seval, hs]) hQ
theorem Zo {els : List (List CV)} {l : List Deed} {u : VV} (hS : SlV 4 els u) (hE : Dr els l) (hn : l.length <= 10000000) : Cc F 23 [u] fun w => ∃ m, w = vb m /\ (m = false -> l.length <= 200) := by
 have : Ret F 23 [u] [] fun v _ => ∃ m, v = vb m /\ (m = false -> l.length <= 200) := by
  refine eE1 (fn := f23) (n := 30) rfl rfl fun s hs h0 => ?_
  simp only [f23]
  simp only [go_sem, Nat.reduceLT, Nat.reduceEqDiff, reduceCtorEq, Int.reduceLT, Int.reduceEq, hs]
  refine f23_loop hS hE hn _ l.length 0 0 _ _ (by omega) (by omega) (by omega) (by simp only [ac, hs]) (by simp only [go_sem, Nat.reduceLT, Nat.reduceEqDiff, reduceCtorEq, Int.reduceLT, Int.reduceEq, h0]) (by simp only [go_sem, Nat.reduceLT, Nat.reduceEqDiff, reduceCtorEq, Int.reduceLT, Int.reduceEq, hs]; rfl) (by simp only [go_sem, Nat.reduceLT, Nat.reduceEqDiff, reduceCtorEq, Int.reduceLT, Int.reduceEq, hs]; rfl) (fun s' N' a1 a3 a4 => ?_)
  have r : ((N' : Int) > 200) = (200 < N') := by apply propext; omega
  simp only [go_sem, seval, a1, a3, r]
  exact ⟨_, rfl, fun e => by have := of_decide_eq_false e; omega⟩
 obtain ⟨v, g, n1, m, rfl, hm⟩ := this
 exact ⟨_, g, n1, _, rfl, m, rfl, hm⟩
def sz (k : UInt8) : Nat := match k.toNat % 6 with
 | 0 => 64 | 1 => 65 | 2 => 80 | 3 => 100 | 4 => 128 | _ => 200
theorem aj7 (k : UInt8) : 64 <= sz k /\ sz k <= 200 := by unfold sz; split <;> omega
theorem abo (k : UInt8) : Cc F 22 [vi .u8 k.toNat] fun w => w = vi .i64 (sz k : Nat) := by
  have : Ret F 22 [vi .u8 k.toNat] [] fun v _ => v = vi .i64 (sz k : Nat) := by
    have q6 : (6 : Int) ≠ 0 := by decide
    have em : (k.toNat : Int).tmod 6 = ((k.toNat % 6 : Nat) : Int) := rfl
    have hm : k.toNat % 6 < 6 := Nat.mod_lt _ (by decide)
    have mk6 : ∀ g : ah, mkO g 1 6 [.cv (.sc (.int .i64 0)), .cv (.sc (.int .i64 0)), .cv (.sc (.int .i64 0)), .cv (.sc (.int .i64 0)), .cv (.sc (.int .i64 0)), .cv (.sc (.int .i64 0))]
        [(0, 1, .cv (.sc (.int .i64 64))), (1, 1, .cv (.sc (.int .i64 65))), (2, 1, .cv (.sc (.int .i64 80))), (3, 1, .cv (.sc (.int .i64 100))), (4, 1, .cv (.sc (.int .i64 128))), (5, 1, .cv (.sc (.int .i64 200)))] = some (.cv (.sl 1 [[.sc (.int .i64 64)], [.sc (.int .i64 65)], [.sc (.int .i64 80)], [.sc (.int .i64 100)], [.sc (.int .i64 128)], [.sc (.int .i64 200)]] true), g) := fun g => rfl
    have ia : ∀ (g : ah) (m : Nat) (c : CV), m < 6 → [CV.sc (.int .i64 64), .sc (.int .i64 65), .sc (.int .i64 80), .sc (.int .i64 100), .sc (.int .i64 128), .sc (.int .i64 200)][m]? = some c →
        iaO g 1 (.cv (.sl 1 [[.sc (.int .i64 64)], [.sc (.int .i64 65)], [.sc (.int .i64 80)], [.sc (.int .i64 100)], [.sc (.int .i64 128)], [.sc (.int .i64 200)]] true)) (vi .u8 (m : Int)) = some (.rptr [c], g) := by
      intro g m c hm hc
      match m, hm with
      | 0, _ => cases hc; rfl
      | 1, _ => cases hc; rfl
      | 2, _ => cases hc; rfl
      | 3, _ => cases hc; rfl
      | 4, _ => cases hc; rfl
      | 5, _ => cases hc; rfl
    have hsz : [CV.sc (.int .i64 64), .sc (.int .i64 65), .sc (.int .i64 80), .sc (.int .i64 100), .sc (.int .i64 128), .sc (.int .i64 200)][k.toNat % 6]? = some (.sc (.int .i64 (sz k : Nat))) := by
      unfold sz
      generalize k.toNat % 6 = m at hm
      match m, hm with
      | 0, _ => rfl
      | 1, _ => rfl
      | 2, _ => rfl
      | 3, _ => rfl
      | 4, _ => rfl
      | 5, _ => rfl
    have la : ∀ g : ah, ldO g false 1 (.rptr [.sc (.int .i64 (sz k : Nat))]) = some (vi .i64 (sz k : Nat), g) := fun g => iu
    refine eE1 (fn := f22) (n := 8) rfl rfl fun s hs h0 => ?_
    simp only [f22]
    simp only [go_sem, seval, hs, h0, mk6, Gb q6, em, ia _ _ _ hm hsz, la]
    all_goals trivial
  obtain ⟨v, g, n1, rfl⟩ := this
  exact ⟨_, g, n1, _, rfl, rfl⟩
theorem anb {P : VV -> ah -> Prop} {s : List VV} {h : ah} {a m n id : Nat} {cells : List VV} {fr : Bool} (ha : s.getD a .undef = .ptr id 0) (ho : h[id]? = some (.box cells fr)) (hn : cells.length = n) (hm : m < s.length)
  (hP : P (.tup [s.getD m .undef, .agg cells]) h) : RQ [.t m, .cell a true n] P .ret ⟨s, h⟩ := by
 subst hn
 refine ⟨trivial, [s.getD m .undef, .agg cells], ?_, hP⟩
 simp only [ke, yc, ki hm, ha, ho, List.drop_zero, List.take_length, dm, if_true]
theorem Zm (k : UInt8) (h : ah) : Ret F 17 [vi .u8 k.toNat] h fun v g => ∃ p f cells, v = .tup [.ptr p 0, .agg cells] /\ cells.length = 6 /\ Ext h g /\ h.length <= p /\ h.length <= f /\ dw g p (some f) none (Sm (sz k)) := by
 obtain ⟨hs1, hs2⟩ := aj7 k
 obtain ⟨v2, g2, n2, w2, y2, rfl⟩ := abo k
 obtain ⟨v4, g4, n4, y4⟩ := Qe (sz k) (by omega)
 refine eE1 (fn := f17) (n := 18) rfl rfl fun s hs h0 => ?_
 simp only [f17]
 simp only [go_sem, seval, hs, h0]
 have x1 := Ext.push h (.box [bq, bq, vi .i64 0, vi .i64 0, vb false, vi .i64 0] false)
 have q3 : (h ++ [VO.box [bq, bq, vi .i64 0, vi .i64 0, vb false, vi .i64 0] false])[h.length]? = some (.box [bq, bq, vi .i64 0, vi .i64 0, vb false, vi .i64 0] false) := bh
 have gl : (h ++ [VO.box [bq, bq, vi .i64 0, vi .i64 0, vb false, vi .i64 0] false]).length = h.length + 1 := by simp
 generalize h ++ [VO.box [bq, bq, vi .i64 0, vi .i64 0, vb false, vi .i64 0] false] = g1 at x1 q3 gl
 obtain ⟨g3, n3, D3, l3, k3⟩ := Xb (sz k) (by omega) g1
 have x3 : Ext g1 g3 := ⟨l3, k3⟩
 refine ao (h1 := g1) (by simp only [List.map, go_sem, seval, hs]; rfl) n2 y2 ?_
 simp only [go_sem, seval, hs]
 refine ap (by simp only [List.map, go_sem, seval, hs]; exact n3) ?_
 simp only [go_sem, seval, hs, h0]
 refine ao (h1 := g3) (by simp only [List.map, go_sem, seval, hs]; rfl) n2 y2 ?_
 simp only [go_sem, seval, hs]
 refine ao (h1 := g3) (by simp only [List.map, go_sem, seval, hs]; rfl) n4 y4 ?_
 simp only [go_sem, seval, hs]
 have q3' := x3.get q3
 have qz : (g3 ++ [VO.box [bq, bq, vi .i64 0, vi .i64 0, vb false, vi .i64 0] false])[g3.length]? = some (.box [bq, bq, vi .i64 0, vi .i64 0, vb false, vi .i64 0] false) := bh
 have xl := Ext.push g3 (.box [bq, bq, vi .i64 0, vi .i64 0, vb false, vi .i64 0] false)
 generalize g3 ++ [VO.box [bq, bq, vi .i64 0, vi .i64 0, vb false, vi .i64 0] false] = g5 at qz xl
 have st6 : stO g5 6 (.ptr g3.length 0) (tV (slV 1 (sE (sz k))) bq 0 0 false 0) = some (.undef, g5.set g3.length (.box [slV 1 (sE (sz k)), bq, vi .i64 0, vi .i64 0, vb false, vi .i64 0] false)) := jz (n := 6) (cs := [slV 1 (sE (sz k)), bq, vi .i64 0, vi .i64 0, vb false, vi .i64 0]) rfl qz rfl
 have q5 := List.getElem?_set_self (a := VO.box [slV 1 (sE (sz k)), bq, vi .i64 0, vi .i64 0, vb false, vi .i64 0] false) (ay qz)
 have x6 : Ext g3 (g5.set g3.length (.box [slV 1 (sE (sz k)), bq, vi .i64 0, vi .i64 0, vb false, vi .i64 0] false)) := HExt.ext (xl.hext.set (Nat.le_refl _) _)
 generalize g5.set g3.length (.box [slV 1 (sE (sz k)), bq, vi .i64 0, vi .i64 0, vb false, vi .i64 0] false) = g6 at st6 q5 x6
 have L6 : ldO g6 true 6 (.ptr g3.length 0) = some (.agg [slV 1 (sE (sz k)), bq, vi .i64 0, vi .i64 0, vb false, vi .i64 0], g6) := nr q5 rfl
 have q36 := x6.get q3'
 have st7 := jz (n := 6) (cs := [slV 1 (sE (sz k)), bq, vi .i64 0, vi .i64 0, vb false, vi .i64 0]) rfl q36 rfl
 have D6 := D3.ext x6
 obtain ⟨vf, vl, b1, b2, b3⟩ := D6
 have hp3 : h.length + 1 = g1.length := gl.symm
 simp only [go_sem, seval, hs, st6]
 refine kh rfl ?_
 simp only [go_sem, seval, hs, L6, st7]
 refine anb (id := h.length) (by simp only [go_sem, seval, hs]) (List.getElem?_set_self (ay q36)) rfl (by simp only [ac, hs]; decide) ?_
 simp only [go_sem, seval, hs]
 have X6 : Ext h g6 := x1.trans (x3.trans x6)
 refine ⟨_, _, _, rfl, rfl, HExt.ext (X6.hext.set (Nat.le_refl _) _), by omega, by omega, Mh ⟨vf, vl, b1, b2, b3⟩ q36 (by omega) sw _⟩
open Go Go.Vm
theorem afm {n : Nat} {z : S} {pg : Sec} (hr : gf n z.rows = some pg) {k : Nat} (h : z.d.Lim (k + 4 * an n + 3)) : (ckF z pg).d.Lim k := by
 show (yq z.d pg (1 - z.a) (z.e + 1)).Lim k
 have h2 : pg.length <= an n := (gx hr).2
 exact ze (by rw [oh hr]; exact h.le (by omega))
theorem Nk {z : S} {c : List Ch} {ps : Sec} {k : Nat} (h : z.d.Lim (k + ps.length + 1)) : (tz z c ps).d.Lim k := by
 show (pi z.d (2 + z.used) ps).flush.Lim k
 exact pa (nj _ _ _ _ (h.le (by omega)))
def Es (z : S) (c : List Ch) (j : Nat) (o1 o2 o3 o4 : Option Sec) : S × Nat := match o1, o2 with
  | some _, some ps => if j < ps.length then (z, 21) else
      if j < z.used + ps.length then
        match o3 with
        | some pg => match o4 with
          | some ps' => (tz (ckF z pg) c ps', 0)
          | none => (z, 21)
        | none => (z, 21)
      else (tz z c ps, 0)
  | _, _ => (z, 21)
theorem Ho {P : S × Nat -> Prop} {z : S} {c : List Ch} {j : Nat} {o1 o2 o3 o4 : Option Sec} (h21 : P (z, 21)) (hck : ∀ pg ps ps', o3 = some pg -> o2 = some ps -> o4 = some ps' -> ps.length <= j -> P (tz (ckF z pg) c ps', 0)) (hadd : ∀ ps, ps.length <= j -> P (tz z c ps, 0)) : P (Es z c j o1 o2 o3 o4) := by
 unfold Es
 cases o1 with
 | none => exact h21
 | some _ =>
  cases o2 with
  | none => exact h21
  | some ps =>
   dsimp only
   by_cases c2 : j < ps.length
   ·rw [if_pos c2]; exact h21
   ·rw [if_neg c2]
    by_cases c3 : j < z.used + ps.length
    ·rw [if_pos c3]
     cases o3 with
     | none => exact h21
     | some pg =>
      cases o4 with
      | none => exact h21
      | some ps' => exact hck pg ps ps' rfl rfl rfl (by omega)
    ·rw [if_neg c3]
     exact hadd ps (by omega)
theorem Td {z : S} {c : List Ch} (hn : c ≠ []) (hl : ¬ c.any lng = true) : cf z c = Es z c (bm z.d.firm.length).1 (gf z.d.firm.length (dl z.rows c)) (ey z.e z.fr c) (gf z.d.firm.length z.rows) (ey ((z.e + 1 : Nat) : Int) 0 c) := by
 unfold cf Es
 rw [if_neg hn, if_neg hl]
 generalize ey ((z.e + 1 : Nat) : Int) 0 c = o4
 generalize ey z.e z.fr c = o2
 generalize gf z.d.firm.length (dl z.rows c) = o1
 generalize gf z.d.firm.length z.rows = o3
 cases o1 <;> cases o2 <;> cases o3 <;> cases o4 <;> rfl
theorem Qi {e n e' : Nat} {c : List Ch} {ps ps' : Sec} (h : ey e n c = some ps) (h' : ey (e' : Int) 0 c = some ps') : ps'.length = ps.length := by
 rw [(pv h).1, (pv (n := 0) h').1, ml, ml]
theorem vj {P : S × Nat -> Prop} {z : S} {c : List Ch} (h0 : P (z, 0)) (h3 : P (z, 3)) (h21 : P (z, 21)) (hck : ∀ pg ps', gf z.d.firm.length z.rows = some pg -> ps'.length <= (bm z.d.firm.length).1 -> P (tz (ckF z pg) c ps', 0)) (hadd : ∀ ps, ps.length <= (bm z.d.firm.length).1 -> P (tz z c ps, 0)) : P (cf z c) := by
 by_cases hn : c = []
 ·unfold cf; rw [if_pos hn]; exact h0
 by_cases hl : c.any lng = true
 ·unfold cf; rw [if_neg hn, if_pos hl]; exact h3
 rw [Td hn hl]
 exact Ho h21 (fun pg ps ps' e1 e2 e3 e4 => hck pg ps' e1 (by rw [Qi e2 e3]; exact e4)) hadd
theorem Qv {n : Nat} {z : S} {c : List Ch} (hM : Mem n z) (hn : n <= 1000) {k : Nat} (h : z.d.Lim (k + 1000)) : (cf z c).1.d.Lim k := by
 obtain ⟨p1, p2⟩ := rj hM.lo
 have h0 : z.d.Lim k := h.le (by omega)
 refine vj (P := fun r => r.1.d.Lim k) h0 h0 h0 (fun pg ps' hr hps => ?_) (fun ps hps => ?_)
 ·rw [hM.dn] at hr hps
  have hps : ps'.length <= jn n := hps
  exact Nk (afm hr (h.le (by omega)))
 ·rw [hM.dn] at hps
  have hps : ps.length <= jn n := hps
  exact Nk (h.le (by omega))
theorem Ra : Cc F 12 [] fun w => w = vb true := by
 obtain ⟨g, n1, _⟩ := Uw []
 exact ⟨_, g, n1, _, rfl, rfl⟩
structure RunU (n : Nat) (z : S) (m : Nat) : Prop where
 mem : Mem n z
 run : Run n z
 nf : z.d.fused = false
 e : z.e + m <= 900000
 lim : z.d.Lim (1000 * m + 200000)
 e1 : 1 <= z.e
 n1 : n <= 1000
theorem RunU.fr {n m : Nat} {z : S} (h : RunU n z m) : z.fr <= 2000 /\ z.used <= 2000 := by
 have h1 := h.mem.fr
 have h2 := h.mem.used
 have h3 : jn n <= 1024 := (ig h.mem.hi).1
 omega
theorem RunU.room {n m : Nat} {z : S} (h : RunU n z m) : z.rows.length <= 5000 /\ Uu z.rows := by
 obtain ⟨p, hp⟩ := h.mem.room
 exact ⟨RowsE.vals hp, Tg hp⟩
theorem Vp {z : S} {c : List Ch} : z.e <= (cf z c).1.e :=
 vj (P := fun r => z.e <= r.1.e) (Nat.le_refl _) (Nat.le_refl _) (Nat.le_refl _) (fun _ _ _ _ => Nat.le_succ _) (fun _ _ => Nat.le_refl _)
theorem RunU.commit {n m : Nat} {z : S} (h : RunU n z (m + 1)) {c : List Ch} (hc : c.length ≤ 5000) (hg : ∀ p ∈ c, p.2.2 = true → p.2.1 = []) : RunU n (cf z c).1 m := by
  have he := h.e
  have hC := Eh h.mem (c := c) (by omega) hc hg
  have he2 := hC.e
  have he3 := Vp (z := z) (c := c)
  refine ⟨hC.mem, ?_, ?_, by omega, Qv h.mem h.n1 (h.lim.le (by omega)), by have := h.e1; omega, h.n1⟩
  · by_cases h0 : (cf z c).2 = 0 ∧ c ≠ []
    · obtain ⟨_, _, r3, r4⟩ := hC.run h.run h0.1 h0.2
      exact r3 (ta (r4 h.nf))
    · have : (cf z c).1 = z := hC.not (by
        by_cases h1 : (cf z c).2 = 0
        · by_cases h2 : c = []
          · exact .inr h2
          · exact absurd ⟨h1, h2⟩ h0
        · exact .inl h1)
      rw [this]; exact h.run
  · by_cases h0 : (cf z c).2 = 0 ∧ c ≠ []
    · obtain ⟨_, _, r3, r4⟩ := hC.run h.run h0.1 h0.2
      exact r4 h.nf
    · have : (cf z c).1 = z := hC.not (by
        by_cases h1 : (cf z c).2 = 0
        · by_cases h2 : c = []
          · exact .inr h2
          · exact absurd ⟨h1, h2⟩ h0
        · exact .inl h1)
      rw [this]; exact h.nf
theorem Kx {h : ah} {q p : Nat} {f l : Option Nat} {z : S} {n m : Nat} (hS : StoreAt h q p f l z) (hU : RunU n z (m + 1)) {ec : List (List CV)} {c : List Ch} {uc : VV} (hu : SlV 3 ec uc) (hC : ChsE ec c) (hcl : c.length <= 5000) (hcb : (gz c).length <= 1000000) (hcv : ∀ x ∈ c, x.2.1.length <= 1000000000) (hg : ∀ p ∈ c, p.2.2 = true -> p.2.1 = []) :
  ∃ g l', call F 14 [.ptr q 0, uc] h = some (.ret (vi .u16 (cf z c).2), g) /\ MovedS h g q p f l l' (cf z c).1 /\ RunU n (cf z c).1 m := by
 obtain ⟨pg0, hr0⟩ := hU.mem.room
 have hr1 := hU.room
 have hfr := hU.fr
 have he := hU.e
 have hdn := hU.mem.dn
 obtain ⟨v, g, n1, rfl, l', M⟩ := Ec hS hu hC ⟨hU.lim.ok, by omega, hcl, hcb, hcv⟩ (by rw [hdn]; exact hr0) hU.mem.a1 (by omega) (by omega) hfr.2 (hU.lim.le (by omega))
 exact ⟨g, l', n1, M, hU.commit hcl hg⟩
theorem aoi (c : List UInt8) : (chL 6 c).length <= 6 /\ (gz (chL 6 c)).length <= 1000000 /\ (∀ x ∈ chL 6 c, x.2.1.length <= 1000000000) /\ (∀ p ∈ chL 6 c, p.2.2 = true -> p.2.1 = []) := by
 have h1 := aej 6 c
 have h2 := Yz 6 c
 have h3 := aal (chL 6 c) h2
 exact ⟨h1, by omega, fun x hx => by have := (h2 x hx).2.1; omega, fun p hp => (h2 p hp).2.2⟩
open Go Go.Vm
theorem OpenP.runU {n e k m : Nat} {rows : List KV} {d : D} {z : S} (h : OpenP n e rows d k z) (hf : d.fused = false) (hn : n <= 1000) (he : e + 1 + m <= 900000) (hk : 1000 * m + 200000 <= k) : RunU n z m :=
 ⟨h.mem, h.run (ta (h.nf hf)), h.nf hf, by rw [h.ep]; exact he, h.lim.le hk, by rw [h.ep]; omega, hn⟩
theorem f8_loop1 {els : List (List CV)} {l : List Deed} {u : VV} (hS : SlV 4 els u) (hE : Dr els l) (hn : l.length <= 200) {q p f n : Nat} {vs : List VV} : ∀ (r i : Nat) (z : S) (l' : Option Nat) (s : List VV) (h : ah) (Q : Pst), i + r = l.length -> StoreAt h q p (some f) l' z -> RunU n z r -> s.length = 101 -> s.getD 1 .undef = u -> s.getD 11 .undef = .ptr q 0 -> s.getD 13 .undef = vi .i64 i ->
  (∀ s' h' l'' z', s'.length = 101 -> (∀ j, j < 13 -> s'.getD j .undef = s.getD j .undef) -> StoreAt h' q p (some f) l'' z' -> RunU n z' 0 -> Q (.exit 0) ⟨s', h'⟩) -> X F (.loop f8_3) ⟨s, h⟩ Q := by
 intro r
 induction r with
 | zero =>
  intro i z l' s h Q hi hSt hU hs e1 e11 e13 hQ
  have c : ¬ (i : Int) < (els.length : Int) := by rw [hE.1]; omega
  rw [au, bg f8_3.eq_1]
  simp only [go_sem, seval, hs, e13, e1, hS.ln, c]
  refine hQ _ h l' z (by simp only [ac, hs]) (fun j hj => ?_) hSt hU
  have n1 : (50 : Nat) ≠ j := by omega
  have n2 : (51 : Nat) ≠ j := by omega
  have n3 : (52 : Nat) ≠ j := by omega
  have n4 : (53 : Nat) ≠ j := by omega
  simp [List.getD_eq_getElem?_getD, List.getElem?_set_ne, n1, n2, n3, n4]
 | succ r ih =>
  intro i z l' s h Q hi hSt hU hs e1 e11 e13 hQ
  have c : (i : Int) < (els.length : Int) := by rw [hE.1]; omega
  have hkl : i < l.length := by omega
  obtain ⟨e, he, cB, cK, rfl, hB, hK, b1, b2⟩ := hE.2 i l[i] (List.getElem?_eq_getElem hkl)
  have hia := hS.ia (h := h) (k := .i64) (j := (i : Int)) (by omega) he
  have hw : IntKind.i64.wrap ((i : Int) + 1) = ((i + 1 : Nat) : Int) := by rw [IntWalk.i64_in _ (by omega)]; omega
  have fd : fdO 1 (.rptr [.sc (.int .u8 l[i].kind.toNat), cB, cK, .sc (.int .u8 l[i].fuse.toNat)]) = some (.rptr [cB, cK, .sc (.int .u8 l[i].fuse.toNat)]) := rfl
  have ld1 : ldO h false 1 (.rptr [cB, cK, .sc (.int .u8 l[i].fuse.toNat)]) = some (.cv cB, h) := iu
  obtain ⟨v24, g24, n24, w24, y24, ec, SC, EC⟩ := aih (n := 6) (by omega) l[i].c (.cv cB) hB
  obtain ⟨k1, k2, k3, k4⟩ := aoi l[i].c
  obtain ⟨g, l2, n14, M, hU'⟩ := Kx hSt hU SC EC (by omega) k2 k3 k4
  rw [au, bg f8_3.eq_1]
  simp only [go_sem, seval, hs, e13, e1, hS.ln, c]
  simp only [go_sem, seval, hs, e11, e13, e1, hia, fd, ld1]
  refine ao (h1 := h) (by simp only [List.map, go_sem, seval, hs]; rfl) n24 y24 ?_
  simp only [go_sem, seval, hs]
  refine ap (by simp only [List.map, go_sem, seval, hs]; exact n14) ?_
  simp only [go_sem, seval, hs, e13, hw]
  refine ih (i + 1) _ l2 _ _ Q (by omega) M.st hU' (by simp only [ac, hs]) (by simp only [go_sem, seval, hs, e1]) (by simp only [go_sem, seval, hs, e11]) (by simp only [go_sem, seval, hs]) (fun s' h' l'' z' a1 a2 a3 a4 => hQ s' h' l'' z' a1 (fun j hj => ?_) a3 a4)
  rw [a2 j hj]
  have m0 : (13 : Nat) ≠ j := by omega
  have n1 : (50 : Nat) ≠ j := by omega
  have n2 : (51 : Nat) ≠ j := by omega
  have n3 : (52 : Nat) ≠ j := by omega
  have n4 : (53 : Nat) ≠ j := by omega
  have n5 : (54 : Nat) ≠ j := by omega
  have n6 : (55 : Nat) ≠ j := by omega
  have n7 : (56 : Nat) ≠ j := by omega
  have n8 : (57 : Nat) ≠ j := by omega
  have n9 : (58 : Nat) ≠ j := by omega
  have n10 : (59 : Nat) ≠ j := by omega
  have n11 : (60 : Nat) ≠ j := by omega
  have n12 : (61 : Nat) ≠ j := by omega
  have n13 : (62 : Nat) ≠ j := by omega
  have n14 : (63 : Nat) ≠ j := by omega
  simp [List.getD_eq_getElem?_getD, List.getElem?_set_ne, m0, n1, n2, n3, n4, n5, n6, n7, n8, n9, n10, n11, n12, n13, n14]
structure Cr (n : Nat) (rows : List KV) (d : D) (m : Nat) : Prop where
 loose : d.loose = []
 nf : d.fused = false
 lim : d.Lim (1000 * m + 40000)
 rc : ∃ e a, e + m <= 1000000 /\ Rc n d.firm e a rows
theorem ab8 {n m e k : Nat} {rows : List KV} {d : D} {z : S} (h : OpenP n e rows d k z) (he : e + 1 + m <= 1000000) (hk : 1000 * m + 40000 <= k) (b : List Bool) : Cr n rows (z.d.crash b) m := by
 obtain ⟨e', a', h1, h2⟩ := h.out _ (Xp z.d b)
 exact ⟨rfl, rfl, Wu (h.lim.le hk) b, e', a', by omega, h2⟩
theorem f8_loop2 {b : List UInt8} {vn : VV} (hb : SlV 1 (eB b) vn) (hbl : b.length <= 8) {kp : List Bool} {vk : VV} (hk : SlV 1 (xd kp) vk) (hkl : kp.length <= 100) {p f n : Nat} {rows : List KV} : ∀ (r i : Nat) (d : D) (l' : Option Nat) (s : List VV) (h : ah) (Q : Pst), i + r = b.length -> dw h p (some f) l' d -> Cr n rows d (10 * r) -> s.length = 101 -> s.getD 2 .undef = vn -> s.getD 3 .undef = vk -> s.getD 9 .undef = .ptr p 0 -> s.getD 15 .undef = vi .i64 i ->
  (∀ s' h' l'' d', s'.length = 101 -> s'.getD 9 .undef = .ptr p 0 -> s'.getD 14 .undef = s.getD 14 .undef -> dw h' p (some f) l'' d' -> Cr n rows d' 0 -> Q (.exit 2) ⟨s', h'⟩) -> X F (.loop f8_4) ⟨s, h⟩ Q := by
 intro r
 induction r with
 | zero =>
  intro i d l' s h Q hi hD hC hs e2 e3 e9 e15 hQ
  have c : ¬ (i : Int) < (b.length : Int) := by omega
  rw [au, bg f8_4.eq_1]
  simp only [go_sem, seval, hs, e15, e2, hb.ln, aw, c]
  exact hQ _ h l' d (by simp only [ac, hs]) (by simp only [go_sem, seval, hs, e9]) (by simp only [go_sem, seval, hs]) hD hC
 | succ r ih =>
  intro i d l' s h Q hi hD hC hs e2 e3 e9 e15 hQ
  have c : (i : Int) < (b.length : Int) := by omega
  obtain ⟨x, hx⟩ : ∃ x, b[i]? = some x := ⟨_, List.getElem?_eq_getElem (by omega)⟩
  have heb : (eB b)[i]? = some [.sc (.int .u8 x.toNat)] := by simp [eB, bc, hx]
  have hia := hb.ia (h := h) (k := .i64) (j := (i : Int)) (by omega) heb
  have ldx : ldO h false 1 (.rptr [.sc (.int .u8 x.toNat)]) = some (vi .u8 x.toNat, h) := iu
  have q30 : (30 : Int) ≠ 0 := by decide
  have em : (x.toNat : Int).tmod 30 = ((x.toNat % 30 : Nat) : Int) := rfl
  have wx : IntKind.i64.wrap ((x.toNat % 30 : Nat) : Int) = ((x.toNat % 30 : Nat) : Int) := IntWalk.i64_in _ (by omega)
  have hw : IntKind.i64.wrap ((i : Int) + 1) = ((i + 1 : Nat) : Int) := by rw [IntWalk.i64_in _ (by omega)]; omega
  obtain ⟨v26, g26, n26, F26⟩ := Zg hD ((x.toNat % 30 : Nat) : Int)
  obtain ⟨l2, M2⟩ := F26.m
  obtain ⟨ff1, ff2⟩ := Ws d ((x.toNat % 30 : Nat) : Int)
  obtain ⟨e, a, he, hR⟩ := hC.rc
  obtain ⟨v13, g13, n13, q, l3, z, rfl, hq, M3, S3, O3⟩ := yx M2.dev (by rw [ff2]; exact hC.loose) (by rw [ff1]; exact hR) (by omega) (k := 1000 * (10 * r) + 40000) (Yy (hC.lim.le (by omega)) _)
  obtain ⟨v27, g27, n27, F27⟩ := Ud S3.dev O3.lim.ok hk (by have : maxLen = 9223372036854775807 := rfl; omega)
  obtain ⟨l4, M4⟩ := F27.m
  have C4 := ab8 (m := 10 * r) O3 (by omega) (Nat.le_refl _) kp
  rw [au, bg f8_4.eq_1]
  simp only [go_sem, seval, hs, e15, e2, hb.ln, aw, c]
  simp only [go_sem, seval, hs, e9, e15, e2, hia, ldx, Gb q30, em, wx]
  refine ap (by simp only [List.map, go_sem, seval, hs]; exact n26) ?_
  simp only [go_sem, seval, hs, e9]
  refine ap (by simp only [List.map, go_sem, seval, hs]; exact n13) ?_
  simp only [go_sem, seval, hs, e9, e3]
  refine ap (by simp only [List.map, go_sem, seval, hs]; exact n27) ?_
  simp only [go_sem, seval, hs, e15, hw]
  refine ih (i + 1) _ l4 _ _ Q (by omega) M4.dev C4 (by simp only [ac, hs]) (by simp only [go_sem, seval, hs, e2]) (by simp only [go_sem, seval, hs, e3]) (by simp only [go_sem, seval, hs, e9]) (by simp only [go_sem, seval, hs]) (fun s' h' l'' d' a1 a2 a3 a4 a5 => hQ s' h' l'' d' a1 a2 ?_ a4 a5)
  rw [a3]; simp only [go_sem, seval, hs]
theorem Wh {l m : List (List CV)} {k j : List KV} {vl vm : VV} (hl : SlV 2 l vl) (hm : SlV 2 m vm) (hR : RowsE l k) (hS : RowsE m j) (hk : k.length <= 1000000000) (hj : j.length <= 1000000000) : Cc F 18 [vl, vm] fun w => w = vb (decide (k = j)) := by
 obtain ⟨v, g, n1, hI⟩ := Th hl hm hR hS hk hj []
 exact ⟨v, g, n1, _, by obtain ⟨rfl, rfl⟩ := hI; rfl, rfl⟩
theorem Uu.v {l : List KV} (h : Uu l) : ∀ r ∈ l, r.2.length <= 1000000000 := fun r hr => by have := (h r hr).2; omega
theorem Vn {k : UInt8} {els : List (List CV)} {l : List Deed} {u : VV} (hS : SlV 4 els u) (hE : Dr els l) (hn : l.length <= 10000000) {b : List UInt8} {vn : VV} (hb : SlV 1 (eB b) vn) {kp : List Bool} {vk : VV} (hk : SlV 1 (xd kp) vk) :
  ∃ h', call F 8 [vi .u8 k.toNat, u, vn, vk] [] = some (.ret (vb true), h') := by
 suffices hx : Ret F 8 [vi .u8 k.toNat, u, vn, vk] [] fun v _ => v = vb true by
  obtain ⟨v, g, n1, rfl⟩ := hx
  exact ⟨g, n1⟩
 obtain ⟨v23, g23, n23, w23, y23, m, rfl, hm⟩ := Zo hS hE hn
 obtain ⟨v12, g12, n12, w12, y12, rfl⟩ := Ra
 have clu : ∀ g : ah, ce g [u] = some ([u], g) := fun g => by rcases hS with ⟨rfl, _⟩ | ⟨ex, rfl⟩ <;> rfl
 obtain ⟨hsz1, hsz2⟩ := aj7 k
 refine eE4 (fn := f8) (n := 101) rfl rfl fun s hs h0 h1 h2 h3 => ?_
 simp only [f8]
 simp only [go_sem, seval, hs]
 rw [bg f8_0.eq_1]
 simp only [go_sem, seval, hs, h1]
 refine ao (h1 := []) (by simp only [List.map, go_sem, seval, hs]; exact clu _) n23 y23 ?_
 have r1 : ((kp.length : Int) > 100) = (100 < kp.length) := by apply propext; omega
 have r2 : ((b.length : Int) > 8) = (8 < b.length) := by apply propext; omega
 by_cases hmm : m = true
 ·subst hmm
  simp only [go_sem, seval, hs]
  refine ao (h1 := []) (by simp only [List.map]; rfl) n12 y12 ?_
  simp only [go_sem, seval, hs]
  all_goals trivial
 by_cases hkl : 100 < kp.length
 ·simp only [go_sem, seval, hs, hmm, h3, hk.ln, mz, r1, hkl]
  refine ao (h1 := []) (by simp only [List.map]; rfl) n12 y12 ?_
  simp only [go_sem, seval, hs]
  all_goals trivial
 by_cases hbl : 8 < b.length
 ·simp only [go_sem, seval, hs, hmm, h3, h2, hk.ln, mz, hb.ln, aw, r1, hkl, r2, hbl]
  refine ao (h1 := []) (by simp only [List.map]; rfl) n12 y12 ?_
  simp only [go_sem, seval, hs]
  all_goals trivial
 simp only [go_sem, seval, hs, hmm, h3, h2, hk.ln, mz, hb.ln, aw, r1, hkl, r2, hbl]
 have hl200 := hm (by simpa using hmm)
 clear hm
 obtain ⟨v17, g1, n17, p, f, cells, rfl, hcl, x1, hp1, hf1, D1⟩ := Zm k []
 have n17 : call F 17 [s.getD 0 .undef] [] = some (.ret (.tup [.ptr p 0, .agg cells]), g1) := by rw [h0]; exact n17
 refine ap (by simp only [List.map, go_sem, seval, hs]; exact n17) ?_
 have qz : (g1 ++ [VO.box [bq, bq, vi .i64 0, vi .i64 0, vb false, vi .i64 0] false])[g1.length]? = some (.box [bq, bq, vi .i64 0, vi .i64 0, vb false, vi .i64 0] false) := bh
 have st6 := jz (n := 6) (cs := cells) hcl qz rfl
 have xz : Ext g1 ((g1 ++ [VO.box [bq, bq, vi .i64 0, vi .i64 0, vb false, vi .i64 0] false]).set g1.length (.box cells false)) := HExt.ext ((HExt.push g1 _).set (Nat.le_refl _) _)
 simp only [go_sem, seval, hs, st6]
 have D2 := D1.ext xz
 generalize (g1 ++ [VO.box [bq, bq, vi .i64 0, vi .i64 0, vb false, vi .i64 0] false]).set g1.length (.box cells false) = g2 at D2
 obtain ⟨v11, g3, n11, rfl, l3, d3, M3, f3, L3, V3, B3⟩ := Dw D2 rfl rfl (by rw [Ny]; exact hsz1) (k := 690000) ((Nt (sz k) (by omega)).le (by omega))
 rw [Ny] at V3
 obtain ⟨v13, g4, n13, q, l4, z4, rfl, hq4, M4, S4, O4⟩ := yx M3.dev L3.loose V3.rc (by omega) (k := 680000) (B3.le (by omega))
 have U4 : RunU (sz k) z4 l.length := O4.runU f3 (by omega) (by omega) (by omega)
 refine Gi fun s1 es1 => ?_
 have hs1 : s1.length = 101 := by rw [es1]; simp only [ac, hs]
 have k1 : s1.getD 1 .undef = u := by rw [es1]; simp only [go_sem, seval, hs, h1]
 have k2 : s1.getD 2 .undef = vn := by rw [es1]; simp only [go_sem, seval, hs, h2]
 have k3 : s1.getD 3 .undef = vk := by rw [es1]; simp only [go_sem, seval, hs, h3]
 have k9 : s1.getD 9 .undef = .ptr p 0 := by rw [es1]; simp only [go_sem, seval, hs]
 clear es1
 rw [bg f8_1.eq_1]
 simp only [go_sem, seval, hs1, k9]
 refine ap (by simp only [List.map, go_sem, seval, hs1, k9]; exact n11) ?_
 simp only [go_sem, seval, hs1, k9]
 refine ap (by simp only [List.map, go_sem, seval, hs1]; exact n13) ?_
 simp only [go_sem, seval, hs1]
 rw [bg f8_2.eq_1]
 simp only [go_sem, Nat.reduceLT, Nat.reduceEqDiff, reduceCtorEq, Int.reduceLT, Int.reduceEq, hs1]
 refine f8_loop1 hS hE hl200 (vs := []) l.length 0 z4 l4 _ _ _ (by omega) S4 U4 (by simp only [ac, hs1]) (by simp only [go_sem, Nat.reduceLT, Nat.reduceEqDiff, reduceCtorEq, Int.reduceLT, Int.reduceEq, hs1, k1]) (by simp only [go_sem, Nat.reduceLT, Nat.reduceEqDiff, reduceCtorEq, Int.reduceLT, Int.reduceEq, hs1]) (by simp only [go_sem, Nat.reduceLT, Nat.reduceEqDiff, reduceCtorEq, Int.reduceLT, Int.reduceEq, hs1]; rfl) (fun s5 g5 l5 z5 hs5 keep5 S5 U5 => ?_)
 have j2 : s5.getD 2 .undef = vn := by rw [keep5 2 (by decide)]; simp only [go_sem, seval, hs1, k2]
 have j3 : s5.getD 3 .undef = vk := by rw [keep5 3 (by decide)]; simp only [go_sem, seval, hs1, k3]
 have j9 : s5.getD 9 .undef = .ptr p 0 := by rw [keep5 9 (by decide)]; simp only [go_sem, seval, hs1, k9]
 have j11 : s5.getD 11 .undef = .ptr q 0 := by rw [keep5 11 (by decide)]; simp only [go_sem, seval, hs1]
 clear keep5
 obtain ⟨hr1, hr2⟩ := U5.room
 obtain ⟨w16, els16, n16, S16, R16⟩ := yz S5 (by omega) hr2.v
 obtain ⟨base, L, hV, hrw, _⟩ := U5.run.v
 have hRc := hV.rc
 rw [<- hrw] at hRc
 have hC5 : Cr (sz k) z5.rows z5.d (10 * b.length) := ⟨U5.run.live.loose, U5.nf, U5.lim.le (by omega), z5.e, z5.a, by have := U5.e; omega, hRc⟩
 simp only [go_sem, seval, hs5, j11]
 refine ap (by simp only [List.map, go_sem, seval, hs5]; exact n16) ?_
 simp only [go_sem, Nat.reduceLT, Nat.reduceEqDiff, reduceCtorEq, Int.reduceLT, Int.reduceEq, hs5]
 refine f8_loop2 hb (by omega) hk (by omega) b.length 0 z5.d l5 _ _ _ (by omega) S5.dev hC5 (by simp only [ac, hs5]) (by simp only [go_sem, Nat.reduceLT, Nat.reduceEqDiff, reduceCtorEq, Int.reduceLT, Int.reduceEq, hs5, j2]) (by simp only [go_sem, Nat.reduceLT, Nat.reduceEqDiff, reduceCtorEq, Int.reduceLT, Int.reduceEq, hs5, j3]) (by simp only [go_sem, Nat.reduceLT, Nat.reduceEqDiff, reduceCtorEq, Int.reduceLT, Int.reduceEq, hs5, j9]) (by simp only [go_sem, Nat.reduceLT, Nat.reduceEqDiff, reduceCtorEq, Int.reduceLT, Int.reduceEq, hs5]; rfl) (fun s6 g6 l6 d6 hs6 m9 m14 D6 C6 => ?_)
 have m14 : s6.getD 14 .undef = w16 := by rw [m14]; simp only [go_sem, seval, hs5]
 obtain ⟨e6, a6, he6, hR6⟩ := C6.rc
 obtain ⟨v7, g7, n7, q7, l7, z7, rfl, hq7, M7, S7, O7⟩ := yx D6 C6.loose hR6 (by omega) (k := 30000) (C6.lim.le (by omega))
 have hrw7 : z7.rows = z5.rows := O7.rw_
 obtain ⟨w8, els8, n8, S8, R8⟩ := yz S7 (by rw [hrw7]; omega) (by rw [hrw7]; exact hr2.v)
 rw [hrw7] at R8
 obtain ⟨v18, g18, n18, w18, y18, rfl⟩ := Wh S8 S16 R8 R16 (by omega) (by omega)
 have hdt : decide (z5.rows = z5.rows) = true := decide_eq_true rfl
 rw [hdt] at y18
 have cl18 : ce g7 [w8, w16] = some ([w8, w16], g7) := by rcases S8 with ⟨rfl, _⟩ | ⟨ex, rfl⟩ <;> (rcases S16 with ⟨rfl, _⟩ | ⟨ex, rfl⟩ <;> rfl)
 simp only [go_sem, seval, hs6, m9]
 refine ap (by simp only [List.map, go_sem, seval, hs6]; exact n7) ?_
 simp only [go_sem, seval, hs6]
 refine ao (h1 := g7) (by simp only [List.map]; rfl) n12 y12 ?_
 simp only [go_sem, seval, hs6]
 refine ap (by simp only [List.map, go_sem, seval, hs6]; exact n8) ?_
 simp only [go_sem, seval, hs6, m14]
 refine ao (h1 := g7) (by simp only [List.map, go_sem, seval, hs6]; exact cl18) n18 y18 ?_
 simp only [go_sem, seval, hs6]
 all_goals trivial
open Go Go.Vm
open Go Go.Vm
open Go Go.Vm
open Go.Proofs.Ytbhoknaipfnlnaa
theorem abu {H : Type} (d : DataW H) : 1 <= Rows.uptoBulk d := by
 cases d with
 | lit l => cases l <;> simp [Rows.uptoBulk]
 | nil => simp [Rows.uptoBulk]
 | ptr d => simp [Rows.uptoBulk]
 | slice elems spare => simp [Rows.uptoBulk]
 | agg parts => simp [Rows.uptoBulk]
 | iface t d => simp [Rows.uptoBulk]
 | map entries => simp [Rows.uptoBulk]
 | held h => simp [Rows.uptoBulk]
theorem Hk {H : Type} (l : List (DataW H)) : l.length <= Rows.uptoBulkAll l := by
 induction l with
 | nil => simp [Rows.uptoBulkAll]
 | cons x r ih => have := abu x; simp only [Rows.uptoBulkAll, List.length_cons]; omega
theorem Jr {H : Type} {d : DataW H} {l : List (DataW H)} (h : d ∈ l) : Rows.uptoBulk d <= Rows.uptoBulkAll l := by
 induction l with
 | nil => cases h
 | cons x r ih =>
  simp only [Rows.uptoBulkAll]
  cases List.mem_cons.1 h with
  | inl e => subst e; omega
  | inr e => have := ih e; omega
theorem Ua {H : Type} {P : Program} {t e n : Nat} {d : DataW H} {cs : List CV} (hu : P.underlying t = some (.slice e)) (he : P.underlying e = some (.int .u8)) (hc : P.cellsOf e = 1) (h : DR P (n + 2) t d cs) :
  ∃ (l : List UInt8) (c : CV), cs = [c] /\ SlV 1 (eB l) (.cv c) /\ l.length + 1 <= Rows.uptoBulk d := by
 obtain ⟨l, c, h1, h2, _, ⟨rfl, rfl⟩ | ⟨ds, rest, rfl, hl⟩⟩ := Oy hu he hc h
 ·exact ⟨[], c, h1, h2, by simp [Rows.uptoBulk]⟩
 ·refine ⟨l, c, h1, h2, ?_⟩
  have := Hk ds
  simp only [Rows.uptoBulk]; omega
theorem Kn {H : Type} {P : Program} {t e n : Nat} {d : DataW H} {cs : List CV} (hu : P.underlying t = some (.slice e)) (he : P.underlying e = some .bool) (hc : P.cellsOf e = 1) (h : DR P (n + 2) t d cs) : ∃ (l : List Bool) (c : CV), cs = [c] ∧ SlV 1 (xd l) (.cv c) ∧ l.length ≤ maxLen ∧ l.length ≤ Rows.uptoBulk d := by
  rcases Hf hu h with ⟨rfl, rfl⟩ | ⟨ds, rest, els, rfl, rfl, h1, h2, h3⟩
  · exact ⟨[], _, rfl, .inl ⟨rfl, rfl⟩, by simp, by simp⟩
  · have key : ∀ el ∈ els, ∃ b : Bool, el = [.sc (.bool b)] := by
      intro el hel
      obtain ⟨i, hi⟩ := List.getElem?_of_mem hel
      have hlt : i < ds.length := by rw [← h1]; exact (List.getElem?_eq_some_iff.1 hi).1
      obtain ⟨h4, h5⟩ := h3 i el _ hi (List.getElem?_eq_getElem hlt)
      obtain ⟨x, _, rfl⟩ := adv he h5
      exact ⟨x, rfl⟩
    have all : ∀ els : List (List CV), (∀ el ∈ els, ∃ b : Bool, el = [.sc (.bool b)]) → ∃ l : List Bool, els = xd l := by
      intro els
      induction els with
      | nil => exact fun _ => ⟨[], rfl⟩
      | cons x r ih =>
        intro hk
        obtain ⟨b, rfl⟩ := hk x (by simp)
        obtain ⟨l, rfl⟩ := ih fun el hel => hk el (by simp [hel])
        exact ⟨b :: l, rfl⟩
    obtain ⟨l, rfl⟩ := all els key
    rw [mz] at h1 h2
    rw [hc]
    have hl := Hk ds
    exact ⟨l, _, rfl, .inr ⟨_, rfl⟩, h2, by simp only [Rows.uptoBulk]; omega⟩
theorem abp {H : Type} {P : Program} {t e : Nat} {d : DataW H} {u : VV} (hu : P.underlying t = some (.slice e)) (he : P.underlying e = some .bool) (hc : P.cellsOf e = 1) (h : DV P t d u) : ∃ l : List Bool, SlV 1 (xd l) u /\ l.length <= maxLen := by
 obtain ⟨c, h1, rfl⟩ := zb (by simp only [Mb, hu]) h
 obtain ⟨l, c', h2, h3, h4, _⟩ := Kn hu he hc h1
 cases h2
 exact ⟨l, h3, h4⟩
set_option maxRecDepth 100000 in
theorem afl {H : Type} {d : DataW H} {el : List CV} (h : DR Proofs.Try.prog 7 59 d el) (hlen : el.length = 4) (hb : Rows.uptoBulk d <= 2000000) : ∃ x, alq el x := by
 obtain ⟨ds, rfl, hd, hc, hf⟩ := Vy Proofs.Try.underlying59 h
 match ds, hd with
 | [d1, d2, d3, d4], _ =>
  match el, hlen with
  | [c1, c2, c3, c4], _ =>
   have f1 : DR Proofs.Try.prog 6 5 d1 (([c1, c2, c3, c4].drop 0).take (Proofs.Try.prog.cellsOf 5)) := hf 0 _ d1 rfl rfl
   have f2 : DR Proofs.Try.prog 6 22 d2 (([c1, c2, c3, c4].drop 1).take (Proofs.Try.prog.cellsOf 22)) := hf 1 _ d2 rfl rfl
   have f3 : DR Proofs.Try.prog 6 57 d3 (([c1, c2, c3, c4].drop 2).take (Proofs.Try.prog.cellsOf 57)) := hf 2 _ d3 rfl rfl
   have f4 : DR Proofs.Try.prog 6 5 d4 (([c1, c2, c3, c4].drop 3).take (Proofs.Try.prog.cellsOf 5)) := hf 3 _ d4 rfl rfl
   have k1 : Proofs.Try.prog.cellsOf 5 = 1 := by kernel_rfl
   have k2 : Proofs.Try.prog.cellsOf 22 = 1 := by kernel_rfl
   have k3 : Proofs.Try.prog.cellsOf 57 = 1 := by kernel_rfl
   rw [k1] at f1 f4
   rw [k2] at f2
   rw [k3] at f3
   obtain ⟨x1, _, e1, w1⟩ := Pi Proofs.Try.underlying5 f1
   obtain ⟨b, cB, e2, hB, hbl⟩ := Ua Proofs.Try.underlying22 Proofs.Try.underlying5 (by kernel_rfl) f2
   obtain ⟨k, cK, e3, hk, hkl, hkb⟩ := Kn Proofs.Try.underlying57 Proofs.Try.underlying4 (by kernel_rfl) f3
   obtain ⟨x4, _, e4, w4⟩ := Pi Proofs.Try.underlying5 f4
   obtain ⟨y1, rfl⟩ := ace w1
   obtain ⟨y4, rfl⟩ := ace w4
   simp only [Rows.uptoBulk, Rows.uptoBulkAll] at hb
   simp at e1 e2 e3 e4
   subst e1 e2 e3 e4
   exact ⟨⟨y1, b, k, y4⟩, _, _, rfl, hB, hk, by show b.length <= _; omega, by show k.length <= _; omega⟩
set_option maxRecDepth 100000 in
theorem Zi {H : Type} {d : DataW H} {u : VV} (h : DV Proofs.Try.prog 54 d u) (hb : Rows.uptoBulk d <= 2000000) : ∃ els l, SlV 4 els u /\ Dr els l /\ l.length <= 10000000 := by
 obtain ⟨c, h1, rfl⟩ := zb (by simp only [Mb, Proofs.Try.underlying54]) h
 have k2 : Proofs.Try.prog.cellsOf 59 = 4 := by kernel_rfl
 rcases Hf Proofs.Try.underlying54 h1 with ⟨rfl, e⟩ | ⟨ds, rest, els, rfl, e, h2, h3, h4⟩
 ·cases e
  exact ⟨[], [], .inl ⟨rfl, rfl⟩, ⟨rfl, fun i x h => by cases h⟩, by simp⟩
 ·cases e
  rw [k2] at h4 |-
  simp only [Rows.uptoBulk] at hb
  have key : ∀ (els : List (List CV)) (ds : List (DataW H)), els.length = ds.length -> (∀ (i : Nat) (el : List CV) (y : DataW H), els[i]? = some el -> ds[i]? = some y -> el.length = 4 /\ DR Proofs.Try.prog 7 59 y el) -> (∀ y ∈ ds, Rows.uptoBulk y <= 2000000) -> ∃ l, Dr els l := by
   intro els
   induction els with
   | nil => intro ds _ _ _; exact ⟨[], rfl, fun i x h => by cases h⟩
   | cons el r ih =>
    intro ds hl hh hbb
    match ds, hl with
    | y :: ys, hl =>
     obtain ⟨a1, a2⟩ := hh 0 el y rfl rfl
     obtain ⟨x, b1⟩ := afl a2 a1 (hbb y List.mem_cons_self)
     obtain ⟨l, c1, c2⟩ := ih ys (by simpa using hl) (fun i el y h1 h2 => hh (i + 1) el y (by simpa using h1) (by simpa using h2)) (fun z hz => hbb z (List.mem_cons_of_mem _ hz))
     refine ⟨x :: l, by simp [c1], fun i z hz => ?_⟩
     cases i with
     | zero => simp at hz; subst hz; exact ⟨el, rfl, b1⟩
     | succ i => simpa using c2 i z (by simpa using hz)
  obtain ⟨l, c1⟩ := key els ds h2 h4 (fun y hy => by have := Jr hy; omega)
  have hbl := Hk ds
  exact ⟨els, l, .inr ⟨false, rfl⟩, c1, by rw [<- c1.1, h2]; omega⟩
section
variable {H : Type} {d0 d1 d2 d3 : DataW H} {u0 u1 u2 u3 : VV}
theorem again_in (hb : Rows.uptoBulkAll [d0, d1, d2, d3] <= 1048576) (h0 : DV Proofs.Try.prog 5 d0 u0) (h1 : DV Proofs.Try.prog 54 d1 u1) (h2 : DV Proofs.Try.prog 22 d2 u2) (h3 : DV Proofs.Try.prog 57 d3 u3) : ∃ h', call F 8 [u0, u1, u2, u3] [] = some (.ret (vb true), h') := by
 obtain ⟨k, rfl⟩ := amt (by kernel_rfl) h0
 have hb1 : Rows.uptoBulk d1 <= Rows.uptoBulkAll [d0, d1, d2, d3] := Jr (by simp)
 obtain ⟨els, l, hS, hE, hl⟩ := Zi h1 (by omega)
 obtain ⟨b, hB, _⟩ := abs (e := 5) (by kernel_rfl) (by kernel_rfl) (by kernel_rfl) h2
 obtain ⟨kp, hk, _⟩ := abp (e := 4) (by kernel_rfl) (by kernel_rfl) (by kernel_rfl) h3
 exact Vn hS hE hl hB hk
end
end Go.V08
