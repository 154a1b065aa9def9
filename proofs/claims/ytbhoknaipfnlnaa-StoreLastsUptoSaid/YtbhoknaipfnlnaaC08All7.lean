/- Part of a proof: of what it says, and when, each theorem tells itself. -/
import Derived.Test.YtbhoknaipfnlnaaC08All6
import Derived.Test.YtbhoknaipfnlnaaRows
set_option linter.unusedSimpArgs false
set_option linter.unusedVariables false
namespace Go.V08
open Go Go.Vm
abbrev jn (n : Nat) : Nat := (bm n).1
abbrev an (n : Nat) : Nat := (bm n).2
def jr (n : Nat) (F : Sec) : Sec := (F.drop 2).take (jn n)
def ar (n : Nat) (F : Sec) (a m : Nat) : Sec := (F.drop (mf n a)).take m
def Hd (n : Nat) (F : Sec) (e a pg : Nat) : Prop := kd n (F.getD (e % 2) []) = some (e, a, pg) /\ ∀ x, kd n (F.getD (1 - e % 2) []) = some x -> x.1 < e
structure Dn (n : Nat) (F : Sec) : Prop where
 lo : 64 <= n
 hi : n <= 4096
 len : F.length = n
 f64 : ∀ b ∈ F, b.length = 64
structure Rc (n : Nat) (F : Sec) (e a : Nat) (rows : List KV) : Prop where
 dn : Dn n F
 a1 : a <= 1
 e1 : 1 <= e
 e2 : e <= 1073741824
 ex : ∃ base pgs L, Hd n F e a pgs.length /\ gf n base = some pgs /\ ar n F a (4 * pgs.length) = pcs 64 pgs.flatten /\ (tk e (jr n F)).1 = L.map uq /\ (∀ c ∈ L, FrOK c) /\ Sv L <= 60000 /\ rows = pi base L
 room : ∃ p, gf n rows = some p
 old : ∀ i b, i < jn n -> F[2 + i]? = some b -> ah3 e b
structure Vd (n : Nat) (F : Sec) (e a : Nat) (base : List KV) (L : List (List Ch)) (used : Nat) : Prop where
 dn : Dn n F
 a1 : a <= 1
 e1 : 1 <= e
 e2 : e <= 1073741824
 pgs : ∃ pgs, Hd n F e a pgs.length /\ gf n base = some pgs /\ ar n F a (4 * pgs.length) = pcs 64 pgs.flatten
 jl : (F.drop 2).take used = ct e 0 L
 ul : used = (ct e 0 L).length
 uj : used <= jn n
 bad : ∀ i b, used <= i -> i < jn n -> F[2 + i]? = some b -> Bad e b
 fr : ∀ c ∈ L, FrOK c
 room : ∃ p, gf n (pi base L) = some p
 old : ∀ i b, i < jn n -> F[2 + i]? = some b -> ah3 e b
theorem ru {n : Nat} (h : 64 <= n) : jn n = n / 4 /\ an n = (n - 2 - n / 4) / 8 := by
 unfold jn an bm; rw [if_neg (by omega)]; exact ⟨rfl, rfl⟩
theorem yd (n : Nat) : mf n 0 = 2 + jn n /\ mf n 1 = 2 + jn n + an n * 4 := by
 unfold mf; constructor <;> simp [jn, an]
theorem pj {F F' : Sec} {a m : Nat} (h : ∀ i, i < m -> F'[a + i]? = F[a + i]?) : (F'.drop a).take m = (F.drop a).take m := by
 apply List.ext_getElem?
 intro i
 by_cases hi : i < m
 ·rw [List.getElem?_take_of_lt hi, List.getElem?_take_of_lt hi, List.getElem?_drop, List.getElem?_drop, h i hi]
 ·rw [List.getElem?_eq_none (by rw [List.length_take]; omega), List.getElem?_eq_none (by rw [List.length_take]; omega)]
theorem Vo : ∀ (l : List (Nat × List UInt8)) (f : Sec), (∀ b ∈ f, b.length = 64) -> (∀ o ∈ l, o.2.length = 64) -> ∀ b ∈ oh f l, b.length = 64
 | [], _, h, _ => h
 | o :: l, f, h, hl => by
  show ∀ b ∈ oh (f.set o.1 o.2) l, b.length = 64
  refine Vo l _ (fun b hb => ?_) (fun x hx => hl x (List.mem_cons_of_mem _ hx))
  rcases List.mem_or_eq_of_mem_set hb with e | e
  ·exact h b e
  ·rw [e]; exact hl o List.mem_cons_self
theorem amv {L : List (List UInt8)} (hL : ∀ b ∈ L, b.length <= 64) {a : Nat} : ∀ o ∈ wl a L, o.2.length = 64 := by
 intro o ho
 obtain ⟨j, j1, _, j3⟩ := Aa _ _ _ ho
 obtain ⟨b, hb, e⟩ := Option.map_eq_some_iff.1 j3
 rw [<- e]
 exact Mw (hL b (List.mem_of_getElem? hb))
theorem Dn.sub {n : Nat} {F : Sec} (h : Dn n F) {L : List (List UInt8)} {a : Nat} (hL : ∀ b ∈ L, b.length <= 64) {l' : List (Nat × List UInt8)} (hs : l'.Sublist (wl a L)) : Dn n (oh F l') :=
 ⟨h.lo, h.hi, by rw [Pn]; exact h.len, Vo _ _ h.f64 fun o ho => amv hL o (hs.subset ho)⟩
theorem vo {F F' : Sec} {i : Nat} (h : F'[i]? = F[i]?) : F'.getD i [] = F.getD i [] := by
 rw [List.getD_eq_getElem?_getD, List.getD_eq_getElem?_getD, h]
theorem Rc.same {n : Nat} {F F' : Sec} {e a : Nat} {rows : List KV} (h : Rc n F e a rows) (hd : Dn n F') (hs : ∀ i, i < 2 + jn n \/ (mf n a <= i /\ i < mf n a + 4 * an n) -> F'[i]? = F[i]?) : Rc n F' e a rows := by
 obtain ⟨base, pgs, L, ⟨h1, h1'⟩, h2, h3, h4, h5, h6, h7⟩ := h.ex
 have hj : jr n F' = jr n F := pj fun i hi => hs _ (.inl (by omega))
 have hp : pgs.length <= an n := (ic h2).2
 refine ⟨hd, h.a1, h.e1, h.e2, ⟨base, pgs, L, ⟨?_, ?_⟩, h2, ?_, by rw [hj]; exact h4, h5, h6, h7⟩, h.room, fun i b hi hb => h.old i b hi (by rw [<- hb, hs _ (.inl (by omega))])⟩
 ·rw [vo (hs _ (.inl (by omega)))]; exact h1
 ·rw [vo (hs _ (.inl (by omega)))]; exact h1'
 ·rw [<- h3]
  exact pj fun i hi => hs _ (.inr ⟨by omega, by omega⟩)
theorem Vd.rc {n : Nat} {F : Sec} {e a : Nat} {base : List KV} {L : List (List Ch)} {used : Nat} (h : Vd n F e a base L used) : Rc n F e a (pi base L) := by
  obtain ⟨pgs, h1, h2, h3⟩ := h.pgs
  refine ⟨h.dn, h.a1, h.e1, h.e2, ⟨base, pgs, L, h1, h2, h3, ?_, h.fr, ?_, rfl⟩, h.room, h.old⟩
  · have e1 : jr n F = ct e 0 L ++ (F.drop (2 + used)).take (jn n - used) := by
      have hu := h.uj
      have : jn n = used + (jn n - used) := by omega
      unfold jr
      rw [this, List.take_add, h.jl, List.drop_drop, Nat.add_sub_cancel_left]
    rw [e1, Wj h.e2 h.fr (Mr fun b hb => ?_)]
    obtain ⟨i, hi⟩ := List.getElem?_of_mem hb
    have hlt : i < jn n - used := by
      have := (List.getElem?_eq_some_iff.1 hi).1
      rw [List.length_take] at this; omega
    rw [List.getElem?_take_of_lt hlt, List.getElem?_drop] at hi
    exact h.bad (used + i) b (by omega) (by omega) (by rw [← hi]; congr 1; omega)
  · have h4 := vg e L 0
    have h5 := h.uj
    have h6 := h.ul
    have := il h.dn.hi
    have : jn n ≤ 1024 := this.1
    omega
theorem Rc.area {n : Nat} {F : Sec} {e a : Nat} {rows : List KV} (h : Rc n F e a rows) {Ls : Sec} (hl : Ls.length <= 4 * an n) (h64 : ∀ b ∈ Ls, b.length <= 64) {l' : List (Nat × List UInt8)} (hs : l'.Sublist (wl (mf n (1 - a)) Ls)) : Rc n (oh F l') e a rows := by
 obtain ⟨b0, b1⟩ := yd n
 have ha := h.a1
 refine h.same (h.dn.sub h64 hs) fun i hi => Mz hs ?_
 rcases (show a = 0 \/ a = 1 by omega) with rfl | rfl
 ·simp only [Nat.sub_zero] at *
  omega
 ·simp only [Nat.sub_self] at *
  omega
theorem ac5 {n : Nat} {F : Sec} {a : Nat} {Ls : Sec} (ha : a <= 1) (hn : Dn n F) (hl : Ls.length <= 4 * an n) (h64 : ∀ b ∈ Ls, b.length = 64) : ar n (oh F (wl (mf n a) Ls)) a Ls.length = Ls := by
 obtain ⟨b0, b1⟩ := yd n
 obtain ⟨p1, p2⟩ := ru hn.lo
 have hlo := hn.lo
 have hb : mf n a + Ls.length <= n := by
  rcases (show a = 0 \/ a = 1 by omega) with rfl | rfl <;> omega
 apply List.ext_getElem?
 intro i
 unfold ar
 by_cases hi : i < Ls.length
 ·rw [List.getElem?_take_of_lt hi, List.getElem?_drop, Po Ls F _ i (by rw [hn.len]; exact hb) hi]
  obtain ⟨b, hb⟩ : ∃ b, Ls[i]? = some b := ⟨Ls[i], List.getElem?_eq_getElem hi⟩
  rw [hb, Option.map_some, Pg (h64 b (List.mem_of_getElem? hb))]
 ·rw [List.getElem?_eq_none (by rw [List.length_take]; omega), List.getElem?_eq_none (by omega)]
theorem Rc.head {n : Nat} {F : Sec} {e a : Nat} {rows : List KV} (h : Rc n F e a rows) (he : e < 1073741824) {pgs : Sec} (hr : gf n rows = some pgs) (hA : ar n F (1 - a) (4 * pgs.length) = pcs 64 pgs.flatten) :
  Vd n (F.set ((e + 1) % 2) (gm (e + 1) (1 - a) pgs.length)) (e + 1) (1 - a) rows [] 0 := by
 obtain ⟨b0, b1⟩ := yd n
 obtain ⟨p1, p2⟩ := ru h.dn.lo
 have ha := h.a1
 have hlo := h.dn.lo
 have hp : pgs.length <= an n := (ic hr).2
 have hpos : 1 <= pgs.length := by
  have := Ke (ic hr).1
  cases pgs with
  | nil =>
   have hb := yc (ic hr).1
   rw [show ([] : Sec).dropLast = [] from rfl, hb] at this
   exact absurd rfl this
  | cons _ _ => simp
 have bge : mf n (1 - a) >= 2 + jn n := by
  rcases (show a = 0 \/ a = 1 by omega) with rfl | rfl
  ·simp only [Nat.sub_zero]; omega
  ·simp only [Nat.sub_self]; omega
 have ne : ∀ i, 2 <= i -> (F.set ((e + 1) % 2) (gm (e + 1) (1 - a) pgs.length))[i]? = F[i]? := fun i hi => List.getElem?_set_ne (by omega)
 have hlen := h.dn.len
 refine ⟨⟨h.dn.lo, h.dn.hi, by rw [List.length_set]; exact h.dn.len, fun b hb => ?_⟩, by omega, by omega, by omega, ⟨pgs, ⟨?_, fun x hx => ?_⟩, hr, ?_⟩, by simp [ct], rfl, Nat.zero_le _, fun i b _ hi hb => ?_, fun c hc => (by cases hc), ⟨pgs, hr⟩, fun i b hi hb => ?_⟩
 ·rcases List.mem_or_eq_of_mem_set hb with e' | e'
  ·exact h.dn.f64 b e'
  ·rw [e']; exact re
 ·rw [List.getD_eq_getElem?_getD, List.getElem?_set_self (by omega)]
  exact Aj (by omega) (by omega) (by omega) hpos hp h.dn.hi
 ·obtain ⟨base, pgs0, L, ⟨h1, _⟩, _⟩ := h.ex
  have e2 : 1 - (e + 1) % 2 = e % 2 := by omega
  rw [e2, List.getD_eq_getElem?_getD, List.getElem?_set_ne (by omega), <- List.getD_eq_getElem?_getD, h1] at hx
  cases hx
  show e < e + 1
  omega
 ·rw [<- hA]
  exact pj fun i hi => ne _ (by omega)
 ·rw [ne _ (by omega)] at hb
  exact h.old i b hi hb (e + 1) (by omega) (by omega)
 ·rw [ne _ (by omega)] at hb
  exact fun e' h1 h2 => h.old i b hi hb e' (by omega) h2
theorem Vd.part {n : Nat} {F : Sec} {e a : Nat} {base : List KV} {L : List (List Ch)} {used : Nat} (h : Vd n F e a base L used) {c : List Ch} (hc : FrOK c) (hu : used + (aq e L.length c).length ≤ jn n) (hroom : ∃ p, gf n (dl (pi base L) c) = some p) {l' : List (Nat × List UInt8)} (hs : l'.Sublist (wl (2 + used) (aq e L.length c))) :
    (l' = wl (2 + used) (aq e L.length c) → Vd n (oh F l') e a base (L ++ [c]) (used + (aq e L.length c).length)) ∧ (Rc n (oh F l') e a (pi base L) ∨ l' = wl (2 + used) (aq e L.length c)) := by
  obtain ⟨b0, b1⟩ := yd n
  obtain ⟨p1, p2⟩ := ru h.dn.lo
  have ha := h.a1
  have hlo := h.dn.lo
  have hlen := h.dn.len
  have he : e < 4294967296 := by have := h.e2; omega
  have hold := fun b hb => yu (e := e) (j := L.length) (c := c) he b hb
  have h64 : ∀ b ∈ aq e L.length c, b.length ≤ 64 := fun b hb => by rw [(hold b hb).2]; exact Nat.le_refl _
  have hn2 : 2 + used + (aq e L.length c).length ≤ F.length := by omega
  have hout : ∀ i, i < 2 + used ∨ 2 + used + (aq e L.length c).length ≤ i → (oh F l')[i]? = F[i]? := fun i hi => Mz hs hi
  have hbeg : 2 + jn n ≤ mf n a := by rcases (show a = 0 ∨ a = 1 by omega) with rfl | rfl <;> omega
  obtain ⟨pgs, ⟨h1, h1'⟩, h2, h3⟩ := h.pgs
  have hhd : Hd n (oh F l') e a pgs.length := ⟨by rw [vo (hout _ (.inl (by omega)))]; exact h1, by rw [vo (hout _ (.inl (by omega)))]; exact h1'⟩
  have har : ar n (oh F l') a (4 * pgs.length) = pcs 64 pgs.flatten := by rw [← h3]; exact pj fun i hi => hout _ (.inr (by omega))
  have hjl : ((oh F l').drop 2).take used = ct e 0 L := by rw [← h.jl]; exact pj fun i hi => hout _ (.inl (by omega))
  have hget : ∀ i, i < (aq e L.length c).length → ∃ x, (aq e L.length c)[i]? = some x ∧ pad x = x ∧ x ∈ aq e L.length c := fun i hi => by
    obtain ⟨x, hx⟩ : ∃ x, (aq e L.length c)[i]? = some x := ⟨_, List.getElem?_eq_getElem hi⟩
    have hm := List.mem_of_getElem? hx
    exact ⟨x, hx, Pg (hold x hm).2, hm⟩
  have hold2 : ∀ i b, i < jn n → (oh F l')[2 + i]? = some b → ah3 e b := by
    intro i b hi hb
    by_cases hr : i < used ∨ used + (aq e L.length c).length ≤ i
    · rw [hout _ (by omega)] at hb
      exact h.old i b hi hb
    · obtain ⟨x, hx, hp, hm⟩ := hget (i - used) (by omega)
      have := Hk _ F (2 + used) (i - used) l' hs hn2 (by omega)
      rw [show 2 + used + (i - used) = 2 + i from by omega, hx, Option.map_some, hp, hb] at this
      rcases this with e1 | e1
      · exact h.old i b hi e1.symm
      · cases e1; exact (hold _ hm).1
  refine ⟨?_, ?_⟩
  · rintro rfl
    refine ⟨h.dn.sub h64 hs, h.a1, h.e1, h.e2, ⟨pgs, hhd, h2, har⟩, ?_, ?_, hu, ?_, ?_, ?_, hold2⟩
    · rw [ue, List.take_add, hjl, List.drop_drop, Nat.zero_add]
      congr 1
      apply List.ext_getElem?
      intro i
      by_cases hi : i < (aq e L.length c).length
      · rw [List.getElem?_take_of_lt hi, List.getElem?_drop]
        rw [Po _ F (2 + used) i hn2 hi]
        obtain ⟨x, hx, hp, _⟩ := hget i hi
        rw [hx, Option.map_some, hp]
      · rw [List.getElem?_eq_none (by rw [List.length_take]; omega), List.getElem?_eq_none (by omega)]
    · rw [ue, List.length_append, ← h.ul, Nat.zero_add]
    · intro i b hi1 hi2 hb
      rw [hout _ (by omega)] at hb
      exact h.bad i b (by omega) hi2 hb
    · intro x hx
      rcases List.mem_append.1 hx with hx | hx
      · exact h.fr x hx
      · rw [List.mem_singleton.1 hx]; exact hc
    · unfold pi at hroom ⊢
      rw [List.foldl_append]
      exact hroom
  · rcases Ve _ F (2 + used) l' hs hn2 with e0 | ⟨k, k1, k2⟩
    · exact .inr e0
    refine .inl ⟨h.dn.sub h64 hs, h.a1, h.e1, h.e2, ⟨base, pgs, L, hhd, h2, har, ?_, h.fr, ?_, rfl⟩, h.room, hold2⟩
    · have e1 : jr n (oh F l') = ct e 0 L ++ ((oh F l').drop (2 + used)).take (jn n - used) := by
        have : jn n = used + (jn n - used) := by omega
        unfold jr
        rw [this, List.take_add, hjl, List.drop_drop, Nat.add_sub_cancel_left]
      have hrest : ∀ i, i < jn n - used → (((oh F l').drop (2 + used)).take (jn n - used))[i]? = (oh F l')[2 + used + i]? := fun i hi => by rw [List.getElem?_take_of_lt hi, List.getElem?_drop]
      have hbadF : ∀ i, i < jn n - used → ∃ b, F[2 + used + i]? = some b ∧ Bad e b := fun i hi => by
        obtain ⟨b, hb⟩ : ∃ b, F[2 + used + i]? = some b := ⟨_, List.getElem?_eq_getElem (by omega)⟩
        exact ⟨b, hb, h.bad (used + i) b (by omega) (by omega) (by rw [← hb]; congr 1; omega)⟩
      rw [e1, Wj h.e2 h.fr (Sn (of_ := (pcs 49 (ii c)).length) (j := k) ?_ (by rw [← mn e L.length c]; exact k1) hc.p200 ?_)]
      · intro b hb
        have hpos := jv e L.length c
        rw [hrest 0 (by omega)] at hb
        rcases Hk _ F (2 + used) 0 l' hs hn2 (by omega) with e2 | e2
        · obtain ⟨b', hb', hB⟩ := hbadF 0 (by omega)
          rw [e2, hb'] at hb; cases hb
          exact .inl hB
        · obtain ⟨x, hx, hp, _⟩ := hget 0 (by omega)
          rw [e2, hx, Option.map_some, hp] at hb; cases hb
          exact .inr (Lr hc.p200 _ hx)
      · obtain ⟨b', hb', hB⟩ := hbadF k (by omega)
        exact ⟨b', by rw [hrest k (by omega), k2, hb'], hB⟩
    · have h4 := vg e L 0
      have h5 := h.uj
      have h6 := h.ul
      have : jn n ≤ 1024 := (il h.dn.hi).1
      omega
open Go Go.Vm
theorem Hj {α : Type} {l' l : List α} {k : Nat} (h : l'.Sublist (l.take k)) : l'.Sublist l := h.trans (List.take_sublist k l)
theorem agz {o : Nat × List UInt8} {l' : List (Nat × List UInt8)} (h : l'.Sublist [o]) : l' = [] \/ l' = [o] := by
 cases h with
 | cons _ h => exact .inl (List.sublist_nil.1 h)
 | cons_cons _ h => rw [List.sublist_nil.1 h]; exact .inr rfl
theorem Wf {n : Nat} {d : D} (hl : Live d) (hn : d.firm.length = n) {e a : Nat} {rows : List KV} (hR : Rc n d.firm e a rows) (he : e < 1073741824) {pgs : Sec} (hr : gf n rows = some pgs) :
  (∀ F, Out (yy d pgs (1 - a) (e + 1)) F -> ∃ e' a', e' <= e + 1 /\ Rc n F e' a' rows) /\
  ((yy d pgs (1 - a) (e + 1)).dark = false -> Live (yy d pgs (1 - a) (e + 1)) /\ Vd n (yy d pgs (1 - a) (e + 1)).firm (e + 1) (1 - a) rows [] 0) /\
  d.w < (yy d pgs (1 - a) (e + 1)).w /\ (d.fused = false -> (yy d pgs (1 - a) (e + 1)).fused = false) := by
 obtain ⟨b0, b1⟩ := yd n
 obtain ⟨p1, p2⟩ := ru hR.dn.lo
 have hlo := hR.dn.lo
 have ha := hR.a1
 have hp : pgs.length <= an n := (ic hr).2
 have hsl := pd hr
 have h256 := mw (ic hr).1
 have hfl := so (k := 256) pgs h256
 obtain ⟨_, h64, _⟩ := xt (k := 64) (by omega) (4 * pgs.length) pgs.flatten (by rw [hfl]; omega)
 rw [Nd, hn]
 generalize hLs : pcs 64 pgs.flatten = Ls at hsl h64
 have h64' : ∀ b ∈ Ls, b.length <= 64 := fun b hb => by rw [h64 b hb]; exact Nat.le_refl _
 have hin : mf n (1 - a) + Ls.length <= d.firm.length := by
  rcases (show a = 0 \/ a = 1 by omega) with rfl | rfl
  ·simp only [Nat.sub_zero]; omega
  ·simp only [Nat.sub_self]; omega
 have hne : Ls ≠ [] := by
  intro e0
  have hb := Ke (ic hr).1
  have : pgs.length = 0 := by rw [e0] at hsl; simp at hsl; omega
  have : pgs = [] := List.eq_nil_of_length_eq_zero this
  rw [this] at hb
  rw [show ([] : Sec).dropLast = [] from rfl] at hb
  have h2 := yc (ic hr).1
  rw [this] at h2
  rw [h2] at hb; exact absurd rfl hb
 obtain ⟨hP, hw, hfu⟩ := amo hl hin h64'
 have hw := hw hne
 have hRa : ∀ l', l'.Sublist (wl (mf n (1 - a)) Ls) -> Rc n (oh d.firm l') e a rows := fun l' hs => hR.area (by omega) h64' hs
 have hn1 : (ph d (mf n (1 - a)) Ls).firm.length = n := by rw [ah1, hn]
 generalize hd1 : ph d (mf n (1 - a)) Ls = d1 at hw hfu hn1
 have dk : d1.dark = true -> ph d1 ((e + 1) % 2) [gm (e + 1) (1 - a) pgs.length] = d1 := fun h => Ge h _ _
 have hO1 : ∀ F, Out d1 F -> Rc n F e a rows := by
  rintro F ⟨l', s1, rfl⟩
  cases hP with
  | done h1 h2 =>
   rw [hd1] at h1 h2
   rw [h1] at s1
   rw [List.sublist_nil.1 s1]
   show Rc n d1.firm e a rows
   rw [h2]
   exact hRa _ (.refl _)
  | cut h1 h2 k h3 =>
   rw [hd1] at h1 h2 h3
   rw [h3] at s1
   rw [h2]
   exact hRa _ (Hj s1)
 cases hdk : d1.dark with
 | true =>
  rw [dk hdk]
  refine ⟨fun F hF => ⟨e, a, Nat.le_succ e, hO1 F hF⟩, ?_, hw, hfu⟩
  intro h
  cases hdk.symm.trans h
 | false =>
  cases hP with
  | cut h1 _ _ _ => rw [hd1, hdk] at h1; cases h1
  | done h1 h2 =>
   rw [hd1] at h1 h2
   have hl1 : Live d1 := ⟨h1, hdk⟩
   have hR1 : Rc n d1.firm e a rows := by rw [h2]; exact hRa _ (.refl _)
   have hA : ar n d1.firm (1 - a) (4 * pgs.length) = Ls := by
    have hx := ac5 (a := 1 - a) (F := d.firm) (Ls := Ls) (by omega) hR.dn (by omega) h64
    rw [hsl] at hx
    rw [h2]
    exact hx
   have hV := hR1.head he hr (by rw [hA, hLs])
   have hpd : pad (gm (e + 1) (1 - a) pgs.length) = gm (e + 1) (1 - a) pgs.length := Pg re
   obtain ⟨hP2, hw2, hfu2⟩ := amo hl1 (a := (e + 1) % 2) (L := [gm (e + 1) (1 - a) pgs.length]) (by rw [hn1]; simp only [List.length_singleton]; omega) (fun b hb => by rw [List.mem_singleton.1 hb, re]; exact Nat.le_refl _)
   have hw2 := hw2 (by simp)
   have hset : oh d1.firm (wl ((e + 1) % 2) [gm (e + 1) (1 - a) pgs.length]) = d1.firm.set ((e + 1) % 2) (gm (e + 1) (1 - a) pgs.length) := by
    show d1.firm.set ((e + 1) % 2) (pad _) = _
    rw [hpd]
   rw [<- hset] at hV
   have hw3 := Nat.lt_trans hw hw2
   have hRV := hV.rc
   have hRV : Rc n (oh d1.firm (wl ((e + 1) % 2) [gm (e + 1) (1 - a) pgs.length])) (e + 1) (1 - a) rows := hRV
   refine ⟨fun F hF => ?_, fun hd2 => ?_, hw3, fun h => hfu2 (hfu h)⟩
   ·obtain ⟨l', s1, rfl⟩ := hF
    cases hP2 with
    | done g1 g2 =>
     rw [g1] at s1
     rw [List.sublist_nil.1 s1]
     refine ⟨e + 1, 1 - a, Nat.le_refl _, ?_⟩
     show Rc n (ph d1 ((e + 1) % 2) [gm (e + 1) (1 - a) pgs.length]).firm (e + 1) (1 - a) rows
     rw [g2]; exact hRV
    | cut g1 g2 k g3 =>
     rw [g3] at s1
     rw [g2]
     rcases agz (Hj s1) with rfl | rfl
     ·exact ⟨e, a, by omega, hR1⟩
     ·exact ⟨e + 1, 1 - a, Nat.le_refl _, hRV⟩
   ·cases hP2 with
    | cut g1 _ _ _ => rw [hd2] at g1; cases g1
    | done g1 g2 => exact ⟨⟨g1, hd2⟩, by rw [g2]; exact hV⟩
structure Mem (n : Nat) (z : S) : Prop where
 dn : z.d.firm.length = n
 lo : 64 <= n
 hi : n <= 4096
 a1 : z.a <= 1
 room : ∃ p, gf n z.rows = some p
 used : z.used <= jn n
 fr : z.fr <= z.used
structure Run (n : Nat) (z : S) : Prop where
 live : Live z.d
 v : ∃ base L, Vd n z.d.firm z.e z.a base L z.used /\ z.rows = pi base L /\ z.fr = L.length
theorem al6 {n : Nat} {z : S} (hM : Mem n z) (hR : Run n z) (he : z.e < 1073741824) {pg : Sec} (hr : gf n z.rows = some pg) :
  Mem n (ckF z pg) /\ (∀ F, Out (ckF z pg).d F -> ∃ e' a', e' <= (ckF z pg).e /\ Rc n F e' a' z.rows) /\ ((ckF z pg).d.dark = false -> Run n (ckF z pg)) /\ z.d.w < (ckF z pg).d.w /\ (z.d.fused = false -> (ckF z pg).d.fused = false) := by
 obtain ⟨base, L, hV, hrw, _⟩ := hR.v
 have hRc := hV.rc
 rw [<- hrw] at hRc
 obtain ⟨h1, h2, h3, h4⟩ := Wf hR.live hM.dn hRc he hr
 refine ⟨⟨by show (yy z.d pg (1 - z.a) (z.e + 1)).firm.length = n; rw [Xv, hM.dn], hM.lo, hM.hi, by show 1 - z.a <= 1; omega, ⟨pg, hr⟩, Nat.zero_le _, Nat.le_refl _⟩, h1, fun hd => ?_, h3, h4⟩
 obtain ⟨g1, g2⟩ := h2 hd
 exact ⟨g1, z.rows, [], g2, rfl, rfl⟩
theorem Yh {n : Nat} {z : S} (hM : Mem n z) (hR : Run n z) {c : List Ch} (hc : FrOK c) (hu : z.used + (aq z.e z.fr c).length <= jn n) (hroom : ∃ p, gf n (dl z.rows c) = some p) :
  Mem n (ur z c (aq z.e z.fr c)) /\ (∀ F, Out (ur z c (aq z.e z.fr c)).d F -> ∃ e' a', e' <= z.e /\ (Rc n F e' a' z.rows \/ Rc n F e' a' (dl z.rows c))) /\
  ((ur z c (aq z.e z.fr c)).d.dark = false -> Run n (ur z c (aq z.e z.fr c))) /\ z.d.w < (ur z c (aq z.e z.fr c)).d.w /\ (z.d.fused = false -> (ur z c (aq z.e z.fr c)).d.fused = false) := by
 obtain ⟨base, L, hV, hrw, hfr⟩ := hR.v
 have hfs := jv z.e z.fr c
 have hfr1 := hM.fr
 have hlo := hM.lo
 obtain ⟨p1, p2⟩ := ru hlo
 have he : z.e < 4294967296 := by have := hV.e2; omega
 have h64 : ∀ b ∈ aq z.e z.fr c, b.length <= 64 := fun b hb => by rw [(yu he b hb).2]; exact Nat.le_refl _
 have hd : (ur z c (aq z.e z.fr c)).d = ph z.d (2 + z.used) (aq z.e z.fr c) := rfl
 obtain ⟨hP, hw, hfu⟩ := amo hR.live (a := 2 + z.used) (L := aq z.e z.fr c) (by rw [hM.dn]; omega) h64
 have hw := hw (by intro e0; rw [e0] at hfs; simp at hfs)
 have hpart := fun l' hs => hV.part hc (by rw [<- hfr]; exact hu) (by rw [<- hrw]; exact hroom) (l' := l') hs
 rw [<- hfr, <- hrw] at hpart
 have hVn : Vd n (oh z.d.firm (wl (2 + z.used) (aq z.e z.fr c))) z.e z.a base (L ++ [c]) (z.used + (aq z.e z.fr c).length) := (hpart _ (.refl _)).1 rfl
 have hfold : pi base (L ++ [c]) = dl z.rows c := by rw [hrw]; unfold pi; rw [List.foldl_append]; rfl
 have hRn := hVn.rc
 rw [hfold] at hRn
 refine ⟨⟨by rw [hd, ah1, hM.dn], hM.lo, hM.hi, hM.a1, hroom, hu, by show z.fr + 1 <= z.used + (aq z.e z.fr c).length; omega⟩, fun F hF => ?_, fun hdk => ?_, by rw [hd]; exact hw, fun h => by rw [hd]; exact hfu h⟩
 ·rw [hd] at hF
  obtain ⟨l', s1, rfl⟩ := hF
  cases hP with
  | done g1 g2 =>
   rw [g1] at s1
   rw [List.sublist_nil.1 s1]
   refine ⟨z.e, z.a, Nat.le_refl _, .inr ?_⟩
   show Rc n (ph z.d (2 + z.used) (aq z.e z.fr c)).firm _ _ _
   rw [g2]; exact hRn
  | cut g1 g2 k g3 =>
   rw [g3] at s1
   rw [g2]
   rcases (hpart l' (Hj s1)).2 with h | h
   ·exact ⟨z.e, z.a, Nat.le_refl _, .inl h⟩
   ·rw [h]; exact ⟨z.e, z.a, Nat.le_refl _, .inr hRn⟩
 ·rw [hd] at hdk
  cases hP with
  | cut g1 _ _ _ => rw [hdk] at g1; cases g1
  | done g1 g2 =>
   refine ⟨⟨g1, hdk⟩, base, L ++ [c], ?_, hfold.symm, by show z.fr + 1 = _; rw [hfr]; simp⟩
   show Vd n (ph z.d (2 + z.used) (aq z.e z.fr c)).firm z.e z.a base (L ++ [c]) (z.used + (aq z.e z.fr c).length)
   rw [g2]; exact hVn
open Go Go.Vm
theorem Ki {d : D} (h : d.dark = true) (pg : Sec) (a e : Nat) : yy d pg a e = d := by rw [Nd, Ge h, Ge h]
theorem Ba {z : S} (h : z.d.dark = true) (c : List Ch) (ps : Sec) : (ur z c ps).d = z.d := Ge h _ _
theorem Ov {z : S} (h : z.d.dark = true) (pg : Sec) : (ckF z pg).d = z.d := Ki h _ _ _
theorem ag0 {c : List Ch} (hl : c.any lng = false) (hg : ∀ p ∈ c, p.2.2 = true -> p.2.1 = []) (hn : c.length <= 5000) (hp : (pcs 49 (ii c)).length <= 200) : FrOK c := by
 refine ⟨fun p hp => ?_, hn, hp⟩
 have := List.any_eq_false.1 hl p hp
 unfold lng at this
 simp only [Bool.or_eq_true, decide_eq_true_eq, not_or] at this
 exact ⟨by omega, by omega, hg p hp⟩
structure ComP (n : Nat) (z : S) (c : List Ch) (r : S × Nat) : Prop where
 k : r.2 = 0 \/ r.2 = 3 \/ r.2 = 21
 mem : Mem n r.1
 e : r.1.e <= z.e + 1
 not : r.2 ≠ 0 \/ c = [] -> r.1 = z
 yes : r.2 = 0 -> r.1.rows = dl z.rows c
 dark : z.d.dark = true -> r.1.d = z.d
 run : Run n z -> r.2 = 0 -> c ≠ [] -> z.d.w < r.1.d.w /\ (∀ F, Out r.1.d F -> ∃ e' a', e' <= r.1.e /\ (Rc n F e' a' z.rows \/ Rc n F e' a' r.1.rows)) /\ (r.1.d.dark = false -> Run n r.1) /\ (z.d.fused = false -> r.1.d.fused = false)
theorem Es {n : Nat} {z : S} {c : List Ch} (hM : Mem n z) {k : Nat} (hk : k = 3 \/ k = 21) : ComP n z c (z, k) :=
 have h0 : k ≠ 0 := by omega
 ⟨.inr hk, hM, Nat.le_succ _, fun _ => rfl, fun h => absurd h h0, fun _ => rfl, fun _ h => absurd h h0⟩
theorem xh {n : Nat} {z : S} {c : List Ch} (hM : Mem n z) (he : z.e < 1073741823) (hc : c.length <= 5000) (hg : ∀ p ∈ c, p.2.2 = true -> p.2.1 = []) : ComP n z c (br z c) := by
 by_cases hn : c = []
 ·subst hn
  have : br z [] = (z, 0) := by unfold br; rw [if_pos rfl]
  rw [this]
  exact ⟨.inl rfl, hM, Nat.le_succ _, fun _ => rfl, fun _ => rfl, fun _ => rfl, fun _ _ h => absurd rfl h⟩
 cases hl : c.any lng with
 | true =>
  have : br z c = (z, 3) := by unfold br; rw [if_neg hn, if_pos hl]
  rw [this]
  exact Es hM (.inl rfl)
 | false =>
  unfold br
  rw [if_neg hn, if_neg (by rw [hl]; decide)]
  have hdn := hM.dn
  obtain ⟨pg0, hr0⟩ := hM.room
  rw [hdn]
  cases hrm : gf n (dl z.rows c) with
  | none => exact Es hM (.inr rfl)
  | some pgA =>
   cases hpf : ey z.e z.fr c with
   | none => exact Es hM (.inr rfl)
   | some ps =>
    obtain ⟨hps, h200⟩ := pv hpf
    have hF := ag0 hl hg hc h200
    dsimp only
    by_cases c2 : (bm n).1 < ps.length
    ·rw [if_pos c2]; exact Es hM (.inr rfl)
    ·rw [if_neg c2]
     by_cases c3 : (bm n).1 < z.used + ps.length
     ·rw [if_pos c3, hr0]
      obtain ⟨ps', hp2, hpl⟩ := yh hpf (e' := z.e + 1) (by omega)
      obtain ⟨hps', _⟩ := pv (n := 0) hp2
      rw [hp2]
      have hu' : (ckF z pg0).used + (aq (ckF z pg0).e (ckF z pg0).fr c).length <= jn n := by
       show 0 + (aq (z.e + 1) 0 c).length <= jn n
       rw [<- hps', hpl]
       have : ¬ jn n < ps.length := c2
       omega
      have hMk : Mem n (ckF z pg0) := ⟨by show (yy z.d pg0 (1 - z.a) (z.e + 1)).firm.length = n; rw [Xv, hM.dn], hM.lo, hM.hi, by show 1 - z.a <= 1; omega, ⟨pg0, hr0⟩, Nat.zero_le _, Nat.le_refl _⟩
      rw [hps']
      have hfs := jv (z.e + 1) 0 c
      have hMa : Mem n (ur (ckF z pg0) c (aq (z.e + 1) 0 c)) := ⟨by show (ph (ckF z pg0).d _ _).firm.length = n; rw [ah1, hMk.dn], hM.lo, hM.hi, hMk.a1, ⟨pgA, hrm⟩, hu', by show 0 + 1 <= 0 + (aq (z.e + 1) 0 c).length; omega⟩
      refine ⟨.inl rfl, hMa, Nat.le_refl _, fun h => ?_, fun _ => rfl, fun h => ?_, fun hR _ _ => ?_⟩
      ·rcases h with h | h
       ·exact absurd rfl h
       ·exact absurd h hn
      ·show (ur (ckF z pg0) c (aq (z.e + 1) 0 c)).d = z.d
       rw [Ba (by rw [Ov h]; exact h), Ov h]
      ·obtain ⟨k1, k2, k3, k4, k5⟩ := al6 hM hR (by omega) hr0
       cases hdk : (ckF z pg0).d.dark with
       | true =>
        have hsame : (ur (ckF z pg0) c (aq (z.e + 1) 0 c)).d = (ckF z pg0).d := Ba hdk _ _
        dsimp only
        rw [hsame]
        refine ⟨k4, fun F hF => ?_, fun h => ?_, k5⟩
        ·obtain ⟨e', a', q1, q2⟩ := k2 F hF
         exact ⟨e', a', q1, .inl q2⟩
        ·cases hdk.symm.trans h
       | false =>
        obtain ⟨m1, m2, m3, m4, m5⟩ := Yh k1 (k3 hdk) hF hu' ⟨pgA, hrm⟩
        exact ⟨Nat.lt_trans k4 m4, m2, m3, fun h => m5 (k5 h)⟩
     ·rw [if_neg c3, hps]
      have hu' : z.used + (aq z.e z.fr c).length <= jn n := by
       rw [<- hps]
       have : ¬ jn n < z.used + ps.length := c3
       omega
      have hfs := jv z.e z.fr c
      have hfr := hM.fr
      have hMa : Mem n (ur z c (aq z.e z.fr c)) := ⟨by show (ph z.d _ _).firm.length = n; rw [ah1, hM.dn], hM.lo, hM.hi, hM.a1, ⟨pgA, hrm⟩, hu', by show z.fr + 1 <= z.used + (aq z.e z.fr c).length; omega⟩
      refine ⟨.inl rfl, hMa, Nat.le_succ _, fun h => ?_, fun _ => rfl, fun h => Ba h _ _, fun hR _ _ => ?_⟩
      ·rcases h with h | h
       ·exact absurd rfl h
       ·exact absurd h hn
      ·obtain ⟨m1, m2, m3, m4, m5⟩ := Yh hM hR hF hu' ⟨pgA, hrm⟩
       exact ⟨m4, m2, m3, m5⟩
open Go Go.Vm
theorem qm {d : D} (h : d.loose = []) (i : Nat) : d.cell i = d.firm.getD i [] := by unfold D.cell; rw [h]; rfl
theorem Pc {d : D} (h : d.loose = []) {a m : Nat} (hm : a + m <= d.firm.length) : Ck d a m = (d.firm.drop a).take m := by
 apply List.ext_getElem?
 intro i
 unfold Ck
 by_cases hi : i < m
 ·rw [List.getElem?_map, List.getElem?_range hi, Option.map_some, qm h, List.getElem?_take_of_lt hi, List.getElem?_drop, List.getD_eq_getElem?_getD]
  obtain ⟨b, hb⟩ : ∃ b, d.firm[a + i]? = some b := ⟨_, List.getElem?_eq_getElem (by omega)⟩
  rw [hb]; rfl
 ·rw [List.getElem?_eq_none (by simp; omega), List.getElem?_eq_none (by rw [List.length_take]; omega)]
theorem Zj {d : D} (h : d.loose = []) {e a pg : Nat} (hd : Hd d.firm.length d.firm e a pg) : qi d = some (e, a, pg) := by
 obtain ⟨h1, h2⟩ := hd
 rcases (show e % 2 = 0 \/ e % 2 = 1 by omega) with he | he
 ·rw [he] at h1 h2
  have h2 : ∀ x, kd d.firm.length (d.firm.getD 1 []) = some x -> x.1 < e := h2
  refine td (x := some (e, a, pg)) (y := kd d.firm.length (d.firm.getD 1 [])) (by rw [qm h]; exact h1) (by rw [qm h]) ?_
  cases hy : kd d.firm.length (d.firm.getD 1 []) with
  | none => rfl
  | some y =>
   have := h2 y hy
   show (if e < y.1 then some y else some (e, a, pg)) = _
   rw [if_neg (by omega)]
 ·rw [he] at h1 h2
  have h2 : ∀ x, kd d.firm.length (d.firm.getD 0 []) = some x -> x.1 < e := h2
  refine td (x := kd d.firm.length (d.firm.getD 0 [])) (y := some (e, a, pg)) (by rw [qm h]) (by rw [qm h]; exact h1) ?_
  cases hx : kd d.firm.length (d.firm.getD 0 []) with
  | none => rfl
  | some x =>
   have := h2 x hx
   show (if x.1 < e then some (e, a, pg) else some x) = _
   rw [if_pos this]
theorem Ib {d : D} {k : Nat} (h : d.Lim k) (b : List Bool) : (d.crash b).Lim k := by
 have h3 := h.l
 exact ⟨Zd h.ok b, h.w, h.f, by show 0 + k < _; omega⟩
theorem ab1 {d : D} {k : Nat} (h : d.Lim k) (m : Int) : (d.fuse m).Lim k := by
 have : (d.fuse m).w = d.w /\ (d.fuse m).f = d.f /\ (d.fuse m).loose = d.loose := by unfold D.fuse; split <;> exact ⟨rfl, rfl, rfl⟩
 exact ⟨ag4 h.ok m, by rw [this.1]; exact h.w, by rw [this.2.1]; exact h.f, by rw [this.2.2]; exact h.l⟩
theorem Tq (d : D) (m : Int) : (d.fuse m).firm = d.firm /\ (d.fuse m).loose = d.loose := by unfold D.fuse; split <;> exact ⟨rfl, rfl⟩
structure OpenP (n : Nat) (e : Nat) (rows : List KV) (d : D) (k : Nat) (z : S) : Prop where
 rw_ : z.rows = rows
 ep : z.e = e + 1
 us : z.used = 0
 fr : z.fr = 0
 mem : Mem n z
 out : ∀ F, Out z.d F -> ∃ e' a', e' <= e + 1 /\ Rc n F e' a' rows
 run : z.d.dark = false -> Run n z
 nf : d.fused = false -> z.d.fused = false
 lim : z.d.Lim k
theorem Hh {h : ah} {p : Nat} {f l : Option Nat} {d : D} (hD : dw h p f l d) (hl : d.loose = []) {n e a : Nat} {rows : List KV} (hR : Rc n d.firm e a rows) (he : e < 1073741824) {k : Nat} (hL : d.Lim (k + 3000)) :
  Ret F 13 [.ptr p 0] h fun v g => ∃ q l' z, v = .tup [.ptr q 0, vi .u16 0] /\ h.length <= q /\ Moved h g p f l l' z.d /\ StoreAt g q p f l' z /\ OpenP n e rows d k z := by
 have hn : d.firm.length = n := hR.dn.len
 obtain ⟨base, pgs, L, h1, h2, h3, h4, h5, h6, h7⟩ := hR.ex
 obtain ⟨pgR, hr⟩ := hR.room
 obtain ⟨p1, p2⟩ := ru hR.dn.lo
 have hp : pgs.length <= an n := (ic h2).2
 have hpR : pgR.length <= an n := (ic hr).2
 have hlo := hR.dn.lo
 have hhi := hR.dn.hi
 have hbld := (ic h2).1
 have h256 := mw hbld
 have hfl := so (k := 256) pgs h256
 obtain ⟨hs1, _, hs3⟩ := xt (k := 64) (by omega) (4 * pgs.length) pgs.flatten (by rw [hfl]; omega)
 obtain ⟨hin, hin2⟩ := Nm hlo hR.a1 hp
 have hf : qi d = some (e, a, pgs.length) := Zj hl (by rw [hn]; exact h1)
 have hlaid : Wr d a pgs.length = (base, 0) := by
  unfold Wr
  rw [hn, Pc hl (by rw [hn]; exact hin)]
  have : (d.firm.drop (mf n a)).take (pgs.length * 4) = pcs 64 pgs.flatten := by rw [Nat.mul_comm]; exact h3
  rw [this, hs3, adx (by omega) pgs h256]
  exact yc hbld
 have hjr : Ck d 2 (bm d.firm.length).1 = jr n d.firm := by
  rw [hn, Pc hl (by rw [hn]; show 2 + jn n <= n; omega)]; rfl
 have hFr : FrL (tk e (Ck d 2 (bm d.firm.length).1)).1 L := by
  rw [hjr, h4]; exact alg h5
 have hb5 : base.length <= 5000 := by
  unfold ed at hbld
  split at hbld
  ·rename_i c; exact c.2
  ·cases hbld
 have hr' : gf d.firm.length (pi base L) = some pgR := by rw [hn, <- h7]; exact hr
 obtain ⟨v, g, n1, q, l', rfl, hq, M, St⟩ := aee hD (by omega) hf hlaid hFr (by omega) hr' he (hL.le (by omega))
 have hlay : (∀ F, Out (yy d pgR (1 - a) (e + 1)) F -> ∃ e' a', e' <= e + 1 /\ Rc n F e' a' rows) /\
  ((yy d pgR (1 - a) (e + 1)).dark = false -> Live (yy d pgR (1 - a) (e + 1)) /\ Vd n (yy d pgR (1 - a) (e + 1)).firm (e + 1) (1 - a) rows [] 0) /\ (d.fused = false -> (yy d pgR (1 - a) (e + 1)).fused = false) := by
  cases hdk : d.dark with
  | false =>
   obtain ⟨o1, o2, o3, o4⟩ := Wf ⟨hl, hdk⟩ hn hR he hr
   exact ⟨o1, o2, o4⟩
  | true =>
   rw [Ki hdk]
   refine ⟨fun F hF => ⟨e, a, Nat.le_succ e, ?_⟩, fun h => ?_, fun h => h⟩
   ·rw [Gt hl hF]; exact hR
   ·cases hdk.symm.trans h
 obtain ⟨o1, o2, o4⟩ := hlay
 have hz : (ckF ⟨d, pi base L, e, a, pgs.length, 0, 0⟩ pgR).d = yy d pgR (1 - a) (e + 1) := rfl
 refine ⟨_, g, n1, q, l', _, rfl, hq, M, St, h7.symm, rfl, rfl, rfl, ⟨?_, hlo, hhi, ?_, ⟨pgR, by show gf n (pi base L) = _; rw [<- h7]; exact hr⟩, Nat.zero_le _, Nat.le_refl _⟩, ?_, fun hd => ?_, ?_, ?_⟩
 ·rw [hz, Xv, hn]
 ·show 1 - a <= 1; omega
 ·rw [hz]; exact o1
 ·rw [hz] at hd
  obtain ⟨g1, g2⟩ := o2 hd
  exact ⟨g1, rows, [], g2, h7.symm, rfl⟩
 ·rw [hz]; exact o4
 ·rw [hz]
  exact zj (by rw [pd hr]; exact hL.le (by have := (il hhi).2; have : an n <= 512 := this; omega))
open Go Go.Vm
theorem wa {d : D} (h : d.fused = false) : d.dark = false := by unfold D.dark; rw [h]; rfl
theorem Tv {d : D} (h : d.fused = false) (hl : d.loose = []) {a : Nat} {L : List (List UInt8)} (hn : a + L.length <= d.firm.length) (hb : ∀ b ∈ L, b.length <= 64) :
  (ph d a L).loose = [] /\ (ph d a L).firm = oh d.firm (wl a L) /\ (ph d a L).fused = false := by
 obtain ⟨hP, _, hf⟩ := amo ⟨hl, wa h⟩ hn hb
 have hf := hf h
 cases hP with
 | done h1 h2 => exact ⟨h1, h2, hf⟩
 | cut h1 _ _ _ => rw [wa hf] at h1; cases h1
theorem Xq {d : D} (hO : d.OK) (hf : d.fused = false) (hl : d.loose = []) (hlo : 64 <= d.firm.length) : (rn d).fused = false /\ Live (rn d) /\ Vd d.firm.length (rn d).firm 1 0 [] [] 0 := by
 obtain ⟨n, hn⟩ : ∃ n, d.firm.length = n := ⟨_, rfl⟩
 have hhi : n <= 4096 := by rw [<- hn]; exact hO.n
 rw [hn] at hlo |-
 obtain ⟨p1, p2⟩ := ru hlo
 obtain ⟨b0, b1⟩ := yd n
 have hD0 : Dn n d.firm := ⟨hlo, hhi, hn, hO.f64⟩
 have hrep : ∀ b ∈ List.replicate (2 + jn n) ([] : List UInt8), b.length <= 64 := fun b hb => by rw [List.eq_of_mem_replicate hb]; simp
 obtain ⟨f1, f2, f3⟩ := Tv hf hl (a := 0) (L := List.replicate (2 + jn n) []) (by rw [List.length_replicate]; omega) hrep
 have hpb : ed [] = some [gc 0 []] := zm
 have h256 := mw hpb
 have hfl := so (k := 256) [gc 0 []] h256
 obtain ⟨hs1, hs2, _⟩ := xt (k := 64) (by omega) 4 ([gc 0 []] : Sec).flatten (by rw [hfl]; rfl)
 have hs2' : ∀ b ∈ pcs 64 ([gc 0 []] : Sec).flatten, b.length <= 64 := fun b hb => by rw [hs2 b hb]; exact Nat.le_refl _
 have hd : rn d = yy (ph d 0 (List.replicate (2 + jn n) [])) [gc 0 []] 0 1 := by unfold rn; rw [hn]; rfl
 have hn1 : (ph d 0 (List.replicate (2 + jn n) [])).firm.length = n := by rw [ah1, hn]
 rw [hd, Nd, hn1]
 have hD1 : Dn n (ph d 0 (List.replicate (2 + jn n) [])).firm := by rw [f2]; exact hD0.sub hrep (.refl _)
 have hz : ∀ i, i < 2 + jn n -> (ph d 0 (List.replicate (2 + jn n) [])).firm[i]? = some z64 := fun i hi => by
  have := Po (List.replicate (2 + jn n) []) d.firm 0 i (by rw [List.length_replicate]; omega) (by rw [List.length_replicate]; exact hi)
  rw [Nat.zero_add] at this
  rw [f2, this, List.getElem?_replicate, if_pos hi]
  rfl
 generalize ph d 0 (List.replicate (2 + jn n) []) = d1 at f1 f3 hn1 hD1 hz
 have han : 4 * 1 <= 4 * an n := by omega
 obtain ⟨g1, g2, g3⟩ := Tv f3 f1 (a := mf n 0) (L := pcs 64 ([gc 0 []] : Sec).flatten) (by rw [hs1, hn1]; omega) hs2'
 have hA := ac5 (a := 0) (F := d1.firm) (by omega) hD1 (by rw [hs1]; omega) hs2
 rw [hs1] at hA
 have hn2 : (ph d1 (mf n 0) (pcs 64 ([gc 0 []] : Sec).flatten)).firm.length = n := by rw [ah1, hn1]
 have hz2 : ∀ i, i < 2 + jn n -> (ph d1 (mf n 0) (pcs 64 ([gc 0 []] : Sec).flatten)).firm[i]? = some z64 := fun i hi => by
  rw [g2, Mz (.refl _) (.inl (by omega)), hz i hi]
 have hD2 : Dn n (ph d1 (mf n 0) (pcs 64 ([gc 0 []] : Sec).flatten)).firm := by rw [g2]; exact hD1.sub hs2' (.refl _)
 rw [<- g2] at hA
 generalize ph d1 (mf n 0) (pcs 64 ([gc 0 []] : Sec).flatten) = d2 at g1 g3 hn2 hz2 hD2 hA
 have hpl : ([gc 0 []] : Sec).length = 1 := rfl
 rw [hpl]
 have hh64 : ∀ b ∈ [gm 1 0 1], b.length <= 64 := fun b hb => by rw [List.mem_singleton.1 hb, re]; exact Nat.le_refl _
 obtain ⟨k1, k2, k3⟩ := Tv g3 g1 (a := 1 % 2) (L := [gm 1 0 1]) (by rw [hn2]; simp only [List.length_singleton]; omega) hh64
 have hset : oh d2.firm (wl (1 % 2) [gm 1 0 1]) = d2.firm.set 1 (gm 1 0 1) := by
  show d2.firm.set (1 % 2) (pad _) = _
  rw [Pg re]
 have hD3 : Dn n (d2.firm.set 1 (gm 1 0 1)) := by rw [<- hset]; exact hD2.sub hh64 (.refl _)
 rw [hset] at k2
 refine ⟨k3, ⟨k1, wa k3⟩, ?_⟩
 rw [k2]
 have ne : ∀ i, 2 <= i -> (d2.firm.set 1 (gm 1 0 1))[i]? = d2.firm[i]? := fun i hi => List.getElem?_set_ne (by omega)
 refine ⟨hD3, by omega, by omega, by omega, ⟨[gc 0 []], ⟨?_, fun x hx => ?_⟩, zh hlo, ?_⟩, by simp [ct], rfl, Nat.zero_le _, fun i b _ hi hb => ?_, fun c hc => (by cases hc), ⟨_, zh hlo⟩, fun i b hi hb => ?_⟩
 ·show kd n ((d2.firm.set 1 (gm 1 0 1)).getD 1 []) = _
  rw [List.getD_eq_getElem?_getD, List.getElem?_set_self (by omega)]
  exact Aj (by omega) (by omega) (by omega) (Nat.le_refl 1) (by show 1 <= an n; omega) hhi
 ·have hx : kd n ((d2.firm.set 1 (gm 1 0 1)).getD 0 []) = some x := hx
  rw [List.getD_eq_getElem?_getD, List.getElem?_set_ne (by omega), hz2 0 (by omega)] at hx
  have hx : kd n z64 = some x := hx
  rw [Rf] at hx; cases hx
 ·rw [hpl, <- hA]
  exact pj fun i hi => ne _ (by omega)
 ·rw [ne _ (by omega), hz2 _ (by omega)] at hb
  cases hb
  exact (Or 1).1
 ·rw [ne _ (by omega), hz2 _ (by omega)] at hb
  cases hb
  exact (Or 1).2
theorem Mm {d : D} {k : Nat} (h : d.Lim (k + 2000)) (hn : d.firm.length <= 4096) : (rn d).Lim k := by
 have hj := (il hn).1
 have h256 := mw zm
 have hps : (pcs 64 ([gc 0 []] : Sec).flatten).length = 4 := by
  have hfl := so (k := 256) [gc 0 []] h256
  exact (xt (k := 64) (by omega) 4 ([gc 0 []] : Sec).flatten (by rw [hfl]; rfl)).1
 unfold rn
 refine zj (ox (nr _ _ _ _ (h.le ?_)))
 rw [List.length_replicate, hps]; omega
theorem Ei {h : ah} {p : Nat} {f l : Option Nat} {d : D} (hD : dw h p f l d) (hf : d.fused = false) (hl : d.loose = []) (hlo : 64 <= d.firm.length) {k : Nat} (hL : d.Lim (k + 2000)) :
  Ret F 11 [.ptr p 0] h fun v g => v = vi .u16 0 /\ ∃ l' d', Moved h g p f l l' d' /\ d'.fused = false /\ Live d' /\ Vd d.firm.length d'.firm 1 0 [] [] 0 /\ d'.Lim k := by
 obtain ⟨v, g, n1, rfl, l', M⟩ := Qx hD hlo (hL.le (by have := (il hL.ok.n).1; omega))
 obtain ⟨a1, a2, a3⟩ := Xq hL.ok hf hl hlo
 exact ⟨_, g, n1, rfl, l', _, M, a1, a2, a3, Mm hL hL.ok.n⟩
open Go Go.Vm
theorem RowsE.setV {els : List (List CV)} {rows : List KV} (h : RowsE els rows) {i : Nat} {k v : List UInt8} (hi : rows[i]? = some (k, v)) {c : CV} (hc : SlV 1 (eB v) (.cv c)) : RowsE (els.set i [.sc (.string ⟨k.toArray⟩), c]) rows := by
 induction h generalizing i with
 | nil => simp at hi
 | cons h t ih =>
  cases i with
  | zero => cases hi; exact .cons ⟨c, rfl, hc⟩ t
  | succ i => exact .cons h (ih (by simpa using hi))
theorem f42_loop {rows : List KV} (hl : rows.length <= 1000000) (hv : ∀ r ∈ rows, r.2.length <= 1000000000) {uo : VV} {id g : Nat} (huo : uo = .own id g 0 rows.length false) : ∀ (r i : Nat) (els : List (List CV)) (s : List VV) (h : ah) (Q : Pst), i + r = rows.length -> h[id]? = some (.arr 2 els g false) -> rows.length <= els.length -> RowsE (els.take rows.length) rows ->
  s.length = 24 -> s.getD 3 .undef = uo -> s.getD 8 .undef = uo -> s.getD 9 .undef = vi .i64 rows.length -> s.getD 10 .undef = vi .i64 i ->
  (∀ s' h' els', s'.length = 24 -> s'.getD 3 .undef = uo -> h'[id]? = some (.arr 2 els' g false) -> rows.length <= els'.length -> RowsE (els'.take rows.length) rows -> Q (.exit 0) ⟨s', h'⟩) -> X F (.loop f42_1) ⟨s, h⟩ Q := by
 intro r
 induction r with
 | zero =>
  intro i els s h Q hi hb hfl hR hs e3 e8 e9 e10 hQ
  have c : ¬ ((i : Nat) : Int) < (rows.length : Int) := by omega
  rw [aw, bg f42_1.eq_1]
  simp only [go_sem, seval, hs, e9, e10, c]
  rw [bg f42_0.eq_1]
  simp only [go_sem, seval, hs]
  exact hQ _ _ els (by simp only [ac, hs]) (by simp only [go_sem, seval, hs, e3]) hb hfl hR
 | succ r ih =>
  intro i els s h Q hi hb hfl hR hs e3 e8 e9 e10 hQ
  have c : ((i : Nat) : Int) < (rows.length : Int) := by omega
  obtain ⟨e, kv, a1, a2, cc, rfl, a3⟩ := hR.get (i := i) (by omega)
  rw [List.getElem?_take_of_lt (by omega)] at a1
  subst huo
  have ia : ∀ {g' : ah}, g'[id]? = some (.arr 2 els g false) -> iaO g' 2 (.own id g 0 rows.length false) (vi .i64 (i : Int)) = some (.eptr id g i 0, g') := fun {g'} hg => by
   rw [yn (by omega) hg (by omega)]; simp
  have ld2 : ldO h true 2 (.eptr id g i 0) = some (.agg [txt kv.1, .cv cc], h) := by
   simp [ldO, ak, ml, hb, a1, dp]
  have hb2 : (h ++ [VO.box [txt kv.1, .cv cc] false])[id]? = some (.arr 2 els g false) := (HExt.push h _).get hb
  have q5 : (h ++ [VO.box [txt kv.1, .cv cc] false])[h.length]? = some (.box [txt kv.1, .cv cc] false) := bh
  have ld5 : ldO (h ++ [VO.box [txt kv.1, .cv cc] false]) false 1 (.ptr h.length 1) = some (.cv cc, _) := bf q5 rfl
  obtain ⟨v5, g5, n5, w5, r5, S5⟩ := Ej a3 (hv kv (List.mem_of_getElem? a2))
  obtain ⟨c5, rfl⟩ : ∃ c5, w5 = .cv c5 := by rcases S5 with ⟨rfl, _⟩ | ⟨ex, rfl⟩ <;> exact ⟨_, rfl⟩
  have clc : ∀ g' : ah, cf g' [.cv cc] = some ([.cv cc], g') := fun g' => rfl
  have st5 := anw (off := 1) (c := c5) hb2 a1 (by show 1 < 2; decide)
  have hwr : IntKind.i64.wrap ((i : Int) + 1) = ((i + 1 : Nat) : Int) := by rw [IntWalk.i64_in _ (by omega)]; omega
  have fd : fdO 1 (.eptr id g i 0) = some (.eptr id g i 1) := rfl
  rw [aw, bg f42_1.eq_1]
  simp only [go_sem, seval, hs, e9, e10, c]
  rw [bg f42_0.eq_1]
  simp only [go_sem, seval, hs, e8, e10, ia hb, ld2]
  simp only [go_sem, seval, hs, e3, e8, e10, ld5]
  refine ao (by simp only [List.map, go_sem, seval, hs]; exact clc _) n5 r5 ?_
  simp only [go_sem, seval, hs, ia hb2, fd, st5, e10, hwr]
  refine ih (i + 1) _ _ _ Q (by omega) (List.getElem?_set_self (df hb2)) (by rw [List.length_set]; exact hfl) (by rw [List.take_set]; exact hR.setV (k := kv.1) (v := kv.2) a2 S5) (by simp only [ac, hs]) (by simp only [go_sem, seval, hs, e3]) (by simp only [go_sem, seval, hs, e8]) (by simp only [go_sem, seval, hs, e9]) (by simp only [go_sem, seval, hs]) hQ
theorem Sl {rows : List KV} {els : List (List CV)} {u : VV} (hu : SlV 2 els u) (hR : RowsE els rows) (hl : rows.length ≤ 1000000) (hv : ∀ r ∈ rows, r.2.length ≤ 1000000000) : Aq F 42 [u] fun w => ∃ els', SlV 2 els' w ∧ RowsE els' rows := by
  have hel := hR.len
  obtain ⟨v6, g6, n6, B6⟩ := Dq (h := []) hu.vf (by omega)
  rcases B6.v with ⟨e6, rfl⟩ | ⟨e6, rfl⟩ | ⟨id, gg, full, _, rfl, a2, a3, a4⟩
  · have hr : rows.length = 0 := by rw [← hel, e6]; rfl
    have : Ret F 42 [u] [] fun v g => v = bq := by
      refine eE1 (fn := f42) (n := 24) rfl rfl fun s hs h0 => ?_
      simp only [f42]
      have c : ¬ ((0 : Int) < 0) := by decide
      simp only [go_sem, seval, hs, h0]
      refine am (by simp only [List.map, go_sem, seval, hs, h0]; exact n6) ?_
      simp only [go_sem, seval, hs]
      rw [aw, bg f42_1.eq_1]
      simp only [go_sem, seval, hs]
      rw [bg f42_0.eq_1]
      simp only [go_sem, seval, hs]
      all_goals trivial
    obtain ⟨v, g, n1, rfl⟩ := this
    exact ⟨_, g, n1, _, rfl, els, .inl ⟨rfl, e6⟩, hR⟩
  · have hr : rows.length = 0 := by rw [← hel, e6]; rfl
    have : Ret F 42 [u] [] fun v g => v = .cv (.sl 2 [] true) := by
      refine eE1 (fn := f42) (n := 24) rfl rfl fun s hs h0 => ?_
      simp only [f42]
      simp only [go_sem, seval, hs, h0]
      refine am (by simp only [List.map, go_sem, seval, hs, h0]; exact n6) ?_
      have hln : lnO false (.cv (.sl 2 [] true)) = some (vi .i64 0) := rfl
      simp only [go_sem, seval, hs, hln]
      rw [aw, bg f42_1.eq_1]
      simp only [go_sem, seval, hs]
      rw [bg f42_0.eq_1]
      simp only [go_sem, seval, hs]
      all_goals trivial
    obtain ⟨v, g, n1, rfl⟩ := this
    exact ⟨_, g, n1, _, rfl, els, .inr ⟨true, by rw [e6]⟩, hR⟩
  · have : Ret F 42 [u] [] fun v g => v = .own id gg 0 rows.length false ∧ ∃ els', g[id]? = some (.arr 2 els' gg false) ∧ rows.length ≤ els'.length ∧ RowsE (els'.take rows.length) rows := by
      rw [hel] at a3 a4 n6
      have hln : lnO false (.own id gg 0 rows.length false) = some (vi .i64 rows.length) := rfl
      refine eE1 (fn := f42) (n := 24) rfl rfl fun s hs h0 => ?_
      simp only [f42]
      simp only [go_sem, seval, hs, h0]
      refine am (by simp only [List.map, go_sem, seval, hs, h0]; exact n6) ?_
      simp only [go_sem, Nat.reduceLT, Nat.reduceEqDiff, reduceCtorEq, Int.reduceLT, Int.reduceEq, hs, hln]
      refine f42_loop hl hv rfl rows.length 0 full _ _ _ (by omega) a2 a3 (by rw [← a4]; exact hR) (by simp only [ac, hs]) (by simp only [go_sem, Nat.reduceLT, Nat.reduceEqDiff, reduceCtorEq, Int.reduceLT, Int.reduceEq, hs]) (by simp only [go_sem, Nat.reduceLT, Nat.reduceEqDiff, reduceCtorEq, Int.reduceLT, Int.reduceEq, hs]) (by simp only [go_sem, Nat.reduceLT, Nat.reduceEqDiff, reduceCtorEq, Int.reduceLT, Int.reduceEq, hs]) (by simp only [go_sem, Nat.reduceLT, Nat.reduceEqDiff, reduceCtorEq, Int.reduceLT, Int.reduceEq, hs]; rfl) (fun s' h' els' hs' k3 k4 k5 k6 => ?_)
      simp only [go_sem, seval, hs', k3]
      exact ⟨trivial, els', k4, k5, k6⟩
    obtain ⟨v, g, n1, rfl, els', k4, k5, k6⟩ := this
    refine ⟨_, g, n1, .cv (.sl 2 (els'.take rows.length) false), ?_, _, .inr ⟨false, rfl⟩, k6⟩
    have : ij g (.own id gg 0 rows.length false) = some (.cv (.sl 2 (els'.take rows.length) false), g.set id (.arr 2 els' gg true)) := by
      simp only [ij, Go.Vm.clos, k4, Nat.zero_add, k5, and_self, if_true, List.drop_zero]
    simp only [au, this, Option.map]
theorem pw {h : ah} {q p : Nat} {f l : Option Nat} {z : S} (hS : StoreAt h q p f l z) (hl : z.rows.length <= 1000000) (hv : ∀ r ∈ z.rows, r.2.length <= 1000000000) : ∃ w els, call F 16 [.ptr q 0] h = some (.ret w, h) /\ SlV 2 els w /\ RowsE els z.rows := by
 obtain ⟨u, els, hb, hU, hR⟩ := hS.box
 obtain ⟨v4, g4, n4, w4, y4, els4, S4, R4⟩ := Sl hU hR hl hv
 have clu : cf h [u] = some ([u], h) := by rcases hU with ⟨rfl, _⟩ | ⟨ex, rfl⟩ <;> rfl
 have l1 : ldO h false 1 (.ptr q 1) = some (u, h) := bf hb rfl
 have : Ret F 16 [.ptr q 0] h fun v g => v = w4 /\ g = h := by
  refine eE1 (fn := f16) (n := 10) rfl rfl fun s hs h0 => ?_
  simp only [f16]
  simp only [go_sem, seval, hs, h0]
  rw [bg f16_0.eq_1]
  simp only [go_sem, seval, hs, h0, l1]
  refine ao (h1 := h) (by simp only [List.map, go_sem, seval, hs]; exact clu) n4 y4 ?_
  simp only [go_sem, seval, hs]
  all_goals trivial
 obtain ⟨v, g, e, rfl, rfl⟩ := this
 exact ⟨_, els4, e, S4, R4⟩
theorem Xd {h : ah} {q p : Nat} {f l : Option Nat} {z : S} (hS : StoreAt h q p f l z) : call F 20 [.ptr q 0] h = some (.ret (vi .i64 z.e), h) := by
 obtain ⟨u, els, hb, hU, hR⟩ := hS.box
 have l2 : ldO h false 1 (.ptr q 2) = some (vi .i64 z.e, h) := bf hb rfl
 have : Ret F 20 [.ptr q 0] h fun v g => v = vi .i64 z.e /\ g = h := by
  refine eE1 (fn := f20) (n := 10) rfl rfl fun s hs h0 => ?_
  simp only [f20]
  simp only [go_sem, seval, hs, h0]
  rw [bg f20_0.eq_1]
  simp only [go_sem, seval, hs, h0, l2]
  all_goals trivial
 obtain ⟨v, g, e, rfl, rfl⟩ := this
 exact e
open Go Go.Vm
theorem alv {n : Nat} {z : S} {c : List Ch} (hM : Mem n z) (hn : c ≠ []) (hl : c.any lng = false) (he : z.e < 1073741823) (hfr : z.fr <= 1073741824) (hroom : ∃ p, gf n (dl z.rows c) = some p) (hp : (pcs 49 (ii c)).length <= 200) (hj : (pcs 49 (ii c)).length <= jn n) : (br z c).2 = 0 := by
 obtain ⟨pA, hrm⟩ := hroom
 obtain ⟨pg0, hr0⟩ := hM.room
 have hps : ∃ ps, ey z.e z.fr c = some ps /\ ps.length = (pcs 49 (ii c)).length := by
  have h1 := vv.2 (show z.e <= 1073741824 by omega)
  have h2 := vv.2 hfr
  unfold ey
  generalize ks (z.e : Int) = x1 at h1
  generalize ks (z.fr : Int) = x2 at h2
  subst h1 h2
  exact ⟨_, if_pos ⟨rfl, rfl, hp⟩, lg _ _⟩
 obtain ⟨ps, hpf, hpl⟩ := hps
 obtain ⟨ps', hp2, _⟩ := yh hpf (e' := z.e + 1) (by omega)
 unfold br
 rw [if_neg hn, if_neg (by rw [hl]; decide), hM.dn, hrm, hpf]
 dsimp only
 rw [if_neg (by show ¬ jn n < ps.length; omega)]
 by_cases c3 : (bm n).1 < z.used + ps.length
 ·rw [if_pos c3, hr0, hp2]
 ·rw [if_neg c3]
theorem aga : ∃ p, gf 64 (dl [] [([97], [], false)]) = some p := by
 have h1 : dl [] [([97], [], false)] = [([97], [])] := by rfl
 have h2 : ∃ p, ed [([97], [])] = some [p] := ⟨_, by rfl⟩
 obtain ⟨p, h2⟩ := h2
 refine ⟨[p], ?_⟩
 rw [h1]
 unfold gf
 rw [h2]
 rfl
abbrev kc : List Ch := [([97], [], false)]
theorem aon : ChsE [[.sc (.string ⟨#[97]⟩), .sc (.slice none 0 0), .sc (.bool false)]] kc := .cons ⟨_, rfl, .inl ⟨rfl, rfl⟩⟩ .nil
theorem Uo : (pcs 49 (ii kc)).length <= 16 := by
 have h := Tm (k := 49) (by omega) (ii kc).length (ii kc) (Nat.le_refl _)
 have : (ii kc).length <= 10 := by
  have : ii kc = num (jx (kc.length : Nat)) ++ (kc.map chB).flatten := rfl
  rw [this, List.length_append]
  have h1 : (num (jx (kc.length : Nat))).length <= 4 := by decide
  have h2 : ((kc.map chB).flatten).length <= 6 := by decide
  omega
 omega
theorem ahv (n : Nat) (hn : n <= 4096) : (Sw n).OK := by
 refine ⟨fun b hb => ?_, fun o ho => (by cases ho), ?_, by simp [Sw], by show 0 < 1000000; omega, by show 0 < 1000000; omega⟩
 ·rw [List.eq_of_mem_replicate hb]; simp [z64]
 ·show (List.replicate n z64).length <= 4096; rw [List.length_replicate]; exact hn
theorem Nv (n : Nat) (hn : n <= 4096) : (Sw n).Lim 700000 := ⟨ahv n hn, by show 0 + 700000 < 800000; omega, by show 0 + 700000 < 800000; omega, by show 0 + 700000 < 800000; omega⟩
theorem Qe (n : Nat) : (Sw n).firm.length = n := by show (List.replicate n z64).length = n; rw [List.length_replicate]
theorem Vu {h h1 h2 : ah} {p : Nat} {l' : Option Nat} {d : D} (e : Ext h h1) (hp : h.length <= p) {fi : Nat} (hf : h.length <= fi) (m : Moved h1 h2 p (some fi) none l' d) : Ext h h2 :=
 ⟨Nat.le_trans e.len m.kept.len, fun j hj => by rw [m.kept.same j (Nat.lt_of_lt_of_le hj e.len) (by omega) (by intro h; cases h; omega) (by intro h; cases h), e.same j hj]⟩
theorem RowsE.vals {n : Nat} {rows : List KV} {p : Sec} (h : gf n rows = some p) : rows.length <= 5000 := by
 have := (ic h).1
 unfold ed at this
 split at this
 ·rename_i c; exact c.2
 ·cases this
theorem Pq : ∀ (l : List KV) (n : Nat), od n l = l.length -> Ik l
 | [], n, _ => fun p hp => by cases hp
 | p :: l, n, h => by
  simp only [od, List.length_cons] at h
  split at h
  ·omega
  ·rename_i c1
   split at h
   ·omega
   ·intro q hq
    rcases List.mem_cons.1 hq with rfl | hq
    ·omega
    ·exact Pq l (n + (1 + (jj p).length)) (by omega) q hq
theorem Bh {n : Nat} {rows : List KV} {p : Sec} (h : gf n rows = some p) : Ik rows := by
 obtain ⟨up, _, _, _, e4⟩ := np (ic h).1
 intro r hr
 rw [<- e4] at hr
 obtain ⟨g, hg, hr⟩ := List.mem_flatten.1 hr
 exact Pq g 0 (Ld rows g hg) r hr
structure New (h : ah) (n k : Nat) (g : ah) (q p : Nat) (f : Nat) (l' : Option Nat) (z : S) : Prop where
 ext : Ext h g
 hq : h.length <= q
 hp : h.length <= p
 hf : h.length <= f
 hl : ∀ i, l' = some i -> h.length <= i
 st : StoreAt g q p (some f) l' z
 rw_ : z.rows = []
 e2 : z.e = 2
 us : z.used = 0
 fr : z.fr = 0
 mem : Mem n z
 run : Run n z
 nf : z.d.fused = false
 lim : z.d.Lim k
theorem Ts (h : ah) : ∃ g, call F 12 [] h = some (.ret (vb true), g) /\ Ext h g := by
 obtain ⟨h1, n1, D1, l1, k1⟩ := Xi 64 (by omega) h
 have e1 : Ext h h1 := ⟨l1, k1⟩
 obtain ⟨v2, h2, n2, rfl, lA, dA, MA, f2, L2, V2, B2⟩ := Ei D1 rfl rfl (by rw [Qe]; omega) (k := 690000) ((Nv 64 (by omega)).le (by omega))
 rw [Qe] at V2
 obtain ⟨v3, h3, n3, q, lB, z, rfl, hq, MB, SB, OB⟩ := Hh MA.dev L2.loose V2.rc (by omega) (k := 680000) (B2.le (by omega))
 have hR := OB.run (wa (OB.nf f2))
 have hrw : z.rows = [] := OB.rw_
 have hE : z.e = 2 := OB.ep
 have hU := OB.us
 have hF := OB.fr
 have MAB := MA.trans MB
 obtain ⟨w4, els4, n4, S4, R4⟩ := pw SB (by rw [hrw]; simp) (by rw [hrw]; intro r hr; cases hr)
 rw [hrw] at R4
 have el4 : els4.length = 0 := R4.len
 have hP : PreC z kc := ⟨OB.lim.ok, by rw [hrw]; simp, by simp, by have := Uo; have := By (k := 49) (by omega) _ (ii kc) (Nat.le_refl _); have e : (me 49 (ii kc).length (ii kc)).length = (pcs 49 (ii kc)).length := rfl; omega, fun x hx => by rw [List.mem_singleton.1 hx]; simp⟩
 obtain ⟨pg0, hr0⟩ := OB.mem.room
 have hdn := OB.mem.dn
 obtain ⟨v5, h5, n5, rfl, lC, MC⟩ := Eh SB (uc := .cv (.sl 3 [[.sc (.string ⟨#[97]⟩), .sc (.slice none 0 0), .sc (.bool false)]] true)) (.inr ⟨true, rfl⟩) aon hP (by rw [hdn]; exact hr0) OB.mem.a1 (by omega) (by omega) (by omega) (OB.lim.le (by omega))
 have ha := alv (c := kc) OB.mem (by simp) rfl (by omega) (by omega) (by rw [hrw]; exact aga) (by have := Uo; omega) (by have := Uo; show _ <= 16; omega)
 have hy := (xh (c := kc) OB.mem (by omega) (by simp) (fun x hx _ => by rw [List.mem_singleton.1 hx])).yes ha
 rw [ha] at n5
 have n5 : call F 14 [.ptr q 0, .cv (.sl 3 [[.sc (.string ⟨#[97]⟩), .sc (.slice none 0 0), .sc (.bool false)]] true)] h3 = some (.ret (vi .u16 0), h5) := n5
 have hk1 : dl [] kc = [([97], [])] := by rfl
 rw [hrw, hk1] at hy
 obtain ⟨w6, els6, n6, S6, R6⟩ := pw MC.st (by rw [hy]; simp) (by rw [hy]; intro r hr; rw [List.mem_singleton.1 hr]; simp)
 rw [hy] at R6
 have el6 : els6.length = 1 := R6.len
 have nU := Xd SB
 rw [hE] at nU
 obtain ⟨v30, g30, m30, w30, y30, rfl⟩ := uw (n := 64) (by omega) (by omega)
 have p64 : bm (64 : Int).toNat = (16, 5) := by rfl
 rw [p64] at y30
 have y30 : au g30 v30 = some (.tup [vi .i64 16, vi .i64 5]) := y30
 have nU : call F 20 [.ptr q 0] h3 = some (.ret (vi .i64 2), h3) := nU
 have s4 := S4.ln
 rw [el4] at s4
 have s4 : lnO false w4 = some (vi .i64 0) := s4
 have s6 := S6.ln
 rw [el6] at s6
 have s6 : lnO false w6 = some (vi .i64 1) := s6
 suffices hx : Ret F 12 [] h fun v g => v = vb true /\ Ext h g by
  obtain ⟨v, g, a1, rfl, a2⟩ := hx
  exact ⟨g, a1, a2⟩
 have ext : Ext h h5 := by
  have k2 := MC.kept
  have x3 : Ext h h3 := Vu e1 (by omega) (by omega) MAB
  refine ⟨Nat.le_trans x3.len k2.len, fun j hj => ?_⟩
  have hq' : h.length <= q := Nat.le_trans e1.len (Nat.le_trans MA.kept.len hq)
  rw [k2.same j (Nat.lt_of_lt_of_le hj x3.len) (by omega) (by omega) (by intro h; cases h; omega) (fun e => ?_), x3.same j hj]
  rcases MAB.new j e with e' | e'
  ·cases e'
  ·have := e1.len; omega
 refine eE0 (fn := f12) (n := 57) rfl rfl fun s hs => ?_
 simp only [f12]
 simp only [go_sem, seval, hs]
 refine ao (h1 := h) (by simp only [List.map, go_sem, seval, hs]; rfl) m30 y30 ?_
 simp only [go_sem, seval, hs]
 refine am (by simp only [List.map, go_sem, seval, hs]; exact n1) ?_
 simp only [go_sem, seval, hs]
 rw [bg f12_0.eq_1]
 simp only [go_sem, seval, hs]
 refine am (by simp only [List.map, go_sem, seval, hs]; exact n2) ?_
 simp only [go_sem, seval, hs]
 refine am (by simp only [List.map, go_sem, seval, hs]; exact n3) ?_
 simp only [go_sem, seval, hs]
 refine am (by simp only [List.map, go_sem, seval, hs]; exact nU) ?_
 simp only [go_sem, seval, hs]
 refine am (by simp only [List.map, go_sem, seval, hs]; exact n4) ?_
 have bdk : bdO [VV.cv (CV.sc (Value.string ⟨#[]⟩)), VV.cv (CV.sc (Value.slice none 0 0)), VV.cv (CV.sc (Value.bool false))] [(0, 1, VV.cv (CV.sc (Value.string ⟨#[97]⟩)))] = some (.agg [.cv (.sc (.string ⟨#[97]⟩)), bq, vb false]) := rfl
 have mkk : ∀ g : ah, mkO g 3 1 [.cv (.sc (.string ⟨#[]⟩)), .cv (.sc (.slice none 0 0)), .cv (.sc (.bool false))] [(0, 3, .agg [.cv (.sc (.string ⟨#[97]⟩)), bq, vb false])] = some (.cv (.sl 3 [[.sc (.string ⟨#[97]⟩), .sc (.slice none 0 0), .sc (.bool false)]] true), g) := fun g => rfl
 simp only [go_sem, seval, hs, s4, bdk, mkk]
 refine am (by simp only [List.map, go_sem, seval, hs]; exact n5) ?_
 simp only [go_sem, seval, hs]
 refine am (by simp only [List.map, go_sem, seval, hs]; exact n6) ?_
 simp only [go_sem, seval, hs, s6]
 exact ⟨trivial, ext⟩
open Go Go.Vm
structure Deed where
 kind : UInt8
 c : List UInt8
 keep : List Bool
 fuse : UInt8
def aky (e : List CV) (x : Deed) : Prop := ∃ cB cK : CV, e = [.sc (.int .u8 x.kind.toNat), cB, cK, .sc (.int .u8 x.fuse.toNat)] /\ SlV 1 (eB x.c) (.cv cB) /\ SlV 1 (vx x.keep) (.cv cK) /\ x.c.length <= 10000000 /\ x.keep.length <= 10000000
def Df (els : List (List CV)) (l : List Deed) : Prop := els.length = l.length /\ ∀ (i : Nat) (x : Deed), l[i]? = some x -> ∃ e, els[i]? = some e /\ aky e x
theorem f23_loop {els : List (List CV)} {l : List Deed} {u : VV} (hS : SlV 4 els u) (hE : Df els l) (hn : l.length <= 10000000) (h : ah) :
  ∀ (r k N : Nat) (s : List VV) (Q : Pst), k + r = l.length -> k <= N -> N <= k * 20000002 -> s.length = 30 -> s.getD 0 .undef = u -> s.getD 3 .undef = vi .i64 N -> s.getD 4 .undef = vi .i64 k ->
   (∀ s' N', s'.length = 30 -> s'.getD 3 .undef = vi .i64 (N' : Nat) -> l.length <= N' -> Q (.exit 0) ⟨s', h⟩) -> X F (.loop f23_0) ⟨s, h⟩ Q := by
 intro r
 induction r with
 | zero =>
  intro k N s Q hk h1 h2 hs h0 h3 h4 hQ
  rw [aw, bg f23_0.eq_1]
  have c : ¬ (k : Int) < (els.length : Int) := by rw [hE.1]; omega
  simp only [go_sem, seval, hs, h0, h4, hS.ln, c]
  exact hQ _ N (by simp only [ac, hs]) (by simp only [go_sem, seval, h3]) (by omega)
 | succ r ih =>
  intro k N s Q hk h1 h2 hs h0 h3 h4 hQ
  rw [aw, bg f23_0.eq_1]
  have c : (k : Int) < (els.length : Int) := by rw [hE.1]; omega
  have hkl : k < l.length := by omega
  obtain ⟨e, he, cB, cK, rfl, hB, hK, b1, b2⟩ := hE.2 k l[k] (List.getElem?_eq_getElem hkl)
  have hia := hS.ia (h := h) (k := .i64) (j := (k : Int)) (by omega) he
  have hw : IntKind.i64.wrap ((k : Int) + 1) = ((k + 1 : Nat) : Int) := by rw [IntWalk.i64_in _ (by omega)]; omega
  have q8 : (8 : Int) ≠ 0 := by decide
  have w1 : IntKind.i64.wrap (1 + ((l[k].c.length : Nat) : Int)) = ((1 + l[k].c.length : Nat) : Int) := by rw [IntWalk.i64_in _ (by omega)]; omega
  have w2 : IntKind.i64.wrap (((l[k].keep.length : Nat) : Int).tdiv 8) = ((l[k].keep.length / 8 : Nat) : Int) := by
   have : ((l[k].keep.length : Nat) : Int).tdiv 8 = ((l[k].keep.length / 8 : Nat) : Int) := rfl
   rw [this, IntWalk.i64_in _ (by omega)]
  have w3 : IntKind.i64.wrap (((1 + l[k].c.length : Nat) : Int) + ((l[k].keep.length / 8 : Nat) : Int)) = ((1 + l[k].c.length + l[k].keep.length / 8 : Nat) : Int) := by rw [IntWalk.i64_in _ (by omega)]; omega
  have w4 : IntKind.i64.wrap ((N : Int) + ((1 + l[k].c.length + l[k].keep.length / 8 : Nat) : Int)) = ((N + (1 + l[k].c.length + l[k].keep.length / 8) : Nat) : Int) := by rw [IntWalk.i64_in _ (by omega)]; omega
  simp only [go_sem, seval, hs, h0, h4, hS.ln, c]
  refine jy rfl ?_
  simp only [go_sem, seval, hs, h0, h3, h4, hia, hB.ln, hK.ln, ay, oj, w1, Hn q8, w2, w3, w4, hw]
  exact ih (k + 1) (N + (1 + l[k].c.length + l[k].keep.length / 8)) _ Q (by omega) (by omega) (by omega) (by simp only [ac, hs]) (by simp only [go_sem, seval, h0]) (by simp only [go_sem, seval, hs]) (by simp only [go_sem, seval, hs]) hQ
theorem aae {els : List (List CV)} {l : List Deed} {u : VV} (hS : SlV 4 els u) (hE : Df els l) (hn : l.length <= 10000000) : Aq F 23 [u] fun w => ∃ m, w = vb m /\ (m = false -> l.length <= 200) := by
 have : Ret F 23 [u] [] fun v _ => ∃ m, v = vb m /\ (m = false -> l.length <= 200) := by
  refine eE1 (fn := f23) (n := 30) rfl rfl fun s hs h0 => ?_
  simp only [f23]
  simp only [go_sem, Nat.reduceLT, Nat.reduceEqDiff, reduceCtorEq, Int.reduceLT, Int.reduceEq, hs]
  refine f23_loop hS hE hn _ l.length 0 0 _ _ (by omega) (by omega) (by omega) (by simp only [ac, hs]) (by simp only [go_sem, Nat.reduceLT, Nat.reduceEqDiff, reduceCtorEq, Int.reduceLT, Int.reduceEq, h0]) (by simp only [go_sem, Nat.reduceLT, Nat.reduceEqDiff, reduceCtorEq, Int.reduceLT, Int.reduceEq, hs]; rfl) (by simp only [go_sem, Nat.reduceLT, Nat.reduceEqDiff, reduceCtorEq, Int.reduceLT, Int.reduceEq, hs]; rfl) (fun s' N' a1 a3 a4 => ?_)
  have r : ((N' : Int) > 200) = (200 < N') := by apply propext; omega
  simp only [go_sem, seval, a1, a3, r]
  exact ⟨_, rfl, fun e => by have := of_decide_eq_false e; omega⟩
 obtain ⟨v, g, n1, m, rfl, hm⟩ := this
 exact ⟨_, g, n1, _, rfl, m, rfl, hm⟩
def sz (k : UInt8) : Nat := match k.toNat % 6 with
 | 0 => 64 | 1 => 65 | 2 => 80 | 3 => 100 | 4 => 128 | _ => 200
theorem aiw (k : UInt8) : 64 <= sz k /\ sz k <= 200 := by unfold sz; split <;> omega
theorem aba (k : UInt8) : Aq F 22 [vi .u8 k.toNat] fun w => w = vi .i64 (sz k : Nat) := by
  have : Ret F 22 [vi .u8 k.toNat] [] fun v _ => v = vi .i64 (sz k : Nat) := by
    have q6 : (6 : Int) ≠ 0 := by decide
    have em : (k.toNat : Int).tmod 6 = ((k.toNat % 6 : Nat) : Int) := rfl
    have hm : k.toNat % 6 < 6 := Nat.mod_lt _ (by decide)
    have mk6 : ∀ g : ah, mkO g 1 6 [.cv (.sc (.int .i64 0)), .cv (.sc (.int .i64 0)), .cv (.sc (.int .i64 0)), .cv (.sc (.int .i64 0)), .cv (.sc (.int .i64 0)), .cv (.sc (.int .i64 0))]
        [(0, 1, .cv (.sc (.int .i64 64))), (1, 1, .cv (.sc (.int .i64 65))), (2, 1, .cv (.sc (.int .i64 80))), (3, 1, .cv (.sc (.int .i64 100))), (4, 1, .cv (.sc (.int .i64 128))), (5, 1, .cv (.sc (.int .i64 200)))] = some (.cv (.sl 1 [[.sc (.int .i64 64)], [.sc (.int .i64 65)], [.sc (.int .i64 80)], [.sc (.int .i64 100)], [.sc (.int .i64 128)], [.sc (.int .i64 200)]] true), g) := fun g => rfl
    have ia : ∀ (g : ah) (m : Nat) (c : CV), m < 6 → [CV.sc (.int .i64 64), .sc (.int .i64 65), .sc (.int .i64 80), .sc (.int .i64 100), .sc (.int .i64 128), .sc (.int .i64 200)][m]? = some c →
        iaO g 1 (.cv (.sl 1 [[.sc (.int .i64 64)], [.sc (.int .i64 65)], [.sc (.int .i64 80)], [.sc (.int .i64 100)], [.sc (.int .i64 128)], [.sc (.int .i64 200)]] true)) (vi .u8 (m : Int)) = some (.rptr [c], g) := by
      intro g m c hm hc
      match m, hm with
      | 0, _ => cases hc; rfl
      | 1, _ => cases hc; rfl
      | 2, _ => cases hc; rfl
      | 3, _ => cases hc; rfl
      | 4, _ => cases hc; rfl
      | 5, _ => cases hc; rfl
    have hsz : [CV.sc (.int .i64 64), .sc (.int .i64 65), .sc (.int .i64 80), .sc (.int .i64 100), .sc (.int .i64 128), .sc (.int .i64 200)][k.toNat % 6]? = some (.sc (.int .i64 (sz k : Nat))) := by
      unfold sz
      generalize k.toNat % 6 = m at hm
      match m, hm with
      | 0, _ => rfl
      | 1, _ => rfl
      | 2, _ => rfl
      | 3, _ => rfl
      | 4, _ => rfl
      | 5, _ => rfl
    have la : ∀ g : ah, ldO g false 1 (.rptr [.sc (.int .i64 (sz k : Nat))]) = some (vi .i64 (sz k : Nat), g) := fun g => ji
    refine eE1 (fn := f22) (n := 8) rfl rfl fun s hs h0 => ?_
    simp only [f22]
    simp only [go_sem, seval, hs, h0, mk6, Nk q6, em, ia _ _ _ hm hsz, la]
    all_goals trivial
  obtain ⟨v, g, n1, rfl⟩ := this
  exact ⟨_, g, n1, _, rfl, rfl⟩
theorem am6 {P : VV -> ah -> Prop} {s : List VV} {h : ah} {a m n id : Nat} {cells : List VV} {fr : Bool} (ha : s.getD a .undef = .ptr id 0) (ho : h[id]? = some (.box cells fr)) (hn : cells.length = n) (hm : m < s.length)
  (hP : P (.tup [s.getD m .undef, .agg cells]) h) : RQ [.t m, .cell a true n] P .ret ⟨s, h⟩ := by
 subst hn
 refine ⟨trivial, [s.getD m .undef, .agg cells], ?_, hP⟩
 simp only [jz, xu, ko hm, ha, ho, List.drop_zero, List.take_length, dp, if_true]
theorem ack (k : UInt8) (h : ah) : Ret F 17 [vi .u8 k.toNat] h fun v g => ∃ p f cells, v = .tup [.ptr p 0, .agg cells] /\ cells.length = 6 /\ Ext h g /\ h.length <= p /\ h.length <= f /\ dw g p (some f) none (Sw (sz k)) := by
 obtain ⟨hs1, hs2⟩ := aiw k
 obtain ⟨v2, g2, n2, w2, y2, rfl⟩ := aba k
 obtain ⟨v4, g4, n4, y4⟩ := Rh (sz k) (by omega)
 refine eE1 (fn := f17) (n := 18) rfl rfl fun s hs h0 => ?_
 simp only [f17]
 simp only [go_sem, seval, hs, h0]
 have x1 := Ext.push h (.box [bq, bq, vi .i64 0, vi .i64 0, vb false, vi .i64 0] false)
 have q3 : (h ++ [VO.box [bq, bq, vi .i64 0, vi .i64 0, vb false, vi .i64 0] false])[h.length]? = some (.box [bq, bq, vi .i64 0, vi .i64 0, vb false, vi .i64 0] false) := bh
 have gl : (h ++ [VO.box [bq, bq, vi .i64 0, vi .i64 0, vb false, vi .i64 0] false]).length = h.length + 1 := by simp
 generalize h ++ [VO.box [bq, bq, vi .i64 0, vi .i64 0, vb false, vi .i64 0] false] = g1 at x1 q3 gl
 obtain ⟨g3, n3, D3, l3, k3⟩ := Xi (sz k) (by omega) g1
 have x3 : Ext g1 g3 := ⟨l3, k3⟩
 refine ao (h1 := g1) (by simp only [List.map, go_sem, seval, hs]; rfl) n2 y2 ?_
 simp only [go_sem, seval, hs]
 refine am (by simp only [List.map, go_sem, seval, hs]; exact n3) ?_
 simp only [go_sem, seval, hs, h0]
 refine ao (h1 := g3) (by simp only [List.map, go_sem, seval, hs]; rfl) n2 y2 ?_
 simp only [go_sem, seval, hs]
 refine ao (h1 := g3) (by simp only [List.map, go_sem, seval, hs]; rfl) n4 y4 ?_
 simp only [go_sem, seval, hs]
 have q3' := x3.get q3
 have qz : (g3 ++ [VO.box [bq, bq, vi .i64 0, vi .i64 0, vb false, vi .i64 0] false])[g3.length]? = some (.box [bq, bq, vi .i64 0, vi .i64 0, vb false, vi .i64 0] false) := bh
 have xl := Ext.push g3 (.box [bq, bq, vi .i64 0, vi .i64 0, vb false, vi .i64 0] false)
 generalize g3 ++ [VO.box [bq, bq, vi .i64 0, vi .i64 0, vb false, vi .i64 0] false] = g5 at qz xl
 have st6 : stO g5 6 (.ptr g3.length 0) (tV (slV 1 (sE (sz k))) bq 0 0 false 0) = some (.undef, g5.set g3.length (.box [slV 1 (sE (sz k)), bq, vi .i64 0, vi .i64 0, vb false, vi .i64 0] false)) := kk (n := 6) (cs := [slV 1 (sE (sz k)), bq, vi .i64 0, vi .i64 0, vb false, vi .i64 0]) rfl qz rfl
 have q5 := List.getElem?_set_self (a := VO.box [slV 1 (sE (sz k)), bq, vi .i64 0, vi .i64 0, vb false, vi .i64 0] false) (ax qz)
 have x6 : Ext g3 (g5.set g3.length (.box [slV 1 (sE (sz k)), bq, vi .i64 0, vi .i64 0, vb false, vi .i64 0] false)) := HExt.ext (xl.hext.set (Nat.le_refl _) _)
 generalize g5.set g3.length (.box [slV 1 (sE (sz k)), bq, vi .i64 0, vi .i64 0, vb false, vi .i64 0] false) = g6 at st6 q5 x6
 have L6 : ldO g6 true 6 (.ptr g3.length 0) = some (.agg [slV 1 (sE (sz k)), bq, vi .i64 0, vi .i64 0, vb false, vi .i64 0], g6) := nx q5 rfl
 have q36 := x6.get q3'
 have st7 := kk (n := 6) (cs := [slV 1 (sE (sz k)), bq, vi .i64 0, vi .i64 0, vb false, vi .i64 0]) rfl q36 rfl
 have D6 := D3.ext x6
 obtain ⟨vf, vl, b1, b2, b3⟩ := D6
 have hp3 : h.length + 1 = g1.length := gl.symm
 simp only [go_sem, seval, hs, st6]
 refine jy rfl ?_
 simp only [go_sem, seval, hs, L6, st7]
 refine am6 (id := h.length) (by simp only [go_sem, seval, hs]) (List.getElem?_set_self (ax q36)) rfl (by simp only [ac, hs]; decide) ?_
 simp only [go_sem, seval, hs]
 have X6 : Ext h g6 := x1.trans (x3.trans x6)
 refine ⟨_, _, _, rfl, rfl, HExt.ext (X6.hext.set (Nat.le_refl _) _), by omega, by omega, Mx ⟨vf, vl, b1, b2, b3⟩ q36 (by omega) tg _⟩
open Go Go.Vm
theorem ahd {n : Nat} {z : S} {pg : Sec} (hr : gf n z.rows = some pg) {k : Nat} (h : z.d.Lim (k + 4 * an n + 3)) : (ckF z pg).d.Lim k := by
 show (yy z.d pg (1 - z.a) (z.e + 1)).Lim k
 have h2 : pg.length <= an n := (ic hr).2
 exact zj (by rw [pd hr]; exact h.le (by omega))
theorem Pb {z : S} {c : List Ch} {ps : Sec} {k : Nat} (h : z.d.Lim (k + ps.length + 1)) : (ur z c ps).d.Lim k := by
 show (pl z.d (2 + z.used) ps).flush.Lim k
 exact ox (nr _ _ _ _ (h.le (by omega)))
def Ev (z : S) (c : List Ch) (j : Nat) (o1 o2 o3 o4 : Option Sec) : S × Nat := match o1, o2 with
  | some _, some ps => if j < ps.length then (z, 21) else
      if j < z.used + ps.length then
        match o3 with
        | some pg => match o4 with
          | some ps' => (ur (ckF z pg) c ps', 0)
          | none => (z, 21)
        | none => (z, 21)
      else (ur z c ps, 0)
  | _, _ => (z, 21)
theorem Gn {P : S × Nat -> Prop} {z : S} {c : List Ch} {j : Nat} {o1 o2 o3 o4 : Option Sec} (h21 : P (z, 21)) (hck : ∀ pg ps ps', o3 = some pg -> o2 = some ps -> o4 = some ps' -> ps.length <= j -> P (ur (ckF z pg) c ps', 0)) (hadd : ∀ ps, ps.length <= j -> P (ur z c ps, 0)) : P (Ev z c j o1 o2 o3 o4) := by
 unfold Ev
 cases o1 with
 | none => exact h21
 | some _ =>
  cases o2 with
  | none => exact h21
  | some ps =>
   dsimp only
   by_cases c2 : j < ps.length
   ·rw [if_pos c2]; exact h21
   ·rw [if_neg c2]
    by_cases c3 : j < z.used + ps.length
    ·rw [if_pos c3]
     cases o3 with
     | none => exact h21
     | some pg =>
      cases o4 with
      | none => exact h21
      | some ps' => exact hck pg ps ps' rfl rfl rfl (by omega)
    ·rw [if_neg c3]
     exact hadd ps (by omega)
theorem Ud {z : S} {c : List Ch} (hn : c ≠ []) (hl : ¬ c.any lng = true) : br z c = Ev z c (bm z.d.firm.length).1 (gf z.d.firm.length (dl z.rows c)) (ey z.e z.fr c) (gf z.d.firm.length z.rows) (ey ((z.e + 1 : Nat) : Int) 0 c) := by
 unfold br Ev
 rw [if_neg hn, if_neg hl]
 generalize ey ((z.e + 1 : Nat) : Int) 0 c = o4
 generalize ey z.e z.fr c = o2
 generalize gf z.d.firm.length (dl z.rows c) = o1
 generalize gf z.d.firm.length z.rows = o3
 cases o1 <;> cases o2 <;> cases o3 <;> cases o4 <;> rfl
theorem Sa {e n e' : Nat} {c : List Ch} {ps ps' : Sec} (h : ey e n c = some ps) (h' : ey (e' : Int) 0 c = some ps') : ps'.length = ps.length := by
 rw [(pv h).1, (pv (n := 0) h').1, mn, mn]
theorem Hq {P : S × Nat -> Prop} {z : S} {c : List Ch} (h0 : P (z, 0)) (h3 : P (z, 3)) (h21 : P (z, 21)) (hck : ∀ pg ps', gf z.d.firm.length z.rows = some pg -> ps'.length <= (bm z.d.firm.length).1 -> P (ur (ckF z pg) c ps', 0)) (hadd : ∀ ps, ps.length <= (bm z.d.firm.length).1 -> P (ur z c ps, 0)) : P (br z c) := by
 by_cases hn : c = []
 ·unfold br; rw [if_pos hn]; exact h0
 by_cases hl : c.any lng = true
 ·unfold br; rw [if_neg hn, if_pos hl]; exact h3
 rw [Ud hn hl]
 exact Gn h21 (fun pg ps ps' e1 e2 e3 e4 => hck pg ps' e1 (by rw [Sa e2 e3]; exact e4)) hadd
theorem Rb {n : Nat} {z : S} {c : List Ch} (hM : Mem n z) (hn : n <= 1000) {k : Nat} (h : z.d.Lim (k + 1000)) : (br z c).1.d.Lim k := by
 obtain ⟨p1, p2⟩ := ru hM.lo
 have h0 : z.d.Lim k := h.le (by omega)
 refine Hq (P := fun r => r.1.d.Lim k) h0 h0 h0 (fun pg ps' hr hps => ?_) (fun ps hps => ?_)
 ·rw [hM.dn] at hr hps
  have hps : ps'.length <= jn n := hps
  exact Pb (ahd hr (h.le (by omega)))
 ·rw [hM.dn] at hps
  have hps : ps.length <= jn n := hps
  exact Pb (h.le (by omega))
theorem Dc : Aq F 12 [] fun w => w = vb true := by
 obtain ⟨g, n1, _⟩ := Ts []
 exact ⟨_, g, n1, _, rfl, rfl⟩
structure RunU (n : Nat) (z : S) (m : Nat) : Prop where
 mem : Mem n z
 run : Run n z
 nf : z.d.fused = false
 e : z.e + m <= 900000
 lim : z.d.Lim (1000 * m + 200000)
 e1 : 1 <= z.e
 n1 : n <= 1000
theorem RunU.room {n m : Nat} {z : S} (h : RunU n z m) : z.rows.length <= 5000 /\ Ik z.rows := by
 obtain ⟨p, hp⟩ := h.mem.room
 exact ⟨RowsE.vals hp, Bh hp⟩
theorem aoo (c : List UInt8) : (chL 6 c).length <= 6 /\ (ii (chL 6 c)).length <= 1000000 /\ (∀ x ∈ chL 6 c, x.2.1.length <= 1000000000) /\ (∀ p ∈ chL 6 c, p.2.2 = true -> p.2.1 = []) := by
 have h1 := ahg 6 c
 have h2 := Zp 6 c
 have h3 := aa9 (chL 6 c) h2
 exact ⟨h1, by omega, fun x hx => by have := (h2 x hx).2.1; omega, fun p hp => (h2 p hp).2.2⟩
open Go Go.Vm
theorem OpenP.runU {n e k m : Nat} {rows : List KV} {d : D} {z : S} (h : OpenP n e rows d k z) (hf : d.fused = false) (hn : n <= 1000) (he : e + 1 + m <= 900000) (hk : 1000 * m + 200000 <= k) : RunU n z m :=
 ⟨h.mem, h.run (wa (h.nf hf)), h.nf hf, by rw [h.ep]; exact he, h.lim.le hk, by rw [h.ep]; omega, hn⟩
structure Cr (n : Nat) (rows : List KV) (d : D) (m : Nat) : Prop where
 loose : d.loose = []
 nf : d.fused = false
 lim : d.Lim (1000 * m + 40000)
 rc : ∃ e a, e + m <= 1000000 /\ Rc n d.firm e a rows
theorem qn {l m : List (List CV)} {k j : List KV} {vl vm : VV} (hl : SlV 2 l vl) (hm : SlV 2 m vm) (hR : RowsE l k) (hS : RowsE m j) (hk : k.length <= 1000000000) (hj : j.length <= 1000000000) : Aq F 18 [vl, vm] fun w => w = vb (decide (k = j)) := by
 obtain ⟨v, g, n1, hI⟩ := Vg hl hm hR hS hk hj []
 exact ⟨v, g, n1, _, by obtain ⟨rfl, rfl⟩ := hI; rfl, rfl⟩
theorem Ik.v {l : List KV} (h : Ik l) : ∀ r ∈ l, r.2.length <= 1000000000 := fun r hr => by have := (h r hr).2; omega
open Go Go.Vm
theorem ajq {a b c d : Nat} (ha : a < 4503599627370496) (hc : c < 4503599627370496) (h : c < a) : kq .neq (cpx a b) (cpx c d) = some (vb true) := by
 have x1 := adn ha hc
 have hcmp : compare a c = .gt := by rw [Nat.compare_eq_gt]; exact h
 rw [hcmp] at x1
 have e : (some Ordering.gt == some Ordering.eq) = false := rfl
 simp [kq, su, x1, e]
structure LL (n : Nat) (z : S) (was : List KV) (m : Nat) : Prop where
 mem : Mem n z
 e : z.e + m <= 900000
 lim : z.d.Lim (1000 * m + 200000)
 n1 : n <= 1000
 st : Run n z \/ (z.d.dark = true /\ ∀ F, Out z.d F -> ∃ e' a', e' <= 900000 /\ (Rc n F e' a' was \/ Rc n F e' a' z.rows))
 wl : was.length <= 5000
 wf : Ik was
theorem LL.fr {n m : Nat} {z : S} {was : List KV} (h : LL n z was m) : z.fr <= 2000 /\ z.used <= 2000 := by
 have h1 := h.mem.fr
 have h2 := h.mem.used
 have h3 : jn n <= 1024 := (il h.mem.hi).1
 omega
theorem LL.room {n m : Nat} {z : S} {was : List KV} (h : LL n z was m) : z.rows.length <= 5000 /\ Ik z.rows := by
 obtain ⟨p, hp⟩ := h.mem.room
 exact ⟨RowsE.vals hp, Bh hp⟩
theorem LL.out {n m : Nat} {z : S} {was : List KV} (h : LL n z was m) : ∀ F, Out z.d F -> ∃ e' a', e' <= 900000 /\ (Rc n F e' a' was \/ Rc n F e' a' z.rows) := by
 rcases h.st with hR | ⟨_, h2⟩
 ·intro F hF
  obtain ⟨base, L, hV, hrw, _⟩ := hR.v
  have hRc := hV.rc
  rw [<- hrw] at hRc
  rw [Gt hR.live.loose hF]
  exact ⟨z.e, z.a, by have := h.e; omega, .inr hRc⟩
 ·exact h2
theorem LL.commit {n m : Nat} {z : S} {was : List KV} (h : LL n z was (m + 1)) {c : List Ch} (hc : c.length ≤ 5000) (hg : ∀ p ∈ c, p.2.2 = true → p.2.1 = []) :
    (z.d.w < (br z c).1.d.w ∧ LL n (br z c).1 z.rows m) ∨ ((br z c).1.d = z.d ∧ ((br z c).1.rows = z.rows → LL n (br z c).1 was m)) := by
  have he := h.e
  have hC := xh h.mem (c := c) (by omega) hc hg
  have he2 := hC.e
  have hlim := Rb (c := c) h.mem h.n1 (k := 1000 * m + 200000) (h.lim.le (by omega))
  have hroom := h.room
  rcases h.st with hR | ⟨hdk, h2⟩
  · by_cases h0 : (br z c).2 = 0 ∧ c ≠ []
    · obtain ⟨r1, r2, r3, r4⟩ := hC.run hR h0.1 h0.2
      refine .inl ⟨r1, hC.mem, by omega, hlim, h.n1, ?_, hroom.1, hroom.2⟩
      cases hd : (br z c).1.d.dark with
      | false => exact .inl (r3 hd)
      | true =>
        refine .inr ⟨rfl, fun F hF => ?_⟩
        obtain ⟨e', a', q1, q2⟩ := r2 F hF
        exact ⟨e', a', by omega, q2⟩
    · have e1 : (br z c).1 = z := hC.not (by
        by_cases h1 : (br z c).2 = 0
        · by_cases h2 : c = []
          · exact .inr h2
          · exact absurd ⟨h1, h2⟩ h0
        · exact .inl h1)
      rw [e1]
      exact .inr ⟨rfl, fun _ => ⟨h.mem, by omega, h.lim.le (by omega), h.n1, .inl hR, h.wl, h.wf⟩⟩
  · have e1 := hC.dark hdk
    refine .inr ⟨e1, fun hr => ⟨hC.mem, by omega, hlim, h.n1, .inr ⟨by rw [e1]; exact hdk, fun F hF => ?_⟩, h.wl, h.wf⟩⟩
    rw [e1] at hF
    rw [hr]
    exact h2 F hF
theorem LL.call {h : ah} {q p : Nat} {f l : Option Nat} {z : S} {was : List KV} {n m : Nat} (hS : StoreAt h q p f l z) (hU : LL n z was (m + 1)) {ec : List (List CV)} {c : List Ch} {uc : VV} (hu : SlV 3 ec uc) (hC : ChsE ec c) (hcl : c.length <= 5000) (hcb : (ii c).length <= 1000000) (hcv : ∀ x ∈ c, x.2.1.length <= 1000000000) :
  ∃ g l' v, call F 14 [.ptr q 0, uc] h = some (.ret v, g) /\ MovedS h g q p f l l' (br z c).1 := by
 obtain ⟨pg0, hr0⟩ := hU.mem.room
 have hr1 := hU.room
 have hfr := hU.fr
 have he := hU.e
 have hdn := hU.mem.dn
 obtain ⟨v, g, n1, rfl, l', M⟩ := Eh hS hu hC ⟨hU.lim.ok, by omega, hcl, hcb, hcv⟩ (by rw [hdn]; exact hr0) hU.mem.a1 (by omega) (by omega) hfr.2 (hU.lim.le (by omega))
 exact ⟨g, l', _, n1, M⟩
theorem LL.crash {n m : Nat} {z : S} {was : List KV} (h : LL n z was m) (b : List Bool) : Cr n was (z.d.crash b) 0 \/ Cr n z.rows (z.d.crash b) 0 := by
 obtain ⟨e', a', h1, h2⟩ := h.out _ (We z.d b)
 rcases h2 with h2 | h2
 ·exact .inl ⟨rfl, rfl, Ib (h.lim.le (by omega)) b, e', a', by omega, h2⟩
 ·exact .inr ⟨rfl, rfl, Ib (h.lim.le (by omega)) b, e', a', by omega, h2⟩
theorem ac4 {h : ah} {p : Nat} {f l : Option Nat} {z : S} {was : List KV} {n m : Nat} (hS : dw h p f l z.d) (hU : LL n z was m) {kp : List Bool} {vk : VV} (hk : SlV 1 (vx kp) vk) (hkl : kp.length <= 100) :
  ∃ v1 g1 g2 q2 w els rows, call F 27 [.ptr p 0, vk] h = some (.ret v1, g1) /\ call F 13 [.ptr p 0] g1 = some (.ret (.tup [.ptr q2 0, vi .u16 0]), g2) /\ call F 16 [.ptr q2 0] g2 = some (.ret w, g2) /\ SlV 2 els w /\ RowsE els rows /\ rows.length <= 5000 /\ (rows = was \/ rows = z.rows) := by
 obtain ⟨v27, g1, n27, F27⟩ := Vr hS hU.lim.ok hk (by have : maxLen = 9223372036854775807 := rfl; omega)
 obtain ⟨l1, M1⟩ := F27.m
 have key : ∀ rows : List KV, rows.length <= 5000 -> Ik rows -> Cr n rows (z.d.crash kp) 0 -> ∃ g2 q2 w els, call F 13 [.ptr p 0] g1 = some (.ret (.tup [.ptr q2 0, vi .u16 0]), g2) /\ call F 16 [.ptr q2 0] g2 = some (.ret w, g2) /\ SlV 2 els w /\ RowsE els rows := by
  intro rows h1 h2 hC
  obtain ⟨e6, a6, he6, hR6⟩ := hC.rc
  obtain ⟨v7, g7, n7, q7, l7, z7, rfl, hq7, M7, S7, O7⟩ := Hh M1.dev hC.loose hR6 (by omega) (k := 30000) (hC.lim.le (by omega))
  have hrw7 : z7.rows = rows := O7.rw_
  obtain ⟨w8, els8, n8, S8, R8⟩ := pw S7 (by rw [hrw7]; omega) (by rw [hrw7]; exact h2.v)
  rw [hrw7] at R8
  exact ⟨g7, q7, w8, els8, n7, n8, S8, R8⟩
 rcases hU.crash kp with hC | hC
 ·obtain ⟨g2, q2, w, els, a1, a2, a3, a4⟩ := key was hU.wl hU.wf hC
  exact ⟨_, g1, g2, q2, w, els, was, n27, a1, a2, a3, a4, hU.wl, .inl rfl⟩
 ·obtain ⟨g2, q2, w, els, a1, a2, a3, a4⟩ := key z.rows hU.room.1 hU.room.2 hC
  exact ⟨_, g1, g2, q2, w, els, z.rows, n27, a1, a2, a3, a4, hU.room.1, .inr rfl⟩
theorem Iq {g : ah} {l m : List (List CV)} {a b : VV} (h1 : SlV 2 l a) (h2 : SlV 2 m b) : cf g [a, b] = some ([a, b], g) := by rcases h1 with ⟨rfl, _⟩ | ⟨ex, rfl⟩ <;> (rcases h2 with ⟨rfl, _⟩ | ⟨ex, rfl⟩ <;> rfl)
theorem f9_loop {els : List (List CV)} {l : List Deed} {u : VV} (hS : SlV 4 els u) (hE : Df els l) (hn : l.length <= 200) {kp : List Bool} {vk : VV} (hk : SlV 1 (vx kp) vk) (hkl : kp.length <= 100) {q p f n : Nat} : ∀ (r i : Nat) (z : S) (was : List KV) (ww : VV) (ew : List (List CV)) (l' : Option Nat) (s : List VV) (h : ah) (Q : Pst), i + r = l.length -> StoreAt h q p (some f) l' z -> LL n z was r -> SlV 2 ew ww -> RowsE ew was ->
  s.length = 134 -> s.getD 1 .undef = u -> s.getD 3 .undef = vk -> s.getD 9 .undef = .ptr p 0 -> s.getD 11 .undef = .ptr q 0 -> s.getD 13 .undef = ww -> s.getD 14 .undef = vi .i64 i ->
  (∀ s' h', s'.length = 134 -> s'.getD 8 .undef = vb true -> Q .ret ⟨s', h'⟩) ->
  (∀ s' h' l'' z' was' ww' ew', s'.length = 134 -> s'.getD 3 .undef = vk -> s'.getD 9 .undef = .ptr p 0 -> s'.getD 11 .undef = .ptr q 0 -> s'.getD 13 .undef = ww' -> StoreAt h' q p (some f) l'' z' -> LL n z' was' 0 -> SlV 2 ew' ww' -> RowsE ew' was' -> Q (.exit 0) ⟨s', h'⟩) -> X F (.loop f9_5) ⟨s, h⟩ Q := by
 intro r
 induction r with
 | zero =>
  intro i z was ww ew l' s h Q hi hSt hU hw1 hw2 hs e1 e3 e9 e11 e13 e14 hR hQ
  have c : ¬ (i : Int) < (els.length : Int) := by rw [hE.1]; omega
  rw [aw, bg f9_5.eq_1]
  simp only [go_sem, seval, hs, e14, e1, hS.ln, c]
  exact hQ _ h l' z was ww ew (by simp only [ac, hs]) (by simp only [go_sem, seval, hs, e3]) (by simp only [go_sem, seval, hs, e9]) (by simp only [go_sem, seval, hs, e11]) (by simp only [go_sem, seval, hs, e13]) hSt hU hw1 hw2
 | succ r ih =>
  intro i z was ww ew l' s h Q hi hSt hU hw1 hw2 hs e1 e3 e9 e11 e13 e14 hR hQ
  have c : (i : Int) < (els.length : Int) := by rw [hE.1]; omega
  have hkl2 : i < l.length := by omega
  obtain ⟨e, he, cB, cK, rfl, hB, hK, b1, b2⟩ := hE.2 i l[i] (List.getElem?_eq_getElem hkl2)
  have hia := hS.ia (h := h) (k := .i64) (j := (i : Int)) (by omega) he
  have hw : IntKind.i64.wrap ((i : Int) + 1) = ((i + 1 : Nat) : Int) := by rw [IntWalk.i64_in _ (by omega)]; omega
  have fd : fdO 1 (.rptr [.sc (.int .u8 l[i].kind.toNat), cB, cK, .sc (.int .u8 l[i].fuse.toNat)]) = some (.rptr [cB, cK, .sc (.int .u8 l[i].fuse.toNat)]) := rfl
  have ld1 : ldO h false 1 (.rptr [cB, cK, .sc (.int .u8 l[i].fuse.toNat)]) = some (.cv cB, h) := ji
  obtain ⟨v24, g24, n24, w24, y24, ec, SC, EC⟩ := ak8 (n := 6) (by omega) l[i].c (.cv cB) hB
  obtain ⟨k1, k2, k3, k4⟩ := aoo l[i].c
  have n28 := Ae hSt.dev
  obtain ⟨hr1, hr2⟩ := hU.room
  obtain ⟨w16, els16, n16, S16, R16⟩ := pw hSt (by omega) hr2.v
  obtain ⟨g, l2, v14, n14, M⟩ := hU.call hSt SC EC (by omega) k2 k3
  have n28' := Ae M.st.dev
  have hwz := hU.lim.w
  have hfz := hU.lim.f
  rw [aw, bg f9_5.eq_1]
  simp only [go_sem, seval, hs, e14, e1, hS.ln, c]
  simp only [go_sem, seval, hs, e9]
  refine am (by simp only [List.map, go_sem, seval, hs]; exact n28) ?_
  simp only [go_sem, seval, hs, e11]
  refine am (by simp only [List.map, go_sem, seval, hs]; exact n16) ?_
  simp only [go_sem, seval, hs, e11, e14, e1, hia, fd, ld1]
  refine ao (h1 := h) (by simp only [List.map, go_sem, seval, hs]; rfl) n24 y24 ?_
  simp only [go_sem, seval, hs]
  refine am (by simp only [List.map, go_sem, seval, hs]; exact n14) ?_
  simp only [go_sem, seval, hs]
  rw [bg f9_3.eq_1]
  simp only [go_sem, seval, hs, e9]
  refine am (by simp only [List.map, go_sem, seval, hs]; exact n28') ?_
  rcases hU.commit (c := chL 6 l[i].c) (by omega) k4 with ⟨hwlt, hL⟩ | ⟨hsame, hL⟩
  ·have hwz' := hL.lim.w
   have hne := ajq (a := (br z (chL 6 l[i].c)).1.d.w) (b := (br z (chL 6 l[i].c)).1.d.f) (c := z.d.w) (d := z.d.f) (by omega) (by omega) hwlt
   simp only [go_sem, seval, hs, hne]
   simp only [go_sem, seval, hs, e14, hw]
   exact ih (i + 1) _ z.rows w16 els16 l2 _ _ Q (by omega) M.st hL S16 R16 (by simp only [ac, hs]) (by simp only [go_sem, seval, hs, e1]) (by simp only [go_sem, seval, hs, e3]) (by simp only [go_sem, seval, hs, e9]) (by simp only [go_sem, seval, hs, e11]) (by simp only [go_sem, seval, hs]) (by simp only [go_sem, seval, hs]) hR hQ
  ·rw [hsame]
   have heq := (Za (a := z.d.w) (b := z.d.f) (by omega) (by omega)).2
   have hCm := (xh hU.mem (c := chL 6 l[i].c) (by have := hU.e; omega) (by omega) k4).mem
   obtain ⟨pR, hpR⟩ := hCm.room
   have hvR := RowsE.vals hpR
   have hfR := Bh hpR
   obtain ⟨w17, els17, n17, S17, R17⟩ := pw M.st (by omega) hfR.v
   obtain ⟨v18, g18, n18, w18, y18, rfl⟩ := qn S16 S17 R16 R17 (by omega) (by omega)
   simp only [go_sem, seval, hs, heq]
   rw [bg f9_4.eq_1]
   simp only [go_sem, seval, hs, e11]
   refine am (by simp only [List.map, go_sem, seval, hs]; exact n17) ?_
   simp only [go_sem, seval, hs]
   refine ao (h1 := g) (by simp only [List.map, go_sem, seval, hs]; exact Iq S16 S17) n18 y18 ?_
   by_cases hEq : z.rows = (br z (chL 6 l[i].c)).1.rows
   ·have hdt : decide (z.rows = (br z (chL 6 l[i].c)).1.rows) = true := decide_eq_true hEq
    simp only [go_sem, seval, hs, hdt]
    simp only [go_sem, seval, hs, e14, hw]
    exact ih (i + 1) _ was ww ew l2 _ _ Q (by omega) M.st (hL hEq.symm) hw1 hw2 (by simp only [ac, hs]) (by simp only [go_sem, seval, hs, e1]) (by simp only [go_sem, seval, hs, e3]) (by simp only [go_sem, seval, hs, e9]) (by simp only [go_sem, seval, hs, e11]) (by simp only [go_sem, seval, hs, e13]) (by simp only [go_sem, seval, hs]) hR hQ
   ·have hdt : decide (z.rows = (br z (chL 6 l[i].c)).1.rows) = false := decide_eq_false hEq
    have hD' := M.st.dev
    rw [hsame] at hD'
    obtain ⟨v1, g1, g2, q2, w, elsA, rows, m27, m13, m16, SA, RA, hlA, hor⟩ := ac4 hD' hU hk hkl
    obtain ⟨v12, g12, n12, w12, y12, rfl⟩ := Dc
    obtain ⟨x1, x2, x3, x4, x5, rfl⟩ := qn SA hw1 RA hw2 (by omega) (by have := hU.wl; omega)
    obtain ⟨z1, z2, z3, z4, z5, rfl⟩ := qn SA S16 RA R16 (by omega) (by omega)
    simp only [go_sem, seval, hs, hdt]
    simp only [go_sem, seval, hs, e9, e3]
    refine am (by simp only [List.map, go_sem, seval, hs]; exact m27) ?_
    simp only [go_sem, seval, hs, e9]
    refine am (by simp only [List.map, go_sem, seval, hs]; exact m13) ?_
    simp only [go_sem, seval, hs]
    refine ao (h1 := g2) (by simp only [List.map]; rfl) n12 y12 ?_
    simp only [go_sem, seval, hs]
    refine am (by simp only [List.map, go_sem, seval, hs]; exact m16) ?_
    simp only [go_sem, seval, hs, e13]
    refine ao (h1 := g2) (by simp only [List.map, go_sem, seval, hs]; exact Iq SA hw1) x3 x5 ?_
    by_cases hA : rows = was
    ·have hdA : decide (rows = was) = true := decide_eq_true hA
     simp only [go_sem, seval, hs, hdA]
     exact hR _ _ (by simp only [ac, hs]) (by simp only [go_sem, seval, hs])
    ·have hdA : decide (rows = was) = false := decide_eq_false hA
     have hB : rows = z.rows := by
      rcases hor with h | h
      ·exact absurd h hA
      ·exact h
     have hdB : decide (rows = z.rows) = true := decide_eq_true hB
     rw [hdB] at z5
     simp only [go_sem, seval, hs, hdA]
     refine am (by simp only [List.map, go_sem, seval, hs]; exact m16) ?_
     simp only [go_sem, seval, hs]
     refine ao (h1 := g2) (by simp only [List.map, go_sem, seval, hs]; exact Iq SA S16) z3 z5 ?_
     simp only [go_sem, seval, hs]
     exact hR _ _ (by simp only [ac, hs]) (by simp only [go_sem, seval, hs])
open Go Go.Vm
theorem ad5 {n m : Nat} {z : S} (h : RunU n z m) (x : Int) : LL n { z with d := z.d.fuse x } z.rows m := by
 obtain ⟨f1, f2⟩ := Tq z.d x
 obtain ⟨base, L, hV, hrw, hfr⟩ := h.run.v
 have hRc := hV.rc
 rw [<- hrw] at hRc
 have hro := h.room
 refine ⟨⟨by show (z.d.fuse x).firm.length = n; rw [f1]; exact h.mem.dn, h.mem.lo, h.mem.hi, h.mem.a1, h.mem.room, h.mem.used, h.mem.fr⟩, h.e, ab1 h.lim x, h.n1, ?_, hro.1, hro.2⟩
 cases hd : (z.d.fuse x).dark with
 | false => exact .inl ⟨⟨by show (z.d.fuse x).loose = []; rw [f2]; exact h.run.live.loose, hd⟩, base, L, by show Vd n (z.d.fuse x).firm _ _ _ _ _; rw [f1]; exact hV, hrw, hfr⟩
 | true =>
  refine .inr ⟨by exact rfl, fun F hF => ?_⟩
  have hF : Out (z.d.fuse x) F := hF
  rw [Gt (by rw [f2]; exact h.run.live.loose) hF, f1]
  exact ⟨z.e, z.a, by have := h.e; omega, .inr hRc⟩
theorem Uz {k nn : UInt8} {els : List (List CV)} {l : List Deed} {u : VV} (hS : SlV 4 els u) (hE : Df els l) (hn : l.length <= 10000000) {kp : List Bool} {vk : VV} (hk : SlV 1 (vx kp) vk) :
  ∃ h', call F 9 [vi .u8 k.toNat, u, vi .u8 nn.toNat, vk] [] = some (.ret (vb true), h') := by
 suffices hx : Ret F 9 [vi .u8 k.toNat, u, vi .u8 nn.toNat, vk] [] fun v _ => v = vb true by
  obtain ⟨v, g, n1, rfl⟩ := hx
  exact ⟨g, n1⟩
 obtain ⟨v23, g23, n23, w23, y23, m, rfl, hm⟩ := aae hS hE hn
 obtain ⟨v12, g12, n12, w12, y12, rfl⟩ := Dc
 have clu : ∀ g : ah, cf g [u] = some ([u], g) := fun g => by rcases hS with ⟨rfl, _⟩ | ⟨ex, rfl⟩ <;> rfl
 obtain ⟨hsz1, hsz2⟩ := aiw k
 have wn : IntKind.i64.wrap (nn.toNat : Int) = (nn.toNat : Int) := IntWalk.i64_in _ (by have := nn.toNat_lt; omega)
 refine eE4 (fn := f9) (n := 134) rfl rfl fun s hs h0 h1 h2 h3 => ?_
 simp only [f9]
 simp only [go_sem, seval, hs]
 rw [bg f9_0.eq_1]
 simp only [go_sem, seval, hs, h1]
 refine ao (h1 := []) (by simp only [List.map, go_sem, seval, hs]; exact clu _) n23 y23 ?_
 have r1 : ((kp.length : Int) > 100) = (100 < kp.length) := by apply propext; omega
 by_cases hmm : m = true
 ·subst hmm
  simp only [go_sem, seval, hs]
  refine ao (h1 := []) (by simp only [List.map]; rfl) n12 y12 ?_
  simp only [go_sem, seval, hs]
  all_goals trivial
 by_cases hkl : 100 < kp.length
 ·simp only [go_sem, seval, hs, hmm, h3, hk.ln, oj, r1, hkl]
  refine ao (h1 := []) (by simp only [List.map]; rfl) n12 y12 ?_
  simp only [go_sem, seval, hs]
  all_goals trivial
 simp only [go_sem, seval, hs, hmm, h3, hk.ln, oj, r1, hkl]
 have hl200 := hm (by simpa using hmm)
 clear hm
 obtain ⟨v17, g1, n17, p, f, cells, rfl, hcl, x1, hp1, hf1, D1⟩ := ack k []
 have n17 : call F 17 [s.getD 0 .undef] [] = some (.ret (.tup [.ptr p 0, .agg cells]), g1) := by rw [h0]; exact n17
 refine am (by simp only [List.map, go_sem, seval, hs]; exact n17) ?_
 have qz : (g1 ++ [VO.box [bq, bq, vi .i64 0, vi .i64 0, vb false, vi .i64 0] false])[g1.length]? = some (.box [bq, bq, vi .i64 0, vi .i64 0, vb false, vi .i64 0] false) := bh
 have st6 := kk (n := 6) (cs := cells) hcl qz rfl
 have xz : Ext g1 ((g1 ++ [VO.box [bq, bq, vi .i64 0, vi .i64 0, vb false, vi .i64 0] false]).set g1.length (.box cells false)) := HExt.ext ((HExt.push g1 _).set (Nat.le_refl _) _)
 simp only [go_sem, seval, hs, st6]
 have D2 := D1.ext xz
 generalize (g1 ++ [VO.box [bq, bq, vi .i64 0, vi .i64 0, vb false, vi .i64 0] false]).set g1.length (.box cells false) = g2 at D2
 obtain ⟨v11, g3, n11, rfl, l3, d3, M3, f3, L3, V3, B3⟩ := Ei D2 rfl rfl (by rw [Qe]; exact hsz1) (k := 690000) ((Nv (sz k) (by omega)).le (by omega))
 rw [Qe] at V3
 obtain ⟨v13, g4, n13, q, l4, z4, rfl, hq4, M4, S4, O4⟩ := Hh M3.dev L3.loose V3.rc (by omega) (k := 680000) (B3.le (by omega))
 have U4 : RunU (sz k) z4 l.length := O4.runU f3 (by omega) (by omega) (by omega)
 obtain ⟨v26, g5, n26, F26⟩ := ab3 S4.dev (nn.toNat : Int)
 obtain ⟨l5, M5⟩ := F26.m
 have S5 := (S4.moved M5).st
 have LL5 := ad5 U4 (nn.toNat : Int)
 obtain ⟨hr1, hr2⟩ := U4.room
 obtain ⟨w16, els16, n16, S16, R16⟩ := pw S5 (by show z4.rows.length <= _; omega) hr2.v
 refine Gm fun s1 es1 => ?_
 have hs1 : s1.length = 134 := by rw [es1]; simp only [ac, hs]
 have k1 : s1.getD 1 .undef = u := by rw [es1]; simp only [go_sem, seval, hs, h1]
 have k2 : s1.getD 2 .undef = vi .u8 nn.toNat := by rw [es1]; simp only [go_sem, seval, hs, h2]
 have k3 : s1.getD 3 .undef = vk := by rw [es1]; simp only [go_sem, seval, hs, h3]
 have k9 : s1.getD 9 .undef = .ptr p 0 := by rw [es1]; simp only [go_sem, seval, hs]
 clear es1
 rw [bg f9_1.eq_1]
 simp only [go_sem, seval, hs1, k9]
 refine am (by simp only [List.map, go_sem, seval, hs1, k9]; exact n11) ?_
 simp only [go_sem, seval, hs1, k9]
 refine am (by simp only [List.map, go_sem, seval, hs1]; exact n13) ?_
 simp only [go_sem, seval, hs1]
 rw [bg f9_2.eq_1]
 simp only [go_sem, seval, hs1, k9, k2, wn]
 refine am (by simp only [List.map, go_sem, seval, hs1]; exact n26) ?_
 simp only [go_sem, seval, hs1]
 refine am (by simp only [List.map, go_sem, seval, hs1]; exact n16) ?_
 simp only [go_sem, Nat.reduceLT, Nat.reduceEqDiff, reduceCtorEq, Int.reduceLT, Int.reduceEq, hs1]
 refine f9_loop hS hE hl200 hk (by omega) l.length 0 _ z4.rows w16 els16 l5 _ _ _ (by omega) S5 LL5 S16 R16 (by simp only [ac, hs1]) (by simp only [go_sem, Nat.reduceLT, Nat.reduceEqDiff, reduceCtorEq, Int.reduceLT, Int.reduceEq, hs1, k1]) (by simp only [go_sem, Nat.reduceLT, Nat.reduceEqDiff, reduceCtorEq, Int.reduceLT, Int.reduceEq, hs1, k3]) (by simp only [go_sem, Nat.reduceLT, Nat.reduceEqDiff, reduceCtorEq, Int.reduceLT, Int.reduceEq, hs1, k9]) (by simp only [go_sem, Nat.reduceLT, Nat.reduceEqDiff, reduceCtorEq, Int.reduceLT, Int.reduceEq, hs1]) (by simp only [go_sem, Nat.reduceLT, Nat.reduceEqDiff, reduceCtorEq, Int.reduceLT, Int.reduceEq, hs1]) (by simp only [go_sem, Nat.reduceLT, Nat.reduceEqDiff, reduceCtorEq, Int.reduceLT, Int.reduceEq, hs1]; rfl) (fun s6 g6 hs6 j8 => ?_) (fun s6 g6 l6 z6 was ww ew hs6 j3 j9 j11 j13 S6 U6 hw1 hw2 => ?_)
 ·simp only [go_sem, seval, hs6, j8]
  all_goals trivial
 ·obtain ⟨hr3, hr4⟩ := U6.room
  obtain ⟨w17, els17, n17', S17, R17⟩ := pw S6 (by omega) hr4.v
  obtain ⟨v1, g7, g8, q2, w, elsA, rows, m27, m13, m16, SA, RA, hlA, hor⟩ := ac4 S6.dev U6 hk (by omega)
  obtain ⟨x1, x2, x3, x4, x5, rfl⟩ := qn SA hw1 RA hw2 (by omega) (by have := U6.wl; omega)
  obtain ⟨z1, z2, z3, z4', z5, rfl⟩ := qn SA S17 RA R17 (by omega) (by omega)
  simp only [go_sem, seval, hs6, j11]
  refine am (by simp only [List.map, go_sem, seval, hs6]; exact n17') ?_
  simp only [go_sem, seval, hs6, j9, j3]
  refine am (by simp only [List.map, go_sem, seval, hs6]; exact m27) ?_
  simp only [go_sem, seval, hs6, j9]
  refine am (by simp only [List.map, go_sem, seval, hs6]; exact m13) ?_
  simp only [go_sem, seval, hs6]
  refine ao (h1 := g8) (by simp only [List.map]; rfl) n12 y12 ?_
  simp only [go_sem, seval, hs6]
  refine am (by simp only [List.map, go_sem, seval, hs6]; exact m16) ?_
  simp only [go_sem, seval, hs6, j13]
  refine ao (h1 := g8) (by simp only [List.map, go_sem, seval, hs6]; exact Iq SA hw1) x3 x5 ?_
  by_cases hA : rows = was
  ·have hdA : decide (rows = was) = true := decide_eq_true hA
   simp only [go_sem, seval, hs6, hdA]
   all_goals trivial
  ·have hdA : decide (rows = was) = false := decide_eq_false hA
   have hB : rows = z6.rows := by
    rcases hor with h | h
    ·exact absurd h hA
    ·exact h
   have hdB : decide (rows = z6.rows) = true := decide_eq_true hB
   rw [hdB] at z5
   simp only [go_sem, seval, hs6, hdA]
   refine am (by simp only [List.map, go_sem, seval, hs6]; exact m16) ?_
   simp only [go_sem, seval, hs6]
   refine ao (h1 := g8) (by simp only [List.map, go_sem, seval, hs6]; exact Iq SA S17) z3 z5 ?_
   simp only [go_sem, seval, hs6]
   all_goals trivial
open Go Go.Vm
open Go.Proofs.Ytbhoknaipfnlnaa
theorem aar {H : Type} (d : DataW H) : 1 <= Rows.uptoBulk d := by
 cases d with
 | lit l => cases l <;> simp [Rows.uptoBulk]
 | nil => simp [Rows.uptoBulk]
 | ptr d => simp [Rows.uptoBulk]
 | slice elems spare => simp [Rows.uptoBulk]
 | agg parts => simp [Rows.uptoBulk]
 | iface t d => simp [Rows.uptoBulk]
 | map entries => simp [Rows.uptoBulk]
 | held h => simp [Rows.uptoBulk]
theorem Hw {H : Type} (l : List (DataW H)) : l.length <= Rows.uptoBulkAll l := by
 induction l with
 | nil => simp [Rows.uptoBulkAll]
 | cons x r ih => have := aar x; simp only [Rows.uptoBulkAll, List.length_cons]; omega
theorem Jn {H : Type} {d : DataW H} {l : List (DataW H)} (h : d ∈ l) : Rows.uptoBulk d <= Rows.uptoBulkAll l := by
 induction l with
 | nil => cases h
 | cons x r ih =>
  simp only [Rows.uptoBulkAll]
  cases List.mem_cons.1 h with
  | inl e => subst e; omega
  | inr e => have := ih e; omega
theorem Wb {H : Type} {P : Program} {t e n : Nat} {d : DataW H} {cs : List CV} (hu : P.underlying t = some (.slice e)) (he : P.underlying e = some (.int .u8)) (hc : P.cellsOf e = 1) (h : DR P (n + 2) t d cs) :
  ∃ (l : List UInt8) (c : CV), cs = [c] /\ SlV 1 (eB l) (.cv c) /\ l.length + 1 <= Rows.uptoBulk d := by
 obtain ⟨l, c, h1, h2, _, ⟨rfl, rfl⟩ | ⟨ds, rest, rfl, hl⟩⟩ := Yx hu he hc h
 ·exact ⟨[], c, h1, h2, by simp [Rows.uptoBulk]⟩
 ·refine ⟨l, c, h1, h2, ?_⟩
  have := Hw ds
  simp only [Rows.uptoBulk]; omega
theorem Kp {H : Type} {P : Program} {t e n : Nat} {d : DataW H} {cs : List CV} (hu : P.underlying t = some (.slice e)) (he : P.underlying e = some .bool) (hc : P.cellsOf e = 1) (h : DR P (n + 2) t d cs) : ∃ (l : List Bool) (c : CV), cs = [c] ∧ SlV 1 (vx l) (.cv c) ∧ l.length ≤ maxLen ∧ l.length ≤ Rows.uptoBulk d := by
  rcases Ez hu h with ⟨rfl, rfl⟩ | ⟨ds, rest, els, rfl, rfl, h1, h2, h3⟩
  · exact ⟨[], _, rfl, .inl ⟨rfl, rfl⟩, by simp, by simp⟩
  · have key : ∀ el ∈ els, ∃ b : Bool, el = [.sc (.bool b)] := by
      intro el hel
      obtain ⟨i, hi⟩ := List.getElem?_of_mem hel
      have hlt : i < ds.length := by rw [← h1]; exact (List.getElem?_eq_some_iff.1 hi).1
      obtain ⟨h4, h5⟩ := h3 i el _ hi (List.getElem?_eq_getElem hlt)
      obtain ⟨x, _, rfl⟩ := afd he h5
      exact ⟨x, rfl⟩
    have all : ∀ els : List (List CV), (∀ el ∈ els, ∃ b : Bool, el = [.sc (.bool b)]) → ∃ l : List Bool, els = vx l := by
      intro els
      induction els with
      | nil => exact fun _ => ⟨[], rfl⟩
      | cons x r ih =>
        intro hk
        obtain ⟨b, rfl⟩ := hk x (by simp)
        obtain ⟨l, rfl⟩ := ih fun el hel => hk el (by simp [hel])
        exact ⟨b :: l, rfl⟩
    obtain ⟨l, rfl⟩ := all els key
    rw [oj] at h1 h2
    rw [hc]
    have hl := Hw ds
    exact ⟨l, _, rfl, .inr ⟨_, rfl⟩, h2, by simp only [Rows.uptoBulk]; omega⟩
theorem abv {H : Type} {P : Program} {t e : Nat} {d : DataW H} {u : VV} (hu : P.underlying t = some (.slice e)) (he : P.underlying e = some .bool) (hc : P.cellsOf e = 1) (h : DV P t d u) : ∃ l : List Bool, SlV 1 (vx l) u /\ l.length <= maxLen := by
 obtain ⟨c, h1, rfl⟩ := Hf (by simp only [Rw, hu]) h
 obtain ⟨l, c', h2, h3, h4, _⟩ := Kp hu he hc h1
 cases h2
 exact ⟨l, h3, h4⟩
set_option maxRecDepth 100000 in
theorem aeo {H : Type} {d : DataW H} {el : List CV} (h : DR Proofs.Try.prog 7 59 d el) (hlen : el.length = 4) (hb : Rows.uptoBulk d <= 2000000) : ∃ x, aky el x := by
 obtain ⟨ds, rfl, hd, hc, hf⟩ := Wx Proofs.Try.underlying59 h
 match ds, hd with
 | [d1, d2, d3, d4], _ =>
  match el, hlen with
  | [c1, c2, c3, c4], _ =>
   have f1 : DR Proofs.Try.prog 6 5 d1 (([c1, c2, c3, c4].drop 0).take (Proofs.Try.prog.cellsOf 5)) := hf 0 _ d1 rfl rfl
   have f2 : DR Proofs.Try.prog 6 22 d2 (([c1, c2, c3, c4].drop 1).take (Proofs.Try.prog.cellsOf 22)) := hf 1 _ d2 rfl rfl
   have f3 : DR Proofs.Try.prog 6 57 d3 (([c1, c2, c3, c4].drop 2).take (Proofs.Try.prog.cellsOf 57)) := hf 2 _ d3 rfl rfl
   have f4 : DR Proofs.Try.prog 6 5 d4 (([c1, c2, c3, c4].drop 3).take (Proofs.Try.prog.cellsOf 5)) := hf 3 _ d4 rfl rfl
   have k1 : Proofs.Try.prog.cellsOf 5 = 1 := by kernel_rfl
   have k2 : Proofs.Try.prog.cellsOf 22 = 1 := by kernel_rfl
   have k3 : Proofs.Try.prog.cellsOf 57 = 1 := by kernel_rfl
   rw [k1] at f1 f4
   rw [k2] at f2
   rw [k3] at f3
   obtain ⟨x1, _, e1, w1⟩ := Oe Proofs.Try.underlying5 f1
   obtain ⟨b, cB, e2, hB, hbl⟩ := Wb Proofs.Try.underlying22 Proofs.Try.underlying5 (by kernel_rfl) f2
   obtain ⟨k, cK, e3, hk, hkl, hkb⟩ := Kp Proofs.Try.underlying57 Proofs.Try.underlying4 (by kernel_rfl) f3
   obtain ⟨x4, _, e4, w4⟩ := Oe Proofs.Try.underlying5 f4
   obtain ⟨y1, rfl⟩ := Yy w1
   obtain ⟨y4, rfl⟩ := Yy w4
   simp only [Rows.uptoBulk, Rows.uptoBulkAll] at hb
   simp at e1 e2 e3 e4
   subst e1 e2 e3 e4
   exact ⟨⟨y1, b, k, y4⟩, _, _, rfl, hB, hk, by show b.length <= _; omega, by show k.length <= _; omega⟩
set_option maxRecDepth 100000 in
theorem Zu {H : Type} {d : DataW H} {u : VV} (h : DV Proofs.Try.prog 54 d u) (hb : Rows.uptoBulk d <= 2000000) : ∃ els l, SlV 4 els u /\ Df els l /\ l.length <= 10000000 := by
 obtain ⟨c, h1, rfl⟩ := Hf (by simp only [Rw, Proofs.Try.underlying54]) h
 have k2 : Proofs.Try.prog.cellsOf 59 = 4 := by kernel_rfl
 rcases Ez Proofs.Try.underlying54 h1 with ⟨rfl, e⟩ | ⟨ds, rest, els, rfl, e, h2, h3, h4⟩
 ·cases e
  exact ⟨[], [], .inl ⟨rfl, rfl⟩, ⟨rfl, fun i x h => by cases h⟩, by simp⟩
 ·cases e
  rw [k2] at h4 |-
  simp only [Rows.uptoBulk] at hb
  have key : ∀ (els : List (List CV)) (ds : List (DataW H)), els.length = ds.length -> (∀ (i : Nat) (el : List CV) (y : DataW H), els[i]? = some el -> ds[i]? = some y -> el.length = 4 /\ DR Proofs.Try.prog 7 59 y el) -> (∀ y ∈ ds, Rows.uptoBulk y <= 2000000) -> ∃ l, Df els l := by
   intro els
   induction els with
   | nil => intro ds _ _ _; exact ⟨[], rfl, fun i x h => by cases h⟩
   | cons el r ih =>
    intro ds hl hh hbb
    match ds, hl with
    | y :: ys, hl =>
     obtain ⟨a1, a2⟩ := hh 0 el y rfl rfl
     obtain ⟨x, b1⟩ := aeo a2 a1 (hbb y List.mem_cons_self)
     obtain ⟨l, c1, c2⟩ := ih ys (by simpa using hl) (fun i el y h1 h2 => hh (i + 1) el y (by simpa using h1) (by simpa using h2)) (fun z hz => hbb z (List.mem_cons_of_mem _ hz))
     refine ⟨x :: l, by simp [c1], fun i z hz => ?_⟩
     cases i with
     | zero => simp at hz; subst hz; exact ⟨el, rfl, b1⟩
     | succ i => simpa using c2 i z (by simpa using hz)
  obtain ⟨l, c1⟩ := key els ds h2 h4 (fun y hy => by have := Jn hy; omega)
  have hbl := Hw ds
  exact ⟨els, l, .inr ⟨false, rfl⟩, c1, by rw [<- c1.1, h2]; omega⟩
section
variable {H : Type} {d0 d1 d2 d3 : DataW H} {u0 u1 u2 u3 : VV}
theorem lasts_in (hb : Rows.uptoBulkAll [d0, d1, d2, d3] <= 1048576) (h0 : DV Proofs.Try.prog 5 d0 u0) (h1 : DV Proofs.Try.prog 54 d1 u1) (h2 : DV Proofs.Try.prog 5 d2 u2) (h3 : DV Proofs.Try.prog 57 d3 u3) : ∃ h', call F 9 [u0, u1, u2, u3] [] = some (.ret (vb true), h') := by
 obtain ⟨k, rfl⟩ := ais (by kernel_rfl) h0
 have hb1 : Rows.uptoBulk d1 <= Rows.uptoBulkAll [d0, d1, d2, d3] := Jn (by simp)
 obtain ⟨els, l, hS, hE, hl⟩ := Zu h1 (by omega)
 obtain ⟨nn, rfl⟩ := ais (by kernel_rfl) h2
 obtain ⟨kp, hk, _⟩ := abv (e := 4) (by kernel_rfl) (by kernel_rfl) (by kernel_rfl) h3
 exact Uz hS hE hl hk
end
end Go.V08
