/- Part of a proof: of what it says, and when, each theorem tells itself. -/
import Derived.Test.YtbhoknaipfnlnaaVmAll1
import Derived.Lib.VarintBits
import Derived.Carry
import Derived.ChangeArms
import Derived.OpenShut
import Derived.Below
set_option linter.unusedSimpArgs false
set_option linter.unusedVariables false
/-
 Vm: what steps do to values, for simp (own work).
-/
namespace Go.Vm
open Go
abbrev txt (l : List UInt8) : VV := .cv (.sc (.string ⟨l.toArray⟩))
section
variable {k k' : IntKind} {a b : Int} {s t : List UInt8}
theorem agd : kt .add (vi k a) (vi k b) = some (vi k (k.wrap (a + b))) := by simp [kt, tm]
theorem agh : kt .sub (vi k a) (vi k b) = some (vi k (k.wrap (a - b))) := by simp [kt, tm]
theorem adm : kt .mul (vi k a) (vi k b) = some (vi k (k.wrap (a * b))) := by simp [kt, tm]
theorem Lw (h : b ≠ 0) : kt .quo (vi k a) (vi k b) = some (vi k (k.wrap (a.tdiv b))) := by simp [kt, tm, h]
theorem Gb (h : b ≠ 0) : kt .rem (vi k a) (vi k b) = some (vi k (a.tmod b)) := by simp [kt, tm, h]
theorem aff : kt .and (vi k a) (vi k b) = some (vi k (bits .and k a b)) := by simp [kt, tm, bits]
theorem aj5 : kt .or (vi k a) (vi k b) = some (vi k (bits .or k a b)) := by simp [kt, tm, bits]
theorem Wb : kt .xor (vi k a) (vi k b) = some (vi k (bits .xor k a b)) := by simp [kt, tm, bits]
theorem Av (h : ¬ b < 0) : kt .shl (vi k a) (vi k' b) = some (vi k (k.wrap (a * 2 ^ (min b.toNat k.bits)))) := by simp [kt, tm, h]
theorem oh (h : ¬ b < 0) : kt .shr (vi k a) (vi k' b) = some (vi k (a.fdiv (2 ^ (min b.toNat k.bits)))) := by simp [kt, tm, h]
theorem adh : kt .eql (vi k a) (vi k b) = some (vb (decide (a = b))) := by simp [kt, tm]; rfl
theorem adz : kt .neq (vi k a) (vi k b) = some (vb (decide (a ≠ b))) := by simp [kt, tm, bne]; rfl
theorem ad3 : kt .lss (vi k a) (vi k b) = some (vb (decide (a < b))) := by simp [kt, tm]
theorem ae4 : kt .leq (vi k a) (vi k b) = some (vb (decide (a <= b))) := by simp [kt, tm]
theorem aeu : kt .gtr (vi k a) (vi k b) = some (vb (decide (b < a))) := by simp [kt, tm]
theorem af7 : kt .geq (vi k a) (vi k b) = some (vb (decide (b <= a))) := by simp [kt, tm]
theorem Zc : kt .eql (txt s) (txt t) = some (vb (decide (s = t))) := by
 simp only [kt, tm, Option.map_some, Option.some.injEq, VV.cv.injEq, CV.sc.injEq, Value.bool.injEq]
 grind
theorem Pz : kt .neq (txt s) (txt t) = some (vb (decide (s ≠ t))) := by
 simp only [kt, tm, Option.map_some, Option.some.injEq, VV.cv.injEq, CV.sc.injEq, Value.bool.injEq]
 grind
end
theorem aio : lnO false ct = some (vi .i64 0) := rfl
theorem alo {z : Nat} {els : List (List CV)} {ex : Bool} : lnO false (.cv (.sl z els ex)) = some (vi .i64 els.length) := rfl
theorem akx {id g off len : Nat} {ex : Bool} : lnO false (.own id g off len ex) = some (vi .i64 len) := rfl
theorem aic {l : List UInt8} : lnO true (txt l) = some (vi .i64 l.length) := rfl
section
variable {F : Nat -> Option FnIR} {d : Option Nat} {x y z : Opd} {r : List Op1} {c : Cl} {q : List (Op1 × Cl)} {s : List VV} {h : ae} {Q : Pst}
def mkO (h : ae) (z len : Nat) (zero : List VV) (parts : List (Nat × Nat × VV)) : Option (VV × ae) :=
 match fill zero parts with
 | some cs => match vr h cs with
  | some (cc, h1) => some (.cv (.sl z (mm z len cc) true), h1)
  | none => none
 | none => none
def ja (s : List VV) : List (Nat × Nat × Opd) -> List (Nat × Nat × VV)
 | [] => []
 | (a, b, x) :: r => (a, b, ad s x) :: ja s r
theorem La {s : List VV} : ja s [] = [] := rfl
theorem Kj {s : List VV} {a b : Nat} {x : Opd} {r : List (Nat × Nat × Opd)} : ja s ((a, b, x) :: r) = (a, b, ad s x) :: ja s r := rfl
theorem tc (s : List VV) : ∀ l : List (Nat × Nat × Opd), l.map (fun p => (p.1, p.2.1, ad s p.2.2)) = ja s l
 | [] => rfl
 | (a, b, x) :: r => by simp only [List.map, ja, tc s r]
theorem xj {z len : Nat} {zero : List VV} {parts : List (Nat × Nat × Opd)} : ai h (ad s) (.mksl z len zero parts false) = mkO h z len zero (ja s parts) := by
 simp only [ai, mkO, tc, Bool.false_eq_true, if_false]
 grind
theorem afl {z len : Nat} {zero : List VV} {parts : List (Nat × Nat × Opd)} : XO F (⟨none, d, .mksl z len zero parts false⟩ :: r) ⟨s, h⟩ Q ↔ XV F (mkO h z len zero (ja s parts)) d r s Q := by
 rw [ig rfl, xj]
theorem adr {z len : Nat} {zero : List VV} {parts : List (Nat × Nat × Opd)} : XD F ((⟨none, d, .mksl z len zero parts false⟩, c) :: q) ⟨s, h⟩ Q ↔ XVD F (mkO h z len zero (ja s parts)) c h d q s Q := by
 rw [pi rfl, xj]
def bdO (zero : List VV) (parts : List (Nat × Nat × VV)) : Option VV := (fill zero parts).map .agg
theorem Gg {zero : List VV} {parts : List (Nat × Nat × Opd)} : ai h (ad s) (.build zero parts) = (bdO zero (ja s parts)).map (·, h) := by
 simp only [ai, bdO, tc]
 grind
theorem aab {zero : List VV} {parts : List (Nat × Nat × Opd)} : XO F (⟨none, d, .build zero parts⟩ :: r) ⟨s, h⟩ Q ↔ XW F (bdO zero (ja s parts)) h d r s Q := qj rfl Gg
theorem Yw {zero : List VV} {parts : List (Nat × Nat × Opd)} : XD F ((⟨none, d, .build zero parts⟩, c) :: q) ⟨s, h⟩ Q ↔ XWD F (bdO zero (ja s parts)) h d q s Q := jj rfl Gg
theorem amt {z0 c : CV} : mkO h 1 1 [.cv z0] [(0, 1, .cv c)] = some (.cv (.sl 1 [[c]] true), h) := by
 simp [mkO, fill, cellsOf, am, vr, clos, mm, List.range, List.range.loop]
theorem ame {z0 z1 c c1 : CV} : mkO h 1 2 [.cv z0, .cv z1] [(0, 1, .cv c), (1, 1, .cv c1)] = some (.cv (.sl 1 [[c], [c1]] true), h) := by
 simp [mkO, fill, cellsOf, am, vr, clos, mm, List.range, List.range.loop]
end
section
variable {F : Nat -> Option FnIR} {d : Option Nat} {x y z : Opd} {r : List Op1} {c : Cl} {q : List (Op1 × Cl)} {s : List VV} {h : ae} {Q : Pst}
def mi (v w u : VV) : Opd -> VV
 | .t 0 => v
 | .t 1 => w
 | .t _ => u
 | .c c => c
def iaO (h : ae) (z : Nat) (v w : VV) : Option (VV × ae) := ai h (mi v w .undef) (.iadL z (.t 0) (.t 1))
theorem afa {z : Nat} : XO F (⟨none, d, .iadL z x y⟩ :: r) ⟨s, h⟩ Q ↔ XV F (iaO h z (ad s x) (ad s y)) d r s Q := ig rfl
theorem ae7 {z : Nat} : XD F ((⟨none, d, .iadL z x y⟩, c) :: q) ⟨s, h⟩ Q ↔ XVD F (iaO h z (ad s x) (ad s y)) c h d q s Q := pi rfl
theorem alg {z : Nat} {els : List (List CV)} {ex : Bool} {k : IntKind} {j : Int} {e : List CV} (h0 : 0 <= j) (he : els[j.toNat]? = some e) : iaO h z (.cv (.sl z els ex)) (vi k j) = some (.rptr e, h) := by
 simp [iaO, ai, mi, qg, h0, he]
theorem zq {z id g off len : Nat} {els : List (List CV)} {fr ex : Bool} {k : IntKind} {j : Int} (h0 : 0 <= j) (ho : h[id]? = some (.arr z els g fr)) (hl : j.toNat < len) :
  iaO h z (.own id g off len ex) (vi k j) = some (.eptr id g (off + j.toNat) 0, h) := by
 simp [iaO, ai, mi, qg, h0, ho, hl]
def ldO (h : ae) (ag : Bool) (n : Nat) (v : VV) : Option (VV × ae) := ai h (mi v .undef .undef) (.ld ag n (.t 0))
theorem al6 {ag : Bool} {n : Nat} : XO F (⟨none, d, .ld ag n x⟩ :: r) ⟨s, h⟩ Q ↔ XV F (ldO h ag n (ad s x)) d r s Q := ig rfl
theorem al7 {ag : Bool} {n : Nat} : XD F ((⟨none, d, .ld ag n x⟩, c) :: q) ⟨s, h⟩ Q ↔ XVD F (ldO h ag n (ad s x)) c h d q s Q := pi rfl
theorem ij {c : CV} {r : List CV} : ldO h false 1 (.rptr (c :: r)) = some (.cv c, h) := by simp [ldO, ai, mi, dm]
theorem bg {id off : Nat} {cells : List VV} {fr : Bool} {c : VV} (ho : h[id]? = some (.box cells fr)) (hc : cells[off]? = some c) : ldO h false 1 (.ptr id off) = some (c, h) := by
 have : (cells.drop off).take 1 = [c] := by
  rw [List.take_one, List.head?_drop, hc]; rfl
 simp [ldO, ai, mi, ho, this, dm]
theorem Gd {id g i z off : Nat} {els : List (List CV)} {fr : Bool} {e : List CV} {c : CV} (ho : h[id]? = some (.arr z els g fr)) (he : els[i]? = some e) (hc : e[off]? = some c) : ldO h false 1 (.eptr id g i off) = some (.cv c, h) := by
 have : (e.drop off).take 1 = [c] := by
  rw [List.take_one, List.head?_drop, hc]; rfl
 simp [ldO, ai, mi, ho, he, this, dm]
def fdO (off : Nat) : VV -> Option VV
 | .ptr id o => some (.ptr id (o + off))
 | .eptr id g i o => some (.eptr id g i (o + off))
 | .rptr cells => some (.rptr (cells.drop off))
 | _ => none
theorem vm {off : Nat} : ai h (ad s) (.fad off x) = (fdO off (ad s x)).map (·, h) := by
 simp only [ai]
 generalize ad s x = v
 cases v <;> rfl
theorem ajc {off : Nat} : XO F (⟨none, d, .fad off x⟩ :: r) ⟨s, h⟩ Q ↔ XW F (fdO off (ad s x)) h d r s Q := qj rfl vm
theorem ah3 {off : Nat} : XD F ((⟨none, d, .fad off x⟩, c) :: q) ⟨s, h⟩ Q ↔ XWD F (fdO off (ad s x)) h d q s Q := jj rfl vm
theorem anw {off : Nat} {cells : List CV} : fdO off (.rptr cells) = some (.rptr (cells.drop off)) := rfl
theorem anm {id o off : Nat} : fdO off (.ptr id o) = some (.ptr id (o + off)) := rfl
theorem ann {id g i o off : Nat} : fdO off (.eptr id g i o) = some (.eptr id g i (o + off)) := rfl
def flO (ag : Bool) (off n : Nat) (v : VV) : Option VV := match v with
 | .agg cells => dm ag n ((cells.drop off).take n)
 | _ => none
theorem ab7 {ag : Bool} {off n : Nat} : ai h (ad s) (.fld ag off n x) = (flO ag off n (ad s x)).map (·, h) := by
 simp only [ai]
 generalize ad s x = v
 cases v <;> rfl
theorem akf {ag : Bool} {off n : Nat} : XO F (⟨none, d, .fld ag off n x⟩ :: r) ⟨s, h⟩ Q ↔ XW F (flO ag off n (ad s x)) h d r s Q := qj rfl ab7
theorem aix {ag : Bool} {off n : Nat} : XD F ((⟨none, d, .fld ag off n x⟩, c) :: q) ⟨s, h⟩ Q ↔ XWD F (flO ag off n (ad s x)) h d q s Q := jj rfl ab7
def bsO (h : ae) (v : VV) : Option VV := match gi h 1 v with
 | some els => (pp els).map fun l => txt l
 | none => none
theorem Hb : ai h (ad s) (.cvBS x) = (bsO h (ad s x)).map (·, h) := by
 simp only [ai, bsO]
 cases gi h 1 (ad s x) with
 | none => rfl
 | some els => simp only; cases pp els <;> rfl
theorem agn : XO F (⟨none, d, .cvBS x⟩ :: r) ⟨s, h⟩ Q ↔ XW F (bsO h (ad s x)) h d r s Q := qj rfl Hb
theorem adv : XD F ((⟨none, d, .cvBS x⟩, c) :: q) ⟨s, h⟩ Q ↔ XWD F (bsO h (ad s x)) h d q s Q := jj rfl Hb
theorem Em : ∀ l : List UInt8, pp (eB l) = some l
 | [] => rfl
 | b :: l => by
  have ih := Em l
  unfold pp at ih |-
  simp only [eB, List.map_cons, List.mapM_cons, br, Na] at ih |-
  simp_all
theorem ac5 {v : VV} {l : List UInt8} (hv : gi h 1 v = some (eB l)) : bsO h v = some (txt l) := by
 simp only [bsO, hv, Em, Option.map_some]
theorem ald {l : List UInt8} {ex : Bool} : bsO h (.cv (.sl 1 (eB l) ex)) = some (txt l) := ac5 (by simp [gi])
theorem ahg : bsO h ct = some (txt []) := rfl
def sbO (v : VV) : Option VV := match v with
 | .cv (.sc (.string t)) => some (.cv (.sl 1 (eB t.data.toList) false))
 | _ => none
theorem Vl : ai h (ad s) (.cvSB false x) = (sbO (ad s x)).map (·, h) := by
 simp only [ai]
 generalize ad s x = v
 cases v with
 | cv c => cases c with
  | sc u => cases u <;> rfl
  | sl _ _ _ => rfl
 | _ => rfl
theorem ag5 : XO F (⟨none, d, .cvSB false x⟩ :: r) ⟨s, h⟩ Q ↔ XW F (sbO (ad s x)) h d r s Q := qj rfl Vl
theorem adn : XD F ((⟨none, d, .cvSB false x⟩, c) :: q) ⟨s, h⟩ Q ↔ XWD F (sbO (ad s x)) h d q s Q := jj rfl Vl
theorem ajv {l : List UInt8} : sbO (txt l) = some (.cv (.sl 1 (eB l) false)) := rfl
def ama (x : Option VV) (dflt y : Nat) : Option Nat :=
 match x with
 | none => some dflt
 | some v => match qg v with
  | some i => if 0 <= i /\ i <= y then some i.toNat else none
  | none => none
def slO (h : ae) (z : Nat) (v : VV) (lo hi mx : Option VV) : Option (VV × ae) :=
 ai h (mi v .undef .undef) (.slL z (.t 0) (lo.map .c) (hi.map .c) (mx.map .c))
theorem Bn {ρ ρ' : Opd -> VV} (hc : ∀ v, ρ' (.c v) = v) (o : Option Opd) (a b : Nat) : bnd ρ o a b = bnd ρ' ((o.map ρ).map .c) a b := by
 cases o with
 | none => rfl
 | some o => simp only [bnd, Option.map_some, hc]
theorem ab9 {z : Nat} {lo hi mx : Option Opd} : ai h (ad s) (.slL z x lo hi mx) = slO h z (ad s x) (lo.map (ad s)) (hi.map (ad s)) (mx.map (ad s)) := by
 have hc : ∀ v, mi (ad s x) .undef .undef (.c v) = v := fun _ => rfl
 simp only [slO, ai]
 simp only [Bn hc lo, Bn hc hi, Bn hc mx, Option.isSome_map]
 rfl
theorem ajy {z : Nat} {lo hi mx : Option Opd} : XO F (⟨none, d, .slL z x lo hi mx⟩ :: r) ⟨s, h⟩ Q ↔ XV F (slO h z (ad s x) (lo.map (ad s)) (hi.map (ad s)) (mx.map (ad s))) d r s Q := by
 rw [ig rfl, ab9]
theorem ait {z : Nat} {lo hi mx : Option Opd} : XD F ((⟨none, d, .slL z x lo hi mx⟩, c) :: q) ⟨s, h⟩ Q ↔ XVD F (slO h z (ad s x) (lo.map (ad s)) (hi.map (ad s)) (mx.map (ad s))) c h d q s Q := by
 rw [pi rfl, ab9]
theorem amv {z : Nat} {els : List (List CV)} {ex : Bool} {k k' : IntKind} {a b : Int} (h1 : 0 <= a) (h2 : a <= b) (h3 : b <= els.length) :
  ∃ ex', slO h z (.cv (.sl z els ex)) (some (vi k a)) (some (vi k' b)) none = some (.cv (.sl z ((els.drop a.toNat).take (b.toNat - a.toNat)) ex'), h) := by
 have h4 : 0 <= b := by omega
 have h5 : b <= (els.length : Int) := h3
 have h6 : a <= max b 0 := by omega
 refine ⟨ex && b.toNat == els.length, ?_⟩
 simp [slO, ai, mi, lz, bnd, qg, h1, h4, h5, h6]
theorem Hn {l : List UInt8} {a n : Nat} : ((eB l).drop a).take n = eB ((l.drop a).take n) := by simp [eB, List.map_drop, List.map_take]
theorem yo {l : List UInt8} {i : Nat} {c : UInt8} (hc : l[i]? = some c) : (eB l)[i]? = some [.sc (.int .u8 c.toNat)] := by
 simp [eB, hc, br]
theorem ax {l : List UInt8} : (eB l).length = l.length := by simp [eB]
theorem agw {l : List UInt8} : jq h 1 (txt l) = some (eB l) := rfl
theorem Tg {z : Nat} {els : List (List CV)} {ex : Bool} : jq h z (.cv (.sl z els ex)) = some els := by simp [jq, gi]
end
def SlV (z : Nat) (els : List (List CV)) (v : VV) : Prop := (v = ct /\ els = []) \/ ∃ ex, v = .cv (.sl z els ex)
section
variable {z : Nat} {es : List (List CV)} {v : VV} {h : ae}
theorem SlV.nil : SlV z [] ct := .inl ⟨rfl, rfl⟩
theorem SlV.sl {ex : Bool} : SlV z es (.cv (.sl z es ex)) := .inr ⟨ex, rfl⟩
theorem SlV.ln (hv : SlV z es v) : lnO false v = some (vi .i64 es.length) := by
 rcases hv with ⟨rfl, rfl⟩ | ⟨ex, rfl⟩ <;> rfl
theorem SlV.ia (hv : SlV z es v) {k : IntKind} {j : Int} {e : List CV} (h0 : 0 <= j) (he : es[j.toNat]? = some e) : iaO h z v (vi k j) = some (.rptr e, h) := by
 rcases hv with ⟨rfl, rfl⟩ | ⟨ex, rfl⟩
 ·simp at he
 ·exact alg h0 he
theorem SlV.part (hv : SlV z es v) {k k' : IntKind} {a b : Int} (h1 : 0 <= a) (h2 : a <= b) (h3 : b <= es.length) :
  ∃ v', SlV z ((es.drop a.toNat).take (b.toNat - a.toNat)) v' /\ slO h z v (some (vi k a)) (some (vi k' b)) none = some (v', h) := by
 rcases hv with ⟨rfl, rfl⟩ | ⟨ex, rfl⟩
 ·have hb : b = 0 := by grind
  have ha : a = 0 := by omega
  subst hb ha
  exact ⟨ct, .inl ⟨rfl, by simp⟩, by simp [slO, ai, mi, lz, bnd, qg]⟩
 ·obtain ⟨ex', e⟩ := amv (h := h) (z := z) (els := es) (ex := ex) (k := k) (k' := k') h1 h2 h3
  exact ⟨_, .inr ⟨ex', rfl⟩, e⟩
theorem SlV.els (hv : SlV z es v) : gi h z v = some es := by
 rcases hv with ⟨rfl, rfl⟩ | ⟨ex, rfl⟩
 ·rfl
 ·simp [gi]
theorem SlV.src (hv : SlV z es v) : jq h z v = some es := by
 rcases hv with ⟨rfl, rfl⟩ | ⟨ex, rfl⟩
 ·rfl
 ·exact Tg
theorem SlV.bs {l : List UInt8} (hv : SlV 1 (eB l) v) : bsO h v = some (txt l) := ac5 hv.els
theorem SlV.clos {l as : List VV} {h1 : ae} (hv : SlV z es v) (hl : cf h l = some (as, h1)) : cf h (v :: l) = some (v :: as, h1) := by
 rcases hv with ⟨rfl, rfl⟩ | ⟨ex, rfl⟩ <;> simp [cf, gc, Go.Vm.clos, hl]
end
section
variable {F : Nat -> Option FnIR} {d : Option Nat} {r : List Op1} {s : List VV} {h : ae} {Q : Pst}
theorem ap {f : Nat} {args : List Opd} {as : List VV} {h1 hc : ae} {v w : VV} (ha : cf h (args.map (ad s)) = some (as, h1)) (hcall : call F f as [] = some (.ret v, hc)) (hr : au hc v = some w)
  (hk : XO F r ⟨df s d w, h1⟩ Q) (hf : f < Ar := by decide) : XO F (⟨none, d, .call f true args⟩ :: r) ⟨s, h⟩ Q := by
 refine (Vo (v := w) (h' := h1) (oy hf ?_)).mpr hk
 unfold du
 grind
theorem ao {f : Nat} {args : List Opd} {v : VV} {h' : ae} (hcall : call F f (args.map (ad s)) h = some (.ret v, h')) (hk : XO F r ⟨df s d v, h'⟩ Q) (hf : f < Ar := by decide) :
  XO F (⟨none, d, .call f false args⟩ :: r) ⟨s, h⟩ Q := by
 refine (Vo (v := v) (h' := h') (oy hf ?_)).mpr hk
 unfold du
 grind
theorem vx {c : Cl} {q : List (Op1 × Cl)} {f : Nat} {args : List Opd} {as : List VV} {hc : ae} {v w : VV} (ha : cf h (args.map (ad s)) = some (as, h)) (hcall : call F f as [] = some (.ret v, hc)) (hr : au hc v = some w)
  (hk : XD F q ⟨df s d w, h⟩ Q) (hf : f < Ar := by decide) : XD F ((⟨none, d, .call f true args⟩, c) :: q) ⟨s, h⟩ Q := by
 refine Lk (v := w) (oy hf ?_) hk
 unfold du
 grind
theorem Jb {q : List (Op1 × Cl)} {f : Nat} {args : List Opd} {as : List VV} {h1 hc : ae} {v w : VV} (ha : cf h (args.map (ad s)) = some (as, h1)) (hcall : call F f as [] = some (.ret v, hc)) (hr : au hc v = some w)
  (hk : XD F q ⟨df s d w, h1⟩ Q) (hf : f < Ar := by decide) : XD F ((⟨none, d, .call f true args⟩, .k) :: q) ⟨s, h⟩ Q := by
 refine Ok (v := w) (oy hf ?_) hk
 unfold du
 grind
theorem aa5 {n f : Nat} {as' as : List VV} {h1 hc : ae} {v w : VV} (hn : n = f + Ar) (ha : cf h as' = some (as, h1)) (hcall : call F f as [] = some (.ret v, hc)) (hr : au hc v = some w) :
  jv (call F) h n true as' = some (.ret w, if scalV w then h else h1) := by
 subst hn
 unfold jv Cx du
 grind
theorem Zk {c : Cl} {q : List (Op1 × Cl)} {n f : Nat} {args : List Opd} {as : List VV} {h1 hc : ae} {v w : VV} (ha : cf h (args.map (ad s)) = some (as, h1)) (hcall : call F f as [] = some (.ret v, hc)) (hr : au hc v = some w) (hw : scalV w = true)
  (hk : XD F q ⟨df s d w, h⟩ Q) (hn : n = f + Ar := by rfl) : XD F ((⟨none, d, .call n true args⟩, c) :: q) ⟨s, h⟩ Q := by
 have := aa5 hn ha hcall hr
 rw [if_pos hw] at this
 exact Lk this hk
theorem eh {c : CV} {as : List VV} {l : List VV} {h1 : ae} (hl : cf h l = some (as, h1)) : cf h (.cv c :: l) = some (.cv c :: as, h1) := by
 simp [cf, gc, clos, hl]
theorem mc : cf h [] = some ([], h) := rfl
end
def Buf (h0 : ae) (z : Nat) (els : List (List CV)) (v : VV) (h : ae) : Prop :=
 (els = [] /\ v = ct /\ h = h0) \/ (∃ g, v = .own h0.length g 0 els.length false /\ h = h0 ++ [.arr z els g false])
theorem Buf.nil (h0 : ae) (z : Nat) : Buf h0 z [] ct h0 := .inl ⟨rfl, rfl, rfl⟩
theorem Pg (h0 : ae) (o : VO) : (h0 ++ [o])[h0.length]? = some o := by simp
theorem abk (h0 : ae) (o o' : VO) : (h0 ++ [o]).set h0.length o' = h0 ++ [o'] := by simp
theorem Buf.len {h0 : ae} {z : Nat} {els : List (List CV)} {v : VV} {h : ae} (hb : Buf h0 z els v h) : lz v = some els.length := by
 rcases hb with ⟨rfl, rfl, rfl⟩ | ⟨g, rfl, rfl⟩ <;> rfl
theorem Buf.els {h0 : ae} {z : Nat} {els : List (List CV)} {v : VV} {h : ae} (hb : Buf h0 z els v h) : gi h z v = some els := by
 rcases hb with ⟨rfl, rfl, rfl⟩ | ⟨g, rfl, rfl⟩
 ·rfl
 ·simp [gi]
theorem Vy {h0 : ae} {z by_ : Nat} {zero : List CV} {els new : List (List CV)} {v : VV} {h : ae} {x y : Opd} {F : Nat -> Option FnIR} {d : Option Nat} {r : List Op1} {s : List VV} {Q : Pst}
  (hb : Buf h0 z els v h) (hx : ad s x = v) (hy : jq h z (ad s y) = some new) (h1 : (els.length + new.length) * by_ <= 35184372088832) (h2 : els.length + new.length <= 35184372088832)
  (hk : ∀ v' h', Buf h0 z (els ++ new) v' h' -> XO F r ⟨df s d v', h'⟩ Q) : XO F (⟨none, d, .app z by_ zero x y⟩ :: r) ⟨s, h⟩ Q := by
 rw [ig rfl]
 have hm : cz = 35184372088832 := rfl
 have hl : lz (ad s x) = some els.length := by rw [hx]; exact hb.len
 have hE : gi h z (ad s x) = some els := by rw [hx]; exact hb.els
 simp only [ai, hy, hl, hm, h1, h2, and_self, if_true]
 unfold XV
 by_cases hn : new = []
 ·grind
 ·simp only [if_neg hn]
  rcases hb with ⟨rfl, rfl, rfl⟩ | ⟨g, rfl, rfl⟩
  ·rw [hx]
   refine ⟨_, _, rfl, hk _ _ (.inr ⟨0, ?_, ?_⟩)⟩ <;> simp
  ·rw [hx]
   simp only [Pg, Nat.zero_add, Nat.le_refl, and_self, if_true, Bool.false_eq_true, if_false, List.drop_zero, List.take_length, abk]
   refine ⟨_, _, rfl, hk _ _ (.inr ⟨g + 1, ?_, ?_⟩)⟩
   ·grind
   ·rfl
theorem Buf.res {z : Nat} {els : List (List CV)} {v : VV} {h : ae} {h0 : ae} (hb : Buf h0 z els v h) (hn : els ≠ []) : au h v = some (.cv (.sl z els false)) := by
 rcases hb with ⟨e, _, _⟩ | ⟨g, rfl, rfl⟩
 ·grind
 ·simp [au, gc, clos]
theorem ajx {l : List VV} : bdO l [] = some (.agg l) := rfl
theorem am7 {a b : VV} {u v : CV} : bdO [a, b] [(0, 1, .cv u), (1, 1, .cv v)] = some (.agg [.cv u, .cv v]) := rfl
theorem am0 {a b c : VV} {u v w : CV} : bdO [a, b, c] [(0, 1, .cv u), (1, 1, .cv v), (2, 1, .cv w)] = some (.agg [.cv u, .cv v, .cv w]) := rfl
theorem Lu {h : ae} {z0 z1 : VV} {u w : CV} : mkO h 2 1 [z0, z1] [(0, 2, .agg [.cv u, .cv w])] = some (.cv (.sl 2 [[u, w]] true), h) := rfl
theorem af2 {h : ae} {z0 z1 z2 : VV} {u w t : CV} : mkO h 3 1 [z0, z1, z2] [(0, 3, .agg [.cv u, .cv w, .cv t])] = some (.cv (.sl 3 [[u, w, t]] true), h) := rfl
section
variable {F : Nat -> Option FnIR} {d : Option Nat} {x y z : Opd} {r : List Op1} {c : Cl} {q : List (Op1 × Cl)} {s : List VV} {h : ae} {Q : Pst}
theorem ab2 {zero : List VV} : XO F (⟨none, d, .alloc zero⟩ :: r) ⟨s, h⟩ Q ↔ XO F r ⟨df s d (.ptr h.length 0), h ++ [.box zero false]⟩ Q := uy rfl rfl
def bxO (h : ae) (n : Nat) (v : VV) : Option (VV × ae) := ai h (mi v .undef .undef) (.box n (.t 0))
theorem ai3 {n : Nat} : XO F (⟨none, d, .box n x⟩ :: r) ⟨s, h⟩ Q ↔ XV F (bxO h n (ad s x)) d r s Q := ig rfl
theorem Yj {v : VV} (hv : en v = true) : bxO h 1 v = some (.ptr h.length 0, h ++ [.box [v] false]) := by
 cases v <;> first | rfl | (simp [en] at hv)
theorem yn {n : Nat} {cs : List VV} (hn : cs.length = n) : bxO h n (.agg cs) = some (.ptr h.length 0, h ++ [.box cs false]) := by
 simp [bxO, ai, mi, cellsOf, hn]
def stO (h : ae) (n : Nat) (v w : VV) : Option (VV × ae) := ai h (mi v w .undef) (.st n (.t 0) (.t 1))
theorem al0 {n : Nat} : XO F (⟨none, d, .st n x y⟩ :: r) ⟨s, h⟩ Q ↔ XV F (stO h n (ad s x) (ad s y)) d r s Q := ig rfl
theorem ams {n : Nat} : XD F ((⟨none, d, .st n x y⟩, c) :: q) ⟨s, h⟩ Q ↔ XVD F (stO h n (ad s x) (ad s y)) c h d q s Q := pi rfl
theorem ly {n id : Nat} {cs cells : List VV} (hn : cs.length = n) (ho : h[id]? = some (.box cells false)) (hc : cells.length = n) : stO h n (.ptr id 0) (.agg cs) = some (.undef, h.set id (.box cs false)) := by
 have : am cells 0 cs = cs := by
  unfold am
  grind
 simp [stO, ai, mi, cellsOf, hn, ho, hc, this]
theorem Af {id off : Nat} {v : VV} {cells : List VV} (hv : en v = true) (ho : h[id]? = some (.box cells false)) (hc : off < cells.length) : stO h 1 (.ptr id off) v = some (.undef, h.set id (.box (cells.set off v) false)) := by
 have hs : am cells off [v] = cells.set off v := by
  unfold am
  simp only [List.length_singleton]
  rw [List.set_eq_take_append_cons_drop, if_pos hc, List.append_assoc, List.singleton_append]
 have h1 : off + 1 <= cells.length := hc
 have hcv : cellsOf v = some [v] := by cases v <;> first | rfl | (simp [en] at hv)
 simp [stO, ai, mi, hcv, ho, h1, hs]
theorem oa {n id : Nat} {cells : List VV} {fr : Bool} (ho : h[id]? = some (.box cells fr)) (hc : cells.length = n) : ldO h true n (.ptr id 0) = some (.agg cells, h) := by
 subst hc
 simp [ldO, ai, mi, ho, dm]
theorem Ve {P : VV -> ae -> Prop} {a m k n id : Nat} {cells : List VV} {fr : Bool} (ha : s.getD a .undef = .ptr id 0) (ho : h[id]? = some (.box cells fr)) (hn : cells.length = n) (hm : m < s.length) (hk : k < s.length)
  (hP : P (.tup [.agg cells, s.getD m .undef, s.getD k .undef]) h) : RQ [.cell a true n, .t m, .t k] P .ret ⟨s, h⟩ := by
 subst hn
 refine ⟨trivial, [.agg cells, s.getD m .undef, s.getD k .undef], ?_, hP⟩
 simp only [ke, yq, kw hm, kw hk, ha, ho, List.drop_zero, List.take_length, dm, if_true]
theorem bp {o : VO} : (h ++ [o])[h.length]? = some o := by simp
theorem nc {o o' : VO} : (h ++ [o]).set h.length o' = h ++ [o'] := by simp
theorem ai7 {a b u v : VV} : stO [.box [a, b] false] 2 (.ptr 0 0) (.agg [u, v]) = some (.undef, [.box [u, v] false]) := rfl
theorem aja {a b c u v w : VV} : stO [.box [a, b, c] false] 3 (.ptr 0 0) (.agg [u, v, w]) = some (.undef, [.box [u, v, w] false]) := rfl
theorem ab6 {a b u v : VV} : stO (h ++ [.box [a, b] false]) 2 (.ptr h.length 0) (.agg [u, v]) = some (.undef, h ++ [.box [u, v] false]) := by
 rw [ly (n := 2) (cells := [a, b]) rfl (by simp) rfl, nc]
theorem acw {a b c u v w : VV} : stO (h ++ [.box [a, b, c] false]) 3 (.ptr h.length 0) (.agg [u, v, w]) = some (.undef, h ++ [.box [u, v, w] false]) := by
 rw [ly (n := 3) (cells := [a, b, c]) rfl (by simp) rfl, nc]
theorem akm {a b : VV} {fr : Bool} : ldO (h ++ [.box [a, b] fr]) true 2 (.ptr h.length 0) = some (.agg [a, b], h ++ [.box [a, b] fr]) := oa bp rfl
theorem ahu {a b c : VV} {fr : Bool} : ldO (h ++ [.box [a, b, c] fr]) true 3 (.ptr h.length 0) = some (.agg [a, b, c], h ++ [.box [a, b, c] fr]) := oa bp rfl
theorem Yb {cells : List VV} {fr : Bool} {i : Nat} {v : VV} (hv : cells[i]? = some v) : ldO (h ++ [.box cells fr]) false 1 (.ptr h.length i) = some (v, h ++ [.box cells fr]) := bg bp hv
theorem akg {a b : CV} : ldO h true 2 (.rptr [a, b]) = some (.agg [.cv a, .cv b], h) := rfl
theorem acy {a b c : CV} : ldO h true 3 (.rptr [a, b, c]) = some (.agg [.cv a, .cv b, .cv c], h) := rfl
theorem As {x : Opd} {f : Nat} {args : List Opd} {as : List VV} {h1 hc : ae} {v w : VV} (hx : ad s x = .func f []) (ha : cf h (args.map (ad s)) = some (as, h1)) (hcall : call F f as [] = some (.ret v, hc))
  (hr : au hc v = some w) (hk : XO F r ⟨df s d w, h1⟩ Q) (hf : f < YB := by decide) : XO F (⟨none, d, .callv true x args⟩ :: r) ⟨s, h⟩ Q := by
 refine (Pw (v := w) (h' := h1) hx ?_ hf).mpr hk
 unfold du
 grind
end
def eu (h : ae) (z : Nat) (els : List (List CV)) (v : VV) : Prop :=
 (els = [] /\ v = ct) \/ (∃ id g, els ≠ [] /\ v = .own id g 0 els.length false /\ h[id]? = some (.arr z els g false))
theorem eu.nil (h : ae) (z : Nat) : eu h z [] ct := .inl ⟨rfl, rfl⟩
theorem eu.push {h : ae} {z : Nat} {els : List (List CV)} {v : VV} (hb : eu h z els v) (o : VO) : eu (h ++ [o]) z els v := by
 rcases hb with hb | ⟨id, g, hne, h1, h2⟩
 ·exact .inl hb
 ·refine .inr ⟨id, g, hne, h1, ?_⟩
  grind
theorem eu.setBox {h : ae} {z : Nat} {els : List (List CV)} {v : VV} (hb : eu h z els v) {id : Nat} {cells : List VV} {fr : Bool} (ho : h[id]? = some (.box cells fr)) (o : VO) : eu (h.set id o) z els v := by
 rcases hb with hb | ⟨id', g, hne, h1, h2⟩
 ·exact .inl hb
 ·refine .inr ⟨id', g, hne, h1, ?_⟩
  grind
theorem eu.els {h : ae} {z : Nat} {els : List (List CV)} {v : VV} (hb : eu h z els v) : gi h z v = some els := by
 rcases hb with ⟨rfl, rfl⟩ | ⟨id, g, hne, rfl, h2⟩
 ·rfl
 ·simp [gi, h2]
theorem eu.len {h : ae} {z : Nat} {els : List (List CV)} {v : VV} (hb : eu h z els v) : lz v = some els.length := by
 rcases hb with ⟨rfl, rfl⟩ | ⟨id, g, hne, rfl, h2⟩ <;> rfl
def slV (z : Nat) (els : List (List CV)) : VV := if els = [] then ct else .cv (.sl z els false)
theorem eu.res {h : ae} {z : Nat} {els : List (List CV)} {v : VV} (hb : eu h z els v) (hn : els ≠ []) : gc h v = some (.cv (.sl z els false), h.set (match v with | .own id _ _ _ _ => id | _ => 0) (match v with | .own _ g _ _ _ => .arr z els g true | _ => .box [] true)) := by
 rcases hb with ⟨e, _⟩ | ⟨id, g, hne, rfl, h2⟩
 ·grind
 ·simp [gc, clos, h2]
theorem eu.slV {h : ae} {z : Nat} {els : List (List CV)} {v : VV} (hb : eu h z els v) : ∃ h1, gc h v = some (Go.Vm.slV z els, h1) := by
 unfold Go.Vm.slV
 by_cases hn : els = []
 ·rw [if_pos hn]
  rcases hb with ⟨_, rfl⟩ | ⟨id, g, hne, rfl, h2⟩
  ·exact ⟨h, rfl⟩
  grind
 ·rw [if_neg hn]
  exact ⟨_, hb.res hn⟩
theorem Xb {z : Nat} {els : List (List CV)} : SlV z els (slV z els) := by
 unfold slV
 split
 ·rename_i e; exact .inl ⟨rfl, e⟩
 ·exact .inr ⟨_, rfl⟩
def Ad (w : VV) (v : VV) (h : ae) : Prop := au h v = some w
theorem Bk {z by_ : Nat} {zero : List CV} {els new : List (List CV)} {v : VV} {h : ae} {x y : Opd} {F : Nat -> Option FnIR} {d : Option Nat} {r : List Op1} {s : List VV} {Q : Pst}
  (hb : eu h z els v) (hx : ad s x = v) (hy : jq h z (ad s y) = some new) (h1 : (els.length + new.length) * by_ <= 35184372088832) (h2 : els.length + new.length <= 35184372088832)
  (hk : ∀ v' h', eu h' z (els ++ new) v' -> h.length <= h'.length -> (∀ (j : Nat) (o : VO), h[j]? = some o -> (∀ e g, o ≠ VO.arr z e g false) -> h'[j]? = some o) -> XO F r ⟨df s d v', h'⟩ Q) : XO F (⟨none, d, .app z by_ zero x y⟩ :: r) ⟨s, h⟩ Q := by
 rw [ig rfl]
 have hm : cz = 35184372088832 := rfl
 have hl : lz (ad s x) = some els.length := by rw [hx]; exact hb.len
 have hE : gi h z (ad s x) = some els := by rw [hx]; exact hb.els
 simp only [ai, hy, hl, hm, h1, h2, and_self, if_true]
 unfold XV
 by_cases hn : new = []
 ·grind
 ·simp only [if_neg hn]
  rcases hb with ⟨rfl, rfl⟩ | ⟨id, g, hne, rfl, h3⟩
  ·rw [hx]
   refine ⟨_, _, rfl, hk _ _ (.inr ⟨h.length, 0, by grind, ?_, ?_⟩) (by simp) (fun j o ho _ => ?_)⟩
   ·simp
   ·simp
   grind
  ·rw [hx]
   simp only [h3, Nat.zero_add, Nat.le_refl, and_self, if_true, Bool.false_eq_true, if_false, List.drop_zero, List.take_length]
   have hid : id < h.length := (List.getElem?_eq_some_iff.1 h3).1
   refine ⟨_, _, rfl, hk _ _ (.inr ⟨id, g + 1, by simp [hne], ?_, ?_⟩) (by simp) (fun j o ho hno => ?_)⟩
   ·grind
   ·grind
   grind
theorem Buf.toG {h0 : ae} {z : Nat} {els : List (List CV)} {v : VV} {h : ae} (hb : Buf h0 z els v h) (hn : els ≠ []) : eu h z els v := by
 rcases hb with ⟨e, _, _⟩ | ⟨g, rfl, rfl⟩
 ·grind
 ·exact .inr ⟨h0.length, g, hn, rfl, by simp⟩
theorem eu.close {h : ae} {z : Nat} {els : List (List CV)} {v : VV} (hb : eu h z els v) : Ad (Go.Vm.slV z els) v h := by
 obtain ⟨h1, e⟩ := hb.slV
 unfold Ad
 rcases hb with ⟨rfl, rfl⟩ | ⟨id, g, hne, rfl, h2⟩
 ·rfl
 ·simp only [au, e]; rfl
section
variable {F : Nat -> Option FnIR} {d : Option Nat} {x y : Opd} {r : List Op1} {c : Cl} {q : List (Op1 × Cl)} {s : List VV} {h : ae} {Q : Pst}
def ak7 (h : ae) (z len : Nat) (zero : List VV) (parts : List (Nat × Nat × VV)) : Option (VV × ae) :=
 match fill zero parts with
 | some cs => match vr h cs with
  | some (cc, h1) => some (.own h1.length 0 0 len true, h1 ++ [.arr z (mm z len cc) 0 false])
  | none => none
 | none => none
theorem Pj {z len : Nat} {zero : List VV} {parts : List (Nat × Nat × Opd)} : ai h (ad s) (.mksl z len zero parts true) = ak7 h z len zero (ja s parts) := by
 simp only [ai, ak7, tc, if_true]
 grind
theorem abh {z len : Nat} {zero : List VV} {parts : List (Nat × Nat × Opd)} : XO F (⟨none, d, .mksl z len zero parts true⟩ :: r) ⟨s, h⟩ Q ↔ XV F (ak7 h z len zero (ja s parts)) d r s Q := by
 rw [ig rfl, Pj]
theorem Zz {z len : Nat} {zero : List VV} {parts : List (Nat × Nat × Opd)} : XD F ((⟨none, d, .mksl z len zero parts true⟩, c) :: q) ⟨s, h⟩ Q ↔ XVD F (ak7 h z len zero (ja s parts)) c h d q s Q := by
 rw [pi rfl, Pj]
def mrO (h : ae) (v : VV) : Option (VV × ae) := ai h (mi v .undef .undef) (.mrk (.t 0))
theorem ajz : XO F (⟨none, d, .mrk x⟩ :: r) ⟨s, h⟩ Q ↔ XV F (mrO h (ad s x)) d r s Q := ig rfl
theorem ahr : XD F ((⟨none, d, .mrk x⟩, c) :: q) ⟨s, h⟩ Q ↔ XVD F (mrO h (ad s x)) c h d q s Q := pi rfl
theorem aib {id g off len : Nat} {els : List (List CV)} {ex : Bool} (ho : h[id]? = some (.arr 1 els g false)) : mrO h (.own id g off len ex) = some (.own id g off len ex, h) := by
 simp [mrO, ai, mi, ho]
theorem am6 {g off len : Nat} {els : List (List CV)} {ex : Bool} {t : ae} : mrO (.arr 1 els g false :: t) (.own 0 g off len ex) = some (.own 0 g off len ex, .arr 1 els g false :: t) := aib rfl
end
end Go.Vm
/-
 Vm: more ways to go on (own work).
-/
namespace Go.Vm
open Go
section
variable {F : Nat -> Option FnIR}
def NM (Mid : St -> Prop) : Pst := fun o st => o = .norm /\ Mid st
theorem ae1 {Mid : St -> Prop} {st : St} : NM Mid .norm st ↔ Mid st := ⟨fun h => h.2, fun h => ⟨rfl, h⟩⟩
def ajr (neg : Bool) : VV -> VV -> Option VV
 | .cv (.sc (.bool a)), .cv (.sc (.bool b)) => some (vb (if neg then !(a == b) else a == b))
 | _, _ => none
theorem ahx {a b : Bool} : ajr false (vb a) (vb b) = some (vb (a == b)) := rfl
theorem ahi {a b : Bool} : ajr true (vb a) (vb b) = some (vb (!(a == b))) := rfl
variable {d : Option Nat} {x y z : Opd} {r : List Op1} {c : Cl} {q : List (Op1 × Cl)} {s : List VV} {h : ae} {Q : Pst}
theorem ac3 {neg : Bool} : ai h (ad s) (.eqb neg x y) = (ajr neg (ad s x) (ad s y)).map (·, h) := by
 simp only [ai]
 generalize ad s x = a
 generalize ad s y = b
 cases a with
 | cv c => cases c with
  | sc u =>
   cases u with
   | bool t =>
    cases b with
    | cv c' => cases c' with
     | sc u' => cases u' <;> rfl
     | sl _ _ _ => rfl
    | _ => rfl
   | _ => rfl
  | sl _ _ _ => rfl
 | _ => rfl
theorem ah7 {neg : Bool} : XO F (⟨none, d, .eqb neg x y⟩ :: r) ⟨s, h⟩ Q ↔ XW F (ajr neg (ad s x) (ad s y)) h d r s Q := qj rfl ac3
theorem ajw {neg : Bool} : XD F ((⟨none, d, .eqb neg x y⟩, c) :: q) ⟨s, h⟩ Q ↔ XWD F (ajr neg (ad s x) (ad s y)) h d q s Q := jj rfl ac3
def unO (op : UnOp) : VV -> Option VV
 | .cv (.sc a) => (unV op a).map fun v => .cv (.sc v)
 | _ => none
theorem ahf {b : Bool} : unO .not (vb b) = some (vb (!b)) := rfl
theorem aho {op : UnOp} : ai h (ad s) (.un op x) = (unO op (ad s x)).map (·, h) := by
 simp only [ai]
 generalize ad s x = a
 cases a with
 | cv c => cases c with
  | sc u => simp only [unO]; cases unV op u <;> rfl
  | sl _ _ _ => rfl
 | _ => rfl
theorem alc {op : UnOp} : XO F (⟨none, d, .un op x⟩ :: r) ⟨s, h⟩ Q ↔ XW F (unO op (ad s x)) h d r s Q := qj rfl aho
theorem alz {op : UnOp} : XD F ((⟨none, d, .un op x⟩, c) :: q) ⟨s, h⟩ Q ↔ XWD F (unO op (ad s x)) h d q s Q := jj rfl aho
end
theorem bf {h h1 h2 : ae} {v c : VV} {l as : List VV} (hv : gc h v = some (c, h1)) (hl : cf h1 l = some (as, h2)) : cf h (v :: l) = some (c :: as, h2) := by
 simp [cf, hv, hl]
section
variable {z : Nat} {es : List (List CV)} {v : VV} {h : ae}
theorem SlV.upto (hv : SlV z es v) {k : IntKind} {b : Int} (h2 : 0 <= b) (h3 : b <= es.length) :
  ∃ v', SlV z (es.take b.toNat) v' /\ slO h z v none (some (vi k b)) none = some (v', h) := by
 rcases hv with ⟨rfl, rfl⟩ | ⟨ex, rfl⟩
 ·have hb : b = 0 := by grind
  subst hb
  exact ⟨ct, .inl ⟨rfl, by simp⟩, by simp [slO, ai, mi, lz, bnd, qg]⟩
 ·refine ⟨.cv (.sl z (es.take b.toNat) (ex && b.toNat == es.length)), .inr ⟨_, rfl⟩, ?_⟩
  simp [slO, ai, mi, lz, bnd, qg, h2, h3]
theorem SlV.from_ (hv : SlV z es v) {k : IntKind} {a : Int} (h2 : 0 <= a) (h3 : a <= es.length) :
  ∃ v', SlV z (es.drop a.toNat) v' /\ slO h z v (some (vi k a)) none none = some (v', h) := by
 rcases hv with ⟨rfl, rfl⟩ | ⟨ex, rfl⟩
 ·have hb : a = 0 := by grind
  subst hb
  exact ⟨ct, .inl ⟨rfl, by simp⟩, by simp [slO, ai, mi, lz, bnd, qg]⟩
 ·refine ⟨.cv (.sl z (es.drop a.toNat) ex), .inr ⟨_, rfl⟩, ?_⟩
  have e : (es.drop a.toNat).take (es.length - a.toNat) = es.drop a.toNat := List.take_of_length_le (by simp)
  simp [slO, ai, mi, lz, bnd, qg, h2, h3, e]
end
end Go.Vm
/-
 Vm: more ways to go on, 2 (own work).
-/
namespace Go.Vm
open Go
section
variable {F : Nat -> Option FnIR} {d : Option Nat} {x y : Opd} {r : List Op1} {c : Cl} {q : List (Op1 × Cl)} {s : List VV} {h : ae} {Q : Pst}
theorem aj1 {z by_ : Nat} {zero : List CV} {k k' : IntKind} {a : Nat} (hx : ad s x = vi k a) (hy : ad s y = vi k' a) (h1 : a * by_ <= 35184372088832) (h2 : a <= 35184372088832) :
  ai h (ad s) (.mks z by_ zero x y true) = some (.own h.length 0 0 a true, h ++ [.arr z (List.replicate a zero) 0 false]) := by
 have hm : cz = 35184372088832 := rfl
 have h3 : (a : Int) * (by_ : Int) <= 35184372088832 := by
  omega
 have h4 : (a : Int) <= 35184372088832 := by omega
 simp [ai, hx, hy, qg, hm, h3, h4]
theorem ajo {z by_ : Nat} {zero : List CV} {k k' : IntKind} {a : Nat} (hx : ad s x = vi k a) (hy : ad s y = vi k' a) (h1 : a * by_ <= 35184372088832) (h2 : a <= 35184372088832)
  (hk : XO F r ⟨df s d (.own h.length 0 0 a true), h ++ [.arr z (List.replicate a zero) 0 false]⟩ Q) : XO F (⟨none, d, .mks z by_ zero x y true⟩ :: r) ⟨s, h⟩ Q := by
 rw [ig rfl, aj1 hx hy h1 h2, kj]
 exact hk
end
def NM2 (Mid : List VV -> ae -> Prop) : Pst := fun o st => o = .norm /\ Mid st.s st.h
theorem aa0 {Mid : List VV -> ae -> Prop} {s : List VV} {h : ae} : NM2 Mid .norm ⟨s, h⟩ ↔ Mid s h := ⟨fun h => h.2, fun h => ⟨rfl, h⟩⟩
def NR2 (Mid : List VV -> ae -> Prop) (Q : Pst) : Pst := fun o st => match o with
 | .norm => Mid st.s st.h
 | o => Q o st
theorem abp {Mid : List VV -> ae -> Prop} {Q : Pst} {s : List VV} {h : ae} : NR2 Mid Q .norm ⟨s, h⟩ ↔ Mid s h := Iff.rfl
theorem aeq {Mid : List VV -> ae -> Prop} {Q : Pst} {st : St} : NR2 Mid Q .ret st ↔ Q .ret st := Iff.rfl
theorem aaz {Mid : List VV -> ae -> Prop} {Q : Pst} {st : St} {i : Nat} : NR2 Mid Q (.exit i) st ↔ Q (.exit i) st := Iff.rfl
theorem aaj {Mid : List VV -> ae -> Prop} {Q : Pst} {st : St} {i : Nat} : NR2 Mid Q (.goto i) st ↔ Q (.goto i) st := Iff.rfl
end Go.Vm
/-
 Vm: the rules by which a run is reckoned, for simp (own work).
-/
namespace Go.Vm
open Go
attribute [go_sem] aa0 abp aeq aaz aaj ang aln akc aez akk ad6 ad7 akq aiy alf ac7 al5 ana ali amo al8 amq ajd aim ago ajm ajb ael alw ane akb ah8 aij ahb ahw ah2 aej ai4 aih aev adr ae7 al7 ah3 ac1 zh Pu Zd ab2 al0 ams ai3 abh Zz ajz ahr am6 aab ai7 aja ab6 acw akm ahu akg acy Yb Nat.zero_add ajx am7 am0 Yw akf aix agn adv ald ahg ag5 adn ajv ajy ait Option.map_some Option.map_none afl afa al6 ajc ij anw anm ann List.drop_zero List.drop_succ_cons La Kj amt ame Lu af2 Tg afx af9 Xg kj aio alo akx aic ain amm al4 aju Nd af4 oi Cj ah ae6 agb ne_eq not_false_eq_true not_true_eq_false aca anc amh am8 anh anv Oa ajl aku alt amd aj7 Ou ahd alr amw akw aht amb aly alj Uy Og agd agh adm aff aj5 oh Av Lw Gb adh adz ad3 ae4 aeu af7 Zc Pz decide_true decide_false eq_self if_true if_false List.getElem?_cons_zero List.getElem?_cons_succ ah7 ajw ahx ahi alc alz ahf ae1 Bool.not_true Bool.not_false
end Go.Vm
/-
 Vm: how a law's arguments come in, and how it ends (own work).
-/
namespace Go.Vm
open Go Go.RowKit
def aaw (P : Program) : Nat -> TypeId -> Bool
 | 0, _ => false
 | n + 1, t => match P.underlying t with
  | some .bool => P.cellsOf t == 1
  | some (.int _) => P.cellsOf t == 1
  | some .string => P.cellsOf t == 1
  | some (.slice e) => P.cellsOf t == 1 && decide (0 < P.cellsOf e) && aaw P n e
  | some (.struct fs) => (fs.toList.foldl (fun o f => o.bind fun k => if f.offset = k then some (k + P.cellsOf f.type) else none) (some 0) == some (P.cellsOf t)) && fs.toList.all fun f => aaw P n f.type
  | _ => false
def DR (P : Program) {H : Type} : Nat → TypeId → DataW H → List CV → Prop
  | 0, _, _, _ => False
  | n + 1, t, d, cs => match P.underlying t with
    | some .bool => ∃ b, d = .lit (.bool b) ∧ cs = [.sc (.bool b)]
    | some (.int k) => ∃ x, d = .lit (.int k x) ∧ cs = [.sc (.int k x)] ∧ (Lit.int k x).wf = true
    | some .string => ∃ s : ByteArray, d = .lit (.string s.data.toList) ∧ cs = [.sc (.string s)] ∧ s.size ≤ maxLen
    | some (.slice e) => (d = .nil ∧ cs = [.sc (.slice none 0 0)]) ∨ ∃ ds rest els, d = .slice ds rest ∧ cs = [.sl (P.cellsOf e) els false] ∧ els.length = ds.length ∧ els.length ≤ maxLen ∧
        ∀ (i : Nat) (el : List CV) (y : DataW H), els[i]? = some el → ds[i]? = some y → el.length = P.cellsOf e ∧ DR P n e y el
    | some (.struct fs) => ∃ ds, d = .agg ds ∧ ds.length = fs.size ∧ cs.length = P.cellsOf t ∧
        ∀ (i : Nat) (f : Field) (y : DataW H), fs[i]? = some f → ds[i]? = some y → DR P n f.type y ((cs.drop f.offset).take (P.cellsOf f.type))
    | _ => False
section
variable {H : Type} {enc : TypeId × Value -> H} {P : Program} {w : World} {base : Nat} {sp : Nat -> Bool} {held : Bool}
def Rel (w : World) (cs : List Value) (ccs : List CV) : Prop := ccs.length = cs.length /\ ∀ (i : Nat) (v : Value) (c : CV), cs[i]? = some v -> ccs[i]? = some c -> CR w.cell? v c
theorem Rel.one {w : World} {v : Value} {c : CV} (h : CR w.cell? v c) : Rel w [v] [c] := by
 refine ⟨rfl, fun i v' c' hv hc => ?_⟩
 grind
theorem Gr : ∀ (fl : List Field) (k tot : Nat), fl.foldl (fun o f => o.bind fun k => if f.offset = k then some (k + P.cellsOf f.type) else none) (some k) = some tot -> k <= tot
 | [], k, tot, h => by grind
 | f :: r, k, tot, h => by
  simp only [List.foldl_cons, Option.bind_some] at h
  by_cases hf : f.offset = k
  ·rw [if_pos hf] at h
   have := Gr r _ _ h
   omega
  ·rw [if_neg hf] at h
   have none_none : ∀ l : List Field, l.foldl (fun (o : Option Nat) f => o.bind fun k => if f.offset = k then some (k + P.cellsOf f.type) else none) none = none := by
    intro l; induction l with
    | nil => rfl
    | cons _ _ ih => grind
   grind
theorem Iu {n fuel : Nat} {cs : List Value}
  (ih : ∀ (t : TypeId) (cs : List Value) (x : DataW H × List MemPlace), aaw P n t = true -> DataW.trod enc P w base sp held fuel t cs = some x -> ∃ ccs, Rel w cs ccs /\ DR P n t x.1 ccs) :
  ∀ (fl : List Field) (off : Nat) (ds : List (DataW H × List MemPlace)), fl.foldl (fun o f => o.bind fun k => if f.offset = k then some (k + P.cellsOf f.type) else none) (some off) = some cs.length ->
   (∀ f ∈ fl, aaw P n f.type = true) -> ds.length = fl.length ->
   (∀ (i : Nat) (f : Field), fl[i]? = some f -> DataW.trod enc P w base sp held fuel f.type ((cs.drop f.offset).take (P.cellsOf f.type)) = ds[i]?) ->
   ∃ ccs : List CV, ccs.length + off = cs.length /\ (∀ (i : Nat) (v : Value) (c : CV), cs[off + i]? = some v -> ccs[i]? = some c -> CR w.cell? v c) /\
    ∀ (i : Nat) (f : Field) (y : DataW H × List MemPlace), fl[i]? = some f -> ds[i]? = some y -> off <= f.offset /\ DR P n f.type y.1 ((ccs.drop (f.offset - off)).take (P.cellsOf f.type))
 | [], off, ds, ht, _, _, _ => by
  simp_all
 | f :: r, off, ds, ht, hok, hl, hd => by
  have hle := Gr (P := P) (f :: r) _ _ ht
  simp only [List.foldl_cons, Option.bind_some] at ht
  by_cases hf : f.offset = off
  ·rw [if_pos hf] at ht
   have hle2 := Gr (P := P) r _ _ ht
   cases ds with
   | nil => simp at hl
   | cons y ys =>
    obtain ⟨fcs, ⟨h1, h2⟩, h3⟩ := ih f.type _ y (hok f (by simp)) (hd 0 f rfl)
    obtain ⟨rcs, h4, h5, h6⟩ := Iu ih r (off + P.cellsOf f.type) ys ht (fun g hg => hok g (by simp [hg])) (by grind) (fun i g hg => hd (i + 1) g (by grind))
    have hlen : fcs.length = P.cellsOf f.type := by
     grind
    refine ⟨fcs ++ rcs, by grind, fun i v c hv hc => ?_, fun i g y' hg hy => ?_⟩
    ·grind
    ·cases i with
     | zero =>
      simp at hg hy
      subst hg hy
      refine ⟨by omega, ?_⟩
      rw [hf, Nat.sub_self, List.drop_zero, List.take_append_of_le_length (by omega), List.take_of_length_le (by omega)]
      exact h3
     | succ i =>
      obtain ⟨a1, a2⟩ := h6 i g y' (by grind) (by grind)
      refine ⟨by omega, ?_⟩
      have e : g.offset - off = fcs.length + (g.offset - (off + P.cellsOf f.type)) := by omega
      rw [e, <- List.drop_drop, List.drop_left]
      exact a2
  ·rw [if_neg hf] at ht
   have none_none : ∀ l : List Field, l.foldl (fun (o : Option Nat) f => o.bind fun k => if f.offset = k then some (k + P.cellsOf f.type) else none) none = none := by
    intro l; induction l with
    | nil => rfl
    | cons _ _ ih => grind
   grind
theorem se {base : Nat} {a : Addr} {n : Nat} {cs : List Value} (h : w.cells? base a n = some cs) : cs.length = n /\ ∀ i, i < n -> w.cell? (a.add i) = cs[i]? := by
 unfold World.cells? at h
 split at h
 ·refine ⟨by simpa using mapM_some_length h, fun i hi => ?_⟩
  exact mapM_some_get h i i (by simp [hi])
 ·cases h
theorem Lp (hsp0 : ∀ b, sp b = true) : ∀ (n fuel : Nat) (t : TypeId) (cs : List Value) (x : DataW H × List MemPlace), aaw P n t = true → DataW.trod enc P w base sp held fuel t cs = some x → ∃ ccs, Rel w cs ccs ∧ DR P n t x.1 ccs
  | 0, _, _, _, _, hk, _ => by cases hk
  | n + 1, fuel, t, cs, x, hk, h => by
    simp only [aaw] at hk
    simp only [DR]
    cases hu : P.underlying t with
    | none => rw [hu] at hk; cases hk
    | some d =>
      rw [hu] at hk
      cases d with
      | bool =>
        obtain ⟨b, rfl, rfl⟩ := DataW.trod_bool hu h
        exact ⟨[.sc (.bool b)], Rel.one (.sc _ rfl), _, rfl, rfl⟩
      | int k =>
        obtain ⟨m, rfl, rfl, hw⟩ := DataW.trod_int hu h
        exact ⟨[.sc (.int k m)], Rel.one (.sc _ rfl), _, rfl, rfl, hw⟩
      | string =>
        obtain ⟨s, rfl, rfl, hs⟩ := DataW.trod_string hu h
        exact ⟨[.sc (.string s)], Rel.one (.sc _ rfl), _, rfl, rfl, hs⟩
      | slice e =>
        simp only [Bool.and_eq_true, decide_eq_true_eq] at hk
        rcases DataW.trod_slice hu h with ⟨rfl, rfl⟩ | ⟨a, len, cap, elems, rest, m, rfl, rfl, rfl, hb, hl, hm, hlen, hel, hsp, hns⟩
        · exact ⟨[.sc (.slice none 0 0)], Rel.one (.sc _ rfl), .inl ⟨rfl, rfl⟩⟩
        · have key : ∀ i, i < len → ∃ el cv y, elems[i]? = some y ∧ w.cells? base (a.add (i * P.cellsOf e)) (P.cellsOf e) = some el ∧ Rel w el cv ∧ DR P n e y.1 cv := by
            intro i hi
            have hi' : i < elems.length := by omega
            have := hel i hi
            rw [List.getElem?_eq_getElem hi', Option.bind_eq_some_iff] at this
            obtain ⟨el, h1, h2⟩ := this
            obtain ⟨cv, h3, h4⟩ := Lp hsp0 n m e el _ hk.2 h2
            exact ⟨el, cv, _, List.getElem?_eq_getElem hi', h1, h3, h4⟩
          let els := (List.range len).map fun i => if hi : i < len then Classical.choose (Classical.choose_spec (key i hi)) else []
          have hels : ∀ i e', els[i]? = some e' → ∃ hi : i < len, e' = Classical.choose (Classical.choose_spec (key i hi)) := by
            intro i e' he
            have hi : i < len := by
              have := (List.getElem?_eq_some_iff.1 he).1
              simpa [els] using this
            refine ⟨hi, ?_⟩
            simp only [els, List.getElem?_map, List.getElem?_range hi, Option.map_some, dif_pos hi, Option.some.injEq] at he
            exact he.symm
          have hll : els.length = len := by simp [els]
          have val : ∀ i e', els[i]? = some e' → ∃ el y, i < len ∧ elems[i]? = some y ∧ w.cells? base (a.add (i * P.cellsOf e)) (P.cellsOf e) = some el ∧ Rel w el e' ∧ DR P n e y.1 e' := by
            intro i e' he
            obtain ⟨hi, rfl⟩ := hels i e' he
            obtain ⟨y, h1, h2, h3, h4⟩ := Classical.choose_spec (Classical.choose_spec (key i hi))
            exact ⟨_, y, hi, h1, h2, h3, h4⟩
          have spot : cap = 0 ∨ a.spot = none := by
            by_cases hl0 : len = 0
            · by_cases hc0 : cap = 0
              · exact .inl hc0
              · right
                obtain ⟨h1, h2⟩ := hsp (hsp0 _)
                have := h2 0 (by omega)
                rw [hl0, Nat.zero_add, Nat.zero_mul] at this
                have hr : 0 < rest.length := by omega
                rw [List.getElem?_eq_getElem hr, Option.bind_eq_some_iff] at this
                obtain ⟨el, h3, _⟩ := this
                obtain ⟨h4, h5⟩ := se h3
                have := h5 0 hk.1.2
                rw [List.getElem?_eq_getElem (by omega)] at this
                simpa [Addr.add] using World.cell?_spot this
            · right
              obtain ⟨el, cv, y, _, h1, _⟩ := key 0 (by omega)
              obtain ⟨h4, h5⟩ := se h1
              have := h5 0 hk.1.2
              rw [List.getElem?_eq_getElem (by omega)] at this
              simpa [Addr.add] using World.cell?_spot this
          have cell : ∀ i e', els[i]? = some e' → ∀ j c, e'[j]? = some c → ∃ v, w.cell? ⟨a.block, a.off + i * P.cellsOf e + j, none⟩ = some v ∧ CR w.cell? v c := by
            intro i e' he j c hj
            obtain ⟨el, y, hi, _, h2, ⟨h3, h3'⟩, _⟩ := val i e' he
            obtain ⟨h4, h5⟩ := se h2
            have hs : a.spot = none := spot.resolve_left (by omega)
            have hjl : j < el.length := by rw [← h3]; exact (List.getElem?_eq_some_iff.1 hj).1
            have := h5 j (by omega)
            rw [List.getElem?_eq_getElem hjl, de hs, de rfl] at this
            exact ⟨_, this, h3' j _ c (List.getElem?_eq_getElem hjl) hj⟩
          refine ⟨[.sl (P.cellsOf e) els false], Rel.one ?_, .inr ⟨elems.map (·.1), rest.map (·.1), els, rfl, rfl, by simp [hll, hlen], by omega, ?_⟩⟩
          · have := CR.sl (σ := w.cell?) a cap (P.cellsOf e) els false (fun i j => (w.cell? ⟨a.block, a.off + i * P.cellsOf e + j, none⟩).getD undef) spot (by omega) (fun e => by cases e) hk.1.2 ?_ ?_ ?_
            · rw [hll] at this; exact this
            · intro e' he
              obtain ⟨i, hi⟩ := List.getElem?_of_mem he
              obtain ⟨el, y, _, _, h2, ⟨h3, _⟩, _⟩ := val i e' hi
              rw [h3]; exact (se h2).1
            · intro i e' he j c hj
              obtain ⟨v, hv, _⟩ := cell i e' he j c hj
              rw [hv]; rfl
            · intro i e' he j c hj
              obtain ⟨v, hv, hr⟩ := cell i e' he j c hj
              rw [hv]; exact hr
          · intro i e' y he hy
            obtain ⟨el, y', _, h1, h2, ⟨h3, _⟩, h4⟩ := val i e' he
            rw [List.getElem?_map, h1] at hy
            cases hy
            exact ⟨by rw [h3]; exact (se h2).1, h4⟩
      | struct fs =>
        simp only [Bool.and_eq_true, beq_iff_eq, List.all_eq_true] at hk
        obtain ⟨xs, m, rfl, rfl, hcl, hxl, hxs⟩ := DataW.trod_struct hu h
        obtain ⟨ccs, h1, h2, h3⟩ := Iu (cs := cs) (fun t cs x => Lp hsp0 n m t cs x) fs.toList 0 xs (by rw [hcl]; exact hk.1) hk.2 (by simpa using hxl) (fun i f hf => hxs i f (by simpa using hf))
        refine ⟨ccs, ⟨by simpa using h1, fun i v c hv hc => h2 i v c (by rw [Nat.zero_add]; exact hv) hc⟩, xs.map (·.1), rfl, by simpa using hxl, by rw [← hcl]; simpa using h1, fun i f y hf hy => ?_⟩
        rw [List.getElem?_map] at hy
        cases hx : xs[i]? with
        | none => rw [hx] at hy; cases hy
        | some z =>
          rw [hx] at hy; cases hy
          have := (h3 i f z (by simpa using hf) hx).2
          simpa using this
      | _ => cases hk
def Up (P : Program) (t : TypeId) : Bool := match P.underlying t with
 | some (.struct _) => true
 | _ => false
def DV (P : Program) (t : TypeId) (d : DataW H) (u : VV) : Prop := ∃ ccs, DR P 8 t d ccs /\ if Up P t then u = .agg (ccs.map .cv) else ∃ c, ccs = [c] /\ u = .cv c
theorem arg_in (hsp0 : ∀ b, sp b = true) {r : Reach} {b : Nat} {t : TypeId} {v : Value} {d : DataW H} {ps : List MemPlace} (hk : aaw P 8 t = true) (ho : Value.okWide P w r b t v) (h : DataW.Trod enc P w base sp held t v d ps) {β : Nat -> Option Loc} :
  ∃ u, VR w.cell? β v u /\ DV P t d u := by
 obtain ⟨fuel, h⟩ := h
 obtain ⟨ccs, ⟨h1, h2⟩, h3⟩ := Lp hsp0 8 fuel t _ _ hk h
 unfold DV Up
 cases hu : P.underlying t with
 | none => simp [aaw, hu] at hk
 | some ty =>
  have one : ∀ x : Value, v.cells = #[x] -> v = x -> ∃ u, VR w.cell? β v u /\ ∃ ccs, DR P 8 t d ccs /\ ∃ c, ccs = [c] /\ u = .cv c := by
   intro x hx hvx
   subst hvx
   rw [hx] at h1 h2
   match ccs, h1 with
   | [c], _ => exact ⟨.cv c, .cv _ _ (h2 0 v c rfl rfl), [c], h3, c, rfl, rfl⟩
  cases ty with
  | struct fs =>
   simp only [Value.okWide, hu] at ho
   obtain ⟨cs, rfl, hcs, _⟩ := ho
   refine ⟨.agg (ccs.map .cv), .agg _ _ (by simpa [Value.cells] using h1.symm) (fun c hc => ?_) (fun i v c hv hc => ?_), ccs, h3, by simp⟩
   ·obtain ⟨q, _, rfl⟩ := List.mem_map.1 hc; rfl
   ·rw [List.getElem?_map] at hc
    cases hq : ccs[i]? with
    | none => grind
    | some q => rw [hq] at hc; cases hc; exact .cv _ _ (h2 i v q (by simpa [Value.cells] using hv) hq)
  | bool =>
   simp only [Bool.false_eq_true, if_false]
   obtain ⟨x, rfl⟩ := WideShapes.okWide_bool hu ho
   exact one _ rfl rfl
  | int k =>
   simp only [Bool.false_eq_true, if_false]
   obtain ⟨x, rfl⟩ := WideShapes.okWide_int hu ho
   exact one _ rfl rfl
  | string =>
   simp only [Bool.false_eq_true, if_false]
   obtain ⟨x, rfl⟩ := WideShapes.okWide_string hu ho
   exact one _ rfl rfl
  | slice e =>
   simp only [Bool.false_eq_true, if_false]
   obtain ⟨x, y, z, rfl⟩ := WideShapes.okWide_slice hu ho
   exact one _ rfl rfl
  | _ => simp [aaw, hu] at hk
end
theorem entry {P : Program} {F : Nat -> Option FnIR} (hT : Sw P F) {n : Nat} {rargs : Array Value} {args : List VV} {w : World} (hl : rargs.size = args.length)
  (hr : ∀ (i : Nat) (v : Value) (u : VV), rargs[i]? = some v -> args[i]? = some u -> VR w.cell? noβ v u) {h' : ae} (hc : call F n args [] = some (.ret (.cv (.sc (.bool true))), h')) (hn : n < YB := by decide) :
  Calls P n rargs w fun e w' => e = .returned (.bool true) /\ Below w.heap.size w w' := by
 obtain ⟨m, hm⟩ := pv.mp hc
 refine ((ud hT m).go n args [] _ h' hn hm rargs (· < w.heap.size) w.cell? noβ w hl hr ?_).mono ?_
 ·exact ⟨fun b hb => hb, fun a v h => h, (fun id o ho => by simp at ho), (fun id L hL => by cases hL), (fun id o L ho => by simp at ho), (fun id id' o o' L L' _ ho => by simp at ho)⟩
 ·rintro e w' ⟨σ', β', rv, hF, hW, ⟨v, hv, rfl, hV⟩ | ⟨v, hv, _⟩⟩
  ·cases hv
   obtain ⟨rfl, _⟩ := hV.sc_inv
   exact ⟨rfl, hF.os, hF.tape, hF.output, hF.size, fun k hk => hF.prot k hk hk⟩
  ·cases hv
end Go.Vm
/-
 Vm: what the arguments of a law are (own work).
-/
namespace Go.Vm
open Go Go.RowKit
section
variable {H : Type} {P : Program} {t e : TypeId} {d : DataW H} {u : VV} {cs : List CV} {n : Nat}
theorem acb {k : IntKind} (hu : P.underlying t = some (.int k)) (h : DR P (n + 1) t d cs) : ∃ x, d = .lit (.int k x) /\ cs = [.sc (.int k x)] /\ (Lit.int k x).wf = true := by
 simpa only [DR, hu] using h
theorem aa7 (hu : P.underlying t = some (.slice e)) (h : DR P (n + 1) t d cs) : (d = .nil /\ cs = [.sc (.slice none 0 0)]) \/ ∃ ds rest els, d = .slice ds rest /\ cs = [.sl (P.cellsOf e) els false] /\ els.length = ds.length /\ els.length <= maxLen /\
  ∀ (i : Nat) (el : List CV) (y : DataW H), els[i]? = some el -> ds[i]? = some y -> el.length = P.cellsOf e /\ DR P n e y el := by
 simpa only [DR, hu] using h
theorem ai0 {x : Int} (h : (Lit.int .u8 x).wf = true) : ∃ b : UInt8, x = b.toNat := by
 have := bounds_u8 h
 refine ⟨UInt8.ofNat x.toNat, ?_⟩
 rw [UInt8.toNat_ofNat']
 omega
theorem aa6 (hu : P.underlying t = some (.slice e)) (he : P.underlying e = some (.int .u8)) (hc : P.cellsOf e = 1) (h : DR P (n + 2) t d cs) : ∃ (l : List UInt8) (c : CV), cs = [c] ∧ SlV 1 (eB l) (.cv c) ∧ l.length ≤ maxLen ∧
    ((d = .nil ∧ l = []) ∨ ∃ ds rest, d = .slice ds rest ∧ ds.length = l.length) := by
  rcases aa7 hu h with ⟨rfl, rfl⟩ | ⟨ds, rest, els, rfl, rfl, h1, h2, h3⟩
  · exact ⟨[], _, rfl, .inl ⟨rfl, rfl⟩, by simp, .inl ⟨rfl, rfl⟩⟩
  · have key : ∀ el ∈ els, ∃ b : UInt8, el = br b := by
      intro el hel
      obtain ⟨i, hi⟩ := List.getElem?_of_mem hel
      have hlt : i < ds.length := by grind
      obtain ⟨h4, h5⟩ := h3 i el _ hi (List.getElem?_eq_getElem hlt)
      obtain ⟨x, _, rfl, hw⟩ := acb he h5
      obtain ⟨b, rfl⟩ := ai0 hw
      exact ⟨b, rfl⟩
    have all : ∀ els : List (List CV), (∀ el ∈ els, ∃ b : UInt8, el = br b) → ∃ l : List UInt8, els = eB l := by
      intro els
      induction els with
      | nil => exact fun _ => ⟨[], rfl⟩
      | cons x r ih =>
        intro hk
        obtain ⟨b, rfl⟩ := hk x (by simp)
        obtain ⟨l, rfl⟩ := ih fun el hel => hk el (by simp [hel])
        exact ⟨b :: l, rfl⟩
    obtain ⟨l, rfl⟩ := all els key
    rw [ax] at h1 h2
    rw [hc]
    exact ⟨l, _, rfl, .inr ⟨_, rfl⟩, h2, .inr ⟨ds, rest, rfl, h1.symm⟩⟩
theorem Nz (hs : Up P t = false) (h : DV P t d u) : ∃ c, DR P 8 t d [c] /\ u = .cv c := by
 obtain ⟨ccs, h1, h2⟩ := h
 grind
theorem aig {k : IntKind} (hu : P.underlying t = some (.int k)) (h : DV P t d u) : ∃ x, u = vi k x /\ (Lit.int k x).wf = true := by
 obtain ⟨c, h1, rfl⟩ := Nz (by simp only [Up, hu]) h
 obtain ⟨x, _, h2, h3⟩ := acb hu h1
 grind
theorem amp (hu : P.underlying t = some (.int .u8)) (h : DV P t d u) : ∃ b : UInt8, u = vi .u8 b.toNat := by
 obtain ⟨x, rfl, hw⟩ := aig hu h
 obtain ⟨b, rfl⟩ := ai0 hw
 grind
theorem Za (hu : P.underlying t = some (.slice e)) (he : P.underlying e = some (.int .u8)) (hc : P.cellsOf e = 1) (h : DV P t d u) : ∃ l : List UInt8, SlV 1 (eB l) u /\ l.length <= maxLen := by
 obtain ⟨c, h1, rfl⟩ := Nz (by simp only [Up, hu]) h
 obtain ⟨l, c', h2, h3, h4, _⟩ := aa6 hu he hc h1
 grind
end
theorem rel_list {σ : gq} {β : Nat -> Option Loc} {vs : List Value} {us : List VV} (h : ∀ (i : Nat) (v : Value) (u : VV), vs[i]? = some v -> us[i]? = some u -> VR σ β v u) : ∀ (i : Nat) (v : Value) (u : VV), vs.toArray[i]? = some v -> us[i]? = some u -> VR σ β v u :=
 fun i v u hv hu => h i v u (by grind) hu
theorem rel_cons {σ : gq} {β : Nat -> Option Loc} {v0 : Value} {u0 : VV} {vs : List Value} {us : List VV} (h0 : VR σ β v0 u0) (h : ∀ (i : Nat) (v : Value) (u : VV), vs[i]? = some v -> us[i]? = some u -> VR σ β v u) :
  ∀ (i : Nat) (v : Value) (u : VV), (v0 :: vs)[i]? = some v -> (u0 :: us)[i]? = some u -> VR σ β v u := by
 grind
theorem rel_none {σ : gq} {β : Nat -> Option Loc} : ∀ (i : Nat) (v : Value) (u : VV), ([] : List Value)[i]? = some v -> ([] : List VV)[i]? = some u -> VR σ β v u := fun i v u hv => by simp at hv
end Go.Vm
/-
 Vm: more ways to go on, 3 (own work).
-/
namespace Go.Vm
open Go
section
variable {F : Nat -> Option FnIR} {d : Option Nat} {x y : Opd} {c : Cl} {q : List (Op1 × Cl)} {s : List VV} {h : ae} {Q : Pst}
end
theorem abw {F : Nat -> Option FnIR} {d : Option Nat} {q : List (Op1 × Cl)} {s : List VV} {h : ae} {Q : Pst} {zero : List VV} : XD F ((⟨none, d, .alloc zero⟩, .k) :: q) ⟨s, h⟩ Q ↔ XD F q ⟨df s d (.ptr h.length 0), h ++ [.box zero false]⟩ Q :=
 (pi rfl).trans Zd
end Go.Vm
/-
 Vm: pointers, arrays in boxes (own work).
-/
namespace Go.Vm
open Go
section
variable {F : Nat -> Option FnIR} {d : Option Nat} {x y z : Opd} {r : List Op1} {c : Cl} {q : List (Op1 × Cl)} {s : List VV} {h : ae} {Q : Pst}
def nkO (v : VV) : Option VV := match qr v with
 | some false => match v with
  | .ptr _ _ | .eptr _ _ _ _ | .rptr _ | .func _ _ | .iface _ _ => some v
  | _ => none
 | _ => none
theorem zd : ai h (ad s) (.nilck x) = (nkO (ad s x)).map (·, h) := by
 simp only [ai, nkO]
 grind
theorem aao : XO F (⟨none, d, .nilck x⟩ :: r) ⟨s, h⟩ Q ↔ XW F (nkO (ad s x)) h d r s Q := qj rfl zd
theorem abr : XD F ((⟨none, d, .nilck x⟩, c) :: q) ⟨s, h⟩ Q ↔ XWD F (nkO (ad s x)) h d q s Q := jj rfl zd
theorem anx {a b : Nat} : nkO (.ptr a b) = some (.ptr a b) := rfl
theorem ank {a b e f : Nat} : nkO (.eptr a b e f) = some (.eptr a b e f) := rfl
theorem ano {l : List CV} : nkO (.rptr l) = some (.rptr l) := rfl
def enO (k : NK) (neg : Bool) (v : VV) : Option VV := (lg k v).map fun t => vb (if neg then !t else t)
theorem acr {k : NK} {neg : Bool} : ai h (ad s) (.eqn k neg x) = (enO k neg (ad s x)).map (·, h) := by
 simp only [ai, enO]
 grind
theorem aj3 {k : NK} {neg : Bool} : XO F (⟨none, d, .eqn k neg x⟩ :: r) ⟨s, h⟩ Q ↔ XW F (enO k neg (ad s x)) h d r s Q := qj rfl acr
theorem ah6 {k : NK} {neg : Bool} : XD F ((⟨none, d, .eqn k neg x⟩, c) :: q) ⟨s, h⟩ Q ↔ XWD F (enO k neg (ad s x)) h d q s Q := jj rfl acr
theorem am3 {neg : Bool} {a b : Nat} : enO .ptr neg (.ptr a b) = some (vb neg) := by cases neg <;> rfl
theorem aml {neg : Bool} : enO .ptr neg (.cv (.sc (.pointer none))) = some (vb (!neg)) := by cases neg <;> rfl
theorem alm {neg : Bool} {id g off len : Nat} {ex : Bool} : enO .slice neg (.own id g off len ex) = some (vb neg) := by cases neg <;> rfl
theorem alb {neg : Bool} {z : Nat} {els : List (List CV)} {ex : Bool} : enO .slice neg (.cv (.sl z els ex)) = some (vb neg) := by cases neg <;> rfl
theorem alu {neg : Bool} : enO .slice neg ct = some (vb (!neg)) := by cases neg <;> rfl
def saO (h : ae) (n z : Nat) (v : VV) (lo hi : Option VV) : Option (VV × ae) := ai h (mi v .undef .undef) (.slA n z (.t 0) (lo.map .c) (hi.map .c))
theorem aiu {n z : Nat} {lo hi : Option Opd} : ai h (ad s) (.slA n z x lo hi) = saO h n z (ad s x) (lo.map (ad s)) (hi.map (ad s)) := by
 have hc : ∀ v, mi (ad s x) .undef .undef (.c v) = v := fun _ => rfl
 simp only [saO, ai]
 simp only [Bn hc lo, Bn hc hi]
 rfl
theorem ajp {n z : Nat} {lo hi : Option Opd} : XO F (⟨none, d, .slA n z x lo hi⟩ :: r) ⟨s, h⟩ Q ↔ XV F (saO h n z (ad s x) (lo.map (ad s)) (hi.map (ad s))) d r s Q := by
 rw [ig rfl, aiu]
theorem Ix {n z id off : Nat} {cells : List VV} {fr : Bool} (ho : h[id]? = some (.box cells fr)) (hl : off + n * z <= cells.length) : saO h n z (.ptr id off) none none = some (.ob id off n z true, h) := by
 simp [saO, ai, mi, bnd, ho, hl]
def cpO (h : ae) (z : Nat) (v w : VV) : Option (VV × ae) := ai h (mi v w .undef) (.cpy z (.t 0) (.t 1))
theorem akl {z : Nat} : XO F (⟨none, d, .cpy z x y⟩ :: r) ⟨s, h⟩ Q ↔ XV F (cpO h z (ad s x) (ad s y)) d r s Q := ig rfl
theorem aha {z id off len : Nat} {cells : List VV} {src : List (List CV)} {w : VV} {ex : Bool} (ho : h[id]? = some (.box cells false)) (hl : off + len * z <= cells.length) (hs : jq h z w = some src) :
  cpO h z (.ob id off len z ex) w = some (vi .i64 (min src.length len), h.set id (.box (am cells off (((src.take (min src.length len)).flatten).map .cv)) false)) := by
 simp [cpO, ai, mi, hs, lz, ho, hl]
 omega
def Hq (n z : Nat) (v w : VV) : Option VV := match qg w with
 | some j => if 0 <= j /\ j < n then (match v with
  | .ptr id o => some (.ptr id (o + j.toNat * z))
  | .eptr id g k o => some (.eptr id g k (o + j.toNat * z))
  | .rptr cells => some (.rptr (cells.drop (j.toNat * z)))
  | _ => none) else none
 | none => none
theorem xc {n z : Nat} : ai h (ad s) (.iadA n z x y) = (Hq n z (ad s x) (ad s y)).map (·, h) := by
 simp only [ai, Hq]
 grind
theorem agy {n z : Nat} : XO F (⟨none, d, .iadA n z x y⟩ :: r) ⟨s, h⟩ Q ↔ XW F (Hq n z (ad s x) (ad s y)) h d r s Q := qj rfl xc
theorem afi {n z : Nat} : XD F ((⟨none, d, .iadA n z x y⟩, c) :: q) ⟨s, h⟩ Q ↔ XWD F (Hq n z (ad s x) (ad s y)) h d q s Q := jj rfl xc
theorem Yd {n z id o : Nat} {k : IntKind} {j : Nat} (hj : j < n) : Hq n z (.ptr id o) (vi k (j : Int)) = some (.ptr id (o + j * z)) := by
 have : (j : Int) < n := by omega
 simp [Hq, qg, this]
theorem aga {f : Nat} {caps : List Opd} : XO F (⟨none, d, .mkfn f caps⟩ :: r) ⟨s, h⟩ Q ↔ XO F r ⟨df s d (.func f (caps.map (ad s))), h⟩ Q := uy rfl rfl
theorem zu {x : Opd} {f : Nat} {caps : List VV} {args : List Opd} {v : VV} {h' : ae} (hx : ad s x = .func f caps) (hcall : call F f (args.map (ad s) ++ caps) h = some (.ret v, h')) (hk : XO F r ⟨df s d v, h'⟩ Q) (hf : f < YB := by decide) :
  XO F (⟨none, d, .callv false x args⟩ :: r) ⟨s, h⟩ Q := by
 refine (Pw (v := v) (h' := h') hx ?_ hf).mpr hk
 unfold du
 grind
theorem Od {f : Nat} {args : List Opd} {v : VV} (hcall : call F f (args.map (ad s)) h = some (.ret v, h)) (hk : XD F q ⟨df s d v, h⟩ Q) (hf : f < Ar := by decide) :
  XD F ((⟨none, d, .call f false args⟩, c) :: q) ⟨s, h⟩ Q := by
 refine Lk (v := v) (oy hf ?_) hk
 unfold du
 grind
theorem vu {f : Nat} {args : List Opd} {v : VV} {h' : ae} (hcall : call F f (args.map (ad s)) h = some (.ret v, h')) (hk : XD F q ⟨df s d v, h'⟩ Q) (hf : f < Ar := by decide) :
  XD F ((⟨none, d, .call f false args⟩, .k) :: q) ⟨s, h⟩ Q := by
 refine Ok (v := v) (oy hf ?_) hk
 unfold du
 grind
end
section
variable {h : ae}
theorem Pq {n id off : Nat} {cs cells : List VV} (hn : cs.length = n) (ho : h[id]? = some (.box cells false)) (hc : off + n <= cells.length) : stO h n (.ptr id off) (.agg cs) = some (.undef, h.set id (.box (am cells off cs) false)) := by
 simp [stO, ai, mi, cellsOf, hn, ho, hc]
theorem Nu {n id off : Nat} {cells : List VV} {fr : Bool} (ho : h[id]? = some (.box cells fr)) (hc : off + n <= cells.length) : ldO h true n (.ptr id off) = some (.agg ((cells.drop off).take n), h) := by
 have : n <= cells.length - off := by omega
 simp [ldO, ai, mi, ho, dm, Nat.min_eq_left this]
theorem pa {n id g i z : Nat} {els : List (List CV)} {fr : Bool} {e : List CV} (ho : h[id]? = some (.arr z els g fr)) (he : els[i]? = some e) (hn : e.length = n) : ldO h true n (.eptr id g i 0) = some (.agg (e.map .cv), h) := by
 subst hn
 simp [ldO, ai, mi, ho, he, dm]
theorem zn : ∀ (l : List CV) (h : ae), vr h (l.map .cv) = some (l, h)
 | [], _ => rfl
 | c :: l, h => by
  simp only [List.map_cons, vr]
  rw [show clos h (.cv c) = some (c, h) from rfl]
  simp only [zn l h]
theorem yc {α : Type} {l m : List α} (h : l.length = m.length) : am l 0 m = m := by
 unfold am
 grind
theorem Ij {n id g i z : Nat} {els : List (List CV)} {e cs : List CV} (hn : cs.length = n) (ho : h[id]? = some (.arr z els g false)) (he : els[i]? = some e) (hl : e.length = n) :
  stO h n (.eptr id g i 0) (.agg (cs.map .cv)) = some (.undef, h.set id (.arr z (els.set i cs) g false)) := by
 have hs : am e 0 cs = cs := yc (by omega)
 have h1 : n <= e.length := by omega
 simp [stO, ai, mi, cellsOf, hn, zn, ho, he, h1, hs]
theorem amf {id g i off z : Nat} {els : List (List CV)} {e : List CV} {c : CV} (ho : h[id]? = some (.arr z els g false)) (he : els[i]? = some e) (hl : off < e.length) :
  stO h 1 (.eptr id g i off) (.cv c) = some (.undef, h.set id (.arr z (els.set i (e.set off c)) g false)) := by
 have hsp : am e off [c] = e.set off c := by
  unfold am
  simp only [List.length_singleton]
  rw [List.set_eq_take_append_cons_drop, if_pos hl, List.append_assoc, List.singleton_append]
 have h1 : off + 1 <= e.length := hl
 simp [stO, ai, mi, cellsOf, vr, clos, ho, he, h1, hsp]
end
attribute [go_sem] aao abr anx ank ano aj3 ah6 am3 aml alm alb alu ajp akl agy afi aga abw
end Go.Vm
/-
 Vm: a region that draws its order, of which some operations look at one of several heaps: what must hold ahead of it (own work).
-/
namespace Go.Vm
open Go
theorem rh {call : bj} : ∀ (a b : List (Op1 × Cl)) (hs : List ae) (ck : Cks) (st : St), bz call (a ++ b) hs ck st = (bz call a hs ck st).bind fun x => bz call b x.2.1 x.2.2 x.1
 | [], b, hs, ck, st => rfl
 | (o, c) :: a, b, hs, ck, st => by
  simp only [List.cons_append, bz]
  split
  ·split
   ·split <;> exact rh a b _ _ _
   ·rfl
  ·split <;> exact rh a b _ _ _
  ·rfl
def XDA (F : Nat → Option FnIR) (P : ae → Prop) : List (Op1 × Cl) → St → (St → Prop) → Prop
  | [], st, Q => Q st
  | (o, c) :: r, st, Q => bm st.s o.g = some true ∧ ∃ st1, dw (call F) st o = some (.norm, st1) ∧
      (match c with
        | .p => st1.h = st.h
        | .k => P st1.h
        | .r lo hi => st1.h = st.h ∧ (lo = hi ∨ ∀ g, P g → dw (call F) ⟨st.s, g⟩ o = some (.norm, ⟨st1.s, g⟩))) ∧ XDA F P r st1 Q
def ak8 (a : List (Op1 × Cl)) : Nat := (a.filter fun x => isk x.2).length
theorem Gj {F : Nat → Option FnIR} {P : ae → Prop} (m : Nat) : ∀ (a : List (Op1 × Cl)) (hs : List ae) (ck : Cks) (st : St) (Q : St → Prop), (a.all fun x => match x.2 with | .p => true | .r lo hi => decide (lo = hi) || decide (hi ≤ m) | .k => true) = true → XDA F P a st Q →
    ∃ st1 L ck1, bz (call F) a hs ck st = some (st1, hs ++ L, ck1) ∧ (∀ g ∈ L, P g) ∧ L.length = ak8 a ∧ (∀ x ∈ ck1, x ∈ ck ∨ (x.2.1 ≤ m + 1 ∧ ∀ g, P g → x.2.2 g) ∨ ∀ g, x.2.2 g) ∧ Q st1
  | [], hs, ck, st, Q, _, hx => ⟨st, [], ck, by simp [bz], (by simp), rfl, fun _ h => .inl h, hx⟩
  | (o, c) :: r, hs, ck, st, Q, ha, hx => by
    obtain ⟨hw, st1, h1, h2, h3⟩ := hx
    simp only [List.all_cons, Bool.and_eq_true] at ha
    simp only [bz, hw, h1]
    cases c with
    | p =>
      have e : (⟨st1.s, st.h⟩ : St) = st1 := by rw [← h2]
      obtain ⟨s2, L, ck2, q1, q2, q3, q4⟩ := Gj m r hs ck st1 Q ha.2 h3
      exact ⟨s2, L, ck2, by grind, q2, by rw [q3]; rfl, q4⟩
    | k =>
      obtain ⟨s2, L, ck2, q1, q2, q3, q4⟩ := Gj m r (hs ++ [st1.h]) ck st1 Q ha.2 h3
      refine ⟨s2, st1.h :: L, ck2, by rw [q1]; simp, fun g hg => ?_, by simp [ak8, isk] at q3 ⊢; omega, q4⟩
      grind
    | r lo hi =>
      have e : (⟨st1.s, st.h⟩ : St) = st1 := by rw [← h2.1]
      obtain ⟨s2, L, ck2, q1, q2, q3, q4, q5⟩ := Gj m r hs (if lo = hi then (lo, hi + 1, fun _ => st1.h = st.h) :: ck else (lo, hi + 1, fun g => adu (call F) st o g st1.s) :: ck) st1 Q ha.2 h3
      refine ⟨s2, L, ck2, by grind, q2, by rw [q3]; rfl, fun x hx => ?_, q5⟩
      rcases q4 x hx with h | h
      · split at h
        · grind
        · rename_i hne
          rcases List.mem_cons.mp h with rfl | h
          · have : hi ≤ m := by
              grind
            refine .inr (.inl ⟨by simp; omega, fun g hg => ?_⟩)
            rcases h2.2 with e | e
            · omega
            · exact e g hg
          grind
      grind
theorem uz {F : Nat -> Option FnIR} : ∀ (ops : List (Op1 × Cl)) (hs : List ae) (ck : Cks) (st : St) (Q : Pst), yr ops = true -> XD F ops st Q ->
  ∃ st1 L ck1, bz (call F) ops hs ck st = some (st1, hs ++ L, ck1) /\ (∀ x ∈ ck1, x ∈ ck \/ ∀ h, x.2.2 h) /\ Q .norm st1
 | [], hs, ck, st, Q, _, hx => ⟨st, [], ck, by simp [bz], fun _ h => .inl h, hx⟩
 | (o, c) :: r, hs, ck, st, Q, ha, hx => by
  have har : yr r = true := by
   cases c with
   | p => exact ha
   | k => exact ha
   | r lo hi => simp only [yr, Bool.and_eq_true] at ha; exact ha.2
  simp only [XD] at hx
  simp only [bz]
  cases hw : bm st.s o.g with
  | none => grind
  | some b =>
   rw [hw] at hx
   cases b with
   | false =>
    cases c with
    | p => exact uz r hs ck ⟨df st.s o.d skp, st.h⟩ Q har hx
    | r lo hi => exact uz r hs ck ⟨df st.s o.d skp, st.h⟩ Q har hx
    | k =>
     obtain ⟨st1, L, ck1, q1, q2⟩ := uz r (hs ++ [st.h]) ck ⟨df st.s o.d skp, st.h⟩ Q har hx
     exact ⟨st1, st.h :: L, ck1, by rw [q1]; simp, q2⟩
   | true =>
    obtain ⟨⟨s1, h1⟩, hst, h2, h3⟩ := hx
    simp only [hst]
    cases c with
    | p =>
     have e1 : h1 = st.h := h2 rfl
     subst e1
     exact uz r hs ck ⟨s1, st.h⟩ Q har h3
    | k =>
     obtain ⟨st1, L, ck1, q1, q2⟩ := uz r (hs ++ [h1]) ck ⟨s1, h1⟩ Q har h3
     exact ⟨st1, h1 :: L, ck1, by rw [q1]; simp, q2⟩
    | r lo hi =>
     have e1 : h1 = st.h := h2 rfl
     subst e1
     have hlh : lo = hi := by
      simp only [yr, Bool.and_eq_true, beq_iff_eq] at ha
      exact ha.1
     obtain ⟨st1, L, ck1, q1, q2, q3⟩ := uz r hs (if lo = hi then (lo, hi + 1, fun _ => st.h = st.h) :: ck else (lo, hi + 1, fun h => adu (call F) st o h s1) :: ck) ⟨s1, st.h⟩ Q har h3
     refine ⟨st1, L, ck1, q1, fun x hx => ?_, q3⟩
     grind
theorem qy {F : Nat -> Option FnIR} {ops : List (Op1 × Cl)} (n : Nat) {st : St} {Q : Pst} (P : ae -> Prop) (hP : P st.h)
  (ha : ((ops.take n).all fun x => match x.2 with | .p => true | .r lo hi => decide (lo = hi) || decide (hi <= ak8 (ops.take n)) | .k => true) = true) (hb : yr (ops.drop n) = true)
  (hx : XDA F P (ops.take n) st (fun st1 => XD F (ops.drop n) st1 Q)) : X F (.draw ops) st Q := by
 obtain ⟨st2, L, ck2, q1, q2, q3, q4, q5⟩ := Gj (ak8 (ops.take n)) (ops.take n) [st.h] [] st _ ha hx
 obtain ⟨st4, L2, ck4, r1, r2, r3⟩ := uz (ops.drop n) ([st.h] ++ L) ck2 st2 Q hb q5
 have hd : bz (call F) ops [st.h] [] st = some (st4, [st.h] ++ L ++ L2, ck4) := by
  have : bz (call F) (ops.take n ++ ops.drop n) [st.h] [] st = some (st4, [st.h] ++ L ++ L2, ck4) := by
   rw [rh, q1]
   exact r1
  simp_all
 refine ⟨.norm, st4, ?_, r3⟩
 simp only [dt, ix, hd]
 rw [if_pos]
 intro x hx i hi1 hi2 g hg
 grind
section
variable {F : Nat -> Option FnIR} {P : ae -> Prop} {d : Option Nat} {r : List (Op1 × Cl)} {s : List VV} {h : ae} {Q : St -> Prop}
theorem pm {i : Ins} {v : VV} (hp : jk i = true) (hv : ai h (ad s) i = some (v, h)) (hk : XDA F P r ⟨df s d v, h⟩ Q) : XDA F P ((⟨none, d, i⟩, .p) :: r) ⟨s, h⟩ Q :=
 ⟨rfl, ⟨df s d v, h⟩, by rw [gt hp, hv], rfl, hk⟩
theorem ox {i : Ins} {v : VV} {lo hi : Nat} (hp : jk i = true) (hP : P h) (hv : ∀ g, P g -> ai g (ad s) i = some (v, g)) (hk : XDA F P r ⟨df s d v, h⟩ Q) : XDA F P ((⟨none, d, i⟩, .r lo hi) :: r) ⟨s, h⟩ Q :=
 ⟨rfl, ⟨df s d v, h⟩, by rw [gt hp, hv h hP], ⟨rfl, .inr fun g hg => by rw [gt hp, hv g hg]⟩, hk⟩
theorem tz {i : Ins} {v : VV} {lo : Nat} (hp : jk i = true) (hv : ai h (ad s) i = some (v, h)) (hk : XDA F P r ⟨df s d v, h⟩ Q) : XDA F P ((⟨none, d, i⟩, .r lo lo) :: r) ⟨s, h⟩ Q :=
 ⟨rfl, ⟨df s d v, h⟩, by rw [gt hp, hv], ⟨rfl, .inl rfl⟩, hk⟩
theorem Ay {i : Ins} {v : VV} {h' : ae} (hp : jk i = true) (hv : ai h (ad s) i = some (v, h')) (hP : P h') (hk : XDA F P r ⟨df s d v, h'⟩ Q) : XDA F P ((⟨none, d, i⟩, .k) :: r) ⟨s, h⟩ Q :=
 ⟨rfl, ⟨df s d v, h'⟩, by rw [gt hp, hv], hP, hk⟩
theorem wh {f : Nat} {args : List Opd} {v : VV} {h' : ae} (hc : call F f (args.map (ad s)) h = some (.ret v, h')) (hP : P h') (hk : XDA F P r ⟨df s d v, h'⟩ Q) (hf : f < Ar := by decide) : XDA F P ((⟨none, d, .call f false args⟩, .k) :: r) ⟨s, h⟩ Q :=
 ⟨rfl, ⟨df s d v, h'⟩, by simp [dw, jv, hf, du, hc], hP, hk⟩
end
theorem ki {h : ae} {s : List VV} {ag : Bool} {n : Nat} {x : Opd} : ai h (ad s) (.ld ag n x) = ldO h ag n (ad s x) := rfl
theorem Xj {h : ae} {s : List VV} {z : Nat} {x y : Opd} : ai h (ad s) (.iadL z x y) = iaO h z (ad s x) (ad s y) := rfl
end Go.Vm
/-
 Vm: heaps that grow; slices that grow in them; bytes in a box (own work).
-/
namespace Go.Vm
open Go
theorem ev {h : ae} {i : Nat} {o : VO} (e : h[i]? = some o) : i < h.length := (List.getElem?_eq_some_iff.1 e).1
structure HExt (h h' : ae) : Prop where
 len : h.length <= h'.length
 same : ∀ j, j < h.length -> h'[j]? = h[j]?
theorem HExt.refl (h : ae) : HExt h h := ⟨Nat.le_refl _, fun _ _ => rfl⟩
theorem HExt.trans {h h1 h2 : ae} (a : HExt h h1) (b : HExt h1 h2) : HExt h h2 := ⟨Nat.le_trans a.len b.len, fun j hj => by rw [b.same j (Nat.lt_of_lt_of_le hj a.len), a.same j hj]⟩
theorem HExt.push (h : ae) (o : VO) : HExt h (h ++ [o]) := ⟨by simp, fun j hj => by grind⟩
theorem HExt.then {h h1 : ae} (a : HExt h h1) (o : VO) : HExt h (h1 ++ [o]) := a.trans (HExt.push _ _)
theorem HExt.get {h h' : ae} (e : HExt h h') {j : Nat} {o : VO} (hj : h[j]? = some o) : h'[j]? = some o := by rw [e.same j (ev hj), hj]
theorem HExt.set {h h' : ae} (e : HExt h h') {i : Nat} (hi : h.length <= i) (o : VO) : HExt h (h'.set i o) := ⟨by rw [List.length_set]; exact e.len, fun j hj => by rw [List.getElem?_set_ne (by omega)]; exact e.same j hj⟩
def Ret (F : Nat -> Option FnIR) (n : Nat) (args : List VV) (h : ae) (P : VV -> ae -> Prop) : Prop := ∃ v h', call F n args h = some (.ret v, h') /\ P v h'
def Er (F : Nat -> Option FnIR) (n : Nat) (args : List VV) (P : VV -> Prop) : Prop := Ret F n args [] fun v h' => ∃ w, au h' v = some w /\ P w
structure NB (h0 h : ae) (z : Nat) (els : List (List CV)) (v : VV) : Prop where
 ext : HExt h0 h
 v : (els = [] /\ v = ct) \/ ∃ id g, h0.length <= id /\ v = .own id g 0 els.length false /\ h[id]? = some (.arr z els g false)
section
variable {h0 h h' : ae} {z : Nat} {els new : List (List CV)} {v : VV}
theorem NB.nil (h : ae) (z : Nat) : NB h h z [] ct := ⟨HExt.refl h, .inl ⟨rfl, rfl⟩⟩
theorem NB.then (b : NB h0 h z els v) (e : HExt h h') : NB h0 h' z els v := by
 refine ⟨b.ext.trans e, ?_⟩
 rcases b.v with x | ⟨id, g, a1, a3, a4⟩
 ·exact .inl x
 ·exact .inr ⟨id, g, a1, a3, e.get a4⟩
theorem NB.setBox (b : NB h0 h z els v) {i : Nat} {cells : List VV} {fr : Bool} (hi : h0.length <= i) (hb : h[i]? = some (.box cells fr)) (o : VO) : NB h0 (h.set i o) z els v := by
 refine ⟨b.ext.set hi o, ?_⟩
 rcases b.v with x | ⟨id, g, a1, a3, a4⟩
 ·exact .inl x
 grind
theorem NB.ln (b : NB h0 h z els v) : lnO false v = some (vi .i64 els.length) := by
 rcases b.v with ⟨rfl, rfl⟩ | ⟨id, g, _, rfl, _⟩ <;> rfl
theorem NB.src (b : NB h0 h z els v) : jq h z v = some els := by
 rcases b.v with ⟨rfl, rfl⟩ | ⟨id, g, _, rfl, a4⟩
 ·rfl
 ·simp [jq, gi, a4]
theorem NB.elsO (b : NB h0 h z els v) : gi h z v = some els := by
 rcases b.v with ⟨rfl, rfl⟩ | ⟨id, g, _, rfl, a4⟩
 ·rfl
 ·simp [gi, a4]
theorem NB.cell (b : NB h0 h z els v) : en v = true := by
 rcases b.v with ⟨_, rfl⟩ | ⟨_, _, _, rfl, _⟩ <;> rfl
theorem NB.clos (b : NB h0 h z els v) : ∃ w h1, gc h v = some (w, h1) /\ SlV z els w := by
 rcases b.v with ⟨rfl, rfl⟩ | ⟨id, g, _, rfl, a4⟩
 ·exact ⟨ct, h, rfl, .inl ⟨rfl, rfl⟩⟩
 ·exact ⟨.cv (.sl z els false), _, by simp [gc, Go.Vm.clos, a4]; rfl, .inr ⟨false, rfl⟩⟩
theorem NB.res (b : NB h0 h z els v) : ∃ w, au h v = some w /\ SlV z els w := by
 rcases b.v with ⟨rfl, rfl⟩ | ⟨id, g, _, rfl, a4⟩
 ·exact ⟨ct, rfl, .inl ⟨rfl, rfl⟩⟩
 ·exact ⟨.cv (.sl z els false), by simp [au, gc, Go.Vm.clos, a4], .inr ⟨false, rfl⟩⟩
theorem acl {by_ : Nat} {zero : List CV} {x y : Opd} {s : List VV} (b : NB h0 h z els v) (hx : ad s x = v) (hy : jq h z (ad s y) = some new) (h1 : (els.length + new.length) * by_ <= 35184372088832) (h2 : els.length + new.length <= 35184372088832) :
  ∃ v' h', ai h (ad s) (.app z by_ zero x y) = some (v', h') /\ NB h0 h' z (els ++ new) v' /\ HExt h0 h' /\ h.length <= h'.length /\ (∀ j, j < h.length -> (∀ g l e, v ≠ .own j g 0 l e) -> h'[j]? = h[j]?) /\ (∀ (j : Nat) (cells : List VV) fr, h[j]? = some (.box cells fr) -> h'[j]? = some (.box cells fr)) := by
 have hm : cz = 35184372088832 := rfl
 by_cases hne : new = []
 ·subst hne
  refine ⟨v, h, ?_, by grind, b.ext, Nat.le_refl _, fun _ _ _ => rfl, fun _ _ _ e => e⟩
  have e1 := b.elsO
  simp only [List.length_nil, Nat.add_zero] at h1 h2
  rcases b.v with ⟨rfl, rfl⟩ | ⟨id, g, a1, rfl, h3⟩
  ·simp [ai, hy, hx, lz, hm, gi]
  ·simp [ai, hy, hx, lz, hm, h1, h2, e1]
 ·rcases b.v with ⟨rfl, rfl⟩ | ⟨id, g, a1, rfl, h3⟩
  ·refine ⟨.own h.length 0 0 new.length false, h ++ [.arr z new 0 false], ?_, ⟨b.ext.then _, .inr ⟨h.length, 0, b.ext.len, by simp, by simp⟩⟩, b.ext.then _, by simp, fun j hj _ => by grind, fun j c fr hj => (HExt.push h _).get hj⟩
   simp only [List.length_nil, Nat.zero_add] at h1 h2
   simp only [ai, hy, hx, lz, hm, Nat.zero_add, h1, h2, and_self, if_true, hne, if_false]
  ·have hid := ev h3
   refine ⟨.own id (g + 1) 0 (els.length + new.length) false, h.set id (.arr z (els ++ new) (g + 1) false), ?_, ⟨b.ext.set a1 _, .inr ⟨id, g + 1, a1, by simp, by grind⟩⟩, b.ext.set a1 _, by simp, fun j hj hn => by grind, fun j c fr hj => by grind⟩
   simp only [ai, hy, hx, lz, hm, h1, h2, and_self, if_true, h3, Nat.zero_add, Nat.le_refl, Bool.false_eq_true, if_false, List.drop_zero, List.take_length, hne]
theorem nl {F : Nat -> Option FnIR} {by_ : Nat} {zero : List CV} {x y : Opd} {s : List VV} {d : Option Nat} {r : List Op1} {Q : Pst} (b : NB h0 h z els v) (hx : ad s x = v) (hy : jq h z (ad s y) = some new) (h1 : (els.length + new.length) * by_ <= 35184372088832) (h2 : els.length + new.length <= 35184372088832)
  (hk : ∀ v' h', NB h0 h' z (els ++ new) v' -> h.length <= h'.length -> (∀ j, j < h.length -> (∀ g l e, v ≠ .own j g 0 l e) -> h'[j]? = h[j]?) -> (∀ (j : Nat) (cells : List VV) fr, h[j]? = some (.box cells fr) -> h'[j]? = some (.box cells fr)) -> XO F r ⟨df s d v', h'⟩ Q) : XO F (⟨none, d, .app z by_ zero x y⟩ :: r) ⟨s, h⟩ Q := by
 obtain ⟨v', h', e1, e2, e3, e4, e5, e6⟩ := acl (zero := zero) b hx hy h1 h2
 rw [ig rfl, e1, kj]
 grind
theorem Zl {F : Nat -> Option FnIR} {by_ : Nat} {zero : List CV} {x y : Opd} {s : List VV} {d : Option Nat} {q : List (Op1 × Cl)} {Q : Pst} (b : NB h0 h z els v) (hx : ad s x = v) (hy : jq h z (ad s y) = some new) (h1 : (els.length + new.length) * by_ <= 35184372088832) (h2 : els.length + new.length <= 35184372088832)
  (hk : ∀ v' h', NB h0 h' z (els ++ new) v' -> h.length <= h'.length -> (∀ j, j < h.length -> (∀ g l e, v ≠ .own j g 0 l e) -> h'[j]? = h[j]?) -> (∀ (j : Nat) (cells : List VV) fr, h[j]? = some (.box cells fr) -> h'[j]? = some (.box cells fr)) -> XD F q ⟨df s d v', h'⟩ Q) : XD F ((⟨none, d, .app z by_ zero x y⟩, .k) :: q) ⟨s, h⟩ Q := by
 obtain ⟨v', h', e1, e2, e3, e4, e5, e6⟩ := acl (zero := zero) b hx hy h1 h2
 rw [pi rfl, e1, Zd]
 exact hk v' h' e2 e4 e5 e6
end
def bC (b : List UInt8) : List CV := b.map fun x => .sc (.int .u8 x.toNat)
theorem sb {b : List UInt8} : (bC b).length = b.length := by simp [bC]
abbrev jz (b : List UInt8) : VO := .box ((bC b).map .cv) false
theorem rp (n : Nat) : List.replicate n (VV.cv (.sc (.int .u8 0))) = (bC (List.replicate n 0)).map .cv := by simp [bC]
theorem ag3 (b : List UInt8) : (eB b).flatten = bC b := by
 induction b with
 | nil => rfl
 | cons x b ih =>
  simp only [eB, bC, List.map_cons, List.flatten_cons, br] at ih |-
  rw [ih]; rfl
theorem Bl {h : ae} {p j : Nat} {b : List UInt8} {x : UInt8} (hb : h[p]? = some (jz b)) (hj : j < b.length) :
  stO h 1 (.ptr p j) (vi .u8 x.toNat) = some (.undef, h.set p (jz (b.set j x))) := by
 rw [Af rfl hb (by simp [sb]; exact hj)]
 unfold jz bC
 simp_all
theorem Om (l : List CV) (f : VV -> Option CV) (hf : ∀ c, f (.cv c) = some c) : (l.map VV.cv).mapM f = some l := by
 induction l with
 | nil => rfl
 | cons c r ih => grind
theorem Dg : ∀ (n : Nat) (l : List CV), l.length = n -> mm 1 n l = l.map fun c => [c] := by
 intro n l hl
 subst hl
 unfold mm
 apply List.ext_getElem
 ·simp
 ·intro i h1 h2
  have hi : i < l.length := by grind
  simp only [List.getElem_map, List.getElem_range, Nat.mul_one]
  rw [List.drop_eq_getElem_cons hi]; rfl
theorem Nf {h : ae} {p off len : Nat} {b : List UInt8} {ex : Bool} (hb : h[p]? = some (jz b)) (hl : off + len <= b.length) : gc h (.ob p off len 1 ex) = some (.cv (.sl 1 (eB ((b.drop off).take len)) ex), h.set p (.box ((bC b).map .cv) true)) := by
 have e1 : (((bC b).map VV.cv).drop off).take (len * 1) = (bC ((b.drop off).take len)).map .cv := by
  simp [bC, List.map_take, List.map_drop]
 have hlen : (bC ((b.drop off).take len)).length = len := by rw [sb, List.length_take, List.length_drop]; omega
 have hE : mm 1 len (bC ((b.drop off).take len)) = eB ((b.drop off).take len) := by
  rw [Dg _ _ hlen]; unfold bC eB; rw [List.map_map]; rfl
 unfold gc clos
 simp only [hb]
 rw [e1, Om _ _ (fun _ => rfl)]
 grind
theorem ey {α : Type} {l c : List α} {off : Nat} (h : off + c.length <= l.length) : (am l off c).length = l.length := by
 unfold am; simp; omega
theorem Ec {α β : Type} (f : α -> β) (l c : List α) (off : Nat) : am (l.map f) off (c.map f) = (am l off c).map f := by
 unfold am; simp_all
theorem ac9 {h : ae} {p off len : Nat} {b c : List UInt8} {ex : Bool} {w : VV} (hb : h[p]? = some (jz b)) (hl : off + len <= b.length) (hw : jq h 1 w = some (eB c)) (hc : c.length <= len) :
  cpO h 1 (.ob p off len 1 ex) w = some (.cv (.sc (.int .i64 c.length)), h.set p (jz (am b off c))) := by
 have hl' : off + len * 1 <= ((bC b).map VV.cv).length := by simp [sb]; omega
 rw [aha hb hl' hw]
 have e0 : (eB c).length = c.length := by simp [eB]
 have e1 : min (eB c).length len = c.length := by omega
 have e2 : (eB c).take c.length = eB c := List.take_of_length_le (by omega)
 rw [e1, e2, ag3, Ec]
 have : am (bC b) off (bC c) = bC (am b off c) := by unfold bC; rw [Ec]
 grind
theorem Sz {h : ae} {n id a : Nat} {cells : List VV} {fr : Bool} {k : IntKind} (ho : h[id]? = some (.box cells fr)) (hl : n <= cells.length) (ha : a <= n) : saO h n 1 (.ptr id 0) (some (vi k a)) none = some (.ob id a (n - a) 1 true, h) := by
 have h1 : (a : Int) <= (n : Int) := by omega
 simp [saO, ai, mi, bnd, qg, ho, hl, h1]
theorem anj {h : ae} {z0 z1 z2 z3 a b c d : CV} : mkO h 1 4 [.cv z0, .cv z1, .cv z2, .cv z3] [(0, 1, .cv a), (1, 1, .cv b), (2, 1, .cv c), (3, 1, .cv d)] = some (.cv (.sl 1 [[a], [b], [c], [d]] true), h) := rfl
theorem aae {F : Nat -> Option FnIR} {h h0 : ae} {s : List VV} {z by_ : Nat} {zero : List CV} {k k' : IntKind} {b : Nat} {x y : Opd} {d : Option Nat} {r : List Op1} {Q : Pst} (e : HExt h0 h) (hx : ad s x = vi k 0) (hy : ad s y = vi k' b) (hb : 0 < b) (h1 : b * by_ <= 35184372088832) (h2 : b <= 35184372088832)
  (hk : ∀ v h', NB h0 h' z [] v -> HExt h h' -> XO F r ⟨df s d v, h'⟩ Q) : XO F (⟨none, d, .mks z by_ zero x y true⟩ :: r) ⟨s, h⟩ Q := by
 have hm : cz = 35184372088832 := rfl
 have c1 : (b : Int) * by_ <= 35184372088832 := by omega
 have c2 : (b : Int) <= 35184372088832 := by omega
 have c3 : ¬ (0 : Int) = (b : Int) := by omega
 have hst : ai h (ad s) (.mks z by_ zero x y true) = some (.own h.length 0 0 0 false, h ++ [.arr z [] 0 false]) := by
  simp only [ai, hx, hy, qg]
  grind
 rw [ig rfl, hst, kj]
 exact hk _ _ ⟨e.then _, .inr ⟨h.length, 0, e.len, rfl, by simp⟩⟩ (HExt.push _ _)
structure BSrc (h0 h : ae) (b : List UInt8) (u : VV) : Prop where
 ln : lnO false u = some (vi .i64 b.length)
 cl : ∃ w h1, cf h [u] = some ([w], h1) /\ SlV 1 (eB b) w /\ HExt h0 h1 /\ ∀ h2, HExt h1 h2 -> jq h2 1 u = some (eB b)
theorem SlV.bsrc {h0 h : ae} {b : List UInt8} {u : VV} (hu : SlV 1 (eB b) u) (e : HExt h0 h) : BSrc h0 h b u :=
 ⟨by rw [hu.ln, ax], u, h, hu.clos rfl, hu, e, fun h2 _ => hu.src⟩
theorem agm {h0 h : ae} {b : List UInt8} {p : Nat} {ex : Bool} (e : HExt h0 h) (hp : h[p]? = some (jz b)) (h0p : h0.length <= p) : BSrc h0 h b (.ob p 0 b.length 1 ex) := by
 have hc := Nf (ex := ex) (off := 0) (len := b.length) hp (by omega)
 rw [List.drop_zero, List.take_length] at hc
 refine ⟨rfl, .cv (.sl 1 (eB b) ex), h.set p (.box ((bC b).map .cv) true), by simp only [cf, hc], .inr ⟨ex, rfl⟩, e.set h0p _, fun h2 e2 => ?_⟩
 have hp2 : h2[p]? = some (.box ((bC b).map .cv) true) := e2.get (by grind)
 have e1 : (((bC b).map VV.cv).drop 0).take (b.length * 1) = (bC b).map .cv := by
  rw [List.drop_zero, List.take_of_length_le (by rw [List.length_map, sb]; omega)]
 show gi h2 1 (.ob p 0 b.length 1 ex) = _
 unfold gi
 simp only [hp2]
 rw [e1, Om _ _ (fun _ => rfl)]
 simp only [sb, Nat.mul_one, and_self, if_true]
 rw [Dg _ _ sb]
 unfold bC eB
 rw [List.map_map]; rfl
theorem NB.bsrc {h0 h : ae} {b : List UInt8} {u : VV} (hu : NB h0 h 1 (eB b) u) : BSrc h0 h b u := by
 rcases hu.v with ⟨e, rfl⟩ | ⟨id, g, hid, rfl, a4⟩
 ·exact SlV.bsrc (.inl ⟨rfl, e⟩) hu.ext
 ·refine ⟨by rw [hu.ln, ax], .cv (.sl 1 (eB b) false), h.set id (.arr 1 (eB b) g true), by simp [cf, gc, Go.Vm.clos, a4], .inr ⟨false, rfl⟩, hu.ext.set hid _, fun h2 e2 => ?_⟩
  have := e2.get (show (h.set id (.arr 1 (eB b) g true))[id]? = some (.arr 1 (eB b) g true) by grind)
  simp [jq, gi, this]
theorem Ci {α : Type} {l c : List α} {off k : Nat} {x : α} (h : off + c.length < l.length) (hk : c.length = k) : (am l off c).set (off + k) x = am l off (c ++ [x]) := by
 subst hk
 unfold am
 have h1 : (l.take off).length = off := by simp; omega
 rw [List.append_assoc, List.set_append_right _ _ (by omega), h1, Nat.add_sub_cancel_left, List.set_append_right _ _ (Nat.le_refl _), Nat.sub_self, List.drop_eq_getElem_cons h, List.set_cons_zero]
 grind
theorem Lo {α : Type} {l : List α} {off : Nat} : am l off [] = l := by unfold am; simp
theorem abl {h : ae} {n : Nat} {e : List CV} (he : e.length = n) : ldO h true n (.rptr e) = some (.agg (e.map .cv), h) := by
 have : e.take n = e := List.take_of_length_le (by omega)
 simp [ldO, ai, mi, dm, this, he]
theorem Bg {h : ae} {n p : Nat} {cells : List VV} {fr : Bool} (ho : h[p]? = some (.box cells fr)) (hn : cells.length = n) : ldO h true n (.ptr p 0) = some (.agg cells, h) := oa ho hn
theorem Sr {P : VV -> ae -> Prop} {s : List VV} {h : ae} {a n id : Nat} {cells : List VV} {fr : Bool} (ha : s.getD a .undef = .ptr id 0) (ho : h[id]? = some (.box cells fr)) (hn : cells.length = n)
  (hP : P (.agg cells) h) : RQ [.cell a true n] P .ret ⟨s, h⟩ := by
 subst hn
 refine ⟨trivial, [.agg cells], ?_, hP⟩
 simp only [ke, yq, ha, ho, List.drop_zero, List.take_length, dm, if_true]
theorem Yk {P : VV -> ae -> Prop} {s : List VV} {h : ae} {a m n id : Nat} {cells : List VV} {fr : Bool} (ha : s.getD a .undef = .ptr id 0) (ho : h[id]? = some (.box cells fr)) (hn : cells.length = n) (hm : m < s.length)
  (hP : P (.tup [.agg cells, s.getD m .undef]) h) : RQ [.cell a true n, .t m] P .ret ⟨s, h⟩ := by
 subst hn
 refine ⟨trivial, [.agg cells, s.getD m .undef], ?_, hP⟩
 simp only [ke, yq, kw hm, ha, ho, List.drop_zero, List.take_length, dm, if_true]
end Go.Vm
/-
 Sums of bytes: jk laws (own work).
-/
namespace Go.Vm
open Go
theorem Eo {a b : Nat} (ha : a < 4294967296) (hb : b < 4294967296) : bits .xor .u32 (a : Int) (b : Int) = ((a ^^^ b : Nat) : Int) := by
 have hx : a ^^^ b < 2 ^ 32 := Nat.xor_lt_two_pow (by omega) (by omega)
 have e1 : (BitVec.ofInt IntKind.u32.bits (a : Int) ^^^ BitVec.ofInt IntKind.u32.bits (b : Int)).toNat = a ^^^ b := by
  have h1 : (BitVec.ofInt 32 (a : Int)).toNat = a := by grind
  have h2 : (BitVec.ofInt 32 (b : Int)).toNat = b := by grind
  show (BitVec.ofInt 32 (a : Int) ^^^ BitVec.ofInt 32 (b : Int)).toNat = a ^^^ b
  grind
 simp only [bits]
 rw [e1]
 exact IntWalk.u32_in _ (by omega)
theorem Xd {a : Nat} (ha : a < 4294967296) : bits .and .u32 (a : Int) 1 = ((a % 2 : Nat) : Int) := by
 have e1 : (BitVec.ofInt IntKind.u32.bits (a : Int) &&& BitVec.ofInt IntKind.u32.bits 1).toNat = a % 2 := by
  have h1 : (BitVec.ofInt 32 (a : Int)).toNat = a := by grind
  have h2 : (BitVec.ofInt 32 1).toNat = 1 := by decide
  show (BitVec.ofInt 32 (a : Int) &&& BitVec.ofInt 32 1).toNat = a % 2
  grind
 simp only [bits]
 rw [e1]
 exact IntWalk.u32_in _ (by omega)
theorem Un {a b : Nat} (ha : a < 256) (hb : b < 256) : bits .xor .u8 (a : Int) (b : Int) = ((a ^^^ b : Nat) : Int) := by
 have hx : a ^^^ b < 2 ^ 8 := Nat.xor_lt_two_pow (by omega) (by omega)
 have e1 : (BitVec.ofInt IntKind.u8.bits (a : Int) ^^^ BitVec.ofInt IntKind.u8.bits (b : Int)).toNat = a ^^^ b := by
  have h1 : (BitVec.ofInt 8 (a : Int)).toNat = a := by grind
  have h2 : (BitVec.ofInt 8 (b : Int)).toNat = b := by grind
  show (BitVec.ofInt 8 (a : Int) ^^^ BitVec.ofInt 8 (b : Int)).toNat = a ^^^ b
  grind
 simp only [bits]
 rw [e1]
 exact IntWalk.u8_in _ (by omega)
theorem Py {a : Nat} (ha : a < 4294967296) : unO .xor (vi .u32 (a : Int)) = some (vi .u32 ((4294967295 ^^^ a : Nat) : Int)) := by
 have hx : 4294967295 ^^^ a < 2 ^ 32 := Nat.xor_lt_two_pow (by omega) (by omega)
 have e1 : (BitVec.ofInt IntKind.u32.bits (if IntKind.u32.signed then -1 else IntKind.u32.max) ^^^ BitVec.ofInt IntKind.u32.bits (a : Int)).toNat = 4294967295 ^^^ a := by
  have h1 : (BitVec.ofInt 32 (a : Int)).toNat = a := by grind
  have h2 : (BitVec.ofInt 32 (if IntKind.u32.signed then -1 else IntKind.u32.max)).toNat = 4294967295 := by decide
  show (BitVec.ofInt 32 (if IntKind.u32.signed then -1 else IntKind.u32.max) ^^^ BitVec.ofInt 32 (a : Int)).toNat = 4294967295 ^^^ a
  grind
 simp only [unO, unV, Option.map_some]
 rw [e1, IntWalk.u32_in _ (by omega)]
def Bt (n : Nat) : Nat := (n / 2) ^^^ (3988292384 * (n % 2))
def ek : Nat -> Nat -> Nat
 | 0, n => n
 | k + 1, n => ek k (Bt n)
def al2 (n : Nat) (b : List UInt8) : Nat := b.foldl (fun n c => ek 8 (n ^^^ c.toNat)) n
def ak3 (n : Nat) (b : List UInt8) : Nat := 4294967295 ^^^ al2 (4294967295 ^^^ n) b
def crc (b : List UInt8) : Nat := ak3 0 b
def le4 (n : Nat) : List UInt8 := [UInt8.ofNat (n % 256), UInt8.ofNat (n / 256 % 256), UInt8.ofNat (n / 65536 % 256), UInt8.ofNat (n / 16777216)]
def oc (b : List UInt8) : List UInt8 := b ++ le4 (crc b)
theorem Nq {n : Nat} (h : n < 4294967296) : Bt n < 4294967296 := by
 unfold Bt
 have : n % 2 < 2 := Nat.mod_lt _ (by decide)
 exact Nat.xor_lt_two_pow (n := 32) (by omega) (by omega)
theorem vq : ∀ (k : Nat) {n : Nat}, n < 4294967296 -> ek k n < 4294967296
 | 0, n, h => h
 | k + 1, n, h => vq k (Nq h)
theorem ahk {n : Nat} (h : n < 4294967296) (c : UInt8) : n ^^^ c.toNat < 4294967296 := Nat.xor_lt_two_pow (n := 32) (by omega) (by have := c.toNat_lt; omega)
theorem Mx : ∀ (b : List UInt8) {n : Nat}, n < 4294967296 -> al2 n b < 4294967296
 | [], n, h => h
 | c :: b, n, h => Mx b (vq 8 (ahk h c))
theorem aep {n : Nat} (h : n < 4294967296) (b : List UInt8) : ak3 n b < 4294967296 := Nat.xor_lt_two_pow (n := 32) (by decide) (Mx b (Nat.xor_lt_two_pow (n := 32) (by decide) h))
theorem aka (b : List UInt8) : crc b < 4294967296 := aep (by decide) b
theorem pd (b : List UInt8) : (oc b).length = b.length + 4 := by simp [oc, le4]
theorem Wq (a b : Nat) : Bt (a ^^^ b) = Bt a ^^^ Bt b := by
 unfold Bt
 have e1 : (a ^^^ b) / 2 = a / 2 ^^^ b / 2 := by
  have := Nat.shiftRight_xor_distrib (a := a) (b := b) (i := 1)
  simpa [Nat.shiftRight_eq_div_pow] using this
 have e2 : 3988292384 * ((a ^^^ b) % 2) = (3988292384 * (a % 2)) ^^^ (3988292384 * (b % 2)) := by
  have : (a ^^^ b) % 2 = (a % 2) ^^^ (b % 2) := by
   have := Nat.xor_mod_two_pow (a := a) (b := b) (n := 1)
   omega
  rw [this]
  rcases Nat.mod_two_eq_zero_or_one a with h | h <;> rcases Nat.mod_two_eq_zero_or_one b with h' | h' <;> rw [h, h'] <;> rfl
 grind
theorem Dp : ∀ (k a b : Nat), ek k (a ^^^ b) = ek k a ^^^ ek k b
 | 0, a, b => rfl
 | k + 1, a, b => by simp only [ek]; rw [Wq, Dp k]
theorem Ah : ∀ (k m : Nat), ek k (2 ^ k * m) = m
 | 0, m => by simp [ek]
 | k + 1, m => by
  have e : Bt (2 ^ (k + 1) * m) = 2 ^ k * m := by
   unfold Bt
   have : 2 ^ (k + 1) * m = 2 * (2 ^ k * m) := by grind
   simp_all
  simp only [ek]
  rw [e, Ah k m]
theorem Ig (x : Nat) : ek 8 x = (x / 256) ^^^ ek 8 (x % 256) := by
  have hx : x = (256 * (x / 256)) ^^^ (x % 256) := by
    have e : 256 * (x / 256) + x % 256 = (256 * (x / 256)) ||| (x % 256) := Nat.two_pow_add_eq_or_of_lt (i := 8) (Nat.mod_lt _ (by decide)) (x / 256)
    have e2 : (256 * (x / 256)) ||| (x % 256) = (256 * (x / 256)) ^^^ (x % 256) := by
      apply Nat.eq_of_testBit_eq
      intro i
      rw [Nat.testBit_or, Nat.testBit_xor]
      by_cases hi : i < 8
      · have : (256 * (x / 256)).testBit i = false := by
          have := Nat.testBit_two_pow_mul (i := 8) (a := x / 256) (j := i)
          grind
        simp [this]
      · have : (x % 256).testBit i = false := by
          rw [show (256 : Nat) = 2 ^ 8 from rfl, Nat.testBit_mod_two_pow]
          simp; omega
        simp [this]
    omega
  calc ek 8 x = ek 8 ((256 * (x / 256)) ^^^ (x % 256)) := by rw [← hx]
    _ = ek 8 (256 * (x / 256)) ^^^ ek 8 (x % 256) := Dp 8 _ _
    _ = (x / 256) ^^^ ek 8 (x % 256) := by rw [show ek 8 (256 * (x / 256)) = x / 256 from Ah 8 _]
theorem Mz (n : Nat) (c : UInt8) : ek 8 (n ^^^ c.toNat) = (n / 256) ^^^ ek 8 ((n % 256) ^^^ c.toNat) := by
 have hc := c.toNat_lt
 have e1 : (n ^^^ c.toNat) / 256 = n / 256 := by
  have := Nat.shiftRight_xor_distrib (a := n) (b := c.toNat) (i := 8)
  simp only [Nat.shiftRight_eq_div_pow] at this
  rw [show (2 : Nat) ^ 8 = 256 from rfl] at this
  rw [this, Nat.div_eq_of_lt hc, Nat.xor_zero]
 have e2 : (n ^^^ c.toNat) % 256 = (n % 256) ^^^ c.toNat := by
  have := Nat.xor_mod_two_pow (a := n) (b := c.toNat) (n := 8)
  grind
 rw [Ig, e1, e2]
end Go.Vm
/-
 Vm: slices that are read, written no more (own work).
-/
namespace Go.Vm
open Go
def NF (h : ae) (z : Nat) (els : List (List CV)) (v : VV) : Prop := SlV z els v \/ ∃ id g ex fr, v = .own id g 0 els.length ex /\ h[id]? = some (.arr z els g fr)
section
variable {h h' : ae} {z : Nat} {els : List (List CV)} {v : VV}
structure Froze (h h1 : ae) : Prop where
 len : h1.length = h.length
 box : ∀ (j : Nat) (o : VO), h[j]? = some o -> (∀ z e g fr, o ≠ .arr z e g fr) -> h1[j]? = some o
 arr : ∀ (j : Nat) (z : Nat) (e : List (List CV)) (g : Nat) fr, h[j]? = some (.arr z e g fr) -> ∃ fr', h1[j]? = some (.arr z e g fr')
theorem Froze.refl (h : ae) : Froze h h := ⟨rfl, fun _ _ e _ => e, fun _ _ _ _ fr e => ⟨fr, e⟩⟩
theorem NF.at_ (b : NF h z els v) {k : IntKind} {j : Nat} {e : List CV} (he : els[j]? = some e) : ∃ p, iaO h z v (vi k (j : Int)) = some (p, h) /\ (p = .rptr e \/ ∃ id g fr, p = .eptr id g j 0 /\ h[id]? = some (.arr z els g fr)) := by
 have hj := (List.getElem?_eq_some_iff.1 he).1
 rcases b with b | ⟨id, g, ex, fr, rfl, a⟩
 ·exact ⟨.rptr e, b.ia (by omega) (by grind), .inl rfl⟩
 ·exact ⟨.eptr id g j 0, by rw [zq (by omega) a (by omega)]; simp, .inr ⟨id, g, fr, rfl, a⟩⟩
theorem NF.cell (b : NF h z els v) {k : IntKind} {j : Nat} {e : List CV} (he : els[j]? = some e) : ∃ p, iaO h z v (vi k (j : Int)) = some (p, h) /\ (∀ n, e.length = n -> ldO h true n p = some (.agg (e.map .cv), h)) /\ (∀ off c, e[off]? = some c -> ∃ q, fdO off p = some q /\ ldO h false 1 q = some (.cv c, h)) /\ (∀ c r, e = c :: r -> ldO h false 1 p = some (.cv c, h)) := by
 obtain ⟨p, h1, h2⟩ := b.at_ (k := k) he
 refine ⟨p, h1, ?_⟩
 rcases h2 with rfl | ⟨id, g, fr, rfl, a⟩
 ·refine ⟨fun n hn => abl hn, fun off c hc => ⟨.rptr (e.drop off), rfl, ?_⟩, fun c r hc => by subst hc; exact ij⟩
  obtain ⟨hlt, e1⟩ := List.getElem?_eq_some_iff.1 hc
  rw [List.drop_eq_getElem_cons hlt, e1]
  exact ij
 ·refine ⟨fun n hn => pa a he hn, fun off c hc => ⟨.eptr id g j (0 + off), rfl, ?_⟩, fun c r hc => Gd a he (by subst hc; rfl)⟩
  rw [Nat.zero_add]; exact Gd a he hc
end
end Go.Vm
/-
 Vm: the front of a slice that grew (own work).
-/
namespace Go.Vm
open Go
end Go.Vm
/-
 Vm: views: slices that are read, wherever they begin and end (own work).
-/
namespace Go.Vm
open Go
def VF (h : ae) (z : Nat) (els : List (List CV)) (v : VV) : Prop :=
 SlV z els v \/ ∃ id g off ex fr full, v = .own id g off els.length ex /\ h[id]? = some (.arr z full g fr) /\ off + els.length <= full.length /\ els = (full.drop off).take els.length
section
variable {h h' : ae} {z : Nat} {els : List (List CV)} {v : VV}
theorem SlV.vf (b : SlV z els v) : VF h z els v := .inl b
theorem VF.ln (b : VF h z els v) : lnO false v = some (vi .i64 els.length) := by
 rcases b with b | ⟨id, g, off, ex, fr, full, rfl, _⟩
 ·exact b.ln
 ·rfl
theorem VF.lenv (b : VF h z els v) : lz v = some els.length := by
 rcases b with b | ⟨id, g, off, ex, fr, full, rfl, _⟩
 ·rcases b with ⟨rfl, rfl⟩ | ⟨ex, rfl⟩ <;> rfl
 ·rfl
theorem VF.ext (b : VF h z els v) (e : HExt h h') : VF h' z els v := by
 rcases b with b | ⟨id, g, off, ex, fr, full, rfl, a, a2⟩
 ·exact .inl b
 ·exact .inr ⟨id, g, off, ex, fr, full, rfl, e.get a, a2⟩
theorem VF.elsO (b : VF h z els v) : gi h z v = some els := by
 rcases b with b | ⟨id, g, off, ex, fr, full, rfl, a, a2, a3⟩
 ·exact b.els
 ·simp [gi, a, a2]; exact a3.symm
theorem VF.src (b : VF h z els v) : jq h z v = some els := by
 rcases b with b | ⟨id, g, off, ex, fr, full, rfl, a, a2, a3⟩
 ·exact b.src
 ·simp [jq, gi, a, a2]; exact a3.symm
theorem VF.clos (b : VF h z els v) : ∃ w h1, gc h v = some (w, h1) /\ SlV z els w /\ Froze h h1 := by
 rcases b with b | ⟨id, g, off, ex, fr, full, rfl, a, a2, a3⟩
 ·refine ⟨v, h, ?_, b, Froze.refl h⟩
  rcases b with ⟨rfl, rfl⟩ | ⟨ex, rfl⟩ <;> rfl
 ·refine ⟨.cv (.sl z els ex), h.set id (.arr z full g true), by simp [gc, Go.Vm.clos, a, a2]; exact a3.symm, .inr ⟨ex, rfl⟩, by simp, fun j o e hn => ?_, fun j z' e' g' fr' hj => ?_⟩
  ·grind
  grind
theorem VF.from_ (b : VF h z els v) {k : IntKind} {n : Nat} (hn : n <= els.length) : ∃ w, slO h z v (some (vi k (n : Int))) none none = some (w, h) /\ VF h z (els.drop n) w := by
 rcases b with b | ⟨id, g, off, ex, fr, full, rfl, a, a2, a3⟩
 ·obtain ⟨w, h1, h2⟩ := b.from_ (h := h) (k := k) (a := (n : Int)) (by omega) (by omega)
  rw [Int.toNat_natCast] at h1
  exact ⟨w, h2, .inl h1⟩
 ·have c1 : (n : Int) <= (els.length : Int) := by omega
  have hl : (els.drop n).length = els.length - n := by grind
  refine ⟨_, by simp [slO, ai, mi, lz, bnd, qg, c1, a]; rfl, .inr ⟨id, g, off + n, _, fr, full, by rw [hl], a, by omega, ?_⟩⟩
  rw [hl]
  conv => lhs; rw [a3]
  rw [List.drop_take, List.drop_drop]
theorem VF.cell (b : VF h z els v) {k : IntKind} {j : Nat} {e : List CV} (he : els[j]? = some e) : ∃ p, iaO h z v (vi k (j : Int)) = some (p, h) ∧ (∀ n, e.length = n → ldO h true n p = some (.agg (e.map .cv), h)) ∧ (∀ off c, e[off]? = some c → ∃ q, fdO off p = some q ∧ ldO h false 1 q = some (.cv c, h)) ∧ (∀ c r, e = c :: r → ldO h false 1 p = some (.cv c, h)) := by
  have hj := (List.getElem?_eq_some_iff.1 he).1
  rcases b with b | ⟨id, g, off, ex, fr, full, rfl, a, a2, a3⟩
  · exact (show NF h z els v from .inl b).cell (k := k) he
  · have hf : full[off + j]? = some e := by
      grind
    refine ⟨.eptr id g (off + j) 0, by rw [zq (by omega) a (by omega)]; simp, fun n hn => pa a hf hn, fun o c hc => ⟨.eptr id g (off + j) (0 + o), rfl, by rw [Nat.zero_add]; exact Gd a hf hc⟩, fun c r hc => Gd a hf (by subst hc; rfl)⟩
theorem VF.nil : VF h z [] ct := .inl (.inl ⟨rfl, rfl⟩)
end
end Go.Vm
/-
 The order of texts (own work).
-/
namespace Go.Vm
open Go
theorem Bd : ∀ a : List UInt8, Op.bytesLess a a = false
 | [] => rfl
 | x :: a => by simp [Op.bytesLess, Bd a]
theorem zk : ∀ {a b c : List UInt8}, Op.bytesLess a b = true -> Op.bytesLess b c = true -> Op.bytesLess a c = true
 | a, b, [], h1, h2 => by cases b <;> simp [Op.bytesLess] at h2
 | [], b, z :: c, h1, h2 => rfl
 | x :: a, [], z :: c, h1, h2 => by simp [Op.bytesLess] at h1
 | x :: a, y :: b, z :: c, h1, h2 => by
  simp only [Op.bytesLess, Bool.or_eq_true, decide_eq_true_eq, Bool.and_eq_true, beq_iff_eq] at h1 h2 |-
  rcases h1 with h1 | ⟨rfl, h1⟩
  ·grind
  ·rcases h2 with h2 | ⟨rfl, h2⟩
   ·exact .inl h2
   ·exact .inr ⟨rfl, zk h1 h2⟩
theorem Ha : ∀ a b : List UInt8, Op.bytesLess a b = true \/ a = b \/ Op.bytesLess b a = true
 | [], [] => .inr (.inl rfl)
 | [], _ :: _ => .inl rfl
 | _ :: _, [] => .inr (.inr rfl)
 | x :: a, y :: b => by
  simp only [Op.bytesLess, Bool.or_eq_true, decide_eq_true_eq, Bool.and_eq_true, beq_iff_eq]
  rcases Nat.lt_trichotomy x.toNat y.toNat with h | h | h
  ·grind
  ·have e := UInt8.toNat_inj.1 h
   subst e
   rcases Ha a b with h | h | h
   ·grind
   ·grind
   grind
  grind
theorem abj {a b : List UInt8} (h : Op.bytesLess a b = true) : Op.bytesLess b a = false := by
 cases h2 : Op.bytesLess b a with
 | false => rfl
 | true => have := zk h h2; rw [Bd] at this; cases this
def Cv (a b : List UInt8) : Bool := Op.bytesLess a b || a == b
theorem Au {a b : List UInt8} : Cv a b = true ↔ Op.bytesLess b a = false := by
 unfold Cv
 rw [Bool.or_eq_true, beq_iff_eq]
 constructor
 ·rintro (h | rfl)
  ·exact abj h
  ·exact Bd _
 ·intro h
  rcases Ha a b with h1 | h1 | h1
  ·exact .inl h1
  ·exact .inr h1
  grind
theorem Ib {a b : List UInt8} : Cv a b = false ↔ Op.bytesLess b a = true := by
 cases h : Cv a b with
 | true => rw [Au] at h; simp [h]
 | false =>
  cases h2 : Op.bytesLess b a with
  | true => simp
  | false => rw [<- Au, h] at h2; cases h2
end Go.Vm
/-
 Vm: what is written no more; slices that grow, step by step (own work).
-/
namespace Go.Vm
open Go
def VZ (h : ae) (z : Nat) (els : List (List CV)) (v : VV) : Prop :=
 SlV z els v \/ ∃ id g off ex full, v = .own id g off els.length ex /\ h[id]? = some (.arr z full g true) /\ off + els.length <= full.length /\ els = (full.drop off).take els.length
def KZ (h h' : ae) : Prop := ∀ (j z : Nat) (e : List (List CV)) (g : Nat), h[j]? = some (.arr z e g true) -> h'[j]? = some (.arr z e g true)
def KG (z : Nat) (h h' : ae) : Prop := h.length <= h'.length /\ ∀ (j : Nat) (o : VO), h[j]? = some o -> (∀ e g, o ≠ VO.arr z e g false) -> h'[j]? = some o
theorem KZ.refl (h : ae) : KZ h h := fun _ _ _ _ e => e
theorem KZ.trans {a b c : ae} (x : KZ a b) (y : KZ b c) : KZ a c := fun j z e g hj => y j z e g (x j z e g hj)
theorem KG.kz {z : Nat} {h h' : ae} (k : KG z h h') : KZ h h' := fun j z' e g hj => k.2 j _ hj (fun e' g' hh => by cases hh)
theorem KG.box {z : Nat} {h h' : ae} (k : KG z h h') {j : Nat} {cells : List VV} {fr : Bool} (hj : h[j]? = some (.box cells fr)) : h'[j]? = some (.box cells fr) := k.2 j _ hj (fun e' g' hh => by cases hh)
theorem KG.loop {z : Nat} {h h' : ae} (k : KG z h h') {j : Nat} {ps : List Nat} {a b : IR} {s : List VV} {t : LoopState} {p : Option Jmp} (hj : h[j]? = some (.loop ps a b s t p)) : h'[j]? = some (.loop ps a b s t p) := k.2 j _ hj (fun e' g' hh => by cases hh)
theorem HExt.kz {h h' : ae} (e : HExt h h') : KZ h h' := fun j z l g hj => e.get hj
theorem KZ.setBox (h : ae) {i : Nat} {cells : List VV} {fr : Bool} (hb : h[i]? = some (.box cells fr)) (o : VO) : KZ h (h.set i o) := fun j z e g hj => by
 grind
theorem KZ.setLoop (h : ae) {i : Nat} {ps : List Nat} {a b : IR} {s : List VV} {t : LoopState} {p : Option Jmp} (hb : h[i]? = some (.loop ps a b s t p)) (o : VO) : KZ h (h.set i o) := fun j z e g hj => by
 grind
theorem eu.kg {h h' : ae} {z z' : Nat} {els : List (List CV)} {v : VV} (b : eu h z els v) (k : KG z' h h') (hz : z ≠ z') : eu h' z els v := by
 rcases b with b | ⟨id, g, hne, h1, h2⟩
 ·exact .inl b
 ·exact .inr ⟨id, g, hne, h1, k.2 id _ h2 (fun e g' hh => by grind)⟩
theorem eu.hext {h h' : ae} {z : Nat} {els : List (List CV)} {v : VV} (b : eu h z els v) (k : HExt h h') : eu h' z els v := by
 rcases b with b | ⟨id, g, hne, h1, h2⟩
 ·exact .inl b
 ·exact .inr ⟨id, g, hne, h1, k.get h2⟩
theorem eu.setLoop {h : ae} {z : Nat} {els : List (List CV)} {v : VV} (hb : eu h z els v) {i : Nat} {ps : List Nat} {a b : IR} {s : List VV} {t : LoopState} {p : Option Jmp} (ho : h[i]? = some (.loop ps a b s t p)) (o : VO) : eu (h.set i o) z els v := by
 rcases hb with b | ⟨id, g, hne, h1, h2⟩
 ·exact .inl b
 ·exact .inr ⟨id, g, hne, h1, by grind⟩
theorem eu.vf {h : ae} {z : Nat} {els : List (List CV)} {v : VV} (b : eu h z els v) : VF h z els v := by
 rcases b with ⟨rfl, rfl⟩ | ⟨id, g, hne, rfl, h2⟩
 ·exact VF.nil
 ·exact .inr ⟨id, g, 0, false, false, els, rfl, h2, by omega, by simp⟩
theorem iu {h : ae} {id : Nat} {v : VV} {fr : Bool} (ho : h[id]? = some (.box [v] fr)) : ldO h false 1 (.ptr id 0) = some (v, h) := bg ho rfl
theorem eu.vf_cell {h : ae} {z : Nat} {els : List (List CV)} {v : VV} (b : eu h z els v) : en v = true := by
 rcases b with ⟨_, rfl⟩ | ⟨_, _, _, rfl, _⟩ <;> rfl
theorem eu.lnO' {h : ae} {z : Nat} {els : List (List CV)} {v : VV} (b : eu h z els v) : lnO false v = some (vi .i64 els.length) := b.vf.ln
theorem Tn {h : ae} {z by_ : Nat} {zero : List CV} {els new : List (List CV)} {v : VV} {x y : Opd} {s : List VV} (b : eu h z els v) (hx : ad s x = v) (hy : jq h z (ad s y) = some new) (h1 : (els.length + new.length) * by_ <= 35184372088832) (h2 : els.length + new.length <= 35184372088832) :
  ∃ v' h', ai h (ad s) (.app z by_ zero x y) = some (v', h') /\ eu h' z (els ++ new) v' /\ KG z h h' := by
 have hm : cz = 35184372088832 := rfl
 by_cases hn : new = []
 ·subst hn
  have e1 := b.els
  simp only [List.length_nil, Nat.add_zero] at h1 h2
  refine ⟨v, h, ?_, by grind, Nat.le_refl _, fun _ _ e _ => e⟩
  simp [ai, hy, hx, b.len, hm, h1, h2, e1]
 ·rcases b with ⟨rfl, rfl⟩ | ⟨id, g, hne, rfl, h3⟩
  ·simp only [List.length_nil, Nat.zero_add] at h1 h2
   refine ⟨.own h.length 0 0 new.length false, h ++ [.arr z new 0 false], ?_, .inr ⟨h.length, 0, by grind, by simp, by simp⟩, by simp, fun j o ho _ => by grind⟩
   simp only [ai, hy, hx, lz, hm, Nat.zero_add, h1, h2, and_self, if_true, hn, if_false]
  ·have hid := ev h3
   refine ⟨.own id (g + 1) 0 (els.length + new.length) false, h.set id (.arr z (els ++ new) (g + 1) false), ?_, .inr ⟨id, g + 1, by simp [hne], by simp, by grind⟩, by simp, fun j o ho hno => ?_⟩
   ·simp only [ai, hy, hx, lz, hm, h1, h2, and_self, if_true, h3, Nat.zero_add, Nat.le_refl, Bool.false_eq_true, if_false, List.drop_zero, List.take_length, hn]
   grind
theorem Gw {F : Nat -> Option FnIR} {h : ae} {z by_ : Nat} {zero : List CV} {els new : List (List CV)} {v : VV} {x y : Opd} {s : List VV} {d : Option Nat} {r : List Op1} {Q : Pst} (b : eu h z els v) (hx : ad s x = v) (hy : jq h z (ad s y) = some new) (h1 : (els.length + new.length) * by_ <= 35184372088832) (h2 : els.length + new.length <= 35184372088832)
  (hk : ∀ v' h', eu h' z (els ++ new) v' -> KG z h h' -> XO F r ⟨df s d v', h'⟩ Q) : XO F (⟨none, d, .app z by_ zero x y⟩ :: r) ⟨s, h⟩ Q := by
 obtain ⟨v', h', e1, e2, e3⟩ := Tn (zero := zero) b hx hy h1 h2
 rw [ig rfl, e1, kj]
 grind
section
variable {h h' : ae} {z : Nat} {els : List (List CV)} {v : VV}
theorem VZ.vf (b : VZ h z els v) : VF h z els v := by
 rcases b with b | ⟨id, g, off, ex, full, h1, h2, h3⟩
 ·exact .inl b
 ·exact .inr ⟨id, g, off, ex, true, full, h1, h2, h3⟩
theorem VZ.kz (b : VZ h z els v) (k : KZ h h') : VZ h' z els v := by
 rcases b with b | ⟨id, g, off, ex, full, h1, h2, h3⟩
 ·exact .inl b
 ·exact .inr ⟨id, g, off, ex, full, h1, k _ _ _ _ h2, h3⟩
theorem mz {h : ae} {i : Nat} {o : VO} (e : h[i]? = some o) : h.set i o = h := by
 apply List.ext_getElem?
 grind
theorem VZ.clos (b : VZ h z els v) : ∃ w, gc h v = some (w, h) /\ SlV z els w := by
 rcases b with b | ⟨id, g, off, ex, full, rfl, a, a2, a3⟩
 ·refine ⟨v, ?_, b⟩
  rcases b with ⟨rfl, rfl⟩ | ⟨ex, rfl⟩ <;> rfl
 ·refine ⟨.cv (.sl z els ex), ?_, .inr ⟨ex, rfl⟩⟩
  have hs := mz a
  simp [gc, Go.Vm.clos, a, a2, hs]
  exact a3.symm
theorem VZ.upto (b : VZ h z els v) {k : IntKind} {n : Nat} (hn : n <= els.length) : ∃ w, slO h z v none (some (vi k (n : Int))) none = some (w, h) /\ VZ h z (els.take n) w := by
 rcases b with b | ⟨id, g, off, ex, full, rfl, a, a2, a3⟩
 ·obtain ⟨w, h1, h2⟩ := b.upto (h := h) (k := k) (b := (n : Int)) (by omega) (by omega)
  rw [Int.toNat_natCast] at h1
  exact ⟨w, h2, .inl h1⟩
 ·have c1 : (n : Int) <= (els.length : Int) := by omega
  have hl : (els.take n).length = n := by grind
  refine ⟨_, by simp [slO, ai, mi, lz, bnd, qg, c1, a]; rfl, .inr ⟨id, g, off, _, full, by rw [hl], a, by omega, ?_⟩⟩
  grind
theorem VZ.from_ (b : VZ h z els v) {k : IntKind} {n : Nat} (hn : n <= els.length) : ∃ w, slO h z v (some (vi k (n : Int))) none none = some (w, h) /\ VZ h z (els.drop n) w := by
 rcases b with b | ⟨id, g, off, ex, full, rfl, a, a2, a3⟩
 ·obtain ⟨w, h1, h2⟩ := b.from_ (h := h) (k := k) (a := (n : Int)) (by omega) (by omega)
  rw [Int.toNat_natCast] at h1
  exact ⟨w, h2, .inl h1⟩
 ·have c1 : (n : Int) <= (els.length : Int) := by omega
  have hl : (els.drop n).length = els.length - n := by grind
  refine ⟨_, by simp [slO, ai, mi, lz, bnd, qg, c1, a]; rfl, .inr ⟨id, g, off + n, _, full, by rw [hl], a, by omega, ?_⟩⟩
  rw [hl]
  conv => lhs; rw [a3]
  rw [List.drop_take, List.drop_drop]
theorem VF.closZ (b : VF h z els v) : ∃ w h1, gc h v = some (w, h1) ∧ SlV z els w ∧ Froze h h1 ∧ VZ h1 z els v ∧ KZ h h1 ∧ (∀ z' elsB u, eu h z' elsB u → (z ≠ z' ∨ elsB = [] ∨ VZ h z els v) → eu h1 z' elsB u) := by
  rcases b with b | ⟨id, g, off, ex, fr, full, rfl, a, a2, a3⟩
  · refine ⟨v, h, ?_, b, Froze.refl h, .inl b, KZ.refl h, fun _ _ _ hb _ => hb⟩
    rcases b with ⟨rfl, rfl⟩ | ⟨ex, rfl⟩ <;> rfl
  · have hf : Froze h (h.set id (.arr z full g true)) := by
      refine ⟨by simp, fun j o e hn => ?_, fun j z' e' g' fr' hj => ?_⟩
      · grind
      grind
    refine ⟨.cv (.sl z els ex), h.set id (.arr z full g true), by simp [gc, Go.Vm.clos, a, a2]; exact a3.symm, .inr ⟨ex, rfl⟩, hf, .inr ⟨id, g, off, ex, full, rfl, by grind, a2, a3⟩, fun j z' e' g' hj => ?_, fun z' elsB u hb hc => ?_⟩
    · grind
    · rcases hb with hb | ⟨id', g', hne, rfl, h2⟩
      · exact .inl hb
      · refine .inr ⟨id', g', hne, rfl, ?_⟩
        have : id ≠ id' := by
          rintro rfl
          rw [a] at h2
          cases h2
          rcases hc with hc | hc | hc
          · exact hc rfl
          · exact hne hc
          · rcases hc with hc | ⟨id2, g2, off2, ex2, full2, e, e2, _⟩
            · rcases hc with ⟨e, _⟩ | ⟨_, e⟩ <;> cases e
            grind
        grind
end
theorem Froze.box' {h h1 : ae} (f : Froze h h1) {j : Nat} {cells : List VV} {fr : Bool} (hj : h[j]? = some (.box cells fr)) : h1[j]? = some (.box cells fr) := f.box j _ hj (fun _ _ _ _ e => by cases e)
theorem Froze.loop' {h h1 : ae} (f : Froze h h1) {j : Nat} {ps : List Nat} {a b : IR} {s : List VV} {t : LoopState} {p : Option Jmp} (hj : h[j]? = some (.loop ps a b s t p)) : h1[j]? = some (.loop ps a b s t p) := f.box j _ hj (fun _ _ _ _ e => by cases e)
theorem VZ.cellv {h : ae} {z : Nat} {els : List (List CV)} {v : VV} (b : VZ h z els v) : en v = true := by
 rcases b with (⟨rfl, _⟩ | ⟨_, rfl⟩) | ⟨_, _, _, _, _, rfl, _⟩ <;> rfl
theorem VF.cellv {h : ae} {z : Nat} {els : List (List CV)} {v : VV} (b : VF h z els v) : en v = true := by
 rcases b with (⟨rfl, _⟩ | ⟨_, rfl⟩) | ⟨_, _, _, _, _, _, rfl, _⟩ <;> rfl
end Go.Vm
/-
 Vm: slices that shrink and grow again (own work).
-/
namespace Go.Vm
open Go
structure PB (h0 h : ae) (z : Nat) (els : List (List CV)) (v : VV) : Prop where
 ext : HExt h0 h
 v : (els = [] /\ v = ct) \/ (els = [] /\ v = .cv (.sl z [] true)) \/ ∃ id g full, h0.length <= id /\ v = .own id g 0 els.length false /\ h[id]? = some (.arr z full g false) /\ els.length <= full.length /\ els = full.take els.length
section
variable {h0 h h' : ae} {z : Nat} {els new : List (List CV)} {v : VV}
theorem NB.pb (b : NB h0 h z els v) : PB h0 h z els v := by
 refine ⟨b.ext, ?_⟩
 rcases b.v with ⟨a, rfl⟩ | ⟨id, g, a1, rfl, a2⟩
 ·grind
 grind
theorem PB.vf (b : PB h0 h z els v) : VF h z els v := by
 rcases b.v with ⟨rfl, rfl⟩ | ⟨rfl, rfl⟩ | ⟨id, g, full, _, rfl, a2, a3, a4⟩
 ·exact VF.nil
 ·exact .inl (.inr ⟨true, rfl⟩)
 ·exact .inr ⟨id, g, 0, false, false, full, rfl, a2, by omega, by grind⟩
theorem PB.then (b : PB h0 h z els v) (e : HExt h h') : PB h0 h' z els v := by
 refine ⟨b.ext.trans e, ?_⟩
 rcases b.v with x | x | ⟨id, g, full, a1, rfl, a2, a3, a4⟩
 ·exact .inl x
 ·grind
 ·exact .inr (.inr ⟨id, g, full, a1, rfl, e.get a2, a3, a4⟩)
theorem PB.cellv (b : PB h0 h z els v) : en v = true := b.vf.cellv
theorem Hg {by_ : Nat} {zero : List CV} {x y : Opd} {s : List VV} {d : Option Nat} {r : List Op1} {F : Nat -> Option FnIR} {Q : Pst} (b : PB h0 h z els v) (hx : ad s x = v) (hy : jq h z (ad s y) = some new) (h1 : (els.length + new.length) * by_ <= 35184372088832) (h2 : els.length + new.length <= 35184372088832)
  (hk : ∀ v' h', PB h0 h' z (els ++ new) v' -> h.length <= h'.length -> (∀ (j : Nat) (cells : List VV) fr, h[j]? = some (.box cells fr) -> h'[j]? = some (.box cells fr)) -> XO F r ⟨df s d v', h'⟩ Q) : XO F (⟨none, d, .app z by_ zero x y⟩ :: r) ⟨s, h⟩ Q := by
 have hm : cz = 35184372088832 := rfl
 have e1 := b.vf.elsO
 have e2 := b.vf.lenv
 by_cases hne : new = []
 ·subst hne
  simp only [List.length_nil, Nat.add_zero] at h1 h2
  have e : ai h (ad s) (.app z by_ zero x y) = some (v, h) := by simp [ai, hy, hx, e2, hm, h1, h2, e1]
  rw [ig rfl, e, kj]
  grind
 ·rcases b.v with ⟨rfl, rfl⟩ | ⟨rfl, rfl⟩ | ⟨id, g, full, a1, rfl, a2, a3, a4⟩
  ·simp only [List.length_nil, Nat.zero_add] at h1 h2
   have e : ai h (ad s) (.app z by_ zero x y) = some (.own h.length 0 0 new.length false, h ++ [.arr z new 0 false]) := by
    simp only [ai, hy, hx, lz, hm, Nat.zero_add, h1, h2, and_self, if_true, hne, if_false]
   rw [ig rfl, e, kj]
   exact hk _ _ ⟨b.ext.then _, .inr (.inr ⟨h.length, 0, new, b.ext.len, by simp, by simp, by simp, by simp⟩)⟩ (by simp) (fun j c fr hj => (HExt.push h _).get hj)
  ·simp only [List.length_nil, Nat.zero_add] at h1 h2
   have e : ai h (ad s) (.app z by_ zero x y) = some (.own h.length 0 0 (0 + new.length) false, h ++ [.arr z ([] ++ new) 0 false]) := by
    simp only [ai, hy, hx, lz, hm, List.length_nil, Nat.zero_add, h1, h2, and_self, if_true, hne, if_false]
   rw [ig rfl, e, kj]
   exact hk _ _ ⟨b.ext.then _, .inr (.inr ⟨h.length, 0, new, b.ext.len, by simp, by simp, by simp, by simp⟩)⟩ (by simp) (fun j c fr hj => (HExt.push h _).get hj)
  ·have hid := ev a2
   have e : ai h (ad s) (.app z by_ zero x y) = some (.own id (g + 1) 0 (els.length + new.length) false, h.set id (.arr z (els ++ new) (g + 1) false)) := by
    simp only [ai, hy, hx, lz, hm, h1, h2, and_self, if_true, a2, Nat.zero_add, a3, Bool.false_eq_true, if_false, List.drop_zero, hne]
    rw [<- a4]
   rw [ig rfl, e, kj]
   refine hk _ _ ⟨b.ext.set a1 _, .inr (.inr ⟨id, g + 1, els ++ new, a1, by simp, by grind, by simp, by grind⟩)⟩ (by simp) (fun j c fr hj => ?_)
   grind
end
end Go.Vm
/-
 Vm: functions of values without an address that are told by hand (own work).
-/
namespace Go.Vm
open Go Go.RowKit
end Go.Vm
/-
 Vm: texts: parts, bytes; calls of what is told by hand (own work).
-/
namespace Go.Vm
open Go
def ssO (v : VV) (lo hi : Option VV) : Option VV := match v with
 | .cv (.sc (.string s)) => match ama hi s.size s.size with
  | some b => match ama lo 0 b with
   | some a => some (.cv (.sc (.string ⟨((s.data.toList.drop a).take (b - a)).toArray⟩)))
   | none => none
  | none => none
 | _ => none
theorem abd {ρ : Opd -> VV} (o : Option Opd) (a b : Nat) : bnd ρ o a b = ama (o.map ρ) a b := by cases o <;> rfl
section
variable {F : Nat -> Option FnIR} {d : Option Nat} {x y : Opd} {r : List Op1} {c : Cl} {q : List (Op1 × Cl)} {s : List VV} {h : ae} {Q : Pst}
theorem acx {lo hi : Option Opd} : ai h (ad s) (.slS x lo hi) = (ssO (ad s x) (lo.map (ad s)) (hi.map (ad s))).map (·, h) := by
 simp only [ai, abd]
 generalize ad s x = v
 cases v with
 | cv c => cases c with
  | sc u =>
   cases u with
   | string t =>
    simp only [ssO]
    grind
   | _ => rfl
  | sl _ _ _ => rfl
 | _ => rfl
theorem aia {lo hi : Option Opd} : XO F (⟨none, d, .slS x lo hi⟩ :: r) ⟨s, h⟩ Q ↔ XW F (ssO (ad s x) (lo.map (ad s)) (hi.map (ad s))) h d r s Q := qj rfl acx
theorem akt {lo hi : Option Opd} : XD F ((⟨none, d, .slS x lo hi⟩, c) :: q) ⟨s, h⟩ Q ↔ XWD F (ssO (ad s x) (lo.map (ad s)) (hi.map (ad s))) h d q s Q := jj rfl acx
def aif (v w : VV) : Option VV := match w, v with
 | .cv (.sc (.int _ j)), .cv (.sc (.string s)) => if 0 <= j then (match s.data.toList[j.toNat]? with
  | some b => some (.cv (.sc (.int .u8 b.toNat)))
  | none => none) else none
 | _, _ => none
theorem ab3 : ai h (ad s) (.ixS x y) = (aif (ad s x) (ad s y)).map (·, h) := by
 simp only [ai]
 generalize ad s x = v
 generalize ad s y = w
 cases w with
 | cv c => cases c with
  | sc u =>
   cases u with
   | int k j =>
    cases v with
    | cv c' => cases c' with
     | sc u' =>
      cases u' with
      | string t =>
       simp only [qg, aif]
       grind
      | _ => rfl
     | sl _ _ _ => rfl
    | _ => rfl
   | _ => rfl
  | sl _ _ _ => rfl
 | _ => rfl
theorem aid : XO F (⟨none, d, .ixS x y⟩ :: r) ⟨s, h⟩ Q ↔ XW F (aif (ad s x) (ad s y)) h d r s Q := qj rfl ab3
theorem aj2 : XD F ((⟨none, d, .ixS x y⟩, c) :: q) ⟨s, h⟩ Q ↔ XWD F (aif (ad s x) (ad s y)) h d q s Q := jj rfl ab3
end
section
variable {l : List UInt8} {k k' : IntKind}
theorem amk {b : UInt8} : aif (txt (b :: l)) (vi k 0) = some (vi .u8 b.toNat) := rfl
theorem ae3 {s t : List UInt8} : kt .leq (txt s) (txt t) = some (vb (Op.bytesLess s t || s == t)) := rfl
end
attribute [go_sem] aia akt aid aj2 amk ae3
theorem alv {F : Nat -> Option FnIR} {a b : IR} {st : St} {Q : Pst} (P : List VV -> ae -> Prop) (h1 : X F a st fun o st' => o = .norm /\ P st'.s st'.h) (h2 : ∀ s h, P s h -> X F b ⟨s, h⟩ Q) : X F a st (K F b Q) := by
 obtain ⟨o, ⟨s, h⟩, e, rfl, hP⟩ := h1
 exact ⟨.norm, ⟨s, h⟩, e, h2 s h hP⟩
end Go.Vm
/-
 Vm: a region that draws its order: what does not look at the heap, as equations (own work).
-/
namespace Go.Vm
open Go
def XWA (F : Nat -> Option FnIR) (P : ae -> Prop) (x : Option VV) (h : ae) (d : Option Nat) (r : List (Op1 × Cl)) (s : List VV) (Q : St -> Prop) : Prop := ∃ v, x = some v /\ XDA F P r ⟨df s d v, h⟩ Q
section
variable {F : Nat -> Option FnIR} {P : ae -> Prop} {d : Option Nat} {r : List (Op1 × Cl)} {s : List VV} {h : ae} {Q : St -> Prop} {x y z : Opd}
theorem Hh {v : VV} : XWA F P (some v) h d r s Q ↔ XDA F P r ⟨df s d v, h⟩ Q := by
 constructor
 ·rintro ⟨_, he, hk⟩; grind
 ·exact fun hk => ⟨v, rfl, hk⟩
theorem rf {i : Ins} {u : Option VV} (hp : jk i = true) (hx : ai h (ad s) i = u.map (·, h)) : XDA F P ((⟨none, d, i⟩, .p) :: r) ⟨s, h⟩ Q ↔ XWA F P u h d r s Q := by
 constructor
 ·rintro ⟨_, st1, e1, e2, e3⟩
  rw [gt hp, hx] at e1
  cases u with
  | none => cases e1
  | some v => cases e1; exact ⟨v, rfl, e3⟩
 ·rintro ⟨v, rfl, hk⟩
  exact pm hp (by rw [hx]; rfl) hk
theorem ahp {d : Nat} : XDA F P ((⟨none, some d, .mv x⟩, .p) :: r) ⟨s, h⟩ Q ↔ XDA F P r ⟨s.set d (ad s x), h⟩ Q := (rf (u := some (ad s x)) rfl rfl).trans Hh
theorem afc {op : BinOp} : XDA F P ((⟨none, d, .bin op x y⟩, .p) :: r) ⟨s, h⟩ Q ↔ XWA F P (kt op (ad s x) (ad s y)) h d r s Q := rf rfl Hr
theorem aee {k : IntKind} : XDA F P ((⟨none, d, .cvI k x⟩, .p) :: r) ⟨s, h⟩ Q ↔ XWA F P (cvO k (ad s x)) h d r s Q := rf rfl Eb
theorem aa1 : XDA F P ((⟨none, d, .pick x y z⟩, .p) :: r) ⟨s, h⟩ Q ↔ XWA F P (pkO (ad s x) (ad s y) (ad s z)) h d r s Q := rf rfl Mu
theorem af0 {i : Nat} : XDA F P ((⟨none, d, .ext x i⟩, .p) :: r) ⟨s, h⟩ Q ↔ XWA F P (exO (ad s x) i) h d r s Q := rf rfl Sm
theorem af3 {t : Bool} : XDA F P ((⟨none, d, .len t x⟩, .p) :: r) ⟨s, h⟩ Q ↔ XWA F P (lnO t (ad s x)) h d r s Q := rf rfl Pm
theorem afp {off : Nat} : XDA F P ((⟨none, d, .fad off x⟩, .p) :: r) ⟨s, h⟩ Q ↔ XWA F P (fdO off (ad s x)) h d r s Q := rf rfl vm
theorem abt {n k : Nat} : XDA F P ((⟨none, d, .iadA n k x y⟩, .p) :: r) ⟨s, h⟩ Q ↔ XWA F P (Hq n k (ad s x) (ad s y)) h d r s Q := rf rfl xc
theorem Uj {zero : List VV} {parts : List (Nat × Nat × Opd)} : XDA F P ((⟨none, d, .build zero parts⟩, .p) :: r) ⟨s, h⟩ Q ↔ XWA F P (bdO zero (ja s parts)) h d r s Q := rf rfl Gg
theorem Ua : XDA F P ((⟨none, d, .nilck x⟩, .p) :: r) ⟨s, h⟩ Q ↔ XWA F P (nkO (ad s x)) h d r s Q := rf rfl zd
theorem Ze {d t : Nat} : XDA F P ((⟨none, some d, .mkif t x⟩, .p) :: r) ⟨s, h⟩ Q ↔ XDA F P r ⟨s.set d (.iface t (ad s x)), h⟩ Q := (rf (u := some (.iface t (ad s x))) rfl rfl).trans Hh
theorem adb : XDA F P [] ⟨s, h⟩ Q ↔ Q ⟨s, h⟩ := Iff.rfl
end
theorem aec {F : Nat -> Option FnIR} {d t : Nat} {x : Opd} {r : List Op1} {s : List VV} {h : ae} {Q : Pst} : XO F (⟨none, some d, .mkif t x⟩ :: r) ⟨s, h⟩ Q ↔ XO F r ⟨s.set d (.iface t (ad s x)), h⟩ Q := uy rfl rfl
theorem afm {F : Nat -> Option FnIR} {d t : Nat} {x : Opd} {c : Cl} {q : List (Op1 × Cl)} {s : List VV} {h : ae} {Q : Pst} : XD F ((⟨none, some d, .mkif t x⟩, c) :: q) ⟨s, h⟩ Q ↔ XD F q ⟨s.set d (.iface t (ad s x)), h⟩ Q := (jj (u := some (.iface t (ad s x))) rfl rfl).trans zh
theorem Kk {h : ae} {s : List VV} {n : Nat} {x y : Opd} : ai h (ad s) (.st n x y) = stO h n (ad s x) (ad s y) := rfl
attribute [go_sem] Hh ahp afc aee aa1 af0 af3 afp abt Uj Ua Ze adb aec afm
end Go.Vm
