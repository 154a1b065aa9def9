/-
  Vm: what steps do to values, for simp (own work).
-/
import Derived.Test.YtpingdgbndmcnaaVmX
import Derived.Lib.VarintBits
namespace Go.Vm
open Go

/-- A text, by its bytes. -/
abbrev txt (l : List UInt8) : VV := .cv (.sc (.string ⟨l.toArray⟩))
theorem txt_of (s : ByteArray) : vs s = txt s.data.toList := rfl

section
variable {k k' : IntKind} {a b : Int} {s t : List UInt8}
theorem bin_add : binO .add (vi k a) (vi k b) = some (vi k (k.wrap (a + b))) := by simp [binO, binV]
theorem bin_sub : binO .sub (vi k a) (vi k b) = some (vi k (k.wrap (a - b))) := by simp [binO, binV]
theorem bin_mul : binO .mul (vi k a) (vi k b) = some (vi k (k.wrap (a * b))) := by simp [binO, binV]
theorem bin_quo (h : b ≠ 0) : binO .quo (vi k a) (vi k b) = some (vi k (k.wrap (a.tdiv b))) := by simp [binO, binV, h]
theorem bin_rem (h : b ≠ 0) : binO .rem (vi k a) (vi k b) = some (vi k (a.tmod b)) := by simp [binO, binV, h]
theorem bin_and : binO .and (vi k a) (vi k b) = some (vi k (bits .and k a b)) := by simp [binO, binV, bits]
theorem bin_or : binO .or (vi k a) (vi k b) = some (vi k (bits .or k a b)) := by simp [binO, binV, bits]
theorem bin_xor : binO .xor (vi k a) (vi k b) = some (vi k (bits .xor k a b)) := by simp [binO, binV, bits]
theorem bin_shl (h : ¬ b < 0) : binO .shl (vi k a) (vi k' b) = some (vi k (k.wrap (a * 2 ^ (min b.toNat k.bits)))) := by simp [binO, binV, h]
theorem bin_shr (h : ¬ b < 0) : binO .shr (vi k a) (vi k' b) = some (vi k (a.fdiv (2 ^ (min b.toNat k.bits)))) := by simp [binO, binV, h]
theorem bin_eql : binO .eql (vi k a) (vi k b) = some (vb (decide (a = b))) := by simp [binO, binV]; rfl
theorem bin_neq : binO .neq (vi k a) (vi k b) = some (vb (decide (a ≠ b))) := by simp [binO, binV, bne]; rfl
theorem bin_lss : binO .lss (vi k a) (vi k b) = some (vb (decide (a < b))) := by simp [binO, binV]
theorem bin_leq : binO .leq (vi k a) (vi k b) = some (vb (decide (a ≤ b))) := by simp [binO, binV]
theorem bin_gtr : binO .gtr (vi k a) (vi k b) = some (vb (decide (b < a))) := by simp [binO, binV]
theorem bin_geq : binO .geq (vi k a) (vi k b) = some (vb (decide (b ≤ a))) := by simp [binO, binV]
theorem bin_seql : binO .eql (txt s) (txt t) = some (vb (decide (s = t))) := by
  simp only [binO, binV, Option.map_some, Option.some.injEq, VV.cv.injEq, CV.sc.injEq, Value.bool.injEq]
  by_cases h : s = t <;> simp [h]
theorem bin_sneq : binO .neq (txt s) (txt t) = some (vb (decide (s ≠ t))) := by
  simp only [binO, binV, Option.map_some, Option.some.injEq, VV.cv.injEq, CV.sc.injEq, Value.bool.injEq]
  by_cases h : s = t
  · subst h; simp
  · have : (s == t) = false := by simpa using h
    simp [h]
theorem bin_slss : binO .lss (txt s) (txt t) = some (vb (Op.bytesLess s t)) := rfl
theorem bin_sadd (h : s.length + t.length ≤ 9223372036854775807) : binO .add (txt s) (txt t) = some (txt (s ++ t)) := by
  have h' : (⟨s.toArray⟩ : ByteArray).size + (⟨t.toArray⟩ : ByteArray).size ≤ 9223372036854775807 := h
  simp only [binO, binV, if_pos h', Option.map_some, Option.some.injEq, VV.cv.injEq, CV.sc.injEq, Value.string.injEq]
  apply ByteArray.ext
  rw [ByteArray.data_append]
  simp
end

theorem ln_nil : lnO false nilS = some (vi .i64 0) := rfl
theorem ln_sl {z : Nat} {els : List (List CV)} {ex : Bool} : lnO false (.cv (.sl z els ex)) = some (vi .i64 els.length) := rfl
theorem ln_own {id g off len : Nat} {ex : Bool} : lnO false (.own id g off len ex) = some (vi .i64 len) := rfl
theorem ln_str {l : List UInt8} : lnO true (txt l) = some (vi .i64 l.length) := rfl

section
variable {F : Nat → Option FnIR} {d : Option Nat} {x y z : Opd} {r : List Op1} {c : Cl} {q : List (Op1 × Cl)} {s : List VV} {h : Heap} {Q : Pst}
/-- A slice's literal. -/
def mkO (h : Heap) (z len : Nat) (zero : List VV) (parts : List (Nat × Nat × VV)) : Option (VV × Heap) :=
  match fill zero parts with
  | some cs => match closL h cs with
    | some (cc, h1) => some (.cv (.sl z (chunk z len cc) true), h1)
    | none => none
  | none => none
def mkParts (s : List VV) : List (Nat × Nat × Opd) → List (Nat × Nat × VV)
  | [] => []
  | (a, b, x) :: r => (a, b, evalO s x) :: mkParts s r
theorem mkParts_nil {s : List VV} : mkParts s [] = [] := rfl
theorem mkParts_cons {s : List VV} {a b : Nat} {x : Opd} {r : List (Nat × Nat × Opd)} : mkParts s ((a, b, x) :: r) = (a, b, evalO s x) :: mkParts s r := rfl
theorem mkParts_eq (s : List VV) : ∀ l : List (Nat × Nat × Opd), l.map (fun p => (p.1, p.2.1, evalO s p.2.2)) = mkParts s l
  | [] => rfl
  | (a, b, x) :: r => by simp only [List.map, mkParts, mkParts_eq s r]
theorem st_mksl {z len : Nat} {zero : List VV} {parts : List (Nat × Nat × Opd)} : stepI h (evalO s) (.mksl z len zero parts false) = mkO h z len zero (mkParts s parts) := by
  simp only [stepI, mkO, mkParts_eq, Bool.false_eq_true, if_false]
  cases fill zero (mkParts s parts) with
  | none => rfl
  | some cs => cases closL h cs <;> rfl
theorem XO_mksl {z len : Nat} {zero : List VV} {parts : List (Nat × Nat × Opd)} : XO F (⟨none, d, .mksl z len zero parts false⟩ :: r) ⟨s, h⟩ Q ↔ XV F (mkO h z len zero (mkParts s parts)) d r s Q := by
  rw [XO_ins rfl, st_mksl]
theorem XD_mksl {z len : Nat} {zero : List VV} {parts : List (Nat × Nat × Opd)} : XD F ((⟨none, d, .mksl z len zero parts false⟩, c) :: q) ⟨s, h⟩ Q ↔ XVD F (mkO h z len zero (mkParts s parts)) c h d q s Q := by
  rw [XD_ins rfl, st_mksl]
/-- A struct's literal. -/
def bdO (zero : List VV) (parts : List (Nat × Nat × VV)) : Option VV := (fill zero parts).map .agg
theorem st_build {zero : List VV} {parts : List (Nat × Nat × Opd)} : stepI h (evalO s) (.build zero parts) = (bdO zero (mkParts s parts)).map (·, h) := by
  simp only [stepI, bdO, mkParts_eq]
  cases fill zero (mkParts s parts) <;> rfl
theorem XO_build {zero : List VV} {parts : List (Nat × Nat × Opd)} : XO F (⟨none, d, .build zero parts⟩ :: r) ⟨s, h⟩ Q ↔ XW F (bdO zero (mkParts s parts)) h d r s Q := XW_of rfl st_build
theorem XD_build {zero : List VV} {parts : List (Nat × Nat × Opd)} : XD F ((⟨none, d, .build zero parts⟩, c) :: q) ⟨s, h⟩ Q ↔ XWD F (bdO zero (mkParts s parts)) h d q s Q := XWD_of rfl st_build
theorem mkO_1 {z0 c : CV} : mkO h 1 1 [.cv z0] [(0, 1, .cv c)] = some (.cv (.sl 1 [[c]] true), h) := by
  simp [mkO, fill, cellsOf, splice, closL, clos, chunk, List.range, List.range.loop]
theorem mkO_2 {z0 z1 c c1 : CV} : mkO h 1 2 [.cv z0, .cv z1] [(0, 1, .cv c), (1, 1, .cv c1)] = some (.cv (.sl 1 [[c], [c1]] true), h) := by
  simp [mkO, fill, cellsOf, splice, closL, clos, chunk, List.range, List.range.loop]
end

/-! ### looking into slices -/

section
variable {F : Nat → Option FnIR} {d : Option Nat} {x y z : Opd} {r : List Op1} {c : Cl} {q : List (Op1 × Cl)} {s : List VV} {h : Heap} {Q : Pst}

def rhoO (v w u : VV) : Opd → VV
  | .t 0 => v
  | .t 1 => w
  | .t _ => u
  | .c c => c

def iaO (h : Heap) (z : Nat) (v w : VV) : Option (VV × Heap) := stepI h (rhoO v w .undef) (.iadL z (.t 0) (.t 1))
theorem XO_iadL {z : Nat} : XO F (⟨none, d, .iadL z x y⟩ :: r) ⟨s, h⟩ Q ↔ XV F (iaO h z (evalO s x) (evalO s y)) d r s Q := XO_ins rfl
theorem XD_iadL {z : Nat} : XD F ((⟨none, d, .iadL z x y⟩, c) :: q) ⟨s, h⟩ Q ↔ XVD F (iaO h z (evalO s x) (evalO s y)) c h d q s Q := XD_ins rfl
theorem ia_sl {z : Nat} {els : List (List CV)} {ex : Bool} {k : IntKind} {j : Int} {e : List CV} (h0 : 0 ≤ j) (he : els[j.toNat]? = some e) : iaO h z (.cv (.sl z els ex)) (vi k j) = some (.rptr e, h) := by
  simp [iaO, stepI, rhoO, intV, h0, he]
theorem ia_own {z id g off len : Nat} {els : List (List CV)} {fr ex : Bool} {k : IntKind} {j : Int} (h0 : 0 ≤ j) (ho : h[id]? = some (.arr z els g fr)) (hl : j.toNat < len) :
    iaO h z (.own id g off len ex) (vi k j) = some (.eptr id g (off + j.toNat) 0, h) := by
  simp [iaO, stepI, rhoO, intV, h0, ho, hl]

def ldO (h : Heap) (ag : Bool) (n : Nat) (v : VV) : Option (VV × Heap) := stepI h (rhoO v .undef .undef) (.ld ag n (.t 0))
theorem XO_ld {ag : Bool} {n : Nat} : XO F (⟨none, d, .ld ag n x⟩ :: r) ⟨s, h⟩ Q ↔ XV F (ldO h ag n (evalO s x)) d r s Q := XO_ins rfl
theorem XD_ld {ag : Bool} {n : Nat} : XD F ((⟨none, d, .ld ag n x⟩, c) :: q) ⟨s, h⟩ Q ↔ XVD F (ldO h ag n (evalO s x)) c h d q s Q := XD_ins rfl
theorem ld_rptr {c : CV} {r : List CV} : ldO h false 1 (.rptr (c :: r)) = some (.cv c, h) := by simp [ldO, stepI, rhoO, ldCells]
theorem ld_ptr {id off : Nat} {cells : List VV} {fr : Bool} {c : VV} (ho : h[id]? = some (.box cells fr)) (hc : cells[off]? = some c) : ldO h false 1 (.ptr id off) = some (c, h) := by
  have : (cells.drop off).take 1 = [c] := by
    rw [List.take_one, List.head?_drop, hc]; rfl
  simp [ldO, stepI, rhoO, ho, this, ldCells]
theorem ld_eptr {id g i z off : Nat} {els : List (List CV)} {fr : Bool} {e : List CV} {c : CV} (ho : h[id]? = some (.arr z els g fr)) (he : els[i]? = some e) (hc : e[off]? = some c) : ldO h false 1 (.eptr id g i off) = some (.cv c, h) := by
  have : (e.drop off).take 1 = [c] := by
    rw [List.take_one, List.head?_drop, hc]; rfl
  simp [ldO, stepI, rhoO, ho, he, this, ldCells]

def fdO (off : Nat) : VV → Option VV
  | .ptr id o => some (.ptr id (o + off))
  | .eptr id g i o => some (.eptr id g i (o + off))
  | .rptr cells => some (.rptr (cells.drop off))
  | _ => none
theorem st_fad {off : Nat} : stepI h (evalO s) (.fad off x) = (fdO off (evalO s x)).map (·, h) := by
  simp only [stepI]
  generalize evalO s x = v
  cases v <;> rfl
theorem XO_fad {off : Nat} : XO F (⟨none, d, .fad off x⟩ :: r) ⟨s, h⟩ Q ↔ XW F (fdO off (evalO s x)) h d r s Q := XW_of rfl st_fad
theorem XD_fad {off : Nat} : XD F ((⟨none, d, .fad off x⟩, c) :: q) ⟨s, h⟩ Q ↔ XWD F (fdO off (evalO s x)) h d q s Q := XWD_of rfl st_fad
theorem fd_r {off : Nat} {cells : List CV} : fdO off (.rptr cells) = some (.rptr (cells.drop off)) := rfl
theorem fd_p {id o off : Nat} : fdO off (.ptr id o) = some (.ptr id (o + off)) := rfl
theorem fd_e {id g i o off : Nat} : fdO off (.eptr id g i o) = some (.eptr id g i (o + off)) := rfl

/-- Of a struct's value, a field. -/
def flO (ag : Bool) (off n : Nat) (v : VV) : Option VV := match v with
  | .agg cells => ldCells ag n ((cells.drop off).take n)
  | _ => none
theorem st_fld {ag : Bool} {off n : Nat} : stepI h (evalO s) (.fld ag off n x) = (flO ag off n (evalO s x)).map (·, h) := by
  simp only [stepI]
  generalize evalO s x = v
  cases v <;> rfl
theorem XO_fld {ag : Bool} {off n : Nat} : XO F (⟨none, d, .fld ag off n x⟩ :: r) ⟨s, h⟩ Q ↔ XW F (flO ag off n (evalO s x)) h d r s Q := XW_of rfl st_fld
theorem XD_fld {ag : Bool} {off n : Nat} : XD F ((⟨none, d, .fld ag off n x⟩, c) :: q) ⟨s, h⟩ Q ↔ XWD F (flO ag off n (evalO s x)) h d q s Q := XWD_of rfl st_fld

/-- Bytes to a text. -/
def bsO (h : Heap) (v : VV) : Option VV := match elsOf h 1 v with
  | some els => (bytesOf els).map fun l => txt l
  | none => none
theorem st_cvBS : stepI h (evalO s) (.cvBS x) = (bsO h (evalO s x)).map (·, h) := by
  simp only [stepI, bsO]
  cases elsOf h 1 (evalO s x) with
  | none => rfl
  | some els => simp only; cases bytesOf els <;> rfl
theorem XO_cvBS : XO F (⟨none, d, .cvBS x⟩ :: r) ⟨s, h⟩ Q ↔ XW F (bsO h (evalO s x)) h d r s Q := XW_of rfl st_cvBS
theorem XD_cvBS : XD F ((⟨none, d, .cvBS x⟩, c) :: q) ⟨s, h⟩ Q ↔ XWD F (bsO h (evalO s x)) h d q s Q := XWD_of rfl st_cvBS
theorem bytesOf_eB : ∀ l : List UInt8, bytesOf (eB l) = some l
  | [] => rfl
  | b :: l => by
    have ih := bytesOf_eB l
    unfold bytesOf at ih ⊢
    simp only [eB, List.map_cons, List.mapM_cons, byteCell, byteOf?] at ih ⊢
    rw [ih]
    simp
theorem bs_els {v : VV} {l : List UInt8} (hv : elsOf h 1 v = some (eB l)) : bsO h v = some (txt l) := by
  simp only [bsO, hv, bytesOf_eB, Option.map_some]
theorem bs_sl {l : List UInt8} {ex : Bool} : bsO h (.cv (.sl 1 (eB l) ex)) = some (txt l) := bs_els (by simp [elsOf])
theorem bs_nil : bsO h nilS = some (txt []) := rfl

/-- A text to bytes, closed. -/
def sbO (v : VV) : Option VV := match v with
  | .cv (.sc (.string t)) => some (.cv (.sl 1 (eB t.data.toList) false))
  | _ => none
theorem st_cvSB : stepI h (evalO s) (.cvSB false x) = (sbO (evalO s x)).map (·, h) := by
  simp only [stepI]
  generalize evalO s x = v
  cases v with
  | cv c => cases c with
    | sc u => cases u <;> rfl
    | sl _ _ _ => rfl
  | _ => rfl
theorem XO_cvSB : XO F (⟨none, d, .cvSB false x⟩ :: r) ⟨s, h⟩ Q ↔ XW F (sbO (evalO s x)) h d r s Q := XW_of rfl st_cvSB
theorem XD_cvSB : XD F ((⟨none, d, .cvSB false x⟩, c) :: q) ⟨s, h⟩ Q ↔ XWD F (sbO (evalO s x)) h d q s Q := XWD_of rfl st_cvSB
theorem sb_txt {l : List UInt8} : sbO (txt l) = some (.cv (.sl 1 (eB l) false)) := rfl

/-- A part of a slice. -/
def bndV (x : Option VV) (dflt y : Nat) : Option Nat :=
  match x with
  | none => some dflt
  | some v => match intV v with
    | some i => if 0 ≤ i ∧ i ≤ y then some i.toNat else none
    | none => none
def slO (h : Heap) (z : Nat) (v : VV) (lo hi mx : Option VV) : Option (VV × Heap) :=
  stepI h (rhoO v .undef .undef) (.slL z (.t 0) (lo.map .c) (hi.map .c) (mx.map .c))
theorem bnd_map {ρ ρ' : Opd → VV} (hc : ∀ v, ρ' (.c v) = v) (o : Option Opd) (a b : Nat) : bnd ρ o a b = bnd ρ' ((o.map ρ).map .c) a b := by
  cases o with
  | none => rfl
  | some o => simp only [bnd, Option.map_some, hc]
theorem st_slL {z : Nat} {lo hi mx : Option Opd} : stepI h (evalO s) (.slL z x lo hi mx) = slO h z (evalO s x) (lo.map (evalO s)) (hi.map (evalO s)) (mx.map (evalO s)) := by
  have hc : ∀ v, rhoO (evalO s x) .undef .undef (.c v) = v := fun _ => rfl
  simp only [slO, stepI]
  simp only [bnd_map hc lo, bnd_map hc hi, bnd_map hc mx, Option.isSome_map]
  rfl
theorem XO_slL {z : Nat} {lo hi mx : Option Opd} : XO F (⟨none, d, .slL z x lo hi mx⟩ :: r) ⟨s, h⟩ Q ↔ XV F (slO h z (evalO s x) (lo.map (evalO s)) (hi.map (evalO s)) (mx.map (evalO s))) d r s Q := by
  rw [XO_ins rfl, st_slL]
theorem XD_slL {z : Nat} {lo hi mx : Option Opd} : XD F ((⟨none, d, .slL z x lo hi mx⟩, c) :: q) ⟨s, h⟩ Q ↔ XVD F (slO h z (evalO s x) (lo.map (evalO s)) (hi.map (evalO s)) (mx.map (evalO s))) c h d q s Q := by
  rw [XD_ins rfl, st_slL]
theorem sl_sl {z : Nat} {els : List (List CV)} {ex : Bool} {k k' : IntKind} {a b : Int} (h1 : 0 ≤ a) (h2 : a ≤ b) (h3 : b ≤ els.length) :
    ∃ ex', slO h z (.cv (.sl z els ex)) (some (vi k a)) (some (vi k' b)) none = some (.cv (.sl z ((els.drop a.toNat).take (b.toNat - a.toNat)) ex'), h) := by
  have h4 : 0 ≤ b := by omega
  have h5 : b ≤ (els.length : Int) := h3
  have h6 : a ≤ max b 0 := by omega
  refine ⟨ex && b.toNat == els.length, ?_⟩
  simp [slO, stepI, rhoO, lenV, bnd, intV, h1, h4, h5, h6]
theorem eB_part {l : List UInt8} {a n : Nat} : ((eB l).drop a).take n = eB ((l.drop a).take n) := by simp [eB, List.map_drop, List.map_take]

theorem eB_get {l : List UInt8} {i : Nat} {c : UInt8} (hc : l[i]? = some c) : (eB l)[i]? = some [.sc (.int .u8 c.toNat)] := by
  simp [eB, hc, byteCell]
theorem eB_len {l : List UInt8} : (eB l).length = l.length := by simp [eB]
theorem src_txt {l : List UInt8} : srcOf h 1 (txt l) = some (eB l) := rfl
theorem src_sl {z : Nat} {els : List (List CV)} {ex : Bool} : srcOf h z (.cv (.sl z els ex)) = some els := by simp [srcOf, elsOf]
theorem src_nil {z : Nat} : srcOf h z nilS = some [] := rfl
end

/-- v is a closed slice of these elements, or nil. -/
def SlV (z : Nat) (els : List (List CV)) (v : VV) : Prop := (v = nilS ∧ els = []) ∨ ∃ ex, v = .cv (.sl z els ex)

section
variable {z : Nat} {es : List (List CV)} {v : VV} {h : Heap}
theorem SlV.nil : SlV z [] nilS := .inl ⟨rfl, rfl⟩
theorem SlV.sl {ex : Bool} : SlV z es (.cv (.sl z es ex)) := .inr ⟨ex, rfl⟩
theorem SlV.ln (hv : SlV z es v) : lnO false v = some (vi .i64 es.length) := by
  rcases hv with ⟨rfl, rfl⟩ | ⟨ex, rfl⟩ <;> rfl
theorem SlV.ia (hv : SlV z es v) {k : IntKind} {j : Int} {e : List CV} (h0 : 0 ≤ j) (he : es[j.toNat]? = some e) : iaO h z v (vi k j) = some (.rptr e, h) := by
  rcases hv with ⟨rfl, rfl⟩ | ⟨ex, rfl⟩
  · simp at he
  · exact ia_sl h0 he
theorem SlV.part (hv : SlV z es v) {k k' : IntKind} {a b : Int} (h1 : 0 ≤ a) (h2 : a ≤ b) (h3 : b ≤ es.length) :
    ∃ v', SlV z ((es.drop a.toNat).take (b.toNat - a.toNat)) v' ∧ slO h z v (some (vi k a)) (some (vi k' b)) none = some (v', h) := by
  rcases hv with ⟨rfl, rfl⟩ | ⟨ex, rfl⟩
  · have hb : b = 0 := by simp at h3; omega
    have ha : a = 0 := by omega
    subst hb ha
    exact ⟨nilS, .inl ⟨rfl, by simp⟩, by simp [slO, stepI, rhoO, lenV, bnd, intV]⟩
  · obtain ⟨ex', e⟩ := sl_sl (h := h) (z := z) (els := es) (ex := ex) (k := k) (k' := k') h1 h2 h3
    exact ⟨_, .inr ⟨ex', rfl⟩, e⟩
theorem SlV.els (hv : SlV z es v) : elsOf h z v = some es := by
  rcases hv with ⟨rfl, rfl⟩ | ⟨ex, rfl⟩
  · rfl
  · simp [elsOf]
theorem SlV.src (hv : SlV z es v) : srcOf h z v = some es := by
  rcases hv with ⟨rfl, rfl⟩ | ⟨ex, rfl⟩
  · rfl
  · exact src_sl
theorem SlV.bs {l : List UInt8} (hv : SlV 1 (eB l) v) : bsO h v = some (txt l) := bs_els hv.els
theorem SlV.clos {l as : List VV} {h1 : Heap} (hv : SlV z es v) (hl : closAs h l = some (as, h1)) : closAs h (v :: l) = some (v :: as, h1) := by
  rcases hv with ⟨rfl, rfl⟩ | ⟨ex, rfl⟩ <;> simp [closAs, closA, Go.Vm.clos, hl]
end

/-! ### calls -/

section
variable {F : Nat → Option FnIR} {d : Option Nat} {r : List Op1} {s : List VV} {h : Heap} {Q : Pst}

/-- A call on closed values. -/
theorem XO_callP {f : Nat} {args : List Opd} {as : List VV} {h1 hc : Heap} {v w : VV} (ha : closAs h (args.map (evalO s)) = some (as, h1)) (hcall : call F f as [] = some (.ret v, hc)) (hr : closRes hc v = some w)
    (hk : XO F r ⟨putD s d w, h1⟩ Q) : XO F (⟨none, d, .call f true args⟩ :: r) ⟨s, h⟩ Q := by
  refine (XO_call (v := w) (h' := h1) ?_).mpr hk
  unfold doCall
  simp only [if_true, ha, hcall, hr, Option.map_some]

/-- A call in the caller's heap. -/
theorem XO_callR {f : Nat} {args : List Opd} {v : VV} {h' : Heap} (hcall : call F f (args.map (evalO s)) h = some (.ret v, h')) (hk : XO F r ⟨putD s d v, h'⟩ Q) :
    XO F (⟨none, d, .call f false args⟩ :: r) ⟨s, h⟩ Q := by
  refine (XO_call (v := v) (h' := h') ?_).mpr hk
  unfold doCall
  simpa using hcall

theorem XD_callP {c : Cl} {q : List (Op1 × Cl)} {f : Nat} {args : List Opd} {as : List VV} {hc : Heap} {v w : VV} (ha : closAs h (args.map (evalO s)) = some (as, h)) (hcall : call F f as [] = some (.ret v, hc)) (hr : closRes hc v = some w)
    (hk : XD F q ⟨putD s d w, h⟩ Q) : XD F ((⟨none, d, .call f true args⟩, c) :: q) ⟨s, h⟩ Q := by
  refine XD_call (v := w) ?_ hk
  unfold doCall
  simp only [if_true, ha, hcall, hr, Option.map_some]
theorem clos_cv {c : CV} {as : List VV} {l : List VV} {h1 : Heap} (hl : closAs h l = some (as, h1)) : closAs h (.cv c :: l) = some (.cv c :: as, h1) := by
  simp [closAs, closA, clos, hl]
theorem clos_nil : closAs h [] = some ([], h) := rfl
theorem res_cv {c : CV} : closRes h (.cv c) = some (.cv c) := rfl
end

/-! ### slices that grow -/

/-- v is a slice that grows behind the heap h0. -/
def Buf (h0 : Heap) (z : Nat) (els : List (List CV)) (v : VV) (h : Heap) : Prop :=
  (els = [] ∧ v = nilS ∧ h = h0) ∨ (∃ g, v = .own h0.length g 0 els.length false ∧ h = h0 ++ [.arr z els g false])

theorem Buf.nil (h0 : Heap) (z : Nat) : Buf h0 z [] nilS h0 := .inl ⟨rfl, rfl, rfl⟩

theorem get_last (h0 : Heap) (o : VO) : (h0 ++ [o])[h0.length]? = some o := by simp
theorem set_last (h0 : Heap) (o o' : VO) : (h0 ++ [o]).set h0.length o' = h0 ++ [o'] := by simp

theorem Buf.len {h0 : Heap} {z : Nat} {els : List (List CV)} {v : VV} {h : Heap} (hb : Buf h0 z els v h) : lenV v = some els.length := by
  rcases hb with ⟨rfl, rfl, rfl⟩ | ⟨g, rfl, rfl⟩ <;> rfl
theorem Buf.els {h0 : Heap} {z : Nat} {els : List (List CV)} {v : VV} {h : Heap} (hb : Buf h0 z els v h) : elsOf h z v = some els := by
  rcases hb with ⟨rfl, rfl, rfl⟩ | ⟨g, rfl, rfl⟩
  · rfl
  · simp [elsOf]

theorem XO_app {h0 : Heap} {z by_ : Nat} {zero : List CV} {els new : List (List CV)} {v : VV} {h : Heap} {x y : Opd} {F : Nat → Option FnIR} {d : Option Nat} {r : List Op1} {s : List VV} {Q : Pst}
    (hb : Buf h0 z els v h) (hx : evalO s x = v) (hy : srcOf h z (evalO s y) = some new) (h1 : (els.length + new.length) * by_ ≤ 35184372088832) (h2 : els.length + new.length ≤ 35184372088832)
    (hk : ∀ v' h', Buf h0 z (els ++ new) v' h' → XO F r ⟨putD s d v', h'⟩ Q) : XO F (⟨none, d, .app z by_ zero x y⟩ :: r) ⟨s, h⟩ Q := by
  rw [XO_ins rfl]
  have hm : maxBytes = 35184372088832 := rfl
  have hl : lenV (evalO s x) = some els.length := by rw [hx]; exact hb.len
  have hE : elsOf h z (evalO s x) = some els := by rw [hx]; exact hb.els
  simp only [stepI, hy, hl, hm, h1, h2, and_self, if_true]
  unfold XV
  by_cases hn : new = []
  · subst hn
    simp only [if_true, hE]
    refine ⟨_, _, rfl, hk _ _ ?_⟩
    rw [hx, List.append_nil]; exact hb
  · simp only [if_neg hn]
    rcases hb with ⟨rfl, rfl, rfl⟩ | ⟨g, rfl, rfl⟩
    · rw [hx]
      refine ⟨_, _, rfl, hk _ _ (.inr ⟨0, ?_, ?_⟩)⟩ <;> simp
    · rw [hx]
      simp only [get_last, Nat.zero_add, Nat.le_refl, and_self, if_true, Bool.false_eq_true, if_false, List.drop_zero, List.take_length, set_last]
      refine ⟨_, _, rfl, hk _ _ (.inr ⟨g + 1, ?_, ?_⟩)⟩
      · rw [List.length_append]
      · rfl

theorem src_one {h : Heap} {c : CV} {ex : Bool} : srcOf h 1 (.cv (.sl 1 [[c]] ex)) = some [[c]] := by simp [srcOf, elsOf]

/-- What a growing slice is, closed. -/
theorem Buf.res {z : Nat} {els : List (List CV)} {v : VV} {h : Heap} {h0 : Heap} (hb : Buf h0 z els v h) (hn : els ≠ []) : closRes h v = some (.cv (.sl z els false)) := by
  rcases hb with ⟨e, _, _⟩ | ⟨g, rfl, rfl⟩
  · exact absurd e hn
  · simp [closRes, closA, clos]

theorem bd_nil {l : List VV} : bdO l [] = some (.agg l) := rfl
theorem bd_2 {a b : VV} {u v : CV} : bdO [a, b] [(0, 1, .cv u), (1, 1, .cv v)] = some (.agg [.cv u, .cv v]) := rfl
theorem bd_3 {a b c : VV} {u v w : CV} : bdO [a, b, c] [(0, 1, .cv u), (1, 1, .cv v), (2, 1, .cv w)] = some (.agg [.cv u, .cv v, .cv w]) := rfl

theorem mk_agg2 {h : Heap} {z0 z1 : VV} {u w : CV} : mkO h 2 1 [z0, z1] [(0, 2, .agg [.cv u, .cv w])] = some (.cv (.sl 2 [[u, w]] true), h) := rfl
theorem mk_agg3 {h : Heap} {z0 z1 z2 : VV} {u w t : CV} : mkO h 3 1 [z0, z1, z2] [(0, 3, .agg [.cv u, .cv w, .cv t])] = some (.cv (.sl 3 [[u, w, t]] true), h) := rfl

/-! ### boxes -/

section
variable {F : Nat → Option FnIR} {d : Option Nat} {x y z : Opd} {r : List Op1} {c : Cl} {q : List (Op1 × Cl)} {s : List VV} {h : Heap} {Q : Pst}

theorem XO_alloc {zero : List VV} : XO F (⟨none, d, .alloc zero⟩ :: r) ⟨s, h⟩ Q ↔ XO F r ⟨putD s d (.ptr h.length 0), h ++ [.box zero false]⟩ Q := XO_step rfl rfl
/-- A new box, in place of its block's number. -/
def bxO (h : Heap) (n : Nat) (v : VV) : Option (VV × Heap) := stepI h (rhoO v .undef .undef) (.box n (.t 0))
theorem XO_box {n : Nat} : XO F (⟨none, d, .box n x⟩ :: r) ⟨s, h⟩ Q ↔ XV F (bxO h n (evalO s x)) d r s Q := XO_ins rfl
theorem bx_1 {v : VV} (hv : isCell v = true) : bxO h 1 v = some (.ptr h.length 0, h ++ [.box [v] false]) := by
  cases v <;> first | rfl | (simp [isCell] at hv)
theorem bx_agg {n : Nat} {cs : List VV} (hn : cs.length = n) : bxO h n (.agg cs) = some (.ptr h.length 0, h ++ [.box cs false]) := by
  simp [bxO, stepI, rhoO, cellsOf, hn]

def stO (h : Heap) (n : Nat) (v w : VV) : Option (VV × Heap) := stepI h (rhoO v w .undef) (.st n (.t 0) (.t 1))
theorem XO_st {n : Nat} : XO F (⟨none, d, .st n x y⟩ :: r) ⟨s, h⟩ Q ↔ XV F (stO h n (evalO s x) (evalO s y)) d r s Q := XO_ins rfl
theorem XD_st {n : Nat} : XD F ((⟨none, d, .st n x y⟩, c) :: q) ⟨s, h⟩ Q ↔ XVD F (stO h n (evalO s x) (evalO s y)) c h d q s Q := XD_ins rfl
theorem st_agg {n id : Nat} {cs cells : List VV} (hn : cs.length = n) (ho : h[id]? = some (.box cells false)) (hc : cells.length = n) : stO h n (.ptr id 0) (.agg cs) = some (.undef, h.set id (.box cs false)) := by
  have : splice cells 0 cs = cs := by
    unfold splice
    rw [List.take_zero, List.nil_append, Nat.zero_add, List.drop_eq_nil_of_le (by omega), List.append_nil]
  simp [stO, stepI, rhoO, cellsOf, hn, ho, hc, this]
theorem st_1 {id off : Nat} {v : VV} {cells : List VV} (hv : isCell v = true) (ho : h[id]? = some (.box cells false)) (hc : off < cells.length) : stO h 1 (.ptr id off) v = some (.undef, h.set id (.box (cells.set off v) false)) := by
  have hs : splice cells off [v] = cells.set off v := by
    unfold splice
    simp only [List.length_singleton]
    rw [List.set_eq_take_append_cons_drop, if_pos hc, List.append_assoc, List.singleton_append]
  have h1 : off + 1 ≤ cells.length := hc
  have hcv : cellsOf v = some [v] := by cases v <;> first | rfl | (simp [isCell] at hv)
  simp [stO, stepI, rhoO, hcv, ho, h1, hs]

theorem ld_box {n id : Nat} {cells : List VV} {fr : Bool} (ho : h[id]? = some (.box cells fr)) (hc : cells.length = n) : ldO h true n (.ptr id 0) = some (.agg cells, h) := by
  subst hc
  simp [ldO, stepI, rhoO, ho, ldCells]
theorem ld_rag {n : Nat} {cells : List CV} (hc : cells.length = n) : ldO h true n (.rptr cells) = some (.agg (cells.map .cv), h) := by
  subst hc
  simp [ldO, stepI, rhoO, ldCells]

theorem RQ_c2 {P : VV → Heap → Prop} {a m k n id : Nat} {cells : List VV} {fr : Bool} (ha : s.getD a .undef = .ptr id 0) (ho : h[id]? = some (.box cells fr)) (hn : cells.length = n) (hm : m < s.length) (hk : k < s.length)
    (hP : P (.tup [.agg cells, s.getD m .undef, s.getD k .undef]) h) : RQ [.cell a true n, .t m, .t k] P .ret ⟨s, h⟩ := by
  subst hn
  refine ⟨trivial, [.agg cells, s.getD m .undef, s.getD k .undef], ?_, hP⟩
  simp only [resAll, resOf, slot_get hm, slot_get hk, ha, ho, List.drop_zero, List.take_length, ldCells, if_true]

theorem at_last {o : VO} : (h ++ [o])[h.length]? = some o := by simp
theorem set_last' {o o' : VO} : (h ++ [o]).set h.length o' = h ++ [o'] := by simp

theorem st_0_2 {a b u v : VV} : stO [.box [a, b] false] 2 (.ptr 0 0) (.agg [u, v]) = some (.undef, [.box [u, v] false]) := rfl
theorem st_0_3 {a b c u v w : VV} : stO [.box [a, b, c] false] 3 (.ptr 0 0) (.agg [u, v, w]) = some (.undef, [.box [u, v, w] false]) := rfl
theorem st_l_2 {a b u v : VV} : stO (h ++ [.box [a, b] false]) 2 (.ptr h.length 0) (.agg [u, v]) = some (.undef, h ++ [.box [u, v] false]) := by
  rw [st_agg (n := 2) (cells := [a, b]) rfl (by simp) rfl, set_last']
theorem st_l_3 {a b c u v w : VV} : stO (h ++ [.box [a, b, c] false]) 3 (.ptr h.length 0) (.agg [u, v, w]) = some (.undef, h ++ [.box [u, v, w] false]) := by
  rw [st_agg (n := 3) (cells := [a, b, c]) rfl (by simp) rfl, set_last']
theorem ld_l_2 {a b : VV} {fr : Bool} : ldO (h ++ [.box [a, b] fr]) true 2 (.ptr h.length 0) = some (.agg [a, b], h ++ [.box [a, b] fr]) := ld_box at_last rfl
theorem ld_l_3 {a b c : VV} {fr : Bool} : ldO (h ++ [.box [a, b, c] fr]) true 3 (.ptr h.length 0) = some (.agg [a, b, c], h ++ [.box [a, b, c] fr]) := ld_box at_last rfl
theorem ld_l_at {cells : List VV} {fr : Bool} {i : Nat} {v : VV} (hv : cells[i]? = some v) : ldO (h ++ [.box cells fr]) false 1 (.ptr h.length i) = some (v, h ++ [.box cells fr]) := ld_ptr at_last hv
theorem ld_r_2 {a b : CV} : ldO h true 2 (.rptr [a, b]) = some (.agg [.cv a, .cv b], h) := rfl
theorem ld_r_3 {a b c : CV} : ldO h true 3 (.rptr [a, b, c]) = some (.agg [.cv a, .cv b, .cv c], h) := rfl

/-- A call of a value on closed values. -/
theorem XO_callvP {x : Opd} {f : Nat} {args : List Opd} {as : List VV} {h1 hc : Heap} {v w : VV} (hx : evalO s x = .func f []) (ha : closAs h (args.map (evalO s)) = some (as, h1)) (hcall : call F f as [] = some (.ret v, hc))
    (hr : closRes hc v = some w) (hk : XO F r ⟨putD s d w, h1⟩ Q) : XO F (⟨none, d, .callv true x args⟩ :: r) ⟨s, h⟩ Q := by
  refine (XO_callv (v := w) (h' := h1) hx ?_).mpr hk
  unfold doCall
  simp only [List.append_nil, if_true, ha, hcall, hr, Option.map_some]
end

/-! ### slices that grow anywhere -/

/-- v is a slice that may grow. -/
def BufG (h : Heap) (z : Nat) (els : List (List CV)) (v : VV) : Prop :=
  (els = [] ∧ v = nilS) ∨ (∃ id g, els ≠ [] ∧ v = .own id g 0 els.length false ∧ h[id]? = some (.arr z els g false))

theorem BufG.nil (h : Heap) (z : Nat) : BufG h z [] nilS := .inl ⟨rfl, rfl⟩
theorem BufG.push {h : Heap} {z : Nat} {els : List (List CV)} {v : VV} (hb : BufG h z els v) (o : VO) : BufG (h ++ [o]) z els v := by
  rcases hb with hb | ⟨id, g, hne, h1, h2⟩
  · exact .inl hb
  · refine .inr ⟨id, g, hne, h1, ?_⟩
    have : id < h.length := (List.getElem?_eq_some_iff.1 h2).1
    rw [List.getElem?_append_left this]; exact h2
theorem BufG.setBox {h : Heap} {z : Nat} {els : List (List CV)} {v : VV} (hb : BufG h z els v) {id : Nat} {cells : List VV} {fr : Bool} (ho : h[id]? = some (.box cells fr)) (o : VO) : BufG (h.set id o) z els v := by
  rcases hb with hb | ⟨id', g, hne, h1, h2⟩
  · exact .inl hb
  · refine .inr ⟨id', g, hne, h1, ?_⟩
    have : id ≠ id' := by rintro rfl; rw [ho] at h2; cases h2
    rw [List.getElem?_set_ne this]; exact h2
theorem BufG.els {h : Heap} {z : Nat} {els : List (List CV)} {v : VV} (hb : BufG h z els v) : elsOf h z v = some els := by
  rcases hb with ⟨rfl, rfl⟩ | ⟨id, g, hne, rfl, h2⟩
  · rfl
  · simp [elsOf, h2]
theorem BufG.len {h : Heap} {z : Nat} {els : List (List CV)} {v : VV} (hb : BufG h z els v) : lenV v = some els.length := by
  rcases hb with ⟨rfl, rfl⟩ | ⟨id, g, hne, rfl, h2⟩ <;> rfl

/-- A list of elements as a closed slice that may be nil. -/
def slV (z : Nat) (els : List (List CV)) : VV := if els = [] then nilS else .cv (.sl z els false)
theorem BufG.res {h : Heap} {z : Nat} {els : List (List CV)} {v : VV} (hb : BufG h z els v) (hn : els ≠ []) : closA h v = some (.cv (.sl z els false), h.set (match v with | .own id _ _ _ _ => id | _ => 0) (match v with | .own _ g _ _ _ => .arr z els g true | _ => .box [] true)) := by
  rcases hb with ⟨e, _⟩ | ⟨id, g, hne, rfl, h2⟩
  · exact absurd e hn
  · simp [closA, clos, h2]

theorem BufG.slV {h : Heap} {z : Nat} {els : List (List CV)} {v : VV} (hb : BufG h z els v) : ∃ h1, closA h v = some (Go.Vm.slV z els, h1) := by
  unfold Go.Vm.slV
  by_cases hn : els = []
  · rw [if_pos hn]
    rcases hb with ⟨_, rfl⟩ | ⟨id, g, hne, rfl, h2⟩
    · exact ⟨h, rfl⟩
    · exact absurd hn hne
  · rw [if_neg hn]
    exact ⟨_, hb.res hn⟩

theorem slV_SlV {z : Nat} {els : List (List CV)} : SlV z els (slV z els) := by
  unfold slV
  split
  · rename_i e; exact .inl ⟨rfl, e⟩
  · exact .inr ⟨_, rfl⟩

/-- What a call gives, closed. -/
def CloseTo (w : VV) (v : VV) (h : Heap) : Prop := closRes h v = some w

theorem XO_appG {z by_ : Nat} {zero : List CV} {els new : List (List CV)} {v : VV} {h : Heap} {x y : Opd} {F : Nat → Option FnIR} {d : Option Nat} {r : List Op1} {s : List VV} {Q : Pst}
    (hb : BufG h z els v) (hx : evalO s x = v) (hy : srcOf h z (evalO s y) = some new) (h1 : (els.length + new.length) * by_ ≤ 35184372088832) (h2 : els.length + new.length ≤ 35184372088832)
    (hk : ∀ v' h', BufG h' z (els ++ new) v' → h.length ≤ h'.length → (∀ (j : Nat) (o : VO), h[j]? = some o → (∀ e g, o ≠ VO.arr z e g false) → h'[j]? = some o) → XO F r ⟨putD s d v', h'⟩ Q) : XO F (⟨none, d, .app z by_ zero x y⟩ :: r) ⟨s, h⟩ Q := by
  rw [XO_ins rfl]
  have hm : maxBytes = 35184372088832 := rfl
  have hl : lenV (evalO s x) = some els.length := by rw [hx]; exact hb.len
  have hE : elsOf h z (evalO s x) = some els := by rw [hx]; exact hb.els
  simp only [stepI, hy, hl, hm, h1, h2, and_self, if_true]
  unfold XV
  by_cases hn : new = []
  · subst hn
    simp only [if_true, hE]
    refine ⟨_, _, rfl, hk _ _ ?_ (Nat.le_refl _) (fun j o ho _ => ho)⟩
    rw [hx, List.append_nil]; exact hb
  · simp only [if_neg hn]
    rcases hb with ⟨rfl, rfl⟩ | ⟨id, g, hne, rfl, h3⟩
    · rw [hx]
      refine ⟨_, _, rfl, hk _ _ (.inr ⟨h.length, 0, by simpa using hn, ?_, ?_⟩) (by simp) (fun j o ho _ => ?_)⟩
      · simp
      · simp
      · rw [List.getElem?_append_left (List.getElem?_eq_some_iff.1 ho).1]; exact ho
    · rw [hx]
      simp only [h3, Nat.zero_add, Nat.le_refl, and_self, if_true, Bool.false_eq_true, if_false, List.drop_zero, List.take_length]
      have hid : id < h.length := (List.getElem?_eq_some_iff.1 h3).1
      refine ⟨_, _, rfl, hk _ _ (.inr ⟨id, g + 1, by simp [hne], ?_, ?_⟩) (by simp) (fun j o ho hno => ?_)⟩
      · rw [List.length_append]
      · rw [List.getElem?_set_self hid]
      · have : id ≠ j := by
          rintro rfl
          rw [h3] at ho
          cases ho
          exact hno _ _ rfl
        rw [List.getElem?_set_ne this]; exact ho

theorem Buf.toG {h0 : Heap} {z : Nat} {els : List (List CV)} {v : VV} {h : Heap} (hb : Buf h0 z els v h) (hn : els ≠ []) : BufG h z els v := by
  rcases hb with ⟨e, _, _⟩ | ⟨g, rfl, rfl⟩
  · exact absurd e hn
  · exact .inr ⟨h0.length, g, hn, rfl, by simp⟩
theorem BufG.close {h : Heap} {z : Nat} {els : List (List CV)} {v : VV} (hb : BufG h z els v) : CloseTo (Go.Vm.slV z els) v h := by
  obtain ⟨h1, e⟩ := hb.slV
  unfold CloseTo
  rcases hb with ⟨rfl, rfl⟩ | ⟨id, g, hne, rfl, h2⟩
  · rfl
  · simp only [closRes, e]; rfl
theorem Buf.close {h0 : Heap} {z : Nat} {els : List (List CV)} {v : VV} {h : Heap} (hb : Buf h0 z els v h) (hn : els ≠ []) : CloseTo (.cv (.sl z els false)) v h := hb.res hn

/-! ### literals that are the frame's own -/

section
variable {F : Nat → Option FnIR} {d : Option Nat} {x y : Opd} {r : List Op1} {c : Cl} {q : List (Op1 × Cl)} {s : List VV} {h : Heap} {Q : Pst}
def mkoO (h : Heap) (z len : Nat) (zero : List VV) (parts : List (Nat × Nat × VV)) : Option (VV × Heap) :=
  match fill zero parts with
  | some cs => match closL h cs with
    | some (cc, h1) => some (.own h1.length 0 0 len true, h1 ++ [.arr z (chunk z len cc) 0 false])
    | none => none
  | none => none
theorem st_mkslo {z len : Nat} {zero : List VV} {parts : List (Nat × Nat × Opd)} : stepI h (evalO s) (.mksl z len zero parts true) = mkoO h z len zero (mkParts s parts) := by
  simp only [stepI, mkoO, mkParts_eq, if_true]
  cases fill zero (mkParts s parts) with
  | none => rfl
  | some cs => cases closL h cs <;> rfl
theorem XO_mkslo {z len : Nat} {zero : List VV} {parts : List (Nat × Nat × Opd)} : XO F (⟨none, d, .mksl z len zero parts true⟩ :: r) ⟨s, h⟩ Q ↔ XV F (mkoO h z len zero (mkParts s parts)) d r s Q := by
  rw [XO_ins rfl, st_mkslo]
theorem XD_mkslo {z len : Nat} {zero : List VV} {parts : List (Nat × Nat × Opd)} : XD F ((⟨none, d, .mksl z len zero parts true⟩, c) :: q) ⟨s, h⟩ Q ↔ XVD F (mkoO h z len zero (mkParts s parts)) c h d q s Q := by
  rw [XD_ins rfl, st_mkslo]
def mrO (h : Heap) (v : VV) : Option (VV × Heap) := stepI h (rhoO v .undef .undef) (.mrk (.t 0))
theorem XO_mrk : XO F (⟨none, d, .mrk x⟩ :: r) ⟨s, h⟩ Q ↔ XV F (mrO h (evalO s x)) d r s Q := XO_ins rfl
theorem XD_mrk : XD F ((⟨none, d, .mrk x⟩, c) :: q) ⟨s, h⟩ Q ↔ XVD F (mrO h (evalO s x)) c h d q s Q := XD_ins rfl
theorem mr_own {id g off len z : Nat} {els : List (List CV)} {ex : Bool} (ho : h[id]? = some (.arr z els g false)) : mrO h (.own id g off len ex) = some (.own id g off len ex, h) := by
  simp [mrO, stepI, rhoO, ho]
theorem mr_0 {g off len z : Nat} {els : List (List CV)} {ex : Bool} {t : Heap} : mrO (.arr z els g false :: t) (.own 0 g off len ex) = some (.own 0 g off len ex, .arr z els g false :: t) := mr_own rfl
end

end Go.Vm
