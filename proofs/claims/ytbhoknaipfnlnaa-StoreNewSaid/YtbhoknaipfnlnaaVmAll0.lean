/- Part of a proof: of what it says, and when, each theorem tells itself. -/
import Derived.WalkKit
import Derived.Below
import Derived.Orders
import Derived.Scope
import Derived.RangeFuncRecord
import Derived.Lib.ConvBytes
import Derived.Laws.BytesArg
import Derived.Laws.IdiomCopy
import Derived.Laws.MakeOwn
set_option linter.unusedSimpArgs false
set_option linter.unusedVariables false
/-
 Vm: an abstract machine over closed values and a small abstract heap (own work): definitions.
-/
namespace Go.Vm
open Go
inductive CV where
 | sc (v : Value)
 | sl (esz : Nat) (els : List (List CV)) (ex : Bool)
inductive VV where
 | cv (c : CV)
 | own (id g off len : Nat) (ex : Bool)
 | ob (id off len esz : Nat) (ex : Bool)
 | ptr (id off : Nat)
 | eptr (id g i off : Nat)
 | rptr (cells : List CV)
 | agg (cells : List VV)
 | tup (vs : List VV)
 | func (f : Nat) (caps : List VV)
 | iface (t : Nat) (v : VV)
 | yield (id : Nat)
 | mval (name : String) (t : Nat)
 | undef
instance : Inhabited CV := ⟨.sc default⟩
instance : Inhabited VV := ⟨.undef⟩
abbrev skp : VV := .tup []
def ny : Value -> Bool
 | .bool _ | .int _ _ | .float _ _ | .complex _ _ _ | .string _ | .pointer none | .slice none 0 0 | .map none | .nilFunc | .nilIface => true
 | _ => false
inductive Opd where
 | t (n : Nat)
 | c (v : VV)
inductive NK where
 | ptr | slice | func | iface
inductive Ins where
 | mv (x : Opd)
 | pick (c a b : Opd)
 | alloc (zero : List VV)
 | box (n : Nat) (x : Opd)
 | build (zero : List VV) (parts : List (Nat × Nat × Opd))
 | mksl (z len : Nat) (zero : List VV) (parts : List (Nat × Nat × Opd)) (own : Bool)
 | ld (ag : Bool) (n : Nat) (x : Opd)
 | st (n : Nat) (x y : Opd)
 | nilck (x : Opd)
 | bin (op : BinOp) (x y : Opd)
 | eqb (neg : Bool) (x y : Opd)
 | eqn (k : NK) (neg : Bool) (x : Opd)
 | un (op : UnOp) (x : Opd)
 | cvI (k : IntKind) (x : Opd)
 | cvF (k : FloatKind) (x : Opd)
 | cvSB (own : Bool) (x : Opd)
 | cvBS (x : Opd)
 | cvSS (x : Opd)
 | mrk (x : Opd)
 | mkif (t : Nat) (x : Opd)
 | mkfn (f : Nat) (caps : List Opd)
 | mkmv (name : String) (x : Opd)
 | nilckM (name : String) (ts : List Nat) (x : Opd)
 | mks (z bytes : Nat) (zero : List CV) (l c : Opd) (own : Bool)
 | slS (x : Opd) (lo hi : Option Opd)
 | slL (z : Nat) (x : Opd) (lo hi mx : Option Opd)
 | slA (n z : Nat) (x : Opd) (lo hi : Option Opd)
 | fad (off : Nat) (x : Opd)
 | fld (ag : Bool) (off n : Nat) (x : Opd)
 | iadL (z : Nat) (x i : Opd)
 | iadA (n z : Nat) (x i : Opd)
 | ixA (ag : Bool) (n z : Nat) (x i : Opd)
 | ixS (x i : Opd)
 | len (str : Bool) (x : Opd)
 | app (z bytes : Nat) (zero : List CV) (s x : Opd)
 | cpy (z : Nat) (a b : Opd)
 | mnmx (isMin : Bool) (xs : List Opd)
 | cplx (x y : Opd)
 | ext (x : Opd) (i : Nat)
 | cap (x : Opd)
 | clr (z : Nat) (zero : List CV) (x : Opd)
 | ins (z bytes : Nat) (s i e : Opd)
 | apz (z bytes : Nat) (zero : List CV) (s n : Opd)
 | pf (φ : List Value -> Option Value) (xs : List Opd)
 -- these are no jk steps:
 | call (f : Nat) (pure : Bool) (args : List Opd)
 | callv (pure : Bool) (x : Opd) (args : List Opd)
 | inv (tbl : List (Nat × Nat)) (x : Opd) (args : List Opd)
 | panic (x : Opd)
structure Op1 where
 g : Option (Nat × Bool)
 d : Option Nat
 i : Ins
inductive Cl where
 | p
 | r (lo hi : Nat)
 | k
inductive IR where
 | skip
 | reg (ops : List Op1)
 | draw (ops : List (Op1 × Cl))
 | seq (a b : IR)
 | cond (c : Opd) (a b : IR)
 | block (id : Nat) (b : IR)
 | loop (b : IR)
 | exit (id : Nat)
 | scope (b : IR)
 | label (l : Nat)
 | goto (l : Nat)
 | ret
 | rangeF (x : Opd) (ps : List Nat) (asg body : IR)
inductive Jmp where
 | ret
 | exit (id : Nat)
 | goto (l : Nat)
inductive VO where
 | arr (esz : Nat) (els : List (List CV)) (g : Nat) (fr : Bool)
 | box (cells : List VV) (fr : Bool)
 | loop (ps : List Nat) (asg body : IR) (s : List VV) (st : LoopState) (pend : Option Jmp)
abbrev ae := List VO
inductive ResV where
 | t (n : Nat)
 | cell (a : Nat) (ag : Bool) (n : Nat)
structure FnIR where
 nt : Nat
 res : List ResV
 body : IR
def am {α : Type} (cells : List α) (off : Nat) (cs : List α) : List α := cells.take off ++ cs ++ cells.drop (off + cs.length)
def mm {α : Type} (z len : Nat) (cells : List α) : List (List α) := (List.range len).map fun i => (cells.drop (i * z)).take z
def en : VV -> Bool
 | .agg _ | .tup _ | .undef => false
 | _ => true
def cellsOf : VV -> Option (List VV)
 | .agg cs => some cs
 | .undef => none
 | .tup _ => none
 | v => some [v]
def clos (h : ae) : VV -> Option (CV × ae)
 | .cv c => some (c, h)
 | .own id g off len ex =>
  match h[id]? with
  | some (.arr z els g' _) => if g = g' /\ off + len <= els.length then some (.sl z ((els.drop off).take len) ex, h.set id (.arr z els g' true)) else none
  | _ => none
 | .ob id off len z ex =>
  match h[id]? with
  | some (.box cells _) =>
   match (cells.drop off).take (len * z) |>.mapM (fun | .cv c => some c | _ => none) with
   | some cs => if cs.length = len * z then some (.sl z (mm z len cs) ex, h.set id (.box cells true)) else none
   | none => none
  | _ => none
 | _ => none
def vr (h : ae) : List VV -> Option (List CV × ae)
 | [] => some ([], h)
 | v :: r => match clos h v with
  | some (c, h1) => match vr h1 r with
   | some (cs, h2) => some (c :: cs, h2)
   | none => none
  | none => none
def gc (h : ae) : VV -> Option (VV × ae)
 | .agg cells => match vr h cells with
  | some (cs, h1) => some (.agg (cs.map .cv), h1)
  | none => none
 | .rptr cells => some (.rptr cells, h)
 | .func f [] => some (.func f [], h)
 | v => match clos h v with
  | some (c, h1) => some (.cv c, h1)
  | none => none
def cf (h : ae) : List VV -> Option (List VV × ae)
 | [] => some ([], h)
 | v :: r => match gc h v with
  | some (c, h1) => match cf h1 r with
   | some (cs, h2) => some (c :: cs, h2)
   | none => none
  | none => none
def fill (cells : List VV) : List (Nat × Nat × VV) -> Option (List VV)
 | [] => some cells
 | (off, sz, v) :: r => match cellsOf v with
  | some cs => if cs.length = sz /\ off + sz <= cells.length then fill (am cells off cs) r else none
  | none => none
def dm (ag : Bool) (n : Nat) (cs : List VV) : Option VV :=
 if cs.length = n then (if ag then some (.agg cs) else match cs with | [c] => some c | _ => none) else none
def gi (h : ae) (z : Nat) : VV -> Option (List (List CV))
 | .cv (.sc (.slice none 0 0)) => some []
 | .cv (.sl z' els _) => if z' = z then some els else none
 | .own id g off len _ =>
  match h[id]? with
  | some (.arr z' els g' _) => if z' = z /\ g = g' /\ off + len <= els.length then some ((els.drop off).take len) else none
  | _ => none
 | .ob id off len z' _ =>
  match h[id]? with
  | some (.box cells _) =>
   match (cells.drop off).take (len * z') |>.mapM (fun | .cv c => some c | _ => none) with
   | some cs => if z' = z /\ cs.length = len * z' then some (mm z' len cs) else none
   | none => none
  | _ => none
 | _ => none
def br (b : UInt8) : List CV := [.sc (.int .u8 b.toNat)]
def eB (l : List UInt8) : List (List CV) := l.map br
def jq (h : ae) (z : Nat) : VV -> Option (List (List CV))
 | .cv (.sc (.string t)) => if z = 1 then some (eB t.data.toList) else none
 | v => gi h z v
def lz : VV -> Option Nat
 | .cv (.sc (.slice none 0 0)) => some 0
 | .cv (.sl _ els _) => some els.length
 | .own _ _ _ len _ => some len
 | .ob _ _ len _ _ => some len
 | _ => none
def Ul : VV -> Option Nat
 | .cv (.sc (.string s)) => some s.size
 | _ => none
def qr : VV -> Option Bool
 | .ptr _ _ | .eptr _ _ _ _ | .rptr _ | .own _ _ _ _ _ | .ob _ _ _ _ _ | .cv (.sl _ _ _) | .func _ _ | .iface _ _ => some false
 | .cv (.sc (.pointer none)) | .cv (.sc (.slice none 0 0)) | .cv (.sc .nilFunc) | .cv (.sc .nilIface) => some true
 | _ => none
def lg : NK -> VV -> Option Bool
 | .ptr, .ptr _ _ | .ptr, .eptr _ _ _ _ | .ptr, .rptr _ => some false
 | .ptr, .cv (.sc (.pointer none)) => some true
 | .slice, .own _ _ _ _ _ | .slice, .ob _ _ _ _ _ | .slice, .cv (.sl _ _ _) => some false
 | .slice, .cv (.sc (.slice none 0 0)) => some true
 | .func, .func _ _ => some false
 | .func, .cv (.sc .nilFunc) => some true
 | .iface, .iface _ _ => some false
 | .iface, .cv (.sc .nilIface) => some true
 | _, _ => none
def Na : List CV -> Option UInt8
 | [.sc (.int .u8 n)] => some (UInt8.ofNat n.toNat)
 | _ => none
def pp (els : List (List CV)) : Option (List UInt8) := els.mapM Na
def qg : VV -> Option Int
 | .cv (.sc (.int _ n)) => some n
 | _ => none
def tm (op : BinOp) : Value -> Value -> Option Value
 | .int k a, .int k' b =>
  match op with
  | .shl => if b < 0 then none else some (.int k (k.wrap (a * 2 ^ (min b.toNat k.bits))))
  | .shr => if b < 0 then none else some (.int k (a.fdiv (2 ^ (min b.toNat k.bits))))
  | .add => if k = k' then some (.int k (k.wrap (a + b))) else none
  | .sub => if k = k' then some (.int k (k.wrap (a - b))) else none
  | .mul => if k = k' then some (.int k (k.wrap (a * b))) else none
  | .quo => if k = k' /\ b ≠ 0 then some (.int k (k.wrap (a.tdiv b))) else none
  | .rem => if k = k' /\ b ≠ 0 then some (.int k (a.tmod b)) else none
  | .and => if k = k' then some (.int k (k.wrap (BitVec.ofInt k.bits a &&& BitVec.ofInt k.bits b).toNat)) else none
  | .or => if k = k' then some (.int k (k.wrap (BitVec.ofInt k.bits a ||| BitVec.ofInt k.bits b).toNat)) else none
  | .xor => if k = k' then some (.int k (k.wrap (BitVec.ofInt k.bits a ^^^ BitVec.ofInt k.bits b).toNat)) else none
  | .andNot => if k = k' then some (.int k (k.wrap (BitVec.ofInt k.bits a &&& ~~~ (BitVec.ofInt k.bits b)).toNat)) else none
  | .eql => if k = k' then some (.bool (a == b)) else none
  | .neq => if k = k' then some (.bool (a != b)) else none
  | .lss => if k = k' then some (.bool (a < b)) else none
  | .leq => if k = k' then some (.bool (a <= b)) else none
  | .gtr => if k = k' then some (.bool (a > b)) else none
  | .geq => if k = k' then some (.bool (a >= b)) else none
 | .string a, .string b =>
  match op with
  | .add => if a.size + b.size <= 9223372036854775807 then some (.string (a ++ b)) else none
  | .eql => some (.bool (a.data.toList == b.data.toList))
  | .neq => some (.bool (!(a.data.toList == b.data.toList)))
  | .lss => some (.bool (Op.bytesLess a.data.toList b.data.toList))
  | .leq => some (.bool (Op.bytesLess a.data.toList b.data.toList || a.data.toList == b.data.toList))
  | .gtr => some (.bool (!(Op.bytesLess a.data.toList b.data.toList || a.data.toList == b.data.toList)))
  | .geq => some (.bool (!(Op.bytesLess a.data.toList b.data.toList)))
  | _ => none
 | .complex k a b, .complex k' c d =>
  if k = k' then (match op with
   | .add => match k.format.add a c, k.format.add b d with
    | some x, some y => some (.complex k x y)
    | _, _ => none
   | .eql => some (.bool ((k.format.order a c == some .eq) && (k.format.order b d == some .eq)))
   | .neq => some (.bool (!((k.format.order a c == some .eq) && (k.format.order b d == some .eq))))
   | _ => none) else none
 | _, _ => none
def unV (op : UnOp) : Value -> Option Value
 | .int k n => match op with
  | .neg => some (.int k (k.wrap (0 - n)))
  | .xor => some (.int k (k.wrap (BitVec.ofInt k.bits (if k.signed then -1 else k.max) ^^^ BitVec.ofInt k.bits n).toNat))
  | _ => none
 | .bool b => match op with
  | .not => some (.bool !b)
  | _ => none
 | _ => none
def Zb (isMin : Bool) : Value -> Value -> Option Value
 | .int k x, .int _ y => some (.int k (if isMin then (if y < x then y else x) else (if y > x then y else x)))
 | _, _ => none
def Qm (isMin : Bool) (v : Value) : List VV -> Option Value
 | [] => some v
 | .cv (.sc u) :: r => match Zb isMin v u with
  | some w => Qm isMin w r
  | none => none
 | _ :: _ => none
def bnd (ρ : Opd -> VV) (x : Option Opd) (dflt y : Nat) : Option Nat :=
 match x with
 | none => some dflt
 | some o => match qg (ρ o) with
  | some i => if 0 <= i /\ i <= y then some i.toNat else none
  | none => none
def cz : Nat := 2 ^ 45
def ai9 : List VV -> Option (List Value)
 | [] => some []
 | .cv (.sc v) :: r => (ai9 r).map (v :: ·)
 | _ :: _ => none
def ai (h : ae) (ρ : Opd → VV) : Ins → Option (VV × ae)
  | .mv x => some (ρ x, h)
  | .pick c a b => match ρ c with
    | .cv (.sc (.bool t)) => some (if t then ρ a else ρ b, h)
    | _ => none
  | .alloc zero => some (.ptr h.length 0, h ++ [.box zero false])
  | .box n x => match cellsOf (ρ x) with
    | some cs => if cs.length = n then some (.ptr h.length 0, h ++ [.box cs false]) else none
    | none => none
  | .build zero parts => match fill zero (parts.map fun p => (p.1, p.2.1, ρ p.2.2)) with
    | some cs => some (.agg cs, h)
    | none => none
  | .mksl z len zero parts own => match fill zero (parts.map fun p => (p.1, p.2.1, ρ p.2.2)) with
    | some cs => match vr h cs with
      | some (cc, h1) => if own then some (.own h1.length 0 0 len true, h1 ++ [.arr z (mm z len cc) 0 false]) else some (.cv (.sl z (mm z len cc) true), h1)
      | none => none
    | none => none
  | .ld ag n x => match ρ x with
    | .ptr id off => match h[id]? with
      | some (.box cells _) => (dm ag n ((cells.drop off).take n)).map (·, h)
      | _ => none
    | .eptr id g i off => match h[id]? with
      | some (.arr _ els g' _) => if g = g' then (match els[i]? with
        | some e => (dm ag n (((e.drop off).take n).map .cv)).map (·, h)
        | none => none) else none
      | _ => none
    | .rptr cells => (dm ag n ((cells.take n).map .cv)).map (·, h)
    | _ => none
  | .st n x y => match cellsOf (ρ y) with
    | some cs => if cs.length = n then (match ρ x with
      | .ptr id off => match h[id]? with
        | some (.box cells false) => if off + n ≤ cells.length then some (.undef, h.set id (.box (am cells off cs) false)) else none
        | _ => none
      | .eptr id g i off => match vr h cs with
        | some (cc, h1) => match h1[id]? with
          | some (.arr z els g' false) => if g = g' then (match els[i]? with
            | some e => if off + n ≤ e.length then some (.undef, h1.set id (.arr z (els.set i (am e off cc)) g' false)) else none
            | none => none) else none
          | _ => none
        | none => none
      | _ => none) else none
    | none => none
  | .nilck x => match qr (ρ x) with
    | some false => match ρ x with
      | .ptr _ _ | .eptr _ _ _ _ | .rptr _ | .func _ _ | .iface _ _ => some (ρ x, h)
      | _ => none
    | _ => none
  | .bin op x y => match ρ x, ρ y with
    | .cv (.sc a), .cv (.sc b) => (tm op a b).map fun v => (.cv (.sc v), h)
    | _, _ => none
  | .eqb neg x y => match ρ x, ρ y with
    | .cv (.sc (.bool a)), .cv (.sc (.bool b)) => some (.cv (.sc (.bool (if neg then !(a == b) else a == b))), h)
    | _, _ => none
  | .eqn k neg x => match lg k (ρ x) with
    | some t => some (.cv (.sc (.bool (if neg then !t else t))), h)
    | none => none
  | .un op x => match ρ x with
    | .cv (.sc a) => (unV op a).map fun v => (.cv (.sc v), h)
    | _ => none
  | .cvI k x => match ρ x with
    | .cv (.sc (.int _ n)) => some (.cv (.sc (.int k (k.wrap n))), h)
    | _ => none
  | .cvF k x => match ρ x with
    | .cv (.sc (.int _ n)) => some (.cv (.sc (.float k (k.nearest n))), h)
    | _ => none
  | .cvSB own x => match ρ x with
    | .cv (.sc (.string s)) => if own then some (.own h.length 0 0 s.size false, h ++ [.arr 1 (eB s.data.toList) 0 false]) else some (.cv (.sl 1 (eB s.data.toList) false), h)
    | _ => none
  | .cvBS x => match gi h 1 (ρ x) with
    | some els => (pp els).map fun l => (.cv (.sc (.string ⟨l.toArray⟩)), h)
    | none => none
  | .cvSS x => match ρ x with
    | .cv (.sc (.string s)) => some (.cv (.sc (.string s)), h)
    | _ => none
  | .mrk x => match ρ x with
    | .own id g off len ex => match h[id]? with
      | some (.arr z _ g' false) => if g = g' ∧ z = 1 then some (.own id g off len ex, h) else none
      | _ => none
    | _ => none
  | .mkif t x => some (.iface t (ρ x), h)
  | .mkfn f caps => some (.func f (caps.map ρ), h)
  | .mkmv name x => match ρ x with
    | .iface t _ => some (.mval name t, h)
    | _ => none
  | .nilckM name ts x => match ρ x with
    | .mval m t => if name = m ∧ ts.contains t = true then some (.mval m t, h) else none
    | _ => none
  | .apz z bytes zero s n => match ρ s, qg (ρ n) with
    | .cv (.sc (.slice none 0 0)), some a => if 0 < a ∧ a * bytes ≤ cz ∧ a ≤ cz then some (.own h.length 0 0 a.toNat false, h ++ [.arr z (List.replicate a.toNat zero) 0 false]) else none
    | _, _ => none
  | .mks z bytes zero l c own => match qg (ρ l), qg (ρ c) with
    | some a, some b => if 0 ≤ a ∧ a ≤ b ∧ b * bytes ≤ cz ∧ b ≤ cz then
        (if own then some (.own h.length 0 0 a.toNat (a = b), h ++ [.arr z (List.replicate a.toNat zero) 0 false])
         else some (.cv (.sl z (List.replicate a.toNat zero) (a = b)), h)) else none
    | _, _ => none
  | .slS x lo hi => match ρ x with
    | .cv (.sc (.string s)) => match bnd ρ hi s.size s.size with
      | some b => match bnd ρ lo 0 b with
        | some a => some (.cv (.sc (.string ⟨((s.data.toList.drop a).take (b - a)).toArray⟩)), h)
        | none => none
      | none => none
    | _ => none
  | .slL z x lo hi mx => match lz (ρ x) with
    | some n => match bnd ρ hi n n with
      | some b => match bnd ρ lo 0 b with
        | some a => match bnd ρ mx n n with
          | some m => if mx.isSome ∧ m ≠ b then none else
            match ρ x with
            | .cv (.sc (.slice none 0 0)) => some (.cv (.sc (.slice none 0 0)), h)
            | .cv (.sl z' els ex) => if z' = z then some (.cv (.sl z' ((els.drop a).take (b - a)) (mx.isSome || (ex && b == n))), h) else none
            | .own id g off _ ex => match h[id]? with
              | some (.arr z' _ g' _) => if z' = z ∧ g = g' then some (.own id g (off + a) (b - a) (mx.isSome || (ex && b == n)), h) else none
              | _ => none
            | .ob id off _ z' ex => if z' = z then some (.ob id (off + a * z) (b - a) z' (mx.isSome || (ex && b == n)), h) else none
            | _ => none
          | none => none
        | none => none
      | none => none
    | none => none
  | .slA n z x lo hi => match ρ x with
    | .ptr id off => match bnd ρ hi n n with
      | some b => match bnd ρ lo 0 b with
        | some a => match h[id]? with
          | some (.box cells _) => if off + n * z ≤ cells.length then some (.ob id (off + a * z) (b - a) z (b == n), h) else none
          | _ => none
        | none => none
      | none => none
    | _ => none
  | .fad off x => match ρ x with
    | .ptr id o => some (.ptr id (o + off), h)
    | .eptr id g i o => some (.eptr id g i (o + off), h)
    | .rptr cells => some (.rptr (cells.drop off), h)
    | _ => none
  | .fld ag off n x => match ρ x with
    | .agg cells => (dm ag n ((cells.drop off).take n)).map (·, h)
    | _ => none
  | .iadL z x i => match qg (ρ i) with
    | some j => if 0 ≤ j then (match ρ x with
      | .cv (.sl z' els _) => if z' = z then (match els[j.toNat]? with
        | some e => some (.rptr e, h)
        | none => none) else none
      | .own id g off len _ => match h[id]? with
        | some (.arr z' _ g' _) => if z' = z ∧ g = g' ∧ j.toNat < len then some (.eptr id g (off + j.toNat) 0, h) else none
        | _ => none
      | .ob id off len z' _ => if z' = z ∧ j.toNat < len then some (.ptr id (off + j.toNat * z), h) else none
      | _ => none) else none
    | none => none
  | .iadA n z x i => match qg (ρ i) with
    | some j => if 0 ≤ j ∧ j < n then (match ρ x with
      | .ptr id o => some (.ptr id (o + j.toNat * z), h)
      | .eptr id g k o => some (.eptr id g k (o + j.toNat * z), h)
      | .rptr cells => some (.rptr (cells.drop (j.toNat * z)), h)
      | _ => none) else none
    | none => none
  | .ixA ag n z x i => match qg (ρ i), ρ x with
    | some j, .agg cells => if 0 ≤ j ∧ j < n then (dm ag z ((cells.drop (j.toNat * z)).take z)).map (·, h) else none
    | _, _ => none
  | .ixS x i => match qg (ρ i), ρ x with
    | some j, .cv (.sc (.string s)) => if 0 ≤ j then (match s.data.toList[j.toNat]? with
      | some b => some (.cv (.sc (.int .u8 b.toNat)), h)
      | none => none) else none
    | _, _ => none
  | .len str x => match (if str then Ul (ρ x) else lz (ρ x)) with
    | some n => some (.cv (.sc (.int .i64 n)), h)
    | none => none
  | .app z bytes _ s x =>
    match jq h z (ρ x), lz (ρ s) with
    | some new, some n =>
      if (n + new.length) * bytes ≤ cz ∧ n + new.length ≤ cz then
        (if new = [] then (match gi h z (ρ s) with | some _ => some (ρ s, h) | none => none) else
        match ρ s with
        | .cv (.sc (.slice none 0 0)) => some (.own h.length 0 0 new.length false, h ++ [.arr z new 0 false])
        | .cv (.sl z' els true) => if z' = z then some (.own h.length 0 0 (els.length + new.length) false, h ++ [.arr z (els ++ new) 0 false]) else none
        | .own id g off len ex => match h[id]? with
          | some (.arr z' els g' fr) => if z' = z ∧ g = g' ∧ off + len ≤ els.length then
              (if ex then some (.own h.length 0 0 (len + new.length) false, h ++ [.arr z ((els.drop off).take len ++ new) 0 false])
               else if fr then none else
               some (.own id (g + 1) 0 (len + new.length) false, h.set id (.arr z ((els.drop off).take len ++ new) (g + 1) false)))
              else none
          | _ => none
        | .ob id off len z' true => match gi h z (.ob id off len z' true) with
          | some els => some (.own h.length 0 0 (len + new.length) false, h ++ [.arr z (els ++ new) 0 false])
          | none => none
        | _ => none)
      else none
    | _, _ => none
  | .cpy z a b =>
    match jq h z (ρ b), lz (ρ a) with
    | some src, some n =>
      let k := min src.length n
      match ρ a with
      | .own id g off _ _ => match h[id]? with
        | some (.arr z' els g' false) => if z' = z ∧ g = g' ∧ off + n ≤ els.length then
            some (.cv (.sc (.int .i64 k)), h.set id (.arr z (am els off (src.take k)) g' false)) else none
        | _ => none
      | .ob id off _ z' _ => match h[id]? with
        | some (.box cells false) => if z' = z ∧ off + n * z ≤ cells.length then
            some (.cv (.sc (.int .i64 k)), h.set id (.box (am cells off (((src.take k).flatten).map .cv)) false)) else none
        | _ => none
      | v => match gi h z v with
        | some _ => if k = 0 then some (.cv (.sc (.int .i64 0)), h) else none
        | none => none
    | _, _ => none
  | .mnmx isMin xs => match xs.map ρ with
    | .cv (.sc v) :: r => match Qm isMin v r with
      | some u => (match v with | .int _ _ => some (.cv (.sc u), h) | _ => none)
      | none => none
    | _ => none
  | .cplx x y => match ρ x, ρ y with
    | .cv (.sc (.float k a)), .cv (.sc (.float k' b)) => if k = k' then some (.cv (.sc (.complex k a b)), h) else none
    | _, _ => none
  | .ext x i => match ρ x with
    | .tup vs => match vs[i]? with
      | some v => some (v, h)
      | none => none
    | _ => none
  | .cap x => match ρ x with
    | .cv (.sc (.slice none 0 0)) => some (.cv (.sc (.int .i64 0)), h)
    | .cv (.sl _ els true) => some (.cv (.sc (.int .i64 els.length)), h)
    | .own _ _ _ len true => some (.cv (.sc (.int .i64 len)), h)
    | .ob _ _ len _ true => some (.cv (.sc (.int .i64 len)), h)
    | _ => none
  | .ins z bytes s i e => match ρ e, ρ i with
    | .cv (.sl z1 [el] _), .cv (.sc (.int .i64 j)) => if z1 = z then (match ρ s with
      | .cv (.sc (.slice none 0 0)) => if j = 0 then some (.own h.length 0 0 1 false, h ++ [.arr z [el] 0 false]) else none
      | .cv (.sl z2 [] true) => if z2 = z ∧ j = 0 then some (.own h.length 0 0 1 false, h ++ [.arr z [el] 0 false]) else none
      | .own id g 0 len false => match h[id]? with
        | some (.arr z' els g' false) => if z' = z ∧ g = g' ∧ len ≤ els.length ∧ 0 ≤ j ∧ j ≤ len ∧ (len + 1) * bytes ≤ cz ∧ len + 1 ≤ cz then
            some (.own id (g + 1) 0 (len + 1) false, h.set id (.arr z ((els.take len).take j.toNat ++ el :: (els.take len).drop j.toNat) (g + 1) false)) else none
        | _ => none
      | _ => none) else none
    | _, _ => none
  | .pf φ xs => match ai9 (xs.map ρ) with
    | some l => match φ l with
      | some v => if ny v then some (.cv (.sc v), h) else none
      | none => none
    | none => none
  | .clr z zero x => match ρ x with
    | .own id g off len _ => match h[id]? with
      | some (.arr z' els g' false) => if z' = z ∧ g = g' ∧ off + len ≤ els.length then some (.undef, h.set id (.arr z (am els off (List.replicate len zero)) g' false)) else none
      | _ => none
    | v => match lz v with
      | some 0 => some (.undef, h)
      | _ => none
  | .call _ _ _ | .callv _ _ _ | .inv _ _ _ | .panic _ => none
structure St where
 s : List VV
 h : ae
inductive Out where
 | norm
 | exit (id : Nat)
 | goto (l : Nat)
 | ret
 | pan (v : VV)
inductive CRes where
 | ret (v : VV)
 | pan (v : VV)
abbrev bj := Nat -> List VV -> ae -> Option (CRes × ae)
def ad (s : List VV) : Opd -> VV
 | .t n => s.getD n .undef
 | .c v => v
def df (s : List VV) (d : Option Nat) (v : VV) : List VV :=
 match d with
 | some n => s.set n v
 | none => s
def au (h : ae) : VV -> Option VV
 | .tup vs => (cf h vs).map fun p => .tup p.1
 | v => (gc h v).map (·.1)
def du (call : bj) (h : ae) (f : Nat) (pure : Bool) (args : List VV) : Option (CRes × ae) :=
 if pure then
  match cf h args with
  | some (as, h1) => match call f as [] with
   | some (.ret v, hc) => (au hc v).map fun r => (.ret r, h1)
   | some (.pan v, hc) => (au hc v).map fun r => (.pan r, h1)
   | none => none
  | none => none
 else call f args h
def scal1 : VV -> Bool
 | .cv (.sc _) => true
 | .agg cs => cs.all fun | .cv (.sc _) => true | _ => false
 | _ => false
def scalV : VV -> Bool
 | .tup vs => vs.all scal1
 | v => scal1 v
abbrev Ar : Nat := 1000000
def Cx (call : bj) (h : ae) (f : Nat) (args : List VV) : Option (CRes × ae) :=
 match du call h f true args with
 | some (.ret v, h1) => some (.ret v, if scalV v then h else h1)
 | some (.pan v, h1) => some (.pan v, h1)
 | none => none
def jv (call : bj) (h : ae) (f : Nat) (pure : Bool) (args : List VV) : Option (CRes × ae) :=
 if f < Ar then du call h f pure args else Cx call h (f - Ar) args
abbrev YB : Nat := 4000000
def sr (pure : Bool) : VV -> Option (Nat × List VV)
 | .func f caps => if f < YB then some (f, caps) else none
 | .yield id => if pure then none else some (YB + id, [])
 | _ => none
def Rt (tbl : List (Nat × Nat)) : VV -> Option (Nat × VV)
 | .iface t v => match tbl.find? (·.1 == t) with
  | some p => if p.2 < YB then some (p.2, v) else none
  | none => none
 | _ => none
def bm (s : List VV) : Option (Nat × Bool) -> Option Bool
 | none => some true
 | some (d, b) => match s[d]? with
  | some (.cv (.sc (.bool t))) => some (t == b)
  | some (.tup []) => some false
  | _ => none
def dw (call : bj) (st : St) (o : Op1) : Option (Out × St) :=
 let ρ := ad st.s
 match o.i with
 | .call f pure args => match jv call st.h f pure (args.map ρ) with
  | some (.ret v, h) => some (.norm, ⟨df st.s o.d v, h⟩)
  | some (.pan v, h) => some (.pan v, ⟨st.s, h⟩)
  | none => none
 | .callv pure x args => match sr pure (ρ x) with
  | some (f, caps) => match du call st.h f pure (args.map ρ ++ caps) with
   | some (.ret v, h) => some (.norm, ⟨df st.s o.d v, h⟩)
   | some (.pan v, h) => some (.pan v, ⟨st.s, h⟩)
   | none => none
  | none => none
 | .inv tbl x args => match Rt tbl (ρ x) with
  | some (f, v) => match du call st.h f false (v :: args.map ρ) with
   | some (.ret v, h) => some (.norm, ⟨df st.s o.d v, h⟩)
   | some (.pan v, h) => some (.pan v, ⟨st.s, h⟩)
   | none => none
  | none => none
 | .panic x => match ρ x with
  | .iface t v => some (.pan (.iface t v), st)
  | _ => none
 | i => match ai st.h ρ i with
  | some (v, h) => some (.norm, ⟨df st.s o.d v, h⟩)
  | none => none
def dj (call : bj) : List Op1 -> St -> Option (Out × St)
 | [], st => some (.norm, st)
 | o :: r, st => match bm st.s o.g with
  | some true => match dw call st o with
   | some (.norm, st1) => dj call r st1
   | x => x
  | some false => dj call r ⟨df st.s o.d skp, st.h⟩
  | none => none
def adu (call : bj) (st : St) (o : Op1) (h : ae) (v : List VV) : Prop := dw call ⟨st.s, h⟩ o = some (.norm, ⟨v, h⟩)
def bz (call : bj) : List (Op1 × Cl) -> List ae -> List (Nat × Nat × (ae -> Prop)) -> St -> Option (St × List ae × List (Nat × Nat × (ae -> Prop)))
 | [], hs, ck, st => some (st, hs, ck)
 | (o, c) :: r, hs, ck, st => match bm st.s o.g with
  | some true => match dw call st o with
   | some (.norm, st1) => match c with
    | .p => bz call r hs ck ⟨st1.s, st.h⟩
    | .r lo hi => bz call r hs (if lo = hi then (lo, hi + 1, fun _ => st1.h = st.h) :: ck else (lo, hi + 1, fun h => adu call st o h st1.s) :: ck) ⟨st1.s, st.h⟩
    | .k => bz call r (hs ++ [st1.h]) ck st1
   | _ => none
  | some false => bz call r (match c with | .k => hs ++ [st.h] | _ => hs) ck ⟨df st.s o.d skp, st.h⟩
  | none => none
open Classical in
noncomputable def ix (call : bj) (ops : List (Op1 × Cl)) (st : St) : Option (Out × St) :=
 match bz call ops [st.h] [] st with
 | some (st1, hs, ck) => if ∀ x ∈ ck, ∀ b, x.1 <= b -> b < x.2.1 -> ∀ h, hs[b]? = some h -> x.2.2 h then some (.norm, st1) else none
 | none => none
def zb (body : St -> Option (Out × St)) : Nat -> St -> Option (Out × St)
 | 0, _ => none
 | n + 1, st => match body st with
  | some (.norm, st1) => zb body n st1
  | x => x
def od : IR -> Nat -> Option IR
 | .seq a b, l => match od a l with
  | some r => some (.seq r b)
  | none => od b l
 | .label l', l => if l' == l then some .skip else none
 | _, _ => none
def bt (frm : Nat -> St -> Option (Out × St)) (has : Nat -> Bool) : Nat -> Option (Out × St) -> Option (Out × St)
 | 0, r => match r with
  | some (.goto l, st) => if has l then none else some (.goto l, st)
  | r => r
 | n + 1, r => match r with
  | some (.goto l, st) => if has l then bt frm has n (frm l st) else some (.goto l, st)
  | r => r
def Mj : Option Jmp -> Out
 | none => .norm
 | some .ret => .ret
 | some (.exit id) => .exit id
 | some (.goto l) => .goto l
def adc : Out -> Option (Option Jmp)
 | .norm => some none
 | .ret => some (some .ret)
 | .exit id => some (some (.exit id))
 | .goto l => some (some (.goto l))
 | .pan _ => none
def mq (call : bj) (x : VV) (ps : List Nat) (asg body : IR) (st : St) : Option (Out × St) :=
  match x with
  | .func f caps => if f < YB then
      (match call f (.yield st.h.length :: caps) (st.h ++ [.loop ps asg body st.s .ready none]) with
      | some (.ret _, h2) => match h2[st.h.length]? with
        | some (.loop ps2 asg2 body2 s2 t2 p2) => match t2 with
          | .busy => none
          | _ => some (Mj p2, ⟨st.s, h2.set st.h.length (.loop ps2 asg2 body2 s2 .exhausted p2)⟩)
        | _ => none
      | _ => none) else none
  | _ => none
def tq (s : List VV) : List Nat -> List VV -> List VV
 | p :: ps, v :: vs => tq (s.set p v) ps vs
 | _, _ => s
def rq (ex : IR -> St -> Option (Out × St)) (id : Nat) (args : List VV) (h : ae) : Option (CRes × ae) :=
 match h[id]? with
 | some (.loop ps asg body s _ _) =>
  if args.length = ps.length then
   (match ex asg ⟨tq s ps args, h⟩ with
   | some (.norm, st1) => match st1.h[id]? with
    | some (.loop ps1 asg1 body1 s1 .ready p1) => match ex body ⟨st1.s, st1.h.set id (.loop ps1 asg1 body1 s1 .busy p1)⟩ with
     | some (out, st2) => match adc out with
      | some j => match st2.h[id]? with
       | some (.loop ps2 asg2 body2 s2 _ _) => some (.ret (.cv (.sc (.bool j.isNone))), st2.h.set id (.loop ps2 asg2 body2 s2 (if j.isNone then .ready else .done) j))
       | _ => none
      | none => none
     | none => none
    | _ => none
   | _ => none) else none
 | _ => none
mutual
noncomputable def exec (call : bj) (n : Nat) : IR -> St -> Option (Out × St)
 | .skip, st => some (.norm, st)
 | .reg ops, st => dj call ops st
 | .draw ops, st => ix call ops st
 | .seq a b, st => match exec call n a st with
  | some (.norm, st1) => exec call n b st1
  | x => x
 | .cond c a b, st => match ad st.s c with
  | .cv (.sc (.bool t)) => if t then exec call n a st else exec call n b st
  | _ => none
 | .block id b, st => match exec call n b st with
  | some (.exit id', st1) => if id' = id then some (.norm, st1) else some (.exit id', st1)
  | x => x
 | .loop b, st => zb (fun st => exec call n b st) n st
 | .exit id, st => some (.exit id, st)
 | .scope b, st => bt (fun l st => cg call n b l st) (fun l => (od b l).isSome) n (exec call n b st)
 | .label _, st => some (.norm, st)
 | .goto l, st => some (.goto l, st)
 | .ret, st => some (.ret, st)
 | .rangeF x ps asg body, st => mq call (ad st.s x) ps asg body st
noncomputable def cg (call : bj) (n : Nat) : IR -> Nat -> St -> Option (Out × St)
 | .seq a b, l, st => match od a l with
  | some _ => match cg call n a l st with
   | some (.norm, st1) => exec call n b st1
   | x => x
  | none => cg call n b l st
 | .label l', l, st => if l' == l then some (.norm, st) else none
 | _, _, _ => none
end
def yq (st : St) : ResV -> Option VV
 | .t n => st.s[n]?
 | .cell a ag n => match st.s.getD a .undef with
  | .ptr id off => match st.h[id]? with
   | some (.box cells _) => dm ag n ((cells.drop off).take n)
   | _ => none
  | _ => none
def ke (st : St) : List ResV -> Option (List VV)
 | [] => some []
 | r :: l => match yq st r with
  | some v => match ke st l with
   | some vs => some (v :: vs)
   | none => none
  | none => none
def afr : List VV -> VV
 | [v] => v
 | vs => .tup vs
def xe (ex : IR -> St -> Option (Out × St)) (fn : FnIR) (args : List VV) (h : ae) : Option (CRes × ae) :=
 if Nat.ble args.length fn.nt = false then none else
 match ex fn.body ⟨args ++ List.replicate (fn.nt - args.length) .undef, h⟩ with
 | some (.norm, st) | some (.ret, st) => (ke st fn.res).map fun vs => (.ret (afr vs), st.h)
 | some (.pan v, st) => some (.pan v, st.h)
 | _ => none
noncomputable def ie (F : Nat -> Option FnIR) : Nat -> bj
 | 0 => fun _ _ _ => none
 | n + 1 => fun f args h => match F f with
  | some fn => xe (exec (ie F n) n) fn args h
  | none => if YB <= f then rq (exec (ie F n) n) (f - YB) args h else none
end Go.Vm
/-
 Vm: from the loaded program's code to the small code (own work). Checked by the kernel, function by function.
-/
namespace Go.Vm
open Go
section
variable (P : Program)
def kx (t : TypeId) : Option Nat := (P.info? t).map (·.size)
def abs (t : TypeId) : Option Nat := (P.info? t).map (·.bytes)
def Yh (t : TypeId) : Option Bool :=
 match P.underlying t with
 | some (.struct _) | some (.array _ _) => some true
 | some _ => some false
 | none => none
def scV : Value -> Option CV := fun v => if ny v then some (.sc v) else none
def kh (t : TypeId) : Option (List CV) :=
 match P.info? t with
 | some i => match i.zero with
  | some v => match v.cells.toList.mapM scV with
   | some cs => if cs.length = i.size then some cs else none
   | none => none
  | none => none
 | none => none
def Oj : Value -> Option VV
 | .agg cs => (cs.toList.mapM scV).map fun l => .agg (l.map .cv)
 | .func (.func f) first captured => if first.isEmpty && captured.isEmpty then some (.func f []) else none
 | v => (scV v).map .cv
def opd : Operand -> Option Opd
 | .tmp t => some (.t t)
 | .const v => (Oj v).map .c
 | .global _ => none
 | .func f => some (.c (.func f []))
def Oi : List Operand -> Option (List Opd)
 | [] => some []
 | x :: r => match opd x, Oi r with
  | some y, some ys => some (y :: ys)
  | _, _ => none
def Cr : Option Operand -> Option (Option Opd)
 | none => some none
 | some x => (opd x).map some
def wa : NK -> Operand -> Bool
 | .ptr, .const (.pointer none) | .slice, .const (.slice none 0 0) | .func, .const .nilFunc | .iface, .const .nilIface => true
 | _, _ => false
def ak5 : TypeDesc -> Option NK
 | .pointer _ => some .ptr
 | .slice _ => some .slice
 | .func _ _ _ => some .func
 | .interface _ => some .iface
 | _ => none
def Iy (fields : Array Field) : List (Nat × Operand) -> Option (List (Nat × Nat × Opd))
 | [] => some []
 | (i, x) :: r => match fields[i]? with
  | some f => match kx P f.type, opd x, Iy fields r with
   | some n, some y, some l => some ((f.offset, n, y) :: l)
   | _, _, _ => none
  | none => none
def Bp (z : Nat) : List (Nat × Operand) -> Option (List (Nat × Nat × Opd))
 | [] => some []
 | (i, x) :: r => match opd x, Bp z r with
  | some y, some l => some ((i * z, z, y) :: l)
  | _, _ => none
def aky (n : Nat) (l : List CV) : List VV := ((List.replicate n l).flatten).map .cv
def oe (name : String) : List (Nat × Nat) := (List.range P.types.size).filterMap fun t => match P.info? t with
 | some i => match i.methods.find? (·.name == name) with
  | some m => match m.path.toList, m.func, P.underlying t with
   | [], some (f, true), some (.pointer _) => some (t, f)
   | _, _, _ => none
  | none => none
 | none => none
def lj (refs : List Nat) (own : Bool) (o : Oper) : Option Ins :=
 match o.op with
 | .move x | .assign x => (opd x).map .mv
 | .pick c a b => match opd c, opd a, opd b with
  | some c, some a, some b => some (.pick c a b)
  | _, _, _ => none
 | .alloc t => (kh P t).map fun z => .alloc (z.map .cv)
 | .box t x => match kx P t, opd x with
  | some n, some x => some (.box n x)
  | _, _ => none
 | .build t parts => match kh P t with
  | some z => match P.underlying t with
   | some (.struct fields) => if fields.toList.all (fun f => (kx P f.type).isSome) then (Iy P fields parts.toList).map fun l => .build (z.map .cv) l else none
   | some (.array _ e) => match kx P e with
    | some n => (Bp n parts.toList).map fun l => .build (z.map .cv) l
    | none => none
   | _ => none
  | none => none
 | .buildSlice t len parts => match P.underlying t with
  | some (.slice e) => match kx P e, kh P e with
   | some n, some z => if 0 < n /\ len * n <= 2 ^ 24 then (Bp n parts.toList).map fun l => .mksl n len (aky len z) l (own || refs.contains 3000003) else none
   | _, _ => none
  | _ => none
 | .load t x => match kx P t, Yh P t, opd x with
  | some n, some ag, some x => if ag \/ n = 1 then some (.ld ag n x) else none
  | _, _, _ => none
 | .store t x y => match kx P t, opd x, opd y with
  | some n, some x, some y => some (.st n x y)
  | _, _, _ => none
 | .nilCheck x => (opd x).map .nilck
 | .binOp op t x y _ => match P.underlying t, opd x, opd y with
  | some (.int _), some a, some b | some .string, some a, some b => some (.bin op a b)
  | some (.complex _), some a, some b => some (.bin op a b)
  | some .bool, some a, some b => match op with
   | .eql => some (.eqb false a b)
   | .neq => some (.eqb true a b)
   | _ => none
  | some d, some a, some b => match ak5 d with
   | some k => match op with
    | .eql => if wa k y then some (.eqn k false a) else if wa k x then some (.eqn k false b) else none
    | .neq => if wa k y then some (.eqn k true a) else if wa k x then some (.eqn k true b) else none
    | _ => none
   | none => none
  | _, _, _ => none
 | .unOp op _ x => (opd x).map (.un op)
 | .convert src dst x => match P.underlying src, P.underlying dst, opd x with
  | some (.int _), some (.int k), some a => some (.cvI k a)
  | some (.int _), some (.float k), some a => some (.cvF k a)
  | some .string, some .string, some a => some (.cvSS a)
  | some .string, some (.slice e), some a => match P.underlying e, kx P e with
   | some (.int .u8), some 1 => some (.cvSB (own || refs.contains 3000002) a)
   | _, _ => none
  | some (.slice e), some .string, some a => match P.underlying e, kx P e with
   | some (.int .u8), some 1 => some (.cvBS a)
   | _, _ => none
  | some (.slice e), some (.slice _), some a => if src == dst then (match P.underlying e with
   | some (.int .u8) => some (.mrk a)
   | _ => none) else none
  | _, _, _ => none
 | .makeInterface t x => match P.underlying t, opd x with
  | some (.interface _), _ => none
  | some _, some a => some (.mkif t a)
  | _, _ => none
 | .makeFunc (.func f) first captured => if first.isEmpty then (Oi captured.toList).map (.mkfn f) else none
 | .makeFunc (.method name) first _ => match first.toList with
  | [x] => (opd x).map (.mkmv name)
  | _ => none
 | .makeSlice t l c => match P.underlying t with
  | some (.slice e) => match kx P e, abs P e, kh P e, opd l, opd c with
   | some n, some by_, some z, some l, some c => if 0 < n then some (.mks n by_ z l c (own || refs.contains 3000001)) else none
   | _, _, _, _, _ => none
  | _ => none
 | .slice t x lo hi mx => match P.underlying t, opd x, Cr lo, Cr hi, Cr mx with
  | some .string, some a, some l, some h, some none => some (.slS a l h)
  | some (.slice e), some a, some l, some h, some m => match kx P e with
   | some n => if 0 < n /\ (mx.isSome -> hi.isSome) then some (.slL n a l h m) else none
   | none => none
  | some (.array n e), some a, some l, some h, some none => match kx P e with
   | some z => if 0 < z then some (.slA n z a l h) else none
   | none => none
  | _, _, _, _, _ => none
 | .fieldAddr t x f => match P.underlying t, opd x with
  | some (.struct fields), some a => match fields[f]? with
   | some fd => match kx P fd.type with
    | some n => if 0 < n then some (.fad fd.offset a) else none
    | none => none
   | none => none
  | _, _ => none
 | .field t x f => match P.underlying t, opd x with
  | some (.struct fields), some a => match fields[f]? with
   | some fd => match kx P fd.type, Yh P fd.type with
    | some n, some ag => if ag \/ n = 1 then some (.fld ag fd.offset n a) else none
    | _, _ => none
   | none => none
  | _, _ => none
 | .indexAddr t x i => match P.underlying t, opd x, opd i with
  | some (.slice e), some a, some j => match kx P e with
   | some z => if 0 < z then some (.iadL z a j) else none
   | none => none
  | some (.array n e), some a, some j => match kx P e with
   | some z => if 0 < z then some (.iadA n z a j) else none
   | none => none
  | _, _, _ => none
 | .index t x i => match P.underlying t, opd x, opd i with
  | some (.array n e), some a, some j => match kx P e, Yh P e with
   | some z, some ag => if ag \/ z = 1 then some (.ixA ag n z a j) else none
   | _, _ => none
  | some .string, some a, some j => some (.ixS a j)
  | _, _, _ => none
 | .extract x i => (opd x).map fun a => .ext a i
 | .panic x => (opd x).map .panic
 | .call c => match c.callee with
  | .value (.func f) => if f < Ar then (Oi c.args.toList).map fun l => if refs.contains (f + Ar) then .call (f + Ar) true l else .call f (!refs.contains f) l else none
  | .value x => match opd x, Oi c.args.toList with
   | some a, some l => some (.callv (!(own || refs.contains 3000000)) a l)
   | _, _ => none
  | .invoke r name => match opd r, Oi c.args.toList with
   | some a, some l => some (.inv (oe P name) a l)
   | _, _ => none
  | .builtin b => match b, c.args.toList, c.argTypes.toList with
   | .len, [x], [t] => match P.underlying t, opd x with
    | some .string, some a => some (.len true a)
    | some (.slice _), some a => some (.len false a)
    | _, _ => none
   | .append, [s, x], [t, t'] => match P.underlying t, P.underlying t' with
    | some (.slice e), some (.int _) => match kx P e, abs P e, kh P e, opd s, opd x with
     | some z, some by_, some zr, some s, some x => if 0 < z then some (.apz z by_ zr s x) else none
     | _, _, _, _, _ => none
    | _, some (.int _) => none
    | some (.slice e), some _ => match kx P e, abs P e, kh P e, opd s, opd x with
     | some z, some by_, some zr, some s, some x => if 0 < z /\ by_ <= 2 ^ 30 then some (.app z by_ zr s x) else none
     | _, _, _, _, _ => none
    | _, _ => none
   | .copy, [x, y], t :: _ => match P.underlying t with
    | some (.slice e) => match kx P e, opd x, opd y with
     | some z, some a, some b => if 0 < z then some (.cpy z a b) else none
     | _, _, _ => none
    | _ => none
   | .cap, [x], [t] => match P.underlying t, opd x with
    | some (.slice _), some a => some (.cap a)
    | _, _ => none
   | .clear, [x], [t] => match P.underlying t with
    | some (.slice e) => match kx P e, kh P e, opd x with
     | some z, some zr, some a => if 0 < z then some (.clr z zr a) else none
     | _, _, _ => none
    | _ => none
   | .min, xs, _ => (Oi xs).map (.mnmx true)
   | .max, xs, _ => (Oi xs).map (.mnmx false)
   | .complex, [x, y], _ => match opd x, opd y with
    | some a, some b => some (.cplx a b)
    | _, _ => none
   | _, _, _ => none
 | _ => none
def amz (ops : Array Oper) (o : Oper) : Option (String × Opd) := match o.op with
 | .nilCheck (.tmp d) => match ops.toList.find? (fun p => p.dst == some d) with
  | some p => match p.op with
   | .makeFunc (.method name) _ _ => some (name, .t d)
   | _ => none
  | none => none
 | _ => none
def akp (refs : List Nat) (own : Bool) (ops : Array Oper) (o : Oper) : Option Ins := match amz ops o with
 | some (name, x) => some (.nilckM name ((oe P name).map (·.1)) x)
 | none => lj P refs own o
def Es (refs : List Nat) (own : Bool) (ops : Array Oper) (o : Oper) : Option Op1 :=
 match akp P refs own ops o with
 | some i => match o.guard with
  | none => some ⟨none, o.dst, i⟩
  | some (j, b) => match (ops[j]?).bind (·.dst) with
   | some d => some ⟨some (d, b), o.dst, i⟩
   | none => none
 | none => none
def uq (refs : List Nat) (owns : List (Nat × Nat)) (id : Nat) (ops : Array Oper) : Nat -> List Oper -> Option (List Op1)
 | _, [] => some []
 | k, o :: r => match Es P refs (owns.contains (id, k)) ops o, uq refs owns id ops (k + 1) r with
  | some x, some l => some (x :: l)
  | _, _ => none
def tu (o : Oper) : List Nat := o.after.toList.filterMap fun e => if Region.binds .any e then some e.on else none
def als : List Oper -> List (List Nat) -> List (List Nat)
 | [], acc => acc
 | o :: r, acc => als r (acc ++ [(tu o ++ (tu o).flatMap fun e => acc.getD e []).eraseDups])
def mj : Ins -> Nat
 | .mv _ | .pick _ _ _ | .build _ _ | .bin _ _ _ | .eqb _ _ _ | .eqn _ _ _ | .un _ _ | .cvI _ _ | .cvF _ _ | .cvSS _ | .mkif _ _ | .mkfn _ _ | .mkmv _ _ | .nilckM _ _ _ | .slS _ _ _
 | .cap _ | .fad _ _ | .fld _ _ _ _ | .iadA _ _ _ _ | .ixA _ _ _ _ _ | .ixS _ _ | .len _ _ | .mnmx _ _ | .cplx _ _ | .ext _ _ => 0
 | .cvSB own _ => if own then 2 else 0
 | .mks _ _ _ _ _ own => if own then 2 else 0
 | .nilck _ => 0
 | .ld _ _ _ | .cvBS _ | .slL _ _ _ _ _ | .slA _ _ _ _ _ | .iadL _ _ _ => 1
 | .mksl _ _ _ _ own => if own then 2 else 1
 | .call _ pure _ => if pure then 1 else 2
 | .callv pure _ _ => if pure then 1 else 2
 | _ => 2
def sk (g : Option (Nat × Bool)) (xs : List Opd) : List Nat :=
 (match g with | some (d, _) => [d] | none => []) ++ xs.filterMap fun | .t n => some n | .c _ => none
def qf : Ins -> List Opd
 | .mv x | .box _ x | .ld _ _ x | .nilck x | .eqn _ _ x | .un _ x | .cvI _ x | .cvF _ x | .cvSB _ x | .cvBS x | .cvSS x | .mrk x | .mkif _ x | .fad _ x | .fld _ _ _ x | .len _ x | .ext x _ | .cap x | .clr _ _ x | .panic x | .mkmv _ x | .nilckM _ _ x => [x]
 | .pick a b c | .ins _ _ a b c => [a, b, c]
 | .alloc _ => []
 | .build _ ps | .mksl _ _ _ ps _ => ps.map (·.2.2)
 | .st _ x y | .bin _ x y | .eqb _ x y | .iadL _ x y | .iadA _ _ x y | .ixA _ _ _ x y | .ixS x y | .app _ _ _ x y | .apz _ _ _ x y | .cpy _ x y | .cplx x y | .mks _ _ _ x y _ => [x, y]
 | .mkfn _ xs | .mnmx _ xs | .call _ _ xs | .pf _ xs => xs
 | .slS x lo hi | .slA _ _ x lo hi => [x] ++ lo.toList ++ hi.toList
 | .slL _ x lo hi mx => [x] ++ lo.toList ++ hi.toList ++ mx.toList
 | .callv _ x xs | .inv _ x xs => x :: xs
def isK (l : List (Op1 × Cl)) (i : Nat) : Bool := match l[i]? with | some (_, .k) => true | _ => false
def tn (l : List (Op1 × Cl)) (f : Nat -> Bool) : Nat := ((List.range l.length).filter fun k => isK l k && f k).length
def To (a : Nat) (l : List (Op1 × Cl)) (T : List (List Nat)) : Bool :=
 (match l[a]? with
  | some (⟨none, some _, .alloc _⟩, .k) => true
  | _ => false) &&
 (List.range l.length).all fun j => !(T.getD j []).contains a || (List.range a).all fun i => !isK l i || (T.getD j []).contains i
def acz (α : Option Nat) (l : List (Op1 × Cl)) (T : List (List Nat)) (af : List (List Nat)) : Bool :=
  (T.length == l.length) && (af.length == l.length) && (match α with | some a => To a l T | none => true) &&
  (List.range l.length).all fun i =>
    (af.getD i []).all (· < i) &&
    (T.getD i []).all (fun j => (af.getD i []).contains j || (af.getD i []).any fun e => (T.getD e []).contains j) &&
    (match l[i]? with
      | some (x, .p) => mj x.i == 0
      | some (_, .r lo hi) => lo == tn l (fun k => (T.getD i []).contains k) && hi == tn l (fun k => !(T.getD k []).contains i)
      | _ => true) &&
    (List.range l.length).all fun j => i == j ||
      match l[i]?, l[j]? with
      | some (x, _), some (y, _) =>
        (match x.d with
         | some d => y.d != some d && (!(sk y.g (qf y.i)).contains d || (if i < j then (T.getD j []).contains i else (T.getD i []).contains j))
         | none => true) &&
        (if isK l i && isK l j && decide (i < j) && α != some j then (T.getD j []).contains i else true)
      | _, _ => false
def yz (refs : List Nat) (owns : List (Nat × Nat)) (id : Nat) (ops : Array Oper) : Option (List (Op1 × Cl)) :=
 match uq P refs owns id ops 0 ops.toList with
 | some l =>
  let T := als ops.toList []
  let l0 := l.zipIdx.map fun (x, i) => (x, if owns.contains (id, i) || mj x.i == 2 then Cl.k else .p)
  let r := l.zipIdx.map fun (x, i) => (x, if owns.contains (id, i) || mj x.i == 2 then Cl.k else if mj x.i == 0 then .p else
   .r (tn l0 fun k => (T.getD i []).contains k) (tn l0 fun k => !(T.getD k []).contains i))
  if (none :: (List.range r.length).map some).any fun α => acz α r T (ops.toList.map tu) then some r else none
 | none => none
def il : Code -> Bool
 | .seq a b | .cond _ a b => il a && il b
 | .block _ b | .loop b | .scope b => il b
 | .rangeFunc _ _ _ _ => false
 | _ => true
def jo (refs : List Nat) (owns : List (Nat × Nat)) : Code -> Option IR
 | .skip => some .skip
 -- what is not covered ends nowhere, if that is asked for: of a run that comes there nothing is told
 | .region id ops draw => match (if draw then (yz P refs owns id ops).map .draw else (uq P refs owns id ops 0 ops.toList).map .reg) with
  | some x => some x
  | none => if refs.contains 3000004 then some (.loop .skip) else none
 | .seq a b => match jo refs owns a, jo refs owns b with
  | some x, some y => some (.seq x y)
  | _, _ => none
 | .cond c a b => match opd c, jo refs owns a, jo refs owns b with
  | some c, some x, some y => some (.cond c x y)
  | _, _, _ => none
 | .block id b => (jo refs owns b).map (.block id)
 | .loop b => (jo refs owns b).map .loop
 | .exit id => some (.exit id)
 | .scope b => (jo refs owns b).map .scope
 | .label l => some (.label l)
 | .goto l => some (.goto l)
 | .ret => some .ret
 | .rangeFunc g ps a b => if il a && il b then (match opd g, jo refs owns a, jo refs owns b with
  | some x, some y, some z => some (.rangeF x ps.toList y z)
  | _, _, _ => none) else none
 | .refuse _ => none
def Mg : List ResultVar -> Option (List ResV)
 | [] => some []
 | .tmp t :: r => (Mg r).map (.t t :: ·)
 | .cell a t :: r => match kx P t, Yh P t, Mg r with
  | some n, some ag, some l => if ag \/ n = 1 then some (.cell a ag n :: l) else none
  | _, _, _ => none
def Qs (refs : List Nat) (owns : List (Nat × Nat)) (f : Func) : Option FnIR :=
 match f.body with
 | some c => match jo P refs owns c, Mg P f.results.toList with
  | some b, some r => some ⟨f.ntmps, r, b⟩
  | _, _ => none
 | none => none
end
end Go.Vm
/-
 Vm: how its states stand to the machine's (own work).
-/
namespace Go.Vm
open Go Go.RowKit
variable {P : Program}
abbrev gq := Addr -> Option Value
inductive CR (σ : gq) : Value → CV → Prop
  | sc (v : Value) (h : ny v = true) : CR σ v (.sc v)
  | sl (A : Addr) (cap z : Nat) (els : List (List CV)) (ex : Bool) (f : Nat → Nat → Value)
      (hs : cap = 0 ∨ A.spot = none) (hc : els.length ≤ cap) (hx : ex = true → cap = els.length) (hz : 0 < z) (hl : ∀ e ∈ els, e.length = z)
      (hm : ∀ i e, els[i]? = some e → ∀ j c, e[j]? = some c → σ ⟨A.block, A.off + i * z + j, none⟩ = some (f i j))
      (hr : ∀ i e, els[i]? = some e → ∀ j c, e[j]? = some c → CR σ (f i j) c) :
      CR σ (.slice (some A) els.length cap) (.sl z els ex)
structure Loc where
 blk : Nat
 boff : Nat
 g : Nat
 z : Nat
 csz : Nat
 box : Bool
inductive VR (σ : gq) (β : Nat → Option Loc) : Value → VV → Prop
  | cv (v : Value) (c : CV) (h : CR σ v c) : VR σ β v (.cv c)
  | own (A : Addr) (cap id g off len : Nat) (ex : Bool) (L : Loc) (hL : β id = some L) (hb : L.box = false) (hg : g ≤ L.g)
      (hA : g = L.g → A.spot = none ∧ A.block = L.blk ∧ (cap = 0 ∨ A.off = L.boff + off * L.z) ∧ L.boff + (off + cap) * L.z ≤ L.csz)
      (hc : len ≤ cap) (hx : ex = true → cap = len) : VR σ β (.slice (some A) len cap) (.own id g off len ex)
  | ob (A : Addr) (cap id off len z : Nat) (ex : Bool) (L : Loc) (hL : β id = some L) (hb : L.box = true) (hs : A.spot = none) (hB : A.block = L.blk)
      (hA : cap = 0 ∨ A.off = off) (hcs : off + cap * z ≤ L.csz) (hc : len ≤ cap) (hx : ex = true → cap = len) (hz : 0 < z) : VR σ β (.slice (some A) len cap) (.ob id off len z ex)
  | ptr (id off : Nat) (L : Loc) (hL : β id = some L) (hb : L.box = true) : VR σ β (.pointer (some ⟨L.blk, off, none⟩)) (.ptr id off)
  | eptr (A : Addr) (id g i off : Nat) (L : Loc) (hL : β id = some L) (hb : L.box = false) (hg : g ≤ L.g)
      (hA : g = L.g → A = ⟨L.blk, L.boff + i * L.z + off, none⟩) : VR σ β (.pointer (some A)) (.eptr id g i off)
  | rptr (A : Addr) (cells : List CV) (f : Nat → Value) (hs : A.spot = none)
      (hm : ∀ j c, cells[j]? = some c → σ ⟨A.block, A.off + j, none⟩ = some (f j)) (hr : ∀ j c, cells[j]? = some c → CR σ (f j) c) : VR σ β (.pointer (some A)) (.rptr cells)
  | agg (vs : Array Value) (cells : List VV) (hn : vs.size = cells.length) (hk : ∀ c ∈ cells, en c = true)
      (hr : ∀ (i : Nat) (v : Value) (c : VV), vs[i]? = some v → cells[i]? = some c → VR σ β v c) : VR σ β (.agg vs) (.agg cells)
  | tup (vs : Array Value) (us : List VV) (hn : vs.size = us.length)
      (hr : ∀ (i : Nat) (v : Value) (c : VV), vs[i]? = some v → us[i]? = some c → VR σ β v c) : VR σ β (.tuple vs) (.tup us)
  | func (f : Nat) (cs : Array Value) (caps : List VV) (hn : cs.size = caps.length)
      (hr : ∀ (i : Nat) (v : Value) (c : VV), cs[i]? = some v → caps[i]? = some c → VR σ β v c) : VR σ β (.func (.func f) #[] cs) (.func f caps)
  | iface (t : Nat) (v : Value) (u : VV) (hr : VR σ β v u) : VR σ β (.iface t v) (.iface t u)
  | yield (id : Nat) (L : Loc) (hL : β id = some L) (hb : L.box = true) : VR σ β (.func (.yield L.blk) #[] #[]) (.yield id)
  | mval (name : String) (t : Nat) (v : Value) (cs : Array Value) : VR σ β (.func (.method name) #[.iface t v] cs) (.mval name t)
  | undef (v : Value) : VR σ β v .undef
def Blk (w : World) (blk csz : Nat) : Prop := ∃ C E fz, w.heap[blk]? = some (.cells C E fz) /\ C.size = csz /\ (fz.1 = fz.2 \/ csz <= fz.1)
def abb (w : World) (blk csz z : Nat) : Prop := ∃ C E fz, w.heap[blk]? = some (.cells C E fz) /\ C.size = csz /\ (fz.1 = fz.2 \/ (csz <= fz.1 /\ z = 1))
theorem abb.blk {w : World} {blk csz z : Nat} (h : abb w blk csz z) : Blk w blk csz := by
 obtain ⟨C, E, fz, h1, h2, h3⟩ := h
 exact ⟨C, E, fz, h1, h2, h3.imp id fun h => h.1⟩
def VO.fr : VO -> Bool
 | .arr _ _ _ fr => fr
 | .box _ fr => fr
 | .loop _ _ _ _ _ _ => false
def FR (σ : gq) (β : Nat -> Option Loc) (tmps : Array Value) (s : List VV) : Prop :=
 tmps.size = s.length /\ ∀ (i : Nat) (v : Value) (u : VV), tmps[i]? = some v -> s[i]? = some u -> VR σ β v u
def Ed : Jmp -> Code
 | .ret => .ret
 | .exit id => .exit id
 | .goto l => .goto l
def Hp (P : Program) (σ : gq) (β : Nat -> Option Loc) (r : Loop) (ps : List Nat) (asg body : IR) (s : List VV) (st : LoopState) (pend : Option Jmp) : Prop :=
 r.params.toList = ps /\ (∃ refs owns, jo P refs owns r.assign = some asg /\ jo P refs owns r.body = some body) /\ il r.assign = true /\ il r.body = true /\ FR σ β r.tmps s /\ r.state = st /\ r.pending = pend.map Ed
def OR (P : Program) (σ : gq) (β : Nat → Option Loc) (w : World) (L : Loc) : VO → Prop
  | .arr z els g fr => L.box = false ∧ L.g = g ∧ L.z = z ∧ 0 < z ∧ (∀ e ∈ els, e.length = z) ∧ L.boff + els.length * z ≤ L.csz ∧ abb w L.blk L.csz z ∧
      ∀ i e, els[i]? = some e → ∀ j c, e[j]? = some c → ∃ v, w.cell? ⟨L.blk, L.boff + i * z + j, none⟩ = some v ∧ CR σ v c ∧ (fr = true → σ ⟨L.blk, L.boff + i * z + j, none⟩ = some v)
  | .box cells fr => L.box = true ∧ L.g = 0 ∧ L.boff = 0 ∧ L.csz = cells.length ∧ (∀ c ∈ cells, en c = true) ∧ Blk w L.blk L.csz ∧
      ∀ j c, cells[j]? = some c → ∃ v, w.cell? ⟨L.blk, j, none⟩ = some v ∧ VR σ β v c ∧ (fr = true → σ ⟨L.blk, j, none⟩ = some v)
  | .loop ps asg body s st pend => L.box = true ∧ L.g = 0 ∧ ∃ r, w.heap[L.blk]? = some (.loop r) ∧ Hp P σ β r ps asg body s st pend
structure WR (P : Program) (prot : Nat -> Prop) (σ : gq) (β : Nat -> Option Loc) (h : ae) (w : World) : Prop where
 pr : ∀ b, prot b -> b < w.heap.size
 stab : ∀ a v, σ a = some v -> w.cell? a = some v
 obj : ∀ id o, h[id]? = some o -> ∃ L, β id = some L /\ OR P σ β w L o
 dom : ∀ id L, β id = some L -> id < h.length
 live : ∀ id o L, h[id]? = some o -> o.fr = false -> β id = some L -> ¬ prot L.blk /\ ∀ a, a.block = L.blk -> σ a = none
 inj : ∀ id id' o o' L L', id ≠ id' -> h[id]? = some o -> h[id']? = some o' -> o.fr = false -> β id = some L -> β id' = some L' -> L.blk ≠ L'.blk
structure Fut (prot : Nat -> Prop) (σ : gq) (β : Nat -> Option Loc) (w : World) (σ' : gq) (β' : Nat -> Option Loc) (w' : World) : Prop where
 os : w'.os = w.os
 tape : w'.tape = w.tape
 output : w'.output = w.output
 size : w.heap.size <= w'.heap.size
 prot : ∀ b, prot b -> b < w.heap.size -> w'.heap[b]? = w.heap[b]?
 sig : ∀ a v, σ a = some v -> σ' a = some v
 bet : ∀ id L, β id = some L -> ∃ L', β' id = some L' /\ (L' = L \/ (L.box = false /\ L'.box = false /\ L.g < L'.g))
 news : ∀ a, σ' a ≠ none -> σ a ≠ none \/ w.heap.size <= a.block \/ ∃ id L, β id = some L /\ L.blk = a.block
 newb : ∀ id L', β' id = some L' -> w.heap.size <= L'.blk \/ ∃ L, β id = some L /\ L.blk = L'.blk
theorem CR.mono {σ σ' : gq} (h : ∀ a v, σ a = some v -> σ' a = some v) {v : Value} {c : CV} (hr : CR σ v c) : CR σ' v c := by
 induction hr with
 | sc v h1 => exact .sc v h1
 | sl A cap z els ex f hs hc hx hz hl hm _ ih => exact .sl A cap z els ex f hs hc hx hz hl (fun i e he j c hj => h _ _ (hm i e he j c hj)) ih
theorem VR.mono' {σ σ' : gq} {β β' : Nat -> Option Loc} (h : ∀ a v, σ a = some v -> σ' a = some v)
  (k : ∀ id L, β id = some L -> ∃ L', β' id = some L' /\ (L' = L \/ (L.box = false /\ L'.box = false /\ L.g < L'.g))) {v : Value} {u : VV} (hr : VR σ β v u) : VR σ' β' v u := by
 induction hr with
 | cv v c h1 => exact .cv v c (h1.mono h)
 | own A cap id g off len ex L hL hb hg hA hc hx =>
  obtain ⟨L', hL', hE | ⟨_, hb', hgl⟩⟩ := k id L hL
  ·subst hE; exact .own A cap id g off len ex L' hL' hb hg hA hc hx
  ·exact .own A cap id g off len ex L' hL' hb' (by omega) (fun e => by omega) hc hx
 | ob A cap id off len z ex L hL hb hs hB hA hcs hc hx hz =>
  obtain ⟨L', hL', hE | ⟨hb', _⟩⟩ := k id L hL
  ·subst hE; exact .ob A cap id off len z ex L' hL' hb hs hB hA hcs hc hx hz
  grind
 | ptr id off L hL hb =>
  obtain ⟨L', hL', hE | ⟨hb', _⟩⟩ := k id L hL
  ·subst hE; exact .ptr id off L' hL' hb
  grind
 | eptr A id g i off L hL hb hg hA =>
  obtain ⟨L', hL', hE | ⟨_, hb', hgl⟩⟩ := k id L hL
  ·subst hE; exact .eptr A id g i off L' hL' hb hg hA
  ·exact .eptr A id g i off L' hL' hb' (by omega) (fun e => by omega)
 | rptr A cells f hs hm hr1 => exact .rptr A cells f hs (fun j c hj => h _ _ (hm j c hj)) (fun j c hj => (hr1 j c hj).mono h)
 | agg vs cells hn hk _ ih => exact .agg vs cells hn hk ih
 | tup vs us hn _ ih => exact .tup vs us hn ih
 | func f cs caps hn _ ih => exact .func f cs caps hn ih
 | iface t v u _ ih => exact .iface t v u ih
 | yield id L hL hb =>
  obtain ⟨L', hL', hE | ⟨hb', _⟩⟩ := k id L hL
  ·subst hE; exact .yield id L' hL' hb
  grind
 | mval name t v cs => exact .mval name t v cs
 | undef v => exact .undef v
theorem VR.mono {prot : Nat -> Prop} {σ σ' : gq} {β β' : Nat -> Option Loc} {w w' : World} (h : Fut prot σ β w σ' β' w') {v : Value} {u : VV} (hr : VR σ β v u) : VR σ' β' v u := hr.mono' h.sig h.bet
theorem VR.ext {σ : gq} {β β' : Nat -> Option Loc} (h : ∀ id L, β id = some L -> β' id = some L) {v : Value} {u : VV} (hr : VR σ β v u) : VR σ β' v u := hr.mono' (fun _ _ h => h) (fun id L hL => ⟨L, h id L hL, .inl rfl⟩)
theorem Fut.refl {prot : Nat -> Prop} {σ : gq} {β : Nat -> Option Loc} {w : World} : Fut prot σ β w σ β w :=
 ⟨rfl, rfl, rfl, Nat.le_refl _, fun _ _ _ => rfl, fun _ _ h => h, fun _ L h => ⟨L, h, .inl rfl⟩, fun _ h => .inl h, fun _ L' h => .inr ⟨L', h, rfl⟩⟩
theorem Fut.trans {prot : Nat -> Prop} {σ σ1 σ2 : gq} {β β1 β2 : Nat -> Option Loc} {w w1 w2 : World} (h : Fut prot σ β w σ1 β1 w1) (k : Fut prot σ1 β1 w1 σ2 β2 w2) : Fut prot σ β w σ2 β2 w2 := by
 refine ⟨k.os.trans h.os, k.tape.trans h.tape, k.output.trans h.output, Nat.le_trans h.size k.size, fun b hb hs => (k.prot b hb (Nat.lt_of_lt_of_le hs h.size)).trans (h.prot b hb hs),
  fun a v ha => k.sig _ _ (h.sig _ _ ha), ?_, ?_, ?_⟩
 ·intro id L hL
  obtain ⟨L1, hL1, h1⟩ := h.bet id L hL
  obtain ⟨L2, hL2, h2⟩ := k.bet id L1 hL1
  grind
 ·intro a ha
  rcases k.news a ha with h1 | h1 | ⟨id, L, hL, hb⟩
  ·exact h.news a h1
  ·exact .inr (.inl (Nat.le_trans h.size h1))
  ·rcases h.newb id L hL with h2 | ⟨L0, h3, h4⟩
   ·omega
   grind
 ·intro id L' hL'
  rcases k.newb id L' hL' with h1 | ⟨L, hL, hb⟩
  ·exact .inl (Nat.le_trans h.size h1)
  ·rcases h.newb id L hL with h2 | ⟨L0, h3, h4⟩
   ·omega
   grind
theorem WR.heap {prot : Nat -> Prop} {σ : gq} {β : Nat -> Option Loc} {h : ae} {w w' : World} (hw : WR P prot σ β h w) (he : w'.heap = w.heap) : WR P prot σ β h w' := by
 have hc : ∀ a, w'.cell? a = w.cell? a := fun a => by simp [World.cell?, he]
 have hB : ∀ b c, Blk w b c -> Blk w' b c := fun b c ⟨C, E, fz, h1, h2, h3⟩ => ⟨C, E, fz, by grind, h2, h3⟩
 have hBA : ∀ b c z, abb w b c z -> abb w' b c z := fun b c z ⟨C, E, fz, h1, h2, h3⟩ => ⟨C, E, fz, by grind, h2, h3⟩
 refine ⟨fun b hb => by rw [he]; exact hw.pr b hb, fun a v h1 => by rw [hc]; exact hw.stab a v h1, ?_, hw.dom, hw.live, hw.inj⟩
 intro id o ho
 obtain ⟨L, hL, hO⟩ := hw.obj id o ho
 refine ⟨L, hL, ?_⟩
 cases o with
 | arr z els g fr =>
  obtain ⟨h1, h2, h3, h4, h5, h6, h7, h8⟩ := hO
  exact ⟨h1, h2, h3, h4, h5, h6, hBA _ _ _ h7, fun i e hi j c hj => by grind⟩
 | box cells fr =>
  obtain ⟨h1, h2, h3, h4, h5, h6, h7⟩ := hO
  exact ⟨h1, h2, h3, h4, h5, hB _ _ h6, fun j c hj => by grind⟩
 | loop ps asg body s st pend =>
  obtain ⟨h1, h2, r, h3, h4⟩ := hO
  exact ⟨h1, h2, r, by grind, h4⟩
theorem Fut.heap {prot : Nat -> Prop} {σ : gq} {β : Nat -> Option Loc} {w w' : World} (he : w'.heap = w.heap) (h1 : w'.os = w.os) (h2 : w'.tape = w.tape) (h3 : w'.output = w.output) : Fut prot σ β w σ β w' :=
 ⟨h1, h2, h3, by grind, fun _ _ _ => by rw [he], fun _ _ h => h, fun _ L h => ⟨L, h, .inl rfl⟩, fun _ h => .inl h, fun _ L' h => .inr ⟨L', h, rfl⟩⟩
theorem FR.mono {prot : Nat -> Prop} {σ σ' : gq} {β β' : Nat -> Option Loc} {w w' : World} (h : Fut prot σ β w σ' β' w') {tmps : Array Value} {s : List VV} (hf : FR σ β tmps s) : FR σ' β' tmps s :=
 ⟨hf.1, fun i v u h1 h2 => (hf.2 i v u h1 h2).mono h⟩
theorem FR.ext {σ : gq} {β β' : Nat -> Option Loc} (h : ∀ id L, β id = some L -> β' id = some L) {tmps : Array Value} {s : List VV} (hf : FR σ β tmps s) : FR σ β' tmps s :=
 ⟨hf.1, fun i v u h1 h2 => (hf.2 i v u h1 h2).ext h⟩
theorem Hp.mono {prot : Nat -> Prop} {σ σ' : gq} {β β' : Nat -> Option Loc} {w w' : World} (hF : Fut prot σ β w σ' β' w') {r : Loop} {ps : List Nat} {asg body : IR} {s : List VV} {st : LoopState} {pend : Option Jmp}
  (h : Hp P σ β r ps asg body s st pend) : Hp P σ' β' r ps asg body s st pend := by
 obtain ⟨h1, h2, h3, h4, h5, h6⟩ := h
 exact ⟨h1, h2, h3, h4, h5.mono hF, h6⟩
theorem Hp.ext {σ : gq} {β β' : Nat -> Option Loc} (hF : ∀ id L, β id = some L -> β' id = some L) {r : Loop} {ps : List Nat} {asg body : IR} {s : List VV} {st : LoopState} {pend : Option Jmp}
  (h : Hp P σ β r ps asg body s st pend) : Hp P σ β' r ps asg body s st pend := by
 obtain ⟨h1, h2, h3, h4, h5, h6⟩ := h
 exact ⟨h1, h2, h3, h4, h5.ext hF, h6⟩
theorem OR.keep {prot : Nat -> Prop} {σ σ' : gq} {β β' : Nat -> Option Loc} {w w' : World} {L : Loc} {o : VO} (hO : OR P σ β w L o) (hF : Fut prot σ β w σ' β' w') (hb : w'.heap[L.blk]? = w.heap[L.blk]?) : OR P σ' β' w' L o := by
 have hc : ∀ k, w'.cell? ⟨L.blk, k, none⟩ = w.cell? ⟨L.blk, k, none⟩ := fun k => by simp [World.cell?, hb]
 have hB : ∀ c, Blk w L.blk c -> Blk w' L.blk c := fun c ⟨C, E, fz, h1, h2, h3⟩ => ⟨C, E, fz, by grind, h2, h3⟩
 have hBA : ∀ c z, abb w L.blk c z -> abb w' L.blk c z := fun c z ⟨C, E, fz, h1, h2, h3⟩ => ⟨C, E, fz, by grind, h2, h3⟩
 cases o with
 | arr z els g fr =>
  obtain ⟨h1, h2, h3, h4, h5, h6, h7, h8⟩ := hO
  refine ⟨h1, h2, h3, h4, h5, h6, hBA _ _ h7, fun i e hi j c hj => ?_⟩
  obtain ⟨v, a1, a2, a3⟩ := h8 i e hi j c hj
  exact ⟨v, by grind, a2.mono hF.sig, fun e => hF.sig _ _ (a3 e)⟩
 | box cells fr =>
  obtain ⟨h1, h2, h3, h4, h5, h6, h7⟩ := hO
  refine ⟨h1, h2, h3, h4, h5, hB _ h6, fun j c hj => ?_⟩
  obtain ⟨v, a1, a2, a3⟩ := h7 j c hj
  exact ⟨v, by grind, a2.mono hF, fun e => hF.sig _ _ (a3 e)⟩
 | loop ps asg body s st pend =>
  obtain ⟨h1, h2, r, h3, h4⟩ := hO
  exact ⟨h1, h2, r, by grind, h4.mono hF⟩
theorem OR.lt {σ : gq} {β : Nat -> Option Loc} {w : World} {L : Loc} {o : VO} (hO : OR P σ β w L o) : L.blk < w.heap.size := by
 have hB : ∀ c, Blk w L.blk c -> L.blk < w.heap.size := fun c ⟨C, E, fz, h1, _, _⟩ => (Array.getElem?_eq_some_iff.1 h1).1
 cases o with
 | arr z els g fr => obtain ⟨_, _, _, _, _, _, h7, _⟩ := hO; exact hB _ h7.blk
 | box cells fr => obtain ⟨_, _, _, _, _, h6, _⟩ := hO; exact hB _ h6
 | loop ps asg body s st pend => obtain ⟨_, _, r, h3, _⟩ := hO; grind
theorem FR.put {σ : gq} {β : Nat -> Option Loc} {a : Act} {s : List VV} (hf : FR σ β a.tmps s) (d : Option Nat) {v : Value} {u : VV} (hr : VR σ β v u) : FR σ β (a.put d v).tmps (df s d u) := by
 cases d with
 | none => exact hf
 | some n =>
  refine ⟨by simp [Act.put, df, hf.1], fun i v' u' h1 h2 => ?_⟩
  simp only [Act.put, df] at h1 h2
  rw [Array.getElem?_setIfInBounds] at h1
  rw [List.getElem?_set] at h2
  by_cases hi : n = i
  ·grind
  ·rw [if_neg hi] at h1 h2
   exact hf.2 i v' u' h1 h2
theorem CR.scalar_inv {σ : gq} {v u : Value} (h : CR σ v (.sc u)) : v = u /\ ny u = true := by
 cases h with | sc _ h1 => grind
theorem VR.sc_inv {σ : gq} {β : Nat -> Option Loc} {v u : Value} (h : VR σ β v (.cv (.sc u))) : v = u /\ ny u = true := by
 cases h with | cv _ _ h1 => exact h1.scalar_inv
theorem VR.sc {σ : gq} {β : Nat -> Option Loc} {v : Value} (h : ny v = true) : VR σ β v (.cv (.sc v)) := .cv _ _ (.sc v h)
end Go.Vm
/-
 Vm: the steps of memory (own work): a new object, new memory that stays, an object written, moved, frozen.
-/
namespace Go.Vm
open Go Go.RowKit
variable {P : Program} {prot : Nat -> Prop} {σ : gq} {β : Nat -> Option Loc} {h : ae} {w : World}
theorem Gh {w : World} {a : Addr} {v : Value} (h : w.cell? a = some v) : a.block < w.heap.size := by
 unfold World.cell? at h
 grind
theorem si (hw : WR P prot σ β h w) {a : Addr} {v : Value} (ha : σ a = some v) : a.block < w.heap.size := Gh (hw.stab a v ha)
def VO.freeze : VO -> VO
 | .arr z els g _ => .arr z els g true
 | .box cells _ => .box cells true
 | o => o
theorem OR.blk {L : Loc} {o : VO} (hO : OR P σ β w L o) (hlp : o.freeze.fr = true := by rfl) : Blk w L.blk L.csz := by
 cases o with
 | arr z els g fr => exact hO.2.2.2.2.2.2.1.blk
 | box cells fr => exact hO.2.2.2.2.2.1
 | loop => cases hlp
theorem Ao {w w' : World} {o : Obj} (hh : w'.heap = w.heap.push o) (a : Addr) (ha : a.block < w.heap.size) : w'.cell? a = w.cell? a := by
 simp only [World.cell?, hh, Array.getElem?_push, if_neg (show ¬ a.block = w.heap.size by omega)]
theorem na {w w' : World} {o : Obj} (hh : w'.heap = w.heap.push o) (b : Nat) (hb : b < w.heap.size) : w'.heap[b]? = w.heap[b]? := by
 grind
structure Calm (w w' : World) : Prop where
 os : w'.os = w.os
 tape : w'.tape = w.tape
 output : w'.output = w.output
theorem WR.new (hw : WR P prot σ β h w) {w' : World} {o : Obj} (hc : Calm w w') (hh : w'.heap = w.heap.push o) (x : VO) (L : Loc) (hL : L.blk = w.heap.size)
  (hO : ∀ β', (∀ id L, β id = some L -> β' id = some L) -> OR P σ β' w' L x) :
  ∃ β', Fut prot σ β w σ β' w' /\ WR P prot σ β' (h ++ [x]) w' /\ β' h.length = some L /\ ∀ id L, β id = some L -> β' id = some L := by
 have hext : ∀ id L', β id = some L' -> (if id = h.length then some L else β id) = some L' := by
  intro id L' hid
  have := hw.dom id L' hid
  grind
 have hF : Fut prot σ β w σ (fun id => if id = h.length then some L else β id) w' := by
  refine ⟨hc.os, hc.tape, hc.output, by rw [hh]; simp, fun b _ hs => na hh b hs, fun _ _ h => h, fun id L' hid => ⟨L', hext id L' hid, .inl rfl⟩, fun _ h => .inl h, ?_⟩
  grind
 refine ⟨fun id => if id = h.length then some L else β id, hF, ?_, by simp, hext⟩
 refine ⟨fun b hb => by have := hw.pr b hb; grind, fun a v ha => by rw [Ao hh a (si hw ha)]; exact hw.stab a v ha, ?_, ?_, ?_, ?_⟩
 ·intro id y hy
  rw [List.getElem?_append] at hy
  split at hy
  ·obtain ⟨L', hL', hO'⟩ := hw.obj id y hy
   exact ⟨L', hext id L' hL', hO'.keep hF (na hh _ (hO'.lt))⟩
  ·rename_i hge
   rw [List.getElem?_singleton] at hy
   split at hy
   ·cases hy
    have : id = h.length := by omega
    subst this
    grind
   ·cases hy
 ·intro id L' hid
  simp only [List.length_append, List.length_singleton]
  split at hid
  ·omega
  ·have := hw.dom id L' hid; omega
 ·intro id y L' hy hyfr hid
  rw [List.getElem?_append] at hy
  split at hy
  ·rename_i hlt
   simp only [if_neg (show ¬ id = h.length by omega)] at hid
   exact hw.live id y L' hy hyfr hid
  ·rename_i hge
   rw [List.getElem?_singleton] at hy
   split at hy
   ·cases hy
    have : id = h.length := by omega
    subst this
    simp at hid; subst hid
    refine ⟨fun hp => by have := hw.pr _ hp; omega, fun a ha => ?_⟩
    cases hs : σ a with
    | none => rfl
    | some v => have := si hw hs; omega
   ·cases hy
 ·intro id id' y y' L1 L2 hne hy hy' hyfr h1 h2
  rw [List.getElem?_append] at hy hy'
  have old : ∀ i, i < h.length -> ∀ L', (if i = h.length then some L else β i) = some L' -> β i = some L' := fun i hi L' hL' => by
   grind
  split at hy
  ·rename_i hlt
   have h1' := old id hlt L1 h1
   split at hy'
   ·rename_i hlt'
    exact hw.inj id id' y y' L1 L2 hne hy hy' hyfr h1' (old id' hlt' L2 h2)
   ·rw [List.getElem?_singleton] at hy'
    split at hy'
    ·have : id' = h.length := by omega
     subst this; simp at h2; subst h2
     obtain ⟨L', hL', hO'⟩ := hw.obj id y hy
     rw [h1'] at hL'; cases hL'
     have := hO'.lt; omega
    ·cases hy'
  ·rw [List.getElem?_singleton] at hy
   split at hy
   ·have : id = h.length := by omega
    subst this; simp at h1; subst h1
    split at hy'
    ·rename_i hlt'
     have h2' := old id' hlt' L2 h2
     obtain ⟨L', hL', hO'⟩ := hw.obj id' y' hy'
     rw [h2'] at hL'; cases hL'
     have := hO'.lt; omega
    grind
   ·cases hy
theorem WR.stay (hw : WR P prot σ β h w) {w' : World} {o : Obj} (hc : Calm w w') (hh : w'.heap = w.heap.push o) :
  ∃ σ', Fut prot σ β w σ' β w' /\ WR P prot σ' β h w' /\ (∀ j v, w'.cell? ⟨w.heap.size, j, none⟩ = some v -> σ' ⟨w.heap.size, j, none⟩ = some v) /\ ∀ a v, σ a = some v -> σ' a = some v := by
 have hsig : ∀ a v, σ a = some v -> (if a.block = w.heap.size then w'.cell? a else σ a) = some v := by
  intro a v ha
  have := si hw ha
  grind
 have hF : Fut prot σ β w (fun a => if a.block = w.heap.size then w'.cell? a else σ a) β w' := by
  refine ⟨hc.os, hc.tape, hc.output, by rw [hh]; simp, fun b _ hs => na hh b hs, hsig, fun id L' hid => ⟨L', hid, .inl rfl⟩, ?_, fun id L' hid => .inr ⟨L', hid, rfl⟩⟩
  grind
 refine ⟨fun a => if a.block = w.heap.size then w'.cell? a else σ a, hF, ?_, fun j v hv => by simp [hv], hsig⟩
 refine ⟨fun b hb => by have := hw.pr b hb; grind, ?_, ?_, hw.dom, ?_, hw.inj⟩
 ·intro a v ha
  split at ha
  ·exact ha
  ·rw [Ao hh a (si hw ha)]; exact hw.stab a v ha
 ·intro id y hy
  obtain ⟨L', hL', hO'⟩ := hw.obj id y hy
  exact ⟨L', hL', hO'.keep hF (na hh _ (hO'.lt))⟩
 ·intro id y L' hy hyfr hid
  obtain ⟨h1, h2⟩ := hw.live id y L' hy hyfr hid
  refine ⟨h1, fun a ha => ?_⟩
  obtain ⟨L'', hL'', hO'⟩ := hw.obj id y hy
  rw [hid] at hL''; cases hL''
  have := hO'.lt
  grind
theorem WR.upd (hw : WR P prot σ β h w) {w' : World} (hc : Calm w w') (id : Nat) {o o' : VO} {L L' : Loc} (ho : h[id]? = some o) (hfr : o.fr = false) (hL : β id = some L)
  (hsz : w.heap.size <= w'.heap.size) (hrest : ∀ b, b < w.heap.size -> b ≠ L.blk -> w'.heap[b]? = w.heap[b]?)
  (hL' : L' = L \/ (L.box = false /\ L'.box = false /\ L.g < L'.g)) (hblk : L'.blk = L.blk \/ w.heap.size <= L'.blk)
  (hO : ∀ β', (∀ i K, β i = some K -> ∃ K', β' i = some K' /\ (K' = K \/ (K.box = false /\ K'.box = false /\ K.g < K'.g))) -> β' id = some L' -> Fut prot σ β w σ β' w' -> OR P σ β' w' L' o') :
  ∃ β', Fut prot σ β w σ β' w' /\ WR P prot σ β' (h.set id o') w' /\ β' id = some L' /\ ∀ i, i ≠ id -> β' i = β i := by
 have hidlt : id < h.length := by grind
 obtain ⟨hnp, hns⟩ := hw.live id o L ho hfr hL
 obtain ⟨L0, hL0, hO0⟩ := hw.obj id o ho
 rw [hL] at hL0; cases hL0
 have hLlt := hO0.lt
 have hstab : ∀ a v, σ a = some v -> w'.cell? a = some v := by
  intro a v ha
  have h1 := si hw ha
  have h2 : a.block ≠ L.blk := fun e => by grind
  have : w'.cell? a = w.cell? a := by simp only [World.cell?, hrest a.block h1 h2]
  rw [this]; exact hw.stab a v ha
 have hbet : ∀ i K, β i = some K -> ∃ K', (if i = id then some L' else β i) = some K' /\ (K' = K \/ (K.box = false /\ K'.box = false /\ K.g < K'.g)) := by
  grind
 have hF : Fut prot σ β w σ (fun i => if i = id then some L' else β i) w' := by
  refine ⟨hc.os, hc.tape, hc.output, hsz, fun b hb hs => hrest b hs (fun e => hnp (e ▸ hb)), fun _ _ h => h, hbet, fun _ h => .inl h, ?_⟩
  grind
 refine ⟨fun i => if i = id then some L' else β i, hF, ?_, by simp, fun i hi => by simp [hi]⟩
 refine ⟨fun b hb => Nat.lt_of_lt_of_le (hw.pr b hb) hsz, hstab, ?_, ?_, ?_, ?_⟩
 ·intro i y hy
  by_cases hi : i = id
  ·grind
  ·rw [List.getElem?_set, if_neg (fun e => hi e.symm)] at hy
   obtain ⟨K, hK, hO'⟩ := hw.obj i y hy
   refine ⟨K, by simp [hi, hK], hO'.keep hF (hrest _ (hO'.lt) ?_)⟩
   exact fun e => hw.inj id i o y L K (fun e => hi e.symm) ho hy hfr hL hK e.symm
 ·intro i K hK
  rw [List.length_set]
  split at hK
  ·omega
  ·exact hw.dom i K hK
 ·intro i y K hy hyfr hK
  by_cases hi : i = id
  ·subst hi
   simp at hK; subst hK
   rcases hblk with e | e
   ·grind
   ·refine ⟨fun hp => by have := hw.pr _ hp; omega, fun a ha => ?_⟩
    cases hs : σ a with
    | none => rfl
    | some v => have := si hw hs; omega
  ·rw [List.getElem?_set, if_neg (fun e => hi e.symm)] at hy
   rw [if_neg hi] at hK
   exact hw.live i y K hy hyfr hK
 ·intro i i' y y' K K' hne hy hy' hyfr hK hK'
  have blt : ∀ j x, h[j]? = some x -> ∀ M, β j = some M -> M.blk < w.heap.size := fun j x hx M hM => by
   obtain ⟨M', hM', hO'⟩ := hw.obj j x hx
   rw [hM] at hM'; cases hM'; exact hO'.lt
  by_cases hi : i = id
  ·subst hi
   simp at hK; subst hK
   rw [if_neg (fun e => hne e.symm)] at hK'
   rw [List.getElem?_set, if_neg (fun e => hne e)] at hy'
   have := blt _ _ hy' _ hK'
   rcases hblk with e | e
   ·rw [e]; exact hw.inj i i' o y' L K' hne ho hy' hfr hL hK'
   ·omega
  ·rw [if_neg hi] at hK
   rw [List.getElem?_set, if_neg (fun e => hi e.symm)] at hy
   by_cases hi' : i' = id
   ·subst hi'
    simp at hK'; subst hK'
    have := blt _ _ hy _ hK
    rcases hblk with e | e
    ·rw [e]; exact fun e2 => hw.inj i' i o y L K (fun e => hi e.symm) ho hy hfr hL hK e2.symm
    ·omega
   ·rw [if_neg hi'] at hK'
    rw [List.getElem?_set, if_neg (fun e => hi' e.symm)] at hy'
    exact hw.inj i i' y y' K K' hne hy hy' hyfr hK hK'
theorem WR.freeze (hw : WR P prot σ β h w) (id : Nat) {o : VO} (ho : h[id]? = some o) (hlp : o.freeze.fr = true := by rfl) :
  ∃ σ', Fut prot σ β w σ' β w /\ WR P prot σ' β (h.set id o.freeze) w := by
 have hidlt : id < h.length := by grind
 obtain ⟨L, hL, hO⟩ := hw.obj id o ho
 have hLlt := hO.lt
 by_cases hfr : o.fr = true
 ·have : o.freeze = o := by cases o <;> simp_all [VO.freeze, VO.fr]
  refine ⟨σ, Fut.refl, ?_⟩
  rw [this]
  have : h.set id o = h := by
   apply List.ext_getElem? ; grind
  grind
 ·have hfr : o.fr = false := by grind
  obtain ⟨hnp, hns⟩ := hw.live id o L ho hfr hL
  have hsig : ∀ a v, σ a = some v -> (if a.block = L.blk then w.cell? a else σ a) = some v := by
   grind
  have hF : Fut prot σ β w (fun a => if a.block = L.blk then w.cell? a else σ a) β w := by
   refine ⟨rfl, rfl, rfl, Nat.le_refl _, fun _ _ _ => rfl, hsig, fun i K hK => ⟨K, hK, .inl rfl⟩, ?_, fun i K hK => .inr ⟨K, hK, rfl⟩⟩
   grind
  refine ⟨fun a => if a.block = L.blk then w.cell? a else σ a, hF, ?_⟩
  refine ⟨hw.pr, ?_, ?_, ?_, ?_, ?_⟩
  ·intro a v ha
   split at ha
   ·exact ha
   ·exact hw.stab a v ha
  ·intro i y hy
   by_cases hi : i = id
   ·subst hi
    rw [List.getElem?_set] at hy
    simp [hidlt] at hy
    subst hy
    refine ⟨L, hL, ?_⟩
    cases o with
    | arr z els g fr =>
     obtain ⟨h1, h2, h3, h4, h5, h6, h7, h8⟩ := hO
     refine ⟨h1, h2, h3, h4, h5, h6, h7, fun i e hi j c hj => ?_⟩
     obtain ⟨v, a1, a2, a3⟩ := h8 i e hi j c hj
     exact ⟨v, a1, a2.mono hF.sig, fun _ => by simp [a1]⟩
    | box cells fr =>
     obtain ⟨h1, h2, h3, h4, h5, h6, h7⟩ := hO
     refine ⟨h1, h2, h3, h4, h5, h6, fun j c hj => ?_⟩
     obtain ⟨v, a1, a2, a3⟩ := h7 j c hj
     exact ⟨v, a1, a2.mono hF, fun _ => by simp [a1]⟩
    | loop => cases hlp
   ·rw [List.getElem?_set, if_neg (fun e => hi e.symm)] at hy
    obtain ⟨K, hK, hO'⟩ := hw.obj i y hy
    exact ⟨K, hK, hO'.keep hF rfl⟩
  ·intro i K hK
   rw [List.length_set]; exact hw.dom i K hK
  ·intro i y K hy hyfr hK
   by_cases hi : i = id
   ·grind
   ·rw [List.getElem?_set, if_neg (fun e => hi e.symm)] at hy
    obtain ⟨h1, h2⟩ := hw.live i y K hy hyfr hK
    refine ⟨h1, fun a ha => ?_⟩
    have := hw.inj id i o y L K (fun e => hi e.symm) ho hy hfr hL hK
    grind
  ·intro i i' y y' K K' hne hy hy' hyfr hK hK'
   have fix : ∀ j x, (h.set id o.freeze)[j]? = some x -> ∃ x', h[j]? = some x' /\ (x.fr = false -> x'.fr = false /\ j ≠ id) := by
    grind
   obtain ⟨x, hx, hx2⟩ := fix i y hy
   obtain ⟨x', hx', _⟩ := fix i' y' hy'
   exact hw.inj i i' x x' K K' hne hx hx' (hx2 hyfr).1 hK hK'
end Go.Vm
/-
 Vm: the jk steps are the machine's (own work), first part: what does not touch memory.
-/
namespace Go.Vm
open Go Go.RowKit
variable {P : Program} {prot : Nat -> Prop} {σ : gq} {β : Nat -> Option Loc} {h : ae} {w : World} {a : Act} {s : List VV}
def ant (P : Program) (o : Oper) (a : Act) (w : World) (rv : Value) (w' : World) : Prop :=
 (execOp a.eval o).run P w = .ok (.value rv) w' \/ ((execOp a.eval o).run P w = .ok .skip w' /\ rv = undef)
def Sim (P : Program) (o : Oper) (a : Act) (prot : Nat -> Prop) (σ : gq) (β : Nat -> Option Loc) (w : World) (v : VV) (h' : ae) : Prop :=
 ∃ rv w' σ' β', ant P o a w rv w' /\ Fut prot σ β w σ' β' w' /\ WR P prot σ' β' h' w' /\ VR σ' β' rv v
theorem Sim.pure {o : Oper} {rv : Value} {v : VV} (hw : WR P prot σ β h w) (hr : (execOp a.eval o).run P w = .ok (.value rv) w) (hv : VR σ β rv v) : Sim P o a prot σ β w v h :=
 ⟨rv, w, σ, β, .inl hr, .refl, hw, hv⟩
theorem Qc {l : List Value} {cs : List CV} (hm : l.mapM scV = some cs) : l.length = cs.length /\ ∀ (i : Nat) (v : Value) (c : CV), l[i]? = some v -> cs[i]? = some c -> ny v = true /\ c = .sc v := by
 induction l generalizing cs with
 | nil => grind
 | cons x l ih =>
  rw [List.mapM_cons] at hm
  simp only [Option.bind_eq_bind, Option.bind_eq_some_iff, Option.pure_def, Option.some.injEq] at hm
  obtain ⟨y, hy, ys, hys, rfl⟩ := hm
  obtain ⟨h1, h2⟩ := ih hys
  refine ⟨by simp [h1], fun i v c hv hc => ?_⟩
  cases i with
  | zero =>
   simp at hv hc; subst hv hc
   unfold scV at hy
   grind
  | succ i => grind
theorem afg {v : Value} {c : CV} (hc : scV v = some c) : CR σ v c := by
 unfold scV at hc
 split at hc
 ·rename_i hs; cases hc; exact .sc v hs
 ·cases hc
theorem Qz {v : Value} {u : VV} (hc : Oj v = some u) : VR σ β v u := by
 unfold Oj at hc
 split at hc
 ·rename_i cs
  cases hm : cs.toList.mapM scV with
  | none => grind
  | some l =>
   rw [hm] at hc
   cases hc
   obtain ⟨h1, h2⟩ := Qc hm
   refine .agg cs _ (by grind) (fun c hc => ?_) (fun i v c hv hc => ?_)
   ·simp only [List.mem_map] at hc
    obtain ⟨x, _, rfl⟩ := hc
    rfl
   ·rw [List.getElem?_map] at hc
    cases hx : l[i]? with
    | none => grind
    | some x =>
     rw [hx] at hc; cases hc
     have := h2 i v x (by grind) hx
     obtain ⟨e1, rfl⟩ := this
     exact .sc e1
 ·rename_i f first captured
  split at hc
  ·rename_i he
   cases hc
   simp at he
   obtain ⟨rfl, rfl⟩ := he
   exact .func f #[] [] rfl (fun i v c hv => by simp at hv)
  ·cases hc
 ·rename_i h1 h2
  cases hs : scV v with
  | none => grind
  | some c => rw [hs] at hc; cases hc; exact .cv _ _ (afg hs)
theorem av {x : Operand} {y : Opd} (hx : opd x = some y) (hf : FR σ β a.tmps s) : VR σ β (a.eval x) (ad s y) := by
 cases x with
 | tmp t =>
  cases hx
  simp only [Act.eval, ad]
  rcases Nat.lt_or_ge t s.length with hlt | hge
  ·have h1 : a.tmps[t]? = some (a.tmps.getD t undef) := by simp [hf.1, hlt]
   have h2 : s[t]? = some (s.getD t .undef) := by simp [hlt]
   exact hf.2 t _ _ h1 h2
  ·rw [List.getD_eq_getElem?_getD, List.getElem?_eq_none hge]; exact .undef _
 | const v =>
  simp only [opd] at hx
  cases hc : Oj v with
  | none => grind
  | some u => rw [hc] at hx; cases hx; exact Qz hc
 | global g => cases hx
 | func f => cases hx; exact .func f #[] [] rfl (fun i v c hv => by simp at hv)
theorem bu {v : Value} {u : Value} (hr : VR σ β v (.cv (.sc u))) : v = u := hr.sc_inv.1
theorem acv {o : Oper} {x : Operand} {i : Ins} {v : VV} {h' : ae} (ho : o.op = .move x \/ o.op = .assign x) (hc : (opd x).map Ins.mv = some i) (hs : ai h (ad s) i = some (v, h')) (hf : FR σ β a.tmps s) (hw : WR P prot σ β h w) :
  Sim P o a prot σ β w v h' := by
 cases hx : opd x with
 | none => rw [hx] at hc; cases hc
 | some y =>
  rw [hx] at hc; cases hc
  simp only [ai] at hs
  cases hs
  refine .pure hw ?_ (av hx hf)
  rcases ho with e | e <;> (unfold execOp; rw [e]; rfl)
theorem Yn {o : Oper} {c x y : Operand} {v : VV} {h' : ae} (ho : o.op = .pick c x y) {c' x' y' : Opd} (h1 : opd c = some c') (h2 : opd x = some x') (h3 : opd y = some y')
  (hs : ai h (ad s) (.pick c' x' y') = some (v, h')) (hf : FR σ β a.tmps s) (hw : WR P prot σ β h w) : Sim P o a prot σ β w v h' := by
 have r1 := av h1 hf
 simp only [ai] at hs
 split at hs
 ·rename_i t e
  rw [e] at r1
  have e1 := bu r1
  cases hs
  refine .pure (rv := if t then a.eval x else a.eval y) hw ?_ ?_
  ·unfold execOp; rw [ho]; simp only [e1]; cases t <;> rfl
  ·cases t
   ·exact av h3 hf
   ·exact av h2 hf
 ·cases hs
theorem Ue {v : Value} {u : VV} {t : Bool} (hr : VR σ β v u) (hn : qr u = some t) : (t = true -> v = .pointer none \/ v = .slice none 0 0 \/ v = .nilFunc \/ v = .nilIface) /\
  (t = false -> (∃ A, v = .pointer (some A)) \/ (∃ A n c, v = .slice (some A) n c) \/ (∃ f cs, v = .func (.func f) #[] cs) \/ ∃ T x, v = .iface T x) := by
 cases hr with
 | cv v c hcr =>
  cases hcr with
  | sc v hs => cases v <;> simp [qr] at hn <;> (grind) <;> simp_all
  | sl => simp [qr] at hn; grind
 | own => simp [qr] at hn; grind
 | ob => simp [qr] at hn; grind
 | ptr => simp [qr] at hn; grind
 | eptr => simp [qr] at hn; grind
 | rptr => simp [qr] at hn; grind
 | agg => simp [qr] at hn
 | tup => simp [qr] at hn
 | func => simp [qr] at hn; grind
 | iface => simp [qr] at hn; grind
 | yield => simp [qr] at hn
 | mval => simp [qr] at hn
 | undef => simp [qr] at hn
theorem Xu {o : Oper} {x : Operand} {i : Ins} {v : VV} {h' : ae} (ho : o.op = .nilCheck x) (hc : (opd x).map Ins.nilck = some i) (hs : ai h (ad s) i = some (v, h')) (hf : FR σ β a.tmps s) (hw : WR P prot σ β h w) :
    Sim P o a prot σ β w v h' := by
  cases hx : opd x with
  | none => rw [hx] at hc; cases hc
  | some y =>
    rw [hx] at hc; cases hc
    have r := av hx hf
    simp only [ai] at hs
    split at hs
    · rename_i e
      have hv : v = ad s y ∧ h' = h := by grind
      obtain ⟨rfl, rfl⟩ := hv
      refine .pure hw ?_ r
      have := (Ue r e).2 rfl
      have hne : ∀ A n c, a.eval x ≠ .slice (some A) n c := by
        intro A n c e1
        rw [e1] at r
        cases hy : ad s y with
        | cv c => grind
        | own => grind
        | ob => grind
        | _ => rw [hy] at r; cases r
               try (rw [hy] at hs; simp at hs)
      rcases this with ⟨A, e1⟩ | ⟨A, n, c, e1⟩ | ⟨f, cs, e1⟩ | ⟨T, z, e1⟩
      · unfold execOp; simp_all
      · grind
      · unfold execOp; simp_all
      · unfold execOp; simp_all
    · cases hs
theorem toList_data (x : ByteArray) : x.toList = x.data.toList := by
 first | exact ByteArray.toList_eq x | simp [ByteArray.toList_data]
end Go.Vm
/-
 Vm: the jk steps are the machine's (own work), second part: arithmetic, comparisons, conversions.
-/
namespace Go.Vm
open Go Go.RowKit
variable {P : Program} {prot : Nat -> Prop} {σ : gq} {β : Nat -> Option Loc} {h : ae} {w : World} {a : Act} {s : List VV}
theorem pu (op : BinOp) (t : TypeId) (x y : Operand) (u v : Value) (h1 : ∀ cs, u ≠ .agg cs) (h2 : u = .nilIface -> v = .nilIface -> ((∃ z, x = .const z) \/ ∃ z, y = .const z)) (w : World) :
  (eqGuard op t x y u v).run P w = .ok () w := by
 unfold eqGuard
 cases op
 case eql | neq =>
  cases u <;> cases v <;> first | rfl | (exact absurd rfl (h1 _)) | skip
  rcases h2 rfl rfl with h | h
  ·obtain ⟨z, rfl⟩ := h; simp
  ·obtain ⟨z, rfl⟩ := h; simp
 all_goals rfl
theorem ac {α γ : Type} {m : Sem α} {f : α -> Sem γ} {w w1 : World} {x : α} (h : m.run P w = .ok x w1) : (m >>= f).run P w = (f x).run P w1 := by
 simp_all
theorem My {op : BinOp} {x y z : Value} (h : tm op x y = some z) : ny z = true := by
 unfold tm at h
 split at h
 ·split at h <;> (try split at h) <;> first | (cases h; rfl) | cases h
 ·split at h <;> (try split at h) <;> first | (cases h; rfl) | cases h
 ·split at h
  ·split at h <;> (try split at h) <;> first | (cases h; rfl) | cases h
  ·cases h
 ·cases h
theorem abg {op : BinOp} {t : TypeId} {x y z : Value} (h : tm op x y = some z) : binOp op t x y = pure z := by
  unfold tm at h
  split at h
  · rename_i k m k' n
    cases op <;> simp only at h <;> split at h <;> first | (cases h; done) | skip
    all_goals (rename_i hk; try (first | subst hk | (obtain ⟨hk, hn⟩ := hk; subst hk)))
    all_goals cases h
    all_goals first
        | rfl
        | (simp only [binOp, ne_eq, not_true_eq_false, if_false, Op.intArith]; done)
        | (simp only [binOp, ne_eq, not_true_eq_false, if_false, Op.intDiv, if_neg hn]; done)
        | (simp only [binOp, ne_eq, not_true_eq_false, if_false, Op.intBits]; done)
        | (simp only [binOp, ne_eq, not_true_eq_false, if_false, Op.intCmp]; done)
        | (simp only [binOp, Op.shift]; grind)
        | skip
  · rename_i m n
    cases op <;> simp only at h <;> (try split at h) <;> first | (cases h; done) | skip
    all_goals cases h
    all_goals simp only [binOp, Op.stringOp, toList_data]
    rename_i hk
    rw [if_neg]
    show ¬ (((m.size + n.size : Nat) : Int) > 9223372036854775807)
    omega
  · rename_i k a b k' c d
    split at h
    · rename_i hk
      subst hk
      have ar : ∀ x y z : Nat, k.format.add x y = some z → Op.Complex.arith .add k x y = pure z := by
        intro x y z e
        unfold Op.Complex.arith Op.floatArith
        grind
      have cm : ∀ x y : Nat, Op.Complex.cmp .eql k x y = pure (k.format.order x y == some .eq) := fun _ _ => rfl
      cases op <;> simp only at h <;> first | (cases h; done) | skip
      · split at h
        · rename_i x y e1 e2
          cases h
          simp only [binOp, ne_eq, not_true_eq_false, if_false, Op.complexOp, ar _ _ _ e1, ar _ _ _ e2, pure_bind]
        · cases h
      · cases h
        simp only [binOp, ne_eq, not_true_eq_false, if_false, Op.complexOp, cm, pure_bind]
      · cases h
        simp only [binOp, ne_eq, not_true_eq_false, if_false, Op.complexOp, cm, pure_bind]
    · cases h
  · cases h
theorem Ks {o : Oper} {op : BinOp} {t yt : TypeId} {x y : Operand} {x' y' : Opd} {v : VV} {h' : ae} (ho : o.op = .binOp op t x y yt) (h1 : opd x = some x') (h2 : opd y = some y')
  (hs : ai h (ad s) (.bin op x' y') = some (v, h')) (hf : FR σ β a.tmps s) (hw : WR P prot σ β h w) : Sim P o a prot σ β w v h' := by
 have r1 := av h1 hf
 have r2 := av h2 hf
 simp only [ai] at hs
 split at hs
 ·rename_i u1 u2 e1 e2
  rw [e1] at r1; rw [e2] at r2
  have q1 := bu r1
  have q2 := bu r2
  cases hb : tm op u1 u2 with
  | none => grind
  | some z =>
   rw [hb] at hs; cases hs
   refine .pure hw ?_ (.sc (My hb))
   have hg := pu (P := P) op t x y u1 u2 (fun cs e => by subst e; simp [tm] at hb) (fun e1 e2 => by subst e1; simp [tm] at hb) w
   unfold execOp; rw [ho]
   simp only [q1, q2]
   rw [ac (x := z) (w1 := w)]
   ·rfl
   ·rw [ac hg, abg hb]; rfl
 ·cases hs
theorem aw {t : TypeId} {d : TypeDesc} (hd : P.underlying t = some d) (w : World) : (underlying t).run P w = .ok d w := by
 unfold underlying
 simp_all
theorem Sl {o : Oper} {neg : Bool} {t yt : TypeId} {x y : Operand} {x' y' : Opd} {v : VV} {h' : ae} (ho : o.op = .binOp (if neg then .neq else .eql) t x y yt) (ht : P.underlying t = some .bool) (h1 : opd x = some x') (h2 : opd y = some y')
  (hs : ai h (ad s) (.eqb neg x' y') = some (v, h')) (hf : FR σ β a.tmps s) (hw : WR P prot σ β h w) : Sim P o a prot σ β w v h' := by
 have r1 := av h1 hf
 have r2 := av h2 hf
 simp only [ai] at hs
 split at hs
 ·rename_i u1 u2 e1 e2
  rw [e1] at r1; rw [e2] at r2
  have q1 := bu r1
  have q2 := bu r2
  cases hs
  refine .pure hw ?_ (.sc rfl)
  have hg := pu (P := P) (if neg then .neq else .eql) t x y (.bool u1) (.bool u2) (fun cs e => by cases e) (fun e1 e2 => by cases e1) w
  have he : (Op.equal t (.bool u1) (.bool u2)).run P w = .ok (u1 == u2) w := by
   unfold Op.equal Op.maxDepth
   rw [Op.equalIn, ac (aw ht w)]
   rfl
  unfold execOp; rw [ho]
  simp only [q1, q2]
  rw [ac (x := .bool (if neg then !(u1 == u2) else u1 == u2)) (w1 := w)]
  ·rfl
  ·rw [ac hg]
   cases neg
   ·simp only [binOp, Bool.false_eq_true, if_false]; simp_all
   ·simp only [binOp, if_true]; simp_all
 ·cases hs
def Rs : NK -> Bool -> Value -> Prop
 | .ptr, t, v => if t then v = .pointer none else ∃ A, v = .pointer (some A)
 | .slice, t, v => if t then v = .slice none 0 0 else ∃ A n c, v = .slice (some A) n c
 | .func, t, v => if t then v = .nilFunc else ∃ f cs, v = .func (.func f) #[] cs
 | .iface, t, v => if t then v = .nilIface else ∃ T x, v = .iface T x
theorem Cz {k : NK} {v : Value} {u : VV} {t : Bool} (hr : VR σ β v u) (hn : lg k u = some t) :
  Rs k t v := by
 unfold Rs
 cases hr with
 | cv v c hcr =>
  cases hcr with
  | sc v hs => cases k <;> cases v <;> simp [lg] at hn <;> (grind) <;> simp_all <;> (subst hn; simp)
  | sl => cases k <;> simp [lg] at hn; grind
 | own => cases k <;> simp [lg] at hn; grind
 | ob => cases k <;> simp [lg] at hn; grind
 | ptr => cases k <;> simp [lg] at hn; grind
 | eptr => cases k <;> simp [lg] at hn; grind
 | rptr => cases k <;> simp [lg] at hn; grind
 | agg => cases k <;> simp [lg] at hn
 | tup => cases k <;> simp [lg] at hn
 | func => cases k <;> simp [lg] at hn; grind
 | iface => cases k <;> simp [lg] at hn; grind
 | yield => cases k <;> simp [lg] at hn
 | mval => cases k <;> simp [lg] at hn
 | undef => cases k <;> simp [lg] at hn
def amx : NK -> Value
 | .ptr => .pointer none
 | .slice => .slice none 0 0
 | .func => .nilFunc
 | .iface => .nilIface
theorem zy {k : NK} {y : Operand} (h : wa k y = true) : y = .const (amx k) := by
 unfold wa at h
 split at h <;> first | rfl | cases h
theorem Kd {k : NK} {t : TypeId} {d : TypeDesc} (ht : P.underlying t = some d) (hk : ak5 d = some k) {y : Operand} {v : Value} {b : Bool} (hy : wa k y = true)
  (hv : Rs k b v) (w : World) :
  (Op.equal t v (a.eval y)).run P w = .ok b w /\ (Op.equal t (a.eval y) v).run P w = .ok b w := by
 unfold Op.equal Op.maxDepth
 rw [Op.equalIn, Op.equalIn, ac (aw ht w), ac (aw ht w)]
 obtain rfl := zy hy
 simp only [Act.eval]
 cases d <;> simp [ak5] at hk <;> subst hk <;> simp only [amx] <;> cases b <;> simp [Rs] at hv
 case pointer.false => obtain ⟨A, rfl⟩ := hv; simp_all
 case pointer.true => subst hv; simp_all
 case slice.false => obtain ⟨A, n, c, rfl⟩ := hv; simp_all
 case slice.true => subst hv; simp_all
 case func.false => obtain ⟨f, cs, rfl⟩ := hv; simp_all
 case func.true => subst hv; simp_all
 case interface.false => obtain ⟨T, z, rfl⟩ := hv; simp_all
 case interface.true => subst hv; simp_all
def Kz : Value -> Bool
 | .int _ _ | .float _ _ | .complex _ _ _ | .string _ => false
 | _ => true
theorem Xx {t : TypeId} {x y : Value} (h : Kz x = true) : binOp .eql t x y = (do pure (.bool (<- Op.equal t x y))) := by
 cases x <;> first | rfl | cases h
theorem Xo {t : TypeId} {x y : Value} (h : Kz x = true) : binOp .neq t x y = (do pure (.bool (!(<- Op.equal t x y)))) := by
 cases x <;> first | rfl | cases h
theorem Hi {o : Oper} {neg : Bool} {t yt : TypeId} {x y : Operand} {z : Opd} {k : NK} {d : TypeDesc} {v : VV} {h' : ae} (ho : o.op = .binOp (if neg then .neq else .eql) t x y yt) (ht : P.underlying t = some d) (hk : ak5 d = some k)
    (hz : (opd x = some z ∧ wa k y = true) ∨ (opd y = some z ∧ wa k x = true))
    (hs : ai h (ad s) (.eqn k neg z) = some (v, h')) (hf : FR σ β a.tmps s) (hw : WR P prot σ β h w) : Sim P o a prot σ β w v h' := by
  simp only [ai] at hs
  split at hs
  · rename_i b hb
    cases hs
    have key : ∀ u c : Value, Kz u = true → (∀ cs, u ≠ .agg cs) → (u = .nilIface → c = .nilIface → ((∃ z, x = .const z) ∨ ∃ z, y = .const z)) → a.eval x = u → a.eval y = c → (Op.equal t u c).run P w = .ok b w →
        Sim P o a prot σ β w (.cv (.sc (.bool (if neg then !b else b)))) h := by
      intro u c hp hagg hi e1 e2 he
      refine .pure hw ?_ (.sc rfl)
      have hg := pu (P := P) (if neg then .neq else .eql) t x y u c hagg hi w
      unfold execOp; rw [ho]
      simp only [e1, e2]
      rw [ac (x := .bool (if neg then !b else b)) (w1 := w)]
      · rfl
      · rw [ac hg]
        cases neg
        · simp only [Bool.false_eq_true, if_false]; rw [Xx hp, ac he]; rfl
        · simp only [if_true]; rw [Xo hp, ac he]; rfl
    rcases hz with ⟨h1, h2⟩ | ⟨h1, h2⟩
    · have hr := Cz (av h1 hf) hb
      obtain ⟨q1, _⟩ := Kd (a := a) ht hk h2 hr w
      have hy := zy h2
      refine key _ _ ?_ ?_ ?_ rfl rfl q1
      · cases k <;> cases b <;> simp [Rs] at hr <;> first | (obtain ⟨A, e⟩ := hr; rw [e]; rfl) | (obtain ⟨A, n, e⟩ := hr; rw [e]; rfl) | (obtain ⟨A, n, c, e⟩ := hr; rw [e]; rfl) | (rw [hr]; rfl)
      · intro cs e; rw [e] at hr
        cases k <;> cases b <;> simp [Rs] at hr
      grind
    · have hr := Cz (av h1 hf) hb
      obtain ⟨_, q1⟩ := Kd (a := a) ht hk h2 hr w
      have hy := zy h2
      refine key _ _ ?_ ?_ ?_ rfl rfl q1
      · rw [hy]; cases k <;> rfl
      · intro cs e; rw [hy] at e; cases k <;> cases e
      grind
  · cases hs
theorem ai6 {o : Oper} {op : UnOp} {t : TypeId} {x : Operand} {y : Opd} {v : VV} {h' : ae} (ho : o.op = .unOp op t x) (h1 : opd x = some y)
  (hs : ai h (ad s) (.un op y) = some (v, h')) (hf : FR σ β a.tmps s) (hw : WR P prot σ β h w) : Sim P o a prot σ β w v h' := by
 have r1 := av h1 hf
 simp only [ai] at hs
 split at hs
 ·rename_i u e1
  rw [e1] at r1
  have q1 := bu r1
  cases hb : unV op u with
  | none => rw [hb] at hs; cases hs
  | some z =>
   rw [hb] at hs; cases hs
   have hz : ny z = true /\ Op.unary op u = pure z := by
    unfold unV at hb
    split at hb
    ·cases op <;> simp only at hb <;> first | (cases hb; exact ⟨rfl, rfl⟩) | cases hb
    ·cases op <;> simp only at hb <;> first | (cases hb; exact ⟨rfl, rfl⟩) | cases hb
    ·cases hb
   refine .pure hw ?_ (.sc hz.1)
   unfold execOp; rw [ho]
   simp only [q1, hz.2]; rfl
 ·cases hs
theorem Ak {src dst : TypeId} {k k' : IntKind} {n : Int} {d : TypeDesc} (h1 : P.underlying src = some d) (h2 : P.underlying dst = some (.int k)) (w : World) : (convert src dst (.int k' n)).run P w = .ok (.int k (k.wrap n)) w := by
 unfold convert
 rw [ac (aw h1 w), ac (aw h2 w)]
 cases d <;> rfl
theorem agi {o : Oper} {src dst : TypeId} {x : Operand} {y : Opd} {k : IntKind} {d : TypeDesc} {v : VV} {h' : ae} (ho : o.op = .convert src dst x) (hd1 : P.underlying src = some d) (hd2 : P.underlying dst = some (.int k)) (h1 : opd x = some y)
  (hs : ai h (ad s) (.cvI k y) = some (v, h')) (hf : FR σ β a.tmps s) (hw : WR P prot σ β h w) : Sim P o a prot σ β w v h' := by
 have r1 := av h1 hf
 simp only [ai] at hs
 split at hs
 ·rename_i k' n e1
  rw [e1] at r1
  have q1 := bu r1
  cases hs
  refine .pure hw ?_ (.sc rfl)
  unfold execOp; rw [ho]
  simp only [q1]
  rw [ac (Ak hd1 hd2 w)]; rfl
 ·cases hs
theorem zx {src dst : TypeId} {k : FloatKind} {k' : IntKind} {n : Int} {k0 : IntKind} (h1 : P.underlying src = some (.int k0)) (h2 : P.underlying dst = some (.float k)) (w : World) : (convert src dst (.int k' n)).run P w = .ok (.float k (k.nearest n)) w := by
 unfold convert
 rw [ac (aw h1 w), ac (aw h2 w)]
 rfl
theorem ad8 {o : Oper} {src dst : TypeId} {x : Operand} {y : Opd} {k : FloatKind} {k0 : IntKind} {v : VV} {h' : ae} (ho : o.op = .convert src dst x) (hd1 : P.underlying src = some (.int k0)) (hd2 : P.underlying dst = some (.float k)) (h1 : opd x = some y)
  (hs : ai h (ad s) (.cvF k y) = some (v, h')) (hf : FR σ β a.tmps s) (hw : WR P prot σ β h w) : Sim P o a prot σ β w v h' := by
 have r1 := av h1 hf
 simp only [ai] at hs
 split at hs
 ·rename_i k' n e1
  rw [e1] at r1
  have q1 := bu r1
  cases hs
  refine .pure hw ?_ (.sc rfl)
  unfold execOp; rw [ho]
  simp only [q1]
  rw [ac (zx hd1 hd2 w)]; rfl
 ·cases hs
theorem aak {o : Oper} {src dst : TypeId} {x : Operand} {y : Opd} {v : VV} {h' : ae} (ho : o.op = .convert src dst x) (hd1 : P.underlying src = some .string) (hd2 : P.underlying dst = some .string) (h1 : opd x = some y)
  (hs : ai h (ad s) (.cvSS y) = some (v, h')) (hf : FR σ β a.tmps s) (hw : WR P prot σ β h w) : Sim P o a prot σ β w v h' := by
 have r1 := av h1 hf
 simp only [ai] at hs
 split at hs
 ·rename_i b e1
  rw [e1] at r1
  have q1 := bu r1
  cases hs
  refine .pure hw ?_ (.sc rfl)
  unfold execOp; rw [ho]
  simp only [q1]
  unfold convert
  rw [ac (w := w) (w1 := w) (x := .string b)]
  ·rfl
  ·rw [ac (aw hd1 w), ac (aw hd2 w)]; rfl
 ·cases hs
theorem Yp {o : Oper} {t : TypeId} {x : Operand} {y : Opd} {d : TypeDesc} {v : VV} {h' : ae} (ho : o.op = .makeInterface t x) (hd : P.underlying t = some d) (hn : ∀ ms, d ≠ .interface ms) (h1 : opd x = some y)
  (hs : ai h (ad s) (.mkif t y) = some (v, h')) (hf : FR σ β a.tmps s) (hw : WR P prot σ β h w) : Sim P o a prot σ β w v h' := by
 have r1 := av h1 hf
 simp only [ai] at hs
 cases hs
 refine .pure hw ?_ (.iface t _ _ r1)
 unfold execOp; rw [ho]
 simp only [Instr.makeInterface]
 rw [ac (w := w) (w1 := w) (x := .iface t (a.eval x))]
 ·rfl
 ·rw [ac (aw hd w)]
  simp_all
theorem wg {xs : List Operand} {ys : List Opd} (hx : Oi xs = some ys) (hf : FR σ β a.tmps s) : xs.length = ys.length /\ ∀ (i : Nat) (v : Value) (u : VV), (xs.map a.eval)[i]? = some v -> (ys.map (ad s))[i]? = some u -> VR σ β v u := by
 induction xs generalizing ys with
 | nil => cases hx; grind
 | cons x r ih =>
  simp only [Oi] at hx
  split at hx
  ·rename_i y l h1 h2
   cases hx
   obtain ⟨e, hr⟩ := ih h2
   refine ⟨by simp [e], fun i v u hv hu => ?_⟩
   cases i with
   | zero => simp at hv hu; subst hv hu; exact av h1 hf
   | succ i => grind
  ·cases hx
theorem aah {o : Oper} {f : Nat} {first caps : Array Operand} {l : List Opd} {v : VV} {h' : ae} (ho : o.op = .makeFunc (.func f) first caps) (he : first.isEmpty = true) (h1 : Oi caps.toList = some l)
  (hs : ai h (ad s) (.mkfn f l) = some (v, h')) (hf : FR σ β a.tmps s) (hw : WR P prot σ β h w) : Sim P o a prot σ β w v h' := by
 obtain ⟨e, hr⟩ := wg h1 hf
 simp only [ai] at hs
 cases hs
 have hfirst : first = #[] := by grind
 subst hfirst
 refine .pure hw (rv := .func (.func f) #[] (caps.map a.eval)) ?_ ?_
 ·unfold execOp; rw [ho]; simp [Instr.makeFunc]
 ·refine .func f _ _ (by simpa using e) (fun i v c hv hc => hr i v c ?_ hc)
  grind
theorem aaa {o : Oper} {name : String} {x : Operand} {caps : Array Operand} {y : Opd} {v : VV} {h' : ae} (ho : o.op = .makeFunc (.method name) #[x] caps) (hx : opd x = some y)
  (hs : ai h (ad s) (.mkmv name y) = some (v, h')) (hf : FR σ β a.tmps s) (hw : WR P prot σ β h w) : Sim P o a prot σ β w v h' := by
 have r := av hx hf
 simp only [ai] at hs
 split at hs
 ·rename_i t u e1
  rw [e1] at r
  cases hs
  generalize hX : a.eval x = X at r
  cases r with
  | iface _ rv _ hr =>
   refine .pure hw (rv := .func (.method name) #[.iface t rv] (caps.map a.eval)) ?_ (.mval _ _ _ _)
   unfold execOp; rw [ho]; simp [Instr.makeFunc, hX]
 ·cases hs
theorem Xm (isMin : Bool) (P : Program) (w : World) : ∀ (l : List VV) (rs : List Value) (v u : Value), rs.length = l.length -> (∀ (i : Nat) (r : Value) (x : VV), rs[i]? = some r -> l[i]? = some x -> VR σ β r x) -> Qm isMin v l = some u ->
  (∃ k n, v = .int k n) -> ((rs.foldlM (if isMin then Builtin.min2 else Builtin.max2) v : Sem Value).run P w = .ok u w) /\ ∃ k n, u = .int k n := by
 intro l
 induction l with
 | nil =>
  intro rs v u hl hr hm hv
  simp only [List.length_nil, List.length_eq_zero_iff] at hl
  subst hl
  cases hm
  simp_all
 | cons x l ih =>
  intro rs v u hl hr hm hv
  cases rs with
  | nil => simp at hl
  | cons r rs =>
   have r0 := hr 0 r x rfl rfl
   obtain ⟨k, n, rfl⟩ := hv
   have hx : ∃ k' m, x = .cv (.sc (.int k' m)) := by
    unfold Qm at hm
    cases x with
    | cv c =>
     cases c with
     | sc u0 => cases u0 <;> simp [Zb] at hm |-
     | sl z els ex => simp at hm
    | _ => simp at hm
   obtain ⟨k', m, rfl⟩ := hx
   have q := bu r0
   subst q
   simp only [Qm, Zb] at hm
   obtain ⟨i1, i2⟩ := ih rs _ _ (by grind) (fun i r x h1 h2 => hr (i + 1) r x (by grind) (by grind)) hm ⟨_, _, rfl⟩
   refine ⟨?_, i2⟩
   rw [List.foldlM_cons]
   cases isMin
   ·simp only [Bool.false_eq_true, if_false] at i1 |-
    rw [ac (x := .int k (if m > n then m else n)) (w1 := w) (by simp [Builtin.max2])]
    exact i1
   ·simp only [if_true] at i1 |-
    rw [ac (x := .int k (if m < n then m else n)) (w1 := w) (by simp [Builtin.min2])]
    exact i1
theorem Pk {o : Oper} {isMin : Bool} {c : Call} {l : List Opd} {v : VV} {h' : ae} (ho : o.op = .call c) (hc : c.callee = .builtin (if isMin then .min else .max)) (h1 : Oi c.args.toList = some l)
  (hs : ai h (ad s) (.mnmx isMin l) = some (v, h')) (hf : FR σ β a.tmps s) (hw : WR P prot σ β h w) : Sim P o a prot σ β w v h' := by
 obtain ⟨e, hr⟩ := wg h1 hf
 simp only [ai] at hs
 split at hs
 ·rename_i v0 r hl
  split at hs
  ·rename_i u hm
   split at hs
   ·rename_i k n
    cases hs
    rw [hl] at hr
    have hlen : (c.args.toList.map a.eval).length = r.length + 1 := by
     have := congrArg List.length hl
     grind
    cases hrs : c.args.toList.map a.eval with
    | nil => grind
    | cons r0 rs =>
     rw [hrs] at hr hlen
     have q := bu (hr 0 r0 _ rfl rfl)
     subst q
     obtain ⟨i1, k2, n2, rfl⟩ := Xm isMin P w r rs _ _ (by grind) (fun i r x h1 h2 => hr (i + 1) r x (by grind) (by grind)) hm ⟨_, _, rfl⟩
     refine .pure hw (rv := .int k2 n2) ?_ (.sc rfl)
     unfold execOp; rw [ho]
     have hargs : (c.args.map a.eval).toList = .int k n :: rs := by simp_all
     simp only [resolve, hc]
     cases isMin
     ·simp only [Bool.false_eq_true, if_false] at i1 |-
      simp [invoke, builtin, Builtin.max_, hrs, i1]
     ·simp only [if_true] at i1 |-
      simp [invoke, builtin, Builtin.min_, hrs, i1]
   ·cases hs
  ·cases hs
 ·cases hs
theorem Ym {o : Oper} {c : Call} {x y : Operand} {x' y' : Opd} {v : VV} {h' : ae} (ho : o.op = .call c) (hc : c.callee = .builtin .complex) (ha : c.args.toList = [x, y]) (h1 : opd x = some x') (h2 : opd y = some y')
  (hs : ai h (ad s) (.cplx x' y') = some (v, h')) (hf : FR σ β a.tmps s) (hw : WR P prot σ β h w) : Sim P o a prot σ β w v h' := by
 have r1 := av h1 hf
 have r2 := av h2 hf
 simp only [ai] at hs
 split at hs
 ·rename_i k u1 k' u2 e1 e2
  rw [e1] at r1; rw [e2] at r2
  have q1 := bu r1
  have q2 := bu r2
  split at hs
  ·rename_i hk
   cases hs
   refine .pure hw ?_ (.sc rfl)
   have hargs : c.args = #[x, y] := by rw [<- ha]
   unfold execOp; rw [ho]
   subst hk
   have hcx : ∀ A T, Builtin.complex_ A T #[.float k u1, .float k u2] = (if k = k then pure (.complex k u1 u2) else stuck "complex: parts of different kinds") := fun _ _ => rfl
   simp [resolve, hc, invoke, builtin, hargs, q1, q2, hcx]
  ·cases hs
 ·cases hs
theorem agf {o : Oper} {x : Operand} {i : Nat} {y : Opd} {v : VV} {h' : ae} (ho : o.op = .extract x i) (h1 : opd x = some y)
  (hs : ai h (ad s) (.ext y i) = some (v, h')) (hf : FR σ β a.tmps s) (hw : WR P prot σ β h w) : Sim P o a prot σ β w v h' := by
 have r1 := av h1 hf
 simp only [ai] at hs
 split at hs
 ·rename_i vs e1
  rw [e1] at r1
  split at hs
  ·rename_i u hu
   cases hs
   generalize hx : a.eval x = X at r1
   cases r1 with
   | tup rs us hn hr =>
    have hi : i < rs.size := by grind
    refine .pure hw (rv := rs[i]) ?_ (hr i _ _ (by simp [hi]) hu)
    unfold execOp; rw [ho]
    simp [hx, Instr.extract, hi]
  ·cases hs
 ·cases hs
end Go.Vm
/-
 Vm: the jk steps are the machine's (own work), third part: texts, parts of structs, reading.
-/
namespace Go.Vm
open Go Go.RowKit
variable {P : Program} {prot : Nat -> Prop} {σ : gq} {β : Nat -> Option Loc} {h : ae} {w : World} {a : Act} {s : List VV}
theorem de {A : Addr} (hs : A.spot = none) (n : Nat) : A.add n = ⟨A.block, A.off + n, none⟩ := by
 obtain ⟨b, o, sp⟩ := A
 simp at hs; subst hs
 unfold Addr.add
 grind
theorem pk {t : TypeId} {n : Nat} (h : kx P t = some n) : ∃ i, P.info? t = some i /\ i.size = n := by
 unfold kx at h
 simp_all
theorem lf {t : TypeId} {i : TypeInfo} (hi : P.info? t = some i) (w : World) : (typeInfo t).run P w = .ok i w := by
 unfold typeInfo
 simp_all
theorem db {t : TypeId} {n : Nat} (h : kx P t = some n) (w : World) : (sizeOf t).run P w = .ok n w := by
 obtain ⟨i, hi, rfl⟩ := pk h
 unfold sizeOf
 rw [ac (lf hi w)]; rfl
theorem oz {t : TypeId} {b : Bool} (h : Yh P t = some b) (w : World) : (isAgg t).run P w = .ok b w := by
 unfold Yh at h
 split at h
 ·rename_i hu; cases h; unfold isAgg; rw [ac (aw hu w)]; rfl
 ·rename_i hu; cases h; unfold isAgg; rw [ac (aw hu w)]; rfl
 ·rename_i d h1 h2 hu
  cases h
  unfold isAgg; rw [ac (aw hu w)]
  simp_all
 ·cases h
theorem Cb {vs : Array Value} {cells : List VV} {ag : Bool} {n off : Nat} {v : VV} (hn : vs.size = cells.length) (hk : ∀ c ∈ cells, en c = true)
  (hr : ∀ (i : Nat) (v : Value) (c : VV), vs[i]? = some v -> cells[i]? = some c -> VR σ β v c) (hl : dm ag n ((cells.drop off).take n) = some v) (h1 : ag = true \/ n = 1) :
  (ag = true -> VR σ β (.agg (vs.extract off (off + n))) v) /\ (ag = false -> ∃ x, vs[off]? = some x /\ VR σ β x v) := by
 unfold dm at hl
 split at hl
 ·rename_i hlen
  have hb : off + n <= cells.length \/ n = 0 := by grind
  cases ag with
  | true =>
   simp at hl
   subst hl
   refine ⟨fun _ => .agg _ _ ?_ (fun c hc => hk c (List.mem_of_mem_drop (List.mem_of_mem_take hc))) (fun i v c hv hc => ?_), fun e => by cases e⟩
   ·grind
   grind
  | false =>
   simp at hl
   refine ⟨fun e => (by cases e), fun _ => ?_⟩
   have hn1 : n = 1 := by grind
   subst hn1
   split at hl
   ·rename_i c' hc
    cases hl
    have hc0 : cells[off]? = some v := by
     have := congrArg (fun l => l[0]?) hc
     grind
    have hlt : off < vs.size := by omega
    exact ⟨vs[off], by simp [hlt], hr off _ _ (by simp [hlt]) hc0⟩
   ·cases hl
 ·cases hl
theorem afb {o : Oper} {t : TypeId} {x : Operand} {f : Nat} {y : Opd} {fields : Array Field} {fd : Field} {n : Nat} {ag : Bool} {v : VV} {h' : ae} (ho : o.op = .field t x f) (hd : P.underlying t = some (.struct fields)) (hfd : fields[f]? = some fd)
  (hz : kx P fd.type = some n) (hg : Yh P fd.type = some ag) (h1 : ag = true \/ n = 1) (hx : opd x = some y)
  (hs : ai h (ad s) (.fld ag fd.offset n y) = some (v, h')) (hf : FR σ β a.tmps s) (hw : WR P prot σ β h w) : Sim P o a prot σ β w v h' := by
 have r1 := av hx hf
 simp only [ai] at hs
 split at hs
 ·rename_i cells e1
  rw [e1] at r1
  cases hl : dm ag n ((cells.drop fd.offset).take n) with
  | none => grind
  | some u =>
   rw [hl] at hs; cases hs
   generalize hX : a.eval x = X at r1
   cases r1 with
   | agg vs _ hn hk hr =>
    obtain ⟨q1, q2⟩ := Cb hn hk hr hl h1
    cases ag with
    | true =>
     refine .pure hw (rv := .agg (vs.extract fd.offset (fd.offset + n))) ?_ (q1 rfl)
     unfold execOp; rw [ho]
     simp [hX, Instr.field, aw hd, hfd, part, oz hg, db hz, asAgg]
    | false =>
     obtain ⟨z, hz1, hz2⟩ := q2 rfl
     refine .pure hw (rv := z) ?_ hz2
     unfold execOp; rw [ho]
     simp [hX, Instr.field, aw hd, hfd, part, oz hg, asAgg, hz1]
 ·cases hs
theorem nz {v : Value} {u : VV} {n : Int} (hr : VR σ β v u) (hi : qg u = some n) : ∃ k, v = .int k n := by
 unfold qg at hi
 split at hi
 ·cases hi; exact ⟨_, bu hr⟩
 ·cases hi
theorem afz {o : Oper} {t : TypeId} {x i : Operand} {x' i' : Opd} {n z : Nat} {e : TypeId} {ag : Bool} {v : VV} {h' : ae} (ho : o.op = .index t x i) (hd : P.underlying t = some (.array n e))
  (hz : kx P e = some z) (hg : Yh P e = some ag) (h1 : ag = true \/ z = 1) (hx : opd x = some x') (hi : opd i = some i')
  (hs : ai h (ad s) (.ixA ag n z x' i') = some (v, h')) (hf : FR σ β a.tmps s) (hw : WR P prot σ β h w) : Sim P o a prot σ β w v h' := by
 have r1 := av hx hf
 have r2 := av hi hf
 simp only [ai] at hs
 split at hs
 ·rename_i j cells e1 e2
  rw [e2] at r1
  obtain ⟨k, hk⟩ := nz r2 e1
  split at hs
  ·rename_i hb
   cases hl : dm ag z ((cells.drop (j.toNat * z)).take z) with
   | none => grind
   | some u =>
    rw [hl] at hs; cases hs
    generalize hX : a.eval x = X at r1
    cases r1 with
    | agg vs _ hn hk' hr =>
     obtain ⟨q1, q2⟩ := Cb hn hk' hr hl h1
     cases ag with
     | true =>
      refine .pure hw (rv := .agg (vs.extract (j.toNat * z) (j.toNat * z + z))) ?_ (q1 rfl)
      unfold execOp; rw [ho]
      simp [hX, hk, Instr.index, aw hd, asIntOf, hb, part, oz hg, db hz]
     | false =>
      obtain ⟨y, hz1, hz2⟩ := q2 rfl
      refine .pure hw (rv := y) ?_ hz2
      unfold execOp; rw [ho]
      simp [hX, hk, Instr.index, aw hd, asIntOf, hb, part, oz hg, db hz, hz1]
  ·cases hs
 ·cases hs
theorem afs {o : Oper} {t : TypeId} {x i : Operand} {x' i' : Opd} {v : VV} {h' : ae} (ho : o.op = .index t x i) (hd : P.underlying t = some .string)
  (hx : opd x = some x') (hi : opd i = some i')
  (hs : ai h (ad s) (.ixS x' i') = some (v, h')) (hf : FR σ β a.tmps s) (hw : WR P prot σ β h w) : Sim P o a prot σ β w v h' := by
 have r1 := av hx hf
 have r2 := av hi hf
 simp only [ai] at hs
 split at hs
 ·rename_i j b e1 e2
  rw [e2] at r1
  obtain ⟨k, hk⟩ := nz r2 e1
  have q := bu r1
  split at hs
  ·rename_i hb
   split at hs
   ·rename_i c hc
    cases hs
    refine .pure hw ?_ (.sc rfl)
    unfold execOp; rw [ho]
    have hc' : b[j.toNat]? = some c := by
     have hlt := (List.getElem?_eq_some_iff.1 hc).1
     have he := (List.getElem?_eq_some_iff.1 hc).2
     have hlt' : j.toNat < b.size := by simp_all
     rw [getElem?_pos b j.toNat hlt', <- he]
     rfl
    simp [q, hk, Instr.index, aw hd, asIntOf, hb, hc']
   ·cases hs
  ·cases hs
 ·cases hs
theorem Ab {xo : Option Operand} {xo' : Option Opd} {dflt y r : Nat} (hx : Cr xo = some xo') (hf : FR σ β a.tmps s) (hb : bnd (ad s) xo' dflt y = some r) :
  (xo = none /\ r = dflt) \/ ∃ x k, xo = some x /\ a.eval x = .int k r /\ r <= y := by
 cases xo with
 | none => cases hx; cases hb; grind
 | some x =>
  simp only [Cr] at hx
  cases ho : opd x with
  | none => grind
  | some x' =>
   rw [ho] at hx; cases hx
   have r1 := av ho hf
   simp only [bnd] at hb
   split at hb
   ·rename_i i hi
    obtain ⟨k, hk⟩ := nz r1 hi
    grind
   ·cases hb
theorem Gv {xo : Option Operand} {xo' : Option Opd} (hx : Cr xo = some xo') : xo'.isSome = xo.isSome := by
 cases xo with
 | none => cases hx; rfl
 | some x =>
  simp only [Cr] at hx
  cases ho : opd x with
  | none => grind
  | some x' => grind
theorem dr {k : IntKind} {i : Nat} {y : Nat} (hi : i <= y) (code : BoundsCode) (w : World) : (Instr.sliceBound (.int k i) y code).run P w = .ok i w := by
 unfold Instr.sliceBound
 simp [asIntOf]
 omega
theorem lu {isSlice : Bool} {len cap : Nat} {lo hi : Option Operand} {lo' hi' : Option Opd} {b l : Nat} (h1 : Cr lo = some lo') (h2 : Cr hi = some hi') (hf : FR σ β a.tmps s)
  (hb : bnd (ad s) hi' len len = some b) (hl : bnd (ad s) lo' 0 b = some l) (hc : len <= cap) (w : World) : l <= b /\ b <= len /\
  (Instr.sliceBounds isSlice len cap (lo.map a.eval) (hi.map a.eval) none).run P w = .ok (l, b, cap) w := by
 have r1 := Ab h2 hf hb
 have r2 := Ab h1 hf hl
 have hbl : b <= len := by omega
 have hlb : l <= b := by omega
 refine ⟨hlb, hbl, ?_⟩
 unfold Instr.sliceBounds
 rcases r1 with ⟨rfl, e⟩ | ⟨x, k, rfl, e, _⟩
 ·rcases r2 with ⟨rfl, rfl⟩ | ⟨y, k', rfl, e', _⟩
  ·subst e; simp
  ·subst e; simp [e', dr hlb]
 ·rcases r2 with ⟨rfl, rfl⟩ | ⟨y, k', rfl, e', _⟩
  ·simp [e, dr (P := P) (show b <= cap by omega)]
  ·simp [e, e', dr (P := P) (show b <= cap by omega), dr hlb]
theorem yu {len cap : Nat} {lo hi mx : Option Operand} {lo' hi' mx' : Option Opd} {b l m : Nat} (h1 : Cr lo = some lo') (h2 : Cr hi = some hi') (h3 : Cr mx = some mx') (hf : FR σ β a.tmps s)
  (hb : bnd (ad s) hi' len len = some b) (hl : bnd (ad s) lo' 0 b = some l) (hm : bnd (ad s) mx' len len = some m) (hmx : mx'.isSome = true) (hmb : m = b) (hh : hi.isSome = true) (hc : len <= cap) (w : World) : l <= b /\ b <= len /\
  (Instr.sliceBounds true len cap (lo.map a.eval) (hi.map a.eval) (mx.map a.eval)).run P w = .ok (l, b, b) w := by
 subst hmb
 have r1 := Ab h2 hf hb
 have r2 := Ab h1 hf hl
 have r3 := Ab h3 hf hm
 have hbl : m <= len := by omega
 have hlb : l <= m := by omega
 refine ⟨hlb, hbl, ?_⟩
 have hms := Gv h3
 rw [hmx] at hms
 unfold Instr.sliceBounds
 rcases r3 with ⟨rfl, e⟩ | ⟨z, kz, rfl, ez, _⟩
 ·cases hms
 rcases r1 with ⟨rfl, e⟩ | ⟨x, k, rfl, e, _⟩
 ·cases hh
 rcases r2 with ⟨rfl, rfl⟩ | ⟨y, k', rfl, e', _⟩
 ·simp [e, ez, dr (P := P) (show m <= cap by omega), dr (P := P) (Nat.le_refl m)]
 ·simp [e, e', ez, dr (P := P) (show m <= cap by omega), dr (P := P) (Nat.le_refl m), dr hlb]
theorem yh (b : ByteArray) (i j : Nat) : b.extract i j = ⟨((b.data.toList.drop i).take (j - i)).toArray⟩ := by
 apply ByteArray.ext
 apply Array.ext'
 simp_all
theorem ae9 {o : Oper} {t : TypeId} {x : Operand} {lo hi : Option Operand} {x' : Opd} {lo' hi' : Option Opd} {v : VV} {h' : ae} (ho : o.op = .slice t x lo hi none) (hd : P.underlying t = some .string)
  (hx : opd x = some x') (hlo : Cr lo = some lo') (hhi : Cr hi = some hi')
  (hs : ai h (ad s) (.slS x' lo' hi') = some (v, h')) (hf : FR σ β a.tmps s) (hw : WR P prot σ β h w) : Sim P o a prot σ β w v h' := by
 have r1 := av hx hf
 simp only [ai] at hs
 split at hs
 ·rename_i b e1
  rw [e1] at r1
  have q := bu r1
  split at hs
  ·rename_i m hm
   split at hs
   ·rename_i l hl
    cases hs
    obtain ⟨h1, h2, h3⟩ := lu (P := P) (isSlice := false) hlo hhi hf hm hl (Nat.le_refl _) w
    refine .pure hw ?_ (.sc rfl)
    unfold execOp; rw [ho]
    simp [q, Instr.sliceAt, aw hd, Instr.slice, h3, yh]
   ·cases hs
  ·cases hs
 ·cases hs
theorem aav {o : Oper} {c : Call} {x : Operand} {t : TypeId} {y : Opd} {v : VV} {h' : ae} (ho : o.op = .call c) (hc : c.callee = .builtin .len) (ha : c.args.toList = [x]) (ht : c.argTypes.toList = [t])
  (hd : P.underlying t = some .string) (h1 : opd x = some y)
  (hs : ai h (ad s) (.len true y) = some (v, h')) (hf : FR σ β a.tmps s) (hw : WR P prot σ β h w) : Sim P o a prot σ β w v h' := by
 have r1 := av h1 hf
 have hargs : c.args = #[x] := by rw [<- ha]
 have htys : c.argTypes = #[t] := by rw [<- ht]
 simp only [ai, if_true] at hs
 split at hs
 ·rename_i n hn
  unfold Ul at hn
  split at hn
  ·rename_i b e
   cases hn
   rw [e] at r1
   have q := bu r1
   cases hs
   refine .pure hw ?_ (.sc rfl)
   unfold execOp; rw [ho]
   simp [resolve, hc, hargs, htys, invoke, builtin, Builtin.len_, aw hd, q, goInt]
  ·cases hn
 ·cases hs
theorem vh {v : Value} {u : VV} {n : Nat} (hr : VR σ β v u) (hl : lz u = some n) : ∃ A cap, v = .slice A n cap /\ n <= cap := by
 unfold lz at hl
 split at hl
 ·cases hl; exact ⟨none, 0, bu hr, Nat.le_refl _⟩
 ·cases hl
  cases hr with
  | cv _ _ h1 => cases h1 with
   | sl A cap z els ex f hs hc hx hz hl' hm hr' => grind
 ·cases hl
  cases hr with
  | own A cap id g off len ex L hL hb hg hA hc hx => grind
 ·cases hl
  cases hr with
  | ob A cap id off len z ex L hL hb hs hB hA hcs hc hx hz => grind
 ·cases hl
theorem af1 {o : Oper} {c : Call} {x : Operand} {t e : TypeId} {y : Opd} {v : VV} {h' : ae} (ho : o.op = .call c) (hc : c.callee = .builtin .len) (ha : c.args.toList = [x]) (ht : c.argTypes.toList = [t])
  (hd : P.underlying t = some (.slice e)) (h1 : opd x = some y)
  (hs : ai h (ad s) (.len false y) = some (v, h')) (hf : FR σ β a.tmps s) (hw : WR P prot σ β h w) : Sim P o a prot σ β w v h' := by
 have r1 := av h1 hf
 have hargs : c.args = #[x] := by rw [<- ha]
 have htys : c.argTypes = #[t] := by rw [<- ht]
 simp only [ai, Bool.false_eq_true, if_false] at hs
 split at hs
 ·rename_i n hn
  obtain ⟨A, cap, e1, _⟩ := vh r1 hn
  cases hs
  refine .pure hw ?_ (.sc rfl)
  unfold execOp; rw [ho]
  simp [resolve, hc, hargs, htys, invoke, builtin, Builtin.len_, aw hd, e1, goInt]
 ·cases hs
end Go.Vm
/-
 Vm: the jk steps are the machine's (own work), fourth part: elements in memory, conversions between texts and bytes, addresses, loads.
-/
namespace Go.Vm
open Go Go.RowKit
variable {P : Program} {prot : Nat -> Prop} {σ : gq} {β : Nat -> Option Loc} {h : ae} {w : World} {a : Act} {s : List VV}
def acf (σ : gq) (w : World) (z : Nat) (v : Value) (els : List (List CV)) : Prop :=
 ∃ A cap, v = .slice A els.length cap /\ els.length <= cap /\ (∀ e ∈ els, e.length = z) /\ (A = none -> els = []) /\
  ∀ B, A = some B -> (els = [] \/ B.spot = none) /\ ∀ (i : Nat) (e : List CV), els[i]? = some e -> ∀ (j : Nat) (c : CV), e[j]? = some c -> ∃ x, w.cell? ⟨B.block, B.off + i * z + j, none⟩ = some x /\ CR σ x c
theorem Hc {cells : List VV} {cs : List CV} (hm : (cells.mapM fun | .cv c => some c | _ => none) = some cs) : cells = cs.map .cv := by
 induction cells generalizing cs with
 | nil => grind
 | cons x l ih =>
  rw [List.mapM_cons] at hm
  simp only [Option.bind_eq_bind, Option.bind_eq_some_iff, Option.pure_def, Option.some.injEq] at hm
  grind
theorem ky {α : Type} {z len : Nat} {cells : List α} {i : Nat} {e : List α} (h : (mm z len cells)[i]? = some e) : i < len /\ e = (cells.drop (i * z)).take z := by
 unfold mm at h
 grind
theorem lc {α : Type} (z len : Nat) (cells : List α) : (mm z len cells).length = len := by simp [mm]
theorem Bf {α : Type} {z len : Nat} {cells : List α} (hl : cells.length = len * z) : ∀ e ∈ mm z len cells, e.length = z := by
 intro e he
 obtain ⟨i, hi⟩ := List.getElem?_of_mem he
 obtain ⟨h1, rfl⟩ := ky hi
 simp only [List.length_take, List.length_drop, hl]
 have : (i + 1) * z <= len * z := Nat.mul_le_mul_right _ h1
 grind
theorem wx {α : Type} {z len : Nat} {cells : List α} {i j : Nat} {e : List α} {c : α} (h : (mm z len cells)[i]? = some e) (hj : e[j]? = some c) : cells[i * z + j]? = some c /\ j < z := by
 obtain ⟨h1, rfl⟩ := ky h
 grind
theorem sj {v : Value} {u : VV} {z : Nat} {els : List (List CV)} (hz : 0 < z) (hr : VR σ β v u) (hw : WR P prot σ β h w) (he : gi h z u = some els) : acf σ w z v els /\ lz u = some els.length := by
 unfold gi at he
 split at he
 ·cases he
  exact ⟨⟨none, 0, bu hr, Nat.le_refl _, fun e he => by simp at he, fun _ => rfl, fun B hB => by cases hB⟩, rfl⟩
 ·rename_i z' els' ex
  split at he
  ·rename_i hzz; subst hzz
   cases he
   cases hr with
   | cv _ _ h1 => cases h1 with
    | sl A cap z els ex f hs hc hx hz' hl hm hr' =>
     exact ⟨⟨some A, cap, rfl, hc, hl, fun e => (by cases e), fun B hB => by
      cases hB; exact ⟨hs.imp (fun e => List.eq_nil_of_length_eq_zero (by omega)) id, fun i e hi j c hj => ⟨f i j, hw.stab _ _ (hm i e hi j c hj), hr' i e hi j c hj⟩⟩⟩, rfl⟩
  ·cases he
 ·rename_i id g off len ex
  split at he
  ·rename_i z' els' g' fr ho
   split at he
   ·rename_i hcond
    obtain ⟨hzz, hg, hb⟩ := hcond
    subst hzz
    cases he
    have hlen : ((els'.drop off).take len).length = len := by simp; omega
    obtain ⟨L, hL, hO⟩ := hw.obj id _ ho
    obtain ⟨o1, o2, o3, o4, o5, o6, o7, o8⟩ := hO
    refine ⟨?_, by simp only [lz, hlen]⟩
    cases hr with
    | own A cap _ _ _ _ _ L' hL' hb' hg' hA hc hx =>
     rw [hL] at hL'; cases hL'
     obtain ⟨a1, a2, a3, a4⟩ := hA (by omega)
     refine ⟨some A, cap, by rw [hlen], by omega, fun e he => o5 e (List.mem_of_mem_drop (List.mem_of_mem_take he)), fun e => (by cases e), fun B hB => ?_⟩
     grind
   ·cases he
  ·cases he
 ·rename_i id off len z' ex
  split at he
  ·rename_i cells fr ho
   split at he
   ·rename_i cs hcs
    split at he
    ·rename_i hcond
     obtain ⟨hzz, hb⟩ := hcond
     subst hzz
     cases he
     have hcl := Hc hcs
     obtain ⟨L, hL, hO⟩ := hw.obj id _ ho
     obtain ⟨o1, o2, o3, o4, o5, o6, o7⟩ := hO
     refine ⟨?_, by simp only [lz, lc]⟩
     cases hr with
     | ob A cap _ _ _ _ _ L' hL' hb' hs hB hA hcs' hc hx hz' =>
      rw [hL] at hL'; cases hL'
      refine ⟨some A, cap, by rw [lc], by rw [lc]; exact hc, Bf hb, fun e => (by cases e), fun B hB' => ?_⟩
      cases hB'
      refine ⟨.inr hs, fun i e hi j c hj => ?_⟩
      obtain ⟨h1, h2⟩ := wx hi hj
      obtain ⟨h3, _⟩ := ky hi
      have h4 : ((cells.drop off).take (len * z'))[i * z' + j]? = some (.cv c) := by grind
      rw [List.getElem?_take] at h4
      split at h4
      ·rw [List.getElem?_drop] at h4
       obtain ⟨x, hx1, hx2, _⟩ := o7 _ _ h4
       have hcr : CR σ x c := by cases hx2; assumption
       grind
      ·cases h4
    ·cases he
   ·cases he
  ·cases he
 ·cases he
def tv (σ : gq) (z : Nat) (els : List (List CV)) (rs : List Value) : Prop :=
 (∀ e ∈ els, e.length = z) /\ rs.length = els.length * z /\ ∀ (i : Nat) (e : List CV), els[i]? = some e -> ∀ (j : Nat) (c : CV), e[j]? = some c -> ∃ x, rs[i * z + j]? = some x /\ CR σ x c
theorem tv.one {z : Nat} {els : List (List CV)} {rs : List Value} (hz : 0 < z) (hf : tv σ z els rs) : ∀ x ∈ rs, x.oneCell' = true := by
 intro x hx
 obtain ⟨k, hk⟩ := List.getElem?_of_mem hx
 obtain ⟨h1, h2, h3⟩ := hf
 have hlt : k < els.length * z := by grind
 have hi : k / z < els.length := Nat.div_lt_of_lt_mul (by grind)
 have hel : els[k / z].length = z := h1 _ (List.getElem_mem hi)
 have hj : k % z < els[k / z].length := by rw [hel]; exact Nat.mod_lt _ hz
 obtain ⟨c, hc⟩ : ∃ c, els[k / z][k % z]? = some c := ⟨_, List.getElem?_eq_getElem hj⟩
 obtain ⟨y, hy1, hy2⟩ := h3 (k / z) els[k / z] (by simp [hi]) (k % z) c hc
 have : k / z * z + k % z = k := by rw [Nat.mul_comm]; exact Nat.div_add_mod k z
 rw [this, hk] at hy1
 cases hy1
 cases hy2 with
 | sc _ hs => cases x <;> first | rfl | cases hs
 | sl => rfl
theorem tv.append {z : Nat} {els els' : List (List CV)} {rs rs' : List Value} (h1 : tv σ z els rs) (h2 : tv σ z els' rs') : tv σ z (els ++ els') (rs ++ rs') := by
 obtain ⟨a1, a2, a3⟩ := h1
 obtain ⟨b1, b2, b3⟩ := h2
 refine ⟨fun e he => ?_, by grind, fun i e hi j c hj => ?_⟩
 ·grind
 ·rw [List.getElem?_append] at hi
  split at hi
  ·grind
  ·rename_i hge
   obtain ⟨x, hx1, hx2⟩ := b3 _ e hi j c hj
   refine ⟨x, ?_, hx2⟩
   have hk : i * z = els.length * z + (i - els.length) * z := by rw [<- Nat.add_mul]; grind
   grind
theorem tv.take {z : Nat} {els : List (List CV)} {rs : List Value} (hf : tv σ z els rs) (k : Nat) (hk : k <= els.length) : tv σ z (els.take k) (rs.take (k * z)) := by
 obtain ⟨a1, a2, a3⟩ := hf
 refine ⟨fun e he => a1 e (List.mem_of_mem_take he), ?_, fun i e hi j c hj => ?_⟩
 ·simp_all
 ·rw [List.getElem?_take] at hi
  split at hi
  ·rename_i hlt
   obtain ⟨x, hx1, hx2⟩ := a3 i e hi j c hj
   have hjz : j < z := by grind
   refine ⟨x, ?_, hx2⟩
   rw [List.getElem?_take, if_pos]
   ·exact hx1
   ·have : (i + 1) * z <= k * z := Nat.mul_le_mul_right _ hlt
    grind
  ·cases hi
theorem acf.flat {z : Nat} {v : Value} {els : List (List CV)} (hz : 0 < z) (he : acf σ w z v els) : ∃ rs, tv σ z els rs /\ ∀ k, k <= els.length -> (Builtin.firstCells z k v).run P w = .ok (rs.take (k * z)).toArray w := by
 obtain ⟨A, cap, rfl, hc, hl, hn, hB⟩ := he
 cases A with
 | none =>
  have := hn rfl
  subst this
  refine ⟨[], ⟨fun e he => (by simp at he), by simp, fun i e hi => (by simp at hi)⟩, fun k hk => ?_⟩
  simp [Builtin.firstCells]
 | some B =>
  obtain ⟨hs, hcell⟩ := hB B rfl
  have key : ∀ k, k < els.length * z -> ∃ x, w.cell? ⟨B.block, B.off + k, none⟩ = some x := by
   intro k hk
   have hi : k / z < els.length := Nat.div_lt_of_lt_mul (by grind)
   have hel : els[k / z].length = z := hl _ (List.getElem_mem hi)
   have hj : k % z < els[k / z].length := by rw [hel]; exact Nat.mod_lt _ hz
   obtain ⟨y, hy1, _⟩ := hcell (k / z) els[k / z] (by simp [hi]) (k % z) _ (List.getElem?_eq_getElem hj)
   have : B.off + k / z * z + k % z = B.off + k := by have := Nat.div_add_mod k z; grind
   grind
  refine ⟨(List.range (els.length * z)).map fun k => (w.cell? ⟨B.block, B.off + k, none⟩).getD undef, ⟨hl, by simp, fun i e hi j c hj => ?_⟩, fun k hk => ?_⟩
  ·obtain ⟨x, hx1, hx2⟩ := hcell i e hi j c hj
   refine ⟨x, ?_, hx2⟩
   have hilt := (List.getElem?_eq_some_iff.1 hi).1
   have hjz : j < z := by grind
   have hlt : i * z + j < els.length * z := by
    have : (i + 1) * z <= els.length * z := Nat.mul_le_mul_right _ hilt
    grind
   grind
  ·have hk' : k * z <= els.length * z := Nat.mul_le_mul_right _ hk
   simp only [Builtin.firstCells]
   rw [run_loadCells w B (k * z) (fun j => (w.cell? ⟨B.block, B.off + j, none⟩).getD undef)]
   ·rw [<- List.map_take, List.take_range, Nat.min_eq_left hk']
   ·intro j hj
    obtain ⟨x, hx⟩ := key j (by omega)
    have hs0 : B.spot = none := hs.resolve_left (by grind)
    rw [de hs0, hx]; rfl
theorem Qo (l : List UInt8) : tv σ 1 (eB l) (l.map fun b => Value.int .u8 b.toNat) := by
 refine ⟨fun e he => ?_, by simp [eB], fun i e hi j c hj => ?_⟩
 ·simp only [eB, List.mem_map] at he
  obtain ⟨b, _, rfl⟩ := he
  rfl
 ·simp only [eB, List.getElem?_map] at hi
  cases hb : l[i]? with
  | none => grind
  | some b =>
   rw [hb] at hi
   cases hi
   cases j with
   | zero =>
    simp [br] at hj
    subst hj
    exact ⟨.int .u8 b.toNat, by simp [hb], .sc _ rfl⟩
   | succ j => simp [br] at hj
theorem Jp {els : List (List CV)} {l : List UInt8} {rs : List Value} (hb : pp els = some l) (hf : tv σ 1 els rs) : ∃ ns : List Int, rs = ns.map (Value.int .u8) /\ l = ns.map fun n => UInt8.ofNat n.toNat := by
 induction els generalizing l rs with
 | nil =>
  unfold pp at hb
  simp at hb; subst hb
  have := hf.2.1
  simp_all
 | cons e els ih =>
  unfold pp at hb
  rw [List.mapM_cons] at hb
  simp only [Option.bind_eq_bind, Option.bind_eq_some_iff, Option.pure_def, Option.some.injEq] at hb
  obtain ⟨y, hy, ys, hys, rfl⟩ := hb
  obtain ⟨f1, f2, f3⟩ := hf
  unfold Na at hy
  split at hy
  ·rename_i n
   cases hy
   cases rs with
   | nil => simp at f2
   | cons r rs =>
    obtain ⟨x, hx1, hx2⟩ := f3 0 _ rfl 0 _ rfl
    simp at hx1
    subst hx1
    have hr : r = .int .u8 n := hx2.scalar_inv.1
    subst hr
    obtain ⟨ns, rfl, rfl⟩ := ih hys (rs := rs) ⟨fun e he => f1 e (List.mem_cons_of_mem _ he), by grind, fun i e hi j c hj => by
     have hj0 : j = 0 := by
      grind
     subst hj0
     obtain ⟨x, hx1, hx2⟩ := f3 (i + 1) e (by grind) 0 c hj
     grind⟩
    exact ⟨n :: ns, rfl, rfl⟩
  ·cases hy
theorem aag {o : Oper} {src dst e : TypeId} {x : Operand} {y : Opd} {v : VV} {h' : ae} (ho : o.op = .convert src dst x) (hd1 : P.underlying src = some (.slice e)) (hde : P.underlying e = some (.int .u8)) (hd2 : P.underlying dst = some .string) (h1 : opd x = some y)
  (hs : ai h (ad s) (.cvBS y) = some (v, h')) (hf : FR σ β a.tmps s) (hw : WR P prot σ β h w) : Sim P o a prot σ β w v h' := by
 have r1 := av h1 hf
 simp only [ai] at hs
 split at hs
 ·rename_i els hels
  cases hb : pp els with
  | none => grind
  | some l =>
   rw [hb] at hs; cases hs
   obtain ⟨hE, _⟩ := sj (z := 1) (by decide) r1 hw hels
   obtain ⟨rs, hF, hrun⟩ := hE.flat (P := P) (by decide)
   obtain ⟨ns, rfl, rfl⟩ := Jp hb hF
   obtain ⟨A, cap, hv, _, _, hn, hB⟩ := hE
   refine .pure hw ?_ (.sc rfl)
   unfold execOp; rw [ho]
   simp only [hv]
   have hlen : els.length = ns.length := by have := hF.2.1; grind
   cases A with
   | none =>
    have he0 := hn rfl
    subst he0
    have : ns = [] := by grind
    subst this
    rw [ac (run_convert_bytes_nil w src e hd1 hde _ _ dst hd2)]
    rfl
   | some B =>
    have hr := hrun els.length (Nat.le_refl _)
    rw [hv] at hr
    simp only [Builtin.firstCells, Nat.mul_one] at hr
    rw [List.take_of_length_le (by simp [hlen])] at hr
    have hc := run_convert_bytes_string (P := P) w src dst e (some B) els.length cap hd1 hde hd2
    rw [run_bytesToString w B els.length cap ns hr, foldl_push_bytes] at hc
    simp_all
 ·cases hs
theorem qo (w : World) (e : TypeId) (b : ByteArray) : (Lib.bytesWorld w e b).heap = w.heap.push (.cells (Lib.bytesCells w e b) e ((Lib.bytesCells w e b).size, (Lib.bytesCells w e b).size + 1)) := by
 apply Array.ext_getElem?
 intro i
 rw [Array.getElem?_push]
 by_cases hi : i = w.heap.size
 ·subst hi; rw [if_pos rfl, Lib.bytesWorld_at_new]
 ·rw [if_neg hi]
  by_cases hlt : i < w.heap.size
  ·rw [Lib.bytesWorld_at_old w e b i hlt]
  ·have : w.heap[i]? = none := Array.getElem?_eq_none (by omega)
   rw [this]
   apply Array.getElem?_eq_none
   rw [Lib.bytesWorld_size]; omega
theorem qn (w : World) (e : TypeId) (b : ByteArray) : Calm w (Lib.bytesWorld w e b) := by
 refine ⟨?_, ?_, ?_⟩ <;> (unfold Lib.bytesWorld World.freeze; simp only [Nat.one_ne_zero, if_false]; rfl)
theorem yx (w : World) (e : TypeId) (b : ByteArray) (i : Nat) (x : UInt8) (hx : b.data.toList[i]? = some x) : (Lib.bytesWorld w e b).cell? ⟨w.heap.size, i, none⟩ = some (.int .u8 x.toNat) := by
 have hlt : i < b.size := by have := (List.getElem?_eq_some_iff.1 hx).1; simp_all
 rw [Lib.bytesWorld_cell w e b i hlt]
 grind
theorem aba {o : Oper} {src dst e : TypeId} {x : Operand} {y : Opd} {own : Bool} {v : VV} {h' : ae} (ho : o.op = .convert src dst x) (hd1 : P.underlying src = some .string) (hd2 : P.underlying dst = some (.slice e)) (hde : P.underlying e = some (.int .u8)) (h1 : opd x = some y)
  (hs : ai h (ad s) (.cvSB own y) = some (v, h')) (hf : FR σ β a.tmps s) (hw : WR P prot σ β h w) : Sim P o a prot σ β w v h' := by
 have r1 := av h1 hf
 simp only [ai] at hs
 split at hs
 ·rename_i b e1
  rw [e1] at r1
  have q := bu r1
  have hrun := Lib.run_convert_string_bytes (P := P) w src dst e b hd1 hd2 hde
  have hcap : b.size <= grownCap w b.size 0 e := grownCap_ge w b.size 0 e
  have hsz : (Lib.bytesCells w e b).size = grownCap w b.size 0 e := by simp [Lib.bytesCells]; omega
  have hgo : (execOp a.eval o).run P w = .ok (.value (.slice (some ⟨w.heap.size, 0, none⟩) b.size (grownCap w b.size 0 e))) (Lib.bytesWorld w e b) := by
   unfold execOp; simp_all
  have hcells : ∀ (i : Nat) (el : List CV), (eB b.data.toList)[i]? = some el -> ∀ (j : Nat) (c : CV), el[j]? = some c -> ∃ x, (Lib.bytesWorld w e b).cell? ⟨w.heap.size, 0 + i * 1 + j, none⟩ = some x /\ c = .sc x /\ ny x = true := by
   intro i el hi j c hj
   simp only [eB, List.getElem?_map] at hi
   cases hb : b.data.toList[i]? with
   | none => grind
   | some x =>
    rw [hb] at hi; cases hi
    cases j with
    | zero =>
     simp [br] at hj
     subst hj
     refine ⟨.int .u8 x.toNat, ?_, rfl, rfl⟩
     rw [<- yx w e b i x hb]
     grind
    | succ j => simp [br] at hj
  have hlen : (eB b.data.toList).length = b.size := by simp [eB]
  have hall : ∀ el ∈ eB b.data.toList, el.length = 1 := by
   intro el he
   simp only [eB, List.mem_map] at he
   obtain ⟨x, _, rfl⟩ := he; rfl
  cases own with
  | true =>
   simp only [if_true] at hs
   cases hs
   obtain ⟨β', hF, hW, hβ, hext⟩ := hw.new (qn w e b) (qo w e b) (.arr 1 (eB b.data.toList) 0 false) ⟨w.heap.size, 0, 0, 1, grownCap w b.size 0 e, false⟩ rfl (by
    intro β' _
    refine ⟨rfl, rfl, rfl, by decide, hall, by grind, ⟨_, _, _, Lib.bytesWorld_at_new w e b, hsz, .inr ⟨by grind, rfl⟩⟩, fun i el hi j c hj => ?_⟩
    obtain ⟨x, hx1, rfl, hx2⟩ := hcells i el hi j c hj
    exact ⟨x, hx1, .sc _ hx2, fun e => (by cases e)⟩)
   refine ⟨_, _, _, _, .inl hgo, hF, hW, ?_⟩
   exact .own _ _ _ _ _ _ _ _ hβ rfl (Nat.le_refl _) (fun _ => ⟨rfl, rfl, .inr rfl, by simp⟩) hcap (fun e => by cases e)
  | false =>
   simp only [Bool.false_eq_true, if_false] at hs
   cases hs
   obtain ⟨σ', hF, hW, hnew, hsig⟩ := hw.stay (qn w e b) (qo w e b)
   refine ⟨_, _, _, _, .inl hgo, hF, hW, ?_⟩
   refine .cv _ _ ?_
   have := CR.sl (σ := σ') ⟨w.heap.size, 0, none⟩ (grownCap w b.size 0 e) 1 (eB b.data.toList) false (fun i j => ((Lib.bytesWorld w e b).cell? ⟨w.heap.size, 0 + i * 1 + j, none⟩).getD undef) (.inr rfl) (by omega) (fun e => (by cases e)) (by decide) hall
    (fun i el hi j c hj => by grind)
    (fun i el hi j c hj => by obtain ⟨x, hx1, rfl, hx2⟩ := hcells i el hi j c hj; rw [hx1]; exact .sc _ hx2)
   grind
 ·cases hs
theorem af6 {o : Oper} {dst e e' : TypeId} {x : Operand} {y : Opd} {v : VV} {h' : ae} (ho : o.op = .convert dst dst x) (hd2 : P.underlying dst = some (.slice e)) (_ : P.underlying dst = some (.slice e')) (hde : P.underlying e = some (.int .u8)) (h1 : opd x = some y)
    (hs : ai h (ad s) (.mrk y) = some (v, h')) (hf : FR σ β a.tmps s) (hw : WR P prot σ β h w) : Sim P o a prot σ β w v h' := by
  have r1 := av h1 hf
  simp only [ai] at hs
  split at hs
  · rename_i id g off len ex e1
    split at hs
    · rename_i z els g' hobj
      split at hs
      · rename_i hgz
        obtain ⟨hg, hz1⟩ := hgz
        cases hs
        rw [e1] at r1
        generalize hq : a.eval x = rv at r1
        cases r1 with
        | own A cap _ _ _ _ _ L hL hb hgl hA hc hx =>
          obtain ⟨L0, hL0, hO⟩ := hw.obj id _ hobj
          rw [hL] at hL0; cases hL0
          have hg' : L.g = g' := hO.2.1
          obtain ⟨hsp, hAb, hAo⟩ := hA (by omega)
          obtain ⟨C, E, fz, hC, hsz, hfz⟩ := hO.blk
          obtain ⟨lo, hi⟩ := fz
          have hsh : w.shape? A.block = some (E, C.size) := by
            unfold World.shape?
            rw [hAb, hC]
          have hlt : L.blk < w.heap.size := by
            grind
          have hgo : (execOp a.eval o).run P w = .ok (.value (.slice (some A) len cap)) (w.freeze ⟨A.block, C.size, none⟩ 1) := by
            unfold execOp; rw [ho]
            simp only [hq]
            rw [ac (w1 := w.freeze ⟨A.block, C.size, none⟩ 1) (x := .slice (some A) len cap)]
            · rfl
            · simp [convert, run_underlying hd2, run_underlying hde, markStringish, hsh]
          have hfrz : w.freeze ⟨A.block, C.size, none⟩ 1 = { w with heap := w.heap.modify L.blk fun
              | .cells c elem (lo, hi) => .cells c elem (if lo == hi then (C.size, C.size + 1) else (min lo C.size, max hi (C.size + 1)))
              | o => o } := by
            unfold World.freeze
            grind
          have hnew : (w.freeze ⟨A.block, C.size, none⟩ 1).heap[L.blk]? = some (.cells C E (if lo == hi then (C.size, C.size + 1) else (min lo C.size, max hi (C.size + 1)))) := by
            grind
          have hrest : ∀ b, b < w.heap.size → b ≠ L.blk → (w.freeze ⟨A.block, C.size, none⟩ 1).heap[b]? = w.heap[b]? := by
            grind
          have hsize : w.heap.size ≤ (w.freeze ⟨A.block, C.size, none⟩ 1).heap.size := by
            grind
          have hcell : ∀ (q : Addr), (w.freeze ⟨A.block, C.size, none⟩ 1).cell? q = w.cell? q := by
            intro q
            by_cases hqb : q.block = L.blk
            · unfold World.cell?
              grind
            · rcases Nat.lt_or_ge q.block w.heap.size with hl | hl
              · simp only [World.cell?, hrest q.block hl hqb]
              · have : (w.freeze ⟨A.block, C.size, none⟩ 1).heap[q.block]? = none := by
                  grind
                simp only [World.cell?, this, Array.getElem?_eq_none hl]
          obtain ⟨β', hF, hW, hβ, _⟩ := hw.upd (w' := w.freeze ⟨A.block, C.size, none⟩ 1) ⟨rfl, rfl, rfl⟩ id (o' := .arr z els g' false) (L' := L) hobj rfl hL hsize hrest (.inl rfl) (.inl rfl) (by
            intro β' _ _ _
            obtain ⟨o1, o2, o3, o4, o5, o6, _, o8⟩ := hO
            refine ⟨o1, o2, o3, o4, o5, o6, ⟨C, E, _, hnew, hsz, ?_⟩, fun i el hi j c hj => ?_⟩
            · grind
            grind)
          have hset : h.set id (.arr z els g' false) = h := by
            apply List.ext_getElem?
            grind
          rw [hset] at hW
          exact ⟨_, _, _, _, .inl hgo, hF, hW, .own A cap id g off len ex L hβ hb hgl hA hc hx⟩
      · cases hs
    · cases hs
  · cases hs
end Go.Vm
/-
 Vm: the jk steps are the machine's (own work), fifth part: addresses, loads, slices.
-/
namespace Go.Vm
open Go Go.RowKit
variable {P : Program} {prot : Nat -> Prop} {σ : gq} {β : Nat -> Option Loc} {h : ae} {w : World} {a : Act} {s : List VV}
theorem Ps {v : Value} {u : VV} (hr : VR σ β v u) (hc : en u = true) : v.oneCell' = true := by
 cases hr with
 | cv v c h1 => cases h1 with
  | sc _ hs => cases v <;> first | rfl | cases hs
  | sl => rfl
 | agg => cases hc
 | tup => cases hc
 | undef => cases hc
 | _ => rfl
theorem Vz {v : Value} (h : v.oneCell' = true) : v.cells = #[v] := by
 cases v <;> first | rfl | cases h
theorem we {v : Value} {u : VV} {cs : List VV} (hr : VR σ β v u) (hc : cellsOf u = some cs) : v.cells.size = cs.length /\ (∀ c ∈ cs, en c = true) /\ ∀ (i : Nat) (x : Value) (c : VV), v.cells[i]? = some x -> cs[i]? = some c -> VR σ β x c := by
 by_cases hk : en u = true
 ·have he : cs = [u] := by cases u <;> simp [cellsOf] at hc <;> first | exact hc.symm | (cases hk; done)
  subst he
  rw [Vz (Ps hr hk)]
  grind
 ·cases u <;> simp [en] at hk <;> simp [cellsOf] at hc
  subst hc
  cases hr with
  | agg vs _ hn hk hr => exact ⟨hn, hk, hr⟩
theorem nr {o : Oper} {rv : Value} {v : VV} (hw : WR P prot σ β h w) {m : Sem Value} (ho : execOp a.eval o = (do let x <- m; pure (Next.value x))) (hm : m.run P w = .ok rv w) (hv : VR σ β rv v) : Sim P o a prot σ β w v h :=
 .pure hw (by simp_all) hv
theorem ada {o : Oper} {t : TypeId} {x : Operand} {f : Nat} {y : Opd} {fields : Array Field} {fd : Field} {n : Nat} {v : VV} {h' : ae} (ho : o.op = .fieldAddr t x f) (hd : P.underlying t = some (.struct fields)) (hfd : fields[f]? = some fd)
  (hz : kx P fd.type = some n) (hn : 0 < n) (hx : opd x = some y)
  (hs : ai h (ad s) (.fad fd.offset y) = some (v, h')) (hf : FR σ β a.tmps s) (hw : WR P prot σ β h w) : Sim P o a prot σ β w v h' := by
 have r1 := av hx hf
 have key : ∀ A u, a.eval x = .pointer (some A) -> h' = h -> v = u -> VR σ β (.pointer (some (A.add fd.offset))) u -> Sim P o a prot σ β w v h' := by
  intro A u hA e1 e2 hv
  subst e1 e2
  refine nr (rv := .pointer (some (A.add fd.offset))) hw (m := Instr.fieldAt t (a.eval x) f) (by unfold execOp; rw [ho]) ?_ hv
  simp [Instr.fieldAt, aw hd, hfd, hA, Instr.sureAddr, fieldPlace, db hz, show ¬ n = 0 by omega]
 simp only [ai] at hs
 split at hs
 ·rename_i id off e1
  rw [e1] at r1
  cases hs
  generalize hX : a.eval x = X at r1
  cases r1 with
  | ptr _ _ L hL hb =>
   refine key _ _ hX rfl rfl ?_
   rw [de rfl]
   exact .ptr id _ L hL hb
 ·rename_i id g i off e1
  rw [e1] at r1
  cases hs
  generalize hX : a.eval x = X at r1
  cases r1 with
  | eptr A _ _ _ _ L hL hb hg hA =>
   refine key _ _ hX rfl rfl (.eptr _ id g i _ L hL hb hg fun e => ?_)
   rw [hA e, de rfl]; grind
 ·rename_i cells e1
  rw [e1] at r1
  cases hs
  generalize hX : a.eval x = X at r1
  cases r1 with
  | rptr A _ fn hs hm hr =>
   refine key _ _ hX rfl rfl ?_
   rw [de hs]
   refine .rptr _ _ (fun j => fn (fd.offset + j)) rfl (fun j c hj => ?_) (fun j c hj => ?_)
   ·grind
   grind
 ·cases hs
theorem Yr {o : Oper} {t e : TypeId} {x i : Operand} {x' i' : Opd} {z : Nat} {v : VV} {h' : ae} (ho : o.op = .indexAddr t x i) (hd : P.underlying t = some (.slice e)) (hz : kx P e = some z) (hz0 : 0 < z) (hx : opd x = some x') (hi : opd i = some i')
  (hs : ai h (ad s) (.iadL z x' i') = some (v, h')) (hf : FR σ β a.tmps s) (hw : WR P prot σ β h w) : Sim P o a prot σ β w v h' := by
 have r1 := av hx hf
 have r2 := av hi hf
 simp only [ai] at hs
 split at hs
 ·rename_i j hj
  obtain ⟨k, hk⟩ := nz r2 hj
  split at hs
  ·rename_i hj0
   have key : ∀ A n cap u, a.eval x = .slice (some A) n cap -> j.toNat < n -> h' = h -> v = u -> VR σ β (.pointer (some (A.add (j.toNat * z)))) u -> Sim P o a prot σ β w v h' := by
    intro A n cap u hA hlt e1 e2 hv
    subst e1 e2
    refine nr (rv := .pointer (some (A.add (j.toNat * z)))) hw (m := Instr.indexAt t (a.eval x) (a.eval i)) (by unfold execOp; rw [ho]) ?_ hv
    have : 0 <= j /\ j < n := ⟨hj0, by omega⟩
    simp [Instr.indexAt, aw hd, hA, hk, asIntOf, this, db hz]
   split at hs
   ·rename_i z' els ex e1
    rw [e1] at r1
    split at hs
    ·rename_i hzz; subst hzz
     split at hs
     ·rename_i el hel
      cases hs
      generalize hX : a.eval x = X at r1
      cases r1 with
      | cv _ _ h1 => cases h1 with
       | sl A cap _ _ _ fn hs hc hx hz' hl hm hr =>
        have hs0 : A.spot = none := hs.resolve_left (by grind)
        refine key _ _ _ _ hX (List.getElem?_eq_some_iff.1 hel).1 rfl rfl ?_
        rw [de hs0]
        exact .rptr _ _ (fun q => fn j.toNat q) rfl (fun q c hq => hm _ _ hel q c hq) (fun q c hq => hr _ _ hel q c hq)
     ·cases hs
    ·cases hs
   ·rename_i id g off len ex e1
    rw [e1] at r1
    split at hs
    ·rename_i z' els g' fr hobj
     split at hs
     ·rename_i hcond
      obtain ⟨hzz, hg, hlt⟩ := hcond
      subst hzz
      cases hs
      obtain ⟨L, hL, hO⟩ := hw.obj id _ hobj
      obtain ⟨o1, o2, o3, o4, o5, o6, o7, o8⟩ := hO
      generalize hX : a.eval x = X at r1
      cases r1 with
      | own A cap _ _ _ _ _ L' hL' hb' hg' hA hc hx =>
       rw [hL] at hL'; cases hL'
       refine key _ _ _ _ hX hlt rfl rfl ?_
       refine .eptr _ id g _ _ L hL hb' hg' fun e => ?_
       obtain ⟨a1, a2, a3, a4⟩ := hA e
       rw [de a1, a2]
       grind
     ·cases hs
    ·cases hs
   ·rename_i id off len z' ex e1
    rw [e1] at r1
    split at hs
    ·rename_i hcond
     obtain ⟨hzz, hlt⟩ := hcond
     subst hzz
     cases hs
     generalize hX : a.eval x = X at r1
     cases r1 with
     | ob A cap _ _ _ _ _ L hL hb hs hB hA hcs hc hx hz =>
      refine key _ _ _ _ hX hlt rfl rfl ?_
      rw [de hs]
      have : (⟨A.block, A.off + j.toNat * z', none⟩ : Addr) = ⟨L.blk, off + j.toNat * z', none⟩ := by
       grind
      rw [this]
      exact .ptr id _ L hL hb
    ·cases hs
   ·cases hs
  ·cases hs
 ·cases hs
theorem Zp {o : Oper} {t e : TypeId} {x i : Operand} {x' i' : Opd} {n z : Nat} {v : VV} {h' : ae} (ho : o.op = .indexAddr t x i) (hd : P.underlying t = some (.array n e)) (hz : kx P e = some z) (hz0 : 0 < z) (hx : opd x = some x') (hi : opd i = some i')
  (hs : ai h (ad s) (.iadA n z x' i') = some (v, h')) (hf : FR σ β a.tmps s) (hw : WR P prot σ β h w) : Sim P o a prot σ β w v h' := by
 have r1 := av hx hf
 have r2 := av hi hf
 simp only [ai] at hs
 split at hs
 ·rename_i j hj
  obtain ⟨k, hk⟩ := nz r2 hj
  split at hs
  ·rename_i hj0
   have key : ∀ A u, a.eval x = .pointer (some A) -> h' = h -> v = u -> VR σ β (.pointer (some (A.add (j.toNat * z)))) u -> Sim P o a prot σ β w v h' := by
    intro A u hA e1 e2 hv
    subst e1 e2
    refine nr (rv := .pointer (some (A.add (j.toNat * z)))) hw (m := Instr.indexAt t (a.eval x) (a.eval i)) (by unfold execOp; rw [ho]) ?_ hv
    simp [Instr.indexAt, aw hd, hA, hk, asIntOf, hj0, Instr.sureAddr, db hz]
   split at hs
   ·rename_i id off e1
    rw [e1] at r1
    cases hs
    generalize hX : a.eval x = X at r1
    cases r1 with
    | ptr _ _ L hL hb =>
     refine key _ _ hX rfl rfl ?_
     rw [de rfl]
     exact .ptr id _ L hL hb
   ·rename_i id g q off e1
    rw [e1] at r1
    cases hs
    generalize hX : a.eval x = X at r1
    cases r1 with
    | eptr A _ _ _ _ L hL hb hg hA =>
     refine key _ _ hX rfl rfl (.eptr _ id g q _ L hL hb hg fun e => ?_)
     rw [hA e, de rfl]; grind
   ·rename_i cells e1
    rw [e1] at r1
    cases hs
    generalize hX : a.eval x = X at r1
    cases r1 with
    | rptr A _ fn hs hm hr =>
     refine key _ _ hX rfl rfl ?_
     rw [de hs]
     refine .rptr _ _ (fun q => fn (j.toNat * z + q)) rfl (fun q c hq => ?_) (fun q c hq => ?_)
     ·grind
     grind
   ·cases hs
  ·cases hs
 ·cases hs
theorem pe {t : TypeId} {B : Addr} {n : Nat} {ag : Bool} {cs : List VV} {v : VV} (hB : B.spot = none) (hz : kx P t = some n) (hg : Yh P t = some ag) (h1 : ag = true \/ n = 1)
  (hk : ∀ c ∈ cs, en c = true) (hm : ∀ (j : Nat) (c : VV), cs[j]? = some c -> ∃ x, w.cell? ⟨B.block, B.off + j, none⟩ = some x /\ VR σ β x c) (hl : dm ag n cs = some v) :
  ∃ rv, (loadVar t B).run P w = .ok rv w /\ VR σ β rv v := by
 unfold dm at hl
 split at hl
 ·rename_i hlen
  cases ag with
  | true =>
   simp at hl; subst hl
   refine ⟨.agg ((List.range n).map fun j => (w.cell? ⟨B.block, B.off + j, none⟩).getD undef).toArray, ?_, .agg _ _ (by simp [hlen]) hk (fun i v c hv hc => ?_)⟩
   ·unfold loadVar
    rw [ac (oz hg w)]
    simp only [if_true]
    rw [ac (db hz w), ac (run_loadCells w B n (fun j => (w.cell? ⟨B.block, B.off + j, none⟩).getD undef) fun j hj => ?_)]
    ·rfl
    ·obtain ⟨x, hx, _⟩ := hm j cs[j] (by grind)
     rw [de hB, hx]; rfl
   grind
  | false =>
   simp at hl
   have hn1 : n = 1 := by grind
   subst hn1
   split at hl
   ·cases hl
    obtain ⟨x, hx, hr⟩ := hm 0 v rfl
    refine ⟨x, ?_, hr⟩
    unfold loadVar
    rw [ac (oz hg w)]
    simp only [Bool.false_eq_true, if_false]
    have hx' : w.cell? B = some x := by
     obtain ⟨b, o, sp⟩ := B
     grind
    simp [hx']
   ·cases hl
 ·cases hl
theorem aj9 {o : Oper} {t : TypeId} {x : Operand} {y : Opd} {n : Nat} {ag : Bool} {v : VV} {h' : ae} (ho : o.op = .load t x) (hz : kx P t = some n) (hg : Yh P t = some ag) (h1 : ag = true ∨ n = 1) (hx : opd x = some y)
    (hs : ai h (ad s) (.ld ag n y) = some (v, h')) (hf : FR σ β a.tmps s) (hw : WR P prot σ β h w) : Sim P o a prot σ β w v h' := by
  have r1 := av hx hf
  have key : ∀ B cs, a.eval x = .pointer (some B) → B.spot = none → (∀ c ∈ cs, en c = true) → (∀ (j : Nat) (c : VV), cs[j]? = some c → ∃ x, w.cell? ⟨B.block, B.off + j, none⟩ = some x ∧ VR σ β x c) →
      (dm ag n cs).map (·, h) = some (v, h') → Sim P o a prot σ β w v h' := by
    intro B cs hB hsp hk hm hl
    cases hl2 : dm ag n cs with
    | none => rw [hl2] at hl; cases hl
    | some u =>
      rw [hl2] at hl; cases hl
      obtain ⟨rv, hrun, hv⟩ := pe (P := P) hsp hz hg h1 hk hm hl2
      refine nr (rv := rv) hw (m := Instr.loadAt t (a.eval x)) (by unfold execOp; rw [ho]) ?_ hv
      simp only [Instr.loadAt, hB, Instr.sureAddr]
      grind
  have take_sub : ∀ {α : Type} (l : List α) (off n j : Nat) (c : α), ((l.drop off).take n)[j]? = some c → l[off + j]? = some c := by
    grind
  simp only [ai] at hs
  split at hs
  · rename_i id off e1
    rw [e1] at r1
    split at hs
    · rename_i cells fr hobj
      obtain ⟨L, hL, hO⟩ := hw.obj id _ hobj
      obtain ⟨o1, o2, o3, o4, o5, o6, o7⟩ := hO
      generalize hX : a.eval x = X at r1
      cases r1 with
      | ptr _ _ L' hL' hb =>
        grind
    · cases hs
  · rename_i id g i off e1
    rw [e1] at r1
    split at hs
    · rename_i z els g' fr hobj
      split at hs
      · rename_i hgg
        split at hs
        · rename_i e he
          obtain ⟨L, hL, hO⟩ := hw.obj id _ hobj
          obtain ⟨o1, o2, o3, o4, o5, o6, o7, o8⟩ := hO
          generalize hX : a.eval x = X at r1
          cases r1 with
          | eptr A _ _ _ _ L' hL' hb hg' hA =>
            rw [hL] at hL'; cases hL'
            have hA' := hA (by omega)
            subst hA'
            refine key _ _ hX rfl (fun c hc => ?_) (fun j c hj => ?_) hs
            · simp only [List.mem_map] at hc
              obtain ⟨q, _, rfl⟩ := hc; rfl
            · rw [List.getElem?_map] at hj
              cases hq : ((e.drop off).take n)[j]? with
              | none => grind
              | some q =>
                rw [hq] at hj; cases hj
                obtain ⟨x, hx1, hx2, _⟩ := o8 i e he _ q (take_sub _ _ _ _ _ hq)
                refine ⟨x, ?_, .cv _ _ hx2⟩
                grind
        · cases hs
      · cases hs
    · cases hs
  · rename_i cells e1
    rw [e1] at r1
    generalize hX : a.eval x = X at r1
    cases r1 with
    | rptr A _ fn hs' hm hr =>
      refine key _ _ hX hs' (fun c hc => ?_) (fun j c hj => ?_) hs
      · simp only [List.mem_map] at hc
        obtain ⟨q, _, rfl⟩ := hc; rfl
      · rw [List.getElem?_map] at hj
        cases hq : (cells.take n)[j]? with
        | none => grind
        | some q =>
          rw [hq] at hj; cases hj
          rw [List.getElem?_take] at hq
          split at hq
          · exact ⟨fn j, hw.stab _ _ (hm j q hq), .cv _ _ (hr j q hq)⟩
          · cases hq
  · cases hs
theorem ae0 {o : Oper} {t e : TypeId} {x : Operand} {lo hi : Option Operand} {x' : Opd} {lo' hi' : Option Opd} {n z : Nat} {v : VV} {h' : ae} (ho : o.op = .slice t x lo hi none) (hd : P.underlying t = some (.array n e)) (hz : kx P e = some z) (hz0 : 0 < z)
  (hx : opd x = some x') (hlo : Cr lo = some lo') (hhi : Cr hi = some hi')
  (hs : ai h (ad s) (.slA n z x' lo' hi') = some (v, h')) (hf : FR σ β a.tmps s) (hw : WR P prot σ β h w) : Sim P o a prot σ β w v h' := by
 have r1 := av hx hf
 simp only [ai] at hs
 split at hs
 ·rename_i id off e1
  rw [e1] at r1
  split at hs
  ·rename_i b hb
   split at hs
   ·rename_i l hl
    split at hs
    ·rename_i cells fr hobj
     split at hs
     ·rename_i hsz
      cases hs
      obtain ⟨h1, h2, h3⟩ := lu (P := P) (isSlice := false) hlo hhi hf hb hl (Nat.le_refl n) w
      obtain ⟨L, hL, hO⟩ := hw.obj id _ hobj
      obtain ⟨o1, o2, o3, o4, o5, o6, o7⟩ := hO
      generalize hX : a.eval x = X at r1
      cases r1 with
      | ptr _ _ L' hL' hb' =>
       rw [hL] at hL'; cases hL'
       refine nr (rv := .slice (some (if n = l then ⟨L.blk, off, none⟩ else (⟨L.blk, off, none⟩ : Addr).add (l * z))) (b - l) (n - l)) hw (m := Instr.sliceAt t (a.eval x) (lo.map a.eval) (hi.map a.eval) none) (by unfold execOp; rw [ho]; rfl) ?_ ?_
       ·simp [Instr.sliceAt, aw hd, hX, Instr.sureAddr, h3, db hz]
       ·refine .ob _ _ id _ _ z _ L hL o1 ?_ ?_ ?_ ?_ (by omega) (fun e => ?_) hz0
        ·split
         ·rfl
         ·rw [de rfl]
        ·split
         ·rfl
         ·rw [de rfl]
        ·split
         ·left; omega
         ·right; rw [de rfl]
        ·rw [o4]
         have : off + l * z + (n - l) * z = off + n * z := by
          rw [Nat.add_assoc, <- Nat.add_mul]; grind
         omega
        grind
     ·cases hs
    ·cases hs
   ·cases hs
  ·cases hs
 ·cases hs
theorem agv {o : Oper} {t e : TypeId} {x : Operand} {lo hi mx : Option Operand} {x' : Opd} {lo' hi' mx' : Option Opd} {z : Nat} {v : VV} {h' : ae} (ho : o.op = .slice t x lo hi mx) (hd : P.underlying t = some (.slice e)) (hz : kx P e = some z) (hz0 : 0 < z)
    (hx : opd x = some x') (hlo : Cr lo = some lo') (hhi : Cr hi = some hi') (hmx : Cr mx = some mx') (hmh : mx.isSome = true → hi.isSome = true)
    (hs : ai h (ad s) (.slL z x' lo' hi' mx') = some (v, h')) (hf : FR σ β a.tmps s) (hw : WR P prot σ β h w) : Sim P o a prot σ β w v h' := by
  have r1 := av hx hf
  simp only [ai] at hs
  split at hs
  · rename_i n hn
    obtain ⟨A0, cap0, hA0, hcap0⟩ := vh r1 hn
    split at hs
    · rename_i b hb
      split at hs
      · rename_i l hl
        split at hs
        · rename_i m hm
          split at hs
          · cases hs
          · rename_i hmb
            -- what the machine does
            have hrun : ∃ M, l ≤ b ∧ b ≤ n ∧ b ≤ M ∧ M ≤ cap0 ∧ (mx'.isSome = true → M = b) ∧ (mx'.isSome = false → M = cap0) ∧
                (Instr.sliceAt t (a.eval x) (lo.map a.eval) (hi.map a.eval) (mx.map a.eval)).run P w = .ok (.slice (if M = l then A0 else A0.map (·.add (l * z))) (b - l) (M - l)) w := by
              by_cases hmm : mx'.isSome = true
              · have hmb' : m = b := by
                  rcases Nat.decEq m b with e | e
                  · exact absurd ⟨hmm, e⟩ hmb
                  · exact e
                have hms := Gv hmx
                obtain ⟨h1, h2, h3⟩ := yu (P := P) hlo hhi hmx hf hb hl hm hmm hmb' (hmh (by rw [← hms]; exact hmm)) hcap0 w
                refine ⟨b, h1, h2, Nat.le_refl _, by omega, fun _ => rfl, fun e => (by rw [hmm] at e; cases e), ?_⟩
                simp [Instr.sliceAt, aw hd, hA0, Instr.slice, h3, db hz]
              · have hmm' : mx'.isSome = false := by simpa using hmm
                have hms := Gv hmx
                have hmx0 : mx = none := by cases mx <;> simp_all
                subst hmx0
                obtain ⟨h1, h2, h3⟩ := lu (P := P) (isSlice := true) hlo hhi hf hb hl hcap0 w
                refine ⟨cap0, h1, h2, by omega, Nat.le_refl _, fun e => (by rw [hmm'] at e; cases e), fun _ => rfl, ?_⟩
                simp [Instr.sliceAt, aw hd, hA0, Instr.slice, h3, db hz]
            obtain ⟨M, k1, k2, k3, k4, k5, k6, hrun⟩ := hrun
            have key : ∀ u, h' = h → v = u → VR σ β (.slice (if M = l then A0 else A0.map (·.add (l * z))) (b - l) (M - l)) u → Sim P o a prot σ β w v h' := by
              intro u e1 e2 hv
              subst e1 e2
              exact nr hw (m := Instr.sliceAt t (a.eval x) (lo.map a.eval) (hi.map a.eval) (mx.map a.eval)) (by unfold execOp; rw [ho]) hrun hv
            have hex : ∀ ex : Bool, (ex = true → cap0 = n) → (mx'.isSome || (ex && b == n)) = true → M - l = b - l := by
              intro ex he h
              by_cases hmm : mx'.isSome = true
              · rw [k5 hmm]
              · have hmm' : mx'.isSome = false := by simpa using hmm
                rw [hmm'] at h
                simp at h
                rw [k6 hmm', he h.1, h.2]
            split at hs
            · rename_i e1
              rw [e1] at r1
              have q := bu r1
              rw [hA0] at q
              cases q
              cases hs
              refine key _ rfl rfl ?_
              have : M = 0 ∧ l = 0 ∧ b = 0 := by omega
              obtain ⟨rfl, rfl, rfl⟩ := this
              exact .sc rfl
            · rename_i z' els ex e1
              rw [e1] at r1 hn
              split at hs
              · rename_i hzz; subst hzz
                cases hs
                refine key _ rfl rfl ?_
                generalize hX : a.eval x = X at r1
                cases r1 with
                | cv _ _ h1 => cases h1 with
                  | sl A cap _ _ _ fn hs' hc hx hz' hll hm' hr =>
                    rw [hX] at hA0
                    cases hA0
                    have hlen : ((els.drop l).take (b - l)).length = b - l := by simp; omega
                    refine .cv _ _ ?_
                    have := CR.sl (σ := σ) (if M = l then A else A.add (l * z')) (M - l) z' ((els.drop l).take (b - l)) (mx'.isSome || (ex && b == els.length)) (fun i j => fn (l + i) j) ?_ (by omega) (fun e => by rw [hlen]; exact hex ex hx e) hz' (fun e he => hll e (List.mem_of_mem_drop (List.mem_of_mem_take he))) ?_ ?_
                    · rw [hlen] at this
                      split
                      · rename_i e; rw [if_pos e] at this; exact this
                      · rename_i e; rw [if_neg e] at this; exact this
                    · rcases hs' with h0 | hs'
                      · left; omega
                      · right
                        split
                        · exact hs'
                        · rw [de hs']
                    · intro i e hi j c hj
                      rw [List.getElem?_take] at hi
                      split at hi
                      · rename_i hlt
                        rw [List.getElem?_drop] at hi
                        have hs0 : A.spot = none := hs'.resolve_left (by omega)
                        rw [if_neg (by omega), de hs0, ← hm' _ e hi j c hj]
                        congr 2
                        simp only [Nat.add_mul]; omega
                      · cases hi
                    · intro i e hi j c hj
                      rw [List.getElem?_take] at hi
                      split at hi
                      · rw [List.getElem?_drop] at hi
                        exact hr _ e hi j c hj
                      · cases hi
              · cases hs
            · rename_i id g off len ex e1
              rw [e1] at r1 hn
              cases hn
              split at hs
              · rename_i z' els g' fr hobj
                split at hs
                · rename_i hcond
                  obtain ⟨hzz, hg⟩ := hcond
                  subst hzz
                  cases hs
                  refine key _ rfl rfl ?_
                  obtain ⟨L, hL, hO⟩ := hw.obj id _ hobj
                  obtain ⟨o1, o2, o3, o4, o5, o6, o7, o8⟩ := hO
                  generalize hX : a.eval x = X at r1
                  cases r1 with
                  | own A cap _ _ _ _ _ L' hL' hb' hg' hA hc hx =>
                    rw [hX] at hA0
                    cases hA0
                    rw [hL] at hL'; cases hL'
                    have : (if M = l then some A else (some A).map (·.add (l * z'))) = some (if M = l then A else A.add (l * z')) := by split <;> rfl
                    rw [this]
                    refine .own _ _ id g _ _ _ L hL hb' hg' (fun e => ?_) (by omega) (hex ex hx)
                    obtain ⟨a1, a2, a3, a4⟩ := hA e
                    refine ⟨?_, ?_, ?_, ?_⟩
                    · split
                      · exact a1
                      · rw [de a1]
                    · split
                      · exact a2
                      · rw [de a1]; exact a2
                    · split
                      · left; omega
                      · right
                        rw [de a1]
                        rcases a3 with a3 | a3
                        · omega
                        · simp only [a3, o3, Nat.add_mul]; omega
                    · have : L.boff + (off + l + (M - l)) * L.z ≤ L.boff + (off + cap0) * L.z := Nat.add_le_add_left (Nat.mul_le_mul_right _ (by omega)) _
                      omega
                · cases hs
              · cases hs
            · rename_i id off len z' ex e1
              rw [e1] at r1 hn
              cases hn
              split at hs
              · rename_i hzz; subst hzz
                cases hs
                refine key _ rfl rfl ?_
                generalize hX : a.eval x = X at r1
                cases r1 with
                | ob A cap _ _ _ _ _ L hL hb' hs' hB hA hcs hc hx hz' =>
                  rw [hX] at hA0
                  cases hA0
                  have : (if M = l then some A else (some A).map (·.add (l * z'))) = some (if M = l then A else A.add (l * z')) := by split <;> rfl
                  rw [this]
                  refine .ob _ _ id _ _ z' _ L hL hb' ?_ ?_ ?_ ?_ (by omega) (hex ex hx) hz'
                  · split
                    · exact hs'
                    · rw [de hs']
                  · split
                    · exact hB
                    · rw [de hs']; exact hB
                  · split
                    · left; omega
                    · right
                      rw [de hs']
                      rcases hA with hA | hA
                      · omega
                      · simp only [hA]
                  · have h1 : off + l * z' + (M - l) * z' = off + M * z' := by
                      rw [Nat.add_assoc, ← Nat.add_mul]; congr 2; omega
                    have h2 : M * z' ≤ cap0 * z' := Nat.mul_le_mul_right _ k4
                    omega
              · cases hs
            · cases hs
        · cases hs
      · cases hs
    · cases hs
  · cases hs
end Go.Vm
/-
 Vm: the jk steps are the machine's (own work), sixth part: closing, new memory, stores.
-/
namespace Go.Vm
open Go Go.RowKit
variable {P : Program} {prot : Nat -> Prop} {σ : gq} {β : Nat -> Option Loc} {h : ae} {w : World} {a : Act} {s : List VV}
theorem Nl {l : List VO} {i : Nat} {x y : VO} (h : l[i]? = some x) : (l.set i y)[i]? = some y := by
 grind
theorem Pd {v : Value} {u : VV} {c : CV} {h' : ae} (hw : WR P prot σ β h w) (hr : VR σ β v u) (hc : clos h u = some (c, h')) :
  ∃ σ', Fut prot σ β w σ' β w /\ WR P prot σ' β h' w /\ CR σ' v c := by
 unfold clos at hc
 split at hc
 ·cases hc
  cases hr with
  | cv _ _ h1 => exact ⟨σ, .refl, hw, h1⟩
 ·rename_i id g off len ex
  split at hc
  ·rename_i z els g' fr ho
   split at hc
   ·rename_i hcond
    obtain ⟨hg, hb⟩ := hcond
    cases hc
    obtain ⟨σ', hF, hW⟩ := hw.freeze id ho
    refine ⟨σ', hF, hW, ?_⟩
    obtain ⟨L, hL, hO⟩ := hW.obj id _ (Nl ho)
    obtain ⟨o1, o2, o3, o4, o5, o6, o7, o8⟩ := hO
    cases hr with
    | own A cap _ _ _ _ _ L' hL' hb' hg' hA hc' hx =>
     rw [hL] at hL'; cases hL'
     obtain ⟨a1, a2, a3, a4⟩ := hA (by omega)
     have hlen : ((els.drop off).take len).length = len := by simp; omega
     have cell : ∀ i e, ((els.drop off).take len)[i]? = some e -> ∀ j c, e[j]? = some c -> ∃ x, σ' ⟨A.block, A.off + i * z + j, none⟩ = some x /\ CR σ' x c := by
      grind
     have := CR.sl (σ := σ') A cap z ((els.drop off).take len) ex (fun i j => (σ' ⟨A.block, A.off + i * z + j, none⟩).getD undef) (.inr a1) (by omega) (fun e => by grind) o4 (fun e he => o5 e (List.mem_of_mem_drop (List.mem_of_mem_take he)))
      (fun i e hi j c hj => by grind) (fun i e hi j c hj => by grind)
     grind
   ·cases hc
  ·cases hc
 ·rename_i id off len z ex
  split at hc
  ·rename_i cells fr ho
   split at hc
   ·rename_i cs hcs
    split at hc
    ·rename_i hlen
     cases hc
     have hcl := Hc hcs
     obtain ⟨σ', hF, hW⟩ := hw.freeze id ho
     refine ⟨σ', hF, hW, ?_⟩
     obtain ⟨L, hL, hO⟩ := hW.obj id _ (Nl ho)
     obtain ⟨o1, o2, o3, o4, o5, o6, o7⟩ := hO
     cases hr with
     | ob A cap _ _ _ _ _ L' hL' hb' hs hB hA hcs' hc' hx hz' =>
      rw [hL] at hL'; cases hL'
      have hlen' := lc z len cs
      have cell : ∀ i e, (mm z len cs)[i]? = some e -> ∀ j c, e[j]? = some c -> ∃ x, σ' ⟨A.block, A.off + i * z + j, none⟩ = some x /\ CR σ' x c := by
       intro i e hi j c hj
       obtain ⟨h1, h2⟩ := wx hi hj
       obtain ⟨h3, _⟩ := ky hi
       have h4 : ((cells.drop off).take (len * z))[i * z + j]? = some (.cv c) := by grind
       rw [List.getElem?_take] at h4
       split at h4
       ·rw [List.getElem?_drop] at h4
        obtain ⟨x, hx1, hx2, hx3⟩ := o7 _ _ h4
        have hcr : CR σ' x c := by cases hx2; assumption
        grind
       ·cases h4
      have := CR.sl (σ := σ') A cap z (mm z len cs) ex (fun i j => (σ' ⟨A.block, A.off + i * z + j, none⟩).getD undef) (.inr hs) (by omega) (fun e => by grind) hz' (Bf hlen)
       (fun i e hi j c hj => by grind) (fun i e hi j c hj => by grind)
      grind
    ·cases hc
   ·cases hc
  ·cases hc
 ·cases hc
theorem Ac {us : List VV} : ∀ {σ : gq} {h : ae} {vs : List Value} {cs : List CV} {h' : ae}, WR P prot σ β h w -> vs.length = us.length -> (∀ (i : Nat) (v : Value) (u : VV), vs[i]? = some v -> us[i]? = some u -> VR σ β v u) -> vr h us = some (cs, h') ->
  ∃ σ', Fut prot σ β w σ' β w /\ WR P prot σ' β h' w /\ cs.length = us.length /\ ∀ (i : Nat) (v : Value) (c : CV), vs[i]? = some v -> cs[i]? = some c -> CR σ' v c := by
 induction us with
 | nil =>
  intro σ h vs cs h' hw hl hr hc
  cases hc
  exact ⟨σ, .refl, hw, rfl, fun i v c hv hc => by simp at hc⟩
 | cons u us ih =>
  intro σ h vs cs h' hw hl hr hc
  cases vs with
  | nil => simp at hl
  | cons v vs =>
   simp only [vr] at hc
   split at hc
   ·rename_i c1 h1 e1
    split at hc
    ·rename_i cs1 h2 e2
     cases hc
     obtain ⟨σ1, hF1, hW1, hR1⟩ := Pd hw (hr 0 v u rfl rfl) e1
     obtain ⟨σ2, hF2, hW2, hlen, hR2⟩ := ih hW1 (by simpa using hl) (fun i v u hv hu => (hr (i + 1) v u (by grind) (by grind)).mono hF1) e2
     refine ⟨σ2, hF1.trans hF2, hW2, by simp [hlen], fun i v' c' hv hc => ?_⟩
     cases i with
     | zero => simp at hv hc; subst hv hc; exact hR1.mono hF2.sig
     | succ i => grind
    ·cases hc
   ·cases hc
theorem iw {t : TypeId} {z : List CV} (hz : kh P t = some z) : ∃ i v, P.info? t = some i /\ i.zero = some v /\ v.cells.size = z.length /\ z.length = i.size /\ ∀ (j : Nat) (x : Value) (c : CV), v.cells[j]? = some x -> z[j]? = some c -> ny x = true /\ c = .sc x := by
 unfold kh at hz
 split at hz
 ·rename_i i hi
  split at hz
  ·rename_i v hv
   split at hz
   ·rename_i cs hcs
    split at hz
    ·rename_i hl
     cases hz
     obtain ⟨h1, h2⟩ := Qc hcs
     grind
    ·cases hz
   ·cases hz
  ·cases hz
 ·cases hz
theorem gp {t : TypeId} {i : TypeInfo} {v : Value} (hi : P.info? t = some i) (hv : i.zero = some v) (w : World) : (zeroValue t).run P w = .ok v w := by
 unfold zeroValue
 rw [ac (lf hi w)]
 simp [hv]
theorem Wm {v : Value} {cs : List VV} {t : TypeId} (hw : WR P prot σ β h w) (hn : v.cells.size = cs.length) (hk : ∀ c ∈ cs, en c = true) (hr : ∀ (i : Nat) (x : Value) (c : VV), v.cells[i]? = some x -> cs[i]? = some c -> VR σ β x c) :
  ∃ β', Fut prot σ β w σ β' { w with heap := w.heap.push (.cells v.cells t) } /\ WR P prot σ β' (h ++ [.box cs false]) { w with heap := w.heap.push (.cells v.cells t) } /\
   VR σ β' (.pointer (some ⟨w.heap.size, 0, none⟩)) (.ptr h.length 0) := by
 have hcell : ∀ j x, v.cells[j]? = some x -> ({ w with heap := w.heap.push (.cells v.cells t) } : World).cell? ⟨w.heap.size, j, none⟩ = some x := by
  simp_all
 obtain ⟨β', hF, hW, hβ, hext⟩ := hw.new (w' := { w with heap := w.heap.push (.cells v.cells t) }) ⟨rfl, rfl, rfl⟩ rfl (.box cs false) ⟨w.heap.size, 0, 0, 1, cs.length, true⟩ rfl (by
  intro β' hext
  refine ⟨rfl, rfl, rfl, rfl, hk, ⟨v.cells, t, (0, 0), by simp, hn, .inl rfl⟩, fun j c hj => ?_⟩
  have hlt : j < v.cells.size := by grind
  exact ⟨v.cells[j], hcell _ _ (by simp [hlt]), (hr j _ c (by simp [hlt]) hj).ext hext, fun e => (by cases e)⟩)
 exact ⟨β', hF, hW, .ptr _ _ _ hβ rfl⟩
theorem Xr {o : Oper} {t : TypeId} {z : List CV} {v : VV} {h' : ae} (ho : o.op = .alloc t) (hz : kh P t = some z)
    (hs : ai h (ad s) (.alloc (z.map .cv)) = some (v, h')) (hf : FR σ β a.tmps s) (hw : WR P prot σ β h w) : Sim P o a prot σ β w v h' := by
  obtain ⟨i, zv, hi, hzv, h1, h2, h3⟩ := iw hz
  simp only [ai] at hs
  cases hs
  obtain ⟨β', hF, hW, hV⟩ := Wm (v := zv) (cs := z.map .cv) (t := t) hw (by grind) (fun c hc => by
      simp only [List.mem_map] at hc
      obtain ⟨q, _, rfl⟩ := hc; rfl) (fun j x c hx hc => by
      rw [List.getElem?_map] at hc
      cases hq : z[j]? with
      | none => grind
      | some q =>
        rw [hq] at hc; cases hc
        obtain ⟨e1, rfl⟩ := h3 j x q hx hq
        exact .sc e1)
  refine ⟨_, _, _, _, .inl ?_, hF, hW, hV⟩
  unfold execOp; rw [ho]
  simp only [Instr.alloc]
  rw [ac (x := .pointer (some ⟨w.heap.size, 0, none⟩)) (w1 := { w with heap := w.heap.push (.cells zv.cells t) })]
  · rfl
  · rw [ac (gp hi hzv w)]; rfl
theorem agj {o : Oper} {t : TypeId} {x : Operand} {y : Opd} {n : Nat} {v : VV} {h' : ae} (ho : o.op = .box t x) (hx : opd x = some y)
  (hs : ai h (ad s) (.box n y) = some (v, h')) (hf : FR σ β a.tmps s) (hw : WR P prot σ β h w) : Sim P o a prot σ β w v h' := by
 have r1 := av hx hf
 simp only [ai] at hs
 split at hs
 ·rename_i cs hcs
  split at hs
  ·rename_i hn
   cases hs
   obtain ⟨c1, c2, c3⟩ := we r1 hcs
   obtain ⟨β', hF, hW, hV⟩ := Wm (t := t) hw c1 c2 c3
   refine ⟨_, _, _, _, .inl ?_, hF, hW, hV⟩
   unfold execOp; rw [ho]
   rfl
  ·cases hs
 ·cases hs
def LR (σ : gq) (β : Nat -> Option Loc) (vs : Array Value) (cs : List VV) : Prop := vs.size = cs.length /\ (∀ c ∈ cs, en c = true) /\ ∀ (i : Nat) (x : Value) (c : VV), vs[i]? = some x -> cs[i]? = some c -> VR σ β x c
theorem ik {α : Type} (cells : List α) (off : Nat) (cs : List α) (hb : off + cs.length <= cells.length) (i : Nat) :
  (am cells off cs)[i]? = if off <= i /\ i < off + cs.length then cs[i - off]? else cells[i]? := by
 unfold am
 rw [List.getElem?_append, List.getElem?_append]
 grind
theorem gr {α : Type} (cells : List α) (off : Nat) (cs : List α) (hb : off + cs.length <= cells.length) : (am cells off cs).length = cells.length := by
 unfold am; simp; omega
theorem Pb (off : Nat) : ∀ (l : List (Value × Nat)) (k : Nat) (cs : Array Value), (∀ j, (l[j]?).map (·.2) = if j < l.length then some (k + j) else none) → off + k + l.length ≤ cs.size →
    (l.foldl (fun cs (x : Value × Nat) => cs.setIfInBounds (off + x.2) x.1) cs).size = cs.size ∧
    ∀ i, (l.foldl (fun cs (x : Value × Nat) => cs.setIfInBounds (off + x.2) x.1) cs)[i]? = if off + k ≤ i ∧ i < off + k + l.length then (l[i - (off + k)]?).map (·.1) else cs[i]?
  | [], k, cs, _, _ => ⟨rfl, fun i => by
      grind⟩
  | (x, n) :: l, k, cs, hl, hb => by
    have hn : n = k := by have := hl 0; grind
    subst hn
    obtain ⟨h1, h2⟩ := Pb off l (n + 1) (cs.setIfInBounds (off + n) x) (fun j => by
      have := hl (j + 1)
      grind) (by grind)
    grind
theorem Xp {vs : Array Value} {cs : List VV} {x : Value} {u : VV} {us : List VV} {off : Nat} (hL : LR σ β vs cs) (hr : VR σ β x u) (hu : cellsOf u = some us) (hb : off + us.length <= cs.length) :
  LR σ β (x.cells.zipIdx.foldl (fun cs (c, j) => cs.setIfInBounds (off + j) c) vs) (am cs off us) := by
 obtain ⟨l1, l2, l3⟩ := hL
 obtain ⟨c1, c2, c3⟩ := we hr hu
 have hz : x.cells.zipIdx.foldl (fun cs (c, j) => cs.setIfInBounds (off + j) c) vs = x.cells.toList.zipIdx.foldl (fun cs (x : Value × Nat) => cs.setIfInBounds (off + x.2) x.1) vs := by
  rw [<- Array.foldl_toList]; simp
 rw [hz]
 have hzl : x.cells.toList.zipIdx.length = us.length := by simp [c1]
 obtain ⟨h1, h2⟩ := Pb off x.cells.toList.zipIdx 0 vs (fun j => by
  grind) (by omega)
 refine ⟨by rw [h1, gr _ _ _ hb, l1], fun c hc => ?_, fun i v c hv hc => ?_⟩
 ·unfold am at hc
  grind
 ·rw [h2] at hv
  rw [ik _ _ _ hb] at hc
  grind
end Go.Vm
/-
 Vm: the jk steps are the machine's (own work), seventh part: structs and slices built, made, stores.
-/
namespace Go.Vm
open Go Go.RowKit
variable {P : Program} {prot : Nat -> Prop} {σ : gq} {β : Nat -> Option Loc} {h : ae} {w : World} {a : Act} {s : List VV}
inductive PR (place : Nat -> Option (Nat × Nat)) : List (Nat × Operand) -> List (Nat × Nat × Opd) -> Prop
 | nil : PR place [] []
 | cons {i : Nat} {x : Operand} {off sz : Nat} {y : Opd} {ps : List (Nat × Operand)} {qs : List (Nat × Nat × Opd)} (h1 : place i = some (off, sz)) (h2 : opd x = some y) (h : PR place ps qs) : PR place ((i, x) :: ps) ((off, sz, y) :: qs)
theorem Hm {place : Nat -> Option (Nat × Nat)} {ps : List (Nat × Operand)} {qs : List (Nat × Nat × Opd)} (hp : PR place ps qs) (hf : FR σ β a.tmps s) : ∀ {vs : Array Value} {cs cs' : List VV}, LR σ β vs cs ->
  fill cs (qs.map fun p => (p.1, p.2.1, ad s p.2.2)) = some cs' -> ∃ vs', Instr.fill place vs (ps.map fun p => (p.1, a.eval p.2)) = some vs' /\ LR σ β vs' cs' := by
 induction hp with
 | nil => intro vs cs cs' hL hc; cases hc; exact ⟨vs, rfl, hL⟩
 | @cons i x off sz y ps qs h1 h2 hp ih =>
  intro vs cs cs' hL hc
  simp only [List.map_cons, fill] at hc
  split at hc
  ·rename_i us hu
   split at hc
   ·rename_i hcond
    obtain ⟨e1, e2⟩ := hcond
    have hr := av h2 hf
    obtain ⟨c1, c2, c3⟩ := we hr hu
    have hb : off + us.length <= cs.length := by omega
    obtain ⟨vs', g1, g2⟩ := ih (Xp hL hr hu hb) hc
    refine ⟨vs', ?_, g2⟩
    simp only [List.map_cons, Instr.fill, h1]
    split
    ·rename_i hbad
     simp at hbad
     have := hL.1
     omega
    ·exact g1
   ·cases hc
  ·cases hc
theorem Dw {fields : Array Field} : ∀ {ps : List (Nat × Operand)} {qs : List (Nat × Nat × Opd)}, Iy P fields ps = some qs -> PR (fun i => (fields[i]?).bind fun f => (kx P f.type).map fun n => (f.offset, n)) ps qs
 | [], qs, h => by cases h; exact .nil
 | (i, x) :: r, qs, h => by
  simp only [Iy] at h
  split at h
  ·rename_i f hf
   split at h
   ·rename_i n y l e1 e2 e3
    cases h
    exact .cons (by simp [hf, e1]) e2 (Dw e3)
   ·cases h
  ·cases h
theorem wv {z : Nat} : ∀ {ps : List (Nat × Operand)} {qs : List (Nat × Nat × Opd)}, Bp z ps = some qs -> PR (fun i => some (i * z, z)) ps qs
 | [], qs, h => by cases h; exact .nil
 | (i, x) :: r, qs, h => by
  simp only [Bp] at h
  split at h
  ·rename_i y l e2 e3
   cases h
   exact .cons rfl e2 (wv e3)
  ·cases h
theorem Dc : ∀ (l : List Field), (∀ f ∈ l, (kx P f.type).isSome = true) -> ∀ (w : World), (l.mapM (fun (f : Field) => do pure (f.offset, <- sizeOf f.type)) : Sem (List (Nat × Nat))).run P w = .ok (l.map fun f => (f.offset, (kx P f.type).getD 0)) w
 | [], _, w => rfl
 | f :: l, h, w => by
  obtain ⟨n, hn⟩ := Option.isSome_iff_exists.1 (h f (by simp))
  have h1 : ((do pure (f.offset, <- sizeOf f.type)) : Sem (Nat × Nat)).run P w = .ok (f.offset, n) w := by rw [ac (db hn w)]; rfl
  rw [List.mapM_cons, ac h1, ac (Dc l (fun g hg => h g (by simp [hg])) w)]
  simp [hn]
theorem Vg {z : List CV} {zv : Value} (h1 : zv.cells.size = z.length) (h3 : ∀ (j : Nat) (x : Value) (c : CV), zv.cells[j]? = some x -> z[j]? = some c -> ny x = true /\ c = .sc x) : LR σ β zv.cells (z.map .cv) := by
 refine ⟨by grind, fun c hc => ?_, fun j x c hx hc => ?_⟩
 ·simp only [List.mem_map] at hc
  obtain ⟨q, _, rfl⟩ := hc; rfl
 ·rw [List.getElem?_map] at hc
  cases hq : z[j]? with
  | none => grind
  | some q =>
   rw [hq] at hc; cases hc
   obtain ⟨e1, rfl⟩ := h3 j x q hx hq
   exact .sc e1
theorem LR.agg {vs : Array Value} {cs : List VV} (h : LR σ β vs cs) : VR σ β (.agg vs) (.agg cs) := .agg _ _ h.1 h.2.1 h.2.2
theorem Rf {o : Oper} {t : TypeId} {parts : Array (Nat × Operand)} {fields : Array Field} {z : List CV} {l : List (Nat × Nat × Opd)} {v : VV} {h' : ae} (ho : o.op = .build t parts) (hz : kh P t = some z) (hd : P.underlying t = some (.struct fields))
  (hall : fields.toList.all (fun f => (kx P f.type).isSome) = true) (hl : Iy P fields parts.toList = some l)
  (hs : ai h (ad s) (.build (z.map .cv) l) = some (v, h')) (hf : FR σ β a.tmps s) (hw : WR P prot σ β h w) : Sim P o a prot σ β w v h' := by
 obtain ⟨i, zv, hi, hzv, h1, h2, h3⟩ := iw hz
 simp only [ai] at hs
 split at hs
 ·rename_i cs hcs
  cases hs
  obtain ⟨vs', g1, g2⟩ := Hm (Dw hl) hf (Vg h1 h3) hcs
  refine nr hw (m := Instr.build t (parts.map fun (i, x) => (i, a.eval x))) (by unfold execOp; rw [ho]) ?_ g2.agg
  unfold Instr.build
  have hpl : (fields.mapM (fun (f : Field) => do pure (f.offset, <- sizeOf f.type)) : Sem (Array (Nat × Nat))).run P w = .ok (fields.toList.map fun f => (f.offset, (kx P f.type).getD 0)).toArray w := by
   rw [Array.mapM_eq_mapM_toList]
   have := Dc (P := P) fields.toList (fun f hf => by grind) w
   simp_all
  have hfun : (fun (i : Nat) => (fields.toList.map fun (f : Field) => (f.offset, (kx P f.type).getD 0)).toArray[i]?) = (fun (i : Nat) => (fields[i]?).bind fun (f : Field) => (kx P f.type).map fun n => (f.offset, n)) := by
   funext i
   simp only [List.getElem?_toArray, List.getElem?_map, Array.getElem?_toList]
   cases hfi : fields[i]? with
   | none => rfl
   | some f =>
    have hm : f ∈ fields.toList := by
     grind
    obtain ⟨n, hn⟩ := Option.isSome_iff_exists.1 (by simpa using (List.all_eq_true.1 hall f hm))
    simp [hn]
  rw [ac (gp hi hzv w), ac (aw hd w)]
  simp_all
 ·cases hs
theorem Qe {o : Oper} {t e : TypeId} {parts : Array (Nat × Operand)} {n k : Nat} {z : List CV} {l : List (Nat × Nat × Opd)} {v : VV} {h' : ae} (ho : o.op = .build t parts) (hz : kh P t = some z) (hd : P.underlying t = some (.array k e))
  (hn : kx P e = some n) (hl : Bp n parts.toList = some l)
  (hs : ai h (ad s) (.build (z.map .cv) l) = some (v, h')) (hf : FR σ β a.tmps s) (hw : WR P prot σ β h w) : Sim P o a prot σ β w v h' := by
 obtain ⟨i, zv, hi, hzv, h1, h2, h3⟩ := iw hz
 simp only [ai] at hs
 split at hs
 ·rename_i cs hcs
  cases hs
  obtain ⟨vs', g1, g2⟩ := Hm (wv hl) hf (Vg h1 h3) hcs
  refine nr hw (m := Instr.build t (parts.map fun (i, x) => (i, a.eval x))) (by unfold execOp; rw [ho]) ?_ g2.agg
  unfold Instr.build
  rw [ac (gp hi hzv w), ac (aw hd w)]
  simp only []
  rw [ac (db hn w)]
  simp_all
 ·cases hs
theorem pc {z : List CV} : ∀ (len k : Nat), k < len * z.length -> (List.replicate len z).flatten[k]? = z[k % z.length]?
 | 0, k, h => by omega
 | len + 1, k, h => by
  rw [List.replicate_succ, List.flatten_cons, List.getElem?_append]
  split
  ·rename_i hlt; rw [Nat.mod_eq_of_lt hlt]
  ·rename_i hge
   rw [Nat.add_mul] at h
   rw [pc len (k - z.length) (by omega)]
   congr 1
   conv => rhs; rw [show k = (k - z.length) + z.length by omega]
   rw [Nat.add_mod_right]
theorem agx {z : List CV} {zv : Value} {len : Nat} (h1 : zv.cells.size = z.length) (h3 : ∀ (j : Nat) (x : Value) (c : CV), zv.cells[j]? = some x -> z[j]? = some c -> ny x = true /\ c = .sc x) (N : Nat) (hN : N = len * z.length) (zc : Array Value) (hzc : N ≠ 0 -> zc = zv.cells) :
  LR σ β ((Array.range N).map (zc[· % zc.size]!)) (aky len z) := by
 unfold aky
 refine ⟨by simp [hN], fun c hc => ?_, fun j x c hx hc => ?_⟩
 ·simp only [List.mem_map] at hc
  obtain ⟨q, _, rfl⟩ := hc; rfl
 ·have hj : j < N := by grind
  have hzc := hzc (by omega)
  subst hzc
  rw [List.getElem?_map, pc _ _ (by omega)] at hc
  have hz0 : 0 < z.length := by
   grind
  have hm : j % z.length < z.length := Nat.mod_lt _ hz0
  simp [hj] at hx
  rw [h1, getElem!_pos zv.cells (j % z.length) (by omega)] at hx
  cases hq : z[j % z.length]? with
  | none => grind
  | some q =>
   rw [hq] at hc; cases hc
   obtain ⟨e1, rfl⟩ := h3 _ x q (by grind) hq
   exact .sc e1
theorem Gm {C : Array Value} {E : TypeId} {z : Nat} {els : List (List CV)} {len cap : Nat} {w' : World} {fz : Nat × Nat} (own ex : Bool) (hw : WR P prot σ β h w) (hc : Calm w w') (hh : w'.heap = w.heap.push (.cells C E fz)) (hfz : fz.1 = fz.2 \/ (C.size <= fz.1 /\ z = 1))
  (hz : 0 < z) (hl : ∀ e ∈ els, e.length = z) (hlen : els.length = len) (hcap : len <= cap) (hsz : cap * z <= C.size) (hex : ex = true -> cap = len)
  (hm : ∀ (i : Nat) (e : List CV), els[i]? = some e -> ∀ (j : Nat) (c : CV), e[j]? = some c -> ∃ x, C[i * z + j]? = some x /\ CR σ x c) :
  ∃ σ' β', Fut prot σ β w σ' β' w' /\ WR P prot σ' β' (if own then h ++ [.arr z els 0 false] else h) w' /\
   VR σ' β' (.slice (some ⟨w.heap.size, 0, none⟩) len cap) (if own then .own h.length 0 0 len ex else .cv (.sl z els ex)) := by
 have hcell : ∀ j x, C[j]? = some x -> w'.cell? ⟨w.heap.size, j, none⟩ = some x := by
  intro j x hx
  simp [World.cell?, hh, hx]
 cases own with
 | true =>
  obtain ⟨β', hF, hW, hβ, hext⟩ := hw.new hc hh (.arr z els 0 false) ⟨w.heap.size, 0, 0, z, C.size, false⟩ rfl (by
   intro β' hext
   refine ⟨rfl, rfl, rfl, hz, hl, ?_, ⟨C, E, fz, by simp [hh], rfl, hfz⟩, fun i e hi j c hj => ?_⟩
   ·have : els.length * z <= cap * z := Nat.mul_le_mul_right _ (by omega)
    grind
   grind)
  refine ⟨σ, β', hF, hW, ?_⟩
  exact .own _ _ _ _ _ _ _ _ hβ rfl (Nat.le_refl _) (fun _ => ⟨rfl, rfl, .inr (by simp), by grind⟩) hcap hex
 | false =>
  obtain ⟨σ', hF, hW, hnew, hsig⟩ := hw.stay hc hh
  refine ⟨σ', β, hF, hW, .cv _ _ ?_⟩
  have := CR.sl (σ := σ') ⟨w.heap.size, 0, none⟩ cap z els ex (fun i j => (C[i * z + j]?).getD undef) (.inr rfl) (by omega) (fun e => by grind) hz hl
   (fun i e hi j c hj => by grind)
   (fun i e hi j c hj => by obtain ⟨x, hx, hr⟩ := hm i e hi j c hj; rw [hx]; exact hr.mono hsig)
  grind
theorem aaf {o : Oper} {t e : TypeId} {len n : Nat} {parts : Array (Nat × Operand)} {z : List CV} {l : List (Nat × Nat × Opd)} {own : Bool} {v : VV} {h' : ae} (ho : o.op = .buildSlice t len parts) (hd : P.underlying t = some (.slice e)) (hn : kx P e = some n) (hz : kh P e = some z)
  (hn0 : 0 < n) (h24 : len * n <= 2 ^ 24) (hl : Bp n parts.toList = some l)
  (hs : ai h (ad s) (.mksl n len (aky len z) l own) = some (v, h')) (hf : FR σ β a.tmps s) (hw : WR P prot σ β h w) : Sim P o a prot σ β w v h' := by
 obtain ⟨i, zv, hi, hzv, h1, h2, h3⟩ := iw hz
 obtain ⟨i', hi', hin⟩ := pk hn
 rw [hi] at hi'; cases hi'
 have hzl : z.length = n := by omega
 simp only [ai] at hs
 split at hs
 ·rename_i cs hcs
  split at hs
  ·rename_i cc h1' hcc
   have hLR := agx (σ := σ) (β := β) (len := len) h1 h3 (len * n) (by rw [hzl]) (if len * n = 0 then #[] else zv.cells) (fun e => by rw [if_neg e])
   obtain ⟨vs', g1, g2⟩ := Hm (wv hl) hf hLR hcs
   have hvl : vs'.size = cs.length := g2.1
   obtain ⟨σ1, hF1, hW1, hlen1, hR1⟩ := Ac (vs := vs'.toList) hw (by omega) (fun i v u hv hu => g2.2.2 i v u (by grind) hu) hcc
   have hcslen : cs.length = len * n := by
    have key : ∀ {qs : List (Nat × Nat × VV)} {c1 c2 : List VV}, fill c1 qs = some c2 -> c2.length = c1.length := by
     intro qs
     induction qs with
     | nil => intro c1 c2 h; cases h; rfl
     | cons q qs ih =>
      intro c1 c2 h
      obtain ⟨off, sz, u⟩ := q
      simp only [fill] at h
      split at h
      ·split at h
       ·rename_i hc
        rw [ih h, gr _ _ _ (by omega)]
       ·cases h
      ·cases h
    have := key hcs
    rw [this]
    have := hLR.1
    grind
   have hcclen : cc.length = len * n := by omega
   obtain ⟨σ2, β2, hF2, hW2, hV2⟩ := Gm (C := vs') (E := e) (z := n) (els := mm n len cc) (len := len) (cap := len) (w' := { w with heap := w.heap.push (.cells vs' e) }) (fz := (0, 0)) own true hW1 ⟨rfl, rfl, rfl⟩ rfl (.inl rfl) hn0 (Bf hcclen) (lc _ _ _) (Nat.le_refl _) (by omega) (fun _ => rfl)
    (fun i el hi j c hj => by
     obtain ⟨c1, c2⟩ := wx hi hj
     grind)
   have hgo : (execOp a.eval o).run P w = .ok (.value (.slice (some ⟨w.heap.size, 0, none⟩) len len)) { w with heap := w.heap.push (.cells vs' e) } := by
    unfold execOp; rw [ho]
    simp only []
    rw [ac (x := .slice (some ⟨w.heap.size, 0, none⟩) len len) (w1 := { w with heap := w.heap.push (.cells vs' e) })]
    ·rfl
    ·unfold Instr.buildSlice
     rw [ac (aw hd w)]
     simp only []
     rw [ac (db hn w)]
     rw [if_neg (by omega)]
     have hpt : (parts.map fun (i, x) => (i, a.eval x)).toList = parts.toList.map fun p => (p.1, a.eval p.2) := by simp
     by_cases hzero : len * n = 0
     ·rw [if_pos hzero] at g1 |-
      rw [ac (x := #[]) (w1 := w) rfl, hpt, g1]; rfl
     ·rw [if_neg hzero] at g1 |-
      rw [ac (gp hi hzv w), ac (x := zv.cells) (w1 := w) rfl, hpt, g1]; rfl
   cases own with
   | true =>
    simp only [if_true] at hs hW2 hV2
    cases hs
    exact ⟨_, _, σ2, β2, .inl hgo, hF1.trans hF2, hW2, hV2⟩
   | false =>
    simp only [Bool.false_eq_true, if_false] at hs hW2 hV2
    cases hs
    exact ⟨_, _, σ2, β2, .inl hgo, hF1.trans hF2, hW2, hV2⟩
  ·cases hs
 ·cases hs
theorem ad1 {o : Oper} {t e : TypeId} {l c : Operand} {l' c' : Opd} {n by_ : Nat} {z : List CV} {own : Bool} {v : VV} {h' : ae} (ho : o.op = .makeSlice t l c) (hd : P.underlying t = some (.slice e)) (hn : kx P e = some n) (hby : abs P e = some by_) (hz : kh P e = some z)
  (hn0 : 0 < n) (hl : opd l = some l') (hc : opd c = some c')
  (hs : ai h (ad s) (.mks n by_ z l' c' own) = some (v, h')) (hf : FR σ β a.tmps s) (hw : WR P prot σ β h w) : Sim P o a prot σ β w v h' := by
 obtain ⟨i, zv, hi, hzv, h1, h2, h3⟩ := iw hz
 obtain ⟨i', hi', hin⟩ := pk hn
 rw [hi] at hi'; cases hi'
 have hib : i.bytes = by_ := by unfold abs at hby; grind
 have hzl : z.length = n := by omega
 simp only [ai] at hs
 split at hs
 ·rename_i A B hA hB
  obtain ⟨kl, hkl⟩ := nz (av hl hf) hA
  obtain ⟨kc, hkc⟩ := nz (av hc hf) hB
  split at hs
  ·rename_i hcond
   obtain ⟨b1, b2, b3, b4⟩ := hcond
   unfold cz at b3 b4
   have hrun := run_make (P := P) w t e i zv hd hi hzv kl kc A B b1 b2 (by grind) (by omega)
   have hcells : ∀ (q : Nat) (el : List CV), (List.replicate A.toNat z)[q]? = some el -> ∀ (j : Nat) (cc : CV), el[j]? = some cc -> ∃ x, (madeCells zv.cells (B.toNat * i.size))[q * n + j]? = some x /\ CR σ x cc := by
    intro q el hq j cc hj
    rw [List.getElem?_replicate] at hq
    split at hq
    ·rename_i hlt
     cases hq
     have hjn : j < n := by grind
     have hb : q * n + j < B.toNat * i.size := by
      rw [hin]
      have : (q + 1) * n <= B.toNat * n := Nat.mul_le_mul_right _ (by omega)
      grind
     have hmod : (q * n + j) % n = j := by rw [Nat.mul_comm, Nat.mul_add_mod, Nat.mod_eq_of_lt hjn]
     have hjs : j < zv.cells.size := by omega
     obtain ⟨e1, rfl⟩ := h3 j zv.cells[j] cc (by simp [hjs]) hj
     refine ⟨zv.cells[j], ?_, .sc _ e1⟩
     unfold madeCells
     grind
    ·cases hq
   obtain ⟨σ2, β2, hF2, hW2, hV2⟩ := Gm (C := madeCells zv.cells (B.toNat * i.size)) (E := e) (z := n) (els := List.replicate A.toNat z) (len := A.toNat) (cap := B.toNat) (w' := w.alloc (.cells (madeCells zv.cells (B.toNat * i.size)) e)) (fz := (0, 0)) own (decide (A = B)) hw ⟨rfl, rfl, rfl⟩ rfl (.inl rfl) hn0
    (fun el he => by grind) (by simp) (by omega) (by rw [size_madeCells, hin]; omega) (fun e => by grind) hcells
   have hgo : (execOp a.eval o).run P w = .ok (.value (.slice (some ⟨w.heap.size, 0, none⟩) A.toNat B.toNat)) (w.alloc (.cells (madeCells zv.cells (B.toNat * i.size)) e)) := by
    unfold execOp; simp_all
   cases own with
   | true =>
    simp only [if_true] at hs hW2 hV2
    cases hs
    exact ⟨_, _, σ2, β2, .inl hgo, hF2, hW2, hV2⟩
   | false =>
    simp only [Bool.false_eq_true, if_false] at hs hW2 hV2
    cases hs
    exact ⟨_, _, σ2, β2, .inl hgo, hF2, hW2, hV2⟩
  ·cases hs
 ·cases hs
end Go.Vm
/-
 Vm: the jk steps are the machine's (own work), eighth part: stores, copies.
-/
namespace Go.Vm
open Go Go.RowKit
variable {P : Program} {prot : Nat -> Prop} {σ : gq} {β : Nat -> Option Loc} {h : ae} {w : World} {a : Act} {s : List VV}
theorem gb (b : Nat) : ∀ (vs : List Value) (o : Nat) (w : World) (C : Array Value) (E : TypeId) (fz : Nat × Nat), w.heap[b]? = some (.cells C E fz) → o + vs.length ≤ C.size →
    Calm w (w.setCells b o vs) ∧ (w.setCells b o vs).heap.size = w.heap.size ∧ (∀ k, k ≠ b → (w.setCells b o vs).heap[k]? = w.heap[k]?) ∧
    ∃ C', (w.setCells b o vs).heap[b]? = some (.cells C' E fz) ∧ C'.size = C.size ∧ ∀ j, C'[j]? = if o ≤ j ∧ j < o + vs.length then vs[j - o]? else C[j]?
  | [], o, w, C, E, fz, hb, hl => ⟨⟨rfl, rfl, rfl⟩, rfl, fun _ _ => rfl, C, hb, rfl, fun j => by
      grind⟩
  | v :: r, o, w, C, E, fz, hb, hl => by
    have hblt := (Array.getElem?_eq_some_iff.1 hb).1
    have h1 : (w.setCell ⟨b, o, none⟩ v).heap[b]? = some (.cells (C.setIfInBounds o v) E fz) := by
      simp [World.setCell, Array.getElem?_modify, hb]
    have h2 : ∀ k, k ≠ b → (w.setCell ⟨b, o, none⟩ v).heap[k]? = w.heap[k]? := fun k hk => Below.heap_setCell w _ v k hk
    obtain ⟨q1, q2, q3, C', q4, q5, q6⟩ := gb b r (o + 1) (w.setCell ⟨b, o, none⟩ v) (C.setIfInBounds o v) E fz h1 (by grind)
    refine ⟨⟨q1.os, q1.tape, q1.output⟩, by rw [World.setCells, q2]; simp_all, fun k hk => by rw [World.setCells, q3 k hk, h2 k hk], C', by rw [World.setCells]; exact q4, by rw [q5]; simp, fun j => ?_⟩
    grind
theorem px {b o csz : Nat} {vs : List Value} (hB : Blk w b csz) (hl : o + vs.length ≤ csz) (h1 : ∀ v ∈ vs, v.oneCell' = true) :
    (storeCells ⟨b, o, none⟩ vs).run P w = .ok () (w.setCells b o vs) ∧ Calm w (w.setCells b o vs) ∧ (w.setCells b o vs).heap.size = w.heap.size ∧ (∀ k, k ≠ b → (w.setCells b o vs).heap[k]? = w.heap[k]?) ∧ Blk (w.setCells b o vs) b csz ∧
    ∀ j, j < csz → (w.setCells b o vs).cell? ⟨b, j, none⟩ = if o ≤ j ∧ j < o + vs.length then vs[j - o]? else w.cell? ⟨b, j, none⟩ := by
  obtain ⟨C, E, fz, hC, hsz, hfz⟩ := hB
  obtain ⟨q1, q2, q3, C', q4, q5, q6⟩ := gb b vs o w C E fz hC (by omega)
  have hcell : ∀ j, w.cell? ⟨b, j, none⟩ = C[j]? := fun j => by simp [World.cell?, hC]
  have hrun := run_storeCells_cells (P := P) b o vs 0 w (fun j hj => by
      grind) (fun j hj => by
      simp only [World.frozen?, hC]
      grind) h1
  refine ⟨by omega, q1, q2, q3, ⟨C', E, fz, q4, by omega, hfz⟩, fun j hj => ?_⟩
  rw [hcell]
  have : (w.setCells b o vs).cell? ⟨b, j, none⟩ = C'[j]? := by simp [World.cell?, q4]
  rw [this, q6]
theorem wc {b o csz z : Nat} {vs : List Value} (hB : abb w b csz z) (hl : o + vs.length <= csz) : abb (w.setCells b o vs) b csz z := by
 obtain ⟨C, E, fz, hC, hsz, hfz⟩ := hB
 obtain ⟨_, _, _, C', q4, q5, _⟩ := gb b vs o w C E fz hC (by omega)
 exact ⟨C', E, fz, q4, by omega, hfz⟩
theorem Ke {id off : Nat} {cells cs : List VV} {L : Loc} {vs : List Value} (hw : WR P prot σ β h w) (ho : h[id]? = some (.box cells false)) (hL : β id = some L) (hvl : vs.length = cs.length) (hb : off + cs.length <= cells.length)
  (hk : ∀ c ∈ cs, en c = true) (hr : ∀ (i : Nat) (x : Value) (c : VV), vs[i]? = some x -> cs[i]? = some c -> VR σ β x c) :
  ∃ w' β', (storeCells ⟨L.blk, off, none⟩ vs).run P w = .ok () w' /\ Fut prot σ β w σ β' w' /\ WR P prot σ β' (h.set id (.box (am cells off cs) false)) w' := by
 obtain ⟨L0, hL0, hO⟩ := hw.obj id _ ho
 rw [hL] at hL0; cases hL0
 obtain ⟨o1, o2, o3, o4, o5, o6, o7⟩ := hO
 have h1 : ∀ x ∈ vs, x.oneCell' = true := by
  intro x hx
  obtain ⟨i, hi⟩ := List.getElem?_of_mem hx
  have hlt : i < cs.length := by grind
  exact Ps (hr i x cs[i] hi (by simp [hlt])) (hk _ (List.getElem_mem hlt))
 obtain ⟨q1, q2, q3, q4, q5, q6⟩ := px (P := P) (o := off) o6 (by omega) h1
 obtain ⟨β', hF, hW, _, _⟩ := hw.upd q2 id (o' := .box (am cells off cs) false) (L' := L) ho rfl hL (by omega) (fun b _ hb => q4 b hb) (.inl rfl) (.inl rfl) (by
  intro β' hbet hβ hF
  refine ⟨o1, o2, o3, by rw [gr _ _ _ hb]; exact o4, fun c hc => ?_, q5, fun j c hj => ?_⟩
  ·unfold am at hc
   grind
  ·have hjl : j < cells.length := by have := (List.getElem?_eq_some_iff.1 hj).1; rwa [gr _ _ _ hb] at this
   rw [ik _ _ _ hb] at hj
   rw [q6 j (by omega)]
   rw [hvl]
   split at hj
   ·rename_i hin
    rw [if_pos hin]
    have hlt : j - off < vs.length := by omega
    exact ⟨vs[j - off], by simp [hlt], (hr _ _ c (by simp [hlt]) hj).mono' (fun _ _ h => h) hbet, fun e => (by cases e)⟩
   ·rename_i hin
    rw [if_neg hin]
    obtain ⟨x, hx1, hx2, _⟩ := o7 j c hj
    exact ⟨x, hx1, hx2.mono' (fun _ _ h => h) hbet, fun e => (by cases e)⟩)
 grind
theorem Bq {id z g off : Nat} {els els' : List (List CV)} {L : Loc} {vs : List Value} (hw : WR P prot σ β h w) (ho : h[id]? = some (.arr z els g false)) (hL : β id = some L) (hlen : els'.length = els.length) (hl : ∀ e ∈ els', e.length = z)
  (hb : off + vs.length <= els.length * z) (h1 : ∀ x ∈ vs, x.oneCell' = true)
  (hr : ∀ (i : Nat) (e : List CV), els'[i]? = some e -> ∀ (j : Nat) (c : CV), e[j]? = some c -> if off <= i * z + j /\ i * z + j < off + vs.length then ∃ x, vs[i * z + j - off]? = some x /\ CR σ x c else ∃ e0, els[i]? = some e0 /\ e0[j]? = some c) :
  ∃ w' β', (storeCells ⟨L.blk, L.boff + off, none⟩ vs).run P w = .ok () w' /\ Fut prot σ β w σ β' w' /\ WR P prot σ β' (h.set id (.arr z els' g false)) w' := by
 obtain ⟨L0, hL0, hO⟩ := hw.obj id _ ho
 rw [hL] at hL0; cases hL0
 obtain ⟨o1, o2, o3, o4, o5, o6, o7, o8⟩ := hO
 obtain ⟨q1, q2, q3, q4, q5', q6⟩ := px (P := P) (o := L.boff + off) (vs := vs) o7.blk (by omega) h1
 have q5 := wc (vs := vs) (o := L.boff + off) o7 (by omega)
 obtain ⟨β', hF, hW, _, _⟩ := hw.upd q2 id (o' := .arr z els' g false) (L' := L) ho rfl hL (by omega) (fun b _ hb => q4 b hb) (.inl rfl) (.inl rfl) (by
  intro β' hbet hβ hF
  refine ⟨o1, o2, o3, o4, hl, by grind, q5, fun i e hi j c hj => ?_⟩
  have hil : i < els.length := by grind
  have hjl : j < z := by grind
  have hlt : i * z + j < els.length * z := by
   have : (i + 1) * z <= els.length * z := Nat.mul_le_mul_right _ hil
   grind
  grind)
 grind
theorem aiw {o : Oper} {t : TypeId} {x y : Operand} {x' y' : Opd} {n : Nat} {v : VV} {h' : ae} (ho : o.op = .store t x y) (hz : kx P t = some n) (hx : opd x = some x') (hy : opd y = some y')
    (hs : ai h (ad s) (.st n x' y') = some (v, h')) (hf : FR σ β a.tmps s) (hw : WR P prot σ β h w) : Sim P o a prot σ β w v h' := by
  have r1 := av hx hf
  have r2 := av hy hf
  simp only [ai] at hs
  split at hs
  · rename_i cs hcs
    split at hs
    · rename_i hn
      obtain ⟨c1, c2, c3⟩ := we r2 hcs
      have key : ∀ A w', a.eval x = .pointer (some A) → (storeCells A (a.eval y).cells.toList).run P w = .ok () w' → (execOp a.eval o).run P w = .ok .skip w' := by
        intro A w' hA hst
        unfold execOp; rw [ho]
        simp only [hA, Instr.storeAt, Instr.sureAddr]
        rw [ac (x := ()) (w1 := w')]
        · rfl
        · rw [ac (x := A) (w1 := w) rfl]
          unfold storeVar
          rw [ac (db hz w), if_neg (by omega)]
          exact hst
      split at hs
      · rename_i id off e1
        rw [e1] at r1
        split at hs
        · rename_i cells hobj
          split at hs
          · rename_i hb
            cases hs
            generalize hX : a.eval x = X at r1
            cases r1 with
            | ptr _ _ L hL hbx =>
              obtain ⟨w', β', hst, hF, hW⟩ := Ke (P := P) (cs := cs) (off := off) (vs := (a.eval y).cells.toList) hw hobj hL (by omega) (by omega) c2 (fun i x c hx hc => c3 i x c (by grind) hc)
              exact ⟨undef, w', σ, β', .inr ⟨key _ _ hX hst, rfl⟩, hF, hW, .undef _⟩
          · cases hs
        · cases hs
      · rename_i id g i off e1
        rw [e1] at r1
        split at hs
        · rename_i cc h1 hcc
          obtain ⟨σ1, hF1, hW1, hcl, hR1⟩ := Ac (vs := (a.eval y).cells.toList) hw (by omega) (fun i x c hx hc => c3 i x c (by grind) hc) hcc
          split at hs
          · rename_i z els g' hobj
            split at hs
            · rename_i hgg
              split at hs
              · rename_i e he
                split at hs
                · rename_i hb
                  cases hs
                  have r1' := r1.mono hF1
                  generalize hX : a.eval x = X at r1'
                  cases r1' with
                  | eptr A _ _ _ _ L hL hbx hg hA =>
                    obtain ⟨L0, hL0, hO⟩ := hW1.obj id _ hobj
                    rw [hL] at hL0; cases hL0
                    obtain ⟨o1, o2, o3, o4, o5, o6, o7, o8⟩ := hO
                    have hA' := hA (by omega)
                    have hel : e.length = z := o5 e (List.mem_of_getElem? he)
                    have hil := (List.getElem?_eq_some_iff.1 he).1
                    have hccl : cc.length = n := by omega
                    have hvl : (a.eval y).cells.toList.length = n := by simp; omega
                    have hbz : i * z + off + n ≤ els.length * z := by
                      have : (i + 1) * z ≤ els.length * z := Nat.mul_le_mul_right _ hil
                      grind
                    obtain ⟨w', β', hst, hF, hW⟩ := Bq (P := P) (off := i * z + off) (els' := els.set i (am e off cc)) (vs := (a.eval y).cells.toList) hW1 hobj hL (by simp) (by
                        intro q hq
                        rcases List.mem_or_eq_of_mem_set hq with h | h
                        · exact o5 q h
                        · rw [h, gr _ _ _ (by omega)]; exact hel) (by omega) (by
                        intro q hq
                        obtain ⟨j, hj⟩ := List.getElem?_of_mem hq
                        have hjl := (List.getElem?_eq_some_iff.1 hj).1
                        have hlt : j < cs.length := by omega
                        exact Ps (c3 j q cs[j] (by grind) (by simp [hlt])) (c2 _ (List.getElem_mem hlt))) (by
                        intro q el hq j c hj
                        rw [List.getElem?_set] at hq
                        split at hq
                        · rename_i hqi
                          subst hqi
                          cases hq
                          rw [ik _ _ _ (by omega)] at hj
                          split at hj
                          · rename_i hin
                            rw [if_pos (by omega)]
                            have hlt : j - off < (a.eval y).cells.toList.length := by omega
                            refine ⟨(a.eval y).cells.toList[j - off], ?_, hR1 _ _ c (List.getElem?_eq_getElem hlt) hj⟩
                            grind
                          grind
                        · rename_i hqi
                          have hel2 : el.length = z := o5 el (List.mem_of_getElem? hq)
                          have hjz : j < z := by grind
                          rw [if_neg]
                          · grind
                          · intro ⟨k1, k2⟩
                            rcases Nat.lt_or_gt_of_ne hqi with hlt | hgt
                            · have : (i + 1) * z ≤ q * z := Nat.mul_le_mul_right _ hlt
                              grind
                            · have : (q + 1) * z ≤ i * z := Nat.mul_le_mul_right _ hgt
                              grind)
                    refine ⟨undef, w', σ1, β', .inr ⟨key _ _ hX ?_, rfl⟩, hF1.trans hF, hW, .undef _⟩
                    grind
                · cases hs
              · cases hs
            · cases hs
          · cases hs
        · cases hs
      · cases hs
    · cases hs
  · cases hs
end Go.Vm
/-
 Vm: the jk steps are the machine's (own work), ninth part: copy, append.
-/
namespace Go.Vm
open Go Go.RowKit
variable {P : Program} {prot : Nat -> Prop} {σ : gq} {β : Nat -> Option Loc} {h : ae} {w : World} {a : Act} {s : List VV}
theorem acf.heap {z : Nat} {v : Value} {els : List (List CV)} {w' : World} (he : acf σ w z v els) (hh : w'.heap = w.heap) : acf σ w' z v els := by
 obtain ⟨A, cap, h1, h2, h3, h4, h5⟩ := he
 refine ⟨A, cap, h1, h2, h3, h4, fun B hB => ⟨(h5 B hB).1, fun i e hi j c hj => ?_⟩⟩
 obtain ⟨x, hx, hr⟩ := (h5 B hB).2 i e hi j c hj
 exact ⟨x, by simpa [World.cell?, hh] using hx, hr⟩
def ani (P : Program) (σ : gq) (w : World) (z : Nat) (x : Value) (new : List (List CV)) : Prop :=
 (∀ w1, (Builtin.lenOf x).run P w1 = .ok new.length w1) /\ ∀ w', w'.heap = w.heap -> ∃ rs, tv σ z new rs /\ ∀ k, k <= new.length -> (Builtin.firstCells z k x).run P w' = .ok (rs.take (k * z)).toArray w'
theorem Js {v : Value} {u : VV} {z : Nat} {new : List (List CV)} (hz : 0 < z) (hr : VR σ β v u) (hw : WR P prot σ β h w) (he : jq h z u = some new) : ani P σ w z v new := by
 unfold jq at he
 split at he
 ·rename_i b
  split at he
  ·rename_i hz1
   subst hz1
   cases he
   have q := bu hr
   subst q
   have hlen : (eB b.data.toList).length = b.size := by simp [eB]
   refine ⟨fun w1 => by rw [hlen]; rfl, fun w' _ => ⟨_, Qo b.data.toList, fun k hk => ?_⟩⟩
   simp only [Builtin.firstCells]
   rw [hlen] at hk
   have : ((b.extract 0 k).data.map fun c => Value.int .u8 c.toNat) = (List.take (k * 1) (b.data.toList.map fun c => Value.int .u8 c.toNat)).toArray := by
    rw [yh]
    grind
   simp_all
  ·cases he
 ·obtain ⟨hE, _⟩ := sj hz hr hw he
  refine ⟨fun w1 => ?_, fun w' hh => ?_⟩
  ·obtain ⟨A, cap, rfl, _⟩ := hE; rfl
  ·obtain ⟨rs, h1, h2⟩ := (hE.heap hh).flat (P := P) hz
   grind
theorem Bv {z : Nat} : ∀ {els : List (List CV)}, (∀ e ∈ els, e.length = z) -> ∀ (q : Nat) (c : CV), els.flatten[q]? = some c -> ∃ (i j : Nat) (e : List CV), els[i]? = some e /\ e[j]? = some c /\ q = i * z + j
 | [], _, q, c, h => by simp at h
 | e :: els, hl, q, c, h => by
  rw [List.flatten_cons, List.getElem?_append] at h
  have he := hl e (by simp)
  split at h
  ·exact ⟨0, q, e, rfl, h, by simp⟩
  ·rename_i hge
   obtain ⟨i, j, e', h1, h2, h3⟩ := Bv (fun e he => hl e (by simp [he])) _ _ h
   refine ⟨i + 1, j, e', by grind, h2, ?_⟩
   grind
theorem tv.at {z : Nat} {els : List (List CV)} {rs : List Value} (hf : tv σ z els rs) (q : Nat) (x : Value) (c : CV) (hx : rs[q]? = some x) (hc : els.flatten[q]? = some c) : CR σ x c := by
 obtain ⟨i, j, e, h1, h2, rfl⟩ := Bv hf.1 q c hc
 obtain ⟨y, hy, hr⟩ := hf.2.2 i e h1 j c h2
 grind
theorem qe {z : Nat} : ∀ {els : List (List CV)}, (∀ e ∈ els, e.length = z) -> els.flatten.length = els.length * z
 | [], _ => by simp
 | e :: els, hl => by
  rw [List.flatten_cons, List.length_append, hl e (by simp), qe (fun e he => hl e (by simp [he])), List.length_cons, Nat.add_mul]; omega
theorem yb {α : Type} (l : List α) (off : Nat) : am l off [] = l := by simp [am]
theorem Gf {l : List VO} {i : Nat} {x : VO} (h : l[i]? = some x) : l.set i x = l := by
 apply List.ext_getElem?
 grind
theorem aen {o : Oper} {c : Call} {t e : TypeId} {tys : List TypeId} {x y : Operand} {x' y' : Opd} {z : Nat} {v : VV} {h' : ae} (ho : o.op = .call c) (hc : c.callee = .builtin .copy) (ha : c.args.toList = [x, y]) (ht : c.argTypes.toList = t :: tys)
    (hd : P.underlying t = some (.slice e)) (hz : kx P e = some z) (hz0 : 0 < z) (hx : opd x = some x') (hy : opd y = some y')
    (hs : ai h (ad s) (.cpy z x' y') = some (v, h')) (hf : FR σ β a.tmps s) (hw : WR P prot σ β h w) : Sim P o a prot σ β w v h' := by
  have r1 := av hx hf
  have r2 := av hy hf
  have hargs : c.args = #[x, y] := by rw [← ha]
  have hty : c.argTypes[0]? = some t := by rw [← Array.getElem?_toList, ht]; rfl
  simp only [ai] at hs
  split at hs
  · rename_i src n hsrc hn
    obtain ⟨A, cap, hA, hcap⟩ := vh r1 hn
    obtain ⟨hl, hsr⟩ := Js (P := P) hz0 r2 hw hsrc
    obtain ⟨rs, hfl, hfc⟩ := hsr w rfl
    have hk : min src.length n ≤ src.length := Nat.min_le_left _ _
    have hfk := hfl.take _ hk
    have hrlen : (rs.take (min src.length n * z)).length = min src.length n * z := by rw [hfk.2.1]; simp
    have key : ∀ w' : World, (∀ B, A = some B → (storeCells B (rs.take (min src.length n * z))).run P w = .ok () w') → (A = none → w' = w) →
        (execOp a.eval o).run P w = .ok (.value (.int .i64 (min src.length n : Nat))) w' := by
      intro w' hst hnone
      unfold execOp; rw [ho]
      simp only [resolve, hc, hargs]
      simp only [Sem.run_bind, Sem.run_pure, Result.andThen_ok, invoke, builtin]
      have hcp : (Builtin.copy_ c.argTypes o.type (#[x, y].map a.eval)).run P w = .ok (goInt (min src.length n : Nat)) w' := by
        unfold Builtin.copy_
        simp only [hty, List.map_toArray, List.map_cons, List.map_nil, List.getElem?_toArray, List.getElem?_cons_zero, List.getElem?_cons_succ]
        rw [ac (aw hd w)]
        simp only [hA]
        rw [ac (hl w), ac (db hz w)]
        have : Nat.min src.length n = min src.length n := rfl
        rw [this, ac (hfc _ hk)]
        cases A with
        | none => rw [hnone rfl]; rfl
        | some B =>
          simp only []
          rw [ac (hst B rfl)]
          rfl
      rw [hcp]; rfl
    have zero : min src.length n = 0 → ∀ B : Addr, (storeCells B (rs.take (min src.length n * z))).run P w = .ok () w := by
      intro e B
      have : rs.take (min src.length n * z) = [] := by rw [e]; simp
      rw [this]; rfl
    split at hs
    · rename_i id g off len ex e1
      rw [e1] at r1 hn
      cases hn
      split at hs
      · rename_i z' els g' hobj
        split at hs
        · rename_i hcond
          obtain ⟨hzz, hgg, hb⟩ := hcond
          subst hzz
          cases hs
          obtain ⟨L, hL, hO⟩ := hw.obj id _ hobj
          obtain ⟨o1, o2, o3, o4, o5, o6, o7, o8⟩ := hO
          by_cases hk0 : min src.length n = 0
          · have : h.set id (.arr z' (am els off (src.take (min src.length n))) g' false) = h := by rw [hk0]; simp only [List.take_zero, yb]; exact Gf hobj
            rw [this]
            exact ⟨_, w, σ, β, .inl (key w (fun B _ => zero hk0 B) (fun _ => rfl)), .refl, hw, .sc rfl⟩
          · generalize hX : a.eval x = X at r1
            cases r1 with
            | own A' cap' _ _ _ _ _ L' hL' hb' hg' hA' hc' hx' =>
              rw [hL] at hL'; cases hL'
              rw [hX] at hA; cases hA
              obtain ⟨a1, a2, a3, a4⟩ := hA' (by rw [o2]; exact hgg)
              have hksl : (src.take (min src.length n)).length = min src.length n := by simp
              have hbz : off * z' + min src.length n * z' ≤ els.length * z' := by rw [← Nat.add_mul]; exact Nat.mul_le_mul_right _ (by omega)
              obtain ⟨w', β', hst, hF, hW⟩ := Bq (P := P) (off := off * z') (els' := am els off (src.take (min src.length n))) (vs := rs.take (min src.length n * z')) hw hobj hL (gr _ _ _ (by rw [hksl]; omega)) (by
                  intro q hq
                  unfold am at hq
                  rw [List.mem_append, List.mem_append] at hq
                  rcases hq with (hq | hq) | hq
                  · exact o5 q (List.mem_of_mem_take hq)
                  · exact hfk.1 q hq
                  · exact o5 q (List.mem_of_mem_drop hq)) (by rw [hrlen]; exact hbz) (fun q hq => hfk.one hz0 q hq) (by
                  intro i el hi j cc hj
                  rw [ik _ _ _ (by rw [hksl]; omega), hksl] at hi
                  rw [hrlen]
                  split at hi
                  · rename_i hin
                    have hjz : j < z' := by rw [← hfk.1 el (List.mem_of_getElem? hi)]; exact (List.getElem?_eq_some_iff.1 hj).1
                    have e1 : i * z' = off * z' + (i - off) * z' := by rw [← Nat.add_mul]; congr 1; omega
                    have e2 : (i - off + 1) * z' ≤ min src.length n * z' := Nat.mul_le_mul_right _ (by omega)
                    rw [Nat.add_mul] at e2
                    rw [if_pos (by omega)]
                    obtain ⟨q, hq1, hq2⟩ := hfk.2.2 _ el hi j cc hj
                    refine ⟨q, ?_, hq2⟩
                    rw [← hq1]; congr 1; omega
                  · rename_i hin
                    have hjz : j < z' := by rw [← o5 el (List.mem_of_getElem? hi)]; exact (List.getElem?_eq_some_iff.1 hj).1
                    rw [if_neg]
                    · exact ⟨el, hi, hj⟩
                    · intro ⟨k1, k2⟩
                      apply hin
                      constructor
                      · rcases Nat.lt_or_ge i off with hlt | hge
                        · have : (i + 1) * z' ≤ off * z' := Nat.mul_le_mul_right _ hlt
                          rw [Nat.add_mul] at this; omega
                        · exact hge
                      · rcases Nat.lt_or_ge i (off + min src.length n) with hlt | hge
                        · exact hlt
                        · have : (off + min src.length n) * z' ≤ i * z' := Nat.mul_le_mul_right _ hge
                          rw [Nat.add_mul] at this; omega)
              refine ⟨_, w', σ, β', .inl (key w' (fun B hB => ?_) (fun e => by cases e)), hF, hW, .sc rfl⟩
              cases hB
              have : A' = ⟨L.blk, L.boff + off * z', none⟩ := by
                obtain ⟨bb, oo, ss⟩ := A'
                simp only at a1 a2 a3
                rcases a3 with a3 | a3
                · omega
                · rw [a1, a2, a3, o3]
              rw [this]; exact hst
        · cases hs
      · cases hs
    · rename_i id off len z' ex e1
      rw [e1] at r1 hn
      cases hn
      split at hs
      · rename_i cells hobj
        split at hs
        · rename_i hcond
          obtain ⟨hzz, hb⟩ := hcond
          subst hzz
          cases hs
          obtain ⟨L, hL, hO⟩ := hw.obj id _ hobj
          obtain ⟨o1, o2, o3, o4, o5, o6, o7⟩ := hO
          by_cases hk0 : min src.length n = 0
          · have : h.set id (.box (am cells off (((src.take (min src.length n)).flatten).map .cv)) false) = h := by rw [hk0]; simp only [List.take_zero, List.flatten_nil, List.map_nil, yb]; exact Gf hobj
            rw [this]
            exact ⟨_, w, σ, β, .inl (key w (fun B _ => zero hk0 B) (fun _ => rfl)), .refl, hw, .sc rfl⟩
          · generalize hX : a.eval x = X at r1
            cases r1 with
            | ob A' cap' _ _ _ _ _ L' hL' hb' hs' hB' hA' hcs' hc' hx' hz' =>
              rw [hL] at hL'; cases hL'
              rw [hX] at hA; cases hA
              have hcl : (((src.take (min src.length n)).flatten).map VV.cv).length = min src.length n * z' := by rw [List.length_map, qe hfk.1]; simp
              have hbz : min src.length n * z' ≤ n * z' := Nat.mul_le_mul_right _ (by omega)
              obtain ⟨w', β', hst, hF, hW⟩ := Ke (P := P) (off := off) (cs := ((src.take (min src.length n)).flatten).map VV.cv) (vs := rs.take (min src.length n * z')) hw hobj hL (by rw [hrlen, hcl]) (by rw [hcl]; omega) (fun q hq => by
                  simp only [List.mem_map] at hq
                  obtain ⟨_, _, rfl⟩ := hq; rfl) (fun i q cc hq hcc => by
                  rw [List.getElem?_map] at hcc
                  cases hqq : (src.take (min src.length n)).flatten[i]? with
                  | none => rw [hqq] at hcc; cases hcc
                  | some q' => rw [hqq] at hcc; cases hcc; exact .cv _ _ (hfk.at i q q' hq hqq))
              refine ⟨_, w', σ, β', .inl (key w' (fun B hB => ?_) (fun e => by cases e)), hF, hW, .sc rfl⟩
              cases hB
              have : A' = ⟨L.blk, off, none⟩ := by
                obtain ⟨bb, oo, ss⟩ := A'
                simp only at hs' hB' hA'
                rcases hA' with hA' | hA'
                · omega
                · rw [hs', hB', hA']
              rw [this]; exact hst
        · cases hs
      · cases hs
    · split at hs
      · split at hs
        · rename_i hk0
          cases hs
          have := key w (fun B _ => zero hk0 B) (fun _ => rfl)
          rw [hk0] at this
          exact ⟨_, w, σ, β, .inl this, .refl, hw, .sc rfl⟩
        · cases hs
      · cases hs
  · cases hs
end Go.Vm
/-
 Vm: the jk steps are the machine's (own work), tenth part: append.
-/
namespace Go.Vm
open Go Go.RowKit
variable {P : Program} {prot : Nat -> Prop} {σ : gq} {β : Nat -> Option Loc} {h : ae} {w : World} {a : Act} {s : List VV}
theorem yj {t t' e ty : TypeId} {d' : TypeDesc} {z n cap m : Nat} {A : Addr} {x : Value} {news : List Value} {w' : World} (ht : P.underlying t = some (.slice e)) (hd' : P.underlying t' = some d') (hni : ∀ k, d' ≠ .int k) (hz : kx P e = some z)
  (hlen : (Builtin.lenOf x).run P w = .ok m w) (hfc : (Builtin.firstCells z m x).run P w = .ok news.toArray w) (hroom : n + m <= cap) (hst : (storeCells (A.add (n * z)) news).run P w = .ok () w') :
  (Builtin.append_ #[t, t'] ty #[.slice (some A) n cap, x]).run P w = .ok (.slice (some A) (n + m) cap) w' := by
 unfold Builtin.append_
 simp only [List.getElem?_toArray, List.getElem?_cons_zero, List.getElem?_cons_succ]
 rw [ac (aw ht w)]
 simp only []
 rw [ac (db hz w), ac (aw hd' w), ac (x := false) (w1 := w) (by simp_all)]
 simp only [Bool.false_eq_true, if_false]
 rw [ac hlen]
 simp_all
theorem Jt {t t' e ty : TypeId} {d' : TypeDesc} {z : Nat} {x : Value} (ht : P.underlying t = some (.slice e)) (hd' : P.underlying t' = some d') (hni : ∀ k, d' ≠ .int k) (hz : kx P e = some z)
  (hlen : (Builtin.lenOf x).run P w = .ok 0 w) (hfc : (Builtin.firstCells z 0 x).run P w = .ok #[] w) :
  (Builtin.append_ #[t, t'] ty #[.slice none 0 0, x]).run P w = .ok (.slice none 0 0) w := by
 unfold Builtin.append_
 simp only [List.getElem?_toArray, List.getElem?_cons_zero, List.getElem?_cons_succ]
 rw [ac (aw ht w)]
 simp only []
 rw [ac (db hz w), ac (aw hd' w), ac (x := false) (w1 := w) (by simp_all)]
 simp only [Bool.false_eq_true, if_false]
 rw [ac hlen]
 simp_all
theorem Jd {t t' e ty : TypeId} {d' : TypeDesc} {i : TypeInfo} {zv : Value} {z n cap m : Nat} {A : Option Addr} {x : Value} {olds news : List Value} (ht : P.underlying t = some (.slice e)) (hd' : P.underlying t' = some d') (hni : ∀ k, d' ≠ .int k) (hi : P.info? e = some i) (hz : i.size = z) (hzv : i.zero = some zv)
  (hlen : (Builtin.lenOf x).run P w = .ok m w) (hfo : (Builtin.firstCells z n (.slice A n cap)).run P w.drew = .ok olds.toArray w.drew) (hfc : (Builtin.firstCells z m x).run P w.drew = .ok news.toArray w.drew) (hroom : cap < n + m) (h63 : n + m <= 2 ^ 45) (hb : (n + m) * i.bytes <= 2 ^ 45) :
  (Builtin.append_ #[t, t'] ty #[.slice A n cap, x]).run P w = .ok (.slice (some ⟨w.heap.size, 0, none⟩) (n + m) (grownCap w (n + m) cap e))
   (w.drew.alloc (.cells (olds.toArray ++ news.toArray ++ Builtin.zeroCells zv.cells (grownCap w (n + m) cap e - (n + m))) e)) := by
 have hzs : kx P e = some z := by unfold kx; grind
 have hfit := growslice_fits (need := n + m) (old := cap) (bytes := i.bytes) hroom (by omega)
 unfold Builtin.append_
 simp only [List.getElem?_toArray, List.getElem?_cons_zero, List.getElem?_cons_succ]
 rw [ac (aw ht w)]
 simp only []
 rw [ac (db hzs w), ac (aw hd' w), ac (x := false) (w1 := w) (by simp_all)]
 simp only [Bool.false_eq_true, if_false]
 rw [ac hlen]
 rw [if_neg (by omega)]
 rw [ac (lf hi w)]
 have h1 : ¬ (((n + m : Nat) : Int) > IntKind.i64.max /\ (False \/ i.bytes = 0)) := by
  rintro ⟨h1, _⟩
  have : IntKind.i64.max = 9223372036854775807 := rfl
  omega
 rw [if_neg h1, ac (lf hi w), if_neg (by omega)]
 rw [ac (x := grownCap w (n + m) cap e) (w1 := w.drew) rfl]
 rw [ac (lf hi w.drew)]
 have hask : ∀ q : Nat, (askRoom q).run P w.drew = .ok () w.drew := by
  simp_all
 rw [ac (hask _), ac hfo]
 simp only [Bool.not_false, if_true]
 rw [ac hfc, ac (gp hi hzv w.drew)]
 rfl
theorem Jr {o : Oper} {c : Call} {t t' : TypeId} {x y : Operand} {rv : Value} {w' : World} (ho : o.op = .call c) (hc : c.callee = .builtin .append) (ha : c.args.toList = [x, y]) (ht : c.argTypes.toList = [t, t'])
  (hr : (Builtin.append_ #[t, t'] o.type #[a.eval x, a.eval y]).run P w = .ok rv w') : (execOp a.eval o).run P w = .ok (.value rv) w' := by
 have hargs : c.args = #[x, y] := by rw [<- ha]
 have htys : c.argTypes = #[t, t'] := by rw [<- ht]
 unfold execOp; rw [ho]
 simp only [resolve, hc, hargs, htys]
 simp only [Sem.run_bind, Sem.run_pure, Result.andThen_ok, invoke, builtin, List.map_toArray, List.map_cons, List.map_nil]
 rw [hr]; rfl
theorem Nj (w : World) (need cap : Nat) (e : TypeId) (olds news : List Value) (zv : Value) (z : Nat) (hz : zv.cells.size = z) (hl : olds.length + news.length = need * z) :
  (olds.toArray ++ news.toArray ++ Builtin.zeroCells zv.cells (grownCap w need cap e - need)).size = grownCap w need cap e * z /\
  ∀ (j : Nat) (x : Value), (olds ++ news)[j]? = some x -> (olds.toArray ++ news.toArray ++ Builtin.zeroCells zv.cells (grownCap w need cap e - need))[j]? = some x := by
 have hge := grownCap_ge w need cap e
 refine ⟨?_, fun j x hx => ?_⟩
 ·simp only [Array.size_append, List.size_toArray, size_zeroCells, hz]
  rw [hl, <- Nat.add_mul]; grind
 grind
theorem Ta {u : VV} {n m cap : Nat} (hr : VR σ β (.slice none m cap) u) (hl : lz u = some n) : m = 0 /\ cap = 0 := by
 unfold lz at hl
 split at hl
 ·have := bu hr
  grind
 ·cases hr with
  | cv _ _ h1 => cases h1
 ·cases hr
 ·cases hr
 ·cases hl
theorem aem {o : Oper} {c : Call} {t t' e : TypeId} {d' : TypeDesc} {x y : Operand} {x' y' : Opd} {z by_ : Nat} {zr : List CV} {v : VV} {h' : ae} (ho : o.op = .call c) (hc : c.callee = .builtin .append) (ha : c.args.toList = [x, y]) (ht : c.argTypes.toList = [t, t'])
    (hd : P.underlying t = some (.slice e)) (hd' : P.underlying t' = some d') (hni : ∀ k, d' ≠ .int k) (hz : kx P e = some z) (hby : abs P e = some by_) (hzr : kh P e = some zr) (hz0 : 0 < z) (hx : opd x = some x') (hy : opd y = some y')
    (hs : ai h (ad s) (.app z by_ zr x' y') = some (v, h')) (hf : FR σ β a.tmps s) (hw : WR P prot σ β h w) : Sim P o a prot σ β w v h' := by
  have r1 := av hx hf
  have r2 := av hy hf
  obtain ⟨i, zv, hi, hzv, z1, z2, z3⟩ := iw hzr
  obtain ⟨i', hi', hin⟩ := pk hz
  rw [hi] at hi'; cases hi'
  have hib : i.bytes = by_ := by unfold abs at hby; rw [hi] at hby; simpa using hby
  have hzc : zv.cells.size = z := by omega
  simp only [ai] at hs
  split at hs
  · rename_i new n hnew hn
    obtain ⟨A, cap, hA, hcap⟩ := vh r1 hn
    obtain ⟨hl, hsr⟩ := Js (P := P) hz0 r2 hw hnew
    split at hs
    · rename_i hmax
      obtain ⟨m1, m2⟩ := hmax
      unfold cz at m1 m2
      -- nothing is appended
      by_cases hn0 : new = []
      · subst hn0
        simp only [if_true] at hs
        split at hs
        · cases hs
          obtain ⟨rs, hfl, hfc⟩ := hsr w rfl
          have hfc0 := hfc 0 (Nat.le_refl _)
          simp only [Nat.zero_mul, List.take_zero] at hfc0
          have hrun : (Builtin.append_ #[t, t'] o.type #[a.eval x, a.eval y]).run P w = .ok (a.eval x) w := by
            rw [hA]
            cases A with
            | none =>
              have : n = 0 ∧ cap = 0 := by
                rw [hA] at r1
                exact Ta r1 hn
              obtain ⟨rfl, rfl⟩ := this
              exact Jt hd hd' hni hz (hl w) hfc0
            | some B =>
              have := yj (P := P) (w := w) (w' := w) (A := B) (n := n) (cap := cap) (m := 0) (news := []) (x := a.eval y) (ty := o.type) hd hd' hni hz (hl w) hfc0 (by omega) rfl
              simpa using this
          exact ⟨_, w, σ, β, .inl (Jr ho hc ha ht hrun), .refl, hw, r1⟩
        · cases hs
      · rw [if_neg hn0] at hs
        have hm0 : 0 < new.length := List.length_pos_iff.2 hn0
        obtain ⟨rs, hfl, hfc⟩ := hsr w rfl
        obtain ⟨rsd, hfld, hfcd⟩ := hsr w.drew rfl
        -- where it must grow: a new row
        have grow : ∀ (els : List (List CV)), els.length = n → acf σ w z (a.eval x) els → cap < n + new.length →
            ∃ w' C, (Builtin.append_ #[t, t'] o.type #[a.eval x, a.eval y]).run P w = .ok (.slice (some ⟨w.heap.size, 0, none⟩) (n + new.length) (grownCap w (n + new.length) cap e)) w' ∧ Calm w w' ∧ w'.heap = w.heap.push (.cells C e (0, 0)) ∧
              C.size = grownCap w (n + new.length) cap e * z ∧ (∀ q ∈ els ++ new, q.length = z) ∧
              ∀ (k : Nat) (el : List CV), (els ++ new)[k]? = some el → ∀ (j : Nat) (cc : CV), el[j]? = some cc → ∃ u, C[k * z + j]? = some u ∧ CR σ u cc := by
          intro els hel hE hlt
          obtain ⟨ro, hfo, hfco⟩ := (hE.heap (w' := w.drew) rfl).flat (P := P) hz0
          have hfo1 := hfco els.length (Nat.le_refl _)
          have hfd1 := hfcd new.length (Nat.le_refl _)
          rw [List.take_of_length_le (by rw [hfo.2.1]; exact Nat.le_refl _)] at hfo1
          rw [List.take_of_length_le (by rw [hfld.2.1]; exact Nat.le_refl _)] at hfd1
          rw [hel, hA] at hfo1
          have hrun := Jd (P := P) (w := w) (ty := o.type) (A := A) (n := n) (cap := cap) (x := a.eval y) hd hd' hni hi hin hzv (hl w) hfo1 hfd1 hlt m2 (by rw [hib]; exact m1)
          have hfa := hfo.append hfld
          obtain ⟨g1, g2⟩ := Nj w (n + new.length) cap e ro rsd zv z hzc (by rw [hfo.2.1, hfld.2.1, ← Nat.add_mul, hel])
          rw [← hA] at hrun
          refine ⟨_, _, hrun, ⟨rfl, rfl, rfl⟩, rfl, g1, hfa.1, fun k el hk j cc hj => ?_⟩
          obtain ⟨u, hu, hr⟩ := hfa.2.2 k el hk j cc hj
          exact ⟨u, g2 _ _ hu, hr⟩
        have hge : n + new.length ≤ grownCap w (n + new.length) cap e := grownCap_ge _ _ _ _
        -- a new object
        have fresh : ∀ (els : List (List CV)), els.length = n → acf σ w z (a.eval x) els → cap < n + new.length → v = .own h.length 0 0 (n + new.length) false → h' = h ++ [.arr z (els ++ new) 0 false] → Sim P o a prot σ β w v h' := by
          intro els hel hE hlt hv hh'
          subst hv hh'
          obtain ⟨w', C, hrun, hcalm, hheap, hcs, hall, hcells⟩ := grow els hel hE hlt
          obtain ⟨σ2, β2, hF2, hW2, hV2⟩ := Gm (C := C) (E := e) (z := z) (els := els ++ new) (len := n + new.length) (cap := grownCap w (n + new.length) cap e) (w' := w') (fz := (0, 0)) true false hw hcalm hheap (.inl rfl) hz0 hall (by rw [List.length_append, hel]) hge (by rw [hcs]; exact Nat.le_refl _) (fun e => by cases e) hcells
          exact ⟨_, w', σ2, β2, .inl (Jr ho hc ha ht hrun), hF2, hW2, hV2⟩
        split at hs
        · rename_i e1
          rw [e1] at r1 hn
          cases hn
          have q := bu r1
          rw [hA] at q; cases q
          cases hs
          refine fresh [] rfl ⟨none, 0, hA, Nat.le_refl _, fun e he => (by simp at he), fun _ => rfl, fun B hB => by cases hB⟩ (by omega) (by simp) (by simp)
        · rename_i z' els e1
          split at hs
          · rename_i hzz; subst hzz
            have hels : gi h z' (ad s x') = some els := by rw [e1]; simp [gi]
            obtain ⟨hE, hlen⟩ := sj hz0 r1 hw hels
            rw [hn] at hlen; cases hlen
            cases hs
            rw [e1] at r1
            generalize hX : a.eval x = X at r1
            cases r1 with
            | cv _ _ h1 => cases h1 with
              | sl A' cap' _ _ _ fn hs' hc' hx' hz' hl' hm hr =>
                rw [hX] at hA; cases hA
                exact fresh els rfl (by rw [hX]; rw [hX] at hE; exact hE) (by rw [hx' rfl]; omega) rfl rfl
          · cases hs
        · rename_i id g off len ex e1
          split at hs
          · rename_i z' els g' fr hobj
            split at hs
            · rename_i hcond
              obtain ⟨hzz, hgg, hb⟩ := hcond
              subst hzz
              have hels : gi h z' (ad s x') = some ((els.drop off).take len) := by rw [e1]; simp [gi, hobj, hgg, hb]
              obtain ⟨hE, hlen⟩ := sj hz0 r1 hw hels
              rw [hn] at hlen
              have hel : ((els.drop off).take len).length = n := by simpa using hlen.symm
              rw [e1] at hn
              have hnl : n = len := by simp [lz] at hn; exact hn.symm
              subst hnl
              obtain ⟨L, hL, hO⟩ := hw.obj id _ hobj
              obtain ⟨o1, o2, o3, o4, o5, o6, o7, o8⟩ := hO
              rw [e1] at r1
              cases ex with
              | true =>
                simp only [if_true] at hs
                generalize hX : a.eval x = X at r1
                cases r1 with
                | own A' cap' _ _ _ _ _ L' hL' hb' hg' hA' hc' hx' =>
                  rw [hX] at hA; cases hA
                  cases hs
                  exact fresh _ hel hE (by rw [hx' rfl]; omega) rfl rfl
              | false =>
                simp only [Bool.false_eq_true, if_false] at hs
                cases fr with
                | true => simp at hs
                | false =>
                  simp only [Bool.false_eq_true, if_false] at hs
                  cases hs
                  generalize hX : a.eval x = X at r1
                  cases r1 with
                  | own A' cap' _ _ _ _ _ L' hL' hb' hg' hA' hc' hx' =>
                    rw [hL] at hL'; cases hL'
                    rw [hX] at hA; cases hA
                    obtain ⟨a1, a2, a3, a4⟩ := hA' (by rw [o2]; exact hgg)
                    by_cases hroom : n + new.length ≤ cap
                    · -- in its place
                      have hcap0 : cap ≠ 0 := by omega
                      have hA3 : A'.off = L.boff + off * z' := by
                        rcases a3 with a3 | a3
                        · exact absurd a3 hcap0
                        · rw [a3, o3]
                      have hadr : A'.add (n * z') = ⟨L.blk, L.boff + off * z' + n * z', none⟩ := by rw [de a1, a2, hA3]
                      have hrl : rs.length = new.length * z' := hfl.2.1
                      have hsp : L.boff + off * z' + n * z' + rs.length ≤ L.csz := by
                        rw [hrl, o3] at *
                        have h1 : (off + n + new.length) * z' ≤ (off + cap) * z' := Nat.mul_le_mul_right _ (by omega)
                        rw [Nat.add_mul, Nat.add_mul] at h1
                        omega
                      obtain ⟨q1, q2, q3, q4, q5', q6⟩ := px (P := P) (o := L.boff + off * z' + n * z') (vs := rs) o7.blk hsp (hfl.one hz0)
                      have q5 := wc (vs := rs) (o := L.boff + off * z' + n * z') o7 hsp
                      have hfc1 := hfc new.length (Nat.le_refl _)
                      rw [List.take_of_length_le (by rw [hfl.2.1]; exact Nat.le_refl _)] at hfc1
                      have hrun : (Builtin.append_ #[t, t'] o.type #[a.eval x, a.eval y]).run P w = .ok (.slice (some A') (n + new.length) cap) (w.setCells L.blk (L.boff + off * z' + n * z') rs) := by
                        rw [hX]
                        exact yj hd hd' hni hz (hl w) hfc1 hroom (by rw [hadr]; exact q1)
                      have hnz : (off + n) * z' = off * z' + n * z' := Nat.add_mul _ _ _
                      obtain ⟨β', hF, hW, hβ, _⟩ := hw.upd q2 id (o' := .arr z' ((els.drop off).take n ++ new) (g + 1) false) (L' := { L with boff := L.boff + off * z', g := g + 1 }) hobj rfl hL (by rw [q3]; exact Nat.le_refl _) (fun b _ hb => q4 b hb) (.inr ⟨o1, o1, by simp only; omega⟩) (.inl rfl) (by
                        intro β' hbet hβ hF
                        refine ⟨o1, rfl, o3, o4, fun q hq => ?_, ?_, q5, fun k el hk j cc hj => ?_⟩
                        · rcases List.mem_append.1 hq with h | h
                          · exact o5 q (List.mem_of_mem_drop (List.mem_of_mem_take h))
                          · exact hfl.1 q h
                        · simp only [List.length_append, hel]
                          rw [Nat.add_mul]; rw [hrl] at hsp; omega
                        · rw [List.getElem?_append, hel] at hk
                          simp only
                          split at hk
                          · rename_i hlt
                            have hk0 := hk
                            rw [List.getElem?_take, if_pos hlt, List.getElem?_drop] at hk
                            have hjz : j < z' := by rw [← o5 el (List.mem_of_getElem? hk)]; exact (List.getElem?_eq_some_iff.1 hj).1
                            obtain ⟨u, hu1, hu2, _⟩ := o8 _ el hk j cc hj
                            have hkz : (k + 1) * z' ≤ n * z' := Nat.mul_le_mul_right _ hlt
                            rw [Nat.add_mul] at hkz
                            refine ⟨u, ?_, hu2, fun e => (by cases e)⟩
                            rw [q6 (L.boff + off * z' + k * z' + j) (by omega), if_neg (by omega), ← hu1]
                            congr 2
                            rw [Nat.add_mul]; omega
                          · rename_i hge'
                            have hjz : j < z' := by rw [← hfl.1 el (List.mem_of_getElem? hk)]; exact (List.getElem?_eq_some_iff.1 hj).1
                            obtain ⟨u, hu1, hu2⟩ := hfl.2.2 _ el hk j cc hj
                            have hkn : k * z' = n * z' + (k - n) * z' := by rw [← Nat.add_mul]; congr 1; omega
                            have hlt2 := (List.getElem?_eq_some_iff.1 hu1).1
                            refine ⟨u, ?_, hu2, fun e => (by cases e)⟩
                            rw [q6 (L.boff + off * z' + k * z' + j) (by omega), if_pos (by omega), ← hu1]
                            congr 1; omega)
                      refine ⟨_, _, σ, β', .inl (Jr ho hc ha ht hrun), hF, hW, ?_⟩
                      refine .own _ _ _ _ _ _ _ _ hβ o1 (by subst hgg; exact Nat.le_refl _) (fun _ => ⟨a1, a2, .inr (by simp only [Nat.zero_mul, Nat.add_zero]; exact hA3), ?_⟩) hroom (fun e => by cases e)
                      simp only [Nat.zero_add]
                      rw [Nat.add_mul] at a4
                      rw [o3] at a4 ⊢
                      omega
                    · -- moved
                      obtain ⟨w', C, hrun, hcalm, hheap, hcs, hall, hcells⟩ := grow _ hel hE (by omega)
                      obtain ⟨β', hF, hW, hβ, _⟩ := hw.upd hcalm id (o' := .arr z' ((els.drop off).take n ++ new) (g + 1) false) (L' := ⟨w.heap.size, 0, g + 1, z', C.size, false⟩) hobj rfl hL (by rw [hheap]; simp) (fun b hb _ => na hheap b hb) (.inr ⟨o1, rfl, by simp only; omega⟩) (.inr (Nat.le_refl _)) (by
                        intro β' hbet hβ hF
                        refine ⟨rfl, rfl, rfl, o4, hall, ?_, ⟨C, e, (0, 0), by simp [hheap], rfl, .inl rfl⟩, fun k el hk j cc hj => ?_⟩
                        · simp only [List.length_append, hel, hcs, Nat.zero_add]
                          exact Nat.mul_le_mul_right _ hge
                        · obtain ⟨u, hu1, hu2⟩ := hcells k el hk j cc hj
                          refine ⟨u, ?_, hu2, fun e => (by cases e)⟩
                          simp only [Nat.zero_add]
                          simp [World.cell?, hheap, hu1])
                      refine ⟨_, _, σ, β', .inl (Jr ho hc ha ht hrun), hF, hW, ?_⟩
                      refine .own _ _ _ _ _ _ _ _ hβ rfl (by subst hgg; exact Nat.le_refl _) (fun _ => ⟨rfl, rfl, .inr (by simp), ?_⟩) hge (fun e => by cases e)
                      simp only [Nat.zero_add, hcs]; exact Nat.le_refl _
            · cases hs
          · cases hs
        · rename_i id off len z' e1
          split at hs
          · rename_i els hels'
            have hels : gi h z (ad s x') = some els := by rw [e1]; exact hels'
            obtain ⟨hE, hlen⟩ := sj hz0 r1 hw hels
            rw [hn] at hlen
            have hel : els.length = n := by simpa using hlen.symm
            rw [e1] at hn
            have hnl : n = len := by simp [lz] at hn; exact hn.symm
            subst hnl
            cases hs
            rw [e1] at r1
            generalize hX : a.eval x = X at r1
            cases r1 with
            | ob A' cap' _ _ _ _ _ L' hL' hb' hs' hB' hA' hcs' hc' hx' hz' =>
              rw [hX] at hA; cases hA
              exact fresh els hel hE (by rw [hx' rfl]; omega) rfl rfl
          · cases hs
        · cases hs
    · cases hs
  · cases hs
end Go.Vm
