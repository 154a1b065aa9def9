/-
  Vm: an abstract machine over closed values and a small abstract heap (own work): definitions.
-/
import Derived.WalkKit
import Derived.Below
import Derived.Orders
import Derived.Scope
namespace Go.Vm
open Go

/-- Closed values: a scalar, or a slice by value (each element the list of its cells; 'ex': the capacity is the length). -/
inductive CV where
  | sc (v : Value)
  | sl (esz : Nat) (els : List (List CV)) (ex : Bool)

/-- Values of slots. 'own': a slice of an array object; 'ob': a slice over a box's cells; 'ptr': into a box; 'eptr': into an array object's element; 'rptr': into memory that stays as it is. -/
inductive VV where
  | cv (c : CV)
  | own (id g off len : Nat) (ex : Bool)
  | ob (id off len esz : Nat) (ex : Bool)
  | ptr (id off : Nat)
  | eptr (id g i off : Nat)
  | rptr (cells : List CV)
  | agg (cells : List VV)
  | tup (vs : List VV)
  | func (f : Nat) (caps : List VV)
  | iface (t : Nat) (v : VV)
  | undef

instance : Inhabited CV := ⟨.sc default⟩
instance : Inhabited VV := ⟨.undef⟩

/-- Objects: an array that may grow (its generation), a box of cells; 'fr': written no more. -/
inductive VO where
  | arr (esz : Nat) (els : List (List CV)) (g : Nat) (fr : Bool)
  | box (cells : List VV) (fr : Bool)

abbrev Heap := List VO

/-- A value without an address. -/
def scalar : Value → Bool
  | .bool _ | .int _ _ | .float _ _ | .complex _ _ _ | .string _ | .pointer none | .slice none 0 0 | .map none | .nilFunc | .nilIface => true
  | _ => false

inductive Opd where
  | t (n : Nat)
  | c (v : VV)

inductive NK where
  | ptr | slice | func | iface

inductive Ins where
  | mv (x : Opd)
  | pick (c a b : Opd)
  | alloc (zero : List VV)
  | box (n : Nat) (x : Opd)
  | build (zero : List VV) (parts : List (Nat × Nat × Opd))
  | mksl (z len : Nat) (zero : List VV) (parts : List (Nat × Nat × Opd)) (own : Bool)
  | ld (ag : Bool) (n : Nat) (x : Opd)
  | st (n : Nat) (x y : Opd)
  | nilck (x : Opd)
  | bin (op : BinOp) (x y : Opd)
  | eqb (neg : Bool) (x y : Opd)
  | eqn (k : NK) (neg : Bool) (x : Opd)
  | un (op : UnOp) (x : Opd)
  | cvI (k : IntKind) (x : Opd)
  | cvF (k : FloatKind) (x : Opd)
  | cvSB (own : Bool) (x : Opd)
  | cvBS (x : Opd)
  | cvSS (x : Opd)
  | mrk (x : Opd)
  | mkif (t : Nat) (x : Opd)
  | mkfn (f : Nat) (caps : List Opd)
  | mks (z bytes : Nat) (zero : List CV) (l c : Opd) (own : Bool)
  | slS (x : Opd) (lo hi : Option Opd)
  | slL (z : Nat) (x : Opd) (lo hi mx : Option Opd)
  | slA (n z : Nat) (x : Opd) (lo hi : Option Opd)
  | fad (off : Nat) (x : Opd)
  | fld (ag : Bool) (off n : Nat) (x : Opd)
  | iadL (z : Nat) (x i : Opd)
  | iadA (n z : Nat) (x i : Opd)
  | ixA (ag : Bool) (n z : Nat) (x i : Opd)
  | ixS (x i : Opd)
  | len (str : Bool) (x : Opd)
  | app (z bytes : Nat) (zero : List CV) (s x : Opd)
  | cpy (z : Nat) (a b : Opd)
  | mnmx (isMin : Bool) (xs : List Opd)
  | cplx (x y : Opd)
  | ext (x : Opd) (i : Nat)
  -- these are no plain steps:
  | call (f : Nat) (pure : Bool) (args : List Opd)
  | callv (pure : Bool) (x : Opd) (args : List Opd)
  | panic (x : Opd)

structure Op1 where
  g : Option (Nat × Bool)
  d : Option Nat
  i : Ins

/-- How an operation of a region that draws its order stands to the heap: it does not look at it; it looks (with how many changes ahead of it at the least, at the most); it changes it. -/
inductive Cl where
  | p
  | r (lo hi : Nat)
  | k

inductive IR where
  | skip
  | reg (ops : List Op1)
  | draw (ops : List (Op1 × Cl))
  | seq (a b : IR)
  | cond (c : Opd) (a b : IR)
  | block (id : Nat) (b : IR)
  | loop (b : IR)
  | exit (id : Nat)
  | scope (b : IR)
  | label (l : Nat)
  | goto (l : Nat)
  | ret

inductive ResV where
  | t (n : Nat)
  | cell (a : Nat) (ag : Bool) (n : Nat)

structure FnIR where
  nt : Nat
  res : List ResV
  body : IR

/-! ### plain steps -/

def splice {α : Type} (cells : List α) (off : Nat) (cs : List α) : List α := cells.take off ++ cs ++ cells.drop (off + cs.length)

def chunk {α : Type} (z len : Nat) (cells : List α) : List (List α) := (List.range len).map fun i => (cells.drop (i * z)).take z

/-- What may stand in a cell. -/
def isCell : VV → Bool
  | .agg _ | .tup _ | .undef => false
  | _ => true

def cellsOf : VV → Option (List VV)
  | .agg cs => some cs
  | .undef => none
  | .tup _ => none
  | v => some [v]

/-- One cell's value, closed; what is owned is frozen. -/
def clos (h : Heap) : VV → Option (CV × Heap)
  | .cv c => some (c, h)
  | .own id g off len ex =>
    match h[id]? with
    | some (.arr z els g' _) => if g = g' ∧ off + len ≤ els.length then some (.sl z ((els.drop off).take len) ex, h.set id (.arr z els g' true)) else none
    | _ => none
  | .ob id off len z ex =>
    match h[id]? with
    | some (.box cells _) =>
      match (cells.drop off).take (len * z) |>.mapM (fun | .cv c => some c | _ => none) with
      | some cs => if cs.length = len * z then some (.sl z (chunk z len cs) ex, h.set id (.box cells true)) else none
      | none => none
    | _ => none
  | _ => none

def closL (h : Heap) : List VV → Option (List CV × Heap)
  | [] => some ([], h)
  | v :: r => match clos h v with
    | some (c, h1) => match closL h1 r with
      | some (cs, h2) => some (c :: cs, h2)
      | none => none
    | none => none

/-- An argument (or a result), closed. -/
def closA (h : Heap) : VV → Option (VV × Heap)
  | .agg cells => match closL h cells with
    | some (cs, h1) => some (.agg (cs.map .cv), h1)
    | none => none
  | .rptr cells => some (.rptr cells, h)
  | .func f [] => some (.func f [], h)
  | v => match clos h v with
    | some (c, h1) => some (.cv c, h1)
    | none => none

def closAs (h : Heap) : List VV → Option (List VV × Heap)
  | [] => some ([], h)
  | v :: r => match closA h v with
    | some (c, h1) => match closAs h1 r with
      | some (cs, h2) => some (c :: cs, h2)
      | none => none
    | none => none

def fill (cells : List VV) : List (Nat × Nat × VV) → Option (List VV)
  | [] => some cells
  | (off, sz, v) :: r => match cellsOf v with
    | some cs => if cs.length = sz ∧ off + sz ≤ cells.length then fill (splice cells off cs) r else none
    | none => none

def ldCells (ag : Bool) (n : Nat) (cs : List VV) : Option VV :=
  if cs.length = n then (if ag then some (.agg cs) else match cs with | [c] => some c | _ => none) else none

/-- The elements of what is a slice. -/
def elsOf (h : Heap) (z : Nat) : VV → Option (List (List CV))
  | .cv (.sc (.slice none 0 0)) => some []
  | .cv (.sl z' els _) => if z' = z then some els else none
  | .own id g off len _ =>
    match h[id]? with
    | some (.arr z' els g' _) => if z' = z ∧ g = g' ∧ off + len ≤ els.length then some ((els.drop off).take len) else none
    | _ => none
  | .ob id off len z' _ =>
    match h[id]? with
    | some (.box cells _) =>
      match (cells.drop off).take (len * z') |>.mapM (fun | .cv c => some c | _ => none) with
      | some cs => if z' = z ∧ cs.length = len * z' then some (chunk z' len cs) else none
      | none => none
    | _ => none
  | _ => none

def byteCell (b : UInt8) : List CV := [.sc (.int .u8 b.toNat)]
/-- Bytes as elements. -/
def eB (l : List UInt8) : List (List CV) := l.map byteCell

/-- The elements of what is copied or appended: a slice's, a text's bytes. -/
def srcOf (h : Heap) (z : Nat) : VV → Option (List (List CV))
  | .cv (.sc (.string t)) => if z = 1 then some (eB t.data.toList) else none
  | v => elsOf h z v

def lenV : VV → Option Nat
  | .cv (.sc (.slice none 0 0)) => some 0
  | .cv (.sl _ els _) => some els.length
  | .own _ _ _ len _ => some len
  | .ob _ _ len _ _ => some len
  | _ => none

def strLen : VV → Option Nat
  | .cv (.sc (.string s)) => some s.size
  | _ => none

def isNil : VV → Option Bool
  | .ptr _ _ | .eptr _ _ _ _ | .rptr _ | .own _ _ _ _ _ | .ob _ _ _ _ _ | .cv (.sl _ _ _) | .func _ _ | .iface _ _ => some false
  | .cv (.sc (.pointer none)) | .cv (.sc (.slice none 0 0)) | .cv (.sc .nilFunc) | .cv (.sc .nilIface) => some true
  | _ => none

def isNilK : NK → VV → Option Bool
  | .ptr, .ptr _ _ | .ptr, .eptr _ _ _ _ | .ptr, .rptr _ => some false
  | .ptr, .cv (.sc (.pointer none)) => some true
  | .slice, .own _ _ _ _ _ | .slice, .ob _ _ _ _ _ | .slice, .cv (.sl _ _ _) => some false
  | .slice, .cv (.sc (.slice none 0 0)) => some true
  | .func, .func _ _ => some false
  | .func, .cv (.sc .nilFunc) => some true
  | .iface, .iface _ _ => some false
  | .iface, .cv (.sc .nilIface) => some true
  | _, _ => none

def byteOf? : List CV → Option UInt8
  | [.sc (.int .u8 n)] => some (UInt8.ofNat n.toNat)
  | _ => none

def bytesOf (els : List (List CV)) : Option (List UInt8) := els.mapM byteOf?

def intV : VV → Option Int
  | .cv (.sc (.int _ n)) => some n
  | _ => none

def binV (op : BinOp) : Value → Value → Option Value
  | .int k a, .int k' b =>
    match op with
    | .shl => if b < 0 then none else some (.int k (k.wrap (a * 2 ^ (min b.toNat k.bits))))
    | .shr => if b < 0 then none else some (.int k (a.fdiv (2 ^ (min b.toNat k.bits))))
    | .add => if k = k' then some (.int k (k.wrap (a + b))) else none
    | .sub => if k = k' then some (.int k (k.wrap (a - b))) else none
    | .mul => if k = k' then some (.int k (k.wrap (a * b))) else none
    | .quo => if k = k' ∧ b ≠ 0 then some (.int k (k.wrap (a.tdiv b))) else none
    | .rem => if k = k' ∧ b ≠ 0 then some (.int k (a.tmod b)) else none
    | .and => if k = k' then some (.int k (k.wrap (BitVec.ofInt k.bits a &&& BitVec.ofInt k.bits b).toNat)) else none
    | .or => if k = k' then some (.int k (k.wrap (BitVec.ofInt k.bits a ||| BitVec.ofInt k.bits b).toNat)) else none
    | .xor => if k = k' then some (.int k (k.wrap (BitVec.ofInt k.bits a ^^^ BitVec.ofInt k.bits b).toNat)) else none
    | .andNot => if k = k' then some (.int k (k.wrap (BitVec.ofInt k.bits a &&& ~~~ (BitVec.ofInt k.bits b)).toNat)) else none
    | .eql => if k = k' then some (.bool (a == b)) else none
    | .neq => if k = k' then some (.bool (a != b)) else none
    | .lss => if k = k' then some (.bool (a < b)) else none
    | .leq => if k = k' then some (.bool (a ≤ b)) else none
    | .gtr => if k = k' then some (.bool (a > b)) else none
    | .geq => if k = k' then some (.bool (a ≥ b)) else none
  | .string a, .string b =>
    match op with
    | .add => if a.size + b.size ≤ 9223372036854775807 then some (.string (a ++ b)) else none
    | .eql => some (.bool (a.data.toList == b.data.toList))
    | .neq => some (.bool (!(a.data.toList == b.data.toList)))
    | .lss => some (.bool (Op.bytesLess a.data.toList b.data.toList))
    | .leq => some (.bool (Op.bytesLess a.data.toList b.data.toList || a.data.toList == b.data.toList))
    | .gtr => some (.bool (!(Op.bytesLess a.data.toList b.data.toList || a.data.toList == b.data.toList)))
    | .geq => some (.bool (!(Op.bytesLess a.data.toList b.data.toList)))
    | _ => none
  | _, _ => none

def unV (op : UnOp) : Value → Option Value
  | .int k n => match op with
    | .neg => some (.int k (k.wrap (0 - n)))
    | .xor => some (.int k (k.wrap (BitVec.ofInt k.bits (if k.signed then -1 else k.max) ^^^ BitVec.ofInt k.bits n).toNat))
    | _ => none
  | .bool b => match op with
    | .not => some (.bool !b)
    | _ => none
  | _ => none

def mnmxV (isMin : Bool) : Value → Value → Option Value
  | .int k x, .int _ y => some (.int k (if isMin then (if y < x then y else x) else (if y > x then y else x)))
  | _, _ => none

def mnmxL (isMin : Bool) (v : Value) : List VV → Option Value
  | [] => some v
  | .cv (.sc u) :: r => match mnmxV isMin v u with
    | some w => mnmxL isMin w r
    | none => none
  | _ :: _ => none

/-- A bound of a slice expression: between 0 and y. -/
def bnd (ρ : Opd → VV) (x : Option Opd) (dflt y : Nat) : Option Nat :=
  match x with
  | none => some dflt
  | some o => match intV (ρ o) with
    | some i => if 0 ≤ i ∧ i ≤ y then some i.toNat else none
    | none => none

/-- append: at most so many bytes. -/
def maxBytes : Nat := 2 ^ 45

def stepI (h : Heap) (ρ : Opd → VV) : Ins → Option (VV × Heap)
  | .mv x => some (ρ x, h)
  | .pick c a b => match ρ c with
    | .cv (.sc (.bool t)) => some (if t then ρ a else ρ b, h)
    | _ => none
  | .alloc zero => some (.ptr h.length 0, h ++ [.box zero false])
  | .box n x => match cellsOf (ρ x) with
    | some cs => if cs.length = n then some (.ptr h.length 0, h ++ [.box cs false]) else none
    | none => none
  | .build zero parts => match fill zero (parts.map fun p => (p.1, p.2.1, ρ p.2.2)) with
    | some cs => some (.agg cs, h)
    | none => none
  | .mksl z len zero parts own => match fill zero (parts.map fun p => (p.1, p.2.1, ρ p.2.2)) with
    | some cs => match closL h cs with
      | some (cc, h1) => if own then some (.own h1.length 0 0 len true, h1 ++ [.arr z (chunk z len cc) 0 false]) else some (.cv (.sl z (chunk z len cc) true), h1)
      | none => none
    | none => none
  | .ld ag n x => match ρ x with
    | .ptr id off => match h[id]? with
      | some (.box cells _) => (ldCells ag n ((cells.drop off).take n)).map (·, h)
      | _ => none
    | .eptr id g i off => match h[id]? with
      | some (.arr _ els g' _) => if g = g' then (match els[i]? with
        | some e => (ldCells ag n (((e.drop off).take n).map .cv)).map (·, h)
        | none => none) else none
      | _ => none
    | .rptr cells => (ldCells ag n ((cells.take n).map .cv)).map (·, h)
    | _ => none
  | .st n x y => match cellsOf (ρ y) with
    | some cs => if cs.length = n then (match ρ x with
      | .ptr id off => match h[id]? with
        | some (.box cells false) => if off + n ≤ cells.length then some (.undef, h.set id (.box (splice cells off cs) false)) else none
        | _ => none
      | .eptr id g i off => match closL h cs with
        | some (cc, h1) => match h1[id]? with
          | some (.arr z els g' false) => if g = g' then (match els[i]? with
            | some e => if off + n ≤ e.length then some (.undef, h1.set id (.arr z (els.set i (splice e off cc)) g' false)) else none
            | none => none) else none
          | _ => none
        | none => none
      | _ => none) else none
    | none => none
  | .nilck x => match isNil (ρ x) with
    | some false => match ρ x with
      | .ptr _ _ | .eptr _ _ _ _ | .rptr _ | .func _ _ | .iface _ _ => some (ρ x, h)
      | _ => none
    | _ => none
  | .bin op x y => match ρ x, ρ y with
    | .cv (.sc a), .cv (.sc b) => (binV op a b).map fun v => (.cv (.sc v), h)
    | _, _ => none
  | .eqb neg x y => match ρ x, ρ y with
    | .cv (.sc (.bool a)), .cv (.sc (.bool b)) => some (.cv (.sc (.bool (if neg then !(a == b) else a == b))), h)
    | _, _ => none
  | .eqn k neg x => match isNilK k (ρ x) with
    | some t => some (.cv (.sc (.bool (if neg then !t else t))), h)
    | none => none
  | .un op x => match ρ x with
    | .cv (.sc a) => (unV op a).map fun v => (.cv (.sc v), h)
    | _ => none
  | .cvI k x => match ρ x with
    | .cv (.sc (.int _ n)) => some (.cv (.sc (.int k (k.wrap n))), h)
    | _ => none
  | .cvF _ _ => none
  | .cvSB own x => match ρ x with
    | .cv (.sc (.string s)) => if own then some (.own h.length 0 0 s.size false, h ++ [.arr 1 (eB s.data.toList) 0 false]) else some (.cv (.sl 1 (eB s.data.toList) false), h)
    | _ => none
  | .cvBS x => match elsOf h 1 (ρ x) with
    | some els => (bytesOf els).map fun l => (.cv (.sc (.string ⟨l.toArray⟩)), h)
    | none => none
  | .cvSS x => match ρ x with
    | .cv (.sc (.string s)) => some (.cv (.sc (.string s)), h)
    | _ => none
  | .mrk x => match ρ x with
    | .own id g off len ex => match h[id]? with
      | some (.arr _ _ g' false) => if g = g' then some (.own id g off len ex, h) else none
      | _ => none
    | _ => none
  | .mkif t x => some (.iface t (ρ x), h)
  | .mkfn f caps => some (.func f (caps.map ρ), h)
  | .mks z bytes zero l c own => match intV (ρ l), intV (ρ c) with
    | some a, some b => if 0 ≤ a ∧ a ≤ b ∧ b * bytes ≤ maxBytes ∧ b ≤ maxBytes then
        (if own then some (.own h.length 0 0 a.toNat (a = b), h ++ [.arr z (List.replicate a.toNat zero) 0 false])
         else some (.cv (.sl z (List.replicate a.toNat zero) (a = b)), h)) else none
    | _, _ => none
  | .slS x lo hi => match ρ x with
    | .cv (.sc (.string s)) => match bnd ρ hi s.size s.size with
      | some b => match bnd ρ lo 0 b with
        | some a => some (.cv (.sc (.string ⟨((s.data.toList.drop a).take (b - a)).toArray⟩)), h)
        | none => none
      | none => none
    | _ => none
  | .slL z x lo hi mx => match lenV (ρ x) with
    | some n => match bnd ρ hi n n with
      | some b => match bnd ρ lo 0 b with
        | some a => match bnd ρ mx n n with
          | some m => if mx.isSome ∧ m ≠ b then none else
            match ρ x with
            | .cv (.sc (.slice none 0 0)) => some (.cv (.sc (.slice none 0 0)), h)
            | .cv (.sl z' els ex) => if z' = z then some (.cv (.sl z' ((els.drop a).take (b - a)) (mx.isSome || (ex && b == n))), h) else none
            | .own id g off _ ex => match h[id]? with
              | some (.arr z' _ g' _) => if z' = z ∧ g = g' then some (.own id g (off + a) (b - a) (mx.isSome || (ex && b == n)), h) else none
              | _ => none
            | .ob id off _ z' ex => if z' = z then some (.ob id (off + a * z) (b - a) z' (mx.isSome || (ex && b == n)), h) else none
            | _ => none
          | none => none
        | none => none
      | none => none
    | none => none
  | .slA n z x lo hi => match ρ x with
    | .ptr id off => match bnd ρ hi n n with
      | some b => match bnd ρ lo 0 b with
        | some a => match h[id]? with
          | some (.box cells _) => if off + n * z ≤ cells.length then some (.ob id (off + a * z) (b - a) z (b == n), h) else none
          | _ => none
        | none => none
      | none => none
    | _ => none
  | .fad off x => match ρ x with
    | .ptr id o => some (.ptr id (o + off), h)
    | .eptr id g i o => some (.eptr id g i (o + off), h)
    | .rptr cells => some (.rptr (cells.drop off), h)
    | _ => none
  | .fld ag off n x => match ρ x with
    | .agg cells => (ldCells ag n ((cells.drop off).take n)).map (·, h)
    | _ => none
  | .iadL z x i => match intV (ρ i) with
    | some j => if 0 ≤ j then (match ρ x with
      | .cv (.sl z' els _) => if z' = z then (match els[j.toNat]? with
        | some e => some (.rptr e, h)
        | none => none) else none
      | .own id g off len _ => match h[id]? with
        | some (.arr z' _ g' _) => if z' = z ∧ g = g' ∧ j.toNat < len then some (.eptr id g (off + j.toNat) 0, h) else none
        | _ => none
      | .ob id off len z' _ => if z' = z ∧ j.toNat < len then some (.ptr id (off + j.toNat * z), h) else none
      | _ => none) else none
    | none => none
  | .iadA n z x i => match intV (ρ i) with
    | some j => if 0 ≤ j ∧ j < n then (match ρ x with
      | .ptr id o => some (.ptr id (o + j.toNat * z), h)
      | .eptr id g k o => some (.eptr id g k (o + j.toNat * z), h)
      | .rptr cells => some (.rptr (cells.drop (j.toNat * z)), h)
      | _ => none) else none
    | none => none
  | .ixA ag n z x i => match intV (ρ i), ρ x with
    | some j, .agg cells => if 0 ≤ j ∧ j < n then (ldCells ag z ((cells.drop (j.toNat * z)).take z)).map (·, h) else none
    | _, _ => none
  | .ixS x i => match intV (ρ i), ρ x with
    | some j, .cv (.sc (.string s)) => if 0 ≤ j then (match s.data.toList[j.toNat]? with
      | some b => some (.cv (.sc (.int .u8 b.toNat)), h)
      | none => none) else none
    | _, _ => none
  | .len str x => match (if str then strLen (ρ x) else lenV (ρ x)) with
    | some n => some (.cv (.sc (.int .i64 n)), h)
    | none => none
  | .app z bytes _ s x =>
    match srcOf h z (ρ x), lenV (ρ s) with
    | some new, some n =>
      if (n + new.length) * bytes ≤ maxBytes ∧ n + new.length ≤ maxBytes then
        (if new = [] then (match elsOf h z (ρ s) with | some _ => some (ρ s, h) | none => none) else
        match ρ s with
        | .cv (.sc (.slice none 0 0)) => some (.own h.length 0 0 new.length false, h ++ [.arr z new 0 false])
        | .cv (.sl z' els true) => if z' = z then some (.own h.length 0 0 (els.length + new.length) false, h ++ [.arr z (els ++ new) 0 false]) else none
        | .own id g off len ex => match h[id]? with
          | some (.arr z' els g' fr) => if z' = z ∧ g = g' ∧ off + len ≤ els.length then
              (if ex then some (.own h.length 0 0 (len + new.length) false, h ++ [.arr z ((els.drop off).take len ++ new) 0 false])
               else if fr then none else
               some (.own id (g + 1) 0 (len + new.length) false, h.set id (.arr z ((els.drop off).take len ++ new) (g + 1) false)))
              else none
          | _ => none
        | .ob id off len z' true => match elsOf h z (.ob id off len z' true) with
          | some els => some (.own h.length 0 0 (len + new.length) false, h ++ [.arr z (els ++ new) 0 false])
          | none => none
        | _ => none)
      else none
    | _, _ => none
  | .cpy z a b =>
    match srcOf h z (ρ b), lenV (ρ a) with
    | some src, some n =>
      let k := min src.length n
      match ρ a with
      | .own id g off _ _ => match h[id]? with
        | some (.arr z' els g' false) => if z' = z ∧ g = g' ∧ off + n ≤ els.length then
            some (.cv (.sc (.int .i64 k)), h.set id (.arr z (splice els off (src.take k)) g' false)) else none
        | _ => none
      | .ob id off _ z' _ => match h[id]? with
        | some (.box cells false) => if z' = z ∧ off + n * z ≤ cells.length then
            some (.cv (.sc (.int .i64 k)), h.set id (.box (splice cells off (((src.take k).flatten).map .cv)) false)) else none
        | _ => none
      | v => match elsOf h z v with
        | some _ => if k = 0 then some (.cv (.sc (.int .i64 0)), h) else none
        | none => none
    | _, _ => none
  | .mnmx isMin xs => match xs.map ρ with
    | .cv (.sc v) :: r => match mnmxL isMin v r with
      | some u => (match v with | .int _ _ => some (.cv (.sc u), h) | _ => none)
      | none => none
    | _ => none
  | .cplx x y => match ρ x, ρ y with
    | .cv (.sc (.float k a)), .cv (.sc (.float k' b)) => if k = k' then some (.cv (.sc (.complex k a b)), h) else none
    | _, _ => none
  | .ext x i => match ρ x with
    | .tup vs => match vs[i]? with
      | some v => some (v, h)
      | none => none
    | _ => none
  | .call _ _ _ | .callv _ _ _ | .panic _ => none

/-! ### code -/

structure St where
  s : List VV
  h : Heap

inductive Out where
  | norm
  | exit (id : Nat)
  | goto (l : Nat)
  | ret
  | pan (v : VV)

inductive CRes where
  | ret (v : VV)
  | pan (v : VV)

abbrev CallSem := Nat → List VV → Heap → Option (CRes × Heap)

def evalO (s : List VV) : Opd → VV
  | .t n => s.getD n .undef
  | .c v => v

def putD (s : List VV) (d : Option Nat) (v : VV) : List VV :=
  match d with
  | some n => s.set n v
  | none => s

def closRes (h : Heap) : VV → Option VV
  | .tup vs => (closAs h vs).map fun p => .tup p.1
  | v => (closA h v).map (·.1)

/-- A call, in the world of the caller. -/
def doCall (call : CallSem) (h : Heap) (f : Nat) (pure : Bool) (args : List VV) : Option (CRes × Heap) :=
  if pure then
    match closAs h args with
    | some (as, h1) => match call f as [] with
      | some (.ret v, hc) => (closRes hc v).map fun r => (.ret r, h1)
      | some (.pan v, hc) => (closRes hc v).map fun r => (.pan r, h1)
      | none => none
    | none => none
  else call f args h

def wantedV (s : List VV) : Option (Nat × Bool) → Option Bool
  | none => some true
  | some (d, b) => match s[d]? with
    | some (.cv (.sc (.bool t))) => some (t == b)
    | _ => none

def stepO (call : CallSem) (st : St) (o : Op1) : Option (Out × St) :=
  let ρ := evalO st.s
  match o.i with
  | .call f pure args => match doCall call st.h f pure (args.map ρ) with
    | some (.ret v, h) => some (.norm, ⟨putD st.s o.d v, h⟩)
    | some (.pan v, h) => some (.pan v, ⟨st.s, h⟩)
    | none => none
  | .callv pure x args => match ρ x with
    | .func f caps => match doCall call st.h f pure (args.map ρ ++ caps) with
      | some (.ret v, h) => some (.norm, ⟨putD st.s o.d v, h⟩)
      | some (.pan v, h) => some (.pan v, ⟨st.s, h⟩)
      | none => none
    | _ => none
  | .panic x => match ρ x with
    | .iface t v => some (.pan (.iface t v), st)
    | _ => none
  | i => match stepI st.h ρ i with
    | some (v, h) => some (.norm, ⟨putD st.s o.d v, h⟩)
    | none => none

def execOps (call : CallSem) : List Op1 → St → Option (Out × St)
  | [], st => some (.norm, st)
  | o :: r, st => match wantedV st.s o.g with
    | some true => match stepO call st o with
      | some (.norm, st1) => execOps call r st1
      | x => x
    | some false => execOps call r ⟨putD st.s o.d .undef, st.h⟩
    | none => none

/-- A value in some heap, and the heap as it was. -/
def Same (call : CallSem) (st : St) (o : Op1) (h : Heap) (v : List VV) : Prop := stepO call ⟨st.s, h⟩ o = some (.norm, ⟨v, h⟩)

/-- A region that draws its order, in the order of the text; 'hs': the heaps so far; 'ck': what must hold of the heaps. -/
def drawOps (call : CallSem) : List (Op1 × Cl) → List Heap → List (Nat × Nat × (Heap → Prop)) → St → Option (St × List Heap × List (Nat × Nat × (Heap → Prop)))
  | [], hs, ck, st => some (st, hs, ck)
  | (o, c) :: r, hs, ck, st => match wantedV st.s o.g with
    | some true => match stepO call st o with
      | some (.norm, st1) => match c with
        | .p => drawOps call r hs ck ⟨st1.s, st.h⟩
        | .r lo hi => drawOps call r hs (if lo = hi then (lo, hi + 1, fun _ => st1.h = st.h) :: ck else (lo, hi + 1, fun h => Same call st o h st1.s) :: ck) ⟨st1.s, st.h⟩
        | .k => drawOps call r (hs ++ [st1.h]) ck st1
      | _ => none
    | some false => drawOps call r (match c with | .k => hs ++ [st.h] | _ => hs) ck ⟨putD st.s o.d .undef, st.h⟩
    | none => none

open Classical in
noncomputable def execDraw (call : CallSem) (ops : List (Op1 × Cl)) (st : St) : Option (Out × St) :=
  match drawOps call ops [st.h] [] st with
  | some (st1, hs, ck) => if ∀ x ∈ ck, ∀ b, x.1 ≤ b → b < x.2.1 → ∀ h, hs[b]? = some h → x.2.2 h then some (.norm, st1) else none
  | none => none

def iter (body : St → Option (Out × St)) : Nat → St → Option (Out × St)
  | 0, _ => none
  | n + 1, st => match body st with
    | some (.norm, st1) => iter body n st1
    | x => x

def findL : IR → Nat → Option IR
  | .seq a b, l => match findL a l with
    | some r => some (.seq r b)
    | none => findL b l
  | .label l', l => if l' == l then some .skip else none
  | _, _ => none

def jumpIter (frm : Nat → St → Option (Out × St)) (has : Nat → Bool) : Nat → Option (Out × St) → Option (Out × St)
  | 0, r => match r with
    | some (.goto l, st) => if has l then none else some (.goto l, st)
    | r => r
  | n + 1, r => match r with
    | some (.goto l, st) => if has l then jumpIter frm has n (frm l st) else some (.goto l, st)
    | r => r

mutual
noncomputable def exec (call : CallSem) (n : Nat) : IR → St → Option (Out × St)
  | .skip, st => some (.norm, st)
  | .reg ops, st => execOps call ops st
  | .draw ops, st => execDraw call ops st
  | .seq a b, st => match exec call n a st with
    | some (.norm, st1) => exec call n b st1
    | x => x
  | .cond c a b, st => match evalO st.s c with
    | .cv (.sc (.bool t)) => if t then exec call n a st else exec call n b st
    | _ => none
  | .block id b, st => match exec call n b st with
    | some (.exit id', st1) => if id' = id then some (.norm, st1) else some (.exit id', st1)
    | x => x
  | .loop b, st => iter (fun st => exec call n b st) n st
  | .exit id, st => some (.exit id, st)
  | .scope b, st => jumpIter (fun l st => execFrom call n b l st) (fun l => (findL b l).isSome) n (exec call n b st)
  | .label _, st => some (.norm, st)
  | .goto l, st => some (.goto l, st)
  | .ret, st => some (.ret, st)
noncomputable def execFrom (call : CallSem) (n : Nat) : IR → Nat → St → Option (Out × St)
  | .seq a b, l, st => match findL a l with
    | some _ => match execFrom call n a l st with
      | some (.norm, st1) => exec call n b st1
      | x => x
    | none => execFrom call n b l st
  | .label l', l, st => if l' == l then some (.norm, st) else none
  | _, _, _ => none
end

def resOf (st : St) : ResV → Option VV
  | .t n => st.s[n]?
  | .cell a ag n => match st.s.getD a .undef with
    | .ptr id off => match st.h[id]? with
      | some (.box cells _) => ldCells ag n ((cells.drop off).take n)
      | _ => none
    | _ => none

def resAll (st : St) : List ResV → Option (List VV)
  | [] => some []
  | r :: l => match resOf st r with
    | some v => match resAll st l with
      | some vs => some (v :: vs)
      | none => none
    | none => none

def pack : List VV → VV
  | [v] => v
  | vs => .tup vs

def runFn (ex : IR → St → Option (Out × St)) (fn : FnIR) (args : List VV) (h : Heap) : Option (CRes × Heap) :=
  match ex fn.body ⟨args ++ List.replicate (fn.nt - args.length) .undef, h⟩ with
  | some (.norm, st) | some (.ret, st) => (resAll st fn.res).map fun vs => (.ret (pack vs), st.h)
  | some (.pan v, st) => some (.pan v, st.h)
  | _ => none

noncomputable def callF (F : Nat → Option FnIR) : Nat → CallSem
  | 0 => fun _ _ _ => none
  | n + 1 => fun f args h => match F f with
    | some fn => runFn (exec (callF F n) n) fn args h
    | none => none

end Go.Vm
