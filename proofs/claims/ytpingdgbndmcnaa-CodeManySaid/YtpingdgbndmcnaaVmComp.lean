/-
  Vm: from the loaded program's code to the small code (own work). Checked by the kernel, function by function.
-/
import Derived.Test.YtpingdgbndmcnaaVmMem
namespace Go.Vm
open Go

section
variable (P : Program)

def szOf (t : TypeId) : Option Nat := (P.info? t).map (·.size)
def byOf (t : TypeId) : Option Nat := (P.info? t).map (·.bytes)
def agOf (t : TypeId) : Option Bool :=
  match P.underlying t with
  | some (.struct _) | some (.array _ _) => some true
  | some _ => some false
  | none => none

def scV : Value → Option CV := fun v => if scalar v then some (.sc v) else none

/-- A type's zero value, as cells. -/
def zeroOf (t : TypeId) : Option (List CV) :=
  match P.info? t with
  | some i => match i.zero with
    | some v => match v.cells.toList.mapM scV with
      | some cs => if cs.length = i.size then some cs else none
      | none => none
    | none => none
  | none => none

def constV : Value → Option VV
  | .agg cs => (cs.toList.mapM scV).map fun l => .agg (l.map .cv)
  | .func (.func f) first captured => if first.isEmpty && captured.isEmpty then some (.func f []) else none
  | v => (scV v).map .cv

def opd : Operand → Option Opd
  | .tmp t => some (.t t)
  | .const v => (constV v).map .c
  | .global _ => none
  | .func f => some (.c (.func f []))

def opds : List Operand → Option (List Opd)
  | [] => some []
  | x :: r => match opd x, opds r with
    | some y, some ys => some (y :: ys)
    | _, _ => none

def opdO : Option Operand → Option (Option Opd)
  | none => some none
  | some x => (opd x).map some

def isNilC : NK → Operand → Bool
  | .ptr, .const (.pointer none) | .slice, .const (.slice none 0 0) | .func, .const .nilFunc | .iface, .const .nilIface => true
  | _, _ => false

def nkOf : TypeDesc → Option NK
  | .pointer _ => some .ptr
  | .slice _ => some .slice
  | .func _ _ _ => some .func
  | .interface _ => some .iface
  | _ => none

def partsS (fields : Array Field) : List (Nat × Operand) → Option (List (Nat × Nat × Opd))
  | [] => some []
  | (i, x) :: r => match fields[i]? with
    | some f => match szOf P f.type, opd x, partsS fields r with
      | some n, some y, some l => some ((f.offset, n, y) :: l)
      | _, _, _ => none
    | none => none

def partsA (z : Nat) : List (Nat × Operand) → Option (List (Nat × Nat × Opd))
  | [] => some []
  | (i, x) :: r => match opd x, partsA z r with
    | some y, some l => some ((i * z, z, y) :: l)
    | _, _ => none

def repl (n : Nat) (l : List CV) : List VV := ((List.replicate n l).flatten).map .cv

/-- 'refs': functions that are called in the caller's heap; 'own': this operation's result is the frame's own (a call of a value: in the caller's heap). -/
def compOp (refs : List Nat) (own : Bool) (o : Oper) : Option Ins :=
  match o.op with
  | .move x | .assign x => (opd x).map .mv
  | .pick c a b => match opd c, opd a, opd b with
    | some c, some a, some b => some (.pick c a b)
    | _, _, _ => none
  | .alloc t => (zeroOf P t).map fun z => .alloc (z.map .cv)
  | .box t x => match szOf P t, opd x with
    | some n, some x => some (.box n x)
    | _, _ => none
  | .build t parts => match zeroOf P t with
    | some z => match P.underlying t with
      | some (.struct fields) => if fields.toList.all (fun f => (szOf P f.type).isSome) then (partsS P fields parts.toList).map fun l => .build (z.map .cv) l else none
      | some (.array _ e) => match szOf P e with
        | some n => (partsA n parts.toList).map fun l => .build (z.map .cv) l
        | none => none
      | _ => none
    | none => none
  | .buildSlice t len parts => match P.underlying t with
    | some (.slice e) => match szOf P e, zeroOf P e with
      | some n, some z => if 0 < n ∧ len * n ≤ 2 ^ 24 then (partsA n parts.toList).map fun l => .mksl n len (repl len z) l own else none
      | _, _ => none
    | _ => none
  | .load t x => match szOf P t, agOf P t, opd x with
    | some n, some ag, some x => if ag ∨ n = 1 then some (.ld ag n x) else none
    | _, _, _ => none
  | .store t x y => match szOf P t, opd x, opd y with
    | some n, some x, some y => some (.st n x y)
    | _, _, _ => none
  | .nilCheck x => (opd x).map .nilck
  | .binOp op t x y _ => match P.underlying t, opd x, opd y with
    | some (.int _), some a, some b | some .string, some a, some b => some (.bin op a b)
    | some .bool, some a, some b => match op with
      | .eql => some (.eqb false a b)
      | .neq => some (.eqb true a b)
      | _ => none
    | some d, some a, some b => match nkOf d with
      | some k => match op with
        | .eql => if isNilC k y then some (.eqn k false a) else if isNilC k x then some (.eqn k false b) else none
        | .neq => if isNilC k y then some (.eqn k true a) else if isNilC k x then some (.eqn k true b) else none
        | _ => none
      | none => none
    | _, _, _ => none
  | .unOp op _ x => (opd x).map (.un op)
  | .convert src dst x => match P.underlying src, P.underlying dst, opd x with
    | some (.int _), some (.int k), some a => some (.cvI k a)
    | some .string, some .string, some a => some (.cvSS a)
    | some .string, some (.slice e), some a => match P.underlying e, szOf P e with
      | some (.int .u8), some 1 => some (.cvSB own a)
      | _, _ => none
    | some (.slice e), some .string, some a => match P.underlying e, szOf P e with
      | some (.int .u8), some 1 => some (.cvBS a)
      | _, _ => none
    | some (.slice e), some (.slice _), some a => if src == dst then (match P.underlying e with
      | some (.int .u8) => some (.mrk a)
      | _ => none) else none
    | _, _, _ => none
  | .makeInterface t x => match P.underlying t, opd x with
    | some (.interface _), _ => none
    | some _, some a => some (.mkif t a)
    | _, _ => none
  | .makeFunc (.func f) first captured => if first.isEmpty then (opds captured.toList).map (.mkfn f) else none
  | .makeSlice t l c => match P.underlying t with
    | some (.slice e) => match szOf P e, byOf P e, zeroOf P e, opd l, opd c with
      | some n, some by_, some z, some l, some c => if 0 < n then some (.mks n by_ z l c own) else none
      | _, _, _, _, _ => none
    | _ => none
  | .slice t x lo hi mx => match P.underlying t, opd x, opdO lo, opdO hi, opdO mx with
    | some .string, some a, some l, some h, some none => some (.slS a l h)
    | some (.slice e), some a, some l, some h, some m => match szOf P e with
      | some n => if 0 < n ∧ (mx.isSome → hi.isSome) then some (.slL n a l h m) else none
      | none => none
    | some (.array n e), some a, some l, some h, some none => match szOf P e with
      | some z => if 0 < z then some (.slA n z a l h) else none
      | none => none
    | _, _, _, _, _ => none
  | .fieldAddr t x f => match P.underlying t, opd x with
    | some (.struct fields), some a => match fields[f]? with
      | some fd => match szOf P fd.type with
        | some n => if 0 < n then some (.fad fd.offset a) else none
        | none => none
      | none => none
    | _, _ => none
  | .field t x f => match P.underlying t, opd x with
    | some (.struct fields), some a => match fields[f]? with
      | some fd => match szOf P fd.type, agOf P fd.type with
        | some n, some ag => if ag ∨ n = 1 then some (.fld ag fd.offset n a) else none
        | _, _ => none
      | none => none
    | _, _ => none
  | .indexAddr t x i => match P.underlying t, opd x, opd i with
    | some (.slice e), some a, some j => match szOf P e with
      | some z => if 0 < z then some (.iadL z a j) else none
      | none => none
    | some (.array n e), some a, some j => match szOf P e with
      | some z => if 0 < z then some (.iadA n z a j) else none
      | none => none
    | _, _, _ => none
  | .index t x i => match P.underlying t, opd x, opd i with
    | some (.array n e), some a, some j => match szOf P e, agOf P e with
      | some z, some ag => if ag ∨ z = 1 then some (.ixA ag n z a j) else none
      | _, _ => none
    | some .string, some a, some j => some (.ixS a j)
    | _, _, _ => none
  | .extract x i => (opd x).map fun a => .ext a i
  | .panic x => (opd x).map .panic
  | .call c => match c.callee with
    | .value (.func f) => (opds c.args.toList).map fun l => .call f (!refs.contains f) l
    | .value x => match opd x, opds c.args.toList with
      | some a, some l => some (.callv (!own) a l)
      | _, _ => none
    | .invoke _ _ => none
    | .builtin b => match b, c.args.toList, c.argTypes.toList with
      | .len, [x], [t] => match P.underlying t, opd x with
        | some .string, some a => some (.len true a)
        | some (.slice _), some a => some (.len false a)
        | _, _ => none
      | .append, [s, x], [t, t'] => match P.underlying t, P.underlying t' with
        | _, some (.int _) => none
        | some (.slice e), some _ => match szOf P e, byOf P e, zeroOf P e, opd s, opd x with
          | some z, some by_, some zr, some s, some x => if 0 < z ∧ by_ ≤ 2 ^ 30 then some (.app z by_ zr s x) else none
          | _, _, _, _, _ => none
        | _, _ => none
      | .copy, [x, y], t :: _ => match P.underlying t with
        | some (.slice e) => match szOf P e, opd x, opd y with
          | some z, some a, some b => if 0 < z then some (.cpy z a b) else none
          | _, _, _ => none
        | _ => none
      | .min, xs, _ => (opds xs).map (.mnmx true)
      | .max, xs, _ => (opds xs).map (.mnmx false)
      | .complex, [x, y], _ => match opd x, opd y with
        | some a, some b => some (.cplx a b)
        | _, _ => none
      | _, _, _ => none
  | _ => none

def compO (refs : List Nat) (own : Bool) (ops : Array Oper) (o : Oper) : Option Op1 :=
  match compOp P refs own o with
  | some i => match o.guard with
    | none => some ⟨none, o.dst, i⟩
    | some (j, b) => match (ops[j]?).bind (·.dst) with
      | some d => some ⟨some (d, b), o.dst, i⟩
      | none => none
  | none => none

def compOps (refs : List Nat) (owns : List (Nat × Nat)) (id : Nat) (ops : Array Oper) : Nat → List Oper → Option (List Op1)
  | _, [] => some []
  | k, o :: r => match compO P refs (owns.contains (id, k)) ops o, compOps refs owns id ops (k + 1) r with
    | some x, some l => some (x :: l)
    | _, _ => none

/-! ### regions that draw their order -/

def afterOf (o : Oper) : List Nat := o.after.toList.filterMap fun e => if Region.binds .any e then some e.on else none

def befT : List Oper → List (List Nat) → List (List Nat)
  | [], acc => acc
  | o :: r, acc => befT r (acc ++ [(afterOf o ++ (afterOf o).flatMap fun e => acc.getD e []).eraseDups])

/-- 0: does not look at the heap; 1: looks; 2: changes. -/
def kindOf : Ins → Nat
  | .mv _ | .pick _ _ _ | .build _ _ | .bin _ _ _ | .eqb _ _ _ | .eqn _ _ _ | .un _ _ | .cvI _ _ | .cvF _ _ | .cvSS _ | .mkif _ _ | .mkfn _ _ | .slS _ _ _
  | .fad _ _ | .fld _ _ _ _ | .iadA _ _ _ _ | .ixA _ _ _ _ _ | .ixS _ _ | .len _ _ | .mnmx _ _ | .cplx _ _ | .ext _ _ => 0
  | .cvSB own _ => if own then 2 else 0
  | .mks _ _ _ _ _ own => if own then 2 else 0
  | .nilck _ => 0
  | .ld _ _ _ | .cvBS _ | .slL _ _ _ _ _ | .slA _ _ _ _ _ | .iadL _ _ _ => 1
  | .mksl _ _ _ _ own => if own then 2 else 1
  | .call _ pure _ => if pure then 1 else 2
  | .callv pure _ _ => if pure then 1 else 2
  | _ => 2

def looks1 (g : Option (Nat × Bool)) (xs : List Opd) : List Nat :=
  (match g with | some (d, _) => [d] | none => []) ++ xs.filterMap fun | .t n => some n | .c _ => none

def opdsOf : Ins → List Opd
  | .mv x | .box _ x | .ld _ _ x | .nilck x | .eqn _ _ x | .un _ x | .cvI _ x | .cvF _ x | .cvSB _ x | .cvBS x | .cvSS x | .mrk x | .mkif _ x | .fad _ x | .fld _ _ _ x | .len _ x | .ext x _ | .panic x => [x]
  | .pick a b c => [a, b, c]
  | .alloc _ => []
  | .build _ ps | .mksl _ _ _ ps _ => ps.map (·.2.2)
  | .st _ x y | .bin _ x y | .eqb _ x y | .iadL _ x y | .iadA _ _ x y | .ixA _ _ _ x y | .ixS x y | .app _ _ _ x y | .cpy _ x y | .cplx x y | .mks _ _ _ x y _ => [x, y]
  | .mkfn _ xs | .mnmx _ xs | .call _ _ xs => xs
  | .slS x lo hi | .slA _ _ x lo hi => [x] ++ lo.toList ++ hi.toList
  | .slL _ x lo hi mx => [x] ++ lo.toList ++ hi.toList ++ mx.toList
  | .callv _ x xs => x :: xs

def isK (l : List (Op1 × Cl)) (i : Nat) : Bool := match l[i]? with | some (_, .k) => true | _ => false

/-- How many changes there are at the places that f names. -/
def cntK (l : List (Op1 × Cl)) (f : Nat → Bool) : Nat := ((List.range l.length).filter fun k => isK l k && f k).length

def drawOK (l : List (Op1 × Cl)) (T : List (List Nat)) (af : List (List Nat)) : Bool :=
  (T.length == l.length) && (af.length == l.length) &&
  (List.range l.length).all fun i =>
    (af.getD i []).all (· < i) &&
    (T.getD i []).all (fun j => (af.getD i []).contains j || (af.getD i []).any fun e => (T.getD e []).contains j) &&
    (match l[i]? with
      | some (x, .p) => kindOf x.i == 0
      | some (_, .r lo hi) => lo == cntK l (fun k => (T.getD i []).contains k) && hi == cntK l (fun k => !(T.getD k []).contains i)
      | _ => true) &&
    (List.range l.length).all fun j => i == j ||
      match l[i]?, l[j]? with
      | some (x, _), some (y, _) =>
        (match x.d with
         | some d => y.d != some d && (!(looks1 y.g (opdsOf y.i)).contains d || (if i < j then (T.getD j []).contains i else (T.getD i []).contains j))
         | none => true) &&
        (if isK l i && isK l j && decide (i < j) then (T.getD j []).contains i else true)
      | _, _ => false

def compDraw (refs : List Nat) (owns : List (Nat × Nat)) (id : Nat) (ops : Array Oper) : Option (List (Op1 × Cl)) :=
  match compOps P refs owns id ops 0 ops.toList with
  | some l =>
    let T := befT ops.toList []
    let l0 := l.zipIdx.map fun (x, i) => (x, if owns.contains (id, i) || kindOf x.i == 2 then Cl.k else .p)
    let r := l.zipIdx.map fun (x, i) => (x, if owns.contains (id, i) || kindOf x.i == 2 then Cl.k else if kindOf x.i == 0 then .p else
      .r (cntK l0 fun k => (T.getD i []).contains k) (cntK l0 fun k => !(T.getD k []).contains i))
    if drawOK r T (ops.toList.map afterOf) then some r else none
  | none => none

def compC (refs : List Nat) (owns : List (Nat × Nat)) : Code → Option IR
  | .skip => some .skip
  | .region id ops draw => if draw then (compDraw P refs owns id ops).map .draw else (compOps P refs owns id ops 0 ops.toList).map .reg
  | .seq a b => match compC refs owns a, compC refs owns b with
    | some x, some y => some (.seq x y)
    | _, _ => none
  | .cond c a b => match opd c, compC refs owns a, compC refs owns b with
    | some c, some x, some y => some (.cond c x y)
    | _, _, _ => none
  | .block id b => (compC refs owns b).map (.block id)
  | .loop b => (compC refs owns b).map .loop
  | .exit id => some (.exit id)
  | .scope b => (compC refs owns b).map .scope
  | .label l => some (.label l)
  | .goto l => some (.goto l)
  | .ret => some .ret
  | .rangeFunc _ _ _ _ | .refuse _ => none

def compR : List ResultVar → Option (List ResV)
  | [] => some []
  | .tmp t :: r => (compR r).map (.t t :: ·)
  | .cell a t :: r => match szOf P t, agOf P t, compR r with
    | some n, some ag, some l => if ag ∨ n = 1 then some (.cell a ag n :: l) else none
    | _, _, _ => none

def compF (refs : List Nat) (owns : List (Nat × Nat)) (f : Func) : Option FnIR :=
  match f.body with
  | some c => match compC P refs owns c, compR P f.results.toList with
    | some b, some r => some ⟨f.ntmps, r, b⟩
    | _, _ => none
  | none => none

end

end Go.Vm
