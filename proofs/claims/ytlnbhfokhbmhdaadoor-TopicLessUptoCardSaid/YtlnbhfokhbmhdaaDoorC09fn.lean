/- Part of a proof: of what it says, and when, each theorem tells itself. -/
import Derived.Test.YtlnbhfokhbmhdaaDoorVmAll2
import Derived.Lib.Bytealg
/-
  Chapter 09: what the functions that are told by hand are.
-/
namespace Go.V09
open Go Go.Vm

/-- A word's byte. -/
def isW (b : UInt8) : Bool := (97 ≤ b.toNat && b.toNat ≤ 122) || (48 ≤ b.toNat && b.toNat ≤ 57)
/-- Is it a word? -/
def wordB (l : List UInt8) : Bool := l.all isW && !l.isEmpty

/-- topic.word; internal/stringslite.IndexByte; strings.Count of one byte. -/
def φ23 : List Value → Option Value
  | [.string s] => some (.bool (wordB s.data.toList))
  | _ => none
def φ52 : List Value → Option Value
  | [.string s, .int .u8 c] => some (.int .i64 (Lib.indexByte s.data.toList c.toNat.toUInt8))
  | _ => none
def φ45 : List Value → Option Value
  | [.string s, .string t] => match t.data.toList with
    | [c] => some (.int .i64 (Lib.countByte s.data.toList c))
    | _ => none
  | _ => none
def f23x : FnIR := pfFn 1 φ23
def f52x : FnIR := pfFn 2 φ52
def f45x : FnIR := pfFn 2 φ45
end Go.V09
