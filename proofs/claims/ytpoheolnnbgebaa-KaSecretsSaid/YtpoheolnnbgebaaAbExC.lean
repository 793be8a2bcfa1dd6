/- A part of the proof of a row by an interpreter that is proved sound; no conditions of its own. -/
import Derived.Test.YtpoheolnnbgebaaAbSlc
import Derived.Test.YtpoheolnnbgebaaAbIdxC
import Derived.Lib.IndexAny
import Derived.Lib.BytesEntry
namespace Ab
open Go Go.Proofs Go.IntWalk
set_option maxRecDepth 10000
set_option linter.unusedSimpArgs false
set_option linter.unusedVariables false
namespace Pr

/-- internal/stringslite.IndexByte. -/
def gIndex : List A → Store → Option (A × Store)
  | [.d (.str s), .d (.int .u8 c)], [] => some (.d (.int .i64 (Lib.indexByte s.data.toList c.toNat.toUInt8)), [])
  | _, _ => none

/-- bytes.IndexByte. -/
def gIndexB : List A → Store → Option (A × Store)
  | [.d (.sl 1 es), .d (.int .u8 c)], [] => match strOf es with
    | some l => some (.d (.int .i64 (Lib.indexByte l c.toNat.toUInt8)), [])
    | none => none
  | _, _ => none

/-- slices.Clone. -/
def gClone : List A → Store → Option (A × Store)
  | [.d (.sl 1 es)], [] => if es.length ≤ 140737488355328 then some (.arr 0 0 es.length es.length, [.arr 1 es false]) else none
  | _, _ => none

def E1 : Ext := fun f => if f = 118 then some gIndex else if f = 110 then some gIndexB else if f = 105 then some gClone else none

end Pr
end Ab
