/- A part of the proof of a row by an interpreter that is proved sound; no conditions of its own. -/
import GoSem.Dispatch
namespace Ab
open Go

/-- Data: values without references to memory that may still change. 'sl sz es': a slice of elements of sz cells each. -/
inductive D where
  | int (k : IntKind) (n : Int)
  | bool (b : Bool)
  | str (s : ByteArray)
  | sl (sz : Nat) (es : List (List D))
  | nilp | nilf | nili

instance : Inhabited D := ⟨.nilp⟩

/-- Values of a function's temporaries. -/
inductive A where
  | d (x : D)
  | nilsl (tag : Nat)
  | nilm
  | agg (cs : List A)
  | tup (vs : List A)
  | bp (id off : Nat)
  | ep (id idx off n : Nat)
  | cp (cs : List D)
  | arr (id off len n : Nat)
  | fn (f : FuncId) (pre post : List A)
  | mp (id : Nat)
  | un
  | top

instance : Inhabited A := ⟨.top⟩

/-- Objects that a function may change. -/
inductive O where
  | box (cs : List A)
  | arr (sz : Nat) (es : List (List D)) (frozen : Bool)
  | mp (es : List (D × A))
  | gone

abbrev Store := List O

structure St where
  tmps : List A
  objs : Store

inductive X where
  | normal | exit (id : Nat) | ret

/-- What a run is helped with; nothing of it is trusted. -/
structure Hints where
  /-- functions that get local arrays by reference -/
  inPlace : FuncId → Bool := fun _ => false
  /-- functions whose results are local arrays -/
  own : FuncId → Bool := fun _ => false
  /-- at the head of the loop in this block: the temporaries that are kept, and how many objects -/
  head : FuncId → Nat → Option (List Nat × Nat) := fun _ _ => none
  /-- operations (function, region, index) behind which nil slices at these cells become local arrays -/
  fresh : FuncId → Nat → Nat → List Nat := fun _ _ _ => []

def ofLeaf : Value → A
  | .bool b => .d (.bool b)
  | .int k n => .d (.int k n)
  | .string s => .d (.str s)
  | .pointer none => .d .nilp
  | .slice none 0 0 => .nilsl 0
  | .nilFunc => .d .nilf
  | .nilIface => .d .nili
  | .map none => .nilm
  | _ => .top

def ofValue : Value → A
  | .agg cs => .agg (cs.toList.map ofLeaf)
  | v => ofLeaf v

def ev (ts : List A) : Operand → A
  | .tmp t => ts.getD t .top
  | .const v => ofValue v
  | .func f => .fn f [] []
  | .global _ => .top

/-- May the value lie in one cell? -/
def A.leaf : A → Bool
  | .agg _ | .tup _ | .un | .top => false
  | _ => true

/-- No struct lies in a struct's cells. -/
def A.flat : A → Bool
  | .agg cs => cs.all fun c => match c with | .agg _ => false | _ => true
  | _ => true

def A.cells : A → List A
  | .agg cs => cs
  | v => [v]

def isAggT (P : Program) (t : TypeId) : Option Bool :=
  match P.underlying t with
  | some (.struct _) | some (.array _ _) => some true
  | some _ => some false
  | none => none

def sizeT (P : Program) (t : TypeId) : Option Nat := (P.info? t).map (·.size)

/-- A slice type's element: its cells and its bytes. -/
def elemT (P : Program) (t : TypeId) : Option (Nat × Nat) :=
  match P.underlying t with
  | some (.slice e) => (P.info? e).map fun i => (i.size, i.bytes)
  | _ => none

/-- A slice type's element's zero value: how many cells? -/
def zsizeT (P : Program) (t : TypeId) : Option Nat :=
  match P.underlying t with
  | some (.slice e) => match (P.info? e).bind (·.zero) with
    | some z => some z.cells.size
    | none => none
  | _ => none

/-- A struct type's field: where it begins, how many cells it has, is it a struct or an array? -/
def fieldT (P : Program) (t : TypeId) (f : Nat) : Option (Nat × Nat × Bool) :=
  match P.underlying t with
  | some (.struct fs) =>
    match fs[f]? with
    | some fl =>
      match sizeT P fl.type, isAggT P fl.type with
      | some z, some b => some (fl.offset, z, b)
      | _, _ => none
    | none => none
  | _ => none

/-- The tags of a type's nil slices (untrusted: a tag says nothing of an empty slice). -/
def tagsT (P : Program) : Nat → TypeId → List Nat
  | 0, _ => []
  | k + 1, t =>
    match P.underlying t with
    | some (.slice e) => [(sizeT P e).getD 0]
    | some (.struct fs) => fs.toList.flatMap fun f => tagsT P k f.type
    | some (.array n e) => (List.replicate n (tagsT P k e)).flatten
    | _ => [0]

def retag : List Nat → List A → List A
  | g :: gs, .nilsl _ :: cs => .nilsl g :: retag gs cs
  | _ :: gs, c :: cs => c :: retag gs cs
  | [], cs => cs
  | _, [] => []

/-- A type's zero value. -/
def zeroA (P : Program) (t : TypeId) : Option (List A) :=
  match (P.info? t).bind (·.zero) with
  | some z => some (retag (tagsT P 20 t) (ofValue z).cells)
  | none => none

/-- The same as a value. -/
def zeroV (P : Program) (t : TypeId) : Option A :=
  match (P.info? t).bind (·.zero) with
  | some (.agg vs) => some (.agg (retag (tagsT P 20 t) (vs.toList.map ofLeaf)))
  | some z => match retag (tagsT P 20 t) [ofLeaf z] with
    | [c] => some c
    | _ => none
  | none => none

/-- An operand at a type: a constant nil slice gets its tag. -/
def evT (P : Program) (ts : List A) (t : TypeId) : Operand → A
  | .const (.slice none 0 0) => .nilsl (match elemT P t with | some (z, _) => z | none => 0)
  | x => ev ts x

def cellsTo (ag : Bool) (cs : List A) : Option A :=
  if ag then some (.agg cs) else match cs with | [c] => some c | _ => none

def getO (objs : Store) (i : Nat) : O := objs.getD i .gone

/-- A local array's elements behind a reference to it, if the reference still holds. -/
def viewA (objs : Store) (id off len n : Nat) : Option (Nat × List (List D)) :=
  match getO objs id with
  | .arr sz es _ => if n = es.length ∧ off + len ≤ es.length then some (sz, (es.drop off).take len) else none
  | _ => none

mutual
/-- A value as data; slices of local arrays as they are now. -/
def toD (objs : Store) : A → Option (List D)
  | .d x => some [x]
  | .nilsl g => some [.sl g []]
  | .agg cs => toDs objs cs
  | .arr id off len n => match viewA objs id off len n with | some (sz, es) => some [.sl sz es] | none => none
  | _ => none
def toDs (objs : Store) : List A → Option (List D)
  | [] => some []
  | c :: cs => if c.leaf then
      match toD objs c with
      | some x => match toDs objs cs with
        | some y => some (x ++ y)
        | none => none
      | none => none
    else none
end

mutual
/-- The arrays that a value refers to are sealed: no element is written any more. -/
def shutA (objs : Store) : A → Store
  | .arr id _ _ _ => match getO objs id with | .arr sz es _ => objs.set id (.arr sz es true) | _ => objs
  | .agg cs => shutAs objs cs
  | _ => objs
def shutAs (objs : Store) : List A → Store
  | [] => objs
  | c :: cs => shutAs (shutA objs c) cs
end

/-- A value as it is handed to a function: slices of local arrays as data. -/
def exCell (objs : Store) : A → Option A
  | .nilsl g => some (.d (.sl g []))
  | .arr id off len n => match viewA objs id off len n with | some (sz, es) => some (.d (.sl sz es)) | none => none
  | v => some v

def exCells (objs : Store) : List A → Option (List A)
  | [] => some []
  | c :: cs => match exCell objs c with
    | some x => match exCells objs cs with
      | some y => some (x :: y)
      | none => none
    | none => none

def exA (objs : Store) : A → Option A
  | .agg cs => match exCells objs cs with | some y => some (.agg y) | none => none
  | .tup _ => none
  | v => exCell objs v

def exAs (objs : Store) : List A → Option (List A)
  | [] => some []
  | c :: cs => match exA objs c with
    | some x => match exAs objs cs with
      | some y => some (x :: y)
      | none => none
    | none => none

mutual
def refsA : A → List Nat
  | .bp id _ | .ep id _ _ _ | .arr id _ _ _ | .mp id => [id]
  | .agg cs => refsAs cs
  | .tup cs => refsAs cs
  | .fn _ a b => refsAs a ++ refsAs b
  | _ => []
def refsAs : List A → List Nat
  | [] => []
  | c :: cs => refsA c ++ refsAs cs
end

def refsO : O → List Nat
  | .box cs => refsAs cs
  | .mp es => refsAs (es.map (·.2))
  | _ => []

/-- The objects that are reached, each once. -/
def reach (objs : Store) : Nat → List Nat → List Nat → List Nat
  | 0, _, seen => seen
  | _ + 1, [], seen => seen
  | k + 1, i :: todo, seen => if seen.contains i then reach objs k todo seen else reach objs k (todo ++ refsO (getO objs i)) (seen ++ [i])

mutual
def renA (g : Nat → Option Nat) : A → Option A
  | .bp id off => (g id).map (.bp · off)
  | .ep id i off n => (g id).map (.ep · i off n)
  | .arr id off len n => (g id).map (.arr · off len n)
  | .mp id => (g id).map .mp
  | .agg cs => (renAs g cs).map .agg
  | .tup cs => (renAs g cs).map .tup
  | .fn f a b => match renAs g a, renAs g b with | some x, some y => some (.fn f x y) | _, _ => none
  | .d x => some (.d x)
  | .nilsl t => some (.nilsl t)
  | .nilm => some .nilm
  | .cp cs => some (.cp cs)
  | .un => some .un
  | .top => some .top
def renAs (g : Nat → Option Nat) : List A → Option (List A)
  | [] => some []
  | c :: cs => match renA g c with
    | some x => match renAs g cs with
      | some y => some (x :: y)
      | none => none
    | none => none
end

def renMp (g : Nat → Option Nat) : List (D × A) → Option (List (D × A))
  | [] => some []
  | (k, c) :: cs => match renA g c with
    | some x => match renMp g cs with
      | some y => some ((k, x) :: y)
      | none => none
    | none => none

def renO (g : Nat → Option Nat) : O → Option O
  | .box cs => (renAs g cs).map .box
  | .mp es => (renMp g es).map .mp
  | .arr sz es fz => some (.arr sz es fz)
  | .gone => some .gone

def renOs (g : Nat → Option Nat) : List O → Option (List O)
  | [] => some []
  | c :: cs => match renO g c with
    | some x => match renOs g cs with
      | some y => some (x :: y)
      | none => none
    | none => none

/-- Where a number stands in a list. -/
def idx (l : List Nat) (i : Nat) : Option Nat := match l with
  | [] => none
  | j :: l => if i = j then some 0 else (idx l i).map (· + 1)

/-- A new object: behind the others, or at a place that was kept for it. -/
def newO (objs : Store) (dr : Option Nat) (o : O) : Nat × Store :=
  match dr with
  | none => (objs.length, objs ++ [o])
  | some p => (p, objs.set p o)

def setAll (objs : Store) : List Nat → List O → Store
  | i :: is, o :: os => setAll (objs.set i o) is os
  | _, _ => objs

/-- What comes back from a call is laid into the caller's objects. -/
def backA (ρ : List Nat) (objs : Store) (dr : Option Nat) (r : A) (sub : Store) : Option (A × Store) :=
  let m := ρ.length
  let base := match dr with | none => objs.length | some p => p
  let g := fun j => if j < m then ρ[j]? else some (base + (j - m))
  match renA g r, renOs g sub with
  | some r2, some sub3 =>
    if m ≤ sub3.length then
      match dr with
      | none => some (r2, setAll objs ρ sub3 ++ sub3.drop m)
      | some p => if ρ.contains p then none
        else match sub3.drop m with
          | [] => some (r2, setAll objs ρ sub3)
          | [o] => some (r2, (setAll objs ρ sub3).set p o)
          | _ => none
    else none
  | _, _ => none

/-- A call on the objects that its arguments reach, numbered from 0 on. -/
def callR (call : FuncId → List A → Store → Option (A × Store)) (f : FuncId) (args : List A) (objs : Store) (dr : Option Nat) : Option (A × Store) :=
  let ρ := reach objs (4 * objs.length + 40) (refsAs args) []
  if ρ.all (· < objs.length) then
    match renAs (idx ρ) args, renOs (idx ρ) (ρ.map (getO objs)) with
    | some args2, some sub =>
      match call f args2 sub with
      | some (r, sub2) => backA ρ objs dr r sub2
      | none => none
    | _, _ => none
  else none

/-- A call: slices of local arrays are handed over as data, unless the function takes them in place. -/
def callA (H : Hints) (call : FuncId → List A → Store → Option (A × Store)) (f : FuncId) (args : List A) (objs : Store) (dr : Option Nat) : Option (A × Store) :=
  if H.inPlace f then callR call f args objs dr
  else if args.all A.flat then
    match exAs objs args with
    | some args1 => callR call f args1 (shutAs objs args) dr
    | none => none
  else none

def setRange {α : Type} (l : List α) (off : Nat) (cs : List α) : List α := l.take off ++ cs ++ l.drop (off + cs.length)

/-- The cells behind a pointer, to the end of its variable. -/
def cellsAt (objs : Store) : A → Option (List A)
  | .bp id off => match getO objs id with | .box cs => some (cs.drop off) | _ => none
  | .ep id i off n => match getO objs id with
    | .arr _ es _ => if n = es.length then (match es[i]? with | some e => some ((e.drop off).map .d) | none => none) else none
    | _ => none
  | .cp cs => some (cs.map .d)
  | _ => none

def loadA (P : Program) (objs : Store) (t : TypeId) (p : A) : Option A :=
  match sizeT P t, isAggT P t with
  | some n, some ag => match cellsAt objs p with
    | some cs => if n ≤ cs.length then cellsTo ag (cs.take n) else none
    | none => none
  | _, _ => none

def storeA (P : Program) (objs : Store) (t : TypeId) (p v : A) : Option Store :=
  match sizeT P t with
  | none => none
  | some n =>
    let cs := v.cells
    if cs.length = n ∧ cs.all A.leaf then
      match p with
      | .bp id off => match getO objs id with
        | .box bs => if off + n ≤ bs.length then some (objs.set id (.box (setRange bs off cs))) else none
        | _ => none
      | .ep id i off m => match toDs objs cs with
        | some ds => match getO (shutAs objs cs) id with
          | .arr sz es false => if m = es.length then
              match es[i]? with
              | some e => if off + n ≤ e.length ∧ ds.length = n then some ((shutAs objs cs).set id (.arr sz (es.set i (setRange e off ds)) false)) else none
              | none => none
            else none
          | _ => none
        | none => none
      | _ => none
    else none

/-- The struct's or array's cells with parts written into it. -/
def fillA (place : Nat → Option (Nat × Nat)) (cells : List A) : List (Nat × A) → Option (List A)
  | [] => some cells
  | (i, v) :: rest =>
    match place i with
    | none => none
    | some (off, size) =>
      if v.cells.length = size ∧ off + size ≤ cells.length ∧ v.cells.all A.leaf then fillA place (setRange cells off v.cells) rest else none

def buildA (P : Program) (ts : List A) (t : TypeId) (parts : List (Nat × Operand)) : Option (List A) :=
  match zeroA P t, P.underlying t with
  | some z, some (.struct fs) => if (fs.toList.all fun f => (sizeT P f.type).isSome) = true then fillA (fun i => match fieldT P t i with | some (o, n, _) => some (o, n) | none => none) z
      (parts.map fun p => (p.1, evT P ts (match fs[p.1]? with | some f => f.type | none => 0) p.2)) else none
  | some z, some (.array _ e) => match sizeT P e with
    | some n => fillA (fun i => some (i * n, n)) z (parts.map fun p => (p.1, evT P ts e p.2))
    | none => none
  | _, _ => none

def elemsA (P : Program) (ts : List A) (objs : Store) (e : TypeId) (n : Nat) (es : List (List D)) : List (Nat × Operand) → Option (List (List D) × Store)
  | [] => some (es, objs)
  | (i, x) :: rest =>
    let v := evT P ts e x
    match toD objs v with
    | some ds => if ds.length = n ∧ v.cells.length = n ∧ v.cells.all A.leaf ∧ i < es.length then elemsA P ts (shutA objs v) e n (es.set i ds) rest else none
    | none => none

def asInt : A → Option Int
  | .d (.int _ n) => some n
  | _ => none

def eqD : D → D → Option Bool
  | .int k a, .int k' b => if k = k' then some (a == b) else none
  | .str a, .str b => some (a == b)
  | .bool a, .bool b => some (a == b)
  | _, _ => none

/-- A field's cells. -/
def partA (P : Program) (t : TypeId) (cs : List A) (off : Nat) : Option (List A) :=
  match sizeT P t with
  | some n => if off + n ≤ cs.length then some ((cs.drop off).take n) else none
  | none => none

def eqFs (P : Program) (rec : TypeId → List A → List A → Option Bool) (xs ys : List A) : List Field → Option Bool
  | [] => some true
  | f :: fs => if f.name ≠ "_" then
      match partA P f.type xs f.offset, partA P f.type ys f.offset with
      | some a, some b => match rec f.type a b with
        | some x => match eqFs P rec xs ys fs with
          | some y => some (x && y)
          | none => none
        | none => none
      | _, _ => none
    else none

/-- Are two values of a type equal, cell by cell? -/
def eqT (P : Program) : Nat → TypeId → List A → List A → Option Bool
  | 0, _, _, _ => none
  | k + 1, t, xs, ys => match P.underlying t with
    | some (.struct fs) => if P.stoodInHeld t then none else eqFs P (eqT P k) xs ys fs.toList
    | some (.int _) => match xs, ys with
      | [.d (.int k a)], [.d (.int k' b)] => if k = k' then some (a == b) else none
      | _, _ => none
    | some .string => match xs, ys with
      | [.d (.str a)], [.d (.str b)] => some (a == b)
      | _, _ => none
    | some .bool => match xs, ys with
      | [.d (.bool a)], [.d (.bool b)] => some (a == b)
      | _, _ => none
    | _ => none

def cmpI (op : BinOp) (a b : Int) : Option Bool :=
  match op with
  | .eql => some (a == b) | .neq => some (a != b) | .lss => some (decide (a < b)) | .leq => some (decide (a ≤ b)) | .gtr => some (decide (a > b)) | .geq => some (decide (a ≥ b))
  | _ => none

def intOp (op : BinOp) (k : IntKind) (a b : Int) : Option D :=
  match op with
  | .add => some (.int k (k.wrap (a + b)))
  | .sub => some (.int k (k.wrap (a - b)))
  | .mul => some (.int k (k.wrap (a * b)))
  | .quo => if b = 0 then none else some (.int k (k.wrap (a.tdiv b)))
  | .rem => if b = 0 then none else some (.int k (a.tmod b))
  | .and => some (.int k (k.wrap (BitVec.ofInt k.bits a &&& BitVec.ofInt k.bits b).toNat))
  | .or => some (.int k (k.wrap (BitVec.ofInt k.bits a ||| BitVec.ofInt k.bits b).toNat))
  | .xor => some (.int k (k.wrap (BitVec.ofInt k.bits a ^^^ BitVec.ofInt k.bits b).toNat))
  | .andNot => some (.int k (k.wrap (BitVec.ofInt k.bits a &&& ~~~ BitVec.ofInt k.bits b).toNat))
  | _ => (cmpI op a b).map .bool

def shiftOp (op : BinOp) (k : IntKind) (a b : Int) : Option D :=
  if b < 0 then none else
  match op with
  | .shl => some (.int k (k.wrap (a * 2 ^ (min b.toNat k.bits))))
  | .shr => some (.int k (a.fdiv (2 ^ (min b.toNat k.bits))))
  | _ => none

def strOp (op : BinOp) (x y : ByteArray) : Option D :=
  match op with
  | .add => if x.size + y.size ≤ 9223372036854775807 then some (.str (x ++ y)) else none
  | .eql => some (.bool (x.toList == y.toList))
  | .neq => some (.bool !(x.toList == y.toList))
  | .lss => some (.bool (Op.bytesLess x.toList y.toList))
  | .leq => some (.bool (Op.bytesLess x.toList y.toList || x.toList == y.toList))
  | .gtr => some (.bool !(Op.bytesLess x.toList y.toList || x.toList == y.toList))
  | .geq => some (.bool !(Op.bytesLess x.toList y.toList))
  | _ => none

/-- Is it nil, of what can be nil? -/
def isNil : A → Option Bool
  | .d .nilp | .d .nilf => some true
  | .bp .. | .ep .. | .cp _ | .fn .. => some false
  | _ => none

def isNilP : A → Option Bool
  | .d .nilp => some true
  | .bp .. | .ep .. | .cp _ => some false
  | _ => none

def isNilF : A → Option Bool
  | .d .nilf => some true
  | .fn .. => some false
  | _ => none

def nilOp (op : BinOp) (x y : Option Bool) : Option A :=
  match x, y with
  | some a, some b => if a || b then
      (match op with
       | .eql => some (.d (.bool (a && b)))
       | .neq => some (.d (.bool !(a && b)))
       | _ => none) else none
  | _, _ => none

def binA (P : Program) (op : BinOp) (t : TypeId) (x y : A) : Option A :=
  match x, y with
  | .d (.int k a), .d (.int k' b) =>
    (match op with
     | .shl | .shr => shiftOp op k a b
     | _ => if k = k' then intOp op k a b else none).map .d
  | .d (.str a), .d (.str b) => (strOp op a b).map .d
  | .d (.bool a), .d (.bool b) => match P.underlying t with
    | some .bool => match op with
      | .eql => some (.d (.bool (a == b)))
      | .neq => some (.d (.bool !(a == b)))
      | _ => none
    | _ => none
  | .agg as, .agg bs => if P.eqGuardType P.depth t = false ∧ isAggT P t = some true then
      match eqT P 8 t as bs with
      | some z => match op with
        | .eql => some (.d (.bool z))
        | .neq => some (.d (.bool !z))
        | _ => none
      | none => none
    else none
  | x, y => match P.underlying t with
    | some (.pointer _) => nilOp op (isNilP x) (isNilP y)
    | some (.func _ _ _) => nilOp op (isNilF x) (isNilF y)
    | _ => none

def bytesD (s : ByteArray) : List (List D) := s.data.toList.map fun b => [.int .u8 b.toNat]

def strOf : List (List D) → Option (List UInt8)
  | [] => some []
  | [.int .u8 n] :: es => (strOf es).map (UInt8.ofNat n.toNat :: ·)
  | _ => none

def elemsOf (objs : Store) : A → Option (Nat × List (List D))
  | .d (.sl sz es) => some (sz, es)
  | .nilsl g => some (g, [])
  | .arr id off len n => viewA objs id off len n
  | .d (.str s) => some (1, bytesD s)
  | _ => none

def lenA : A → Option Int
  | .d (.sl _ es) => some es.length
  | .nilsl _ => some 0
  | .arr _ _ len _ => some len
  | .d (.str s) => some s.size
  | .nilm => some 0
  | _ => none

def appendA (objs : Store) (dr : Option Nat) (sz bytes : Nat) (s x : A) : Option (A × Store) :=
  match elemsOf objs x with
  | none => none
  | some (sz', xs) =>
    if (sz' = sz ∨ xs = []) ∧ 0 < sz ∧ 0 < bytes then
      match s with
      | .nilsl _ => if xs.length * bytes ≤ 140737488355328 then
          let (id, objs1) := newO objs dr (.arr sz xs false)
          some (.arr id 0 xs.length xs.length, objs1) else none
      | .arr id off len n => match getO objs id with
        | .arr sz0 es fz => if sz0 = sz ∧ n = es.length then
            (if off = 0 ∧ len = es.length then
              (if (es.length + xs.length) * bytes ≤ 140737488355328 then
                some (.arr id 0 (es ++ xs).length (es ++ xs).length, objs.set id (.arr sz (es ++ xs) fz)) else none)
            else if off + len + xs.length ≤ es.length ∧ fz = false then
              some (.arr id off (len + xs.length) n, objs.set id (.arr sz (setRange es (off + len) xs) fz))
            else none)
          else none
        | _ => none
      | _ => none
    else none

/-- A bound, or what stands for it. -/
def boundI (d : Int) : Option A → Option Int
  | none => some d
  | some v => asInt v

def sliceA (P : Program) (objs : Store) (t : TypeId) (x : A) (lo hi mx : Option A) : Option (A × Store) :=
  match lenA x with
  | none => none
  | some len =>
    match boundI len hi, boundI 0 lo, boundI len mx with
    | some h, some l, some m =>
      if 0 ≤ l ∧ l ≤ h ∧ h ≤ m ∧ m ≤ len ∧ (mx.isSome → hi.isSome) then
        match x with
        | .d (.str s) => match P.underlying t with
          | some .string => if mx.isSome then none else some (.d (.str (s.extract l.toNat h.toNat)), objs)
          | _ => none
        | .d (.sl sz es) => match elemT P t with
          | some (z, _) => if z = sz ∧ 0 < sz then
              (if mx.isSome ∧ m = 0 then some (.nilsl sz, objs) else some (.d (.sl sz ((es.take h.toNat).drop l.toNat)), objs)) else none
          | none => none
        | .nilsl g => match elemT P t with
          | some _ => some (.nilsl g, objs)
          | none => none
        | .arr id off ln n => match elemT P t, getO objs id with
          | some (z, _), .arr sz es _ => if z = sz ∧ 0 < sz ∧ n = es.length ∧ off + ln ≤ es.length then
              (if mx.isSome then
                (if m = 0 then some (.nilsl sz, objs) else some (.d (.sl sz ((((es.drop off).take ln).take h.toNat).drop l.toNat)), objs.set id (.arr sz es true)))
               else some (.arr id (off + l.toNat) (h.toNat - l.toNat) n, objs)) else none
          | _, _ => none
        | _ => none
      else none
    | _, _, _ => none

def indexAddrA (P : Program) (objs : Store) (t : TypeId) (x i : A) : Option A :=
  match asInt i with
  | none => none
  | some i => if 0 ≤ i then
      match x with
      | .d (.sl sz es) => match elemT P t with
        | some (z, _) => if z = sz ∧ 0 < z then (match es[i.toNat]? with | some e => some (.cp e) | none => none) else none
        | none => none
      | .arr id off len n => match elemT P t, getO objs id with
        | some (z, _), .arr sz es _ => if z = sz ∧ i.toNat < len ∧ n = es.length ∧ off + len ≤ es.length then some (.ep id (off + i.toNat) 0 n) else none
        | _, _ => none
      | .bp id off => match P.underlying t with
        | some (.array len e) => match sizeT P e with
          | some z => if i < len then some (.bp id (off + i.toNat * z)) else none
          | none => none
        | _ => none
      | .cp cs => match P.underlying t with
        | some (.array len e) => match sizeT P e with
          | some z => if i < len then some (.cp (cs.drop (i.toNat * z))) else none
          | none => none
        | _ => none
      | _ => none
    else none

def findMp (k : D) : List (D × A) → Option (Option A)
  | [] => some none
  | (q, v) :: es => match eqD k q with
    | some true => some (some v)
    | some false => findMp k es
    | none => none

def putMp (k : D) (v : A) : List (D × A) → Option (List (D × A))
  | [] => some [(k, v)]
  | (q, u) :: es => match eqD k q with
    | some true => some ((k, v) :: es)
    | some false => (putMp k v es).map ((q, u) :: ·)
    | none => none

def mapT (P : Program) (t : TypeId) : Option (TypeId × TypeId) :=
  match P.underlying t with
  | some (.map k e) => match P.underlying k with
    | some (.int _) | some .string => some (k, e)
    | _ => none
  | _ => none

/-- Is it a key of this type? -/
def keyOk (P : Program) (kt : TypeId) (k : D) : Bool :=
  match P.underlying kt, k with
  | some (.int k), .int k' _ => decide (k' = k)
  | some .string, .str _ => true
  | _, _ => false

def foldI (f : Int → Int → Int) : List A → IntKind → Int → Option A
  | [], k, n => some (.d (.int k n))
  | .d (.int k' m) :: rest, k, n => if k' = k then foldI f rest k (f n m) else none
  | _, _, _ => none

def mapOf (objs : Store) : A → Option (List (D × A))
  | .mp id => match getO objs id with | .mp es => some es | _ => none
  | .nilm => some []
  | _ => none

def builtinA (P : Program) (objs : Store) (dr : Option Nat) (b : Builtin) (tys : List TypeId) (args : List A) : Option (A × Store) :=
  match b, args, tys with
  | .len, [x], [t] => match P.underlying t with
    | some .string => match x with
      | .d (.str s) => some (.d (.int .i64 s.size), objs)
      | _ => none
    | some (.slice _) => match x with
      | .d (.str _) | .nilm => none
      | x => (lenA x).map fun n => (.d (.int .i64 n), objs)
    | some (.map _ _) => (mapOf objs x).map fun es => (.d (.int .i64 es.length), objs)
    | some (.array n _) => some (.d (.int .i64 n), objs)
    | _ => none
  | .append, [s, x], [t, u] => match elemT P t with
    | some (z, by_) => match P.underlying u with
      | some (.slice _) | some .string => if zsizeT P t = some z then appendA objs dr z by_ s x else none
      | _ => none
    | none => none
  | .min, .d (.int k n) :: rest, _ => (foldI (fun x y => if y < x then y else x) rest k n).map fun a => (a, objs)
  | .max, .d (.int k n) :: rest, _ => (foldI (fun x y => if y > x then y else x) rest k n).map fun a => (a, objs)
  | _, _, _ => none

def convertA (P : Program) (objs : Store) (src dst : TypeId) (x : A) : Option (A × Store) :=
  match P.underlying src, P.underlying dst, x with
  | some (.int _), some (.int k), .d (.int _ n) => some (.d (.int k (k.wrap n)), objs)
  | some .string, some .string, .d (.str s) => some (.d (.str s), objs)
  | some .string, some (.slice e), .d (.str s) => match P.underlying e, sizeT P e with
    | some (.int .u8), some 1 => some (.d (.sl 1 (bytesD s)), objs)
    | _, _ => none
  | some (.slice e), some .string, x => match P.underlying e, elemsOf objs x with
    | some (.int .u8), some (_, es) => match x with
      | .d (.str _) => none
      | _ => match strOf es with | some l => some (.d (.str ⟨l.toArray⟩), objs) | none => none
    | _, _ => none
  | _, _, _ => none

def lookupA (P : Program) (objs : Store) (kt : TypeId) (z : A) (m : A) (k : D) (ok : Bool) : Option (A × Store) :=
  if keyOk P kt k then
    match mapOf objs m with
    | some es => match findMp k es with
      | some (some v) => some (if ok then .tup [v, .d (.bool true)] else v, objs)
      | some none => some (if ok then .tup [z, .d (.bool false)] else z, objs)
      | none => none
    | none => none
  else none

def mapPutA (P : Program) (objs : Store) (kt : TypeId) (id : Nat) (k : D) (x : A) : Option (A × Store) :=
  if keyOk P kt k ∧ x.flat then
    match getO objs id with
    | .mp es => match exA objs x with
      | some v => match putMp k v es with
        | some es1 => some (.top, (shutA objs x).set id (.mp es1))
        | none => none
      | none => none
    | _ => none
  else none

def faA (o : Nat) : A → Option A
  | .bp id off => some (.bp id (off + o))
  | .ep id i off m => some (.ep id i (off + o) m)
  | .cp cs => some (.cp (cs.drop o))
  | _ => none

def indexA (P : Program) (objs : Store) (t : TypeId) (x i : A) : Option (A × Store) :=
  match P.underlying t, x, asInt i with
  | some .string, .d (.str s), some i => if 0 ≤ i then (match s.data.toList[i.toNat]? with | some b => some (.d (.int .u8 b.toNat), objs) | none => none) else none
  | some (.array len e), .agg cs, some i => match sizeT P e, isAggT P e with
    | some n, some ag => if 0 ≤ i ∧ i < len ∧ i.toNat * n + n ≤ cs.length then (cellsTo ag ((cs.drop (i.toNat * n)).take n)).map fun v => (v, objs) else none
    | _, _ => none
  | _, _, _ => none

/-- One operation: its value, and the objects behind it. -/
def opA (P : Program) (H : Hints) (call : FuncId → List A → Store → Option (A × Store)) (ts : List A) (objs : Store) (dr : Option Nat) (ty : TypeId) : Op → Option (A × Store)
  | .move x | .assign x => some (evT P ts ty x, objs)
  | .pick c a b => match ev ts c with
    | .d (.bool t) => some (if t then ev ts a else ev ts b, objs)
    | _ => none
  | .alloc e => match zeroA P e with
    | some z => if sizeT P e = some z.length ∧ z.all A.leaf then let (id, o1) := newO objs dr (.box z); some (.bp id 0, o1) else none
    | none => none
  | .box e x => let cs := (evT P ts e x).cells
    if cs.all A.leaf then let (id, o1) := newO objs dr (.box cs); some (.bp id 0, o1) else none
  | .build t parts => match buildA P ts t parts.toList with
    | some cs => some (.agg cs, objs)
    | none => none
  | .buildSlice t len parts => match P.underlying t with
    | some (.slice e) => match zeroA P e, elemT P t with
      | some z, some (n, _) => match toDs [] z with
        | some zd => if zd.length = n ∧ z.length = n ∧ 0 < n ∧ len * n ≤ 16777216 then
            match elemsA P ts objs e n (List.replicate len zd) parts.toList with
            | some (es, objs1) => let (id, o1) := newO objs1 dr (.arr n es false); some (.arr id 0 len len, o1)
            | none => none
          else none
        | none => none
      | _, _ => none
    | _ => none
  | .load t a => (loadA P objs t (ev ts a)).map fun v => (v, objs)
  | .store t a x => (storeA P objs t (ev ts a) (evT P ts t x)).map fun o => (.top, o)
  | .nilCheck x => match isNil (ev ts x) with
    | some false => some (ev ts x, objs)
    | _ => none
  | .binOp op t x y _ => (binA P op t (ev ts x) (ev ts y)).map fun v => (v, objs)
  | .unOp op _ x => match op, ev ts x with
    | .not, .d (.bool b) => some (.d (.bool !b), objs)
    | .neg, .d (.int k n) => some (.d (.int k (k.wrap (0 - n))), objs)
    | _, _ => none
  | .convert s t x => convertA P objs s t (ev ts x)
  | .makeFunc (.func f) a b => some (.fn f (a.toList.map (ev ts)) (b.toList.map (ev ts)), objs)
  | .makeMap _ none => let (id, o1) := newO objs dr (.mp []); some (.mp id, o1)
  | .makeSlice t l c => match P.underlying t, elemT P t, asInt (ev ts l), asInt (ev ts c) with
    | some (.slice e), some (n, by_), some len, some cap => match zeroA P e with
      | some z => match toDs [] z with
        | some zd => if 0 ≤ len ∧ cap = len ∧ zd.length = n ∧ z.length = n ∧ 0 < n ∧ 0 < by_ ∧ len * by_ ≤ 140737488355328 then
            let (id, o1) := newO objs dr (.arr n (List.replicate len.toNat zd) false)
            some (.arr id 0 len.toNat len.toNat, o1) else none
        | none => none
      | none => none
    | _, _, _, _ => none
  | .slice t x l h m => sliceA P objs t (ev ts x) (l.map (ev ts)) (h.map (ev ts)) (m.map (ev ts))
  | .fieldAddr s x f => match fieldT P s f with
    | some (o, n, _) => if 0 < n then (faA o (ev ts x)).map fun v => (v, objs) else none
    | none => none
  | .field t x f => match fieldT P t f, ev ts x with
    | some (o, n, ag), .agg cs => if o + n ≤ cs.length then (cellsTo ag ((cs.drop o).take n)).map fun v => (v, objs) else none
    | _, _ => none
  | .indexAddr t x i => (indexAddrA P objs t (ev ts x) (ev ts i)).map fun v => (v, objs)
  | .index t x i => indexA P objs t (ev ts x) (ev ts i)
  | .lookup t m k ok => match mapT P t, ev ts k with
    | some (kt, e), .d k => match zeroV P e with
      | some z => lookupA P objs kt z (ev ts m) k ok
      | none => none
    | _, _ => none
  | .mapUpdate t m k x | .insert t m k x => match mapT P t, ev ts m, ev ts k with
    | some (kt, e), .mp id, .d k => mapPutA P objs kt id k (evT P ts e x)
    | _, _, _ => none
  | .extract x i => match ev ts x with
    | .tup vs => match vs[i]? with | some v => some (v, objs) | none => none
    | _ => none
  | .call c => match c.callee with
    | .builtin b => builtinA P objs dr b c.argTypes.toList (c.args.toList.map (ev ts))
    | .value g => match ev ts g with
      | .fn f a b => callA H call f (a ++ (c.args.toList.zipIdx.map fun (x, i) => evT P ts (c.argTypes.getD i 0) x) ++ b) objs dr
      | _ => none
    | _ => none
  | _ => none

/-- Nil slices become local arrays. -/
def freshA (objs : Store) (v : A) : List Nat → Option (A × Store)
  | [] => some (v, objs)
  | c :: cs => match v with
    | .nilsl g => some (.arr objs.length 0 0 0, objs ++ [.arr g [] false])
    | .bp id _ => match getO objs id with
      | .box bs => match bs[c]? with
        | some (.nilsl g) => freshA (objs.set id (.box (bs.set c (.arr objs.length 0 0 0))) ++ [.arr g [] false]) v cs
        | _ => none
      | _ => none
    | .agg bs => match bs[c]? with
      | some (.nilsl g) => freshA (objs ++ [.arr g [] false]) (.agg (bs.set c (.arr objs.length 0 0 0))) cs
      | _ => none
    | _ => none

def wantedA (ops : List Oper) (ts : List A) (o : Oper) : Option Bool :=
  match o.guard with
  | none => some true
  | some (j, w) => match ops[j]? with
    | some q => match q.dst with
      | some t => match ts.getD t .top with
        | .d (.bool b) => some (b == w)
        | .un => some false
        | _ => none
      | none => none
    | none => none

def putA (ts : List A) (d : Option Tmp) (v : A) : List A := match d with | some t => ts.set t v | none => ts

def stepA (P : Program) (H : Hints) (call : FuncId → List A → Store → Option (A × Store)) (f rid : Nat) (ops : List Oper) (dr : Option Nat) (i : Nat) (o : Oper) (s : St) : Option St :=
  match wantedA ops s.tmps o with
  | some true => match opA P H call s.tmps s.objs dr o.type o.op with
    | some (v, objs) => match H.fresh f rid i with
      | [] => some ⟨putA s.tmps o.dst v, objs⟩
      | l => match dr with
        | none => match freshA objs v l with
          | some (v, objs) => some ⟨putA s.tmps o.dst v, objs⟩
          | none => none
        | some _ => none
    | none => none
  | some false => some ⟨putA s.tmps o.dst .un, s.objs⟩
  | none => none

def runOps (P : Program) (H : Hints) (call : FuncId → List A → Store → Option (A × Store)) (f rid : Nat) (ops : List Oper) : Nat → List Oper → St → Option St
  | _, [], s => some s
  | i, o :: os, s => match stepA P H call f rid ops none i o s with
    | some s1 => runOps P H call f rid ops (i + 1) os s1
    | none => none

/-- What a call looks at and changes. -/
def footCall (H : Hints) (objs : Store) (f : FuncId) (args : List A) : List Nat :=
  if H.inPlace f then reach objs (4 * objs.length + 40) (refsAs args) []
  else match exAs objs args with
    | some args1 => refsAs args ++ reach (shutAs objs args) (4 * (shutAs objs args).length + 40) (refsAs args1) []
    | none => []

def footB (b : Builtin) (args : List A) : List Nat × List Nat :=
  match b with
  | .append => ([], refsAs args)
  | _ => (refsAs args, [])

/-- What a drawn region's operation looks at, and what it changes: objects. -/
def footA (P : Program) (H : Hints) (ts : List A) (objs : Store) (op : Op) : List Nat × List Nat :=
  match op with
  | .load _ a => (refsA (ev ts a), [])
  | .store t a x => ([], refsA (ev ts a) ++ refsA (evT P ts t x))
  | .buildSlice _ _ parts => ([], parts.toList.flatMap fun p => refsA (ev ts p.2))
  | .convert _ _ x => (refsA (ev ts x), [])
  | .slice _ x _ _ mx => if mx.isSome then ([], refsA (ev ts x)) else (refsA (ev ts x), [])
  | .indexAddr _ x _ => (refsA (ev ts x), [])
  | .lookup _ m _ _ => (refsA (ev ts m), [])
  | .mapUpdate _ m _ x | .insert _ m _ x => ([], refsA (ev ts m) ++ refsA (ev ts x))
  | .call c => match c.callee with
    | .builtin b => footB b (c.args.toList.map (ev ts))
    | .value g => match ev ts g with
      | .fn f a b => ([], footCall H objs f (a ++ (c.args.toList.zipIdx.map fun (x, i) => evT P ts (c.argTypes.getD i 0) x) ++ b))
      | _ => ([], [])
    | _ => ([], [])
  | _ => ([], [])

/-- For each operation the operations that surely come before it, as a number's bits. -/
def beforeA : List Oper → Nat → List Nat → List Nat
  | [], _, acc => acc
  | o :: os, i, acc => beforeA os (i + 1) (acc ++ [o.after.toList.foldl (fun m e => if Region.binds .any e then m ||| (1 <<< e.on) ||| acc.getD e.on 0 else m) 0])

/-- The temporaries that an operation looks at. -/
def looksA (ops : List Oper) (o : Oper) : List Tmp :=
  (o.op.operands.toList.filterMap fun | .tmp t => some t | _ => none) ++ (match o.guard with | some (g, _) => ((ops[g]?).bind (·.dst)).toList | none => [])

def apartA (ops : List Oper) (x y : Oper) : Bool :=
  (match x.dst with | some d => !(looksA ops y).contains d && y.dst != some d | none => true) && (match y.dst with | some d => !(looksA ops x).contains d | none => true)

def disj (a b : List Nat) : Bool := a.all fun x => !b.contains x

/-- Is operation i, with what it looks at and changes, free to change places with each of the earlier ones that it need not follow? -/
def freeA (ops : List Oper) (bef : Nat) (o : Oper) (fp : List Nat × List Nat) : Nat → List (Oper × (List Nat × List Nat)) → Bool
  | _, [] => true
  | j, (q, fq) :: rest => (bef.testBit j || (apartA ops q o && disj fq.2 (fp.1 ++ fp.2) && disj fq.1 fp.2)) && freeA ops bef o fp (j + 1) rest

def isGone : Option O → Bool
  | some .gone => true
  | _ => false

/-- A region that draws its order: in the text's order, if no other order can tell. -/
def runDrawn (P : Program) (H : Hints) (call : FuncId → List A → Store → Option (A × Store)) (f rid : Nat) (ops : List Oper) (bef : List Nat) (base : Nat) : Nat → List Oper → List (Oper × (List Nat × List Nat)) → St → Option St
  | _, [], _, s => some s
  | i, o :: os, done, s =>
    match wantedA ops s.tmps o with
    | none => none
    | some w =>
      let ft := if w then footA P H s.tmps s.objs o.op else ([], [])
      let fp := (ft.1, (base + i) :: ft.2)
      if freeA ops (bef.getD i 0) o fp 0 done && o.after.toList.all (fun e => !Region.binds .any e || decide (e.on < i)) && (H.fresh f rid i).isEmpty && isGone s.objs[base + i]? then
        match stepA P H call f rid ops (some (base + i)) i o s with
        | some s1 => runDrawn P H call f rid ops bef base (i + 1) os (done ++ [(o, fp)]) s1
        | none => none
      else none

def keepA : List Nat → Nat → List A → List A
  | _, _, [] => []
  | ks, i, v :: vs => (if ks.contains i then v else .top) :: keepA ks (i + 1) vs

def refsBelow (n : Nat) (vs : List A) : Bool := (refsAs vs).all (· < n)

/-- What is left behind a call: the m objects that came in, and what is reached from them and from the result. -/
def leaveA (m : Nat) (r : A) (objs : Store) : Option (A × Store) :=
  let ρ := reach objs (4 * objs.length + 40) (List.range m ++ refsA r) []
  if ρ.all (· < objs.length) then match renA (idx ρ) r, renOs (idx ρ) (ρ.map (getO objs)) with
  | some r2, some o2 => some (r2, o2)
  | _, _ => none
  else none

def pickA : List Nat → List A → Nat → A
  | k :: ks, v :: vs, t => if k = t then v else pickA ks vs t
  | _, _, _ => .top

def scatterA (n : Nat) (ks : List Nat) (vs : List A) : List A := (List.range n).map (pickA ks vs)

/-- At a loop's head: what is not kept is forgotten; the objects that are kept get new numbers. -/
def headA (m : Nat) (h : Option (List Nat × Nat)) (s : St) : Option St :=
  match h with
  | none => some s
  | some (ks, _) => match leaveA m (.tup (ks.map fun t => s.tmps.getD t .top)) s.objs with
    | some (.tup vs, os) => some ⟨scatterA s.tmps.length ks vs, os⟩
    | _ => none

def loopA (step : St → Option (X × St)) : Nat → St → Option (X × St)
  | 0, _ => none
  | k + 1, s => match step s with
    | some (.normal, s1) => loopA step k s1
    | r => r

def codeA (P : Program) (H : Hints) (call : FuncId → List A → Store → Option (A × Store)) (f k m : Nat) : Nat → Code → St → Option (X × St)
  | _, .skip, s => some (.normal, s)
  | _, .ret, s => some (.ret, s)
  | _, .exit id, s => some (.exit id, s)
  | b, .seq x y, s => match codeA P H call f k m b x s with
    | some (.normal, s1) => codeA P H call f k m b y s1
    | r => r
  | b, .cond c x y, s => match ev s.tmps c with
    | .d (.bool t) => if t then codeA P H call f k m b x s else codeA P H call f k m b y s
    | _ => none
  | _, .block id x, s => match codeA P H call f k m id x s with
    | some (.exit j, s1) => if j = id then some (.normal, s1) else some (.exit j, s1)
    | r => r
  | b, .loop x, s => loopA (fun s => match headA m (H.head f b) s with | some s1 => codeA P H call f k m b x s1 | none => none) k s
  | _, .region rid ops false, s => (runOps P H call f rid ops.toList 0 ops.toList s).map fun s => (.normal, s)
  | _, .region rid ops true, s =>
      (runDrawn P H call f rid ops.toList (beforeA ops.toList 0 []) s.objs.length 0 ops.toList [] ⟨s.tmps, s.objs ++ List.replicate ops.size .gone⟩).map fun s => (.normal, s)
  | _, _, _ => none

/-- A result: data, or (own) a local array. -/
def resA (H : Hints) (f : FuncId) (objs : Store) (v : A) : Option (A × Store) :=
  if H.own f then
    match v with
    | .nilsl g => some (.arr objs.length 0 0 0, objs ++ [.arr g [] false])
    | v => some (v, objs)
  else if v.flat then match exA objs v with
    | some r => some (r, shutA objs v)
    | none => none
  else none

def resultA (P : Program) (ts : List A) (objs : Store) : ResultVar → Option A
  | .tmp t => some (ts.getD t .top)
  | .cell a t => loadA P objs t (ts.getD a .top)

def resultsA (P : Program) (H : Hints) (f : FuncId) (ts : List A) (objs : Store) : List ResultVar → Option (List A × Store)
  | [] => some ([], objs)
  | r :: rs => match resultA P ts objs r with
    | some v => match resA H f objs v with
      | some (x, objs1) => match resultsA P H f ts objs1 rs with
        | some (xs, objs2) => some (x :: xs, objs2)
        | none => none
      | none => none
    | none => none

/-- Functions whose contracts are proved by other means. -/
abbrev Ext := FuncId → Option (List A → Store → Option (A × Store))

def callF (P : Program) (H : Hints) (E : Ext) : Nat → FuncId → List A → Store → Option (A × Store)
  | 0, _, _, _ => none
  | k + 1, f, args, inc =>
    match E f with
    | some g => g args inc
    | none =>
    match P.funcs[f]? with
    | none => none
    | some fn => match fn.body with
      | none => none
      | some c =>
        if fn.name = "runtime.NumGoroutine" then none else
        match codeA P H (callF P H E k) f k inc.length 0 c ⟨args ++ List.replicate (fn.ntmps - args.length) .un, inc⟩ with
        | some (.exit _, _) => none
        | some (_, s) => match resultsA P H f s.tmps s.objs fn.results.toList with
          | some ([r], objs) => leaveA inc.length r objs
          | some (rs, objs) => leaveA inc.length (.tup rs) objs
          | none => none
        | none => none

/-- slices.Clone -/
def extClone : List A → Store → Option (A × Store)
  | [.d (.sl sz es)], [] => some (.arr 0 0 es.length es.length, [.arr sz es false])
  | _, _ => none

end Ab
