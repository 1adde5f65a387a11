/- The evaluator's instructions, and what each does on an abstract heap. -/
import Derived.Test.YtjoemiadbccljaaGreatHvA
import GoSem.Core.Code
import GoSem.Core.View
namespace Go.Hv
variable [Env]

inductive Opd where
  | t (n : Nat)
  | c (v : AVal)
  deriving Inhabited

def Opd.ev (ts : List AVal) : Opd → AVal
  | .t n => ts.getD n aundef
  | .c v => v

/-- How two values of a type are compared. -/
inductive EqK where
  | int | bool | str | ptr | slice | map | func
  | struct (fs : List (Nat × Option Nat × EqK))
  deriving Inhabited

inductive IOp where
  | mov (x : Opd)
  | pick (c a b : Opd)
  | alloc (zs : List AVal) (elem : TypeId)
  | box (elem : TypeId) (x : Opd)
  | build (zs : List AVal) (parts : List (Nat × Nat × Opd))
  | bslice (elem : TypeId) (sz : Nat) (zs : List AVal) (parts : List (Nat × Opd)) (len : Nat)
  | load (agg : Option Nat) (x : Opd)
  | store (sz : Nat) (x v : Opd)
  | nilck (x : Opd)
  | bin (op : BinOp) (x y : Opd)
  | eq (neg : Bool) (k : EqK) (x y : Opd)
  | un (op : UnOp) (x : Opd)
  | cvInt (k : IntKind) (x : Opd)
  | cvStr (x : Opd)
  | cvBytes (x : Opd)
  | mkFunc (fn : Fn) (first captured : List Opd)
  | mkMap
  | mkSlice (elem : TypeId) (sz bytes : Nat) (zs : List AVal) (l c : Opd)
  | sliceS (x : Opd) (lo hi : Option Opd)
  | sliceL (sz : Nat) (x : Opd) (lo hi mx : Option Opd)
  | sliceA (n sz : Nat) (x : Opd) (lo hi mx : Option Opd)
  | faddr (off : Nat) (x : Opd)
  | fld (off : Nat) (agg : Option Nat) (x : Opd)
  | iaddrS (sz : Nat) (x i : Opd)
  | iaddrA (n sz : Nat) (x i : Opd)
  | idxA (n sz : Nat) (agg : Option Nat) (x i : Opd)
  | idxS (x i : Opd)
  | lookup (k : EqK) (zero : AVal) (ok : Bool) (m x : Opd)
  | mapup (k : EqK) (m x v : Opd)
  | mdel (k : EqK) (m x : Opd)
  | mclear (m : Opd)
  | sclear (sz : Nat) (zs : List AVal) (x : Opd)
  | mrange (m : Opd)
  | mnext (x : Opd)
  | mentry (x : Opd)
  | extract (x : Opd) (i : Nat)
  | call (f : FuncId) (args : List Opd)
  | callV (f : Opd) (args : List Opd)
  | lenS (x : Opd)
  | lenL (x : Opd)
  | lenM (x : Opd)
  | append (elem : TypeId) (sz bytes : Nat) (s x : Opd)
  | copy (sz : Nat) (d s : Opd)
  | max (xs : List Opd)
  | min (xs : List Opd)
  | aload (k : IntKind) (x : Opd)
  | astore (x v : Opd)
  | acas (x o n : Opd)
  | aadd (k : IntKind) (x d : Opd)
  | bad
  deriving Inhabited

structure IOper where
  dst : Option Nat
  op : IOp
  guard : Option (Nat × Bool)
  deriving Inhabited

inductive ICode where
  | skip
  | region (ops : List IOper)
  | draw (ops : List (IOper × List Nat))
  | seq (a b : ICode)
  | cond (c : Opd) (a b : ICode)
  | block (id : Nat) (a : ICode)
  | loop (a : ICode)
  | exit (id : Nat)
  | ret
  | bad
  deriving Inhabited

inductive IRes where
  | t (n : Nat)
  | cell (n : Nat) (agg : Option Nat)
  deriving Inhabited

structure IFunc where
  ntmps : Nat
  results : List IRes
  body : ICode
  deriving Inhabited

/-! The parts of the instructions. -/

def splice (cs : List AVal) (off : Nat) (vs : List AVal) : List AVal := cs.take off ++ vs ++ cs.drop (off + vs.length)

def fillA (ts : List AVal) : List (Nat × Nat × Opd) → List AVal → Option (List AVal)
  | [], cs => some cs
  | (off, sz, x) :: rest, cs =>
    let vs := (x.ev ts).cells
    if vs.length = sz ∧ off + sz ≤ cs.length then fillA ts rest (splice cs off vs) else none

def sub (cs : List AVal) (off n : Nat) : List AVal := (cs.drop off).take n

/-- A part of a row of cells. -/
def partA (cs : List AVal) (off : Nat) : Option Nat → Option AVal
  | some n => if off + n ≤ cs.length then some (.agg (sub cs off n)) else none
  | none => cs[off]?

def loadA (agg : Option Nat) : AVal → M AVal
  | .ptr (some (k, off)) => do
    match ← look k with
    | .cells c _ _ => M.ofOption (partA c off agg)
    | _ => M.fail
  | _ => M.fail

def storeA (sz : Nat) (x : AVal) (vs : List AVal) : M Unit :=
  match x with
  | .ptr (some (k, off)) => do
    match ← look k with
    | .cells c e op =>
      if vs.length = sz ∧ off + sz ≤ c.length ∧ vs.all AVal.oneCell = true then write k (.cells (splice c off vs) e op) else M.fail
    | _ => M.fail
  | _ => M.fail

def binI (op : BinOp) (k : IntKind) (a b : Int) : Option AVal :=
  match op with
  | .add => some (.int k (k.wrap (a + b)))
  | .sub => some (.int k (k.wrap (a - b)))
  | .mul => some (.int k (k.wrap (a * b)))
  | .quo => if b = 0 then none else some (.int k (k.wrap (a.tdiv b)))
  | .rem => if b = 0 then none else some (.int k (a.tmod b))
  | .and => some (.int k (k.wrap (BitVec.ofInt k.bits a &&& BitVec.ofInt k.bits b).toNat))
  | .or => some (.int k (k.wrap (BitVec.ofInt k.bits a ||| BitVec.ofInt k.bits b).toNat))
  | .xor => some (.int k (k.wrap (BitVec.ofInt k.bits a ^^^ BitVec.ofInt k.bits b).toNat))
  | .andNot => some (.int k (k.wrap (BitVec.ofInt k.bits a &&& ~~~ BitVec.ofInt k.bits b).toNat))
  | .eql => some (.bool (a == b))
  | .neq => some (.bool (a != b))
  | .lss => some (.bool (a < b))
  | .leq => some (.bool (a ≤ b))
  | .gtr => some (.bool (a > b))
  | .geq => some (.bool (a ≥ b))
  | _ => none

def shiftI (op : BinOp) (k : IntKind) (a b : Int) : Option AVal :=
  if b < 0 then none else
  match op with
  | .shl => some (.int k (k.wrap (a * 2 ^ (min b.toNat k.bits))))
  | .shr => some (.int k (a.fdiv (2 ^ (min b.toNat k.bits))))
  | _ => none

def lessB : List UInt8 → List UInt8 → Bool
  | _, [] => false
  | [], _ :: _ => true
  | a :: x, b :: y => a < b || (a == b && lessB x y)

def binS (op : BinOp) (x y : List UInt8) : Option AVal :=
  match op with
  | .add => if x.length + y.length < 9223372036854775807 then some (.str (x ++ y)) else none
  | .eql => some (.bool (x == y))
  | .neq => some (.bool !(x == y))
  | .lss => some (.bool (lessB x y))
  | .leq => some (.bool (lessB x y || x == y))
  | .gtr => some (.bool !(lessB x y || x == y))
  | .geq => some (.bool !(lessB x y))
  | _ => none

/-- The comparison, its sides exchanged. -/
def flipC : BinOp → BinOp
  | .lss => .gtr
  | .leq => .geq
  | .gtr => .lss
  | .geq => .leq
  | op => op

def binA (op : BinOp) (x y : AVal) : Option AVal :=
  match x, y with
  | .int k a, .int k' b => if op = .shl ∨ op = .shr then shiftI op k a b else if k = k' then binI op k a b else none
  | .str a, .str b => binS op a b
  | .tok n, .int k c => (Env.cmp op n k c).map .bool
  | .tok n, .str [] =>
    match op, Env.empty n with
    | .eql, some b => some (.bool b)
    | .neq, some b => some (.bool !b)
    | _, _ => none
  | .int k c, .tok n => (Env.cmp (flipC op) n k c).map .bool
  | _, _ => none

def unA (op : UnOp) (x : AVal) : Option AVal :=
  match op, x with
  | .neg, .int k n => some (.int k (k.wrap (0 - n)))
  | .xor, .int k n => some (.int k (k.wrap (BitVec.ofInt k.bits (if k.signed then -1 else k.max) ^^^ BitVec.ofInt k.bits n).toNat))
  | .not, .bool b => some (.bool !b)
  | _, _ => none

def eqInt : AVal → AVal → M Bool
  | .int k a, .int k' b => if k = k' then pure (a == b) else M.fail
  | _, _ => M.fail
def eqBool : AVal → AVal → M Bool
  | .bool a, .bool b => pure (a == b)
  | _, _ => M.fail
def eqStr : AVal → AVal → M Bool
  | .str a, .str b => pure (a == b)
  | _, _ => M.fail
def eqAddr (p q : Nat × Nat) : M Bool := do
  match ← look p.1, ← look q.1 with
  | .cells .., .cells .. => pure (p.1 == q.1 && p.2 == q.2)
  | _, _ => M.fail
def eqPtr : AVal → AVal → M Bool
  | .ptr a, .ptr b =>
    match a, b with
    | none, b => pure b.isNone
    | some _, none => pure false
    | some p, some q => eqAddr p q
  | _, _ => M.fail
/-- nil, or not; of two that aren't nothing is told. -/
def nilOf : EqK → AVal → Option Bool
  | .slice, .slice a _ _ _ => some a.isNone
  | .slice, .eslice => some false
  | .map, .map r => some r.isNone
  | .func, .nilFunc => some true
  | .func, .func .. => some false
  | _, _ => none
def eqNil (k : EqK) (x y : AVal) : M Bool :=
  match nilOf k x, nilOf k y with
  | some true, some b => pure b
  | some false, some true => pure false
  | _, _ => M.fail

/-- The cells of a struct or an array. -/
def cellsOf : AVal → Option (List AVal)
  | .agg cs => some cs
  | _ => none

mutual
def eqA : EqK → AVal → AVal → M Bool
  | .int, x, y => eqInt x y
  | .bool, x, y => eqBool x y
  | .str, x, y => eqStr x y
  | .ptr, x, y => eqPtr x y
  | .struct fs, x, y => match cellsOf x, cellsOf y with
    | some xs, some ys => eqFs fs xs ys
    | _, _ => M.fail
  | .slice, x, y => eqNil .slice x y
  | .map, x, y => eqNil .map x y
  | .func, x, y => eqNil .func x y
termination_by structural k => k
def eqFs : List (Nat × Option Nat × EqK) → List AVal → List AVal → M Bool
  | [], _, _ => pure true
  | (off, agg, k) :: rest, xs, ys =>
    match partA xs off agg, partA ys off agg with
    | some x, some y => do if ← eqA k x y then eqFs rest xs ys else pure false
    | _, _ => M.fail
termination_by structural fs => fs
end

/-- Is it a key of that kind? (a whole number, a text, or a struct of such, cell by cell) -/
def keyFs : List (Nat × Option Nat × EqK) → List AVal → Bool
  | [], [] => true
  | (_, none, .int) :: fs, .int _ _ :: vs => keyFs fs vs
  | (_, none, .str) :: fs, .str _ :: vs => keyFs fs vs
  | _, _ => false

def offsFrom : List (Nat × Option Nat × EqK) → Nat → Bool
  | [], _ => true
  | (o, _, _) :: fs, i => o == i && offsFrom fs (i + 1)

def keyOk : EqK → AVal → Bool
  | .int, .int _ _ => true
  | .str, .str _ => true
  | .struct fs, .agg vs => keyFs fs vs && offsFrom fs 0
  | _, _ => false

/-- Is what stands there a key of that kind? -/
def keyAt (k : EqK) (es : List (AVal × AVal)) (i : Nat) : Bool :=
  match es[i]? with
  | some (y, _) => keyOk k y
  | none => false

/-- The place of a key among entries. -/
def findA (k : EqK) (x : AVal) : List (AVal × AVal) → Nat → M (Option (Nat × AVal))
  | [], _ => pure none
  | (y, v) :: es, i => do if ← eqA k x y then pure (some (i, v)) else findA k x es (i + 1)

def entriesA : AVal → M (List (AVal × AVal))
  | .map none => pure []
  | .map (some r) => do
    match ← look r with
    | .map es _ _ => pure es
    | _ => M.fail
  | _ => M.fail

def lookupA (k : EqK) (zero : AVal) (ok : Bool) (m x : AVal) : M AVal := do
  let es ← entriesA m
  if keyOk k x = false then M.fail else
  match ← findA k x es 0 with
  | some (_, v) => pure (if ok then .tuple [v, .bool true] else v)
  | none => pure (if ok then .tuple [zero, .bool false] else zero)

def mapupA (k : EqK) (m x v : AVal) : M Unit :=
  match m with
  | .map (some r) => do
    match ← look r with
    | .map es bs clk => if keyOk k x = false then M.fail else do
      match ← findA k x es 0 with
      | some (i, _) => if keyAt k es i then write r (.map (es.set i (x, v)) bs clk) else M.fail
      | none => write r (.map (es ++ [(x, v)]) (bs ++ [clk]) (clk + 1))
    | _ => M.fail
  | _ => M.fail

def mdelA (k : EqK) (m x : AVal) : M Unit :=
  match m with
  | .map none => if keyOk k x = false then M.fail else pure ()
  | .map (some r) => do
    match ← look r with
    | .map es bs clk => if keyOk k x = false then M.fail else do
      match ← findA k x es 0 with
      | some (i, _) => write r (.map (es.eraseIdx i) (bs.eraseIdx i) clk)
      | none => pure ()
    | _ => M.fail
  | _ => M.fail

def mclearA (m : AVal) : M Unit :=
  match m with
  | .map none => pure ()
  | .map (some r) => do
    match ← look r with
    | .map _ _ clk => write r (.map [] [] clk)
    | _ => M.fail
  | _ => M.fail

/-- What steps through a map. -/
def rangeA (m : AVal) : M AVal :=
  match m with
  | .map none => do let k ← alloc (.iter none 0 [] 0); pure (.ptr (some (k, 0)))
  | .map (some r) => do
    match ← look r with
    | .map _ _ clk => do let k ← alloc (.iter (some r) clk [] clk); pure (.ptr (some (k, 0)))
    | _ => M.fail
  | _ => M.fail

/-- What may come next: an entry, or the end. -/
def candsA (es : List (AVal × AVal)) (bs : List Nat) (since : Nat) (seen : List Nat) : List (Option ((AVal × AVal) × Nat)) :=
  let left := (es.zip bs).filter fun e => !seen.contains e.2
  let old := left.filter fun e => e.2 < since
  let new := left.filter fun e => e.2 ≥ since
  (if old.isEmpty then [none] else []) ++ (old ++ new).map some

def nextA (x : AVal) : M AVal :=
  match x with
  | .ptr (some (k, 0)) => do
    match ← look k with
    | .iter none _ _ _ => pure (.tuple [.bool false])
    | .iter (some m) since seen last => do
      match ← look m with
      | .map es bs clk =>
        if (!seen.isEmpty && !es.isEmpty && bs.all (· ≥ last)) = true then M.fail else
        match candsA es bs since seen with
        | [none] => pure (.tuple [.bool false])
        | [some ((y, v), b)] => do
          write k (.iter (some m) since (seen ++ [b]) clk)
          pure (.tuple [.bool true, y, v])
        | _ => M.fail
      | _ => M.fail
    | _ => M.fail
  | _ => M.fail

/-- The entry that was come to last. -/
def entryA (x : AVal) : M AVal :=
  match x with
  | .ptr (some (k, 0)) => do
    match ← look k with
    | .iter (some m) _ seen last => do
      match ← look m with
      | .map es bs clk =>
        if clk = last then
          match seen.getLast? with
          | some b => match (es.zip bs).find? (fun e => e.2 == b) with
            | some ((y, v), _) => pure (.tuple [y, v])
            | none => M.fail
          | none => M.fail
        else M.fail
      | _ => M.fail
    | _ => M.fail
  | _ => M.fail

def natOf : AVal → Option Nat
  | .int _ n => if 0 ≤ n then some n.toNat else none
  | _ => none

/-- A bound that may be left out. -/
def boundA (ts : List AVal) (d : Nat) : Option Opd → Option Nat
  | none => some d
  | some x => natOf (x.ev ts)

def sliceLA (ts : List AVal) (sz : Nat) (x : AVal) (lo hi mx : Option Opd) : Option AVal :=
  match x with
  | .slice a len cap false =>
    match boundA ts cap mx, boundA ts len hi, boundA ts 0 lo with
    | some m, some h, some l =>
      if l ≤ h ∧ h ≤ m ∧ m ≤ cap ∧ (mx.isSome = true → hi.isSome = true) then some (.slice (if m = l then a else a.map fun p => (p.1, p.2 + l * sz)) (h - l) (m - l) false) else none
    | _, _, _ => none
  | .slice (some (k, off)) len cap true =>
    match mx with
    | none =>
      match boundA ts len hi, boundA ts 0 lo with
      | some h, some l =>
        if l ≤ h ∧ h ≤ len then
          if l < len ∨ l = 0 then some (.slice (some (k, off + l * sz)) (h - l) (cap + l) true) else some .eslice
        else none
      | _, _ => none
    | some _ =>
      match boundA ts 0 mx, hi, boundA ts len hi, boundA ts 0 lo with
      | some m, some _, some h, some l =>
        if l ≤ h ∧ h ≤ m ∧ m ≤ len then some (.slice (some (k, if m = l then off else off + l * sz)) (h - l) (m - l) false) else none
      | _, _, _, _ => none
  | .eslice =>
    match mx with
    | none => match boundA ts 0 hi, boundA ts 0 lo with
      | some 0, some 0 => some .eslice
      | _, _ => none
    | some _ => none
  | _ => none

def sliceAA (ts : List AVal) (n sz : Nat) (x : AVal) (lo hi mx : Option Opd) : Option AVal :=
  match x with
  | .ptr (some (k, off)) =>
    match boundA ts n mx, boundA ts n hi, boundA ts 0 lo with
    | some m, some h, some l =>
      if l ≤ h ∧ h ≤ m ∧ m ≤ n ∧ (mx.isSome = true → hi.isSome = true) then some (.slice (some (k, if m = l then off else off + l * sz)) (h - l) (m - l) false) else none
    | _, _, _ => none
  | _ => none

def sliceSA (ts : List AVal) (x : AVal) (lo hi : Option Opd) : Option AVal :=
  match x with
  | .str s =>
    match boundA ts s.length hi, boundA ts 0 lo with
    | some h, some l => if l ≤ h ∧ h ≤ s.length then some (.str ((s.drop l).take (h - l))) else none
    | _, _ => none
  | _ => none

/-- The cells that are appended, or copied from. -/
def newsA (sz : Nat) (x : AVal) : M (List AVal × Nat) :=
  match x with
  | .slice none n _ _ => if n = 0 then pure ([], 0) else M.fail
  | .eslice => pure ([], 0)
  | .slice (some (k, off)) n _ _ => do
    match ← look k with
    | .cells c _ _ => if off + n * sz ≤ c.length then pure (sub c off (n * sz), n) else M.fail
    | _ => M.fail
  | .str l => if sz = 1 then pure (l.map fun b => AVal.int .u8 b.toNat, l.length) else M.fail
  | _ => M.fail

/-- Cells are written into a row, from a place on. -/
def spliceAt (k off : Nat) (vs : List AVal) : M Unit := do
  match ← look k with
  | .cells c e op => if off + vs.length ≤ c.length ∧ vs.all AVal.oneCell = true then write k (.cells (splice c off vs) e op) else M.fail
  | _ => M.fail

/-- The elements of a slice are made zero. -/
def sclearA (sz : Nat) (zs : List AVal) (x : AVal) : M Unit :=
  match x with
  | .slice none _ _ _ => pure ()
  | .eslice => pure ()
  | .slice (some (k, off)) n _ _ =>
    if n = 0 then pure () else if zs.length = sz then spliceAt k off (List.replicate n zs).flatten else M.fail
  | _ => M.fail

/-- A new row that may bear more. -/
def growA (elem sz : Nat) (cs : List AVal) (n : Nat) : M AVal := do
  let k ← alloc (.cells cs elem (some sz))
  pure (.slice (some (k, 0)) n 0 true)

def roomA (bytes n : Nat) : Bool := (2 * n + 768) * bytes ≤ 281474976710656 && n ≤ 4611686018427387904

def appendKnown (elem sz bytes : Nat) (base : Option (Nat × Nat)) (len cap : Nat) (news : List AVal) (n : Nat) : M AVal :=
  if len + n ≤ cap then
    match base with
    | none => pure (.slice none (len + n) cap false)
    | some (k, off) => do
      spliceAt k (off + len * sz) news
      pure (.slice (some (k, off)) (len + n) cap false)
  else if roomA bytes (len + n) then
    match base with
    | none => if len = 0 then growA elem sz news n else M.fail
    | some (k, off) => do
      match ← look k with
      | .cells c _ _ => if off + len * sz ≤ c.length then growA elem sz (sub c off (len * sz) ++ news) (len + n) else M.fail
      | _ => M.fail
  else M.fail

def appendOpen (elem sz bytes : Nat) (k len : Nat) (news : List AVal) (n : Nat) : M AVal := do
  match ← look k with
  | .cells c e (some z) =>
    if roomA bytes (len + n) = true ∧ z = sz ∧ e = elem ∧ len * sz ≤ c.length ∧ news.all AVal.oneCell = true then do
      kill k
      growA elem sz (sub c 0 (len * sz) ++ news) (len + n)
    else M.fail
  | _ => M.fail

def appendA (elem sz bytes : Nat) (s x : AVal) : M AVal := do
  let (news, n) ← newsA sz x
  match s with
  | .slice base len cap false => appendKnown elem sz bytes base len cap news n
  | .slice (some (k, 0)) len 0 true => appendOpen elem sz bytes k len news n
  | _ => M.fail

def lenA : AVal → Option Nat
  | .slice _ n _ _ => some n
  | .eslice => some 0
  | .str l => some l.length
  | _ => none

/-- The first elements of a slice, or of a string. -/
def firstA (n : Nat) : AVal → AVal
  | .slice a _ c o => .slice a n c o
  | .str l => .str (l.take n)
  | v => v

def copyA (sz : Nat) (d s : AVal) : M AVal :=
  match lenA d, lenA s with
  | some n, some m => do
    let (cs, _) ← newsA sz (firstA (Min.min m n) s)
    match d with
    | .slice (some (k, off)) _ _ _ => do
      spliceAt k off cs
      pure (.int .i64 (Min.min m n : Nat))
    | .slice none _ _ _ => pure (.int .i64 (Min.min m n : Nat))
    | .eslice => pure (.int .i64 (Min.min m n : Nat))
    | _ => M.fail
  | _, _ => M.fail

def bytesA : List AVal → Option (List UInt8)
  | [] => some []
  | .int .u8 n :: r => (bytesA r).map (UInt8.ofNat n.toNat :: ·)
  | _ => none

def cvBytesA (x : AVal) : M AVal :=
  match x with
  | .slice none _ _ _ => pure (.str [])
  | .eslice => pure (.str [])
  | .slice (some (k, off)) n _ _ => do
    match ← look k with
    | .cells c _ _ => if off + n ≤ c.length then do let l ← M.ofOption (bytesA (sub c off n)); pure (.str l) else M.fail
    | _ => M.fail
  | _ => M.fail

def fold2 (gt : Bool) : AVal → List AVal → Option AVal
  | v, [] => some v
  | .int k x, .int _ y :: r => fold2 gt (.int k (if gt then (if y > x then y else x) else (if y < x then y else x))) r
  | _, _ => none

def maxA (gt : Bool) : List AVal → Option AVal
  | [] => none
  | x :: r => fold2 gt x r

def aloadA (k : IntKind) (x : AVal) : M AVal := do
  match ← loadA none x with
  | .int k' n => if k = k' then pure (.int k n) else M.fail
  | _ => M.fail

def acasA (x o n : AVal) : M AVal := do
  match ← loadA none x, o, n with
  | .int k1 a, .int k2 b, .int k3 c =>
    if k1 = .u64 ∧ k2 = .u64 ∧ k3 = .u64 then
      if a = b then do storeA 1 x [.int .u64 c]; pure (.bool true) else pure (.bool false)
    else M.fail
  | _, _, _ => M.fail

def aaddA (k : IntKind) (x d : AVal) : M AVal := do
  match ← loadA none x, d with
  | .int k' a, .int k2 b => if k = k' ∧ k2 = k then do storeA 1 x [.int k (k.wrap (a + b))]; pure (.int k (k.wrap (a + b))) else M.fail
  | _, _ => M.fail

def mkSliceA (elem sz bytes : Nat) (zs : List AVal) (l c : AVal) : M AVal :=
  match l, c with
  | .int _ a, .int _ b =>
    if 0 ≤ a ∧ a ≤ b ∧ b.toNat * bytes ≤ 281474976710656 ∧ b.toNat * sz = (List.replicate b.toNat zs).flatten.length ∧ b < 9223372036854775807 then do
      let k ← alloc (.cells (List.replicate b.toNat zs).flatten elem none)
      pure (.slice (some (k, 0)) a.toNat b.toNat false)
    else M.fail
  | _, _ => M.fail

def fillS (ts : List AVal) (sz : Nat) : List (Nat × Opd) → List AVal → Option (List AVal)
  | [], cs => some cs
  | (i, x) :: rest, cs =>
    let vs := (x.ev ts).cells
    if vs.length = sz ∧ i * sz + sz ≤ cs.length then fillS ts sz rest (splice cs (i * sz) vs) else none

def faddrA (off : Nat) : AVal → Option AVal
  | .ptr (some (k, o)) => some (.ptr (some (k, o + off)))
  | _ => none

def iaddrSA (sz : Nat) (x i : AVal) : Option AVal :=
  match x, i with
  | .slice (some (k, o)) n _ _, .int _ j => if 0 ≤ j ∧ j < n then some (.ptr (some (k, o + j.toNat * sz))) else none
  | _, _ => none

def iaddrAA (n sz : Nat) (x i : AVal) : Option AVal :=
  match x, i with
  | .ptr (some (k, o)), .int _ j => if 0 ≤ j ∧ j < n then some (.ptr (some (k, o + j.toNat * sz))) else none
  | _, _ => none

def idxAA (n sz : Nat) (agg : Option Nat) (x i : AVal) : Option AVal :=
  match x, i with
  | .agg cs, .int _ j => if 0 ≤ j ∧ j < n then partA cs (j.toNat * sz) agg else none
  | _, _ => none

def idxSA (x i : AVal) : Option AVal :=
  match x, i with
  | .str s, .int _ j => if 0 ≤ j then (s[j.toNat]?).map fun b => .int .u8 b.toNat else none
  | _, _ => none

def nilckA (x : AVal) : Option AVal :=
  match x with
  | .ptr none | .nilIface | .nilFunc | .func (.method _) _ _ | .tok _ => none
  | x => some x

/-- A call, of a function by its number. -/
abbrev Caller := FuncId → List AVal → M AVal

def callVA (call : Caller) (f : AVal) (args : List AVal) : M AVal :=
  match f with
  | .func (.func g) first captured => call g (first ++ args ++ captured)
  | _ => M.fail

def IOp.ev (call : Caller) (ts : List AVal) : IOp → M AVal
  | .mov x => pure (x.ev ts)
  | .pick c a b => match c.ev ts with
    | .bool true => pure (a.ev ts)
    | .bool false => pure (b.ev ts)
    | _ => M.fail
  | .alloc zs e => do let k ← Hv.alloc (.cells zs e none); pure (.ptr (some (k, 0)))
  | .box e x => do let k ← Hv.alloc (.cells (x.ev ts).cells e none); pure (.ptr (some (k, 0)))
  | .build zs ps => do let cs ← M.ofOption (fillA ts ps zs); pure (.agg cs)
  | .bslice e sz zs ps n => do
    let cs ← M.ofOption (fillS ts sz ps (List.replicate n zs).flatten)
    let k ← Hv.alloc (.cells cs e none)
    pure (.slice (some (k, 0)) n n false)
  | .load g x => loadA g (x.ev ts)
  | .store sz x v => do storeA sz (x.ev ts) (v.ev ts).cells; pure aundef
  | .nilck x => M.ofOption (nilckA (x.ev ts))
  | .bin op x y => M.ofOption (binA op (x.ev ts) (y.ev ts))
  | .eq neg k x y => do let b ← eqA k (x.ev ts) (y.ev ts); pure (.bool (if neg then !b else b))
  | .un op x => M.ofOption (unA op (x.ev ts))
  | .cvInt k x => match x.ev ts with
    | .int _ n => pure (.int k (k.wrap n))
    | _ => M.fail
  | .cvStr x => match x.ev ts with
    | .str s => pure (.str s)
    | _ => M.fail
  | .cvBytes x => cvBytesA (x.ev ts)
  | .mkFunc fn fs cs => pure (.func fn (fs.map (Opd.ev ts)) (cs.map (Opd.ev ts)))
  | .mkMap => do let k ← Hv.alloc (.map [] [] 0); pure (.map (some k))
  | .mkSlice e sz bytes zs l c => mkSliceA e sz bytes zs (l.ev ts) (c.ev ts)
  | .sliceS x lo hi => M.ofOption (sliceSA ts (x.ev ts) lo hi)
  | .sliceL sz x lo hi mx => M.ofOption (sliceLA ts sz (x.ev ts) lo hi mx)
  | .sliceA n sz x lo hi mx => M.ofOption (sliceAA ts n sz (x.ev ts) lo hi mx)
  | .faddr off x => M.ofOption (faddrA off (x.ev ts))
  | .fld off g x => match x.ev ts with
    | .agg cs => M.ofOption (partA cs off g)
    | _ => M.fail
  | .iaddrS sz x i => M.ofOption (iaddrSA sz (x.ev ts) (i.ev ts))
  | .iaddrA n sz x i => M.ofOption (iaddrAA n sz (x.ev ts) (i.ev ts))
  | .idxA n sz g x i => M.ofOption (idxAA n sz g (x.ev ts) (i.ev ts))
  | .idxS x i => M.ofOption (idxSA (x.ev ts) (i.ev ts))
  | .lookup k z ok m x => lookupA k z ok (m.ev ts) (x.ev ts)
  | .mapup k m x v => do mapupA k (m.ev ts) (x.ev ts) (v.ev ts); pure aundef
  | .mdel k m x => do mdelA k (m.ev ts) (x.ev ts); pure aundef
  | .mclear m => do mclearA (m.ev ts); pure aundef
  | .sclear sz zs x => do sclearA sz zs (x.ev ts); pure aundef
  | .mrange m => rangeA (m.ev ts)
  | .mnext x => nextA (x.ev ts)
  | .mentry x => entryA (x.ev ts)
  | .extract x i => match x.ev ts with
    | .tuple vs => M.ofOption vs[i]?
    | _ => M.fail
  | .call f args => call f (args.map (Opd.ev ts))
  | .callV f args => callVA call (f.ev ts) (args.map (Opd.ev ts))
  | .lenS x => match x.ev ts with
    | .str s => pure (.int .i64 s.length)
    | .tok n => match Env.len n with
      | some m => pure (.tok m)
      | none => M.fail
    | _ => M.fail
  | .lenL x => match x.ev ts with
    | .slice _ n _ _ => pure (.int .i64 n)
    | .eslice => pure (.int .i64 0)
    | _ => M.fail
  | .lenM x => do let es ← entriesA (x.ev ts); pure (.int .i64 es.length)
  | .append e sz bytes s x => appendA e sz bytes (s.ev ts) (x.ev ts)
  | .copy sz d s => copyA sz (d.ev ts) (s.ev ts)
  | .max xs => M.ofOption (maxA true (xs.map (Opd.ev ts)))
  | .min xs => M.ofOption (maxA false (xs.map (Opd.ev ts)))
  | .aload k x => aloadA k (x.ev ts)
  | .astore x v => match v.ev ts with
    | .int k n => do storeA 1 (x.ev ts) [.int k n]; pure aundef
    | _ => M.fail
  | .acas x o n => acasA (x.ev ts) (o.ev ts) (n.ev ts)
  | .aadd k x d => aaddA k (x.ev ts) (d.ev ts)
  | .bad => M.fail

/-- Is the operation carried out? -/
def wantedA (g : Option (Nat × Bool)) (ts : List AVal) : Bool :=
  match g with
  | none => true
  | some (t, want) => match ts.getD t aundef with
    | .bool b => b == want
    | _ => false

/-! The slots that an instruction names. -/
def Opd.slots : Opd → List Nat
  | .t n => [n]
  | .c _ => []
def slotsO : Option Opd → List Nat
  | none => []
  | some x => x.slots
def slotsL (l : List Opd) : List Nat := l.flatMap Opd.slots

def IOp.slots : IOp → List Nat
  | .mov x | .box _ x | .load _ x | .nilck x | .un _ x | .cvInt _ x | .cvStr x | .cvBytes x | .faddr _ x | .fld _ _ x | .mclear x | .sclear _ _ x | .mrange x | .mnext x | .mentry x | .extract x _ | .lenS x | .lenL x | .lenM x | .aload _ x => x.slots
  | .pick c a b => c.slots ++ a.slots ++ b.slots
  | .build _ ps => ps.flatMap fun p => p.2.2.slots
  | .bslice _ _ _ ps _ => ps.flatMap fun p => p.2.slots
  | .store _ x v | .bin _ x v | .eq _ _ x v | .iaddrS _ x v | .iaddrA _ _ x v | .idxA _ _ _ x v | .idxS x v | .lookup _ _ _ x v | .mdel _ x v | .append _ _ _ x v | .copy _ x v | .astore x v | .aadd _ x v | .mkSlice _ _ _ _ x v => x.slots ++ v.slots
  | .mkFunc _ fs cs => slotsL fs ++ slotsL cs
  | .sliceS x lo hi => x.slots ++ slotsO lo ++ slotsO hi
  | .sliceL _ x lo hi mx | .sliceA _ _ x lo hi mx => x.slots ++ slotsO lo ++ slotsO hi ++ slotsO mx
  | .mapup _ m x v | .acas m x v => m.slots ++ x.slots ++ v.slots
  | .call _ args => slotsL args
  | .callV f args => f.slots ++ slotsL args
  | .max xs | .min xs => slotsL xs
  | .alloc .. | .mkMap | .bad => []

def IOper.slots (o : IOper) : List Nat :=
  o.op.slots ++ (match o.guard with | some (t, _) => [t] | none => [])

/-- Do two operations that may come in either order leave each other's slots alone? -/
def slotsApart (x y : IOper) : Bool :=
  (match x.dst with
   | some d => !(y.slots).contains d && y.dst != some d
   | none => true) &&
  (match y.dst with
   | some d => !(x.slots).contains d
   | none => true)

def putA (ts : List AVal) (dst : Option Nat) (v : AVal) : List AVal :=
  match dst with
  | none => ts
  | some d => ts.set d v

def IOper.step (call : Caller) (o : IOper) (ts : List AVal) : M (List AVal) :=
  if wantedA o.guard ts then do
    let v ← o.op.ev call ts
    pure (putA ts o.dst v)
  else pure (putA ts o.dst aundef)

def regionA (call : Caller) : List IOper → List AVal → M (List AVal)
  | [], ts => pure ts
  | o :: r, ts => do let ts ← o.step call ts; regionA call r ts

/-- What an operation looked at and wrote, apart. -/
def apart {α : Type} (m : M α) : M (α × Nat × Nat) := fun h =>
  match m { h with rd := 0, wr := 0 } with
  | none => none
  | some (a, h') => some ((a, h'.rd, h'.wr), { h' with rd := h.rd ||| h'.rd, wr := h.wr ||| h'.wr })

/-- Does what was done so far (each with what was looked at, what was written) hinder what is done now, but for those that must come ahead of it? -/
def clash (before : List Nat) (rd wr : Nat) : List (Nat × Nat × Nat) → Bool
  | [] => false
  | (i, rd', wr') :: rest => (!(before.contains i) && !((wr &&& (rd' ||| wr') == 0) && (wr' &&& rd == 0))) || clash before rd wr rest

def drawA (call : Caller) : List (IOper × List Nat) → Nat → List (Nat × Nat × Nat) → List AVal → M (List AVal)
  | [], _, _, ts => pure ts
  | (o, before) :: r, i, seen, ts => do
    let (ts, rd, wr) ← apart (o.step call ts)
    if clash before rd wr seen then M.fail else drawA call r (i + 1) ((i, rd, wr) :: seen) ts

inductive Ex where
  | normal | ret
  | exit (id : Nat)
  deriving Inhabited, DecidableEq

def resA (ts : List AVal) : IRes → M AVal
  | .t n => pure (ts.getD n aundef)
  | .cell n g => loadA g (ts.getD n aundef)

def resultsA (ts : List AVal) : List IRes → M (List AVal)
  | [] => pure []
  | r :: rs => do
    let v ← resA ts r
    let vs ← resultsA ts rs
    pure (v :: vs)

def tupled : List AVal → AVal
  | [v] => v
  | vs => .tuple vs

inductive Entry where
  | code (c : IFunc)
  | prim (m : List AVal → M AVal)

abbrev Tab := FuncId → Option Entry

def enterA (tab : Tab) (run : ICode → List AVal → M (Ex × List AVal)) (f : FuncId) (args : List AVal) : M AVal :=
  match tab f with
  | none => M.fail
  | some (.prim m) => m args
  | some (.code c) => do
    let (e, ts) ← run c.body (args ++ List.replicate (c.ntmps - args.length) aundef)
    match e with
    | .exit _ => M.fail
    | _ => do let vs ← resultsA ts c.results; pure (tupled vs)

def codeA (tab : Tab) : Nat → ICode → List AVal → M (Ex × List AVal)
  | 0, _, _ => M.fail
  | n + 1, c, ts =>
    match c with
    | .skip => pure (.normal, ts)
    | .region ops => do let ts ← regionA (enterA tab (codeA tab n)) ops ts; pure (.normal, ts)
    | .draw ops => do let ts ← drawA (enterA tab (codeA tab n)) ops 0 [] ts; pure (.normal, ts)
    | .seq a b => do
      let (e, ts) ← codeA tab n a ts
      match e with
      | .normal => codeA tab n b ts
      | e => pure (e, ts)
    | .cond x a b => match x.ev ts with
      | .bool true => codeA tab n a ts
      | .bool false => codeA tab n b ts
      | _ => M.fail
    | .block id a => do
      let (e, ts) ← codeA tab n a ts
      match e with
      | .exit i => if i = id then pure (.normal, ts) else pure (.exit i, ts)
      | e => pure (e, ts)
    | .loop a => do
      let (e, ts) ← codeA tab n a ts
      match e with
      | .normal => codeA tab n (.loop a) ts
      | e => pure (e, ts)
    | .exit id => pure (.exit id, ts)
    | .ret => pure (.ret, ts)
    | .bad => M.fail

def funcA (tab : Tab) (n : Nat) : Caller := enterA tab (codeA tab n)

end Go.Hv
