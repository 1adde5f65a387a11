/- The model's code as the evaluator's. -/
import Derived.Test.YtjoemiadbccljaaGreatHvB
import GoSem.Core.Made
import GoSem.Core.Region
import GoSem.Op.Equal
namespace Go.Hv

def cvals (f : Value → Option AVal) : List Value → Option (List AVal)
  | [] => some []
  | v :: r => match f v, cvals f r with
    | some a, some as => some (a :: as)
    | _, _ => none

/-- A constant. -/
def cval : Nat → Value → Option AVal
  | 0, _ => none
  | _ + 1, .bool b => some (.bool b)
  | _ + 1, .int k n => some (.int k n)
  | _ + 1, .string s => some (.str s.data.toList)
  | _ + 1, .pointer none => some (.ptr none)
  | _ + 1, .slice none n c => some (.slice none n c false)
  | _ + 1, .map none => some (.map none)
  | _ + 1, .nilFunc => some .nilFunc
  | _ + 1, .nilIface => some .nilIface
  | n + 1, .agg vs => (cvals (cval n) vs.toList).map .agg
  | n + 1, .tuple vs => (cvals (cval n) vs.toList).map .tuple
  | _, _ => none

def cconst (v : Value) : Option AVal := cval 4 v

def copd : Operand → Option Opd
  | .tmp t => some (.t t)
  | .const v => (cconst v).map .c
  | .func f => some (.c (.func (.func f) [] []))
  | .global _ => none

def copds : List Operand → Option (List Opd)
  | [] => some []
  | x :: r => match copd x, copds r with
    | some a, some as => some (a :: as)
    | _, _ => none

def copdO : Option Operand → Option (Option Opd)
  | none => some none
  | some x => (copd x).map some

section
variable (P : Program)

def sizeT (t : TypeId) : Option Nat := (P.info? t).map (·.size)
def zeroT (t : TypeId) : Option (List AVal) := (((P.info? t).bind (·.zero)).bind cconst).map AVal.cells
def zeroVT (t : TypeId) : Option AVal := ((P.info? t).bind (·.zero)).bind cconst
def isAggT (t : TypeId) : Option Bool := (P.underlying t).map fun
  | .struct _ | .array _ _ => true
  | _ => false
/-- How a variable of the type is read: whole (some n), or one cell. -/
def aggT (t : TypeId) : Option (Option Nat) :=
  match isAggT P t, sizeT P t with
  | some true, some n => some (some n)
  | some false, some _ => some none
  | _, _ => none

def eqKFs (rec : TypeId → Option EqK) : List Field → Option (List (Nat × Option Nat × EqK))
  | [] => some []
  | f :: fs =>
    if f.name = "_" then eqKFs rec fs else
    match aggT P f.type, rec f.type, eqKFs rec fs with
    | some g, some k, some r => some ((f.offset, g, k) :: r)
    | _, _, _ => none

def eqKT : Nat → TypeId → Option EqK
  | 0, _ => none
  | d + 1, t =>
    match P.underlying t with
    | some .bool => some .bool
    | some (.int _) => some .int
    | some .string => some .str
    | some (.pointer e) => match sizeT P e with
      | some (_ + 1) => some .ptr
      | _ => none
    | some (.slice _) => some .slice
    | some (.map _ _) => some .map
    | some (.func _ _ _) => some .func
    | some (.struct fs) => if P.stoodInHeld t then none else (eqKFs P (eqKT d) fs.toList).map .struct
    | _ => none

def cparts (place : Nat → Option (Nat × Nat)) : List (Nat × Operand) → Option (List (Nat × Nat × Opd))
  | [] => some []
  | (i, x) :: r => match place i, copd x, cparts place r with
    | some (off, sz), some a, some as => some ((off, sz, a) :: as)
    | _, _, _ => none

def cpartsS : List (Nat × Operand) → Option (List (Nat × Opd))
  | [] => some []
  | (i, x) :: r => match copd x, cpartsS r with
    | some a, some as => some ((i, a) :: as)
    | _, _ => none

/-- Where the fields lie, and how many cells they take. -/
def placesT : List Field → Option (List (Nat × Nat))
  | [] => some []
  | f :: fs => match sizeT P f.type, placesT fs with
    | some n, some r => some ((f.offset, n) :: r)
    | _, _ => none

def atomicOp (name : String) (args : List Opd) : Option IOp :=
  match args with
  | [x] => if name = "sync/atomic.LoadUint64" then some (.aload .u64 x) else if name = "sync/atomic.LoadInt64" then some (.aload .i64 x) else none
  | [x, v] =>
    if name = "sync/atomic.StoreUint64" then some (.astore x v)
    else if name = "sync/atomic.AddUint64" then some (.aadd .u64 x v)
    else if name = "sync/atomic.AddInt64" then some (.aadd .i64 x v) else none
  | [x, o, n] => if name = "sync/atomic.CompareAndSwapUint64" then some (.acas x o n) else none
  | _ => none

def cbuiltin (b : Builtin) (ts : List TypeId) (xs : List Opd) : Option IOp :=
  match b, ts, xs with
  | .append, [s, x], [a, c] =>
    match P.underlying s, P.underlying x with
    | some (.slice e), some d =>
      match P.info? e, d with
      | some i, .slice _ | some i, .string => match zeroT P e with
        | some zs => if zs.length = i.size ∧ 0 < i.size then some (.append e i.size i.bytes a c) else none
        | none => none
      | _, _ => none
    | _, _ => none
  | .len, [t], [a] =>
    match P.underlying t with
    | some .string => some (.lenS a)
    | some (.slice _) => some (.lenL a)
    | some (.map _ _) => some (.lenM a)
    | some (.array n _) => some (.mov (.c (.int .i64 n)))
    | _ => none
  | .copy, [s, _], [a, c] =>
    match P.underlying s with
    | some (.slice e) => (sizeT P e).map fun n => .copy n a c
    | _ => none
  | .delete, [t, _], [a, c] =>
    match P.underlying t with
    | some (.map k _) => (eqKT P 5 k).map fun q => .mdel q a c
    | _ => none
  | .clear, [t], [a] =>
    match P.underlying t with
    | some (.map _ _) => some (.mclear a)
    | some (.slice e) => match zeroT P e, sizeT P e with
      | some zs, some n => if zs.length = n then some (.sclear n zs a) else none
      | _, _ => none
    | _ => none
  | .max, _, xs => some (.max xs)
  | .min, _, xs => some (.min xs)
  | _, _, _ => none

def ccall (c : Call) : Option IOp :=
  match copds c.args.toList with
  | none => none
  | some xs =>
    match c.callee with
    | .builtin b => cbuiltin P b c.argTypes.toList xs
    | .value (.func f) =>
      match P.funcs[f]? with
      | none => none
      | some fn => if fn.name == "runtime.NumGoroutine" then none else if fn.body.isNone then (if fn.origin == "" then atomicOp fn.name xs else none) else some (.call f xs)
    | .value f => (copd f).map fun g => .callV g xs
    | .invoke _ _ => none

def cmapup (t : TypeId) (m k v : Operand) : Option IOp :=
  match copd m, copd k, copd v, P.underlying t with
  | some a, some b, some c, some (.map kt _) => (eqKT P 5 kt).map fun q => .mapup q a b c
  | _, _, _, _ => none

def cop? (o : Oper) : Option IOp :=
  match o.op with
  | .move x | .assign x => (copd x).map .mov
  | .pick c a b => match copd c, copd a, copd b with
    | some c, some a, some b => some (.pick c a b)
    | _, _, _ => none
  | .alloc e => (zeroT P e).map fun zs => .alloc zs e
  | .box e x => (copd x).map fun a => .box e a
  | .build t parts =>
    match zeroT P t, P.underlying t with
    | some zs, some (.struct fs) => match placesT P fs.toList with
      | some ps => (cparts (ps[·]?) parts.toList).map fun q => .build zs q
      | none => none
    | some zs, some (.array _ e) => match sizeT P e with
      | some n => (cparts (fun i => some (i * n, n)) parts.toList).map fun q => .build zs q
      | none => none
    | _, _ => none
  | .buildSlice t len parts =>
    match P.underlying t with
    | some (.slice e) => match sizeT P e, zeroT P e, cpartsS parts.toList with
      | some n, some zs, some q => if len * n ≤ 2 ^ 24 ∧ zs.length = n ∧ 0 < n then some (.bslice e n zs q len) else none
      | _, _, _ => none
    | _ => none
  | .load t a => match aggT P t, copd a with
    | some g, some x => some (.load g x)
    | _, _ => none
  | .store t a v => match sizeT P t, copd a, copd v with
    | some n, some x, some y => some (.store n x y)
    | _, _, _ => none
  | .nilCheck x => (copd x).map .nilck
  | .binOp op t x y _ => match copd x, copd y with
    | some a, some b =>
      match op with
      | .eql | .neq =>
        match eqKT P 5 t with
        | some .int | some .str => some (.bin op a b)
        | some (.struct fs) => if P.eqGuardType P.depth t then none else some (.eq (op == .neq) (.struct fs) a b)
        | some k => some (.eq (op == .neq) k a b)
        | none => none
      | _ => some (.bin op a b)
    | _, _ => none
  | .unOp op _ x => (copd x).map fun a => .un op a
  | .convert s d x => match copd x, P.underlying s, P.underlying d with
    | some a, some (.int _), some (.int k) => some (.cvInt k a)
    | some a, some .string, some .string => some (.cvStr a)
    | some a, some (.slice e), some .string => match P.underlying e with
      | some (.int .u8) => some (.cvBytes a)
      | _ => none
    | _, _, _ => none
  | .makeFunc fn first captured => match copds first.toList, copds captured.toList with
    | some a, some b => some (.mkFunc fn a b)
    | _, _ => none
  | .makeMap _ none => some .mkMap
  | .makeSlice t l c =>
    match P.underlying t with
    | some (.slice e) => match P.info? e, zeroT P e, copd l, copd c with
      | some i, some zs, some a, some b => if zs.length = i.size ∧ 0 < i.size then some (.mkSlice e i.size i.bytes zs a b) else none
      | _, _, _, _ => none
    | _ => none
  | .slice t x lo hi mx => match copd x, copdO lo, copdO hi, copdO mx with
    | some a, some l, some h, some m =>
      match P.underlying t with
      | some .string => if m.isSome then none else some (.sliceS a l h)
      | some (.slice e) => (sizeT P e).map fun n => .sliceL n a l h m
      | some (.array k e) => (sizeT P e).map fun n => .sliceA k n a l h m
      | _ => none
    | _, _, _, _ => none
  | .fieldAddr s x f => match copd x, P.underlying s with
    | some a, some (.struct fs) => match fs[f]? with
      | some fd => match sizeT P fd.type with
        | some (_ + 1) => some (.faddr fd.offset a)
        | _ => none
      | none => none
    | _, _ => none
  | .field s x f => match copd x, P.underlying s with
    | some a, some (.struct fs) => match fs[f]? with
      | some fd => (aggT P fd.type).map fun g => .fld fd.offset g a
      | none => none
    | _, _ => none
  | .indexAddr t x i => match copd x, copd i with
    | some a, some b => match P.underlying t with
      | some (.slice e) => (sizeT P e).map fun n => .iaddrS n a b
      | some (.array k e) => (sizeT P e).map fun n => .iaddrA k n a b
      | _ => none
    | _, _ => none
  | .index t x i => match copd x, copd i with
    | some a, some b => match P.underlying t with
      | some .string => some (.idxS a b)
      | some (.array k e) => match sizeT P e, aggT P e with
        | some n, some g => some (.idxA k n g a b)
        | _, _ => none
      | _ => none
    | _, _ => none
  | .lookup t x i ok => match copd x, copd i, P.underlying t with
    | some a, some b, some (.map k e) => match eqKT P 5 k, zeroVT P e with
      | some q, some z => some (.lookup q z ok a b)
      | _, _ => none
    | _, _, _ => none
  | .mapUpdate t m k v | .insert t m k v => cmapup P t m k v
  | .extract t i => (copd t).map fun a => .extract a i
  | .range t x => match copd x, P.underlying t with
    | some a, some (.map _ _) => some (.mrange a)
    | _, _ => none
  | .next x s => if s then none else (copd x).map .mnext
  | .entry x => (copd x).map .mentry
  | .call c => ccall P c
  | _ => none

def cop (o : Oper) : IOp := (cop? P o).getD .bad

/-- The guard: by the slot that the operation it asks has. -/
def cguard (ops : Array Oper) (o : Oper) : Option (Option (Nat × Bool)) :=
  match o.guard with
  | none => some none
  | some (j, want) => match (ops[j]?).bind (·.dst) with
    | some d => some (some (d, want))
    | none => none

def coper (ops : Array Oper) (o : Oper) : Option IOper :=
  (cguard ops o).map fun g => { dst := o.dst, op := cop P o, guard := g }

def copers (ops : Array Oper) : List Oper → Option (List IOper)
  | [] => some []
  | o :: r => match coper P ops o, copers ops r with
    | some a, some as => some (a :: as)
    | _, _ => none

/-- The operations that must come ahead of one: those that bind it, and theirs. -/
def aheadOf (acc : List (List Nat)) (o : Oper) : List Nat :=
  (o.after.toList.filter (Region.binds .any ·)).flatMap fun e => e.on :: acc.getD e.on []

def aheads : List Oper → List (List Nat) → List (List Nat)
  | [], acc => acc
  | o :: r, acc => aheads r (acc ++ [(aheadOf acc o).eraseDups])

def drawOk (ops : Array Oper) (l : List IOper) (before : List (List Nat)) : Bool :=
  (List.range ops.size).all fun j => match ops[j]?, l[j]? with
    | some oj, some xj =>
      (oj.after.toList.all fun e => !Region.binds .any e || e.on < j && (before.getD j []).contains e.on && (before.getD e.on []).all fun k => (before.getD j []).contains k) &&
      ((before.getD j []).all fun k => oj.after.toList.any fun e => Region.binds .any e && (e.on == k || (before.getD e.on []).contains k)) &&
      (List.range j).all fun i => (before.getD j []).contains i || (match l[i]? with | none => false | some xi => slotsApart xi xj)
    | _, _ => false

def cdraw (ops : Array Oper) : Option ICode :=
  let before := aheads ops.toList []
  match copers P ops ops.toList with
  | some l => if l.length == ops.size && before.length == ops.size && drawOk ops l before then some (.draw (l.zip before)) else none
  | none => none

def ccode : Code → ICode
  | .skip => .skip
  | .region _ ops d =>
    if d then (cdraw P ops).getD .bad else match copers P ops ops.toList with
      | some l => .region l
      | none => .bad
  | .seq a b => .seq (ccode a) (ccode b)
  | .cond c a b => match copd c with
    | some x => .cond x (ccode a) (ccode b)
    | none => .bad
  | .block id a => .block id (ccode a)
  | .loop a => .loop (ccode a)
  | .exit id => .exit id
  | .ret => .ret
  | _ => .bad

def cress : List ResultVar → Option (List IRes)
  | [] => some []
  | .tmp t :: r => (cress r).map (.t t :: ·)
  | .cell a t :: r => match aggT P t, cress r with
    | some g, some rs => some (.cell a g :: rs)
    | _, _ => none

/-- A function. -/
def cfunc (fn : Func) : Option IFunc :=
  match fn.body, cress P fn.results.toList with
  | some c, some rs => if fn.name == "runtime.NumGoroutine" then none else some { ntmps := fn.ntmps, results := rs, body := ccode P c }
  | _, _ => none

end
end Go.Hv
