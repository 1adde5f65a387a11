/- The abstract heap of an evaluator: values whose pointers name blocks by numbers of its own, and a store of blocks as a tree. No Go program is named here. -/
import GoSem.Core.World
import GoSem.Core.Ast
namespace Go.Hv

/-- A value over the abstract heap: a pointer names an abstract block. A slice's capacity is known, or (open) as many as its block turns out to bear, less what was cut ahead. -/
inductive AVal where
  | bool (b : Bool)
  | int (k : IntKind) (n : Int)
  | str (l : List UInt8)
  | ptr (a : Option (Nat × Nat))
  | slice (a : Option (Nat × Nat)) (len cap : Nat) (op : Bool)
  | eslice
  | map (r : Option Nat)
  | func (fn : Fn) (first captured : List AVal)
  | nilFunc
  | iface (t : TypeId) (v : AVal)
  | nilIface
  | agg (cells : List AVal)
  | tuple (vs : List AVal)
  | tok (n : Nat)
  deriving Inhabited

def aundef : AVal := .tuple []

/-- A comparison of whole numbers. -/
def cmpI (op : BinOp) (a b : Int) : Option Bool :=
  match op with
  | .eql => some (a == b)
  | .neq => some (a != b)
  | .lss => some (a < b)
  | .leq => some (a ≤ b)
  | .gtr => some (a > b)
  | .geq => some (a ≥ b)
  | _ => none

/-- Of which make a value is. -/
def sortOf : Value → Nat
  | .agg _ => 1
  | .tuple _ => 2
  | .bool _ => 3
  | _ => 0

/-- What the tokens stand for: values of one cell, but truth values; and what is known of them: comparisons with numbers, with texts, and which token is a text's length. -/
class Env where
  val : Nat → Value
  sort : ∀ n, sortOf (val n) = 0
  cmp : BinOp → Nat → IntKind → Int → Option Bool
  cmpOk : ∀ op n k c b, cmp op n k c = some b → ∃ i, val n = .int k i ∧ cmpI op i c = some b
  empty : Nat → Option Bool
  emptyOk : ∀ n b, empty n = some b → ∃ l : List UInt8, val n = .string ⟨l.toArray⟩ ∧ b = l.isEmpty
  len : Nat → Option Nat
  lenOk : ∀ n m, len n = some m → ∃ s : ByteArray, val n = .string s ∧ val m = .int .i64 s.size

/-- The cells that a value takes. -/
def AVal.cells : AVal → List AVal
  | .agg cs => cs
  | v => [v]

def AVal.oneCell : AVal → Bool
  | .agg _ | .tuple _ => false
  | _ => true

/-- A block: a row of cells (op: n: it may bear more than is told here, and its elements take n cells each), a map (with its entries' stamps and its clock), or what steps through a map. -/
inductive AObj where
  | cells (c : List AVal) (elem : TypeId) (op : Option Nat)
  | map (es : List (AVal × AVal)) (bs : List Nat) (clk : Nat)
  | iter (m : Option Nat) (since : Nat) (seen : List Nat) (last : Nat)
  deriving Inhabited

/-- The store: a tree by the digits of the block's number. -/
inductive Tree where
  | nil
  | node (v : Option AObj) (l r : Tree)
  deriving Inhabited

def Tree.get : Tree → Nat → Option AObj
  | .nil, _ => none
  | .node v l r, k => if k = 0 then v else if k % 2 = 1 then l.get (k / 2) else r.get (k / 2 - 1)

def Tree.val : Tree → Option AObj
  | .nil => none
  | .node v _ _ => v
def Tree.left : Tree → Tree
  | .nil => .nil
  | .node _ l _ => l
def Tree.right : Tree → Tree
  | .nil => .nil
  | .node _ _ r => r

def Tree.put : (fuel : Nat) → Tree → Nat → Option AObj → Tree
  | 0, t, _, _ => t
  | f + 1, t, k, o =>
    if k = 0 then .node o t.left t.right
    else if k % 2 = 1 then .node t.val (Tree.put f t.left (k / 2) o) t.right
    else .node t.val t.left (Tree.put f t.right (k / 2 - 1) o)

/-- How deep a tree may be: its numbers are below 2^depth - 1. -/
def depth : Nat := 40

theorem Tree.get_nil (k : Nat) : Tree.nil.get k = none := rfl

theorem Tree.get_eq (t : Tree) (k : Nat) :
    t.get k = if k = 0 then t.val else if k % 2 = 1 then t.left.get (k / 2) else t.right.get (k / 2 - 1) := by
  cases t with
  | nil => simp [Tree.get, Tree.val, Tree.left, Tree.right]
  | node v l r => simp [Tree.get, Tree.val, Tree.left, Tree.right]

theorem Tree.get_put : ∀ (f : Nat) (t : Tree) (k : Nat) (o : Option AObj) (j : Nat), k < 2 ^ f → (Tree.put (f + 1) t k o).get j = if j = k then o else t.get j := by
  intro f
  induction f with
  | zero =>
    intro t k o j h
    obtain rfl : k = 0 := by simpa using h
    simp only [Tree.put, if_true, Tree.get]
    by_cases hj : j = 0
    · simp [hj]
    · simp only [hj, if_false]; rw [Tree.get_eq t j]; simp [hj]
  | succ f ih =>
    intro t k o j h
    rw [Tree.put]
    by_cases hk : k = 0
    · subst hk
      simp only [if_true, Tree.get]
      by_cases hj : j = 0
      · simp [hj]
      · simp only [hj, if_false]; rw [Tree.get_eq t j]; simp [hj]
    · simp only [hk, if_false]
      have h2 : k / 2 < 2 ^ f := by rw [Nat.pow_succ] at h; omega
      by_cases ho : k % 2 = 1
      · simp only [ho, if_true, Tree.get]
        rw [ih _ _ _ _ h2, Tree.get_eq t j]
        by_cases hj : j = 0
        · have : ¬ (0 = k) := by omega
          simp [hj, this]
        · simp only [hj, if_false]
          by_cases hj1 : j % 2 = 1
          · simp only [hj1, if_true]
            by_cases he : j = k
            · simp [he]
            · have : ¬ (j / 2 = k / 2) := by omega
              simp [he, this]
          · have : ¬ (j = k) := by omega
            simp [hj1, this]
      · simp only [ho, if_false, Tree.get]
        rw [ih _ _ _ _ (by omega), Tree.get_eq t j]
        by_cases hj : j = 0
        · have : ¬ (0 = k) := by omega
          simp [hj, this]
        · simp only [hj, if_false]
          by_cases hj1 : j % 2 = 1
          · have : ¬ (j = k) := by omega
            simp [hj1, this]
          · simp only [hj1, if_false]
            by_cases he : j = k
            · simp [he]
            · have : ¬ (j / 2 - 1 = k / 2 - 1) := by omega
              simp [he, this]

/-- The heap: the next block's number, the blocks that were looked at and those that were written (as digits), the blocks. -/
structure Heap where
  next : Nat
  rd : Nat
  wr : Nat
  tree : Tree
  deriving Inhabited

def Heap.get (h : Heap) (k : Nat) : Option AObj := h.tree.get k

def M (α : Type) : Type := Heap → Option (α × Heap)

namespace M
variable {α β : Type}
@[inline] def pure (a : α) : M α := fun h => some (a, h)
@[inline] def bind (m : M α) (f : α → M β) : M β := fun h =>
  match m h with
  | none => none
  | some (a, h') => f a h'
def fail : M α := fun _ => none
def ofOption (o : Option α) : M α := fun h => match o with | none => none | some a => some (a, h)
instance : Monad M := { pure := M.pure, bind := M.bind }
end M

/-- The block is looked at. -/
def look (k : Nat) : M AObj := fun h =>
  match h.tree.get k with
  | none => none
  | some o => some (o, { h with rd := h.rd ||| 2 ^ k })

/-- The block is written; it is there. -/
def write (k : Nat) (o : AObj) : M Unit := fun h =>
  if k < 2 ^ depth then some ((), { h with wr := h.wr ||| 2 ^ k, tree := Tree.put (depth + 1) h.tree k (some o) }) else none

/-- The block is no more. -/
def kill (k : Nat) : M Unit := fun h =>
  if k < 2 ^ depth then some ((), { h with wr := h.wr ||| 2 ^ k, tree := Tree.put (depth + 1) h.tree k none }) else none

/-- A new block. -/
def alloc (o : AObj) : M Nat := fun h =>
  if h.next < 2 ^ depth then
    some (h.next, { next := h.next + 1, rd := h.rd, wr := h.wr ||| 2 ^ h.next, tree := Tree.put (depth + 1) h.tree h.next (some o) })
  else none

end Go.Hv
