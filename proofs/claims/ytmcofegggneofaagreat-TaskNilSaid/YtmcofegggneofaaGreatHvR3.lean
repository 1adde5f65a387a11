/- The law TaskNil: true at every operation, slot and list of words; what is there is not turned. -/
import Derived.Test.YtmcofegggneofaaGreatHvK3
import Derived.Test.YtmcofegggneofaaGreatRows
import Derived.WalkKit
import Derived.ProofKit
import Derived.OpenShut
import Derived.ShutString
import Derived.ChangeOld
import Derived.Carry
import Derived.Below
import Derived.Lib.SmallJoins
namespace Go.Proofs.YtmcofegggneofaaGreat
open Go Go.Hv Go.Hv.Tryz Go.ChangeShapes Go.WideShapes Go.ChangeAt Go.RowKit Go.Joins
open Go.ChangeMaps (open_string shut_string)

/-- What the tests on an operation came to: its kind below 1, above 4, 2; its key empty, above 64; its value above 128. -/
structure OpTests where
  low : Bool
  high : Bool
  two : Bool
  void : Bool
  long : Bool
  wide : Bool

def opCmp (b : OpTests) (op : BinOp) (n : Nat) (k : IntKind) (c : Int) : Option Bool :=
  if k = .i64 then
    match op with
    | .lss => if n = 0 ∧ c = 1 then some b.low else none
    | .gtr => if n = 0 ∧ c = 4 then some b.high else if n = 6 ∧ c = 64 then some b.long else if n = 7 ∧ c = 128 then some b.wide else none
    | .eql => if n = 0 ∧ c = 2 then some b.two else if n = 6 ∧ c = 0 then some b.void else none
    | _ => none
  else none

def opVal (k : Int) (s1 s2 : ByteArray) (m s : Int) (a : Option Addr) (len cap : Nat) : Nat → Value
  | 0 => .int .i64 k
  | 1 => .string s1
  | 2 => .string s2
  | 3 => .int .u64 m
  | 4 => .int .i64 s
  | 5 => .slice a len cap
  | 6 => .int .i64 s1.size
  | 7 => .int .i64 s2.size
  | _ => .int .i64 0

def opTests (k : Int) (s1 s2 : ByteArray) : OpTests := ⟨decide (k < 1), decide (k > 4), k == 2, (s1.size : Int) == 0, decide ((s1.size : Int) > 64), decide ((s2.size : Int) > 128)⟩

@[reducible] def opEnv (k : Int) (s1 s2 : ByteArray) (m s : Int) (a : Option Addr) (len cap : Nat) (b : OpTests) (hb : b = opTests k s1 s2) : Env where
  val := opVal k s1 s2 m s a len cap
  sort := by intro n; unfold opVal; split <;> rfl
  cmp := opCmp b
  cmpOk := by
    subst hb
    intro op n k' c b h
    unfold opCmp at h
    split at h
    · rename_i hk
      subst hk
      split at h
      · split at h
        · rename_i e; obtain ⟨rfl, rfl⟩ := e; cases h; exact ⟨k, rfl, rfl⟩
        · cases h
      · split at h
        · rename_i e; obtain ⟨rfl, rfl⟩ := e; cases h; exact ⟨k, rfl, rfl⟩
        · split at h
          · rename_i e; obtain ⟨rfl, rfl⟩ := e; cases h; exact ⟨_, rfl, rfl⟩
          · split at h
            · rename_i e; obtain ⟨rfl, rfl⟩ := e; cases h; exact ⟨_, rfl, rfl⟩
            · cases h
      · split at h
        · rename_i e; obtain ⟨rfl, rfl⟩ := e; cases h; exact ⟨k, rfl, rfl⟩
        · split at h
          · rename_i e; obtain ⟨rfl, rfl⟩ := e; cases h; exact ⟨_, rfl, rfl⟩
          · cases h
      · cases h
    · cases h
  empty := fun n => if n = 1 then some b.void else none
  emptyOk := by
    subst hb
    intro n b h
    split at h
    · rename_i e; subst e; cases h
      refine ⟨s1.data.toList, rfl, ?_⟩
      show ((s1.data.size : Int) == 0) = _
      cases h1 : s1.data.toList with
      | nil => simp [← Array.length_toList, h1]
      | cons x r => simp [← Array.length_toList, h1]; omega
    · cases h
  len := fun n => if n = 1 then some 6 else if n = 2 then some 7 else none
  lenOk := by
    intro n m h
    split at h
    · rename_i e; subst e; cases h; exact ⟨s1, rfl, rfl⟩
    · split at h
      · rename_i e; subst e; cases h; exact ⟨s2, rfl, rfl⟩
      · cases h

theorem mixed : Go.Proofs.Tryz.prog.follows .mixedOrders = true := Checked.mixed Go.Proofs.Tryz.checked

/-- The waking runs: with no primitive. -/
theorem wakes5 [Env] : okRun (funcA (tabOf tree []) 1000 5 [] h0) = true := by kernel_rfl

theorem woken5 [Env] : CallOk Go.Proofs.Tryz.prog 5 primTrue := prim_of_run (func_ok mixed (tabOk_of (ps := []) tree_ok trivial) 1000 5) wakes5

theorem tab5_ok [Env] : TabOk Go.Proofs.Tryz.prog (tabOf tree [(5, primTrue)]) := tabOk_of tree_ok ⟨⟨woken5, primTrue_local⟩, trivial⟩

section
variable (k : Int) (s1 s2 : ByteArray) (m s : Int) (a : Option Addr) (len cap : Nat)

/-- The run, at what the tests came to. -/
def Run3 (b : OpTests) : Prop := ∀ hb : b = opTests k s1 s2,
  okRun (@funcA (opEnv k s1 s2 m s a len cap b hb) (tabOf tree [(5, primTrue)]) 200 3 [.agg [.tok 0, .tok 1, .tok 2, .tok 3], .tok 4, .tok 5] h0) = true

theorem run3_0 (b2 b3 b4 b5 b6 : Bool) : Run3 k s1 s2 m s a len cap ⟨true, b2, b3, b4, b5, b6⟩ := by
  intro hb
  kernel_rfl
theorem run3_1 (b3 b4 b5 b6 : Bool) : Run3 k s1 s2 m s a len cap ⟨false, true, b3, b4, b5, b6⟩ := by
  intro hb
  kernel_rfl
theorem run3_2 (b3 b5 b6 : Bool) : Run3 k s1 s2 m s a len cap ⟨false, false, b3, true, b5, b6⟩ := by
  intro hb
  kernel_rfl
theorem run3_3 (b3 b6 : Bool) : Run3 k s1 s2 m s a len cap ⟨false, false, b3, false, true, b6⟩ := by
  intro hb
  kernel_rfl
theorem run3_4 : Run3 k s1 s2 m s a len cap ⟨false, false, true, false, false, true⟩ := by
  intro hb
  kernel_rfl
theorem run3_5 : Run3 k s1 s2 m s a len cap ⟨false, false, true, false, false, false⟩ := by
  intro hb
  kernel_rfl
theorem run3_6 (b6 : Bool) : Run3 k s1 s2 m s a len cap ⟨false, false, false, false, false, b6⟩ := by
  intro hb
  kernel_rfl

theorem run3 (b : OpTests) : Run3 k s1 s2 m s a len cap b := by
  obtain ⟨b1, b2, b3, b4, b5, b6⟩ := b
  cases b1
  · cases b2
    · cases b4
      · cases b5
        · cases b3
          · exact run3_6 k s1 s2 m s a len cap _
          · cases b6
            · exact run3_5 k s1 s2 m s a len cap
            · exact run3_4 k s1 s2 m s a len cap
        · exact run3_3 k s1 s2 m s a len cap _ _
      · exact run3_2 k s1 s2 m s a len cap _ _ _
    · exact run3_1 k s1 s2 m s a len cap _ _ _ _
  · exact run3_0 k s1 s2 m s a len cap _ _ _ _ _

end

theorem walk3 (k : Int) (s1 s2 : ByteArray) (m s : Int) (a : Option Addr) (len cap : Nat) (w : World) :
    Calls Go.Proofs.Tryz.prog 3 #[.agg #[.int .i64 k, .string s1, .string s2, .int .u64 m], .int .i64 s, .slice a len cap] w fun e w' => e = .returned (.bool true) ∧ Below w.heap.size w w' := by
  letI E := opEnv k s1 s2 m s a len cap _ rfl
  have ha : VRels rho0 [.agg [.tok 0, .tok 1, .tok 2, .tok 3], .tok 4, .tok 5] [.agg #[.int .i64 k, .string s1, .string s2, .int .u64 m], .int .i64 s, .slice a len cap] := by
    simp only [VRels, VRel]
    exact ⟨_, _, ⟨[.int .i64 k, .string s1, .string s2, .int .u64 m], ⟨_, _, rfl, ⟨_, _, rfl, ⟨_, _, rfl, ⟨_, _, rfl, rfl, rfl⟩, rfl⟩, rfl⟩, rfl⟩, rfl⟩, ⟨_, _, rfl, ⟨_, _, rfl, rfl, rfl⟩, rfl⟩, rfl⟩
  exact (run_true (func_ok mixed tab5_ok 200 3) ha (run3 k s1 s2 m s a len cap _ rfl) w).2

end Go.Proofs.YtmcofegggneofaaGreat
