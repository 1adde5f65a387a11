/- The law SessionNil: true at every operation and session number; what is there is not turned. -/
import Derived.Test.YtmcofegggneofaaGreatHvK3
import Derived.Test.YtmcofegggneofaaGreatRows
import Derived.WalkKit
import Derived.ProofKit
import Derived.OpenShut
import Derived.ShutString
import Derived.ChangeOld
import Derived.Carry
import Derived.Below
import Derived.Lib.SmallJoins
namespace Go.Proofs.YtmcofegggneofaaGreat
open Go Go.Hv Go.Hv.Tryz Go.ChangeShapes Go.WideShapes Go.ChangeAt Go.RowKit Go.Joins
open Go.ChangeMaps (open_string shut_string)
set_option linter.unusedVariables false

/-- What the tests on a number came to: is it below 0, is it below 8? -/
def numCmp (neg small : Bool) (op : BinOp) (n : Nat) (k : IntKind) (c : Int) : Option Bool :=
  if k = .i64 ∧ n = 4 then
    match op with
    | .lss => if c = 0 then some neg else if c = 8 then some small else none
    | .geq => if c = 0 then some !neg else if c = 8 then some !small else none
    | _ => none
  else none

def numVal (k : Int) (s1 s2 : ByteArray) (m s : Int) : Nat → Value
  | 0 => .int .i64 k
  | 1 => .string s1
  | 2 => .string s2
  | 3 => .int .u64 m
  | 4 => .int .i64 s
  | _ => .int .i64 0

@[reducible] def numEnv (k : Int) (s1 s2 : ByteArray) (m s : Int) (neg small : Bool) (h1 : neg = decide (s < 0)) (h2 : small = decide (s < 8)) : Env where
  val := numVal k s1 s2 m s
  sort := by intro n; unfold numVal; split <;> rfl
  cmp := numCmp neg small
  cmpOk := by
    subst h1 h2
    intro op n k' c b h
    unfold numCmp at h
    split at h
    · rename_i hk
      obtain ⟨rfl, rfl⟩ := hk
      split at h
      · split at h
        · rename_i e; subst e; cases h; exact ⟨s, rfl, rfl⟩
        · split at h
          · rename_i e; subst e; cases h; exact ⟨s, rfl, rfl⟩
          · cases h
      · split at h
        · rename_i e; subst e; cases h; refine ⟨s, rfl, ?_⟩; simp only [cmpI, Option.some.injEq]; by_cases hs : s < 0 <;> simp [hs] <;> omega
        · split at h
          · rename_i e; subst e; cases h; refine ⟨s, rfl, ?_⟩; simp only [cmpI, Option.some.injEq]; by_cases hs : s < 8 <;> simp [hs] <;> omega
          · cases h
      · cases h
    · cases h
  empty := fun n => none
  emptyOk := by intro n b h; cases h
  len := fun n => none
  lenOk := by intro n m h; cases h

theorem mixed : Tryz.prog.follows .mixedOrders = true := Checked.mixed Tryz.checked

/-- The waking runs: with no primitive. -/
theorem wakes16 [Env] : okRun (funcA (tabOf tree []) 1000 16 [] h0) = true := by kernel_rfl

theorem woken16 [Env] : CallOk Tryz.prog 16 primTrue := prim_of_run (func_ok mixed (tabOk_of (ps := []) tree_ok trivial) 1000 16) wakes16

theorem tab16_ok [Env] : TabOk Tryz.prog (tabOf tree [(16, primTrue)]) := tabOk_of tree_ok ⟨⟨woken16, primTrue_local⟩, trivial⟩

section
variable (k : Int) (s1 s2 : ByteArray) (m s : Int)

/-- The run, at what the tests came to. -/
def Run4 (neg small : Bool) : Prop := ∀ (h1 : neg = decide (s < 0)) (h2 : small = decide (s < 8)),
  okRun (@funcA (numEnv k s1 s2 m s neg small h1 h2) (tabOf tree [(16, primTrue)]) 1000 4 [.agg [.tok 0, .tok 1, .tok 2, .tok 3], .tok 4] h0) = true

theorem run4_0 : Run4 k s1 s2 m s true false := by
  intro h1 h2
  kernel_rfl
theorem run4_1 : Run4 k s1 s2 m s true true := by
  intro h1 h2
  kernel_rfl
theorem run4_2 : Run4 k s1 s2 m s false false := by
  intro h1 h2
  kernel_rfl
theorem run4_3 : Run4 k s1 s2 m s false true := by
  intro h1 h2
  kernel_rfl

theorem run4 (neg small : Bool) : Run4 k s1 s2 m s neg small := by
  cases neg
  · cases small
    · exact run4_2 k s1 s2 m s
    · exact run4_3 k s1 s2 m s
  · cases small
    · exact run4_0 k s1 s2 m s
    · exact run4_1 k s1 s2 m s

theorem walk4 (w : World) :
    Calls Tryz.prog 4 #[.agg #[.int .i64 k, .string s1, .string s2, .int .u64 m], .int .i64 s] w fun e w' => e = .returned (.bool true) ∧ Below w.heap.size w w' := by
  letI E := numEnv k s1 s2 m s _ _ rfl rfl
  have ha : VRels rho0 [.agg [.tok 0, .tok 1, .tok 2, .tok 3], .tok 4] [.agg #[.int .i64 k, .string s1, .string s2, .int .u64 m], .int .i64 s] := by
    simp only [VRels, VRel]
    exact ⟨_, _, ⟨[.int .i64 k, .string s1, .string s2, .int .u64 m], ⟨_, _, rfl, ⟨_, _, rfl, ⟨_, _, rfl, ⟨_, _, rfl, rfl, rfl⟩, rfl⟩, rfl⟩, rfl⟩, rfl⟩, ⟨_, _, rfl, rfl, rfl⟩, rfl⟩
  exact (run_true (func_ok mixed tab16_ok 1000 4) ha (run4 k s1 s2 m s _ _ rfl rfl) w).2
end

theorem own : ownKnob Tryz.prog.godebug = none := by kernel_rfl
theorem laidOut : laidOutB Tryz.prog = true := by kernel_rfl

theorem opCells : Tryz.prog.cellsOf 24 = 4 := by kernel_rfl

set_option maxRecDepth 100000 in
theorem lifted4 (os : Os) (started : os.Started) (H : Type) (enc : TypeId × Value → H) :
    ReturnsInHanded {} Tryz.checked os 4 .any (Rows.sessionNilSpec.pre6 enc Tryz.prog Tryz.f4 Rows.sessionNilRow.domain false) (Rows.sessionNilSpec.post enc Tryz.prog Tryz.f4 false true false false) := by
  refine returnsInHanded_of_change (C := Tryz.checked) own started (by kernel_rfl) Tryz.func4
    (ChangeSpec.witness6 (enc := enc) (C := Tryz.checked) false ⟨#[], #[.agg #[.int .i64 0, .string ⟨#[]⟩, .string ⟨#[]⟩, .int .u64 0], .int .i64 0], []⟩ 8 (by kernel_rfl) (by kernel_rfl) (by kernel_rfl) (by kernel_rfl)) ?_
  intro W base args ds gs before hval0 hW hcnd _
  have hval : ∀ (j : Nat) t v, Tryz.f4.params[j]? = some t → args[j]? = some v → Value.okWide Tryz.prog W .any base t v := hval0
  have hW' := hW
  obtain ⟨p, q, hA0, hV, rfl, hfz, hnd⟩ := hW
  have hA : DataW.TrodAll enc Tryz.prog W 0 (fun _ => true) true Tryz.f4.params.toList args.toList ds p := hA0
  rw [Tryz.params4] at hA hval
  obtain ⟨v0, vs0, d0, ds0, p0, q0, hargs, rfl, rfl, h0, r0⟩ := trodAll_cons hA
  obtain ⟨v1, vs1, d1, ds1, p1, q1, rfl, rfl, rfl, h1, r1⟩ := trodAll_cons r0
  obtain ⟨rfl, rfl, rfl⟩ := trodAll_nil r1
  obtain rfl : args = #[v0, v1] := by cases args; simp_all
  obtain ⟨rfl, rfl⟩ := trodVars_none hV
  have k0 := h0
  have lt0 : ∀ x ∈ p0, x.block < W.heap.size := by obtain ⟨m, hm⟩ := k0; exact DataW.trod_lt m _ _ _ hm
  have k1 := h1
  have lt1 : ∀ x ∈ p1, x.block < W.heap.size := by obtain ⟨m, hm⟩ := k1; exact DataW.trod_lt m _ _ _ hm
  obtain ⟨c0, c1, c2, c3, y0, y1, y2, y3, n, rfl, _, _, e0, e1, e2, e3⟩ := open_agg4 Tryz.underlying24 (by kernel_rfl) opCells (hval 0 24 v0 rfl rfl) h0
  obtain ⟨a0, f0, _⟩ := DataW.trod_int Tryz.underlying3 e0
  obtain ⟨a1, f1, _⟩ := DataW.trod_string Tryz.underlying9 e1
  obtain ⟨a2, f2, _⟩ := DataW.trod_string Tryz.underlying9 e2
  obtain ⟨a3, f3, _⟩ := DataW.trod_int Tryz.underlying22 e3
  simp only [List.cons.injEq, and_true] at f0 f1 f2 f3
  subst f0 f1 f2 f3
  obtain ⟨b1, rfl⟩ := okWide_int Tryz.underlying3 (hval 1 3 v1 rfl rfl)
  clear hA0 hval0
  refine (walk4 a0 a1 a2 a3 b1 W).mono fun e W' ⟨he, bel⟩ => ?_
  subst he
  exact ⟨_, rfl, _, _, _, [], _, [], hW', trodAll_mk1 (shut_bool Tryz.underlying4 _), (trodAll_cons_mk (Below.trod laidOut (by kernel_rfl) (of_decide_eq_true (by kernel_rfl)) k0 bel lt0) (trodAll_cons_mk (Below.trod laidOut (by kernel_rfl) (of_decide_eq_true (by kernel_rfl)) k1 bel lt1) trodAll_mk0)), rfl, bel.frame _, fun h => by cases h⟩

theorem sessionNil : Rows.SessionNilSaid :=
  OpenClaim.holds_of_wide 4 Tryz.f4 rfl rfl rfl rfl rfl rfl rfl ⟨rfl, rfl, rfl, rfl, rfl⟩ rfl rfl rfl rfl rfl (by kernel_rfl) Tryz.func4 (by kernel_rfl)
    (of_decide_eq_true (by kernel_rfl)) (by unfold Func.isWrapper; first | (rw [if_pos (by decide +kernel)]; kernel_rfl) | (rw [if_neg (by decide +kernel)]; exact ⟨rfl, rfl⟩))
    (fun os started H enc _ => lifted4 os started H enc)

end Go.Proofs.YtmcofegggneofaaGreat
