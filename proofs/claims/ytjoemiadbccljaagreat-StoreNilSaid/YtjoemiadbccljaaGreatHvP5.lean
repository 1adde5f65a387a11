/- Tokens with told comparisons, out of a list of facts; a call that runs to a truth value; a call of one token, told. -/
import Derived.Test.YtjoemiadbccljaaGreatHvP1
namespace Go.Hv
open Go Go.RowKit

/-- What a comparison of a token with a number came to. -/
structure Fact where
  op : BinOp
  n : Nat
  k : IntKind
  c : Int
  b : Bool

def Fact.Holds (vals : Nat → Value) (f : Fact) : Prop := ∃ i, vals f.n = .int f.k i ∧ cmpI f.op i f.c = some f.b

def factCmp : List Fact → BinOp → Nat → IntKind → Int → Option Bool
  | [], _, _, _, _ => none
  | f :: r, op, n, k, c => if f.op = op ∧ f.n = n ∧ f.k = k ∧ f.c = c then some f.b else factCmp r op n k c

theorem factCmp_ok {vals : Nat → Value} : ∀ {fs : List Fact}, (∀ f ∈ fs, f.Holds vals) → ∀ {op n k c b}, factCmp fs op n k c = some b → ∃ i, vals n = .int k i ∧ cmpI op i c = some b
  | [], _, _, _, _, _, _, h => by simp [factCmp] at h
  | f :: r, hf, op, n, k, c, b, h => by
    rw [factCmp] at h
    split at h
    · rename_i e
      obtain ⟨rfl, rfl, rfl, rfl⟩ := e
      cases h
      exact hf f (List.mem_cons_self ..)
    · exact factCmp_ok (fun f hm => hf f (List.mem_cons_of_mem _ hm)) h

/-- The values of a list, by their places. -/
def valsOf : List Value → Nat → Value
  | [], _ => .int .i64 0
  | v :: _, 0 => v
  | _ :: r, n + 1 => valsOf r n

theorem valsOf_sort : ∀ {l : List Value}, (l.all fun v => sortOf v == 0) = true → ∀ n, sortOf (valsOf l n) = 0
  | [], _, n => by simp [valsOf, sortOf]
  | v :: r, h, 0 => by simp at h; simp [valsOf, h.1]
  | v :: r, h, n + 1 => by
    simp only [List.all_cons, Bool.and_eq_true] at h
    rw [valsOf]
    exact valsOf_sort h.2 n

@[reducible] def factEnv (l : List Value) (hs : (l.all fun v => sortOf v == 0) = true) (fs : List Fact) (hf : ∀ f ∈ fs, f.Holds (valsOf l)) : Env where
  val := valsOf l
  sort := valsOf_sort hs
  cmp := factCmp fs
  cmpOk := fun _ _ _ _ _ h => factCmp_ok hf h
  empty := fun _ => none
  emptyOk := fun _ _ h => by cases h
  len := fun _ => none
  lenOk := fun _ _ h => by cases h

/-- Did a run end with the truth value? -/
def okRunB (b : Bool) (r : Option (AVal × Heap)) : Bool :=
  match r with
  | some (.bool b', _) => b' == b
  | _ => false

theorem okRunB_iff {b : Bool} {r : Option (AVal × Heap)} (h : okRunB b r = true) : ∃ h', r = some (.bool b, h') := by
  unfold okRunB at h
  split at h
  · rename_i b' h'
    rw [beq_iff_eq] at h
    subst h
    exact ⟨_, rfl⟩
  · cases h

variable [Env]

/-- What a run from the empty heap says of the call. -/
theorem run_bool {P : Program} {f : FuncId} {m : Prim} (hm : CallOk P f m) {args : List AVal} {Args : List Value} {b : Bool} (ha : VRels rho0 args Args) (hr : okRunB b (m args h0) = true) (w : World) :
    Callable P f ∧ Calls P f Args.toArray w fun e w' => e = .returned (.bool b) ∧ Below w.heap.size w w' := by
  obtain ⟨h', he⟩ := okRunB_iff hr
  obtain ⟨_, h2, h3⟩ := hm args (.bool b) h0 h' rho0 w Args he (hrel0 w) (fun _ _ _ => rfl) ha
  refine ⟨h2, h3.mono fun e w' ⟨V, ρ', e1, hg, hv⟩ => ?_⟩
  simp only [VRel] at hv
  subst hv
  exact ⟨e1, hg.os, hg.tape, hg.output, hg.size, fun k hk => hg.keep k hk fun k' o q h => (by rw [h0_get] at h; cases h)⟩

/-- A call with one token: told. -/
def tokPrim (n : Nat) (b : Bool) : Prim := fun args => match args with
  | [.tok m] => if m = n then pure (.bool b) else M.fail
  | _ => M.fail

omit [Env] in
theorem tokPrim_local (n : Nat) (b : Bool) (args : List AVal) : Local (tokPrim n b args) := by
  unfold tokPrim
  split
  · exact local_ite (local_pure _) local_fail
  · exact local_fail

theorem tokPrim_ok {P : Program} {f : FuncId} {n : Nat} {b : Bool} (hf : Callable P f) (hc : ∀ w, Calls P f #[Env.val n] w fun e w' => e = .returned (.bool b) ∧ Below w.heap.size w w') : CallOk P f (tokPrim n b) := by
  intro args v h h' ρ w Args he hr hfree ha
  unfold tokPrim at he
  split at he
  case h_2 => exact (fail_some he).elim
  rename_i m
  by_cases hm : m = n
  case neg => rw [if_neg hm] at he; exact (fail_some he).elim
  subst hm
  rw [if_pos rfl] at he
  obtain ⟨rfl, rfl⟩ := pure_some he
  simp only [VRels, VRel] at ha
  obtain ⟨_, _, rfl, rfl, rfl⟩ := ha
  exact ⟨Nat.le_refl _, hf, (hc w).mono fun e w' ⟨e1, hb⟩ => ⟨.bool b, ρ, e1, goes_below hr hb, by simp only [VRel]⟩⟩

end Go.Hv
